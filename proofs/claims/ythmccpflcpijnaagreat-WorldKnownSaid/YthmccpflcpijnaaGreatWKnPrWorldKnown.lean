/- WorldKnown answers true: the statement of the row, whatever the memory that it finds. -/
import Derived.Test.YthmccpflcpijnaaGreatWKnRunWorldKnown
import Derived.Test.YthmccpflcpijnaaGreatWKnCert
import Derived.Test.YthmccpflcpijnaaGreatWKnFWorldKnown
namespace Go.Proofs.YthmccpflcpijnaaGreat.worldKnown
open Go Go.ChangeShapes Go.WideShapes Go.ChangeAt Go.RowKit

theorem walk (w : World) : Calls Tryz.prog 6 #[] w fun e w' => e = .returned (.bool true) ∧ Below w.heap.size w w' :=
  Go.Ev.law_calls kn.mixed tabOk Go.Ev.runWorldKnown (Go.Ev.Sim.empty _ w 0) .nil fun _ _ ⟨_, _, _, h, _⟩ => by cases h

set_option maxRecDepth 100000 in
theorem lifted (os : Os) (started : os.Started) (H : Type) (enc : TypeId × Value → H) :
    ReturnsInHanded {} Tryz.checked os 6 .any (Rows.worldKnownSpec.pre6 enc Tryz.prog Tryz.f6 Rows.worldKnownRow.domain false) (Rows.worldKnownSpec.post enc Tryz.prog Tryz.f6 false true false false) := by
  refine returnsInHanded_of_change (C := Tryz.checked) kn.own started (by as_aux_lemma => kernel_rfl) Tryz.func6
    (ChangeSpec.witness6 (enc := enc) (C := Tryz.checked) false ⟨#[], #[], []⟩ 8 (by as_aux_lemma => kernel_rfl) (by as_aux_lemma => kernel_rfl) (by as_aux_lemma => kernel_rfl) (by as_aux_lemma => kernel_rfl)) ?_
  intro W base args ds gs before hval0 hW hcnd _
  have hW' := hW
  obtain ⟨p, q, hA0, hV, rfl, hfz, hnd⟩ := hW
  have hA : DataW.TrodAll enc Tryz.prog W 0 (fun _ => true) true Tryz.f6.params.toList args.toList ds p := hA0
  rw [Tryz.params6] at hA
  obtain ⟨rfl, rfl, rfl⟩ := trodAll_none hA
  obtain ⟨rfl, rfl⟩ := trodVars_none hV
  clear hA0 hval0
  refine (walk W).mono fun e W' ⟨he, hb⟩ => ?_
  subst he
  exact ⟨_, rfl, Go.Ev.post_below (pa := []) (pv := []) hW' hb (fun _ _ _ => (trodAll_cons_mk (shut_bool Tryz.underlying4 _) trodAll_mk0)) (fun _ _ => rfl) (fun _ _ => rfl)
    (ok_one (t := 4) (by as_aux_lemma => kernel_rfl) rfl (okWide_bool_mk Tryz.underlying4 _))⟩

theorem over : Rows.worldKnownRow.holds Tryz.pinned (OpenSpec.ofChange Rows.worldKnownSpec) :=
  OpenClaim.holds_of_wide 6 Tryz.f6 rfl rfl rfl rfl rfl rfl rfl ⟨rfl, rfl, rfl, rfl, rfl⟩ rfl rfl rfl rfl rfl nfn Tryz.func6 closed
    inst wrap
    (fun os started H enc _ => lifted os started H enc)

theorem proved : Rows.WorldKnownSaid := over

end Go.Proofs.YthmccpflcpijnaaGreat.worldKnown
