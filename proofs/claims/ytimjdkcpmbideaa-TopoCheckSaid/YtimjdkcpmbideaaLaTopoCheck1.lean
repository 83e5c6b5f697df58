/- The statement TopoCheck of the given program is proved: whatever is handed in, the law answers true, changes nothing that was there, and comes back. No condition. -/
import Derived.Test.YtimjdkcpmbideaaFn2
set_option linter.unusedVariables false
namespace Go.Sh
open Go.Proofs
/-! ### TopoCheck -/
set_option maxRecDepth 100000 in
theorem topoCheckLaw : LawV T [24, 40] TCheckF := by
  intro vs h
  obtain ⟨x0, x1, rfl, hx0, hx1⟩ := All2.two h
  obtain ⟨n0, E0, rfl, _, hE0⟩ := net_of hx0
  obtain ⟨k1, Ts1, S1, rfl, _⟩ := sub_of hx1
  exact ⟨_, conF_at (fun _ _ _ _ _ => rfl) (a := ((n0, E0), (k1, Ts1, S1))) (by first | trivial | assumption | exact hE0 | exact hl1)⟩
set_option maxRecDepth 100000 in
theorem topoCheckLifted (os : Os) (started : os.Started) (H : Type) (enc : TypeId × Value → H) :
    ReturnsInHanded {} Try.checked os 7 .any (Ytimjdkcpmbideaa.Rows.topoCheckSpec.pre6 enc Try.prog Try.f7 Ytimjdkcpmbideaa.Rows.topoCheckRow.domain false) (Ytimjdkcpmbideaa.Rows.topoCheckSpec.post enc Try.prog Try.f7 false true false false) :=
  law_row Try.func7 (by kernel_rfl) rfl (ts := [24, 40]) (by kernel_rfl) (by kernel_rfl) (by kernel_rfl) (by kernel_rfl)
    (fun H ds h => by
      match ds, h with
      | [_, _], _ => exact ⟨rfl, rfl, rfl⟩)
    TCheck_ok topoCheckLaw os started H enc {}
    (ChangeSpec.witness6 (enc := enc) (C := Try.checked) false ⟨#[], #[.agg #[.int .i64 0, .slice none 0 0], .agg #[.int .i64 0, .slice none 0 0, .slice none 0 0]], []⟩ 8 (by kernel_rfl) (by kernel_rfl) (by kernel_rfl) (by kernel_rfl))
theorem topoCheckOver : Ytimjdkcpmbideaa.Rows.topoCheckRow.holds Ytimjdkcpmbideaa.Try.pinned (OpenSpec.ofChange Ytimjdkcpmbideaa.Rows.topoCheckSpec) :=
  OpenClaim.holds_of_wide 7 Try.f7 rfl rfl rfl rfl rfl rfl rfl ⟨rfl, rfl, rfl, rfl, rfl⟩ rfl rfl rfl rfl rfl (by kernel_rfl) Try.func7 (by kernel_rfl)
    (of_decide_eq_true (by kernel_rfl)) (by unfold Func.isWrapper; first | (rw [if_pos (by decide +kernel)]; kernel_rfl) | (rw [if_neg (by decide +kernel)]; exact ⟨rfl, rfl⟩))
    (fun os started H enc _ => topoCheckLifted os started H enc)
end Go.Sh
namespace Go.Proofs.Ytimjdkcpmbideaa
theorem topoCheck_holds : Rows.TopoCheckSaid := Go.Sh.topoCheckOver
#print axioms topoCheck_holds
end Go.Proofs.Ytimjdkcpmbideaa
