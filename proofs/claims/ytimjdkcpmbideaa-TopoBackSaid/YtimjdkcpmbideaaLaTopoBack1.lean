/- The statement TopoBack of the given program is proved: whatever is handed in, the law answers true, changes nothing that was there, and comes back. No condition. -/
import Derived.Test.YtimjdkcpmbideaaFn2
set_option linter.unusedVariables false
namespace Go.Sh
open Go.Proofs
/-! ### TopoBack -/
set_option maxRecDepth 100000 in
theorem topoBackLaw : LawV T [24] TBackF := by
  intro vs h
  obtain ⟨x0, rfl, hx0⟩ := All2.one h
  obtain ⟨n0, E0, rfl, _, hE0⟩ := net_of hx0
  exact ⟨_, conF_at (fun _ _ _ _ _ => rfl) (a := (n0, E0)) (by first | trivial | assumption | exact hE0 | exact hl1)⟩
set_option maxRecDepth 100000 in
theorem topoBackLifted (os : Os) (started : os.Started) (H : Type) (enc : TypeId × Value → H) :
    ReturnsInHanded {} Try.checked os 9 .any (Ytimjdkcpmbideaa.Rows.topoBackSpec.pre6 enc Try.prog Try.f9 Ytimjdkcpmbideaa.Rows.topoBackRow.domain false) (Ytimjdkcpmbideaa.Rows.topoBackSpec.post enc Try.prog Try.f9 false true false false) :=
  law_row Try.func9 (by kernel_rfl) rfl (ts := [24]) (by kernel_rfl) (by kernel_rfl) (by kernel_rfl) (by kernel_rfl)
    (fun H ds h => by
      match ds, h with
      | [_], _ => exact ⟨rfl, rfl, rfl⟩)
    TBack_ok topoBackLaw os started H enc {}
    (ChangeSpec.witness6 (enc := enc) (C := Try.checked) false ⟨#[], #[.agg #[.int .i64 0, .slice none 0 0]], []⟩ 8 (by kernel_rfl) (by kernel_rfl) (by kernel_rfl) (by kernel_rfl))
theorem topoBackOver : Ytimjdkcpmbideaa.Rows.topoBackRow.holds Ytimjdkcpmbideaa.Try.pinned (OpenSpec.ofChange Ytimjdkcpmbideaa.Rows.topoBackSpec) :=
  OpenClaim.holds_of_wide 9 Try.f9 rfl rfl rfl rfl rfl rfl rfl ⟨rfl, rfl, rfl, rfl, rfl⟩ rfl rfl rfl rfl rfl (by kernel_rfl) Try.func9 (by kernel_rfl)
    (of_decide_eq_true (by kernel_rfl)) (by unfold Func.isWrapper; first | (rw [if_pos (by decide +kernel)]; kernel_rfl) | (rw [if_neg (by decide +kernel)]; exact ⟨rfl, rfl⟩))
    (fun os started H enc _ => topoBackLifted os started H enc)
end Go.Sh
namespace Go.Proofs.Ytimjdkcpmbideaa
theorem topoBack_holds : Rows.TopoBackSaid := Go.Sh.topoBackOver
#print axioms topoBack_holds
end Go.Proofs.Ytimjdkcpmbideaa
