/- The statement TopoGrows of the given program is proved: whatever is handed in, the law answers true, changes nothing that was there, and comes back. No condition. -/
import Derived.Test.YtimjdkcpmbideaaFn2
set_option linter.unusedVariables false
namespace Go.Sh
open Go.Proofs
/-! ### TopoGrows -/
set_option maxRecDepth 100000 in
theorem topoGrowsLaw : LawV T [24, 26, 40] TGrowsF := by
  intro vs h
  obtain ⟨x0, x1, x2, rfl, hx0, hx1, hx2⟩ := All2.three h
  obtain ⟨n0, E0, rfl, _, hE0⟩ := net_of hx0
  obtain ⟨a1, b1, rfl, ha1, hb1⟩ := two_of hx1
  obtain ⟨k2, Ts2, S2, rfl, _⟩ := sub_of hx2
  exact ⟨_, conF_at (fun _ _ _ _ _ => rfl) (a := ((n0, E0), (a1, b1), (k2, Ts2, S2))) (by first | trivial | assumption | exact hE0 | exact hl1)⟩
set_option maxRecDepth 100000 in
theorem topoGrowsLifted (os : Os) (started : os.Started) (H : Type) (enc : TypeId × Value → H) :
    ReturnsInHanded {} Try.checked os 12 .any (Ytimjdkcpmbideaa.Rows.topoGrowsSpec.pre6 enc Try.prog Try.f12 Ytimjdkcpmbideaa.Rows.topoGrowsRow.domain false) (Ytimjdkcpmbideaa.Rows.topoGrowsSpec.post enc Try.prog Try.f12 false true false false) :=
  law_row Try.func12 (by kernel_rfl) rfl (ts := [24, 26, 40]) (by kernel_rfl) (by kernel_rfl) (by kernel_rfl) (by kernel_rfl)
    (fun H ds h => by
      match ds, h with
      | [_, _, _], _ => exact ⟨rfl, rfl, rfl⟩)
    TGrows_ok topoGrowsLaw os started H enc {}
    (ChangeSpec.witness6 (enc := enc) (C := Try.checked) false ⟨#[], #[.agg #[.int .i64 0, .slice none 0 0], .agg #[.int .i64 0, .int .i64 0], .agg #[.int .i64 0, .slice none 0 0, .slice none 0 0]], []⟩ 8 (by kernel_rfl) (by kernel_rfl) (by kernel_rfl) (by kernel_rfl))
theorem topoGrowsOver : Ytimjdkcpmbideaa.Rows.topoGrowsRow.holds Ytimjdkcpmbideaa.Try.pinned (OpenSpec.ofChange Ytimjdkcpmbideaa.Rows.topoGrowsSpec) :=
  OpenClaim.holds_of_wide 12 Try.f12 rfl rfl rfl rfl rfl rfl rfl ⟨rfl, rfl, rfl, rfl, rfl⟩ rfl rfl rfl rfl rfl (by kernel_rfl) Try.func12 (by kernel_rfl)
    (of_decide_eq_true (by kernel_rfl)) (by unfold Func.isWrapper; first | (rw [if_pos (by decide +kernel)]; kernel_rfl) | (rw [if_neg (by decide +kernel)]; exact ⟨rfl, rfl⟩))
    (fun os started H enc _ => topoGrowsLifted os started H enc)
end Go.Sh
namespace Go.Proofs.Ytimjdkcpmbideaa
theorem topoGrows_holds : Rows.TopoGrowsSaid := Go.Sh.topoGrowsOver
#print axioms topoGrows_holds
end Go.Proofs.Ytimjdkcpmbideaa
