/- The statement BagsLess of the given program is proved: whatever is handed in, the law answers true, changes nothing that was there, and comes back. No condition. -/
import Derived.Test.YtcihmgopaadpfaaFn3
set_option linter.unusedVariables false
namespace Go.Sh
open Go.Proofs
/-! ### BagsLess -/
set_option maxRecDepth 100000 in
theorem bagsLessLaw : LawV T [24, 35, 51] BLessF := by
  intro vs h
  obtain ⟨x0, x1, x2, rfl, hx0, hx1, hx2⟩ := All2.three h
  obtain ⟨n0, E0, rfl, _, hE0⟩ := net_of hx0
  obtain ⟨S1, U1, rfl⟩ := bags_of hx1
  obtain ⟨a2, b2, rfl, ha2, hb2⟩ := two_of hx2
  exact ⟨_, conF_at (fun _ _ _ _ _ => rfl) (a := ((n0, E0), (S1, U1), (a2, b2))) (by first | trivial | assumption | exact hE0 | exact hl1)⟩
set_option maxRecDepth 100000 in
theorem bagsLessLifted (os : Os) (started : os.Started) (H : Type) (enc : TypeId × Value → H) :
    ReturnsInHanded {} Try.checked os 14 .any (Ytcihmgopaadpfaa.Rows.bagsLessSpec.pre6 enc Try.prog Try.f14 Ytcihmgopaadpfaa.Rows.bagsLessRow.domain false) (Ytcihmgopaadpfaa.Rows.bagsLessSpec.post enc Try.prog Try.f14 false true false false) :=
  law_row Try.func14 (by kernel_rfl) rfl (ts := [24, 35, 51]) (by kernel_rfl) (by kernel_rfl) (by kernel_rfl) (by kernel_rfl)
    (fun H ds h => by
      match ds, h with
      | [_, _, _], _ => exact ⟨rfl, rfl, rfl⟩)
    BLess_ok bagsLessLaw os started H enc {}
    (ChangeSpec.witness6 (enc := enc) (C := Try.checked) false ⟨#[], #[.agg #[.int .i64 0, .slice none 0 0], .agg #[.slice none 0 0, .slice none 0 0], .agg #[.int .i64 0, .int .i64 0]], []⟩ 8 (by kernel_rfl) (by kernel_rfl) (by kernel_rfl) (by kernel_rfl))
theorem bagsLessOver : Ytcihmgopaadpfaa.Rows.bagsLessRow.holds Ytcihmgopaadpfaa.Try.pinned (OpenSpec.ofChange Ytcihmgopaadpfaa.Rows.bagsLessSpec) :=
  OpenClaim.holds_of_wide 14 Try.f14 rfl rfl rfl rfl rfl rfl rfl ⟨rfl, rfl, rfl, rfl, rfl⟩ rfl rfl rfl rfl rfl (by kernel_rfl) Try.func14 (by kernel_rfl)
    (of_decide_eq_true (by kernel_rfl)) (by unfold Func.isWrapper; first | (rw [if_pos (by decide +kernel)]; kernel_rfl) | (rw [if_neg (by decide +kernel)]; exact ⟨rfl, rfl⟩))
    (fun os started H enc _ => bagsLessLifted os started H enc)
end Go.Sh
namespace Go.Proofs.Ytcihmgopaadpfaa
theorem bagsLess_holds : Rows.BagsLessSaid := Go.Sh.bagsLessOver
#print axioms bagsLess_holds
end Go.Proofs.Ytcihmgopaadpfaa
