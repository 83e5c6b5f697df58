/- The statement ExpandWrong of the given program is proved: whatever is handed in, the law answers true, changes nothing that was there, and comes back. No condition. -/
import Derived.Test.YtlffbpdecjjpfaaFn2
set_option linter.unusedVariables false
namespace Go.Sh
open Go.Proofs
/-! ### ExpandWrong -/
set_option maxRecDepth 100000 in
theorem expandWrongLaw : LawV T [24, 25, 26] XWrongF := by
  intro vs h
  obtain ⟨x0, x1, x2, rfl, hx0, hx1, hx2⟩ := All2.three h
  obtain ⟨n0, E0, rfl, _, hE0⟩ := net_of hx0
  obtain ⟨l1, rfl, hl1⟩ := steps_of hx1
  obtain ⟨a2, b2, rfl, ha2, hb2⟩ := two_of hx2
  exact ⟨_, conF_at (fun _ _ _ _ _ => rfl) (a := ((n0, E0), l1, (a2, b2))) (by first | trivial | assumption | exact hE0 | exact hl1 | exact ⟨ha2, hb2⟩)⟩
set_option maxRecDepth 100000 in
theorem expandWrongLifted (os : Os) (started : os.Started) (H : Type) (enc : TypeId × Value → H) :
    ReturnsInHanded {} Try.checked os 5 .any (Ytlffbpdecjjpfaa.Rows.expandWrongSpec.pre6 enc Try.prog Try.f5 Ytlffbpdecjjpfaa.Rows.expandWrongRow.domain false) (Ytlffbpdecjjpfaa.Rows.expandWrongSpec.post enc Try.prog Try.f5 false true false false) :=
  law_row Try.func5 (by kernel_rfl) rfl (ts := [24, 25, 26]) (by kernel_rfl) (by kernel_rfl) (by kernel_rfl) (by kernel_rfl)
    (fun H ds h => by
      match ds, h with
      | [_, _, _], _ => exact ⟨rfl, rfl, rfl⟩)
    XWrong_ok expandWrongLaw os started H enc {}
    (ChangeSpec.witness6 (enc := enc) (C := Try.checked) false ⟨#[], #[.agg #[.int .i64 0, .slice none 0 0], .slice none 0 0, .agg #[.int .i64 0, .int .i64 0]], []⟩ 8 (by kernel_rfl) (by kernel_rfl) (by kernel_rfl) (by kernel_rfl))
theorem expandWrongOver : Ytlffbpdecjjpfaa.Rows.expandWrongRow.holds Ytlffbpdecjjpfaa.Try.pinned (OpenSpec.ofChange Ytlffbpdecjjpfaa.Rows.expandWrongSpec) :=
  OpenClaim.holds_of_wide 5 Try.f5 rfl rfl rfl rfl rfl rfl rfl ⟨rfl, rfl, rfl, rfl, rfl⟩ rfl rfl rfl rfl rfl (by kernel_rfl) Try.func5 (by kernel_rfl)
    (of_decide_eq_true (by kernel_rfl)) (by unfold Func.isWrapper; first | (rw [if_pos (by decide +kernel)]; kernel_rfl) | (rw [if_neg (by decide +kernel)]; exact ⟨rfl, rfl⟩))
    (fun os started H enc _ => expandWrongLifted os started H enc)
end Go.Sh
namespace Go.Proofs.Ytlffbpdecjjpfaa
theorem expandWrong_holds : Rows.ExpandWrongSaid := Go.Sh.expandWrongOver
#print axioms expandWrong_holds
end Go.Proofs.Ytlffbpdecjjpfaa
