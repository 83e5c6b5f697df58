/- The statement ExpandLifts of the given program is proved: whatever is handed in, the law answers true, changes nothing that was there, and comes back. No condition. -/
import Derived.Test.YtlffbpdecjjpfaaFn3
set_option linter.unusedVariables false
namespace Go.Sh
open Go.Proofs
/-! ### ExpandLifts -/
set_option maxRecDepth 100000 in
theorem expandLiftsLaw : LawV T [24, 25, 40] XLiftsF := by
  intro vs h
  obtain ⟨x0, x1, x2, rfl, hx0, hx1, hx2⟩ := All2.three h
  obtain ⟨n0, E0, rfl, _, hE0⟩ := net_of hx0
  obtain ⟨l1, rfl, hl1⟩ := steps_of hx1
  obtain ⟨k2, Ts2, S2, rfl, _, hn2⟩ := sub_nums hx2
  exact ⟨_, conF_at (fun _ _ _ _ _ => rfl) (a := ((n0, E0), l1, (k2, Ts2, S2))) (by first | trivial | assumption | exact hE0 | exact hl1 | exact hn2)⟩
set_option maxRecDepth 100000 in
theorem expandLiftsLifted (os : Os) (started : os.Started) (H : Type) (enc : TypeId × Value → H) :
    ReturnsInHanded {} Try.checked os 4 .any (Ytlffbpdecjjpfaa.Rows.expandLiftsSpec.pre6 enc Try.prog Try.f4 Ytlffbpdecjjpfaa.Rows.expandLiftsRow.domain false) (Ytlffbpdecjjpfaa.Rows.expandLiftsSpec.post enc Try.prog Try.f4 false true false false) :=
  law_row Try.func4 (by kernel_rfl) rfl (ts := [24, 25, 40]) (by kernel_rfl) (by kernel_rfl) (by kernel_rfl) (by kernel_rfl)
    (fun H ds h => by
      match ds, h with
      | [_, _, _], _ => exact ⟨rfl, rfl, rfl⟩)
    XLifts_ok expandLiftsLaw os started H enc {}
    (ChangeSpec.witness6 (enc := enc) (C := Try.checked) false ⟨#[], #[.agg #[.int .i64 0, .slice none 0 0], .slice none 0 0, .agg #[.int .i64 0, .slice none 0 0, .slice none 0 0]], []⟩ 8 (by kernel_rfl) (by kernel_rfl) (by kernel_rfl) (by kernel_rfl))
theorem expandLiftsOver : Ytlffbpdecjjpfaa.Rows.expandLiftsRow.holds Ytlffbpdecjjpfaa.Try.pinned (OpenSpec.ofChange Ytlffbpdecjjpfaa.Rows.expandLiftsSpec) :=
  OpenClaim.holds_of_wide 4 Try.f4 rfl rfl rfl rfl rfl rfl rfl ⟨rfl, rfl, rfl, rfl, rfl⟩ rfl rfl rfl rfl rfl (by kernel_rfl) Try.func4 (by kernel_rfl)
    (of_decide_eq_true (by kernel_rfl)) (by unfold Func.isWrapper; first | (rw [if_pos (by decide +kernel)]; kernel_rfl) | (rw [if_neg (by decide +kernel)]; exact ⟨rfl, rfl⟩))
    (fun os started H enc _ => expandLiftsLifted os started H enc)
end Go.Sh
namespace Go.Proofs.Ytlffbpdecjjpfaa
theorem expandLifts_holds : Rows.ExpandLiftsSaid := Go.Sh.expandLiftsOver
#print axioms expandLifts_holds
end Go.Proofs.Ytlffbpdecjjpfaa
