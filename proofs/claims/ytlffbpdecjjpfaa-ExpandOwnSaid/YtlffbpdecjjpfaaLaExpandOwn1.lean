/- The statement ExpandOwn of the given program is proved: whatever is handed in, the law answers true, changes nothing that was there, and comes back. No condition. -/
import Derived.Test.YtlffbpdecjjpfaaFn3
set_option linter.unusedVariables false
namespace Go.Sh
open Go.Proofs
/-! ### ExpandOwn -/
set_option maxRecDepth 100000 in
theorem expandOwnLaw : LawV T [24, 26, 3] XOwnF := by
  intro vs h
  obtain ⟨x0, x1, x2, rfl, hx0, hx1, hx2⟩ := All2.three h
  obtain ⟨n0, E0, rfl, _, hE0⟩ := net_of hx0
  obtain ⟨a1, b1, rfl, ha1, hb1⟩ := two_of hx1
  obtain ⟨a2, rfl, ha2⟩ := int_of hx2
  exact ⟨_, conF_at (fun _ _ _ _ _ => rfl) (a := ((n0, E0), (a1, b1), a2)) (by first | trivial | assumption | exact hE0 | exact hl1 | exact ⟨ha1, hb1⟩)⟩
set_option maxRecDepth 100000 in
theorem expandOwnLifted (os : Os) (started : os.Started) (H : Type) (enc : TypeId × Value → H) :
    ReturnsInHanded {} Try.checked os 6 .any (Ytlffbpdecjjpfaa.Rows.expandOwnSpec.pre6 enc Try.prog Try.f6 Ytlffbpdecjjpfaa.Rows.expandOwnRow.domain false) (Ytlffbpdecjjpfaa.Rows.expandOwnSpec.post enc Try.prog Try.f6 false true false false) :=
  law_row Try.func6 (by kernel_rfl) rfl (ts := [24, 26, 3]) (by kernel_rfl) (by kernel_rfl) (by kernel_rfl) (by kernel_rfl)
    (fun H ds h => by
      match ds, h with
      | [_, _, _], _ => exact ⟨rfl, rfl, rfl⟩)
    XOwn_ok expandOwnLaw os started H enc {}
    (ChangeSpec.witness6 (enc := enc) (C := Try.checked) false ⟨#[], #[.agg #[.int .i64 0, .slice none 0 0], .agg #[.int .i64 0, .int .i64 0], .int .i64 0], []⟩ 8 (by kernel_rfl) (by kernel_rfl) (by kernel_rfl) (by kernel_rfl))
theorem expandOwnOver : Ytlffbpdecjjpfaa.Rows.expandOwnRow.holds Ytlffbpdecjjpfaa.Try.pinned (OpenSpec.ofChange Ytlffbpdecjjpfaa.Rows.expandOwnSpec) :=
  OpenClaim.holds_of_wide 6 Try.f6 rfl rfl rfl rfl rfl rfl rfl ⟨rfl, rfl, rfl, rfl, rfl⟩ rfl rfl rfl rfl rfl (by kernel_rfl) Try.func6 (by kernel_rfl)
    (of_decide_eq_true (by kernel_rfl)) (by unfold Func.isWrapper; first | (rw [if_pos (by decide +kernel)]; kernel_rfl) | (rw [if_neg (by decide +kernel)]; exact ⟨rfl, rfl⟩))
    (fun os started H enc _ => expandOwnLifted os started H enc)
end Go.Sh
namespace Go.Proofs.Ytlffbpdecjjpfaa
theorem expandOwn_holds : Rows.ExpandOwnSaid := Go.Sh.expandOwnOver
#print axioms expandOwn_holds
end Go.Proofs.Ytlffbpdecjjpfaa
