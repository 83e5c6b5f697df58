/- The statement ReduceAny of the given program is proved: whatever is handed in, the law answers true, changes nothing that was there, and comes back. No condition. -/
import Derived.Test.YtddlfeclbffloaaFn3
set_option linter.unusedVariables false
namespace Go.Sh
open Go.Proofs
/-! ### ReduceAny -/
set_option maxRecDepth 100000 in
theorem reduceAnyLaw : LawV T [24, 38] AnyLF := by
  intro vs h
  obtain ⟨x0, x1, rfl, hx0, hx1⟩ := All2.two h
  obtain ⟨n0, E0, rfl, _, hE0⟩ := net_of hx0
  obtain ⟨l1, rfl, hl1, _⟩ := row_of hx1
  exact ⟨_, conF_at (fun _ _ _ _ _ => rfl) (a := ((n0, E0), l1)) (by first | trivial | assumption | exact hE0 | exact hl1)⟩
set_option maxRecDepth 100000 in
theorem reduceAnyLifted (os : Os) (started : os.Started) (H : Type) (enc : TypeId × Value → H) :
    ReturnsInHanded {} Try.checked os 14 .any (Ytddlfeclbffloaa.Rows.reduceAnySpec.pre6 enc Try.prog Try.f14 Ytddlfeclbffloaa.Rows.reduceAnyRow.domain false) (Ytddlfeclbffloaa.Rows.reduceAnySpec.post enc Try.prog Try.f14 false true false false) :=
  law_row Try.func14 (by kernel_rfl) rfl (ts := [24, 38]) (by kernel_rfl) (by kernel_rfl) (by kernel_rfl) (by kernel_rfl)
    (fun H ds h => by
      match ds, h with
      | [_, _], _ => exact ⟨rfl, rfl, rfl⟩)
    AnyL_ok reduceAnyLaw os started H enc {}
    (ChangeSpec.witness6 (enc := enc) (C := Try.checked) false ⟨#[], #[.agg #[.int .i64 0, .slice none 0 0], .slice none 0 0], []⟩ 8 (by kernel_rfl) (by kernel_rfl) (by kernel_rfl) (by kernel_rfl))
theorem reduceAnyOver : Ytddlfeclbffloaa.Rows.reduceAnyRow.holds Ytddlfeclbffloaa.Try.pinned (OpenSpec.ofChange Ytddlfeclbffloaa.Rows.reduceAnySpec) :=
  OpenClaim.holds_of_wide 14 Try.f14 rfl rfl rfl rfl rfl rfl rfl ⟨rfl, rfl, rfl, rfl, rfl⟩ rfl rfl rfl rfl rfl (by kernel_rfl) Try.func14 (by kernel_rfl)
    (of_decide_eq_true (by kernel_rfl)) (by unfold Func.isWrapper; first | (rw [if_pos (by decide +kernel)]; kernel_rfl) | (rw [if_neg (by decide +kernel)]; exact ⟨rfl, rfl⟩))
    (fun os started H enc _ => reduceAnyLifted os started H enc)
end Go.Sh
namespace Go.Proofs.Ytddlfeclbffloaa
theorem reduceAny_holds : Rows.ReduceAnySaid := Go.Sh.reduceAnyOver
#print axioms reduceAny_holds
end Go.Proofs.Ytddlfeclbffloaa
