/- The statement ExpandRead of the given program is proved: whatever is handed in, the law answers true, changes nothing that was there, and comes back. No condition. -/
import Derived.Test.YtlffbpdecjjpfaaFn3
set_option linter.unusedVariables false
namespace Go.Sh
open Go.Proofs
/-! ### ExpandRead -/
set_option maxRecDepth 100000 in
theorem expandReadLaw : LawV T [24] XReadF := by
  intro vs h
  obtain ⟨x0, rfl, hx0⟩ := All2.one h
  obtain ⟨n0, E0, rfl, _, hE0⟩ := net_of hx0
  exact ⟨_, conF_at (fun _ _ _ _ _ => rfl) (a := (n0, E0)) (by first | trivial | assumption | exact hE0 | exact hl1)⟩
set_option maxRecDepth 100000 in
theorem expandReadLifted (os : Os) (started : os.Started) (H : Type) (enc : TypeId × Value → H) :
    ReturnsInHanded {} Try.checked os 14 .any (Ytlffbpdecjjpfaa.Rows.expandReadSpec.pre6 enc Try.prog Try.f14 Ytlffbpdecjjpfaa.Rows.expandReadRow.domain false) (Ytlffbpdecjjpfaa.Rows.expandReadSpec.post enc Try.prog Try.f14 false true false false) :=
  law_row Try.func14 (by kernel_rfl) rfl (ts := [24]) (by kernel_rfl) (by kernel_rfl) (by kernel_rfl) (by kernel_rfl)
    (fun H ds h => by
      match ds, h with
      | [_], _ => exact ⟨rfl, rfl, rfl⟩)
    XRead_ok expandReadLaw os started H enc {}
    (ChangeSpec.witness6 (enc := enc) (C := Try.checked) false ⟨#[], #[.agg #[.int .i64 0, .slice none 0 0]], []⟩ 8 (by kernel_rfl) (by kernel_rfl) (by kernel_rfl) (by kernel_rfl))
theorem expandReadOver : Ytlffbpdecjjpfaa.Rows.expandReadRow.holds Ytlffbpdecjjpfaa.Try.pinned (OpenSpec.ofChange Ytlffbpdecjjpfaa.Rows.expandReadSpec) :=
  OpenClaim.holds_of_wide 14 Try.f14 rfl rfl rfl rfl rfl rfl rfl ⟨rfl, rfl, rfl, rfl, rfl⟩ rfl rfl rfl rfl rfl (by kernel_rfl) Try.func14 (by kernel_rfl)
    (of_decide_eq_true (by kernel_rfl)) (by unfold Func.isWrapper; first | (rw [if_pos (by decide +kernel)]; kernel_rfl) | (rw [if_neg (by decide +kernel)]; exact ⟨rfl, rfl⟩))
    (fun os started H enc _ => expandReadLifted os started H enc)
end Go.Sh
namespace Go.Proofs.Ytlffbpdecjjpfaa
theorem expandRead_holds : Rows.ExpandReadSaid := Go.Sh.expandReadOver
#print axioms expandRead_holds
end Go.Proofs.Ytlffbpdecjjpfaa
