/- The statement ThinLeast of the given program is proved: whatever is handed in, the law answers true, changes nothing that was there, and comes back. No condition. -/
import Derived.Test.YtlffbpdecjjpfaaFn3
set_option linter.unusedVariables false
namespace Go.Sh
open Go.Proofs
/-! ### ThinLeast -/
set_option maxRecDepth 100000 in
theorem thinLeastLaw : LawV T [24, 3] TLeastF := by
  intro vs h
  obtain ⟨x0, x1, rfl, hx0, hx1⟩ := All2.two h
  obtain ⟨n0, E0, rfl, _, hE0⟩ := net_of hx0
  obtain ⟨a1, rfl, ha1⟩ := int_of hx1
  exact ⟨_, conF_at (fun _ _ _ _ _ => rfl) (a := ((n0, E0), a1)) (by first | trivial | assumption | exact hE0 | exact hl1)⟩
set_option maxRecDepth 100000 in
theorem thinLeastLifted (os : Os) (started : os.Started) (H : Type) (enc : TypeId × Value → H) :
    ReturnsInHanded {} Try.checked os 13 .any (Ytlffbpdecjjpfaa.Rows.thinLeastSpec.pre6 enc Try.prog Try.f13 Ytlffbpdecjjpfaa.Rows.thinLeastRow.domain false) (Ytlffbpdecjjpfaa.Rows.thinLeastSpec.post enc Try.prog Try.f13 false true false false) :=
  law_row Try.func13 (by kernel_rfl) rfl (ts := [24, 3]) (by kernel_rfl) (by kernel_rfl) (by kernel_rfl) (by kernel_rfl)
    (fun H ds h => by
      match ds, h with
      | [_, _], _ => exact ⟨rfl, rfl, rfl⟩)
    TLeast_ok thinLeastLaw os started H enc {}
    (ChangeSpec.witness6 (enc := enc) (C := Try.checked) false ⟨#[], #[.agg #[.int .i64 0, .slice none 0 0], .int .i64 0], []⟩ 8 (by kernel_rfl) (by kernel_rfl) (by kernel_rfl) (by kernel_rfl))
theorem thinLeastOver : Ytlffbpdecjjpfaa.Rows.thinLeastRow.holds Ytlffbpdecjjpfaa.Try.pinned (OpenSpec.ofChange Ytlffbpdecjjpfaa.Rows.thinLeastSpec) :=
  OpenClaim.holds_of_wide 13 Try.f13 rfl rfl rfl rfl rfl rfl rfl ⟨rfl, rfl, rfl, rfl, rfl⟩ rfl rfl rfl rfl rfl (by kernel_rfl) Try.func13 (by kernel_rfl)
    (of_decide_eq_true (by kernel_rfl)) (by unfold Func.isWrapper; first | (rw [if_pos (by decide +kernel)]; kernel_rfl) | (rw [if_neg (by decide +kernel)]; exact ⟨rfl, rfl⟩))
    (fun os started H enc _ => thinLeastLifted os started H enc)
end Go.Sh
namespace Go.Proofs.Ytlffbpdecjjpfaa
theorem thinLeast_holds : Rows.ThinLeastSaid := Go.Sh.thinLeastOver
#print axioms thinLeast_holds
end Go.Proofs.Ytlffbpdecjjpfaa
