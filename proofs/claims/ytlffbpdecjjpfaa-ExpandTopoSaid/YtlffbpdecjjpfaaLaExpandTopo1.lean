/- The statement ExpandTopo of the given program is proved: whatever is handed in, the law answers true, changes nothing that was there, and comes back. No condition. -/
import Derived.Test.YtlffbpdecjjpfaaFn3
set_option linter.unusedVariables false
namespace Go.Sh
open Go.Proofs
/-! ### ExpandTopo -/
set_option maxRecDepth 100000 in
theorem expandTopoLaw : LawV T [24, 3, 40] XTopoF := by
  intro vs h
  obtain ⟨x0, x1, x2, rfl, hx0, hx1, hx2⟩ := All2.three h
  obtain ⟨n0, E0, rfl, _, hE0⟩ := net_of hx0
  obtain ⟨a1, rfl, ha1⟩ := int_of hx1
  obtain ⟨k2, Ts2, S2, rfl, _, hn2⟩ := sub_nums hx2
  exact ⟨_, conF_at (fun _ _ _ _ _ => rfl) (a := ((n0, E0), a1, (k2, Ts2, S2))) (by first | trivial | assumption | exact hE0 | exact hl1 | exact hn2)⟩
set_option maxRecDepth 100000 in
theorem expandTopoLifted (os : Os) (started : os.Started) (H : Type) (enc : TypeId × Value → H) :
    ReturnsInHanded {} Try.checked os 9 .any (Ytlffbpdecjjpfaa.Rows.expandTopoSpec.pre6 enc Try.prog Try.f9 Ytlffbpdecjjpfaa.Rows.expandTopoRow.domain false) (Ytlffbpdecjjpfaa.Rows.expandTopoSpec.post enc Try.prog Try.f9 false true false false) :=
  law_row Try.func9 (by kernel_rfl) rfl (ts := [24, 3, 40]) (by kernel_rfl) (by kernel_rfl) (by kernel_rfl) (by kernel_rfl)
    (fun H ds h => by
      match ds, h with
      | [_, _, _], _ => exact ⟨rfl, rfl, rfl⟩)
    XTopo_ok expandTopoLaw os started H enc {}
    (ChangeSpec.witness6 (enc := enc) (C := Try.checked) false ⟨#[], #[.agg #[.int .i64 0, .slice none 0 0], .int .i64 0, .agg #[.int .i64 0, .slice none 0 0, .slice none 0 0]], []⟩ 8 (by kernel_rfl) (by kernel_rfl) (by kernel_rfl) (by kernel_rfl))
theorem expandTopoOver : Ytlffbpdecjjpfaa.Rows.expandTopoRow.holds Ytlffbpdecjjpfaa.Try.pinned (OpenSpec.ofChange Ytlffbpdecjjpfaa.Rows.expandTopoSpec) :=
  OpenClaim.holds_of_wide 9 Try.f9 rfl rfl rfl rfl rfl rfl rfl ⟨rfl, rfl, rfl, rfl, rfl⟩ rfl rfl rfl rfl rfl (by kernel_rfl) Try.func9 (by kernel_rfl)
    (of_decide_eq_true (by kernel_rfl)) (by unfold Func.isWrapper; first | (rw [if_pos (by decide +kernel)]; kernel_rfl) | (rw [if_neg (by decide +kernel)]; exact ⟨rfl, rfl⟩))
    (fun os started H enc _ => expandTopoLifted os started H enc)
end Go.Sh
namespace Go.Proofs.Ytlffbpdecjjpfaa
theorem expandTopo_holds : Rows.ExpandTopoSaid := Go.Sh.expandTopoOver
#print axioms expandTopo_holds
end Go.Proofs.Ytlffbpdecjjpfaa
