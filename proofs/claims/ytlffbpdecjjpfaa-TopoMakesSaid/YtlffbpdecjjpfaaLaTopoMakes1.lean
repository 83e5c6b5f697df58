/- The statement TopoMakes of the given program is proved: whatever is handed in, the law answers true, changes nothing that was there, and comes back. No condition. -/
import Derived.Test.YtlffbpdecjjpfaaFn2
set_option linter.unusedVariables false
set_option linter.unusedSimpArgs false
set_option linter.unusedSectionVars false
namespace Go.Sh
open Go.Proofs
theorem cells9 {α : Type} {Q : Nat -> α -> Prop} {t0 t1 t2 t3 t4 t5 t6 t7 t8 : Nat} {cs : List α} (h : All2 Q [t0, t1, t2, t3, t4, t5, t6, t7, t8] cs) :
  ∃ a b c d e f g x y, cs = [a, b, c, d, e, f, g, x, y] /\ Q t0 a /\ Q t1 b /\ Q t2 c /\ Q t3 d /\ Q t4 e /\ Q t5 f /\ Q t6 g /\ Q t7 x /\ Q t8 y := by
 obtain ⟨hl, h⟩ := h
 match cs, hl, h with
 | [a, b, c, d, e, f, g, x, y], _, h =>
  exact ⟨a, b, c, d, e, f, g, x, y, rfl, h 0 _ _ rfl rfl, h 1 _ _ rfl rfl, h 2 _ _ rfl rfl, h 3 _ _ rfl rfl, h 4 _ _ rfl rfl, h 5 _ _ rfl rfl, h 6 _ _ rfl rfl, h 7 _ _ rfl rfl, h 8 _ _ rfl rfl⟩
theorem cell_int {c : C} (h : CTy T 3 c) : ∃ a : Int, c = .s (.i .i64 a) := by
 obtain ⟨p, rfl, hp⟩ := CTy.sc (t := 3) rfl h
 obtain ⟨a, rfl, _⟩ := ScTy.int (t := 3) rfl rfl hp
 exact ⟨a, rfl⟩
theorem cell_bool {c : C} (h : CTy T 4 c) : ∃ b : Bool, c = .s (.b b) := by
 obtain ⟨x, rfl, h2⟩ := CTy.sc (t := 4) rfl h
 cases x with
 | b b => exact ⟨b, rfl⟩
 | i k n => exact (show False from h2).elim
set_option maxRecDepth 100000 in
theorem topoMakesLaw : ∀ cs, All2 (CTy T) [4, 3, 3, 3, 3, 3, 3, 30, 3] cs -> ∃ outs, MakesF [.agg cs] = some (.one (.s (.b true)), outs) := by
 intro cs h
 obtain ⟨x, a0, a1, a2, a3, a4, a5, y, z, rfl, hx, h0, h1, h2, h3, h4, h5, hy, hz⟩ := cells9 h
 obtain ⟨two, rfl⟩ := cell_bool hx
 obtain ⟨k0, rfl⟩ := cell_int h0
 obtain ⟨k1, rfl⟩ := cell_int h1
 obtain ⟨k2, rfl⟩ := cell_int h2
 obtain ⟨k3, rfl⟩ := cell_int h3
 obtain ⟨k4, rfl⟩ := cell_int h4
 obtain ⟨k5, rfl⟩ := cell_int h5
 obtain ⟨rows, rfl, hr⟩ := CTy.flat (t := 30) (e := 3) rfl rfl hy
 obtain ⟨U, rfl, _, _⟩ := ints_of hr
 obtain ⟨al, rfl⟩ := cell_int hz
 exact ⟨_, conF_at (fun _ _ _ _ _ => rfl) (a := (two, (k0, k1, k2, k3, k4, k5), U, al)) trivial⟩
set_option maxRecDepth 100000 in
theorem topoMakesLifted (os : Os) (started : os.Started) (H : Type) (enc : TypeId × Value -> H) :
  ReturnsInHanded {} Try.checked os 10 .any (Ytlffbpdecjjpfaa.Rows.topoMakesSpec.pre6 enc Try.prog Try.f10 Ytlffbpdecjjpfaa.Rows.topoMakesRow.domain false) (Ytlffbpdecjjpfaa.Rows.topoMakesSpec.post enc Try.prog Try.f10 false true false false) :=
 law_rowX Try.func10 (by kernel_rfl) rfl (t := 68) rfl rfl (by decide) (by decide) (by kernel_rfl) (by kernel_rfl) (by kernel_rfl)
  (fun H ds h => by
   match ds, h with
   | [_], _ => exact ⟨rfl, rfl, rfl⟩)
  Makes_ok topoMakesLaw os started H enc {}
  (ChangeSpec.witness6 (enc := enc) (C := Try.checked) false ⟨#[], #[.agg #[.bool false, .int .i64 0, .int .i64 0, .int .i64 0, .int .i64 0, .int .i64 0, .int .i64 0, .slice none 0 0, .int .i64 0]], []⟩ 8 (by kernel_rfl) (by kernel_rfl) (by kernel_rfl) (by kernel_rfl))
theorem topoMakesOver : Ytlffbpdecjjpfaa.Rows.topoMakesRow.holds Ytlffbpdecjjpfaa.Try.pinned (OpenSpec.ofChange Ytlffbpdecjjpfaa.Rows.topoMakesSpec) :=
 OpenClaim.holds_of_wide 10 Try.f10 rfl rfl rfl rfl rfl rfl rfl ⟨rfl, rfl, rfl, rfl, rfl⟩ rfl rfl rfl rfl rfl (by kernel_rfl) Try.func10 (by kernel_rfl)
  (of_decide_eq_true (by kernel_rfl)) (by unfold Func.isWrapper; first | (rw [if_pos (by decide +kernel)]; kernel_rfl) | (rw [if_neg (by decide +kernel)]; exact ⟨rfl, rfl⟩))
  (fun os started H enc _ => topoMakesLifted os started H enc)
end Go.Sh
namespace Go.Proofs.Ytlffbpdecjjpfaa
theorem topoMakes_holds : Rows.TopoMakesSaid := Go.Sh.topoMakesOver
#print axioms topoMakes_holds
end Go.Proofs.Ytlffbpdecjjpfaa
