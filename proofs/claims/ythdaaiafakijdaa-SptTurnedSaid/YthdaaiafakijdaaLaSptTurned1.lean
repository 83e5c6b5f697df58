/- The statement SptTurned of the given program is proved: whatever is handed in, the law answers true, changes nothing that was there, and comes back. No condition. -/
import Derived.Test.YthdaaiafakijdaaFn2
set_option linter.unusedVariables false
set_option linter.unusedSimpArgs false
set_option linter.unusedSectionVars false
namespace Go.Sh
open Go.Proofs
theorem All2.five {α β : Type} {R : α -> β -> Prop} {a b c d e : α} {m : List β} (h : All2 R [a, b, c, d, e] m) : ∃ x y z t u, m = [x, y, z, t, u] /\ R a x /\ R b y /\ R c z /\ R d t /\ R e u := by
 obtain ⟨h1, h2⟩ := h
 match m, h1, h2 with
 | [x, y, z, t, u], _, h2 => exact ⟨x, y, z, t, u, rfl, h2 0 a x rfl rfl, h2 1 b y rfl rfl, h2 2 c z rfl rfl, h2 3 d t rfl rfl, h2 4 e u rfl rfl⟩
set_option maxRecDepth 100000 in
theorem sptTurnedLaw : ∀ cs, All2 (CTy T) [3, 22, 25, 33, 43] cs -> ∃ outs, STurnF [.agg cs] = some (.one (.s (.b true)), outs) := by
 intro cs h
 obtain ⟨x, y, z, t, u, rfl, hx, hy, hz, ht, hu⟩ := All2.five h
 obtain ⟨p, rfl, hp⟩ := CTy.sc (t := 3) rfl hx
 obtain ⟨n, rfl, _⟩ := ScTy.int (t := 3) rfl rfl hp
 obtain ⟨rows, rfl, hr⟩ := CTy.flat (t := 22) (e := 60) rfl rfl hy
 obtain ⟨E, rfl, _, _⟩ := edges_of hr
 obtain ⟨rows, rfl, hr⟩ := CTy.flat (t := 25) (e := 3) rfl rfl hz
 obtain ⟨l, rfl, hl, _⟩ := ints_of hr
 obtain ⟨nd, rfl, hn⟩ := nodes_cell ht
 obtain ⟨p, rfl, hp⟩ := CTy.sc (t := 43) rfl hu
 obtain ⟨w, rfl, _⟩ := ScTy.int (t := 43) rfl rfl hp
 exact ⟨_, conF_at (fun _ _ _ _ _ => rfl) (a := ((n, E), l, nd, w)) ⟨hl, hn⟩⟩
set_option maxRecDepth 100000 in
theorem sptTurnedLifted (os : Os) (started : os.Started) (H : Type) (enc : TypeId × Value -> H) :
  ReturnsInHanded {} Try.checked os 5 .any (Ythdaaiafakijdaa.Rows.sptTurnedSpec.pre6 enc Try.prog Try.f5 Ythdaaiafakijdaa.Rows.sptTurnedRow.domain false) (Ythdaaiafakijdaa.Rows.sptTurnedSpec.post enc Try.prog Try.f5 false true false false) :=
 law_rowX Try.func5 (by kernel_rfl) rfl (t := 45) rfl rfl (by decide) (by decide) (by kernel_rfl) (by kernel_rfl) (by kernel_rfl)
  (fun H ds h => by
   match ds, h with
   | [_], _ => exact ⟨rfl, rfl, rfl⟩)
  STurn_ok sptTurnedLaw os started H enc {}
  (ChangeSpec.witness6 (enc := enc) (C := Try.checked) false ⟨#[], #[.agg #[.int .i64 0, .slice none 0 0, .slice none 0 0, .slice none 0 0, .int .u32 0]], []⟩ 8 (by kernel_rfl) (by kernel_rfl) (by kernel_rfl) (by kernel_rfl))
theorem sptTurnedOver : Ythdaaiafakijdaa.Rows.sptTurnedRow.holds Ythdaaiafakijdaa.Try.pinned (OpenSpec.ofChange Ythdaaiafakijdaa.Rows.sptTurnedSpec) :=
 OpenClaim.holds_of_wide 5 Try.f5 rfl rfl rfl rfl rfl rfl rfl ⟨rfl, rfl, rfl, rfl, rfl⟩ rfl rfl rfl rfl rfl (by kernel_rfl) Try.func5 (by kernel_rfl)
  (of_decide_eq_true (by kernel_rfl)) (by unfold Func.isWrapper; first | (rw [if_pos (by decide +kernel)]; kernel_rfl) | (rw [if_neg (by decide +kernel)]; exact ⟨rfl, rfl⟩))
  (fun os started H enc _ => sptTurnedLifted os started H enc)
end Go.Sh
namespace Go.Proofs.Ythdaaiafakijdaa
theorem sptTurned_holds : Rows.SptTurnedSaid := Go.Sh.sptTurnedOver
#print axioms sptTurned_holds
end Go.Proofs.Ythdaaiafakijdaa
