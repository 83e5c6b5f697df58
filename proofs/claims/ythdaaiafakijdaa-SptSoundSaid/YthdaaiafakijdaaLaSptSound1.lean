/- The statement SptSound of the given program is proved: whatever is handed in, the law answers true, changes nothing that was there, and comes back. No condition. -/
import Derived.Test.YthdaaiafakijdaaFn3
set_option linter.unusedVariables false
set_option linter.unusedSimpArgs false
set_option linter.unusedSectionVars false
namespace Go.Sh
open Go.Proofs
set_option maxRecDepth 100000 in
theorem sptSoundLaw : LawV T [24, 25, 33] SSoundF := by
 intro vs h
 obtain ⟨x0, x1, x2, rfl, hx0, hx1, hx2⟩ := All2.three h
 obtain ⟨n0, E0, rfl, _, hE0⟩ := net_of hx0
 obtain ⟨l1, rfl, hl1, _⟩ := row_of hx1
 obtain ⟨l2, rfl, hl2⟩ := nodes_of hx2
 exact ⟨_, conF_at (fun _ _ _ _ _ => rfl) (a := ((n0, E0), l1, l2)) (by first | trivial | assumption | exact hE0 | exact hl1 | exact ⟨hl1, hl2⟩)⟩
set_option maxRecDepth 100000 in
theorem sptSoundLifted (os : Os) (started : os.Started) (H : Type) (enc : TypeId × Value -> H) :
  ReturnsInHanded {} Try.checked os 6 .any (Ythdaaiafakijdaa.Rows.sptSoundSpec.pre6 enc Try.prog Try.f6 Ythdaaiafakijdaa.Rows.sptSoundRow.domain false) (Ythdaaiafakijdaa.Rows.sptSoundSpec.post enc Try.prog Try.f6 false true false false) :=
 law_row Try.func6 (by kernel_rfl) rfl (ts := [24, 25, 33]) (by kernel_rfl) (by kernel_rfl) (by kernel_rfl) (by kernel_rfl)
  (fun H ds h => by
   match ds, h with
   | [_, _, _], _ => exact ⟨rfl, rfl, rfl⟩)
  SSound_ok sptSoundLaw os started H enc {}
  (ChangeSpec.witness6 (enc := enc) (C := Try.checked) false ⟨#[], #[.agg #[.int .i64 0, .slice none 0 0], .slice none 0 0, .slice none 0 0], []⟩ 8 (by kernel_rfl) (by kernel_rfl) (by kernel_rfl) (by kernel_rfl))
theorem sptSoundOver : Ythdaaiafakijdaa.Rows.sptSoundRow.holds Ythdaaiafakijdaa.Try.pinned (OpenSpec.ofChange Ythdaaiafakijdaa.Rows.sptSoundSpec) :=
 OpenClaim.holds_of_wide 6 Try.f6 rfl rfl rfl rfl rfl rfl rfl ⟨rfl, rfl, rfl, rfl, rfl⟩ rfl rfl rfl rfl rfl (by kernel_rfl) Try.func6 (by kernel_rfl)
  (of_decide_eq_true (by kernel_rfl)) (by unfold Func.isWrapper; first | (rw [if_pos (by decide +kernel)]; kernel_rfl) | (rw [if_neg (by decide +kernel)]; exact ⟨rfl, rfl⟩))
  (fun os started H enc _ => sptSoundLifted os started H enc)
end Go.Sh
namespace Go.Proofs.Ythdaaiafakijdaa
theorem sptSound_holds : Rows.SptSoundSaid := Go.Sh.sptSoundOver
#print axioms sptSound_holds
end Go.Proofs.Ythdaaiafakijdaa
