/- The statement SptBlocks of the given program is proved: whatever is handed in, the law answers true, changes nothing that was there, and comes back. No condition. -/
import Derived.Test.YthdaaiafakijdaaGreatFn3
set_option linter.unusedVariables false
set_option linter.unusedSimpArgs false
set_option linter.unusedSectionVars false
namespace Go.Sh
open Go.Proofs
set_option maxRecDepth 100000 in
theorem sptBlocksLaw : LawV T [24] SBlkF := by
 intro vs h
 obtain ⟨x0, rfl, hx0⟩ := All2.one h
 obtain ⟨n0, E0, rfl, _, hE0⟩ := net_of hx0
 exact ⟨_, conF_at (fun _ _ _ _ _ => rfl) (a := (n0, E0)) (by first | trivial | assumption | exact hE0 | exact hl1)⟩
set_option maxRecDepth 100000 in
theorem sptBlocksLifted (os : Os) (started : os.Started) (H : Type) (enc : TypeId × Value -> H) :
  ReturnsInHanded {} Tryz.checked os 7 .any (YthdaaiafakijdaaGreat.Rows.sptBlocksSpec.pre6 enc Tryz.prog Tryz.f7 YthdaaiafakijdaaGreat.Rows.sptBlocksRow.domain false) (YthdaaiafakijdaaGreat.Rows.sptBlocksSpec.post enc Tryz.prog Tryz.f7 false true false false) :=
 law_row Tryz.func7 (by kernel_rfl) rfl (ts := [24]) (by kernel_rfl) (by kernel_rfl) (by kernel_rfl) (by kernel_rfl)
  (fun H ds h => by
   match ds, h with
   | [_], _ => exact ⟨rfl, rfl, rfl⟩)
  SBlk_ok sptBlocksLaw os started H enc {}
  (ChangeSpec.witness6 (enc := enc) (C := Tryz.checked) false ⟨#[], #[.agg #[.int .i64 0, .slice none 0 0]], []⟩ 8 (by kernel_rfl) (by kernel_rfl) (by kernel_rfl) (by kernel_rfl))
theorem sptBlocksOver : YthdaaiafakijdaaGreat.Rows.sptBlocksRow.holds YthdaaiafakijdaaGreat.Tryz.pinned (OpenSpec.ofChange YthdaaiafakijdaaGreat.Rows.sptBlocksSpec) :=
 OpenClaim.holds_of_wide 7 Tryz.f7 rfl rfl rfl rfl rfl rfl rfl ⟨rfl, rfl, rfl, rfl, rfl⟩ rfl rfl rfl rfl rfl (by kernel_rfl) Tryz.func7 (by kernel_rfl)
  (of_decide_eq_true (by kernel_rfl)) (by unfold Func.isWrapper; first | (rw [if_pos (by decide +kernel)]; kernel_rfl) | (rw [if_neg (by decide +kernel)]; exact ⟨rfl, rfl⟩))
  (fun os started H enc _ => sptBlocksLifted os started H enc)
end Go.Sh
namespace Go.Proofs.YthdaaiafakijdaaGreat
theorem sptBlocks_holds : Rows.SptBlocksSaid := Go.Sh.sptBlocksOver
#print axioms sptBlocks_holds
end Go.Proofs.YthdaaiafakijdaaGreat
