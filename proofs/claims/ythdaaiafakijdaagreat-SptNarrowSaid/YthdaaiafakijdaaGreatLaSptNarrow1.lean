/- The statement SptNarrow of the given program is proved: whatever is handed in, the law answers true, changes nothing that was there, and comes back. No condition. -/
import Derived.Test.YthdaaiafakijdaaGreatFn3
set_option linter.unusedVariables false
set_option linter.unusedSimpArgs false
set_option linter.unusedSectionVars false
namespace Go.Sh
open Go.Proofs
set_option maxRecDepth 100000 in
theorem sptNarrowLaw : LawV T [24, 25, 60] SNarF := by
 intro vs h
 obtain ⟨x0, x1, x2, rfl, hx0, hx1, hx2⟩ := All2.three h
 obtain ⟨n0, E0, rfl, _, hE0⟩ := net_of hx0
 obtain ⟨l1, rfl, hl1, _⟩ := row_of hx1
 obtain ⟨l2, rfl, hl2⟩ := nodes_of hx2
 exact ⟨_, conF_at (fun _ _ _ _ _ => rfl) (a := ((n0, E0), l1, l2)) (by first | trivial | assumption | exact hE0 | exact hl1 | exact ⟨hl1, hl2⟩)⟩
set_option maxRecDepth 100000 in
theorem sptNarrowLifted (os : Os) (started : os.Started) (H : Type) (enc : TypeId × Value -> H) :
  ReturnsInHanded {} Tryz.checked os 8 .any (YthdaaiafakijdaaGreat.Rows.sptNarrowSpec.pre6 enc Tryz.prog Tryz.f8 YthdaaiafakijdaaGreat.Rows.sptNarrowRow.domain false) (YthdaaiafakijdaaGreat.Rows.sptNarrowSpec.post enc Tryz.prog Tryz.f8 false true false false) :=
 law_row Tryz.func8 (by kernel_rfl) rfl (ts := [24, 25, 60]) (by kernel_rfl) (by kernel_rfl) (by kernel_rfl) (by kernel_rfl)
  (fun H ds h => by
   match ds, h with
   | [_, _, _], _ => exact ⟨rfl, rfl, rfl⟩)
  SNar_ok sptNarrowLaw os started H enc {}
  (ChangeSpec.witness6 (enc := enc) (C := Tryz.checked) false ⟨#[], #[.agg #[.int .i64 0, .slice none 0 0], .slice none 0 0, .slice none 0 0], []⟩ 8 (by kernel_rfl) (by kernel_rfl) (by kernel_rfl) (by kernel_rfl))
theorem sptNarrowOver : YthdaaiafakijdaaGreat.Rows.sptNarrowRow.holds YthdaaiafakijdaaGreat.Tryz.pinned (OpenSpec.ofChange YthdaaiafakijdaaGreat.Rows.sptNarrowSpec) :=
 OpenClaim.holds_of_wide 8 Tryz.f8 rfl rfl rfl rfl rfl rfl rfl ⟨rfl, rfl, rfl, rfl, rfl⟩ rfl rfl rfl rfl rfl (by kernel_rfl) Tryz.func8 (by kernel_rfl)
  (of_decide_eq_true (by kernel_rfl)) (by unfold Func.isWrapper; first | (rw [if_pos (by decide +kernel)]; kernel_rfl) | (rw [if_neg (by decide +kernel)]; exact ⟨rfl, rfl⟩))
  (fun os started H enc _ => sptNarrowLifted os started H enc)
end Go.Sh
namespace Go.Proofs.YthdaaiafakijdaaGreat
theorem sptNarrow_holds : Rows.SptNarrowSaid := Go.Sh.sptNarrowOver
#print axioms sptNarrow_holds
end Go.Proofs.YthdaaiafakijdaaGreat
