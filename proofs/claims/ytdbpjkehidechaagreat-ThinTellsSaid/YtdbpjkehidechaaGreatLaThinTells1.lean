/- The statement ThinTells of the given program is proved: whatever is handed in, the law answers true, changes nothing that was there, and comes back. No condition. -/
import Derived.Test.YtdbpjkehidechaaGreatFn4
set_option linter.unusedVariables false
set_option linter.unusedSimpArgs false
set_option linter.unusedSectionVars false
namespace Go.Sh
open Go.Proofs
set_option maxRecDepth 100000 in
theorem thinTellsLaw : LawV T [24] TTellF := by
 intro vs h
 obtain ⟨x0, rfl, hx0⟩ := All2.one h
 obtain ⟨n0, E0, rfl, _, hE0⟩ := net_of hx0
 exact ⟨_, conF_at (fun _ _ _ _ _ => rfl) (a := (n0, E0)) (by first | trivial | assumption | exact hE0 | exact hl1)⟩
set_option maxRecDepth 100000 in
theorem thinTellsLifted (os : Os) (started : os.Started) (H : Type) (enc : TypeId × Value -> H) :
  ReturnsInHanded {} Tryz.checked os 4 .any (YtdbpjkehidechaaGreat.Rows.thinTellsSpec.pre6 enc Tryz.prog Tryz.f4 YtdbpjkehidechaaGreat.Rows.thinTellsRow.domain false) (YtdbpjkehidechaaGreat.Rows.thinTellsSpec.post enc Tryz.prog Tryz.f4 false true false false) :=
 law_row Tryz.func4 (by kernel_rfl) rfl (ts := [24]) (by kernel_rfl) (by kernel_rfl) (by kernel_rfl) (by kernel_rfl)
  (fun H ds h => by
   match ds, h with
   | [_], _ => exact ⟨rfl, rfl, rfl⟩)
  TTell_ok thinTellsLaw os started H enc {}
  (ChangeSpec.witness6 (enc := enc) (C := Tryz.checked) false ⟨#[], #[.agg #[.int .i64 0, .slice none 0 0]], []⟩ 8 (by kernel_rfl) (by kernel_rfl) (by kernel_rfl) (by kernel_rfl))
theorem thinTellsOver : YtdbpjkehidechaaGreat.Rows.thinTellsRow.holds YtdbpjkehidechaaGreat.Tryz.pinned (OpenSpec.ofChange YtdbpjkehidechaaGreat.Rows.thinTellsSpec) :=
 OpenClaim.holds_of_wide 4 Tryz.f4 rfl rfl rfl rfl rfl rfl rfl ⟨rfl, rfl, rfl, rfl, rfl⟩ rfl rfl rfl rfl rfl (by kernel_rfl) Tryz.func4 (by kernel_rfl)
  (of_decide_eq_true (by kernel_rfl)) (by unfold Func.isWrapper; first | (rw [if_pos (by decide +kernel)]; kernel_rfl) | (rw [if_neg (by decide +kernel)]; exact ⟨rfl, rfl⟩))
  (fun os started H enc _ => thinTellsLifted os started H enc)
end Go.Sh
namespace Go.Proofs.YtdbpjkehidechaaGreat
theorem thinTells_holds : Rows.ThinTellsSaid := Go.Sh.thinTellsOver
#print axioms thinTells_holds
end Go.Proofs.YtdbpjkehidechaaGreat
