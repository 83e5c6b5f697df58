/- The statement ThinReads of the given program is proved: whatever is handed in, the law answers true, changes nothing that was there, and comes back. No condition. -/
import Derived.Test.YtdbpjkehidechaaGreatFn4
set_option linter.unusedVariables false
set_option linter.unusedSimpArgs false
set_option linter.unusedSectionVars false
namespace Go.Sh
open Go.Proofs
set_option maxRecDepth 100000 in
theorem thinReadsLaw : LawV T [24, 41] TReadsF := by
 intro vs h
 obtain ⟨x0, x1, rfl, hx0, hx1⟩ := All2.two h
 obtain ⟨n0, E0, rfl, _, hE0⟩ := net_of hx0
 obtain ⟨a1, b1, c1, d1, rfl, ha1, hb1, hc1, hd1⟩ := four_ints hx1
 exact ⟨_, conF_at (fun _ _ _ _ _ => rfl) (a := ((n0, E0), (a1, b1, c1, d1))) (by first | trivial | assumption | exact hE0 | exact hl1)⟩
set_option maxRecDepth 100000 in
theorem thinReadsLifted (os : Os) (started : os.Started) (H : Type) (enc : TypeId × Value -> H) :
  ReturnsInHanded {} Tryz.checked os 5 .any (YtdbpjkehidechaaGreat.Rows.thinReadsSpec.pre6 enc Tryz.prog Tryz.f5 YtdbpjkehidechaaGreat.Rows.thinReadsRow.domain false) (YtdbpjkehidechaaGreat.Rows.thinReadsSpec.post enc Tryz.prog Tryz.f5 false true false false) :=
 law_row Tryz.func5 (by kernel_rfl) rfl (ts := [24, 41]) (by kernel_rfl) (by kernel_rfl) (by kernel_rfl) (by kernel_rfl)
  (fun H ds h => by
   match ds, h with
   | [_, _], _ => exact ⟨rfl, rfl, rfl⟩)
  TReads_ok thinReadsLaw os started H enc {}
  (ChangeSpec.witness6 (enc := enc) (C := Tryz.checked) false ⟨#[], #[.agg #[.int .i64 0, .slice none 0 0], .agg #[.int .i64 0, .int .i64 0, .int .i64 0, .int .i64 0]], []⟩ 8 (by kernel_rfl) (by kernel_rfl) (by kernel_rfl) (by kernel_rfl))
theorem thinReadsOver : YtdbpjkehidechaaGreat.Rows.thinReadsRow.holds YtdbpjkehidechaaGreat.Tryz.pinned (OpenSpec.ofChange YtdbpjkehidechaaGreat.Rows.thinReadsSpec) :=
 OpenClaim.holds_of_wide 5 Tryz.f5 rfl rfl rfl rfl rfl rfl rfl ⟨rfl, rfl, rfl, rfl, rfl⟩ rfl rfl rfl rfl rfl (by kernel_rfl) Tryz.func5 (by kernel_rfl)
  (of_decide_eq_true (by kernel_rfl)) (by unfold Func.isWrapper; first | (rw [if_pos (by decide +kernel)]; kernel_rfl) | (rw [if_neg (by decide +kernel)]; exact ⟨rfl, rfl⟩))
  (fun os started H enc _ => thinReadsLifted os started H enc)
end Go.Sh
namespace Go.Proofs.YtdbpjkehidechaaGreat
theorem thinReads_holds : Rows.ThinReadsSaid := Go.Sh.thinReadsOver
#print axioms thinReads_holds
end Go.Proofs.YtdbpjkehidechaaGreat
