/- The statement ThinMinor of the given program is proved: whatever is handed in, the law answers true, changes nothing that was there, and comes back. No condition. -/
import Derived.Test.YtdbpjkehidechaaGreatFn4
set_option linter.unusedVariables false
set_option linter.unusedSimpArgs false
set_option linter.unusedSectionVars false
namespace Go.Sh
open Go.Proofs
set_option maxRecDepth 100000 in
theorem thinMinorLaw : LawV T [24] TMinorF := by
 intro vs h
 obtain ⟨x0, rfl, hx0⟩ := All2.one h
 obtain ⟨n0, E0, rfl, _, hE0⟩ := net_of hx0
 exact ⟨_, conF_at (fun _ _ _ _ _ => rfl) (a := (n0, E0)) (by first | trivial | assumption | exact hE0 | exact hl1)⟩
set_option maxRecDepth 100000 in
theorem thinMinorLifted (os : Os) (started : os.Started) (H : Type) (enc : TypeId × Value -> H) :
  ReturnsInHanded {} Tryz.checked os 6 .any (YtdbpjkehidechaaGreat.Rows.thinMinorSpec.pre6 enc Tryz.prog Tryz.f6 YtdbpjkehidechaaGreat.Rows.thinMinorRow.domain false) (YtdbpjkehidechaaGreat.Rows.thinMinorSpec.post enc Tryz.prog Tryz.f6 false true false false) :=
 law_row Tryz.func6 (by kernel_rfl) rfl (ts := [24]) (by kernel_rfl) (by kernel_rfl) (by kernel_rfl) (by kernel_rfl)
  (fun H ds h => by
   match ds, h with
   | [_], _ => exact ⟨rfl, rfl, rfl⟩)
  TMinor_ok thinMinorLaw os started H enc {}
  (ChangeSpec.witness6 (enc := enc) (C := Tryz.checked) false ⟨#[], #[.agg #[.int .i64 0, .slice none 0 0]], []⟩ 8 (by kernel_rfl) (by kernel_rfl) (by kernel_rfl) (by kernel_rfl))
theorem thinMinorOver : YtdbpjkehidechaaGreat.Rows.thinMinorRow.holds YtdbpjkehidechaaGreat.Tryz.pinned (OpenSpec.ofChange YtdbpjkehidechaaGreat.Rows.thinMinorSpec) :=
 OpenClaim.holds_of_wide 6 Tryz.f6 rfl rfl rfl rfl rfl rfl rfl ⟨rfl, rfl, rfl, rfl, rfl⟩ rfl rfl rfl rfl rfl (by kernel_rfl) Tryz.func6 (by kernel_rfl)
  (of_decide_eq_true (by kernel_rfl)) (by unfold Func.isWrapper; first | (rw [if_pos (by decide +kernel)]; kernel_rfl) | (rw [if_neg (by decide +kernel)]; exact ⟨rfl, rfl⟩))
  (fun os started H enc _ => thinMinorLifted os started H enc)
end Go.Sh
namespace Go.Proofs.YtdbpjkehidechaaGreat
theorem thinMinor_holds : Rows.ThinMinorSaid := Go.Sh.thinMinorOver
#print axioms thinMinor_holds
end Go.Proofs.YtdbpjkehidechaaGreat
