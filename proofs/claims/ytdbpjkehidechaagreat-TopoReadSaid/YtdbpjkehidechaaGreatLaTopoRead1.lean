/- The statement TopoRead of the given program is proved: whatever is handed in, the law answers true, changes nothing that was there, and comes back. No condition. -/
import Derived.Test.YtdbpjkehidechaaGreatFn3
set_option linter.unusedVariables false
set_option linter.unusedSimpArgs false
set_option linter.unusedSectionVars false
namespace Go.Sh
open Go.Proofs
set_option maxRecDepth 100000 in
theorem topoReadLaw : LawV T [24] TReadF := by
 intro vs h
 obtain ⟨x0, rfl, hx0⟩ := All2.one h
 obtain ⟨n0, E0, rfl, _, hE0⟩ := net_of hx0
 exact ⟨_, conF_at (fun _ _ _ _ _ => rfl) (a := (n0, E0)) (by first | trivial | assumption | exact hE0 | exact hl1)⟩
set_option maxRecDepth 100000 in
theorem topoReadLifted (os : Os) (started : os.Started) (H : Type) (enc : TypeId × Value -> H) :
  ReturnsInHanded {} Tryz.checked os 3 .any (YtdbpjkehidechaaGreat.Rows.topoReadSpec.pre6 enc Tryz.prog Tryz.f3 YtdbpjkehidechaaGreat.Rows.topoReadRow.domain false) (YtdbpjkehidechaaGreat.Rows.topoReadSpec.post enc Tryz.prog Tryz.f3 false true false false) :=
 law_row Tryz.func3 (by kernel_rfl) rfl (ts := [24]) (by kernel_rfl) (by kernel_rfl) (by kernel_rfl) (by kernel_rfl)
  (fun H ds h => by
   match ds, h with
   | [_], _ => exact ⟨rfl, rfl, rfl⟩)
  TRead_ok topoReadLaw os started H enc {}
  (ChangeSpec.witness6 (enc := enc) (C := Tryz.checked) false ⟨#[], #[.agg #[.int .i64 0, .slice none 0 0]], []⟩ 8 (by kernel_rfl) (by kernel_rfl) (by kernel_rfl) (by kernel_rfl))
theorem topoReadOver : YtdbpjkehidechaaGreat.Rows.topoReadRow.holds YtdbpjkehidechaaGreat.Tryz.pinned (OpenSpec.ofChange YtdbpjkehidechaaGreat.Rows.topoReadSpec) :=
 OpenClaim.holds_of_wide 3 Tryz.f3 rfl rfl rfl rfl rfl rfl rfl ⟨rfl, rfl, rfl, rfl, rfl⟩ rfl rfl rfl rfl rfl (by kernel_rfl) Tryz.func3 (by kernel_rfl)
  (of_decide_eq_true (by kernel_rfl)) (by unfold Func.isWrapper; first | (rw [if_pos (by decide +kernel)]; kernel_rfl) | (rw [if_neg (by decide +kernel)]; exact ⟨rfl, rfl⟩))
  (fun os started H enc _ => topoReadLifted os started H enc)
end Go.Sh
namespace Go.Proofs.YtdbpjkehidechaaGreat
theorem topoRead_holds : Rows.TopoReadSaid := Go.Sh.topoReadOver
#print axioms topoRead_holds
end Go.Proofs.YtdbpjkehidechaaGreat
