/- What the functions answer that the statement reaches. No condition. -/
import Derived.Test.YtlffbpdecjjpfaaFn2
import Derived.Shelf.Sort.Plain
import Derived.Shelf.Slices.In.SortNone
import Derived.Shelf.Slices.CompactI
import Derived.Ground.NamesProg
import Derived.Ground.Names2Prog
import Derived.Sort.OwnSorted
import Derived.Shelf.SlIterI.Sorted
import Derived.Deep.RegionLaw
import Derived.Shelf.SlSortCmp.NoneTotal
import Derived.Ground.SlsfProg
import Derived.Test.YtlffbpdecjjpfaaRows
set_option linter.unusedVariables false
set_option linter.unusedSimpArgs false
namespace Go.Proofs
open Go.RowKit Go.Shelf Go.Sh

attribute [local go_sem] Oper.semAt_some
theorem Try.ownsRow_base {W : World} {b b' : Nat} {e : TypeId} {size : Nat} {v : Value} {k : Nat} {xs : List Value} (h : W.ownsRow b e size v k xs) (hb : b' ≤ b) : W.ownsRow b' e size v k xs :=
  ⟨h.1, h.2.imp id fun ⟨g, cap, cur, h1, h2, h3⟩ => ⟨g, cap, cur, h1, Nat.le_trans hb h2, h3⟩⟩
theorem Try.append_step {W w1 : World} {n0 n4 B : Nat} {v v' : Value} {k m : Nat} {xs ys : List Value} {tmp : Obj} (hv : Boxed W B 30 v) (hrow : W.ownsRow n4 3 1 v k xs) (h0 : n0 ≤ n4) (h4 : n4 ≤ W.heap.size) (hB : n0 ≤ B) (hown' : w1.ownsRow n4 3 1 v' m ys) (hgrow : (W.alloc tmp).grownBy w1 v.ownBlock) :
    Boxed w1 B 30 v ∧ Boxed (w1.setCell ⟨B, 0, none⟩ v') B 30 v' ∧ (w1.setCell ⟨B, 0, none⟩ v').ownsRow n4 3 1 v' m ys ∧ KeepsOthers W (w1.setCell ⟨B, 0, none⟩ v') ∧ Below n0 W (w1.setCell ⟨B, 0, none⟩ v') ∧ Try.Kp (fun k => k < n4 ∧ k ≠ B) 59 W (w1.setCell ⟨B, 0, none⟩ v') := by
  obtain ⟨hv1, hv2, hr2, hk2, hb2⟩ := hv.appended (by decide) (Try.ownsRow_base hrow h0) (Nat.le_trans h0 h4) hB (Try.ownsRow_base hown' h0) hgrow
  exact ⟨hv1, hv2, hown'.kept (grownBy_setCell' w1 B v') (.inr (hv1.not_row (by decide) hown').symm), hk2, hb2, Try.kp_append hv (by decide) (by decide) hrow hgrow (fun k h => ⟨h.1, h.2, Nat.lt_of_lt_of_le h.1 h4⟩)⟩
/-- the world as the walk through the neighbours begins -/
structure Try.NearAt (w W3 W4 : World) (n v : Int) (A : Option Addr) (c : Nat) (E : List Ed) : Prop where
  size : W4.heap.size = W3.heap.size + 2
  below : Below W3.heap.size W3 W4
  cg : W4.cell? ⟨W3.heap.size, 1, none⟩ = some (.slice A E.length c)
  cv : W4.cell? ⟨W3.heap.size + 1, 0, none⟩ = some (.int .i64 v)
theorem Try.near_at (w W3 : World) (n v : Int) (A : Option Addr) (c : Nat) (E : List Ed) : Try.NearAt w W3 (Try.nearW W3 n v (.slice A E.length c)) n v A c E := by
  have s4 : (Try.nearW W3 n v (.slice A E.length c)).heap.size = W3.heap.size + 2 := by simp [Try.nearW]
  have hb : Below W3.heap.size W3 (Try.nearW W3 n v (.slice A E.length c)) := ((Below.refl _ W3).alloc (Nat.le_refl _) _).alloc (by simp) _
  have h1 : (Try.nearW W3 n v (.slice A E.length c)).heap[W3.heap.size]? = some (.cells #[.int .i64 n, .slice A E.length c] 28) := by
    unfold Try.nearW
    rw [Below.heap_alloc _ _ _ (by simp)]; exact World.alloc_heap_new _ _
  have h2 : (Try.nearW W3 n v (.slice A E.length c)).heap[W3.heap.size + 1]? = some (.cells #[.int .i64 v] 3) := by
    have := World.alloc_heap_new (W3.alloc (.cells #[.int .i64 n, .slice A E.length c] 28)) (.cells #[.int .i64 v] 3)
    rwa [World.size_alloc] at this
  exact ⟨s4, hb, by simp [World.cell?, h1], by simp [World.cell?, h2]⟩
set_option maxRecDepth 100000 in
set_option maxHeartbeats 2000000 in
theorem Try.Near_in (n v : Int) (E : List Ed) (A : Option Addr) (c : Nat) (w : World) (hE : E.length ≤ 1000000) (h : FlatOk w noLab none A c 2 (edges E)) (L : List Int) (hL : L = if RightP n E then Go.Sh.nearL E v else []) :
    CallsIn Fence.wide 6 Try.prog 68 #[.agg #[.int .i64 n, .slice A E.length c], .int .i64 v] w fun e W' => ∃ x, e = .returned x ∧ W'.ownsRow w.heap.size 3 1 x L.length (L.map (Value.int .i64)) ∧ Below w.heap.size w W' := by
  obtain ⟨i0, hi, hz0, hz1, hz2⟩ := info_parts Try.info3
  obtain ⟨w1, hw1⟩ : ∃ w1, w.alloc (.cells #[.int .i64 n, .slice A E.length c] 28) = w1 := ⟨_, rfl⟩
  obtain ⟨w2, hw2⟩ : ∃ w2, w1.alloc (.cells #[.slice none 0 0] 30) = w2 := ⟨_, rfl⟩
  have s1 : w1.heap.size = w.heap.size + 1 := by rw [← hw1]; simp
  have s2 : w2.heap.size = w.heap.size + 2 := by rw [← hw2]; simp [s1]
  have b1 : Below w.heap.size w w1 := by rw [← hw1]; exact (Below.refl _ w).alloc (Nat.le_refl _) _
  have b2 : Below w.heap.size w w2 := by rw [← hw2]; exact b1.alloc (by omega) _
  have hg2 : w2.heap[w.heap.size]? = some (.cells #[.int .i64 n, .slice A E.length c] 28) := by
    rw [← hw2, Below.heap_alloc _ _ _ (by omega), ← hw1]; exact World.alloc_heap_new _ _
  have bO : Boxed w2 (w.heap.size + 1) 30 (.slice none 0 0) := by rw [← hw2, ← s1]; exact Boxed.new _ _ _
  have c0 : w2.cell? ⟨w.heap.size, 0, none⟩ = some (.int .i64 n) := by simp [World.cell?, hg2]
  have c1 : w2.cell? ⟨w.heap.size, 1, none⟩ = some (.slice A E.length c) := by simp [World.cell?, hg2]
  refine callsIn_of_wp_marks Try.func68 rfl trivial ?_ rfl
  simp only [Try.ntmps68, List.size_toArray, List.length_cons, List.length_nil, Nat.reduceAdd, Nat.reduceSub, Array.replicate_succ, Array.replicate_zero, List.push_toArray, List.append_toArray, List.nil_append, List.cons_append]
  have f2 := Try.flat_below h (fun b hb => b2.block b hb)
  subst hw1
  subst hw2
  by_cases hR : RightP n E
  · rw [if_pos hR] at hL
    gi_wp2_with (first
      | (refine ⟨trivial, ?_⟩; gi_at_call 42; refine (Try.right_in 5 _ n E A c f2).mono ?_; rintro e W3 ⟨rfl, hb3⟩; have c0' := (hb3.cell (p := ⟨w.heap.size, 0, none⟩) (by show w.heap.size < _; rw [s2]; omega)).trans c0; have c1' := (hb3.cell (p := ⟨w.heap.size, 1, none⟩) (by show w.heap.size < _; rw [s2]; omega)).trans c1; have hd : decide (RightP n E) = true := decide_eq_true hR)
      | (refine ⟨trivial, ?_⟩; gi_at_call 58; refine (Try.near_in Fence.wide 5 trivial rfl n v A E.length c _).mono ?_; rintro e W4 ⟨rfl, rfl⟩))
    have hA4 := Try.near_at w W3 n v A c E
    have s3 : w.heap.size + 2 ≤ W3.heap.size := by have := hb3.size; rw [s2] at this; exact this
    have bO3 : Boxed W3 (w.heap.size + 1) 30 (.slice none 0 0) := (hb3.block _ (by rw [s2]; omega)).trans bO
    have b3 : Below w.heap.size w W3 := b2.trans (hb3.mono (by rw [s2]; omega))
    have hE3 := (Try.eds_of h).kept (Try.Kept.of (S := (· < w.heap.size)) b3 (fun k h => h)) (fun k h => h)
    generalize Try.nearW W3 n v (.slice A E.length c) = W4 at hA4 ⊢
    obtain ⟨s4, hb4, cg, cv⟩ := hA4
    have bO4 : Boxed W4 (w.heap.size + 1) 30 (.slice none 0 0) := (hb4.block _ (by omega)).trans bO3
    have b4 : Below w.heap.size w W4 := b3.trans (hb4.mono (by omega))
    have hE4 : Try.Eds (fun k => k < W4.heap.size ∧ k ≠ w.heap.size + 1) W4 (.slice A E.length c) E := by
      rcases hE3.kept (Try.Kept.of (S := (· < w.heap.size)) (hb4.mono (show w.heap.size ≤ _ by omega)) (fun k h => h)) (fun k h => h) with h0 | ⟨ab, ao, cap, e, hb, hc⟩
      · exact .inl h0
      · exact .inr ⟨ab, ao, cap, e, ⟨by omega, by omega⟩, hc⟩
    have hml : E.length ≤ 4000 := hR.2.2.1
    refine wpIn_rangeFunc_ownG rfl (by omega) (gf := 86) (lb := #[.pointer (some ⟨W3.heap.size, 0, none⟩), .pointer (some ⟨W3.heap.size + 1, 0, none⟩)]) rfl trivial (enters_of Try.func86 (by kernel_rfl) rfl)
      (Try.near_stops Fence.wide 5 trivial rfl (by omega) W3.heap.size (W3.heap.size + 1) (fun k => k < W4.heap.size ∧ k ≠ w.heap.size + 1) n v _ E hR W4 ⟨by omega, by omega⟩ ⟨by omega, by omega⟩ (fun k h => h.1) cg cv hE4) Try.kp_t (Try.kp_b (fun k h => h.1)) (Below.refl _ _) (fun _ => rfl)
      (fun pre W => (∃ x, Boxed W (w.heap.size + 1) 30 x ∧ W.ownsRow W4.heap.size 3 1 x pre.length (pre.map (Value.int .i64)) ∧ (x = .slice none 0 0 ↔ pre = [])) ∧ Below w.heap.size W4 W)
      (fun _ _ _ => False)
      (OwnFrom.and (Own.from (holdsRow_own W4.heap.size (w.heap.size + 1) 30 3 1 (fun pre : List Int => pre.length) (fun pre => pre.map (Value.int .i64)) (fun pre v => v = .slice none 0 0 ↔ pre = [])) _) (ownFrom_below (by omega) (by omega)))
      (fun _ _ _ _ _ hs _ _ => hs)
      ⟨⟨_, bO4, World.ownsRow_nil _ _ _ _, by simp⟩, Below.refl _ _⟩
      (fun x => { tmps := #[.agg #[.int .i64 n, .slice A E.length c], .int .i64 v, .pointer (some ⟨w.heap.size, 0, none⟩), undef, .slice none 0 0, .pointer (some ⟨w.heap.size + 1, 0, none⟩), .int .i64 x, .agg #[.int .i64 n, .slice A E.length c], .bool true, .bool false, .agg #[.int .i64 n, .slice A E.length c], .int .i64 v, .func (.func 86) #[] #[.pointer (some ⟨W3.heap.size, 0, none⟩), .pointer (some ⟨W3.heap.size + 1, 0, none⟩)], .int .i64 x, undef, undef, undef, undef, undef], defers := [] }) ?assign ?body ?done ?stop
    case assign =>
      intro l x W K hK
      gi_wp2
      exact hK
    case body =>
      rintro l pre x W ⟨⟨y, hv, hrow, hnil⟩, hB⟩ hlt
      have hc := hv.cell
      have hmx : pre.length + 1 ≤ maxLen := by unfold maxLen; omega
      have hB3 : W4.heap.size ≤ W.heap.size := hB.size
      have hw4 : w.heap.size ≤ W4.heap.size := by omega
      have hwB : w.heap.size ≤ w.heap.size + 1 := by omega
      have hm8 : (pre.length + 1) * 8 ≤ 140737488355328 := by omega
      gi_wp2_with (gi_at_builtin; refine wpListIn_append_own _ rfl _ _ 30 rfl W4.heap.size 3 i0 (.int .i64 0) 1 8 Try.underlying30 hi hz0 hz1 hz2 rfl (by decide) _ _ _ rfl (hrow.alloc _) ⟨W.heap.size, 0, none⟩ 1 1 [.int .i64 x] rfl rfl (cell_one_new _ _ _) (by simp [Value.oneCell']) hmx hm8 (by rw [World.size_alloc]; omega) ?_; intro v' w1 hown' hgrow _; obtain ⟨g', cap', rfl⟩ := ownsRow_succ hown'; obtain ⟨hv1, hv2, hr3, hk2, hb2, hk3⟩ := Try.append_step hv hrow hw4 hB3 hwB hown' hgrow; have hc1 := hv1.cell; have hf1 := hv1.frozen)
      exact ⟨hk2.from _, hk3, ⟨_, hv2, by simpa using hr3, by simp⟩, hB.trans hb2⟩
    case done =>
      rintro D ys W hD rfl ⟨⟨y, hv, hrow, hnil⟩, hB⟩ hK
      have hc := hv.cell
      gi_wp2
      refine ⟨by simp, .inl ⟨_, _, rfl, run_takeDeferred hK, ?_⟩⟩
      exact ⟨_, results_tmp rfl _ _ _, y, rfl, by rw [hL]; exact ownsRow_putObj (Try.ownsRow_base hrow (by omega)) _ hK rfl, (b4.trans hB).trans (belowK_b (w := w) (Nat.le_refl _) W D _ _ (by omega) hK rfl rfl)⟩
    case stop =>
      rintro D cd pre W _ _ h _
      exact h.elim
  · rw [if_neg hR] at hL
    subst hL
    gi_wp2_with (refine ⟨trivial, ?_⟩; gi_at_call 42; refine (Try.right_in 5 _ n E A c f2).mono ?_; rintro e W3 ⟨rfl, hb3⟩; have hd : decide (RightP n E) = false := decide_eq_false hR)
    exact ⟨_, results_tmp rfl _ _ _, _, rfl, World.ownsRow_nil _ _ _ _, b2.trans (hb3.mono (by rw [s2]; omega))⟩
/-! ### graph.Has -/
set_option maxRecDepth 100000 in
set_option maxHeartbeats 2000000 in
theorem Try.Has_in (n a b : Int) (E : List Ed) (A : Option Addr) (c : Nat) (w : World) (hE : E.length ≤ 1000000) (h : FlatOk w noLab none A c 2 (edges E)) :
    CallsIn Fence.wide 6 Try.prog 27 #[.agg #[.int .i64 n, .slice A E.length c], .int .i64 a, .int .i64 b] w fun e W' => e = .returned (.bool (decide (RightP n E) && (Go.Sh.nearL E a).elem b)) ∧ Below w.heap.size w W' := by
  obtain ⟨w1, hw1⟩ : ∃ w1, w.alloc (.cells #[.int .i64 n, .slice A E.length c] 28) = w1 := ⟨_, rfl⟩
  obtain ⟨w2, hw2⟩ : ∃ w2, w1.alloc (.cells #[.int .i64 b] 3) = w2 := ⟨_, rfl⟩
  obtain ⟨w3, hw3⟩ : ∃ w3, w2.alloc (.cells #[.bool false] 4) = w3 := ⟨_, rfl⟩
  have s1 : w1.heap.size = w.heap.size + 1 := by rw [← hw1]; simp
  have s2 : w2.heap.size = w.heap.size + 2 := by rw [← hw2]; simp [s1]
  have s3 : w3.heap.size = w.heap.size + 3 := by rw [← hw3]; simp [s2]
  have b1 : Below w.heap.size w w1 := by rw [← hw1]; exact (Below.refl _ w).alloc (Nat.le_refl _) _
  have b2 : Below w.heap.size w w2 := by rw [← hw2]; exact b1.alloc (by omega) _
  have b3 : Below w.heap.size w w3 := by rw [← hw3]; exact b2.alloc (by omega) _
  have hg3 : w3.heap[w.heap.size]? = some (.cells #[.int .i64 n, .slice A E.length c] 28) := by
    rw [← hw3, Below.heap_alloc _ _ _ (by omega), ← hw2, Below.heap_alloc _ _ _ (by omega), ← hw1]; exact World.alloc_heap_new _ _
  have bB : Boxed w3 (w.heap.size + 1) 3 (.int .i64 b) := by rw [← hw3, ← s1]; refine Boxed.alloc ?_ _; rw [← hw2]; exact Boxed.new _ _ _
  have bO : Boxed w3 (w.heap.size + 2) 4 (.bool false) := by rw [← hw3, ← s2]; exact Boxed.new _ _ _
  have c0 : w3.cell? ⟨w.heap.size, 0, none⟩ = some (.int .i64 n) := by simp [World.cell?, hg3]
  have c1 : w3.cell? ⟨w.heap.size, 1, none⟩ = some (.slice A E.length c) := by simp [World.cell?, hg3]
  refine callsIn_of_wp_marks Try.func27 rfl trivial ?_ rfl
  simp only [Try.ntmps27, List.size_toArray, List.length_cons, List.length_nil, Nat.reduceAdd, Nat.reduceSub, Array.replicate_succ, Array.replicate_zero, List.push_toArray, List.append_toArray, List.nil_append, List.cons_append]
  have f3 := Try.flat_below h (fun b hb => b3.block b hb)
  subst hw1
  subst hw2
  subst hw3
  by_cases hR : RightP n E
  · gi_wp2_with (first
      | (refine ⟨trivial, ?_⟩; gi_at_call 42; refine (Try.right_in 5 _ n E A c f3).mono ?_; rintro e W3 ⟨rfl, hb3⟩; have c0' := (hb3.cell (p := ⟨w.heap.size, 0, none⟩) (by show w.heap.size < _; rw [s3]; omega)).trans c0; have c1' := (hb3.cell (p := ⟨w.heap.size, 1, none⟩) (by show w.heap.size < _; rw [s3]; omega)).trans c1; have hd : decide (RightP n E) = true := decide_eq_true hR)
      | (refine ⟨trivial, ?_⟩; gi_at_call 58; refine (Try.near_in Fence.wide 5 trivial rfl n a A E.length c _).mono ?_; rintro e W4 ⟨rfl, rfl⟩))
    have hA4 := Try.near_at w W3 n a A c E
    have t3 : w.heap.size + 3 ≤ W3.heap.size := by have := hb3.size; rw [s3] at this; exact this
    have bB3 : Boxed W3 (w.heap.size + 1) 3 (.int .i64 b) := (hb3.block _ (by rw [s3]; omega)).trans bB
    have bO3 : Boxed W3 (w.heap.size + 2) 4 (.bool false) := (hb3.block _ (by rw [s3]; omega)).trans bO
    have d3 : Below w.heap.size w W3 := b3.trans (hb3.mono (by rw [s3]; omega))
    have hE3 := (Try.eds_of h).kept (Try.Kept.of (S := (· < w.heap.size)) d3 (fun k h => h)) (fun k h => h)
    generalize Try.nearW W3 n a (.slice A E.length c) = W4 at hA4 ⊢
    obtain ⟨s4, hb4, cg, cv⟩ := hA4
    have bB4 : Boxed W4 (w.heap.size + 1) 3 (.int .i64 b) := (hb4.block _ (by omega)).trans bB3
    have bO4 : Boxed W4 (w.heap.size + 2) 4 (.bool false) := (hb4.block _ (by omega)).trans bO3
    have d4 : Below w.heap.size w W4 := d3.trans (hb4.mono (by omega))
    have hE4 : Try.Eds (fun k => k < W4.heap.size ∧ k ≠ w.heap.size + 2) W4 (.slice A E.length c) E := by
      rcases hE3.kept (Try.Kept.of (S := (· < w.heap.size)) (hb4.mono (show w.heap.size ≤ _ by omega)) (fun k h => h)) (fun k h => h) with h0 | ⟨ab, ao, cap, e, hb, hc⟩
      · exact .inl h0
      · exact .inr ⟨ab, ao, cap, e, ⟨by omega, by omega⟩, hc⟩
    have hml : E.length ≤ 4000 := hR.2.2.1
    have hd2 : decide (RightP n E) = true := decide_eq_true hR
    refine wpIn_rangeFunc_ownG rfl (by omega) (gf := 86) (lb := #[.pointer (some ⟨W3.heap.size, 0, none⟩), .pointer (some ⟨W3.heap.size + 1, 0, none⟩)]) rfl trivial (enters_of Try.func86 (by kernel_rfl) rfl)
      (Try.near_stops Fence.wide 5 trivial rfl (by omega) W3.heap.size (W3.heap.size + 1) (fun k => k < W4.heap.size ∧ k ≠ w.heap.size + 2) n a _ E hR W4 ⟨by omega, by omega⟩ ⟨by omega, by omega⟩ (fun k h => h.1) cg cv hE4) Try.kp_t (Try.kp_b (fun k h => h.1)) (Below.refl _ _) (fun _ => rfl)
      (fun pre W => (Boxed W (w.heap.size + 1) 3 (.int .i64 b) ∧ Boxed W (w.heap.size + 2) 4 (.bool false) ∧ b ∉ pre) ∧ Below w.heap.size W4 W)
      (fun cd pre W => (cd = .ret ∧ Boxed W (w.heap.size + 2) 4 (.bool true) ∧ b ∈ pre) ∧ Below w.heap.size W4 W)
      (OwnFrom.and (fun s X Y row hs hg hr => ⟨hs.1.kept hg (fun e => by have := (hr _ e.symm).1; omega), hs.2.1.kept hg (fun e => by have := (hr _ e.symm).1; omega), hs.2.2⟩) (ownFrom_below (by omega) (by omega)))
      (fun cd => OwnFrom.and (fun s X Y row hs hg hr => ⟨hs.1, hs.2.1.kept hg (fun e => by have := (hr _ e.symm).1; omega), hs.2.2⟩) (ownFrom_below (by omega) (by omega)))
      ⟨⟨bB4, bO4, by simp⟩, Below.refl _ _⟩
      (fun x => { tmps := #[.agg #[.int .i64 n, .slice A E.length c], .int .i64 a, .int .i64 b, .pointer (some ⟨w.heap.size, 0, none⟩), undef, .pointer (some ⟨w.heap.size + 1, 0, none⟩), .pointer (some ⟨w.heap.size + 2, 0, none⟩), .int .i64 x, .agg #[.int .i64 n, .slice A E.length c], .bool true, .bool false, .agg #[.int .i64 n, .slice A E.length c], .int .i64 a, .func (.func 86) #[] #[.pointer (some ⟨W3.heap.size, 0, none⟩), .pointer (some ⟨W3.heap.size + 1, 0, none⟩)], .int .i64 x, undef, undef, undef], defers := [] }) ?assign ?body ?done ?stop
    case assign =>
      intro l x W K hK
      gi_wp2
      exact hK
    case body =>
      rintro l pre x W ⟨⟨hv, ho, hn⟩, hB⟩ hlt
      have hc := hv.cell
      have hoc := ho.cell
      have hof := ho.frozen
      by_cases hx : x = b
      · have hxb : (x == b) = true := by simpa using hx
        gi_wp2
        exact ⟨(KeepsOthers.setCell _ _ _).from _, ⟨rfl, ho.set _, by simp [hx]⟩, hB.setCell (p := ⟨w.heap.size + 2, 0, none⟩) (by show w.heap.size ≤ w.heap.size + 2; omega) _⟩
      · have hxb : (x == b) = false := by simpa using hx
        gi_wp2
        exact ⟨KeepsFrom.refl _ _, ⟨Try.Kept.refl _ _, fun _ _ _ h => h⟩, ⟨hv, ho, by simp [hn]; exact fun e => hx e.symm⟩, hB⟩
    case done =>
      rintro D ys W hD rfl ⟨⟨hv, ho, hn⟩, hB⟩ hK
      have hoc := ho.cell
      have hof := ho.frozen
      gi_wp2
      have hK' : (W.setCell ⟨w.heap.size + 2, 0, none⟩ (.bool false)).heap[D]? = some (.deferred (some [])) := by
        rw [Below.heap_setCell _ _ _ _ (by show D ≠ w.heap.size + 2; omega)]; exact hK
      refine ⟨by simp, .inl ⟨_, _, rfl, run_takeDeferred hK', ?_⟩⟩
      have hc5 := cell_kept (ho.set (.bool false)).cell (grownBy_putObj' _ D (.deferred none)) (fun r e => by cases e; exact ⟨_, hK', rfl⟩)
      refine ⟨.bool false, ?_, by rw [hd2, show (Go.Sh.nearL E a).elem b = false by simpa using hn]; rfl, ((d4.trans hB).setCell (p := ⟨w.heap.size + 2, 0, none⟩) (by show w.heap.size ≤ w.heap.size + 2; omega) _).trans (belowK_b (w := w) (Nat.le_refl _) _ D _ _ (by omega) hK' rfl rfl)⟩
      simp [results, Try.f27, go_sem, hc5]
    case stop =>
      rintro D cd pre W hD hpre ⟨⟨rfl, ho, hn⟩, hB⟩ hK
      gi_wp2
      refine ⟨by simp, .inl ⟨_, _, rfl, run_takeDeferred hK, ?_⟩⟩
      have hc5 := cell_kept ho.cell (grownBy_putObj' _ D (.deferred none)) (fun r e => by cases e; exact ⟨_, hK, rfl⟩)
      refine ⟨.bool true, ?_, by rw [hd2, show (Go.Sh.nearL E a).elem b = true by simpa using hpre.subset hn]; rfl, (d4.trans hB).trans (belowK_b (w := w) (Nat.le_refl _) _ D _ _ (by omega) hK rfl rfl)⟩
      simp [results, Try.f27, go_sem, hc5]
  · gi_wp2_with (refine ⟨trivial, ?_⟩; gi_at_call 42; refine (Try.right_in 5 _ n E A c f3).mono ?_; rintro e W3 ⟨rfl, hb3⟩; have hd : decide (RightP n E) = false := decide_eq_false hR; have bO3 : Boxed W3 (w.heap.size + 2) 4 (.bool false) := (hb3.block _ (by rw [s3]; omega)).trans bO; have hoc := bO3.cell; have hof := bO3.frozen)
    have bO3 : Boxed W3 (w.heap.size + 2) 4 (.bool false) := (hb3.block _ (by rw [s3]; omega)).trans bO
    have hc5 := (bO3.set (.bool false)).cell
    refine ⟨.bool false, ?_, by rw [decide_eq_false hR]; rfl, (b3.trans (hb3.mono (by rw [s3]; omega))).setCell (p := ⟨w.heap.size + 2, 0, none⟩) (by show w.heap.size ≤ w.heap.size + 2; omega) _⟩
    simp [results, Try.f27, go_sem, hc5]
end Go.Proofs

set_option linter.unusedVariables false
set_option linter.unusedSimpArgs false
namespace Go.Sh
open Go.Proofs Go.RowKit Go.Shelf
/-! ### graph.Near, graph.Has: contracts -/
theorem own_flat {w : World} {base : Nat} {x : Value} {L : List Int} {e : TypeId} (h : w.ownsRow base e 1 x L.length (L.map (Value.int .i64))) : ∃ lab : Nat → Option Key, (∀ b k, lab b = some k → base ≤ b ∧ b < w.heap.size) ∧ VOk w lab 0 (.one (.flat true 1 (ints L))) x := by
  rcases h.2 with ⟨rfl, h0⟩ | ⟨g, cap, cur, rfl, hb, hg, h1, h2, h3, h4⟩
  · have : L = [] := List.eq_nil_of_length_eq_zero h0
    subst this
    exact ⟨noLab, fun b k h => by simp [noLab] at h, ⟨none, 0, fun _ => none, fun _ => 0⟩, rfl, ⟨by simp [ints], by omega, fun i row h => by simp [ints] at h, fun i row j x h => by simp [ints] at h, fun _ => .inl ⟨rfl, rfl⟩⟩⟩
  · have hgl : g < w.heap.size := (Array.getElem?_eq_some_iff.1 hg).1
    refine ⟨fun b => if b = g then some (0, none) else none, fun b k h => ?_, ⟨some ⟨g, 0, none⟩, cap, fun _ => none, fun _ => 0⟩, by show Value.slice _ _ _ = .slice _ (ints L).length _; rw [ints_length], ?_⟩
    · dsimp only at h
      split at h
      · rename_i e; subst e; exact ⟨hb, hgl⟩
      · cases h
    · have hm : cap ≤ 9223372036854775807 := by unfold maxLen at h2; omega
      refine ⟨by rw [ints_length]; exact h1, by omega, fun i row hi => ?_, fun i row j x hi hj => ?_, fun _ => .inr ⟨g, 0, cur, e, rfl, by simp, hg, by show 0 + cap * 1 ≤ cur.size; omega, hm⟩⟩
      · simp only [ints, List.getElem?_map, Option.map_eq_some_iff] at hi
        obtain ⟨y, _, rfl⟩ := hi; rfl
      · simp only [ints, List.getElem?_map, Option.map_eq_some_iff] at hi
        obtain ⟨y, hy, rfl⟩ := hi
        have hj0 : j = 0 := by
          cases j with
          | zero => rfl
          | succ j => simp at hj
        subst hj0
        simp at hj
        subst hj
        refine ⟨_, rfl, by simp, ?_⟩
        rw [Addr.add_plain, cells_at hg]
        have hil := (List.getElem?_eq_some_iff.1 hy).1
        have h5 : (cur.toList.take (L.length * 1))[i]? = some (.int .i64 y) := by rw [h4, List.getElem?_map, hy]; rfl
        rw [List.getElem?_take_of_lt (by omega)] at h5
        rw [Nat.mul_one, Nat.add_zero, Nat.zero_add, ← Array.getElem?_toList]
        exact h5
def nearG (n : Int) (E : List Ed) (v : Int) : List Int := if RightP n E then nearL E v else []
def hasG (n : Int) (E : List Ed) (a b : Int) : Bool := decide (RightP n E) && (nearL E a).elem b
noncomputable def NearGC : Con := conP 2 (fun a : (Int × List Ed) × Int => a.1.2.length ≤ 1000000) (fun a => [grV a.1.1 a.1.2, .one (.s (.i .i64 a.2))]) (fun a => .one (.flat true 1 (ints (nearG a.1.1 a.1.2 a.2))))
theorem NearGC_at {n : Int} {E : List Ed} (v : Int) (h : E.length ≤ 1000000) : NearGC.F [grV n E, .one (.s (.i .i64 v))] = some (.one (.flat true 1 (ints (nearG n E v))), []) :=
  conP_at (a := ((n, E), v)) (fun a b _ _ h => by
    obtain ⟨⟨n, E⟩, v⟩ := a
    obtain ⟨⟨n', E'⟩, v'⟩ := b
    simp at h
    obtain ⟨h1, h2⟩ := h
    obtain ⟨rfl, rfl⟩ := grV_inj h1
    subst h2
    rfl) h
noncomputable def HasGC : Con := conP 3 (fun a : (Int × List Ed) × Int × Int => a.1.2.length ≤ 1000000) (fun a => [grV a.1.1 a.1.2, .one (.s (.i .i64 a.2.1)), .one (.s (.i .i64 a.2.2))]) (fun a => .one (.s (.b (hasG a.1.1 a.1.2 a.2.1 a.2.2))))
theorem HasGC_at {n : Int} {E : List Ed} (a b : Int) (h : E.length ≤ 1000000) : HasGC.F [grV n E, .one (.s (.i .i64 a)), .one (.s (.i .i64 b))] = some (.one (.s (.b (hasG n E a b))), []) :=
  conP_at (a := ((n, E), a, b)) (fun x y _ _ h => by
    obtain ⟨⟨n, E⟩, a, b⟩ := x
    obtain ⟨⟨n', E'⟩, a', b'⟩ := y
    simp at h
    obtain ⟨h1, h2, h3⟩ := h
    obtain ⟨rfl, rfl⟩ := grV_inj h1
    subst h2 h3
    rfl) h
theorem us_int {w : World} {q : Nat} {v : Int} {u : Value} (h : V1Ok w noLab q (.one (.s (.i .i64 v))) u) : u = .int .i64 v := by
  obtain ⟨x, h⟩ := h; exact h
theorem Near_ok : SoundC Try.prog T 68 NearGC := by
  refine sound_pure Try.func68 (by rfl) (by rfl) (by simp [NearGC, conP]) ?_
  intro vs r outs hF w us hus
  obtain ⟨⟨⟨n, E⟩, v⟩, hl, rfl, rfl⟩ := conF_inv (pre := fun a : (Int × List Ed) × Int => a.1.2.length ≤ 1000000) (enc := fun a => [grV a.1.1 a.1.2, .one (.s (.i .i64 a.2))]) (val := fun a => .one (.flat true 1 (ints (nearG a.1.1 a.1.2 a.2)))) hF
  dsimp only at hl hus ⊢
  obtain ⟨u1, u2, hu, h1, h2⟩ : ∃ u1 u2, us.toList = [u1, u2] ∧ V1Ok w noLab 0 (grV n E) u1 ∧ V1Ok w noLab (0 + 2) (.one (.s (.i .i64 v))) u2 := by
    match h : us.toList, hus with
    | [u1, u2], hus => exact ⟨u1, u2, rfl, hus.1, hus.2.1⟩
    | [], hus => exact hus.elim
    | [_], hus => exact hus.2.elim
    | _ :: _ :: _ :: _, hus => exact hus.2.2.elim
  obtain rfl : us = #[u1, u2] := by cases us; simp_all
  obtain ⟨A, c, rfl, hA⟩ := Try.gr_of h1
  rw [us_int h2]
  refine ((callsIn_wide (n := 6)).1 (Try.Near_in n v E A c w hl hA (nearG n E v) rfl)).mono ?_
  rintro e w' ⟨x, rfl, hx, hb⟩
  obtain ⟨lab, hlab, hv⟩ := own_flat hx
  exact ⟨x, lab, rfl, ⟨hb.os, .of hb.tape, hb.output, hb.size, fun b h _ => hb.block b h⟩, hlab, hv⟩
theorem Has_ok : SoundC Try.prog T 27 HasGC := by
  refine sound_pure Try.func27 (by rfl) (by rfl) (by simp [HasGC, conP]) ?_
  intro vs r outs hF w us hus
  obtain ⟨⟨⟨n, E⟩, a, b⟩, hl, rfl, rfl⟩ := conF_inv (pre := fun a : (Int × List Ed) × Int × Int => a.1.2.length ≤ 1000000) (enc := fun a => [grV a.1.1 a.1.2, .one (.s (.i .i64 a.2.1)), .one (.s (.i .i64 a.2.2))]) (val := fun a => .one (.s (.b (hasG a.1.1 a.1.2 a.2.1 a.2.2)))) hF
  dsimp only at hl hus ⊢
  obtain ⟨u1, u2, u3, hu, h1, h2, h3⟩ : ∃ u1 u2 u3, us.toList = [u1, u2, u3] ∧ V1Ok w noLab 0 (grV n E) u1 ∧ V1Ok w noLab (0 + 2) (.one (.s (.i .i64 a))) u2 ∧ V1Ok w noLab (0 + 2 + 1) (.one (.s (.i .i64 b))) u3 := by
    match h : us.toList, hus with
    | [u1, u2, u3], hus => exact ⟨u1, u2, u3, rfl, hus.1, hus.2.1, hus.2.2.1⟩
    | [], hus => exact hus.elim
    | [_], hus => exact hus.2.elim
    | [_, _], hus => exact hus.2.2.elim
    | _ :: _ :: _ :: _ :: _, hus => exact hus.2.2.2.elim
  obtain rfl : us = #[u1, u2, u3] := by cases us; simp_all
  obtain ⟨A, c, rfl, hA⟩ := Try.gr_of h1
  rw [us_int h2, us_int h3]
  refine ((callsIn_wide (n := 6)).1 (Try.Has_in n a b E A c w hl hA)).mono ?_
  rintro e w' ⟨rfl, hb⟩
  exact ⟨_, noLab, rfl, ⟨hb.os, .of hb.tape, hb.output, hb.size, fun b h _ => hb.block b h⟩, fun b k h => by simp [noLab] at h, ⟨⟨none, 0, fun _ => none, fun _ => 0⟩, rfl⟩⟩
end Go.Sh

namespace Go.Proofs
open Go.RowKit Go.Shelf Go.Maps Go.Sort

attribute [local go_sem] Oper.semAt_some
set_option maxRecDepth 100000 in
set_option maxHeartbeats 2000000 in
theorem Try.collect_in (F : Fence) (n : Nat) (h102 : F.fn 118) (h116 : F.fn 136) (h103 : F.fn 119) (hro : F.round = none) (hn : 4 ≤ n) (Bs n₀ : Nat) (sv : Value) (zs : List Int) (hlen : zs.length ≤ maxLen) (hreach : zs.length * 8 ≤ 140737488351232) (w : World) (hBs : Bs < w.heap.size) (hn₀ : n₀ ≤ w.heap.size)
    (hc : w.cell? ⟨Bs, 0, none⟩ = some sv) (hI : Try.Ints n₀ w sv zs) :
    CallsIn F n Try.prog 118 #[.func (.func 119) #[] #[.pointer (some ⟨Bs, 0, none⟩)]] w fun e W' => ∃ v, e = .returned v ∧ W'.ownsRow w.heap.size 3 1 v zs.length (zs.map (Value.int .i64)) ∧ (v = .slice none 0 0 ↔ zs = []) ∧ Below w.heap.size w W' := by
  have h1 : 1 ≤ n := by omega
  refine callsIn_of_wp Try.func118 rfl h102 ?_ hro
  simp only [Try.ntmps118, List.size_toArray, List.length_cons, List.length_nil, Nat.reduceAdd, Nat.reduceSub, Array.replicate_succ, Array.replicate_zero, List.push_toArray, List.append_toArray, List.nil_append, List.cons_append]
  gi_wp2_with (gi_at_call 136; refine (Try.appendSeq_in F (n - 1) h116 h103 hro (by omega) Bs n₀ sv zs hlen hreach w hBs hn₀ hc hI).mono ?_; rintro e w' ⟨v, rfl, hrow, hnil, hB⟩)
  go_ret
  exact ⟨v, rfl, hrow, hnil, hB⟩
def Try.SortsIn (F : Fence) (m : Nat) : Prop :=
  (∀ (blk off cap : Nat) (ss : List Int) (W : World), Holds (Value.int .i64) W blk off ss.toArray → blk < W.heap.size → ss.length < 4611686018427387904 →
    CallsIn F m Try.prog 59 #[.slice (some ⟨blk, off, none⟩) ss.length cap] W fun e w' => e = .returned (.tuple #[]) ∧ ∃ k os, w' = grow (putRow (Value.int .i64) (Sort.ahead W k) blk off (ss.mergeSort fun x y => decide (x ≤ y)).toArray) os) ∧
  (∀ (p : Option Addr) (cap : Nat) (W : World), CallsIn F m Try.prog 59 #[.slice p 0 cap] W fun e w' => e = .returned (.tuple #[]) ∧ w' = W)
theorem Try.sortsIn (m : Nat) : Try.SortsIn Fence.wide m :=
  ⟨fun blk off cap ss W h1 h2 h3 => callsIn_wide.2 (Any.slices_Sort_int Try.laysSort blk off cap ss W h1 h2 h3), fun p cap W => callsIn_wide.2 (Any.slices_Sort_int_none Try.laysSort p cap W)⟩
set_option maxRecDepth 100000 in
set_option maxHeartbeats 2000000 in
theorem Try.sorted_in (F : Fence) (n : Nat) (h92 : F.fn 91) (h84 : F.fn 59) (h102 : F.fn 118) (h116 : F.fn 136) (h103 : F.fn 119) (hro : F.round = none) (hn : 5 ≤ n) (hsort : Try.SortsIn F (n - 1)) (Bs n₀ : Nat) (sv : Value) (zs : List Int) (hlen : zs.length ≤ maxLen) (hreach : zs.length * 8 ≤ 140737488351232) (w : World) (hBs : Bs < w.heap.size) (hn₀ : n₀ ≤ w.heap.size)
    (hc : w.cell? ⟨Bs, 0, none⟩ = some sv) (hI : Try.Ints n₀ w sv zs) :
    CallsIn F n Try.prog 91 #[.func (.func 119) #[] #[.pointer (some ⟨Bs, 0, none⟩)]] w fun e W' => ∃ v, e = .returned v ∧ W'.ownsRow w.heap.size 3 1 v zs.length ((zs.mergeSort (fun x y => decide (x ≤ y))).map (Value.int .i64)) ∧ (v = .slice none 0 0 ↔ zs = []) ∧ Below w.heap.size w W' := by
  have h1 : 1 ≤ n := by omega
  refine callsIn_of_wp Try.func91 rfl h92 ?_ hro
  simp only [Try.ntmps91, List.size_toArray, List.length_cons, List.length_nil, Nat.reduceAdd, Nat.reduceSub, Array.replicate_succ, Array.replicate_zero, List.push_toArray, List.append_toArray, List.nil_append, List.cons_append]
  gi_wp2_with (gi_at_call 118; refine (Try.collect_in F (n - 1) h102 h116 h103 hro (by omega) Bs n₀ sv zs hlen hreach w hBs hn₀ hc hI).mono ?_; rintro e W ⟨v, rfl, hrow, hnil, hb⟩)
  rcases hrow.2 with ⟨rfl, hz⟩ | ⟨gb, cap, cur, rfl, hbase, hgb, r1, r2, r3, r4⟩
  · have hss : zs = [] := List.eq_nil_of_length_eq_zero hz
    subst hss
    gi_wp2_with (gi_at_call 59; refine (hsort.2 none 0 W).mono ?_; rintro e w' ⟨rfl, rfl⟩)
    go_ret
    exact ⟨.slice none 0 0, rfl, by simpa using hrow, by simp, hb⟩
  · have hH : Holds (Value.int .i64) W gb 0 zs.toArray := holds_of_block_i hgb (by simpa using r4)
    have hgl : gb < W.heap.size := (Array.getElem?_eq_some_iff.1 hgb).1
    have hsz : zs.length < 4611686018427387904 := by omega
    have cS := hsort.1 gb 0 cap zs W hH hgl hsz
    gi_wp2_with (gi_at_call 59; refine cS.mono ?_; rintro e w' ⟨rfl, nn, os, rfl⟩)
    go_ret
    exact ⟨_, rfl, ownsRow_sorted_i (by simp) hbase hgb r1 r2 r3, hnil, hb.grown (grownBy_sorted_i _) hb.size (fun j hj => by cases hj; exact hbase)⟩
end Go.Proofs

namespace Go.Proofs
open Go.RowKit Go.Shelf Go.Maps Go.Sort

theorem Try.keeps_iff (s : List Int) (j : Nat) (hj : j < s.length) : Lib.keeps s.toArray j = true ↔ (j = 0 ∨ s[j] ≠ s[j - 1]'(by omega)) := by
  have h1 : s.toArray[j]! = s[j] := by rw [getElem!_pos _ j (by simpa using hj)]; simp
  have h2 : s.toArray[j - 1]! = s[j - 1]'(by omega) := by rw [getElem!_pos _ (j - 1) (by simp; omega)]; simp
  unfold Lib.keeps
  rw [h1, h2]
  simp
theorem Try.compact_nodup {s : List Int} (hs : s.Pairwise (· ≤ ·)) : (Lib.compact s).length = s.length ↔ s.Nodup := by
  unfold Lib.compact Lib.compactUpTo
  rw [List.length_map]
  have hr : s.length = (List.range s.length).length := by simp
  constructor
  · intro h
    have hall : ∀ j ∈ List.range s.length, Lib.keeps s.toArray j = true := by
      refine List.length_filter_eq_length_iff.1 ?_
      rw [h]; exact hr
    have hlt : ∀ i j (hij : i < j) (hj : j < s.length), s[i]'(by omega) < s[j] := by
      intro i j hij hj
      have hk := (Try.keeps_iff s j hj).1 (hall j (List.mem_range.2 hj))
      have hne : s[j] ≠ s[j - 1]'(by omega) := by rcases hk with h | h <;> first | omega | exact h
      have hle : s[j - 1]'(by omega) ≤ s[j] := by
        have := List.pairwise_iff_getElem.1 hs (j - 1) j (by omega) hj (by omega)
        exact this
      have h2 : s[i]'(by omega) ≤ s[j - 1]'(by omega) := by
        rcases Nat.eq_or_lt_of_le (show i ≤ j - 1 by omega) with e | h
        · subst e; exact Int.le_refl _
        · exact List.pairwise_iff_getElem.1 hs i (j - 1) (by omega) (by omega) h
      omega
    exact List.pairwise_iff_getElem.2 fun i j hi hj hij => by have := hlt i j hij hj; omega
  · intro h
    rw [List.length_filter_eq_length_iff.2 ?_]
    · simp
    · intro j hj
      have hj := List.mem_range.1 hj
      rw [Try.keeps_iff s j hj]
      by_cases h0 : j = 0
      · exact .inl h0
      · have := List.pairwise_iff_getElem.1 h (j - 1) j (by omega) hj (by omega)
        exact .inr fun e => this e.symm
def Try.sortL (zs : List Int) : List Int := zs.mergeSort (fun x y => decide (x ≤ y))
theorem Try.sortL_sorted (zs : List Int) : (Try.sortL zs).Pairwise (· ≤ ·) := by
  have := List.pairwise_mergeSort (le := fun a b : Int => decide (a ≤ b)) (fun a b c h1 h2 => by simp at *; omega) (fun a b => by simp; omega) zs
  exact this.imp (fun h => by simpa using h)
theorem Try.compact_sort (zs : List Int) : (Lib.compact (Try.sortL zs)).length = zs.length ↔ zs.Nodup := by
  have hp : (Try.sortL zs).Perm zs := List.mergeSort_perm zs _
  rw [← hp.length_eq, Try.compact_nodup (Try.sortL_sorted zs), hp.nodup_iff]
def Try.CompactsIn (F : Fence) (m : Nat) : Prop :=
  (∀ (blk off cap : Nat) (zs : List Int) (w : World), Holds (Value.int .i64) w blk off zs.toArray → zs.length ≤ 9223372036854775807 → zs.length ≤ cap →
    CallsIn F m Try.prog 93 #[.slice (some ⟨blk, off, none⟩) zs.length cap] w fun e w' => e = .returned (.slice (some ⟨blk, off, none⟩) (Lib.compact zs).length cap) ∧ ∃ q, w' = putRow (Value.int .i64) (Sort.ahead w q) blk off (Lib.compact zs ++ List.replicate (zs.length - (Lib.compact zs).length) 0).toArray) ∧
  (∀ (a : Option Addr) (cap : Nat) (w : World), CallsIn F m Try.prog 93 #[.slice a 0 cap] w fun e w' => e = .returned (.slice a 0 cap) ∧ w' = w)
theorem Try.compactsIn (m : Nat) : Try.CompactsIn Fence.wide m :=
  ⟨fun blk off cap ss W h1 h2 h3 => callsIn_wide.2 (Any.slices_Compact_int Try.laysCompact blk off cap ss W h1 h2 h3), fun p cap W => callsIn_wide.2 (Any.slices_Compact_int_empty Try.laysCompact p cap W)⟩
set_option maxRecDepth 100000 in
set_option maxHeartbeats 2000000 in
theorem Try.unlike_in (F : Fence) (n : Nat) (h77 : F.fn 61) (h93 : F.fn 92) (h94 : F.fn 93) (h92 : F.fn 91) (h84 : F.fn 59) (h102 : F.fn 118) (h116 : F.fn 136) (h103 : F.fn 119) (hro : F.round = none) (hn : 6 ≤ n) (hsort : Try.SortsIn F (n - 1 - 1)) (hcomp : Try.CompactsIn F (n - 1)) (a : Option Addr) (cap : Nat) (zs : List Int) (hlen : zs.length ≤ 1000000) (w : World)
    (hI : Try.Ints w.heap.size w (.slice a zs.length cap) zs) :
    CallsIn F n Try.prog 61 #[.slice a zs.length cap] w fun e W' => e = .returned (.bool (decide zs.Nodup)) ∧ Below w.heap.size w W' := by
  have h1 : 1 ≤ n := by omega
  have hml : zs.length ≤ maxLen := by unfold maxLen; omega
  have hB0 : Below w.heap.size w (w.alloc (.cells #[.slice a zs.length cap] 30)) := ((Below.refl _ w).alloc (Nat.le_refl _) _)
  have bO := Boxed.new w 30 (.slice a zs.length cap)
  have hcs := Try.compact_sort zs
  have hsl : (Try.sortL zs).length = zs.length := (List.mergeSort_perm zs _).length_eq
  refine callsIn_of_wp Try.func61 rfl h77 ?_ hro
  simp only [Try.ntmps61, List.size_toArray, List.length_cons, List.length_nil, Nat.reduceAdd, Nat.reduceSub, Array.replicate_succ, Array.replicate_zero, List.push_toArray, List.append_toArray, List.nil_append, List.cons_append]
  gi_wp2_with (first
    | (gi_at_call 92; refine (Try.values_in F (n - 1) h93 hro _ _ _ _).mono ?_; rintro e w' ⟨rfl, rfl⟩)
    | (gi_at_call 91; refine (Try.sorted_in F (n - 1) h92 h84 h102 h116 h103 hro (by omega) hsort w.heap.size w.heap.size _ zs hml (by omega) _ (by simp) (by simp) bO.cell (hI.below hB0)).mono ?_; rintro e W ⟨v, rfl, hrow, hnil, hb⟩))
  rcases hrow.2 with ⟨rfl, hz⟩ | ⟨gb, cap', cur, rfl, hbase, hgb, r1, r2, r3, r4⟩
  · have hss : zs = [] := List.eq_nil_of_length_eq_zero hz
    subst hss
    gi_wp2_with (gi_at_call 93; refine (hcomp.2 none 0 W).mono ?_; rintro e w' ⟨rfl, rfl⟩)
    go_ret
    exact ⟨rfl, hB0.trans (hb.mono (by simp))⟩
  · have hH : Holds (Value.int .i64) W gb 0 (Try.sortL zs).toArray := holds_of_block_i hgb (by rw [hsl]; simpa [Try.sortL] using r4)
    have hsz : (Try.sortL zs).length ≤ 9223372036854775807 := by omega
    have cS := hcomp.1 gb 0 cap' (Try.sortL zs) W hH hsz (by omega)
    rw [hsl] at cS
    gi_wp2_with (gi_at_call 93; refine cS.mono ?_; rintro e w' ⟨rfl, q, rfl⟩)
    go_ret
    have hg : W.grownBy (putRow encZ (Sort.ahead W q) gb 0 (Lib.compact (Try.sortL zs) ++ List.replicate (zs.length - (Lib.compact (Try.sortL zs)).length) 0).toArray) (some gb) := by
      have := grownBy_sorted_i (w := W) (g := gb) (n := q) (os := #[]) (Lib.compact (Try.sortL zs) ++ List.replicate (zs.length - (Lib.compact (Try.sortL zs)).length) 0).toArray
      rwa [grow_empty] at this
    have hb1 : Below w.heap.size w W := hB0.trans (hb.mono (by simp))
    refine ⟨?_, hb1.grown hg hb1.size (fun j hj => by cases hj; simp at hbase; omega)⟩
    show Ending.returned (.bool (((Lib.compact (Try.sortL zs)).length : Int) == (zs.length : Int))) = _
    congr 2
    by_cases hd : zs.Nodup
    · rw [decide_eq_true hd, hcs.2 hd]; simp
    · rw [decide_eq_false hd]
      exact beq_eq_false_iff_ne.2 fun h => hd (hcs.1 (by omega))
open Go.Sh in
theorem Try.ints_of {w : World} {l : List Int} {A : Option Addr} {c : Nat} (h : FlatOk w noLab none A c 1 (ints l)) : Try.Ints w.heap.size w (.slice A l.length c) l := by
  cases l with
  | nil => exact .inl ⟨rfl, A, c, rfl⟩
  | cons x l =>
    obtain ⟨a, rfl, _, h0⟩ := h.cell 0 [.i .i64 x] 0 (.i .i64 x) rfl rfl
    refine .inr ⟨a, c, rfl, ?_, fun j hj => ?_⟩
    · have h0 : w.cell? (a.add (0 * 1 + 0)) = some (Sc.val (.i .i64 x)) := h0
      have e : (a.add (0 * 1 + 0)).block = a.block := Try.add_block a _
      rw [← e]
      generalize a.add (0 * 1 + 0) = p at h0
      simp only [World.cell?] at h0
      by_cases hp : p.block < w.heap.size
      · exact hp
      · rw [Array.getElem?_eq_none (by omega)] at h0
        simp at h0
    · have hg := List.getElem?_eq_getElem hj
      obtain ⟨b, hb, _, hc⟩ := h.cell j [.i .i64 (x :: l)[j]] 0 (.i .i64 (x :: l)[j]) (ints_get hg) rfl
      injection hb with hb
      subst hb
      rw [Nat.mul_one, Nat.add_zero] at hc
      rw [hc, hg]; rfl
end Go.Proofs


set_option linter.unusedVariables false
namespace Go.Sh
open Go.Proofs
/-! ### walk.unlike -/
theorem Unlike_ok : SoundC Try.prog T 61 UnlikeC := by
  refine sound_pure Try.func61 (by rfl) (by rfl) (by simp [UnlikeC, conP]) ?_
  intro vs r outs hF w us hus
  obtain ⟨l, hl, rfl, rfl⟩ := conF_inv (pre := fun l : List Int => l.length ≤ 1000000) (enc := fun l => [.one (.flat false 1 (ints l))]) (val := fun l => .one (.s (.b (decide l.Nodup)))) hF
  have hl : l.length ≤ 1000000 := hl
  obtain ⟨u, hu⟩ : ∃ u, us.toList = [u] ∧ V1Ok w noLab 0 (.one (.flat false 1 (ints l))) u := by
    cases h : us.toList with
    | nil => rw [h] at hus; exact hus.elim
    | cons u r =>
      rw [h] at hus
      cases r with
      | nil => exact ⟨u, rfl, hus.1⟩
      | cons _ _ => exact hus.2.elim
  obtain ⟨he, ⟨x, hx, hF⟩⟩ := hu
  obtain rfl : us = #[u] := by cases us; simp_all
  subst hx
  rw [ints_length]
  refine ((callsIn_wide (n := 6)).1 (Try.unlike_in Fence.wide 6 trivial trivial trivial trivial trivial trivial trivial trivial rfl (by omega) (Try.sortsIn _) (Try.compactsIn _) x.A x.c l hl w (Try.ints_of hF))).mono ?_
  rintro e w' ⟨rfl, hb⟩
  exact ⟨_, noLab, rfl, ⟨hb.os, .of hb.tape, hb.output, hb.size, fun b h _ => hb.block b h⟩, fun b k h => by simp [noLab] at h, ⟨⟨none, 0, fun _ => none, fun _ => 0⟩, rfl⟩⟩
end Go.Sh

set_option linter.unusedVariables false
set_option linter.unusedSimpArgs false
namespace Go.Sh
open Go.Proofs
/-! ### walk.IsPath -/
noncomputable def TopsC : Con := conP 1 (fun _ : Int => True) (fun k => [.one (.s (.i .i64 k))]) (fun k => .one (.s (.i .i64 (if k = 1 then 4 else 2))))
theorem TopsC_at (k : Int) : TopsC.F [.one (.s (.i .i64 k))] = some (.one (.s (.i .i64 (if k = 1 then 4 else 2))), []) :=
  conP_at (a := k) (fun x y _ _ h => by simp at h; rw [h]) trivial
theorem Tops_ok : SoundC Try.prog T 63 TopsC := by
  refine sound_con (X := { Γ := [], T := T, nt := 5 }) cr_none hmix hT sound_nil Try.func63 (by rfl) (by rfl) (by rfl) (by rfl) 1 ?_
  rintro k -
  refine ⟨⟨Nat.le_of_ble_eq_true rfl, Nat.le_of_ble_eq_true rfl⟩, ?_⟩
  refine Pick.by (fun h1 => ?_) (fun h1 => ?_)
  · have h1 : k = 1 := by simpa using h1
    refine ⟨rfl, ?_⟩
    show _ = _
    rw [if_pos h1]
  · have h1 : ¬ k = 1 := by simpa using h1
    refine ⟨rfl, ?_⟩
    show _ = _
    rw [if_neg h1]
noncomputable def PathC : Con := conP 2 (fun a : (Int × List Ed) × List Int => a.2.length ≤ 1000000) (fun a => [grV a.1.1 a.1.2, .one (.flat false 1 (ints a.2))]) (fun a => .one (.s (.b (pathB a.1.1 a.1.2 a.2))))
theorem PathC_at {n : Int} {E : List Ed} {l : List Int} (h : l.length ≤ 1000000) : PathC.F [grV n E, .one (.flat false 1 (ints l))] = some (.one (.s (.b (pathB n E l))), []) :=
  conP_at (a := ((n, E), l)) (fun a b _ _ h => by
    obtain ⟨⟨n, E⟩, l⟩ := a
    obtain ⟨⟨n', E'⟩, l'⟩ := b
    simp at h
    obtain ⟨h1, h2⟩ := h
    obtain ⟨rfl, rfl⟩ := grV_inj h1
    rw [ints_inj h2]) h
theorem noP {n : Int} {E : List Ed} {l : List Int} (h : ¬ PathP n E l) : Sc.b false = Sc.b (pathB n E l) := by rw [pathB_no h]
theorem hasG_adj {n : Int} {E : List Ed} {a b : Int} (hR : RightP n E) : hasG n E a b = true ↔ adjE E a b := by
  unfold hasG
  rw [decide_eq_true hR, Bool.true_and, List.elem_iff, mem_nearL]
set_option maxHeartbeats 1000000 in
theorem Path_ok : SoundC Try.prog T 29 PathC := by
  refine sound_con (X := { Γ := [(42, RightC), (61, UnlikeC), (27, HasGC)], T := T, nt := 52 }) cr_none hmix hT (sound_cons RightG_ok (sound_cons Unlike_ok (sound_cons Has_ok sound_nil))) Try.func29 (by rfl) (by rfl) (by rfl) (by rfl) 3 ?_
  rintro ⟨⟨n, E⟩, l⟩ hl
  dsimp only at hl
  refine ⟨⟨Nat.le_of_ble_eq_true rfl, Nat.le_of_ble_eq_true rfl⟩, ?_⟩
  refine Call.by _ _ (RightC_at n E) ?_
  refine Pick.by (fun h1 => ?_) (fun h1 => ?_)
  · have h1 : ¬ RightP n E := by have h1 : (!decide (RightP n E)) = true := h1; simpa using h1
    refine Seg.by (by kernel_rfl) ?_
    refine ⟨rfl, ?_⟩
    show Sc.b false = Sc.b (pathB n E l)
    exact noP fun h => h1 h.1
  have h1 : RightP n E := by have h1 : (!decide (RightP n E)) = false := h1; simpa using h1
  refine Pick.by (fun h2 => ?_) (fun h2 => ?_)
  · have h2 : l = [] := by simpa [ints] using h2
    refine Seg.by (by kernel_rfl) ?_
    refine ⟨rfl, ?_⟩
    show Sc.b false = Sc.b (pathB n E l)
    exact noP fun h => h.2.1 h2
  have h2 : l ≠ [] := by simpa [ints] using h2
  have hpos : 0 < l.length := List.length_pos_iff.2 h2
  have hhd : l[0] = l.headD 0 := by cases l with | nil => exact absurd rfl h2 | cons a l => rfl
  refine Idx.by 0 rfl (by rw [ints_length]; exact hpos) ?_
  refine Look.by _ (ints_get (List.getElem?_eq_getElem hpos)) ?_
  refine Pick.by (fun h3 => ?_) (fun h3 => ?_)
  · have h3 : l[0] < 0 := of_decide_eq_true h3
    refine Seg.by (by kernel_rfl) ?_
    refine ⟨rfl, ?_⟩
    show Sc.b false = Sc.b (pathB n E l)
    exact noP fun h => by have := h.2.2.1; omega
  have h3 : ¬ l[0] < 0 := of_decide_eq_false h3
  refine Idx.by 0 rfl (by rw [ints_length]; exact hpos) ?_
  refine Look.by _ (ints_get (List.getElem?_eq_getElem hpos)) ?_
  refine Pick.by (fun h4 => ?_) (fun h4 => ?_)
  · have h4 : l[0] ≥ n := of_decide_eq_true h4
    refine Seg.by (by kernel_rfl) ?_
    refine ⟨rfl, ?_⟩
    show Sc.b false = Sc.b (pathB n E l)
    exact noP fun h => by have := h.2.2.1; omega
  have h4 : ¬ l[0] ≥ n := of_decide_eq_false h4
  refine Call.by _ _ (UnlikeC_at hl) ?_
  refine Seg.by (by kernel_rfl) ?_
  refine Pick.by (fun h5 => ?_) (fun h5 => ?_)
  · have h5 : ¬ l.Nodup := by have h5 : (!decide l.Nodup) = true := h5; simpa using h5
    refine ⟨rfl, ?_⟩
    show Sc.b false = Sc.b (pathB n E l)
    exact noP fun h => h5 h.2.2.2.1
  have h5 : l.Nodup := by have h5 : (!decide l.Nodup) = false := h5; simpa using h5
  have hE4 := h1.2.2.1
  refine Pick.T (inI64_of (by rw [ints_length]; show _ ≤ (l.length : Int) - 1; omega) (by rw [ints_length]; show (l.length : Int) - 1 ≤ _; omega)) ?_
  refine LoopP.intro (α := Nat) (fun k => k + 1 ≤ l.length ∧ ∀ i, i < k → adjE E (l.getD i 0) (l.getD (i + 1) 0)) (fun k => l.length - k) (fun k => [(1, .sl 2 none none), (2, .ptr 0 0), (35, .s (.i .i64 ((l.length : Int) - 1))), (36, .s (.i .i64 k))])
    (fun k => [(0, some (.blk [.s (.i .i64 n), .sl 1 none none])), (1, some (.flat false 2 (edges E))), (2, some (.flat false 1 (ints l)))]) 3 0 ⟨by omega, fun i h => by omega⟩ (by refine Weak.by [(0, some _), (1, some _), (2, some _)] (by ((repeat' first | exact rfl | exact trivial | refine And.intro ?_ ?_) <;> (repeat' first | exact rfl | exact trivial | refine And.intro ?_ ?_)); all_goals (exact sc_eq (by rw [ints_length]))) (by ((repeat' first | exact rfl | exact trivial | refine And.intro ?_ ?_) <;> (repeat' first | exact rfl | exact trivial | refine And.intro ?_ ?_)); all_goals (exact sc_eq (by rw [ints_length]))) (by rfl)) ?_
  rintro k ⟨hk, hst⟩
  refine Pick.by (fun hc => ?_) (fun hc => ?_)
  · have hlt : k + 1 < l.length := by have := of_decide_eq_true hc; omega
    refine Idx.by k rfl (by rw [ints_length]; omega) ?_
    refine Look.by _ (ints_get (List.getElem?_eq_getElem (by omega))) ?_
    refine Pick.T (inI64_of (by omega) (by omega)) ?_
    refine Idx.by (k + 1) (by omega) (by rw [ints_length]; omega) ?_
    refine Look.by _ (ints_get (List.getElem?_eq_getElem hlt)) ?_
    refine Call.by _ _ (HasGC_at _ _ (by omega)) ?_
    refine Seg.by (by kernel_rfl) ?_
    refine Pick.by (fun h6 => ?_) (fun h6 => ?_)
    · have h6 : hasG n E l[k] l[k + 1] = false := by have h6 : (!hasG n E l[k] l[k + 1]) = true := h6; simpa using h6
      refine ⟨rfl, ?_⟩
      show Sc.b false = Sc.b (pathB n E l)
      exact noP fun h => by
        have := h.2.2.2.2 k hlt
        rw [getD_at (by omega), getD_at hlt, ← hasG_adj h1, h6] at this
        cases this
    · have h6 : hasG n E l[k] l[k + 1] = true := by have h6 : (!hasG n E l[k] l[k + 1]) = false := h6; simpa using h6
      refine Pick.T (inI64_of (by omega) (by omega)) ?_
      refine Next.by (k + 1) ⟨by omega, fun i hi => ?_⟩ (by omega) (by refine Weak.by [(0, some _), (1, some _), (2, some _)] (by ((repeat' first | exact rfl | exact trivial | refine And.intro ?_ ?_) <;> (repeat' first | exact rfl | exact trivial | refine And.intro ?_ ?_))) (by ((repeat' first | exact rfl | exact trivial | refine And.intro ?_ ?_) <;> (repeat' first | exact rfl | exact trivial | refine And.intro ?_ ?_))) (by rfl))
      rcases Nat.lt_or_ge i k with h | h
      · exact hst i h
      · obtain rfl : i = k := by omega
        rw [getD_at (by omega), getD_at hlt, ← hasG_adj h1]
        exact h6
  · have hge : l.length = k + 1 := by have := of_decide_eq_false hc; omega
    refine ⟨rfl, ?_⟩
    show Sc.b true = Sc.b (pathB n E l)
    rw [pathB_iff.2 ⟨h1, h2, by omega, h5, fun i hi => hst i (by omega)⟩]
end Go.Sh

set_option linter.unusedVariables false
set_option linter.unusedSimpArgs false
namespace Go.Sh
open Go.Proofs
/-! ### carcanetref08.Size, joined, touch -/
/-! ### carcanetref08.Check -/
theorem flatten_len {S : List (List Int)} {m : Nat} (h : ∀ l ∈ S, l.length ≤ m) : S.flatten.length ≤ S.length * m := by
  induction S with
  | nil => simp
  | cons x S ih =>
    have h1 := h x (by simp)
    have h2 := ih fun l hl => h l (by simp [hl])
    rw [List.flatten_cons, List.length_append, List.length_cons, Nat.succ_mul]
    omega
theorem flat_snoc (S : List (List Int)) (x : List Int) : (S ++ [x]).flatten = S.flatten ++ x := by simp
theorem ints_append (l m : List Int) : ints (l ++ m) = ints l ++ ints m := by simp [ints]
end Go.Sh

set_option linter.unusedVariables false
set_option linter.unusedSimpArgs false
namespace Go.Sh
open Go.Proofs
/-! ### walk.Apart -/
def fewL (L : List (List Int)) : Prop := L.length ≤ 100 ∧ ∀ l ∈ L, l.length ≤ 5000
theorem srt_two {v : Int} : ∀ {l : List Int}, l.Pairwise (· ≤ ·) → v ∈ l → ((l[l.countP (· < v) + 1]? = some v) ↔ l.count v ≠ 1)
  | [], _, h => by simp at h
  | a :: r, hs, hm => by
    obtain ⟨h1, h2⟩ := List.pairwise_cons.1 hs
    rcases Int.lt_trichotomy a v with h | h | h
    · have hm' : v ∈ r := by rcases List.mem_cons.1 hm with e | e; (· omega); exact e
      have ih := srt_two h2 hm'
      rw [List.countP_cons_of_pos (by simpa using h), List.getElem?_cons_succ, ih, List.count_cons_of_ne (by omega)]
    · subst h
      have h0 : r.countP (· < a) = 0 := List.countP_eq_zero.2 fun x hx => by have := h1 x hx; simp; omega
      rw [List.countP_cons_of_neg (by simp), h0, List.count_cons_self]
      cases r with
      | nil => simp
      | cons b r =>
        obtain ⟨h3, h4⟩ := List.pairwise_cons.1 h2
        have hb := h1 b (by simp)
        simp only [Nat.zero_add, List.getElem?_cons_succ, List.getElem?_cons_zero, Option.some.injEq]
        by_cases e : b = a
        · subst e; simp
        · have : (b :: r).count a = 0 := List.count_eq_zero.2 fun hx => by
            rcases List.mem_cons.1 hx with e2 | e2
            · exact e e2.symm
            · have := h3 a e2; omega
          rw [this]; simp [e]
    · exfalso
      rcases List.mem_cons.1 hm with e | e
      · omega
      · have := h1 v e; omega
def fewA (L : List (List Int)) : Prop := L.length ≤ 1000 ∧ (∀ l ∈ L, l.length ≤ 5000) ∧ L.flatten.length ≤ 500000
theorem few_app {L : List (List Int)} (h : fewL L) : fewA L := by
  refine ⟨by have := h.1; omega, h.2, ?_⟩
  have h1 := flatten_len (S := L) (m := 5000) h.2
  have h2 := Nat.mul_le_mul_right 5000 h.1
  omega
theorem take_flat (L : List (List Int)) (i : Nat) : (L.take i).flatten.length ≤ L.flatten.length := by
  conv => rhs; rw [← List.take_append_drop i L, List.flatten_append, List.length_append]
  omega
noncomputable def ApartC : Con := conP 1 (fun L : List (List Int) => fewA L) (fun L => [.one (.nest false 1 (rowsI L))]) (fun L => .one (.s (.b (apartB L))))
theorem ApartC_at {L : List (List Int)} (h : fewA L) : ApartC.F [.one (.nest false 1 (rowsI L))] = some (.one (.s (.b (apartB L))), []) :=
  conP_at (a := L) (fun x y _ _ h => by simp at h; rw [rowsI_inj h]) h
theorem noA {L : List (List Int)} (h : ¬ ApartP L) : Sc.b false = Sc.b (apartB L) := by rw [apartB_no h]
set_option maxHeartbeats 1000000 in
theorem Apart_ok : SoundC Try.prog T 28 ApartC := by
  refine sound_con (X := { Γ := [(60, SearchC)], T := T, nt := 65, ext := [59] }) (rowIn_ok Sort_row) hmix hT (sound_cons Search_ok sound_nil) Try.func28 (by rfl) (by rfl) (by rfl) (by rfl) 1 ?_
  rintro L ⟨hL, hLr, hLf⟩
  refine ⟨⟨Nat.le_of_ble_eq_true rfl, Nat.le_of_ble_eq_true rfl⟩, ?_⟩
  refine LoopP.intro (α := Nat) (fun i => i ≤ L.length) (fun i => L.length - i) (fun i => [(0, .sl 0 none none), (3, .sl 1 none none), (12, .sl 0 none none), (13, .s (.i .i64 L.length)), (14, .s (.i .i64 i))])
    (fun i => [(0, some (.nest false 1 (rowsI L) [] [])), (1, some (.flat true 1 (ints (L.take i).flatten)))]) 2 0 (by omega) (by refine Weak.by [(0, some _), (1, none)] (by ((repeat' first | exact rfl | exact trivial | refine And.intro ?_ ?_) <;> (repeat' first | exact rfl | exact trivial | refine And.intro ?_ ?_)); all_goals (exact sc_eq (by rw [rowsI_length]))) (by ((repeat' first | exact rfl | exact trivial | refine And.intro ?_ ?_) <;> (repeat' first | exact rfl | exact trivial | refine And.intro ?_ ?_)); all_goals (exact sc_eq (by rw [rowsI_length]))) (by rfl)) ?_
  rintro i hi
  have hfl : (L.take i).flatten.length ≤ 500000 := Nat.le_trans (take_flat L i) hLf
  refine Pick.by (fun hc => ?_) (fun hc => ?_)
  · have hlt : i < L.length := by have := of_decide_eq_true hc; omega
    have hSi : L[i]? = some L[i] := List.getElem?_eq_getElem hlt
    have hsl := hLr _ (List.getElem_mem hlt)
    refine Idx.by i rfl (by rw [rowsI_length]; exact hlt) ?_
    refine Pick.T (by simpa [rowsI_length] using hlt) ?_
    refine Look.by _ (rowsI_get hSi) ?_
    refine Pick.T (by simp [cut, ints_length] at hfl ⊢; omega) ?_
    refine Pick.T (inI64_of (by omega) (by omega)) ?_
    refine Next.by (i + 1) (by omega) (by omega) (by refine Weak.by [(0, some _), (1, some _)] (by ((repeat' first | exact rfl | exact trivial | refine And.intro ?_ ?_) <;> (repeat' first | exact rfl | exact trivial | refine And.intro ?_ ?_)); all_goals ((rw [List.take_succ_eq_append_getElem hlt, flat_snoc, ints_append]; rfl))) (by ((repeat' first | exact rfl | exact trivial | refine And.intro ?_ ?_) <;> (repeat' first | exact rfl | exact trivial | refine And.intro ?_ ?_)); all_goals ((rw [List.take_succ_eq_append_getElem hlt, flat_snoc, ints_append]; rfl))) (by rfl))
  have hge : L.length ≤ i := by have := of_decide_eq_false hc; omega
  rw [List.take_of_length_le hge] at hfl ⊢
  refine ⟨rfl, _, rfl, by omega, ?_⟩
  have hss := sortI_sorted L.flatten
  have hsp : (sortI L.flatten).Perm L.flatten := List.mergeSort_perm _ _
  have hsl := sortI_length L.flatten
  obtain ⟨M, hM⟩ : ∃ M, sortI L.flatten = M := ⟨_, rfl⟩
  rw [hM] at hss hsp hsl ⊢
  refine LoopP.intro (α := Nat) (fun i => i ≤ L.length ∧ ∀ r ∈ L.take i, ∀ v ∈ innerL r, L.flatten.count v = 1) (fun i => L.length - i) (fun i => [(3, .sl 1 none none), (24, .sl 0 none none), (25, .s (.i .i64 L.length)), (26, .s (.i .i64 i))])
    (fun i => [(0, some (.nest false 1 (rowsI L) [] [])), (1, some (.flat true 1 (ints M)))]) 2 0 ⟨by omega, by simp⟩ (by refine Weak.by [(0, some _), (1, some _)] (by ((repeat' first | exact rfl | exact trivial | refine And.intro ?_ ?_) <;> (repeat' first | exact rfl | exact trivial | refine And.intro ?_ ?_)); all_goals (exact sc_eq (by rw [rowsI_length]))) (by ((repeat' first | exact rfl | exact trivial | refine And.intro ?_ ?_) <;> (repeat' first | exact rfl | exact trivial | refine And.intro ?_ ?_)); all_goals (exact sc_eq (by rw [rowsI_length]))) (by rfl)) ?_
  rintro i ⟨hi, hap⟩
  refine Pick.by (fun hc => ?_) (fun hc => ?_)
  · have hlt : i < L.length := by have := of_decide_eq_true hc; omega
    have hrl := hLr _ (List.getElem_mem hlt)
    have hLi : L[i]? = some L[i] := List.getElem?_eq_getElem hlt
    have hmem : L[i] ∈ L := List.getElem_mem hlt
    obtain ⟨p, hp⟩ : ∃ p, L[i] = p := ⟨_, rfl⟩
    rw [hp] at hrl hLi hmem
    have hnext : (∀ v ∈ innerL p, L.flatten.count v = 1) → ∀ r ∈ L.take (i + 1), ∀ v ∈ innerL r, L.flatten.count v = 1 := fun h => all_take hlt hap (by rw [hp]; exact h)
    refine Idx.by i rfl (by rw [rowsI_length]; exact hlt) ?_
    refine Pick.T (by simpa [rowsI_length] using hlt) ?_
    refine Look.by _ (rowsI_get hLi) ?_
    refine Pick.by (fun h3 => ?_) (fun h3 => ?_)
    · have h3 : p.length < 3 := by have := of_decide_eq_true h3; rw [ints_length] at this; omega
      refine Pick.T (inI64_of (by omega) (by omega)) ?_
      refine Next.by (i + 1) ⟨by omega, hnext fun v hv => ?_⟩ (by omega) (by refine Weak.by [(0, some _), (1, some _)] (by ((repeat' first | exact rfl | exact trivial | refine And.intro ?_ ?_) <;> (repeat' first | exact rfl | exact trivial | refine And.intro ?_ ?_))) (by ((repeat' first | exact rfl | exact trivial | refine And.intro ?_ ?_) <;> (repeat' first | exact rfl | exact trivial | refine And.intro ?_ ?_))) (by rfl))
      obtain ⟨j, hj, _⟩ := mem_inner.1 hv
      omega
    have h3 : 3 ≤ p.length := by have := of_decide_eq_false h3; rw [ints_length] at this; omega
    refine Look.by _ (rowsI_get hLi) ?_
    refine Pick.T (inI64_of (by rw [ints_length]; omega) (by rw [ints_length]; omega)) ?_
    refine Look.by _ (rowsI_get hLi) ?_
    refine Rng.by 1 (p.length - 1) rfl (by rw [ints_length]; omega) (by omega) (by rw [ints_length]; omega) ?_
    refine Look.by _ (rowsI_get hLi) ?_
    refine LoopP.intro (α := Nat) (fun j => j ≤ p.length - 1 - 1 ∧ ∀ v ∈ (innerL p).take j, L.flatten.count v = 1) (fun j => p.length - 1 - 1 - j) (fun j => [(3, .sl 1 none none), (24, .sl 0 none none), (25, .s (.i .i64 L.length)), (26, .s (.i .i64 i)), (37, .sl 0 (some (i, 0)) (some (1, p.length - 1 - 1))), (38, .s (.i .i64 (p.length - 1 - 1 : Nat))), (39, .s (.i .i64 j))])
      (fun j => [(0, some (.nest false 1 (rowsI L) [] [])), (1, some (.flat true 1 (ints M)))]) 2 0 ⟨by omega, by simp⟩ (by refine Weak.by [(0, some _), (1, some _)] (by ((repeat' first | exact rfl | exact trivial | refine And.intro ?_ ?_) <;> (repeat' first | exact rfl | exact trivial | refine And.intro ?_ ?_)); all_goals (simp)) (by ((repeat' first | exact rfl | exact trivial | refine And.intro ?_ ?_) <;> (repeat' first | exact rfl | exact trivial | refine And.intro ?_ ?_)); all_goals (simp)) (by rfl)) ?_
    rintro j ⟨hj, hjp⟩
    refine Pick.by (fun hc2 => ?_) (fun hc2 => ?_)
    · have hjl : j < p.length - 1 - 1 := by have := of_decide_eq_true hc2; omega
      have hj1 : 1 + j < p.length := by omega
      refine Look.by _ (rowsI_get hLi) ?_
      refine Idx.by j rfl hjl ?_
      refine Look.by _ (rowsI_get hLi) ?_
      refine Look.by _ (ints_get (List.getElem?_eq_getElem hj1)) ?_
      have hil : j < (innerL p).length := by rw [innerL_length]; omega
      have hve : (innerL p)[j] = p[1 + j] := by rw [innerL_get (by omega)]; congr 1; omega
      have hvi : p[1 + j] ∈ innerL p := by rw [← hve]; exact List.getElem_mem hil
      obtain ⟨v, hv⟩ : ∃ v, p[1 + j] = v := ⟨_, rfl⟩
      rw [hv] at hve hvi ⊢
      have hvp : v ∈ p := by rw [← hv]; exact List.getElem_mem _
      have hvM : v ∈ M := hsp.mem_iff.2 (List.mem_flatten.2 ⟨p, hmem, hvp⟩)
      have htw := srt_two hss hvM
      have hcn : M.count v = L.flatten.count v := hsp.count_eq v
      rw [hcn] at htw
      have hcl : M.countP (· < v) ≤ M.length := List.countP_le_length
      refine Call.by _ _ (SearchC_at (x := v) ⟨hss, by omega⟩) ?_
      refine Pick.T (inI64_of (by omega) (by omega)) ?_
      have hgo : ¬ M[M.countP (· < v) + 1]? = some v → ∀ u ∈ (innerL p).take (j + 1), L.flatten.count u = 1 := fun h => all_take hil hjp (by rw [hve]; exact Decidable.not_not.1 fun k => h (htw.2 k))
      refine Pick.by (fun h6 => ?_) (fun h6 => ?_)
      · have h6 : M.countP (· < v) + 1 < M.length := by have := of_decide_eq_true h6; rw [ints_length] at this; omega
        refine Pick.T (inI64_of (by omega) (by omega)) ?_
        refine Idx.by (M.countP (· < v) + 1) (by omega) (by rw [ints_length]; exact h6) ?_
        refine Look.by _ (ints_get (List.getElem?_eq_getElem h6)) ?_
        refine Pick.by (fun h7 => ?_) (fun h7 => ?_)
        · have h7 : M[M.countP (· < v) + 1] = v := by simpa using h7
          refine ⟨rfl, ?_⟩
          show Sc.b false = Sc.b (apartB L)
          exact noA fun h => htw.1 (by rw [List.getElem?_eq_getElem h6, h7]) (h p hmem v hvi)
        · have h7 : ¬ M[M.countP (· < v) + 1] = v := by simpa using h7
          refine Pick.T (inI64_of (by omega) (by omega)) ?_
          refine Next.by (j + 1) ⟨by omega, hgo (by rw [List.getElem?_eq_getElem h6]; simpa using h7)⟩ (by omega) (by refine Weak.by [(0, some _), (1, some _)] (by ((repeat' first | exact rfl | exact trivial | refine And.intro ?_ ?_) <;> (repeat' first | exact rfl | exact trivial | refine And.intro ?_ ?_)); all_goals (simp)) (by ((repeat' first | exact rfl | exact trivial | refine And.intro ?_ ?_) <;> (repeat' first | exact rfl | exact trivial | refine And.intro ?_ ?_)); all_goals (simp)) (by rfl))
      · have h6 : ¬ M.countP (· < v) + 1 < M.length := by have := of_decide_eq_false h6; rw [ints_length] at this; omega
        refine Pick.T (inI64_of (by omega) (by omega)) ?_
        refine Next.by (j + 1) ⟨by omega, hgo (by rw [List.getElem?_eq_none (by omega)]; simp)⟩ (by omega) (by refine Weak.by [(0, some _), (1, some _)] (by ((repeat' first | exact rfl | exact trivial | refine And.intro ?_ ?_) <;> (repeat' first | exact rfl | exact trivial | refine And.intro ?_ ?_)); all_goals (simp)) (by ((repeat' first | exact rfl | exact trivial | refine And.intro ?_ ?_) <;> (repeat' first | exact rfl | exact trivial | refine And.intro ?_ ?_)); all_goals (simp)) (by rfl))
    · have hjg : p.length - 1 - 1 ≤ j := by have := of_decide_eq_false hc2; omega
      refine Pick.T (inI64_of (by omega) (by omega)) ?_
      refine Next.by (i + 1) ⟨by omega, hnext ?_⟩ (by omega) (by refine Weak.by [(0, some _), (1, some _)] (by ((repeat' first | exact rfl | exact trivial | refine And.intro ?_ ?_) <;> (repeat' first | exact rfl | exact trivial | refine And.intro ?_ ?_))) (by ((repeat' first | exact rfl | exact trivial | refine And.intro ?_ ?_) <;> (repeat' first | exact rfl | exact trivial | refine And.intro ?_ ?_))) (by rfl))
      rw [List.take_of_length_le (by rw [innerL_length]; omega)] at hjp
      exact hjp
  · have hge : L.length ≤ i := by have := of_decide_eq_false hc; omega
    rw [List.take_of_length_le hge] at hap
    refine ⟨rfl, ?_⟩
    show Sc.b true = Sc.b (apartB L)
    rw [apartB_iff.2 hap]
end Go.Sh

set_option linter.unusedVariables false
set_option linter.unusedSimpArgs false
namespace Go.Sh
/-! ### what is lifted, on lists -/
def liftA (f : Int → Int → Option (List Int)) (p : List Int) : Nat → Option (List Int)
  | 0 => some (p.take 1)
  | j + 1 => match liftA f p j with
    | some q => match f (p.getD j 0) (p.getD (j + 1) 0) with
      | some m => some (q ++ m.tail)
      | none => none
    | none => none
def liftF (f : Int → Int → Option (List Int)) (p : List Int) : Option (List Int) := liftA f p (p.length - 1)
def liftN (f : Int → Int → Option (List Int)) (L : List (List Int)) : Nat → Option (List (List Int))
  | 0 => some []
  | i + 1 => match liftN f L i with
    | some K => match liftF f (L.getD i []) with
      | some q => some (K ++ [q])
      | none => none
    | none => none
theorem liftA_go {f : Int → Int → Option (List Int)} {p q m : List Int} {j : Nat} (h : liftA f p j = some q) (k : f (p.getD j 0) (p.getD (j + 1) 0) = some m) : liftA f p (j + 1) = some (q ++ m.tail) := by simp only [liftA, h, k]
theorem liftA_no {f : Int → Int → Option (List Int)} {p : List Int} {j : Nat} (k : f (p.getD j 0) (p.getD (j + 1) 0) = none) : liftA f p (j + 1) = none := by
  simp only [liftA, k]
  split <;> rfl
theorem liftA_stay {f : Int → Int → Option (List Int)} {p : List Int} {j : Nat} (h : liftA f p j = none) : ∀ k, liftA f p (j + k) = none := by
  intro k
  induction k with
  | zero => exact h
  | succ k ih => rw [← Nat.add_assoc]; simp only [liftA, ih]
theorem liftF_no {f : Int → Int → Option (List Int)} {p : List Int} {j : Nat} (hj : j + 1 < p.length) (k : f (p.getD j 0) (p.getD (j + 1) 0) = none) : liftF f p = none := by
  have := liftA_stay (liftA_no k) (p.length - 1 - (j + 1))
  unfold liftF
  rw [show p.length - 1 = j + 1 + (p.length - 1 - (j + 1)) by omega]
  exact this
theorem liftN_go {f : Int → Int → Option (List Int)} {L K : List (List Int)} {q : List Int} {i : Nat} (hi : i < L.length) (h : liftN f L i = some K) (k : liftF f L[i] = some q) : liftN f L (i + 1) = some (K ++ [q]) := by
  have : L.getD i [] = L[i] := by rw [List.getD_eq_getElem?_getD, List.getElem?_eq_getElem hi]; rfl
  simp only [liftN, h, this, k]
theorem liftN_stay {f : Int → Int → Option (List Int)} {L : List (List Int)} {i : Nat} (h : liftN f L i = none) : ∀ k, liftN f L (i + k) = none := by
  intro k
  induction k with
  | zero => exact h
  | succ k ih => rw [← Nat.add_assoc]; simp only [liftN, ih]
theorem liftN_no {f : Int → Int → Option (List Int)} {L : List (List Int)} {i : Nat} (hi : i < L.length) (k : liftF f L[i] = none) : liftN f L L.length = none := by
  have e : L.getD i [] = L[i] := by rw [List.getD_eq_getElem?_getD, List.getElem?_eq_getElem hi]; rfl
  have : liftN f L (i + 1) = none := by
    simp only [liftN, e, k]
    split <;> rfl
  have := liftN_stay this (L.length - (i + 1))
  rw [show L.length = i + 1 + (L.length - (i + 1)) by omega]
  exact this
theorem liftN_len {f : Int → Int → Option (List Int)} {L : List (List Int)} : ∀ {i : Nat} {K : List (List Int)}, liftN f L i = some K → K.length = i := by
  intro i
  induction i with
  | zero => intro K h; simp [liftN] at h; rw [h]; rfl
  | succ i ih =>
    intro K h
    simp only [liftN] at h
    split at h
    · rename_i K' hK
      split at h
      · injection h with h
        rw [← h, List.length_append, ih hK]; rfl
      · simp at h
    · simp at h
theorem liftA_len {f : Int → Int → Option (List Int)} {p : List Int} {c : Nat} (hf : ∀ x y m, f x y = some m → m.length ≤ c) : ∀ {j : Nat} {q : List Int}, liftA f p j = some q → q.length ≤ 1 + j * c := by
  intro j
  induction j with
  | zero => intro q h; simp [liftA] at h; rw [← h, List.length_take]; omega
  | succ j ih =>
    intro q h
    simp only [liftA] at h
    split at h
    · rename_i q' hq
      split at h
      · rename_i m hm
        injection h with h
        have := ih hq
        have := hf _ _ _ hm
        rw [← h, List.length_append, List.length_tail, Nat.succ_mul]
        omega
      · simp at h
    · simp at h
theorem expF_len {n : Int} {E : List Ed} {l : List Stp} {a b : Int} {m : List Int} (hl : l.length ≤ 1000) (h : expF n E l a b = some m) : m.length ≤ 1002 ∧ 2 ≤ m.length := by
  unfold expF at h
  split at h
  · rename_i hc
    obtain ⟨_, N, G, _, hX⟩ := runs_end hc.1
    have := pth_len (a := a) (b := b) hX.val
    have := addsL_len l
    injection h with h
    rw [← h]
    simp
    omega
  · simp at h
open Classical in
noncomputable def liftO (n : Int) (E : List Ed) (l : List Stp) (L : List (List Int)) : Option (List (List Int)) := if (replO n E l).2 = true then liftN (expF n E l) L L.length else none
noncomputable def liftV (n : Int) (E : List Ed) (l : List Stp) (k : Int) (Ts : List Int) (L : List (List Int)) : V := match liftO n E l L with
  | some K => .tup [sbV true k Ts K, .one (.s (.b true))]
  | none => .tup [sbV true 0 [] [], .one (.s (.b false))]
def smallNums (L : List (List Int)) : Prop := ∀ p ∈ L, ∀ x ∈ p, i64 x
end Go.Sh

set_option linter.unusedVariables false
set_option linter.unusedSimpArgs false
namespace Go.Sh
open Go.Proofs
/-! ### a subdivision's model is a model -/
theorem headD_at {p : List Int} (h : 0 < p.length) : p.headD 0 = p.getD 0 0 := by cases p with | nil => simp at h | cons a l => rfl
theorem lastD_at {p : List Int} : p.getLastD 0 = p.getD (p.length - 1) 0 := by
  rw [List.getLastD_eq_getLast?, List.getLast?_eq_getElem?, List.getD_eq_getElem?_getD]
theorem getD_mem {p : List Int} {i : Nat} (h : i < p.length) : p.getD i 0 ∈ p := by rw [getD_at h]; exact List.getElem_mem h
section
variable {n : Int} {E : List Ed} {k : Int} {T : List Int} {L : List (List Int)}
/-- in how many places something stands -/
theorem cnt_at {L : List (List Int)} {v : Int} {i j : Nat} {p q : List Int} (hp : L[i]? = some p) (hq : L[j]? = some q) (hij : i ≠ j) (hv : v ∈ p) (hw : v ∈ q) : 2 ≤ L.flatten.count v := by
  induction L generalizing i j with
  | nil => simp at hp
  | cons x L ih =>
    rw [List.flatten_cons, List.count_append]
    cases i with
    | zero =>
      simp at hp; subst hp
      cases j with
      | zero => exact absurd rfl hij
      | succ j =>
        simp at hq
        have h1 : 0 < x.count v := List.count_pos_iff.2 hv
        have h2 : 0 < L.flatten.count v := List.count_pos_iff.2 (List.mem_flatten.2 ⟨q, List.mem_of_getElem? hq, hw⟩)
        omega
    | succ i =>
      simp at hp
      cases j with
      | zero =>
        simp at hq; subst hq
        have h1 : 0 < x.count v := List.count_pos_iff.2 hw
        have h2 : 0 < L.flatten.count v := List.count_pos_iff.2 (List.mem_flatten.2 ⟨p, List.mem_of_getElem? hp, hv⟩)
        omega
      | succ j =>
        simp at hq
        have := ih hp hq (by omega)
        omega
theorem ends_out {p : List Int} (hn : p.Nodup) {v : Int} (hv : v ∈ innerL p) : v ≠ p.headD 0 ∧ v ≠ p.getLastD 0 := by
  obtain ⟨i, hi, rfl⟩ := mem_inner.1 hv
  rw [headD_at (by omega), lastD_at, getD_at (by omega), getD_at (by omega)]
  constructor
  · intro e
    have := (List.getElem_inj hn).1 e
    omega
  · intro e
    have := (List.getElem_inj hn).1 e
    omega
end
theorem adj_sym {E : List Ed} {x y : Int} (h : adjE E x y) : adjE E y x := h.elim .inr .inl
end Go.Sh

set_option linter.unusedVariables false
set_option linter.unusedSimpArgs false
namespace Go.Sh
/-! ### what is lifted: paths, apart, subdivisions -/
def Known (E : List Ed) : List Add → Prop
  | [] => True
  | e :: r => ((adjE E e.1 e.2.2 ∨ inKeys r e.1 e.2.2) ∧ (adjE E e.2.2 e.2.1 ∨ inKeys r e.2.2 e.2.1)) ∧ Known E r
theorem replS_log {E : List Ed} : ∀ {l : List Stp} {N : List (List Int)} {G : List Bool} {r : List Add}, ExpI E N G r → Known E r → (replS l N G).2.1 = true → ∃ N' G', (replS l N G).2.2 = (N', G') ∧ N'.length = N.length ∧ ExpI E N' G' (l.foldl addStep r) ∧ Known E (l.foldl addStep r) := by
  intro l
  induction l with
  | nil => intro N G r h k _; exact ⟨N, G, rfl, rfl, h, k⟩
  | cons s l ih =>
    intro N G r h k hr
    cases hm : mayStp N G s with
    | false => rw [replS_no hm] at hr; simp at hr
    | true =>
      rw [replS_go hm] at hr ⊢
      have k2 : Known E (addStep r s) := by
        unfold addStep
        by_cases ha : s.2.2.2 = true
        · rw [if_pos ha]
          obtain ⟨_, _, _, _, _, _, _, q1, q2⟩ := added_fact h hm ha
          exact ⟨⟨q1, q2⟩, k⟩
        · rw [if_neg ha]; exact k
      obtain ⟨N', G', h1, h2, h3, h4⟩ := ih (h.step hm) k2 hr
      exact ⟨N', G', h1, by rw [h2, doN_length], h3, h4⟩
theorem log_of {n : Int} {E : List Ed} {l : List Stp} (h : (replO n E l).2 = true) : RightP n E ∧ ∃ N G, N.length = n.toNat ∧ ExpI E N G (addsL l) ∧ Known E (addsL l) ∧ (replO n E l).1.2 = (leftF G, edgesF N G) := by
  have hR := (runs_zero h).1
  have he : replO n E l = (((replR n E l).1, leftF (replR n E l).2.2.2, edgesF (replR n E l).2.2.1 (replR n E l).2.2.2), (replR n E l).2.1) := if_pos hR
  rw [he] at h ⊢
  obtain ⟨N, G, h1, h2, h3, h4⟩ := replS_log (expI_zero hR) trivial h
  refine ⟨hR, N, G, by rw [h2, nbrs_length], h3, h4, ?_⟩
  show (leftF (replR n E l).2.2.2, edgesF (replR n E l).2.2.1 (replR n E l).2.2.2) = _
  have : (replR n E l).2.2 = (N, G) := h1
  rw [this]
theorem steps_join {E : List Ed} {p q : List Int} {v : Int} (h1 : stepsE E (p ++ [v])) (h2 : stepsE E (v :: q)) : stepsE E (p ++ v :: q) := by
  intro i hi
  simp only [List.length_append, List.length_cons] at hi
  by_cases h : i + 1 ≤ p.length
  · have := h1 i (by simp; omega)
    have e : ∀ j, j ≤ p.length → (p ++ v :: q).getD j 0 = (p ++ [v]).getD j 0 := fun j hj => by
      rw [List.getD_eq_getElem?_getD, List.getD_eq_getElem?_getD]
      by_cases hj2 : j < p.length
      · rw [List.getElem?_append_left hj2, List.getElem?_append_left hj2]
      · rw [List.getElem?_append_right (by omega), List.getElem?_append_right (by omega), show j - p.length = 0 by omega]; rfl
    rw [e _ (by omega), e _ (by omega)]; exact this
  · have := h2 (i - p.length) (by simp; omega)
    have e : ∀ j, p.length ≤ j → (p ++ v :: q).getD j 0 = (v :: q).getD (j - p.length) 0 := fun j hj => by
      rw [List.getD_eq_getElem?_getD, List.getD_eq_getElem?_getD, List.getElem?_append_right hj]
    rw [e _ (by omega), e _ (by omega), show i + 1 - p.length = i - p.length + 1 by omega]; exact this
theorem whole_steps {E : List Ed} : ∀ {r : List Add}, Known E r → ∀ {a b : Int}, (adjE E a b ∨ inKeys r a b) → stepsE E (a :: pth r a b ++ [b]) := by
  intro r
  induction r with
  | nil =>
    intro _ a b h i hi
    have h := h.resolve_right fun ⟨e, he, _⟩ => by simp at he
    have : i = 0 := by simp [pth] at hi; omega
    subst this
    exact h
  | cons e r ih =>
    intro hk a b h
    by_cases hab : keyP a b e
    · have hb : (adjE E a e.2.2 ∨ inKeys r a e.2.2) ∧ (adjE E e.2.2 b ∨ inKeys r e.2.2 b) := by
        rcases hab with ⟨rfl, rfl⟩ | ⟨rfl, rfl⟩
        · exact hk.1
        · exact ⟨hk.1.2.imp adj_sym inKeys_symm.1, hk.1.1.imp adj_sym inKeys_symm.1⟩
      rw [pth_pos hab]
      have := steps_join (p := a :: pth r a e.2.2) (ih hk.2 hb.1) (ih hk.2 hb.2)
      simpa using this
    · rw [pth_neg hab]
      refine ih hk.2 (h.imp id ?_)
      rintro ⟨e', he, k⟩
      rcases List.mem_cons.1 he with rfl | he
      · exact absurd k hab
      · exact ⟨e', he, k⟩
theorem live_end {E : List Ed} {N : List (List Int)} {G : List Bool} {r : List Add} (h : ExpI E N G r) {a b : Int} (ha : 0 ≤ a) (hb : b ∈ rowAt N a) : a ∉ vsL r ∧ b ∉ vsL r ∧ a ≠ b ∧ a < N.length ∧ 0 ≤ b ∧ b < N.length := by
  have h1 := (h.wf.rows a).2 b hb
  have h2 := h.wf.sym a b ha h1.1 hb
  have h3 := (h.wf.rows b).2 a h2
  refine ⟨fun k => ?_, fun k => ?_, fun k => ?_, h3.2, h1.1, h1.2⟩
  · rw [h.wf.gone a ha (h.gone a k)] at hb; simp at hb
  · rw [h.wf.gone b h1.1 (h.gone b k)] at h2; simp at h2
  · exact h.wf.irr a ha (by rw [← k] at hb; exact hb)
theorem adj_left {N : List (List Int)} {G : List Bool} (h : Wf N G) {a b : Int} (k : adjE (edgesF N G) a b) : 0 ≤ a ∧ b ∈ rowAt N a := by
  rcases k with k | k
  · have := (mem_edgesF h).1 k
    exact ⟨this.1, this.2.2⟩
  · have := (mem_edgesF h).1 k
    exact ⟨by omega, h.sym b a this.1 (by omega) this.2.2⟩
theorem cnt_one {L : List (List Int)} {v : Int} {i : Nat} {p : List Int} (hp : L[i]? = some p) (h1 : p.count v = 1) (h : ∀ j q, L[j]? = some q → j ≠ i → v ∉ q) : L.flatten.count v = 1 := by
  induction L generalizing i with
  | nil => simp at hp
  | cons x L ih =>
    rw [List.flatten_cons, List.count_append]
    cases i with
    | zero =>
      simp at hp; subst hp
      have : L.flatten.count v = 0 := List.count_eq_zero.2 fun hm => by
        obtain ⟨q, hq, hv⟩ := List.mem_flatten.1 hm
        obtain ⟨j, hj, rfl⟩ := List.mem_iff_getElem.1 hq
        exact h (j + 1) _ (by rw [List.getElem?_cons_succ, List.getElem?_eq_getElem hj]) (by omega) hv
      omega
    | succ i =>
      simp at hp
      have := ih hp (fun j q hq hj => h (j + 1) q (by simpa using hq) (by omega))
      have h0 : x.count v = 0 := List.count_eq_zero.2 (h 0 x rfl (by omega))
      omega
/-! ### a path of what is left, lifted -/
def bigP (r : List Add) : List Int → List Int
  | [] => []
  | [a] => [a]
  | a :: b :: t => a :: pth r a b ++ bigP r (b :: t)
def stepsR (R : Int → Int → Prop) (p : List Int) : Prop := ∀ i, i + 1 < p.length → R (p.getD i 0) (p.getD (i + 1) 0)
theorem stepsR_cons {R : Int → Int → Prop} {a b : Int} {t : List Int} (h : stepsR R (a :: b :: t)) : R a b ∧ stepsR R (b :: t) :=
  ⟨h 0 (by simp), fun i hi => h (i + 1) (by simp at hi ⊢; omega)⟩
theorem big_cons (r : List Add) (a : Int) (t : List Int) : ∃ q, bigP r (a :: t) = a :: q := by
  cases t with
  | nil => exact ⟨[], rfl⟩
  | cons b t => exact ⟨pth r a b ++ bigP r (b :: t), rfl⟩
theorem big_snoc (r : List Add) (x y : Int) : ∀ q : List Int, bigP r (q ++ [x, y]) = bigP r (q ++ [x]) ++ (pth r x y ++ [y]) := by
  intro q
  induction q with
  | nil => simp [bigP]
  | cons a q ih =>
    cases q with
    | nil => simp only [List.nil_append, List.cons_append, bigP] at ih ⊢; simp
    | cons b q => simp only [List.cons_append, bigP] at ih ⊢; rw [ih]; simp
theorem big_steps {E : List Ed} {r : List Add} (hk : Known E r) : ∀ {p : List Int}, stepsR (fun a b => adjE E a b ∨ inKeys r a b) p → stepsE E (bigP r p) := by
  intro p
  induction p with
  | nil => intro _ i hi; simp [bigP] at hi
  | cons a t ih =>
    intro h
    cases t with
    | nil => intro i hi; simp [bigP] at hi
    | cons b t =>
      obtain ⟨h1, h2⟩ := stepsR_cons h
      obtain ⟨q, hq⟩ := big_cons r b t
      have := ih h2
      simp only [bigP]
      rw [hq] at this ⊢
      exact steps_join (p := a :: pth r a b) (whole_steps hk h1) this
theorem big_mem {r : List Add} {x : Int} : ∀ {p : List Int}, x ∈ bigP r p → x ∈ p ∨ ∃ i, i + 1 < p.length ∧ x ∈ pth r (p.getD i 0) (p.getD (i + 1) 0) := by
  intro p
  induction p with
  | nil => intro h; simp [bigP] at h
  | cons a t ih =>
    intro h
    cases t with
    | nil => exact .inl h
    | cons b t =>
      simp only [bigP, List.cons_append, List.mem_cons, List.mem_append] at h
      rcases h with h | h | h
      · exact .inl (by rw [h]; simp)
      · exact .inr ⟨0, by simp, h⟩
      · rcases ih h with h | ⟨i, hi, h⟩
        · exact .inl (List.mem_cons_of_mem _ h)
        · exact .inr ⟨i + 1, by simp at hi ⊢; omega, h⟩
theorem big_ends (r : List Add) : ∀ (p : List Int), (bigP r p).headD 0 = p.headD 0 ∧ (bigP r p).getLastD 0 = p.getLastD 0 := by
  intro p
  induction p with
  | nil => exact ⟨rfl, rfl⟩
  | cons a t ih =>
    cases t with
    | nil => exact ⟨rfl, rfl⟩
    | cons b t =>
      refine ⟨rfl, ?_⟩
      obtain ⟨q, hq⟩ := big_cons r b t
      rw [show (a :: b :: t).getLastD 0 = (b :: t).getLastD 0 from rfl, ← ih.2]
      simp only [bigP]
      rw [hq, List.getLastD_eq_getLast?, List.getLastD_eq_getLast?, List.getLast?_append]
      cases hh : (b :: q).getLast? with
      | none => simp at hh
      | some z => rfl
theorem big_len (r : List Add) : ∀ (p : List Int), p.length ≤ (bigP r p).length := by
  intro p
  induction p with
  | nil => simp
  | cons a t ih =>
    cases t with
    | nil => simp [bigP]
    | cons b t => simp only [bigP, List.length_append, List.length_cons] at ih ⊢; omega
theorem big_count {r : List Add} {v : Int} (hv : v ∉ vsL r) : ∀ (p : List Int), (bigP r p).count v = p.count v := by
  intro p
  induction p with
  | nil => rfl
  | cons a t ih =>
    cases t with
    | nil => rfl
    | cons b t =>
      have h0 : (pth r a b).count v = 0 := List.count_eq_zero.2 fun k => hv (pth_mem k)
      simp only [bigP]
      rw [List.count_append, List.count_cons, h0, ih, List.count_cons (l := b :: t)]
      omega
theorem big_nodup {r : List Add} (hV : Val r) : ∀ {p : List Int}, p.Nodup → (∀ x ∈ p, x ∉ vsL r) → (bigP r p).Nodup := by
  intro p
  induction p with
  | nil => intro _ _; simp [bigP]
  | cons a t ih =>
    intro hn hl
    cases t with
    | nil => simp [bigP]
    | cons b t =>
      have hn' := List.nodup_cons.1 hn
      have ih := ih hn'.2 fun x hx => hl x (List.mem_cons_of_mem _ hx)
      have ha := hl a (by simp)
      have hb := hl b (by simp)
      simp only [bigP]
      rw [List.cons_append, List.nodup_cons, List.nodup_append]
      refine ⟨fun k => ?_, pth_nodup hV, ih, fun x hx y hy => ?_⟩
      · rcases List.mem_append.1 k with k | k
        · exact ha (pth_mem k)
        · rcases big_mem k with k | ⟨i, hi, k⟩
          · exact hn'.1 k
          · exact ha (pth_mem k)
      · rintro rfl
        rcases big_mem hy with k | ⟨i, hi, k⟩
        · exact hl x (List.mem_cons_of_mem _ k) (pth_mem hx)
        · have m1 := getD_mem (p := b :: t) (i := i) (by omega)
          have m2 := getD_mem (p := b :: t) (i := i + 1) hi
          refine pth_apart hV ha hb (hl _ (List.mem_cons_of_mem _ m1)) (hl _ (List.mem_cons_of_mem _ m2)) ?_ hx k
          rintro (⟨k1, _⟩ | ⟨k1, _⟩)
          · exact hn'.1 (k1 ▸ m1)
          · exact hn'.1 (k1 ▸ m2)
theorem inner_mem {p : List Int} {v : Int} (hv : v ∈ p) (h1 : v ≠ p.headD 0) (h2 : v ≠ p.getLastD 0) : v ∈ innerL p := by
  obtain ⟨i, hi, rfl⟩ := List.mem_iff_getElem.1 hv
  rw [headD_at (by omega), getD_at (by omega)] at h1
  rw [lastD_at, getD_at (by omega)] at h2
  have i0 : i ≠ 0 := by rintro rfl; exact h1 rfl
  have i1 : i ≠ p.length - 1 := by rintro rfl; exact h2 rfl
  exact mem_inner.2 ⟨i - 1, by omega, by congr 1; omega⟩
theorem innerL_mem {p : List Int} {v : Int} (h : v ∈ innerL p) : v ∈ p := by obtain ⟨x, hx, rfl⟩ := mem_inner.1 h; exact List.getElem_mem _
theorem inner_not {p : List Int} {i : Nat} (hi : i < p.length) (h : p.getD i 0 ∉ innerL p) : i = 0 ∨ i + 1 = p.length := by
  rcases Nat.eq_zero_or_pos i with h0 | h0
  · exact .inl h0
  · refine .inr ?_
    by_cases h1 : i + 1 = p.length
    · exact h1
    · exact absurd (mem_inner.2 ⟨i - 1, by omega, by rw [getD_at hi]; congr 1; omega⟩) h
/-- no step is one of two paths -/
theorem pairs_apart {n : Int} {E : List Ed} {k : Int} {T : List Int} {L : List (List Int)} (h : SubP n E k T L) {i j s t : Nat} {p q : List Int} (hp : L[i]? = some p) (hq : L[j]? = some q) (hij : i ≠ j) (hs : s + 1 < p.length) (ht : t + 1 < q.length) : ¬ sameP (p.getD s 0) (p.getD (s + 1) 0) (q.getD t 0) (q.getD (t + 1) 0) := by
  intro hS
  have hT := sub_tops h
  obtain ⟨hsh, hf, ha⟩ := id h
  have no1 : ∀ v, v ∈ p → v ∈ q → v ∉ innerL p := fun v h1 h2 h3 => by
    have := ha p (List.mem_of_getElem? hp) v h3
    have := cnt_at hp hq hij h1 h2
    omega
  have no2 : ∀ v, v ∈ p → v ∈ q → v ∉ innerL q := fun v h1 h2 h3 => by
    have := ha q (List.mem_of_getElem? hq) v h3
    have := cnt_at hp hq hij h1 h2
    omega
  have q0 := getD_mem (p := q) (i := t) (by omega)
  have q1 := getD_mem (p := q) (i := t + 1) ht
  have p0 := getD_mem (p := p) (i := s) (by omega)
  have p1 := getD_mem (p := p) (i := s + 1) hs
  have a1 : p.getD s 0 ∈ q := by rcases hS with ⟨k, _⟩ | ⟨k, _⟩ <;> rw [k] <;> assumption
  have a2 : p.getD (s + 1) 0 ∈ q := by rcases hS with ⟨_, k⟩ | ⟨_, k⟩ <;> rw [k] <;> assumption
  have b1 : q.getD t 0 ∈ p := by rcases hS with ⟨k, k'⟩ | ⟨k, k'⟩ <;> first | (rw [← k]; assumption) | (rw [← k']; assumption)
  have b2 : q.getD (t + 1) 0 ∈ p := by rcases hS with ⟨k, k'⟩ | ⟨k, k'⟩ <;> first | (rw [← k']; assumption) | (rw [← k]; assumption)
  have c1 := inner_not (by omega) (no1 _ p0 a1)
  have c2 := inner_not hs (no1 _ p1 a2)
  have c3 := inner_not (by omega) (no2 _ b1 q0)
  have c4 := inner_not ht (no2 _ b2 q1)
  have hs0 : s = 0 := by omega
  have ht0 : t = 0 := by omega
  have lp : p.length = 2 := by omega
  have lq : q.length = 2 := by omega
  subst hs0 ht0
  obtain ⟨_, f1, f2, f3⟩ := hf i p hp
  obtain ⟨_, g1, g2, g3⟩ := hf j q hq
  rw [headD_at (by omega)] at f1 g1
  rw [lastD_at, lp] at f2
  rw [lastD_at, lq] at g2
  have f2 : p.getD (0 + 1) 0 = _ := f2
  have g2 : q.getD (0 + 1) 0 = _ := g2
  rw [f1, f2, g1, g2] at hS
  have hi := (List.getElem?_eq_some_iff.1 hp).1
  have hj := (List.getElem?_eq_some_iff.1 hq).1
  rcases hsh with ⟨rfl, hT4, hL⟩ | ⟨rfl, hT2, hL⟩
  · match T, hT4, hT with
    | [a, b, c, d], _, hT =>
      simp only [List.nodup_cons, List.mem_cons, List.not_mem_nil, or_false, not_or, List.nodup_nil, not_false_eq_true, and_true] at hT
      obtain ⟨⟨n1, n2, n3⟩, ⟨n4, n5⟩, n6⟩ := hT
      have hi6 : i = 0 ∨ i = 1 ∨ i = 2 ∨ i = 3 ∨ i = 4 ∨ i = 5 := by omega
      have hj6 : j = 0 ∨ j = 1 ∨ j = 2 ∨ j = 3 ∨ j = 4 ∨ j = 5 := by omega
      unfold sameP at hS
      rcases hi6 with rfl | rfl | rfl | rfl | rfl | rfl <;> rcases hj6 with rfl | rfl | rfl | rfl | rfl | rfl <;> first | exact hij rfl | (simp [prsT] at hS; omega)
  · omega
theorem flat_big {r : List Add} {v : Int} (hv : v ∉ vsL r) (L : List (List Int)) : (L.map (bigP r)).flatten.count v = L.flatten.count v := by
  induction L with
  | nil => rfl
  | cons p L ih => rw [List.map_cons, List.flatten_cons, List.flatten_cons, List.count_append, List.count_append, ih, big_count hv]
/-- A subdivision of what is left is, lifted, one of the whole. -/
theorem big_sub {n : Int} {E : List Ed} {N : List (List Int)} {G : List Bool} {r : List Add} (hR : RightP n E) (hN : N.length = n.toNat) (h : ExpI E N G r) (hk : Known E r) {k : Int} {T : List Int} {L : List (List Int)} (hS : SubP n (edgesF N G) k T L) : SubP n E k T (L.map (bigP r)) := by
  obtain ⟨hsh, hf, ha⟩ := id hS
  have hk1 : 1 ≤ k := by rcases hsh with ⟨rfl, _⟩ | ⟨rfl, _⟩ <;> omega
  have alive : ∀ p ∈ L, ∀ x ∈ p, x ∉ vsL r := fun p hp x hx => by
    obtain ⟨i, hi, rfl⟩ := List.mem_iff_getElem.1 hp
    obtain ⟨hP, _, _, hl⟩ := hf i _ (List.getElem?_eq_getElem hi)
    obtain ⟨j, hj, rfl⟩ := List.mem_iff_getElem.1 hx
    by_cases hj1 : j + 1 < (L[i]).length
    · have := hP.2.2.2.2 j hj1
      rw [getD_at hj] at this
      obtain ⟨k1, k2⟩ := adj_left h.wf this
      exact (live_end h k1 k2).1
    · have := hP.2.2.2.2 (j - 1) (by omega)
      rw [show j - 1 + 1 = j by omega, getD_at hj] at this
      obtain ⟨k1, k2⟩ := adj_left h.wf this
      exact (live_end h k1 k2).2.1
  have nod : ∀ p ∈ L, (bigP r p).Nodup := fun p hp => by
    obtain ⟨i, hi, rfl⟩ := List.mem_iff_getElem.1 hp
    exact big_nodup h.val (hf i _ (List.getElem?_eq_getElem hi)).1.2.2.2.1 (alive _ hp)
  refine ⟨by simpa [shapeP] using hsh, fun i p hp => ?_, ?_⟩
  · rw [List.getElem?_map] at hp
    obtain ⟨q, hq, rfl⟩ := Option.map_eq_some_iff.1 hp
    obtain ⟨hP, h1, h2, h3⟩ := hf i q hq
    have hqm := List.mem_of_getElem? hq
    have hl := big_len r q
    have hq0 : 0 < q.length := List.length_pos_iff.2 hP.2.1
    refine ⟨⟨hR, fun k => ?_, by rw [(big_ends r q).1]; exact hP.2.2.1, nod q hqm, big_steps hk fun i hi => ?_⟩, by rw [(big_ends r q).1]; exact h1, by rw [(big_ends r q).2]; exact h2, by omega⟩
    · rw [k, List.length_nil] at hl; omega
    · obtain ⟨k1, k2⟩ := adj_left h.wf (hP.2.2.2.2 i hi)
      exact h.cur _ _ k1 k2
  · intro p hp v hv
    obtain ⟨i, hi, rfl⟩ := List.mem_iff_getElem.1 hp
    rw [List.length_map] at hi
    rw [List.getElem_map] at hv
    have hq := List.getElem?_eq_getElem hi
    obtain ⟨q, hqe⟩ : ∃ q, L[i] = q := ⟨_, rfl⟩
    rw [hqe] at hv hq
    have hqm := List.mem_of_getElem? hq
    have hnd := nod q hqm
    have hvb := innerL_mem hv
    have hve := ends_out hnd hv
    rw [(big_ends r q).1, (big_ends r q).2] at hve
    rcases big_mem hvb with hvq | ⟨s, hs, hvs⟩
    · rw [flat_big (alive q hqm v hvq)]
      exact ha q hqm v (inner_mem hvq hve.1 hve.2)
    · refine cnt_one (i := i) (p := bigP r q) (by rw [List.getElem?_map, hq]; rfl) ?_ fun j y hy hj hvy => ?_
      · have := List.nodup_iff_count.1 hnd v
        have := List.count_pos_iff.2 hvb
        omega
      · rw [List.getElem?_map] at hy
        obtain ⟨z, hz, rfl⟩ := Option.map_eq_some_iff.1 hy
        have hzm := List.mem_of_getElem? hz
        rcases big_mem hvy with hvz | ⟨t, ht, hvt⟩
        · exact alive z hzm v hvz (pth_mem hvs)
        · exact pth_apart h.val (alive q hqm _ (getD_mem (by omega))) (alive q hqm _ (getD_mem hs)) (alive z hzm _ (getD_mem (by omega))) (alive z hzm _ (getD_mem ht)) (pairs_apart hS hq hz (fun e => hj e.symm) hs ht) hvs hvt
/-! ### lifting, step by step -/
theorem lift_big {f : Int → Int → Option (List Int)} {r : List Add} {p : List Int} (hf : ∀ i, i + 1 < p.length → f (p.getD i 0) (p.getD (i + 1) 0) = some (p.getD i 0 :: pth r (p.getD i 0) (p.getD (i + 1) 0) ++ [p.getD (i + 1) 0])) : liftF f p = some (bigP r p) := by
  cases p with
  | nil => rfl
  | cons a t =>
    have key : ∀ j, j < (a :: t).length → liftA f (a :: t) j = some (bigP r ((a :: t).take (j + 1))) := by
      intro j
      induction j with
      | zero => intro _; simp [liftA, bigP]
      | succ j ih =>
        intro hj
        have ih := ih (by omega)
        rw [liftA_go ih (hf j hj)]
        have e1 : (a :: t).take (j + 1) = (a :: t).take j ++ [(a :: t).getD j 0] := by rw [List.take_succ_eq_append_getElem (by omega), getD_at (by omega)]
        have e2 : (a :: t).take (j + 1 + 1) = (a :: t).take j ++ [(a :: t).getD j 0, (a :: t).getD (j + 1) 0] := by
          rw [List.take_succ_eq_append_getElem hj, e1, getD_at hj]; simp
        rw [e2, big_snoc, ← e1]
        simp
    have := key ((a :: t).length - 1) (by simp)
    unfold liftF
    rw [this, show (a :: t).length - 1 + 1 = (a :: t).length by simp, List.take_length]
theorem liftN_big {f : Int → Int → Option (List Int)} {r : List Add} {L : List (List Int)} (hf : ∀ p ∈ L, liftF f p = some (bigP r p)) : ∀ {i : Nat}, i ≤ L.length → liftN f L i = some ((L.take i).map (bigP r)) := by
  intro i
  induction i with
  | zero => intro _; rfl
  | succ i ih =>
    intro hi
    rw [liftN_go (by omega) (ih (by omega)) (hf _ (List.getElem_mem _))]
    rw [List.take_succ_eq_append_getElem (by omega), List.map_append]
    rfl
theorem exp_left {n : Int} {E : List Ed} {l : List Stp} {N : List (List Int)} {G : List Bool} (hl : (replO n E l).2 = true) (h : ExpI E N G (addsL l)) {a b : Int} (ha : 0 ≤ a) (hb : b ∈ rowAt N a) : expF n E l a b = some (a :: pth (addsL l) a b ++ [b]) :=
  if_pos ⟨hl, h.cur a b ha hb⟩
theorem lift_left {n : Int} {E : List Ed} {l : List Stp} {N : List (List Int)} {G : List Bool} (hl : (replO n E l).2 = true) (h : ExpI E N G (addsL l)) {L : List (List Int)} (hL : ∀ p ∈ L, stepsE (edgesF N G) p) : liftO n E l L = some (L.map (bigP (addsL l))) := by
  refine (if_pos hl : _ = liftN (expF n E l) L L.length).trans ?_
  rw [liftN_big (fun p hp => lift_big fun i hi => ?_) (Nat.le_refl _), List.take_length]
  obtain ⟨k1, k2⟩ := adj_left h.wf (hL p hp i hi)
  exact exp_left hl h k1 k2
end Go.Sh

set_option linter.unusedVariables false
set_option linter.unusedSimpArgs false
namespace Go.Sh
open Go.Proofs
/-! ### topo.Check -/
noncomputable def SubC : Con := conP 2 (fun a : (Int × List Ed) × (Int × List Int × List (List Int)) => fewL a.2.2.2) (fun a => [grV a.1.1 a.1.2, sbV false a.2.1 a.2.2.1 a.2.2.2]) (fun a => .one (.s (.b (subB a.1.1 a.1.2 a.2.1 a.2.2.1 a.2.2.2))))
theorem SubC_at {n : Int} {E : List Ed} {k : Int} {Ts : List Int} {L : List (List Int)} (h : fewL L) : SubC.F [grV n E, sbV false k Ts L] = some (.one (.s (.b (subB n E k Ts L))), []) :=
  conP_at (a := ((n, E), (k, Ts, L))) (fun a b _ _ h => by
    obtain ⟨⟨n, E⟩, k, Ts, L⟩ := a
    obtain ⟨⟨n', E'⟩, k', Ts', L'⟩ := b
    simp at h
    obtain ⟨h1, h2⟩ := h
    obtain ⟨rfl, rfl⟩ := grV_inj h1
    obtain ⟨rfl, rfl, rfl⟩ := sbV_inj h2
    rfl) h
theorem noS {n : Int} {E : List Ed} {k : Int} {Ts : List Int} {L : List (List Int)} (h : ¬ SubP n E k Ts L) : Sc.b false = Sc.b (subB n E k Ts L) := by rw [subB_no h]
theorem prsT_len {k : Int} (h : k = 1 ∨ k = 2) : (prsT k).length = (if k = 1 then 6 else 3) := by rcases h with rfl | rfl <;> rfl
theorem prsT_in {k : Int} (h : k = 1 ∨ k = 2) {p : Ed} (hp : p ∈ prsT k) : (0 ≤ p.1 ∧ p.1 < (if k = 1 then 4 else 2)) ∧ 0 ≤ p.2 ∧ p.2 < (if k = 1 then 4 else 2) := by
  rcases h with rfl | rfl
  · revert p; decide
  · revert p; decide
def IsT (k : Int) (Ts : List Int) (L : List (List Int)) : Prop := (Ts.length : Int) = (if k = 1 then 4 else 2) ∧ L.length = (prsT k).length
theorem shape_iff {k : Int} {Ts : List Int} {L : List (List Int)} (h : k = 1 ∨ k = 2) : shapeP k Ts L ↔ IsT k Ts L := by
  unfold shapeP IsT
  rw [prsT_len h]
  rcases h with rfl | rfl <;> simp <;> omega
set_option maxHeartbeats 4000000 in
theorem Sub_ok : SoundC Try.prog T 31 SubC := by
  refine sound_con (X := { Γ := [(63, TopsC), (29, PathC), (28, ApartC)], T := T, nt := 98, ext := [62] }) (new_ok Try.pairs_call) hmix hT (sound_cons Tops_ok (sound_cons Path_ok (sound_cons Apart_ok sound_nil))) Try.func31 (by rfl) (by rfl) (by rfl) (by rfl) 5 ?_
  rintro ⟨⟨n, E⟩, k, Ts, L⟩ ⟨hL, hLr⟩
  dsimp only at hL hLr ⊢
  refine ⟨⟨Nat.le_of_ble_eq_true rfl, Nat.le_of_ble_eq_true rfl⟩, ?_⟩
  by_cases hk : k = 1 ∨ k = 2
  · have hpr : Try.prsR k = some (2, edges (prsT k)) := if_pos hk
    refine ⟨rfl, _, some (2, edges (prsT k)), rfl, congrArg some hpr, ?_⟩
    have hpl := prsT_len hk
    have hp6 : 0 < (prsT k).length ∧ (prsT k).length ≤ 6 := by rw [hpl]; split <;> omega
    refine Pick.T (by rw [edges_length]; simpa using hp6.1) ?_
    refine Call.by _ _ (TopsC_at k) ?_
    refine Pick.by (fun h1 => ?_) (fun h1 => ?_)
    · have h1 : ¬ (Ts.length : Int) = (if k = 1 then 4 else 2) := by simpa [ints_length] using h1
      refine Seg.by (by kernel_rfl) ?_
      refine ⟨rfl, ?_⟩
      show Sc.b false = Sc.b (subB n E k Ts L)
      exact noS fun h => h1 ((shape_iff hk).1 h.1).1
    have h1 : (Ts.length : Int) = (if k = 1 then 4 else 2) := by simpa [ints_length] using h1
    refine Seg.by (by kernel_rfl) ?_
    refine Pick.by (fun h2 => ?_) (fun h2 => ?_)
    · have h2 : ¬ L.length = (prsT k).length := by intro e; rw [rowsI_length, edges_length, e] at h2; simp at h2
      refine ⟨rfl, ?_⟩
      show Sc.b false = Sc.b (subB n E k Ts L)
      exact noS fun h => h2 ((shape_iff hk).1 h.1).2
    have h2 : L.length = (prsT k).length := by
      have h2 : ((L.length : Nat) : Int) = ((prsT k).length : Nat) := by simpa [rowsI_length, edges_length] using h2
      omega
    have hsh : shapeP k Ts L := (shape_iff hk).2 ⟨h1, h2⟩
    refine LoopP.intro (α := Nat) (fun i => i ≤ L.length ∧ ∀ j p, j < i → L[j]? = some p → fitP n E k Ts j p) (fun i => L.length - i) (fun i => [(2, .ptr 0 0), (3, .ptr 2 0), (5, .sl 5 none none), (33, .sl 4 none none), (34, .s (.i .i64 L.length)), (35, .s (.i .i64 i))])
      (fun i => [(0, some (.blk [.s (.i .i64 n), .sl 1 none none])), (1, some (.flat false 2 (edges E))), (2, some (.blk [.s (.i .i64 k), .sl 3 none none, .sl 4 none none])), (3, some (.flat false 1 (ints Ts))), (4, some (.nest false 1 (rowsI L) [] [])), (5, some (.flat true 2 (edges (prsT k))))]) 6 0 ⟨by omega, fun j p h => by omega⟩ (by refine Weak.by [(0, some _), (1, some _), (2, some _), (3, some _), (4, some _), (5, some _)] (by ((repeat' first | exact rfl | exact trivial | refine And.intro ?_ ?_) <;> (repeat' first | exact rfl | exact trivial | refine And.intro ?_ ?_)); all_goals (exact sc_eq (by rw [rowsI_length]))) (by ((repeat' first | exact rfl | exact trivial | refine And.intro ?_ ?_) <;> (repeat' first | exact rfl | exact trivial | refine And.intro ?_ ?_)); all_goals (exact sc_eq (by rw [rowsI_length]))) (by rfl)) ?_
    rintro i ⟨hi, hft⟩
    refine Pick.by (fun hc => ?_) (fun hc => ?_)
    · have hlt : i < L.length := by have := of_decide_eq_true hc; omega
      have hro : (rowsI L)[i]? = some (ints L[i]) := rowsI_get (List.getElem?_eq_getElem hlt)
      have hrl := hLr _ (List.getElem_mem hlt)
      obtain ⟨p, hp⟩ : ∃ p, L[i] = p := ⟨_, rfl⟩
      have hLi : L[i]? = some p := by rw [List.getElem?_eq_getElem hlt, hp]
      rw [hp] at hro hrl
      have hil : i < (prsT k).length := by omega
      obtain ⟨⟨qa, qb⟩, hq⟩ : ∃ q, (prsT k)[i] = q := ⟨_, rfl⟩
      have hqi := prsT_in hk (List.getElem_mem hil)
      rw [hq] at hqi
      dsimp only at hqi
      rw [← h1] at hqi
      have hqg : (prsT k).getD i (0, 0) = (qa, qb) := by rw [List.getD_eq_getElem?_getD, List.getElem?_eq_getElem hil, hq]; rfl
      have hqe : (edges (prsT k))[i]? = some [.i .i64 qa, .i .i64 qb] := edges_get (by rw [List.getElem?_eq_getElem hil, hq])
      have hta : Ts[qa.toNat]? = some (Ts.getD qa.toNat 0) := by rw [List.getD_eq_getElem?_getD, List.getElem?_eq_getElem (by omega)]; rfl
      have htb : Ts[qb.toNat]? = some (Ts.getD qb.toNat 0) := by rw [List.getD_eq_getElem?_getD, List.getElem?_eq_getElem (by omega)]; rfl
      refine Idx.by i rfl (by rw [rowsI_length]; exact hlt) ?_
      refine Pick.T (by simpa [rowsI_length] using hlt) ?_
      refine Idx.by i rfl (by rw [edges_length]; exact hil) ?_
      refine Idx.by 0 rfl (by decide) ?_
      refine Look.by _ hqe ?_
      refine Idx.by qa.toNat (by show qa = _; omega) (by rw [ints_length]; omega) ?_
      refine Look.by _ (ints_get hta) ?_
      refine Idx.by i rfl (by rw [edges_length]; exact hil) ?_
      refine Idx.by 1 rfl (by decide) ?_
      refine Look.by _ hqe ?_
      refine Idx.by qb.toNat (by show qb = _; omega) (by rw [ints_length]; omega) ?_
      refine Look.by _ (ints_get htb) ?_
      refine Seg.by (by kernel_rfl) ?_
      refine Look.by _ hro ?_
      refine Call.by _ _ (PathC_at (n := n) (E := E) (l := p) (by omega)) ?_
      refine Pick.by (fun h3 => ?_) (fun h3 => ?_)
      · have h3 : ¬ PathP n E p := by have h3 : (!pathB n E p) = true := h3; intro h; rw [pathB_iff.2 h] at h3; cases h3
        refine ⟨rfl, ?_⟩
        show Sc.b false = Sc.b (subB n E k Ts L)
        exact noS fun h => h3 (h.2.1 _ _ hLi).1
      have h3 : PathP n E p := by have h3 : (!pathB n E p) = false := h3; exact pathB_iff.1 (by simpa using h3)
      have hpl : 0 < p.length := List.length_pos_iff.2 h3.2.1
      have hp0 : p[0]? = some (p.headD 0) := by cases p with | nil => simp at hpl | cons a l => rfl
      have hpe : p[p.length - 1]? = some (p.getLastD 0) := by rw [List.getLastD_eq_getLast?, List.getLast?_eq_getElem?, List.getElem?_eq_getElem (by omega)]; rfl
      refine Look.by _ hro ?_
      refine Idx.by 0 rfl (by rw [ints_length]; exact hpl) ?_
      refine Look.by _ hro ?_
      refine Look.by _ (ints_get hp0) ?_
      refine Pick.by (fun h4 => ?_) (fun h4 => ?_)
      · have h4 : p.headD 0 ≠ Ts.getD qa.toNat 0 := by intro e; rw [e] at h4; simp at h4
        refine ⟨rfl, ?_⟩
        show Sc.b false = Sc.b (subB n E k Ts L)
        exact noS fun h => h4 (by have := (h.2.1 _ _ hLi).2.1; rw [hqg] at this; exact this)
      have h4 : p.headD 0 = Ts.getD qa.toNat 0 := by
        have h4 : (!(p.headD 0 == Ts.getD qa.toNat 0)) = false := h4
        simpa only [Bool.not_eq_false', beq_iff_eq] using h4
      refine Look.by _ hro ?_
      refine Pick.T (inI64_of (by rw [ints_length]; omega) (by rw [ints_length]; omega)) ?_
      refine Look.by _ hro ?_
      refine Idx.by (p.length - 1) (by rw [ints_length]; omega) (by rw [ints_length]; omega) ?_
      refine Look.by _ hro ?_
      refine Look.by _ (ints_get hpe) ?_
      refine Pick.by (fun h5 => ?_) (fun h5 => ?_)
      · have h5 : p.getLastD 0 ≠ Ts.getD qb.toNat 0 := by intro e; rw [e] at h5; simp at h5
        refine ⟨rfl, ?_⟩
        show Sc.b false = Sc.b (subB n E k Ts L)
        exact noS fun h => h5 (by have := (h.2.1 _ _ hLi).2.2.1; rw [hqg] at this; exact this)
      have h5 : p.getLastD 0 = Ts.getD qb.toNat 0 := by
        have h5 : (!(p.getLastD 0 == Ts.getD qb.toNat 0)) = false := h5
        simpa only [Bool.not_eq_false', beq_iff_eq] using h5
      refine Look.by _ hro ?_
      refine Pick.by (fun h6 => ?_) (fun h6 => ?_)
      · have h6 : p.length < 2 := by have := of_decide_eq_true h6; rw [ints_length] at this; omega
        refine ⟨rfl, ?_⟩
        show Sc.b false = Sc.b (subB n E k Ts L)
        exact noS fun h => (by have := (h.2.1 _ _ hLi).2.2.2; omega)
      have h6 : 2 ≤ p.length := by have := of_decide_eq_false h6; rw [ints_length] at this; omega
      have hfit : (k = 2 → 3 ≤ p.length) → ∀ j p, j < i + 1 → L[j]? = some p → fitP n E k Ts j p := fun h j p' hj hp' => by
        rcases Nat.lt_or_ge j i with hji | hji
        · exact hft j p' hji hp'
        · obtain rfl : j = i := by omega
          rw [hLi] at hp'; injection hp' with hp'; subst hp'
          refine ⟨h3, ?_, ?_, ?_⟩
          · rw [hqg]; exact h4
          · rw [hqg]; exact h5
          · rcases hk with rfl | rfl
            · omega
            · have := h rfl; omega
      refine Pick.by (fun h7 => ?_) (fun h7 => ?_)
      · have h7 : k = 2 := by simpa using h7
        refine Look.by _ hro ?_
        refine Pick.by (fun h8 => ?_) (fun h8 => ?_)
        · have h8 : p.length < 3 := by have := of_decide_eq_true h8; rw [ints_length] at this; omega
          refine ⟨rfl, ?_⟩
          show Sc.b false = Sc.b (subB n E k Ts L)
          exact noS fun h => (by have := (h.2.1 _ _ hLi).2.2.2; omega)
        have h8 : 3 ≤ p.length := by have := of_decide_eq_false h8; rw [ints_length] at this; omega
        refine Pick.T (inI64_of (by omega) (by omega)) ?_
        refine Next.by (i + 1) ⟨by omega, hfit fun _ => h8⟩ (by omega) (by refine Weak.by [(0, some _), (1, some _), (2, some _), (3, some _), (4, some _), (5, some _)] (by ((repeat' first | exact rfl | exact trivial | refine And.intro ?_ ?_) <;> (repeat' first | exact rfl | exact trivial | refine And.intro ?_ ?_))) (by ((repeat' first | exact rfl | exact trivial | refine And.intro ?_ ?_) <;> (repeat' first | exact rfl | exact trivial | refine And.intro ?_ ?_))) (by rfl))
      · have h7 : k ≠ 2 := by intro e; rw [e] at h7; simp at h7
        refine Pick.T (inI64_of (by omega) (by omega)) ?_
        refine Next.by (i + 1) ⟨by omega, hfit fun e => absurd e h7⟩ (by omega) (by refine Weak.by [(0, some _), (1, some _), (2, some _), (3, some _), (4, some _), (5, some _)] (by ((repeat' first | exact rfl | exact trivial | refine And.intro ?_ ?_) <;> (repeat' first | exact rfl | exact trivial | refine And.intro ?_ ?_))) (by ((repeat' first | exact rfl | exact trivial | refine And.intro ?_ ?_) <;> (repeat' first | exact rfl | exact trivial | refine And.intro ?_ ?_))) (by rfl))
    · have hge : L.length ≤ i := by have := of_decide_eq_false hc; omega
      refine Call.by _ _ (ApartC_at (few_app ⟨hL, hLr⟩)) ?_
      refine ⟨rfl, ?_⟩
      show Sc.b (apartB L) = Sc.b (subB n E k Ts L)
      have hfa : ∀ j p, L[j]? = some p → fitP n E k Ts j p := fun j p hj => hft j p (by have := (List.getElem?_eq_some_iff.1 hj).1; omega) hj
      congr 1
      rw [Bool.eq_iff_iff, apartB_iff, subB_iff]
      exact ⟨fun h => ⟨hsh, hfa, h⟩, fun h => h.2.2⟩
  · have hpr : Try.prsR k = none := if_neg hk
    refine ⟨rfl, _, none, rfl, congrArg some hpr, ?_⟩
    refine Seg.by (by kernel_rfl) ?_
    refine ⟨rfl, ?_⟩
    show Sc.b false = Sc.b (subB n E k Ts L)
    exact noS fun h => hk (by rcases h.1 with h | h; exact .inl h.1; exact .inr h.1)
end Go.Sh

set_option linter.unusedVariables false
set_option linter.unusedSimpArgs false
namespace Go.Sh
/-! ### few edges, few vertices -/
theorem nodup_lenG {α : Type} [DecidableEq α] {l : List α} : ∀ {m : List α}, l.Nodup → (∀ x ∈ l, x ∈ m) → l.length ≤ m.length := by
  induction l with
  | nil => intro m _ _; simp
  | cons x l ih =>
    intro m h s
    rw [List.nodup_cons] at h
    have hx := s x (by simp)
    have := ih (m := m.erase x) h.2 fun y hy => (List.mem_erase_of_ne (fun (e : y = x) => h.1 (by rw [← e]; exact hy))).2 (s y (by simp [hy]))
    rw [List.length_erase_of_mem hx] at this
    have := List.length_pos_of_mem hx
    simp; omega
theorem range_len {n : Int} {l : List Int} (h : l.Nodup) (hr : ∀ v ∈ l, 0 ≤ v ∧ v < n) : l.length ≤ n.toNat := by
  have := nodup_lenG (m := (List.range n.toNat).map fun (i : Nat) => (i : Int)) h fun v hv => by
    have := hr v hv
    exact List.mem_map.2 ⟨v.toNat, List.mem_range.2 (by omega), by omega⟩
  simpa using this
end Go.Sh

set_option linter.unusedVariables false
set_option linter.unusedSimpArgs false
namespace Go.Sh
open Go.Proofs
/-! ### carcanetlaw08.MinorCheck, MinorNone -/
end Go.Sh

set_option linter.unusedVariables false
set_option linter.unusedSimpArgs false
namespace Go.Sh
open Go.Proofs Go.RowKit
/-! ### slices.Clone of numbers -/
attribute [local go_sem] Oper.semAt_some
theorem tSI : Try.prog.underlying 30 = some (TypeDesc.slice 3) := by kernel_rfl
theorem iSI : (Try.prog.info? 3).map (fun i => (i.zero, i.size, i.bytes)) = some (some (.int .i64 0), 1, 8) := by kernel_rfl
set_option maxRecDepth 100000 in
set_option maxHeartbeats 2000000 in
theorem clone_emptyI (A : Option Addr) (c : Nat) (w : World) : Calls Try.prog 48 #[.slice A 0 c] w fun e w' => ∃ B c', e = .returned (.slice B 0 c') ∧ Frm (fun _ => False) w w' ∧ ((B = none ∧ c' = 0) ∨ ∃ gb cur T, B = some ⟨gb, 0, none⟩ ∧ w.heap.size ≤ gb ∧ w'.heap[gb]? = some (.cells cur T (0, 0)) ∧ c' ≤ cur.size ∧ c' ≤ 9223372036854775807) := by
  have t22 := tSI
  obtain ⟨i0, hi, hz0, hz1, hz2⟩ := info_parts iSI
  have q22 : ∀ (w : World) (a : Option Addr) (n c n' c' : Nat), (binOp .eql 30 (.slice a n c) (.slice none n' c')).run Try.prog w = .ok (.bool a.isNone) w := fun w a n c n' c' => Lib.run_eql_slice_nil w _ _ a n c n' c' tSI
  have u22 : ∀ w, Sem.run Try.prog (underlying 30) w = .ok (TypeDesc.slice 3) w := run_underlying t22
  refine (callsIn_wide (n := 6)).1 ?_
  refine callsIn_of_wp Try.func48 rfl trivial ?_ rfl
  simp only [Try.ntmps48, List.size_toArray, List.length_cons, List.length_nil, Nat.reduceAdd, Nat.reduceSub, Array.replicate_succ, Array.replicate_zero, List.push_toArray, List.append_toArray, List.nil_append, List.cons_append]
  cases A with
  | none =>
    gi_wp2
    go_ret
    exact ⟨_, _, rfl, Frm.refl _ _, .inl ⟨rfl, rfl⟩⟩
  | some a =>
    gi_wp2_with (gi_at_builtin; refine wpListIn_append_own _ rfl _ _ 30 rfl w.heap.size 3 i0 _ 1 8 t22 hi hz0 hz1 hz2 rfl (by decide) _ _ _ rfl (World.ownsRow_made w #[] 0 (Nat.le_refl _) (Nat.zero_le _) rfl) a 0 c [] rfl rfl (by intro j u hj; simp at hj) (by intro u hu; cases hu) (by unfold maxLen; omega) (by omega) (by simp) ?_)
    intro v' w1 hown hgrow hnil
    gi_wp2
    go_ret
    have hb : Below w.heap.size w w1 := ((Below.refl _ w).alloc (Nat.le_refl _) _).grown hgrow (by simp) (by intro k hk; simp [Value.ownBlock] at hk; omega)
    have hf : Frm (fun _ => False) w w1 := ⟨hb.os, .of hb.tape, hb.output, hb.size, fun b h _ => hb.block b h⟩
    rcases hown.2 with ⟨rfl, _⟩ | ⟨gb, cap', cur, rfl, hbase, hgb, r1, r2, r3, r4⟩
    · exact ⟨_, _, rfl, hf, .inl ⟨rfl, rfl⟩⟩
    · refine ⟨_, _, rfl, hf, .inr ⟨gb, cur, _, rfl, hbase, hgb, ?_, ?_⟩⟩
      · omega
      · unfold maxLen at *; omega
noncomputable def CloneCI : Con := conP 1 (fun l : List Int => l.length ≤ 1000000) (fun l => [.one (.flat false 1 (ints l))]) (fun l => .one (.flat true 1 (ints l)))
theorem CloneC_atI {l : List Int} (h : l.length ≤ 1000000) : CloneCI.F [.one (.flat false 1 (ints l))] = some (.one (.flat true 1 (ints l)), []) :=
  conP_at (a := l) (fun a b _ _ h => by simp at h; rw [ints_inj h]) h
theorem Clone_pI : SoundP Try.prog 48 (conF (fun l : List Int => l.length ≤ 1000000) (fun l => [.one (.flat false 1 (ints l))]) (fun l => .one (.flat true 1 (ints l)))) := by
  have hfull : SoundP Try.prog 48 (conF (fun l : List Int => l.length ≤ 1000000 ∧ l ≠ []) (fun l => [.one (.flat false 1 (ints l))]) (fun l => .one (.flat true 1 (ints l)))) := by
    refine con_pure (X := { Γ := [], T := T, nt := 8 }) cr_none hmix hT sound_nil Try.func48 (by rfl) (by rfl) (by rfl) 1 ?_
    rintro l ⟨hl, hne⟩
    refine ⟨⟨Nat.le_of_ble_eq_true rfl, Nat.le_of_ble_eq_true rfl⟩, ?_⟩
    have hpos : 0 < l.length := List.length_pos_iff.2 hne
    refine Pick.T (by rw [ints_length]; simpa using hpos) ?_
    refine Pick.T (by simp [cut, ints_length]; omega) ?_
    exact ⟨rfl, rfl, rfl⟩
  intro vs r outs hF w us hus
  obtain ⟨l, hl, rfl, rfl⟩ := conF_inv (pre := fun l : List Int => l.length ≤ 1000000) (enc := fun l => [.one (.flat false 1 (ints l))]) (val := fun l => .one (.flat true 1 (ints l))) hF
  by_cases hne : l = []
  · subst hne
    obtain ⟨u, hu, x, hx, hFl⟩ : ∃ u, us = #[u] ∧ CellOk w noLab 0 (.flat false 1 (ints [])) u := by
      obtain ⟨us⟩ := us
      match us, hus with
      | [u], hus => exact ⟨u, rfl, hus.1⟩
      | [], hus => exact hus.elim
      | _ :: _ :: _, hus => exact hus.2.elim
    subst hu
    subst hx
    refine (clone_emptyI x.A x.c w).mono ?_
    rintro e w' ⟨B, c', rfl, hf, hB⟩
    rcases hB with ⟨rfl, rfl⟩ | ⟨gb, cur, T', rfl, h1, h2, h3, h4⟩
    · exact ⟨_, noLab, rfl, hf, fun b k h => by simp [noLab] at h, ⟨⟨none, 0, fun _ => none, fun _ => 0⟩, rfl, FlatOk.nil (by omega)⟩⟩
    · have hlt : gb < w'.heap.size := by
        rcases Nat.lt_or_ge gb w'.heap.size with h | h
        · exact h
        · simp [Array.getElem?_eq_none h] at h2
      refine ⟨_, fun b => if b = gb then some (0, none) else none, rfl, hf, fun b k h => ?_, ⟨⟨some ⟨gb, 0, none⟩, c', fun _ => none, fun _ => 0⟩, rfl, ?_⟩⟩
      · dsimp only at h
        split at h
        · rename_i e; subst e; exact ⟨h1, hlt⟩
        · simp at h
      · exact { fits := Nat.zero_le _, pos := by omega, even := fun i row h => by simp [ints] at h, cell := fun i row j x h => by simp [ints] at h, room := fun _ => .inr ⟨gb, 0, cur, T', rfl, if_pos rfl, h2, by dsimp only; omega, h4⟩ }
  · exact hfull _ _ _ (conF_at (fun a b _ _ h => by simp at h; rw [ints_inj h]) ⟨hl, hne⟩) w us hus

theorem Clone_okI : SoundC Try.prog T 48 CloneCI := sound_pure Try.func48 (by rfl) (by rfl) (by simp [CloneCI, conP]) Clone_pI
end Go.Sh

set_option linter.unusedVariables false
set_option linter.unusedSimpArgs false
namespace Go.Sh
open Go.Proofs
/-! ### topo.Model -/
end Go.Sh

set_option linter.unusedVariables false
set_option linter.unusedSimpArgs false
namespace Go.Sh
open Go.Proofs Go.Sort Go.Shelf Go.RowKit
/-! ### rows of cells in their place -/
/-! ### edges -/
/-! ### graph.Normal's closure -/
theorem frm_grow [Fwd] (hD : Fwd.D) {w w' : World} (h : Frm (fun _ => False) w w') : ∃ q os, w' = grow (w.drewN q) os := by
  refine ⟨w'.drawn - w.drawn, w'.heap.extract w.heap.size w'.heap.size, ?_⟩
  have hd : w.drawn ≤ w'.drawn := h.tape.2 hD
  have hh : w'.heap = w.heap ++ w'.heap.extract w.heap.size w'.heap.size := by
    apply Array.ext_getElem?
    intro i
    have hs := h.size
    rcases Nat.lt_or_ge i w.heap.size with hi | hi
    · rw [Array.getElem?_append_left hi]; exact h.block i hi (fun h => h)
    · rw [Array.getElem?_append_right hi, Array.getElem?_extract]
      split
      · congr 1; omega
      · rw [Array.getElem?_eq_none]; omega
  have h1 := h.os; have h2 := h.tape.1; have h3 := h.output
  obtain ⟨a1, a2, a3, a4, a5⟩ := w
  obtain ⟨b1, b2, b3, b4, b5⟩ := w'
  simp only at h1 h2 h3 hd
  subst h1 h2 h3
  unfold grow World.drewN
  simp only at hh ⊢
  rw [← hh]
  congr 1
  omega
/-! ### slices.SortFunc on edges -/
end Go.Sh

set_option linter.unusedVariables false
set_option linter.unusedSimpArgs false
namespace Go.Sh
open Go.Proofs
/-! ### graph.Normal -/
end Go.Sh

set_option linter.unusedVariables false
set_option linter.unusedSimpArgs false
namespace Go.Sh
open Go.Proofs Go.Sort Go.Shelf Go.RowKit
/-! ### topo.Edges -/
theorem segsR_length (p : List Int) : (segsR p).length = p.length - 1 := by simp [segsR]
end Go.Sh

set_option linter.unusedVariables false
set_option linter.unusedSimpArgs false
namespace Go.Sh
open Go.Proofs Go.Sort Go.Shelf Go.RowKit
/-! ### slices.SortFunc on rows of numbers -/
theorem put_heap {α : Type} [Inhabited α] (enc : α → Value) (w : World) (q b off : Nat) (d : Array α) (os : Array Obj) {x : Nat} (hx : x < w.heap.size) :
    (grow (putRow enc (Sort.ahead w q) b off d) os).heap[x]? = (w.heap[x]?).map fun o => if x = b then onCells (putCells enc off d) o else o := by
  show ((w.heap.modify b (onCells (putCells enc off d))) ++ os)[x]? = _
  rw [Array.getElem?_append_left (by simpa using hx), Array.getElem?_modify]
  by_cases e : b = x
  · simp [e]
  · have : ¬ x = b := fun h => e h.symm
    simp [e, this]
noncomputable def sortL (cf : List Int → List Int → Int) (L : List (List Int)) : List (List Int) := L.mergeSort fun x y => !(ltOf cf) y x
theorem sortL_perm (cf : List Int → List Int → Int) (L : List (List Int)) : (sortL cf L).Perm L := List.mergeSort_perm L _
open Classical in
noncomputable def sortN (cf : List Int → List Int → Int) (l : List Flat) : List Flat := if h : ∃ L : List (List Int), l = rowsI L then rowsI (sortL cf h.choose) else l
theorem sortN_rows (cf : List Int → List Int → Int) (L : List (List Int)) : sortN cf (rowsI L) = rowsI (sortL cf L) := by
  have h : ∃ L' : List (List Int), rowsI L = rowsI L' := ⟨L, rfl⟩
  unfold sortN
  rw [dif_pos h, ← rowsI_inj h.choose_spec]
def sortNP (good : List Int → Prop) (cf : List Int → List Int → Int) (l : List Flat) : Prop := ∃ L : List (List Int), l = rowsI L ∧ (∀ r ∈ L, good r) ∧ L.Pairwise (fun x y => ltOf cf x y = true ∨ ltOf cf y x = true) ∧ L.length ≤ 1000000
theorem nest_sort {P : Program} {ρ : Ren} (LS : SlLaysF.n6 P ρ) {f c : Nat} (hf : ρ.f 6 = f) (hfn : ∃ fn, P.funcs[f]? = some fn ∧ fn.name ≠ "runtime.NumGoroutine" ∧ fn.body ≠ none)
    (eg : ∀ args w, (callFunc c args).run P w = .ok (.enter c args) w) (good : List Int → Prop) (cf : List Int → List Int → Int) (hO : SWO (ltOf cf))
    (hC : ∀ (x y : List Int) (A B : Option Addr) (ca cb : Nat) (W : World), good x → good y → FlatOk W noLab none A ca 1 (ints x) → FlatOk W noLab none B cb 1 (ints y) →
      Calls P c #[.slice A x.length ca, .slice B y.length cb] W fun e w' => e = .returned (.int .i64 (cf x y)) ∧ ∃ q os', w' = grow (W.drewN q) os') :
    NestFnCall P f c 1 (sortNP good cf) (sortN cf) := by
  refine ⟨hfn, ?_⟩
  rintro l ⟨L, rfl, hg, hD, hl⟩ w own n A cap rb rc h hown
  rw [sortN_rows]
  subst hf
  rcases Nat.eq_zero_or_pos L.length with h0 | h0
  · have : L = [] := List.eq_nil_of_length_eq_zero h0
    subst this
    refine (AnyF.slices_SortFunc_none { LS with } A cap _ w).mono ?_
    rintro e w' ⟨rfl, rfl⟩
    refine ⟨rfl, Frm.refl _ _, id, id, fun i hi => ⟨hi, rfl⟩, fun i hi => ⟨hi, rfl⟩, by simp [sortL], fun i fl hi => ?_, fun i fl hi => ?_, ?_⟩
    · simp [sortL, rowsI] at hi
    · simp [sortL, rowsI] at hi
    · rcases h.room rfl with ⟨h1, _⟩ | h1
      · exact .inl ⟨h1, by simp [sortL, rowsI]⟩
      · exact .inr h1
  · obtain ⟨m, hm⟩ : ∃ m, L.length = m + 1 := ⟨L.length - 1, by omega⟩
    rcases h.room rfl with ⟨_, h1⟩ | ⟨b, off, arr, T', hA, ho, hh, hsz⟩
    · have : L = [] := by simpa [rowsI] using h1
      rw [this] at h0; simp at h0
    have hbl : b < w.heap.size := hown b _ ho
    let el : Fin (m + 1) → List Int := fun i => L[i.1]'(by omega)
    let enc : Fin (m + 1) → Value := fun i => .slice (rb i.1) (el i).length (rc i.1)
    let cf' : Fin (m + 1) → Fin (m + 1) → Int := fun i j => cf (el i) (el j)
    have hfits := h.fits
    rw [rowsI_length] at hfits
    have hrow : ∀ i : Fin (m + 1), (rowsI L)[i.1]? = some (ints (el i)) := fun i => rowsI_get (List.getElem?_eq_getElem (by omega))
    have hmem : ∀ i : Fin (m + 1), el i ∈ L := fun i => List.getElem_mem _
    have hlt : ∀ i j : Fin (m + 1), ltOf cf' i j = ltOf cf (el i) (el j) := fun i j => rfl
    have hO' : SWO (ltOf cf') := ⟨fun x => hO.irrefl _, fun x y z => hO.trans _ _ _, fun x y z => hO.ntrans _ _ _⟩
    have hT : ∀ x y, (ltOf cf') x y = false → (ltOf cf') y x = false → x = y := fun x y h1 h2 => by
      rw [List.pairwise_iff_getElem] at hD
      rcases Nat.lt_trichotomy x.1 y.1 with hxy | hxy | hxy
      · have := hD x.1 y.1 (by omega) (by omega) hxy
        rw [hlt] at h1 h2
        rcases this with k | k
        · rw [show ltOf cf L[x.1] L[y.1] = false from h1] at k; simp at k
        · rw [show ltOf cf L[y.1] L[x.1] = false from h2] at k; simp at k
      · exact Fin.ext hxy
      · have := hD y.1 x.1 (by omega) (by omega) hxy
        rw [hlt] at h1 h2
        rcases this with k | k
        · rw [show ltOf cf L[y.1] L[x.1] = false from h2] at k; simp at k
        · rw [show ltOf cf L[x.1] L[y.1] = false from h1] at k; simp at k
    have hd : ((List.finRange (m + 1)).toArray).size = m + 1 := by simp
    have hcell : ∀ i : Fin (m + 1), w.cell? ⟨b, off + i.1, none⟩ = some (enc i) := fun i => by
      obtain ⟨a, v, q1, q2, q3, q4⟩ := h.head i.1 _ (hrow i)
      rw [hA] at q1; injection q1 with q1; subst q1
      rw [Addr.add_plain] at q3
      rw [q3, q4 (by simp), ints_length]
    have hH : Holds enc w b off (List.finRange (m + 1)).toArray := fun j hj => by
      rw [hd] at hj
      refine ⟨?_, by simp [World.frozen?, hh]⟩
      rw [getElem!_pos _ j (by rw [hd]; exact hj)]
      have hj' : (List.finRange (m + 1)).toArray[j]'(by rw [hd]; exact hj) = ⟨j, hj⟩ := by simp
      rw [hj', hcell ⟨j, hj⟩]
    have hfl : ∀ (q : Nat) (os : Array Obj) (d' : Array (Fin (m + 1))) (i : Fin (m + 1)), FlatOk (sortWorld enc w b off q d' os) noLab none (rb i.1) (rc i.1) 1 (ints (el i)) := fun q os d' i => by
      have hr := h.row i.1 _ (hrow i) (by simp)
      refine ⟨hr.fits, hr.pos, hr.even, fun i' row j x hi hj => ?_, fun hs => by simp at hs⟩
      obtain ⟨a, k1, k2, k3⟩ := hr.cell i' row j x hi hj
      refine ⟨a, k1, rfl, ?_⟩
      have hab : a.block < w.heap.size := hown _ _ k2
      have hne : a.block ≠ b := fun e => by rw [e, ho] at k2; injection k2 with k2; injection k2 with _ k2; simp at k2
      rw [cell_of_block (w := w)]
      · exact k3
      · rw [Addr.add_block]
        show (grow (putRow enc (Sort.ahead w q) b off d') os).heap[a.block]? = _
        rw [put_heap enc w q b off d' os hab]
        simp [hne]
    have hcmp : CmpLays1 P c #[] enc cf' b off (List.finRange (m + 1)).toArray.size w := fun q os dk hs x y =>
      hC (el x) (el y) _ _ _ _ _ (hg _ (hmem x)) (hg _ (hmem y)) (hfl q os dk x) (hfl q os dk y)
    have hS := Any.slices_SortFunc_total LS enc (fun _ => rfl) cf' hO' c #[] b off cap (List.finRange (m + 1)).toArray w eg hcmp hH hbl (by rw [hd]; omega) hT
    rw [rowsI_length, hm, hA]
    rw [hd] at hS
    refine hS.mono ?_
    rintro e w' ⟨rfl, q, os, rfl⟩
    obtain ⟨M, hM⟩ : ∃ M, (List.finRange (m + 1)).mergeSort (fun x y => !(ltOf cf') y x) = M := ⟨_, rfl⟩
    simp only [hM]
    have hperm : M.Perm (List.finRange (m + 1)) := by rw [← hM]; exact List.mergeSort_perm _ _
    have hML : M.length = m + 1 := by rw [hperm.length_eq]; simp
    have hnd : M.Nodup := hperm.nodup_iff.2 (List.nodup_finRange _)
    have hall : ∀ i : Fin (m + 1), i ∈ M := fun i => hperm.mem_iff.2 (List.mem_finRange i)
    have hmap : sortL cf L = M.map el := by
      have hLm : L = (List.finRange (m + 1)).map el := by
        apply List.ext_getElem
        · simp [hm]
        · intro i h1 h2; simp [el]
      rw [← hM, List.map_mergeSort (r := fun x y => !(ltOf cf') y x) (s := fun x y => !(ltOf cf) y x) (f := el) (fun a _ b _ => rfl), ← hLm]
      rfl
    have hlen : (rowsI (sortL cf L)).length = m + 1 := by rw [hmap]; simp [rowsI, hML]
    let s : Nat → Nat := fun i => if h : i < M.length then (M[i]).1 else i
    let t : Nat → Nat := fun j => if h : j < m + 1 then M.idxOf ⟨j, h⟩ else j
    have hs : ∀ i, (hi : i < m + 1) → s i = (M[i]'(by omega)).1 := fun i hi => by simp only [s]; rw [dif_pos (by omega)]
    have hget : ∀ i fl, (rowsI (sortL cf L))[i]? = some fl → i < m + 1 ∧ ∃ hi : i < M.length, fl = ints (el M[i]) := fun i fl hi => by
      have hil := (List.getElem?_eq_some_iff.1 hi).1
      rw [hlen] at hil
      refine ⟨hil, by omega, ?_⟩
      rw [hmap] at hi
      simp only [rowsI, List.getElem?_map, List.getElem?_eq_getElem (show i < M.length by omega), Option.map_some, Option.some.injEq] at hi
      exact hi.symm
    refine ⟨trivial, ⟨rfl, .of rfl, rfl, ?_, fun x hx hn => ?_⟩, s, t, fun i hi => ⟨by rw [hs i hi]; exact (M[i]'(by omega)).2, ?_⟩, fun i hi => ?_, hlen, fun i fl hi => ?_, fun i fl hi => ?_, .inr ⟨b, off, putCells enc off M.toArray arr, T', rfl, ho, ?_, by simp [putCells]; omega⟩⟩
    · show w.heap.size ≤ ((w.heap.modify b _) ++ os).size
      simp
    · show (grow (putRow enc (Sort.ahead w q) b off M.toArray) os).heap[x]? = _
      rw [put_heap enc w q b off M.toArray os hx]
      have : x ≠ b := fun e => hn (by rw [e]; exact ho)
      simp [this]
    · have hsi := hs i hi
      simp only [t]
      rw [dif_pos (by rw [hsi]; exact (M[i]'(by omega)).2)]
      have : (⟨s i, by rw [hsi]; exact (M[i]'(by omega)).2⟩ : Fin (m + 1)) = M[i]'(by omega) := Fin.ext hsi
      rw [this]
      exact hnd.idxOf_getElem i (by omega)
    · have hti : t i = M.idxOf ⟨i, hi⟩ := by simp only [t]; rw [dif_pos hi]
      have hlt' : M.idxOf (⟨i, hi⟩ : Fin (m + 1)) < M.length := List.idxOf_lt_length_of_mem (hall _)
      refine ⟨by omega, ?_⟩
      rw [hti, hs _ (by omega), List.getElem_idxOf hlt']
    · obtain ⟨hi1, hi2, rfl⟩ := hget i fl hi
      rw [hs i hi1]
      exact hrow _
    · obtain ⟨hi1, hi2, rfl⟩ := hget i fl hi
      refine ⟨_, rfl, ?_⟩
      rw [Addr.add_plain, hs i hi1]
      show (grow (putRow enc (Sort.ahead w q) b off M.toArray) os).cell? _ = _
      simp only [World.cell?, put_heap enc w q b off M.toArray os hbl, hh, Option.map_some, if_true, onCells]
      show (putCells enc off M.toArray arr)[off + i]? = _
      unfold putCells
      rw [Array.getElem?_mapIdx, Array.getElem?_eq_getElem (by omega), Option.map_some, if_pos (by simp; omega), ints_length]
      rw [getElem!_pos _ _ (by simp; omega)]
      simp [enc]
    · show (grow (putRow enc (Sort.ahead w q) b off M.toArray) os).heap[b]? = _
      rw [put_heap enc w q b off M.toArray os hbl, hh]
      simp [onCells]
end Go.Sh

set_option linter.unusedVariables false
set_option linter.unusedSimpArgs false
namespace Go.Sh
open Go.Proofs
/-! ### what is read: a path followed from a top -/
/-- the next one behind a path whose last one has two neighbours -/
def nxtT (E : List Ed) (p : List Int) : Int := (nearL E (p.getLastD 0)).getD 0 0 + (nearL E (p.getLastD 0)).getD 1 0 - p.getD (p.length - 2) 0
def goT (E : List Ed) : Nat → List Int → List Int
  | 0, p => p
  | f + 1, p => if (nearL E (p.getLastD 0)).length = 2 then goT E f (p ++ [nxtT E p]) else p
structure FolT (n : Int) (E : List Ed) (t : Int) (p : List Int) : Prop where
  two : 2 ≤ p.length
  hd : p.getD 0 0 = t
  st : stepsE E p
  nd : p.dropLast.Nodup
  deg : ∀ i, 1 ≤ i → i + 1 < p.length → (nearL E (p.getD i 0)).length = 2
  ne : ∀ i, i + 2 < p.length → p.getD i 0 ≠ p.getD (i + 2) 0
theorem adj_ne {n : Int} {E : List Ed} (hR : RightP n E) {x y : Int} (h : adjE E x y) : x ≠ y := by
  rcases h with h | h <;> (have := hR.2.2.2.1 _ h; unfold okE at this; dsimp only at this; omega)
theorem near_nodup {n : Int} {E : List Ed} (hR : RightP n E) (v : Int) : (nearL E v).Nodup :=
  (near_sorted hR.2.2.2.1 hR.2.2.2.2).imp fun h => by omega
theorem lastD_get {p : List Int} (h : 0 < p.length) : p.getLastD 0 = p.getD (p.length - 1) 0 := by
  rw [List.getLastD_eq_getLast?, List.getLast?_eq_getElem?, List.getD_eq_getElem?_getD]
/-- of two neighbours: which they are -/
theorem two_near {n : Int} {E : List Ed} (hR : RightP n E) {v a : Int} (h : (nearL E v).length = 2) (ha : adjE E v a) :
    adjE E v ((nearL E v).getD 0 0 + (nearL E v).getD 1 0 - a) ∧ (nearL E v).getD 0 0 + (nearL E v).getD 1 0 - a ≠ a ∧ ∀ b, adjE E v b → b = a ∨ b = (nearL E v).getD 0 0 + (nearL E v).getD 1 0 - a := by
  have hm : a ∈ nearL E v := mem_nearL.2 ha
  have hnd := near_nodup hR v
  obtain ⟨c, d, hcd⟩ : ∃ c d, nearL E v = [c, d] := by
    match hq : nearL E v, h with
    | [c, d], _ => exact ⟨c, d, rfl⟩
  have hall : ∀ b, adjE E v b ↔ b = c ∨ b = d := fun b => by rw [← mem_nearL, hcd]; simp
  rw [hcd] at hm hnd ⊢
  have hne : c ≠ d := by simpa using hnd
  simp only [List.getD_cons_zero, List.getD_cons_succ]
  simp only [List.mem_cons, List.not_mem_nil, or_false] at hm
  rcases hm with rfl | rfl
  · rw [show a + d - a = d by omega]
    exact ⟨(hall d).2 (.inr rfl), Ne.symm hne, fun b hb => (hall b).1 hb⟩
  · rw [show c + a - a = c by omega]
    exact ⟨(hall c).2 (.inl rfl), hne, fun b hb => ((hall b).1 hb).symm⟩
theorem getD_snoc {p : List Int} {x : Int} {i : Nat} : (p ++ [x]).getD i 0 = if i < p.length then p.getD i 0 else if i = p.length then x else 0 := by
  simp only [List.getD_eq_getElem?_getD, List.getElem?_append]
  by_cases h : i < p.length
  · rw [if_pos h, if_pos h]
  · rw [if_neg h, if_neg h]
    by_cases h2 : i = p.length
    · subst h2; simp
    · rw [if_neg h2, List.getElem?_eq_none (by simp; omega)]; rfl
section
variable {n : Int} {E : List Ed} {t : Int} {p : List Int}
theorem FolT.last_new (h : FolT n E t p) (hR : RightP n E) (ht : (nearL E t).length ≠ 2) (h2 : (nearL E (p.getLastD 0)).length = 2) : p.Nodup := by
  have h0 := h.two
  have hne0 : p ≠ [] := by intro e; rw [e] at h0; simp at h0
  have hl := lastD_get (p := p) (by omega)
  rw [hl] at h2
  have hdl : ∀ i, i + 1 < p.length → p.dropLast[i]? = some (p.getD i 0) := fun i hi => by
    rw [List.getElem?_dropLast, if_pos (by omega), List.getElem?_eq_getElem (by omega), getD_at (by omega)]
  have hinj : ∀ i j, i + 1 < p.length → j + 1 < p.length → p.getD i 0 = p.getD j 0 → i = j := fun i j hi hj e => by
    have hi' : i < p.dropLast.length := by simp; omega
    exact (List.getElem?_inj hi' h.nd).1 (by rw [hdl i hi, hdl j hj, e])
  have hlast : ∀ j, j + 1 < p.length → p.getD (p.length - 1) 0 ≠ p.getD j 0 := fun j hj e => by
    rcases Nat.eq_zero_or_pos j with rfl | hj0
    · rw [e, h.hd] at h2; exact ht h2
    have hdj := h.deg j hj0 hj
    have s1 := h.st (j - 1) (by omega)
    rw [show j - 1 + 1 = j by omega] at s1
    have s2 := h.st j (by omega)
    have s3 := h.st (p.length - 2) (by omega)
    rw [show p.length - 2 + 1 = p.length - 1 by omega, e] at s3
    have hall := (two_near hR hdj s1.symm).2.2
    have hne := h.ne (j - 1) (by omega)
    rw [show j - 1 + 2 = j + 1 by omega] at hne
    have e2 := (hall _ s2).resolve_left (Ne.symm hne)
    rcases hall _ s3.symm with k | k
    · have := hinj _ _ (by omega) (by omega) k; omega
    · rw [← e2] at k
      rcases Nat.lt_or_ge (j + 2) p.length with hj2 | hj2
      · have := hinj _ _ (by omega) (by omega) k
        have hx := h.ne j (by omega)
        rw [show j + 2 = p.length - 1 by omega] at hx
        exact hx e.symm
      · have hj3 : j + 1 = p.length - 1 := by omega
        rw [hj3, e] at s2
        exact adj_ne hR s2 rfl
  have hsp : p = p.dropLast ++ [p.getLast hne0] := (List.dropLast_concat_getLast hne0).symm
  rw [hsp, List.nodup_append]
  refine ⟨h.nd, by simp, fun a ha b hb e => ?_⟩
  simp only [List.mem_singleton] at hb
  subst hb
  obtain ⟨j, hj, hja⟩ := List.mem_iff_getElem.1 ha
  rw [List.length_dropLast] at hj
  refine hlast j (by omega) ?_
  rw [getD_at (by omega), getD_at (by omega), ← List.getLast_eq_getElem hne0, ← e, ← hja]
  simp
theorem FolT.next (h : FolT n E t p) (hR : RightP n E) (ht : (nearL E t).length ≠ 2) (h2 : (nearL E (p.getLastD 0)).length = 2) : FolT n E t (p ++ [nxtT E p]) := by
  have h0 := h.two
  have hl := lastD_get (p := p) (by omega)
  have hnd := h.last_new hR ht h2
  have s3 := h.st (p.length - 2) (by omega)
  rw [show p.length - 2 + 1 = p.length - 1 by omega, ← hl] at s3
  obtain ⟨q1, q2, _⟩ := two_near hR h2 s3.symm
  refine ⟨by simp; omega, ?_, fun i hi => ?_, by simpa using hnd, fun i h1 hi => ?_, fun i hi => ?_⟩
  · rw [getD_snoc, if_pos (by omega)]; exact h.hd
  · simp at hi
    rw [getD_snoc, getD_snoc, if_pos (by omega)]
    by_cases hi2 : i + 1 < p.length
    · rw [if_pos hi2]; exact h.st i hi2
    · rw [if_neg hi2, if_pos (by omega), show i = p.length - 1 by omega, ← hl]
      exact q1
  · simp at hi
    rw [getD_snoc, if_pos (by omega)]
    by_cases hi2 : i + 1 < p.length
    · exact h.deg i h1 hi2
    · rw [show i = p.length - 1 by omega, ← hl]; exact h2
  · simp at hi
    rw [getD_snoc, getD_snoc, if_pos (by omega)]
    by_cases hi2 : i + 2 < p.length
    · rw [if_pos hi2]; exact h.ne i hi2
    · rw [if_neg hi2, if_pos (by omega), show i = p.length - 2 by omega]
      exact Ne.symm q2
theorem FolT.inN (h : FolT n E t p) (hR : RightP n E) : ∀ x ∈ p, 0 ≤ x ∧ x < n := fun x hx => by
  obtain ⟨i, hi, rfl⟩ := List.mem_iff_getElem.1 hx
  have h0 := h.two
  rw [← getD_at hi]
  by_cases h1 : i + 1 < p.length
  · exact (adj_in hR (h.st i h1)).1
  · have := (adj_in hR (h.st (i - 1) (by omega))).2
    rwa [show i - 1 + 1 = i by omega] at this
theorem FolT.len (h : FolT n E t p) (hR : RightP n E) : p.length ≤ n.toNat + 1 := by
  have := range_len h.nd fun x hx => h.inN hR x ((List.dropLast_sublist _).subset hx)
  simp at this; omega
theorem FolT.len2 (h : FolT n E t p) (hR : RightP n E) (ht : (nearL E t).length ≠ 2) (h2 : (nearL E (p.getLastD 0)).length = 2) : p.length ≤ n.toNat :=
  range_len (h.last_new hR ht h2) (h.inN hR)
theorem FolT.start {x : Int} (hx : x ∈ nearL E t) : FolT n E t [t, x] where
  two := by simp
  hd := rfl
  st i hi := by
    have hi : i + 1 < 2 := hi
    have : i = 0 := by omega
    subst this
    exact mem_nearL.1 hx
  nd := by simp
  deg i h1 hi := by
    have hi : i + 1 < 2 := hi
    omega
  ne i hi := by
    have hi : i + 2 < 2 := hi
    omega
end
theorem goT_stop {E : List Ed} {f : Nat} {p : List Int} (h : (nearL E (p.getLastD 0)).length ≠ 2) : goT E f p = p := by
  cases f with
  | zero => rfl
  | succ f => exact if_neg h
theorem goT_step {E : List Ed} {f : Nat} {p : List Int} (h : (nearL E (p.getLastD 0)).length = 2) : goT E (f + 1) p = goT E f (p ++ [nxtT E p]) := if_pos h
/-- what a path is that was followed to its end -/
theorem goT_fol {n : Int} {E : List Ed} {t : Int} (hR : RightP n E) (ht : (nearL E t).length ≠ 2) : ∀ (f : Nat) {p : List Int}, FolT n E t p → n.toNat + 2 ≤ f + p.length → FolT n E t (goT E f p) ∧ (nearL E ((goT E f p).getLastD 0)).length ≠ 2 ∧ ∃ r, goT E f p = p ++ r := by
  intro f
  induction f with
  | zero =>
    intro p h hf
    have := h.len hR
    omega
  | succ f ih =>
    intro p h hf
    by_cases h2 : (nearL E (p.getLastD 0)).length = 2
    · rw [goT_step h2]
      obtain ⟨q1, q2, r, q3⟩ := ih (h.next hR ht h2) (by simp; omega)
      exact ⟨q1, q2, nxtT E p :: r, by rw [q3]; simp⟩
    · rw [goT_stop h2]
      exact ⟨h, h2, [], by simp⟩
/-! ### what is read -/
def topsK (E : List Ed) (k : Nat) : List Int := ((List.range k).filter fun v => (nearL E (v : Nat)).length == 3).map fun (v : Nat) => (v : Int)
def degOk (E : List Ed) (v : Nat) : Prop := (nearL E (v : Nat)).length = 0 ∨ (nearL E (v : Nat)).length = 2 ∨ (nearL E (v : Nat)).length = 3
def degsOk (n : Int) (E : List Ed) : Prop := ∀ v : Nat, (v : Int) < n → degOk E v
def pathT (n : Int) (E : List Ed) (t x : Int) : List Int := goT E n.toNat [t, x]
def keepT (n : Int) (E : List Ed) (t : Int) (l : List Int) : List (List Int) := (l.map fun x => pathT n E t x).filter fun p => decide (t < p.getLastD 0)
def pathsT (n : Int) (E : List Ed) (T : List Int) : List (List Int) := T.flatMap fun t => keepT n E t (nearL E t)
def usedT (L : List (List Int)) : Nat := (L.map fun p => p.length - 1).sum
def cmpT (p q : List Int) : Int := orI [cmpI (p.headD 0) (q.headD 0), cmpI (p.getLastD 0) (q.getLastD 0), cmpI (p.getD 1 0) (q.getD 1 0)]
def ltT (p q : List Int) : Prop := p.headD 0 < q.headD 0 ∨ (p.headD 0 = q.headD 0 ∧ (p.getLastD 0 < q.getLastD 0 ∨ (p.getLastD 0 = q.getLastD 0 ∧ p.getD 1 0 < q.getD 1 0)))
theorem cmpT_lt (p q : List Int) : cmpT p q < 0 ↔ ltT p q := by
  unfold cmpT orI cmpI ltT
  repeat' split
  all_goals simp_all
  all_goals omega
theorem ltT_t {x y : List Int} : ltOf cmpT x y = true ↔ ltT x y := by unfold ltOf; rw [decide_eq_true_iff, cmpT_lt]
theorem ltT_f {x y : List Int} : ltOf cmpT x y = false ↔ ¬ ltT x y := by unfold ltOf; rw [decide_eq_false_iff_not, cmpT_lt]
theorem swoT : Go.Sort.SWO (ltOf cmpT) where
  irrefl x := by rw [ltT_f]; unfold ltT; omega
  trans x y z h1 h2 := by rw [ltT_t] at *; unfold ltT at *; omega
  ntrans x y z h1 h2 := by rw [ltT_f] at *; unfold ltT at *; omega
theorem parts_T {p q : List Int} (h : p.headD 0 ≠ q.headD 0 ∨ p.getD 1 0 ≠ q.getD 1 0) : ltOf cmpT p q = true ∨ ltOf cmpT q p = true := by
  rw [ltT_t, ltT_t]; unfold ltT; omega
def kindT (T : List Int) : Int := if T.length = 4 then 1 else if T.length = 2 then 2 else 0
def ReadP (n : Int) (E : List Ed) : Prop := RightP n E ∧ degsOk n E ∧ kindT (topsK E n.toNat) ≠ 0 ∧ usedT (pathsT n E (topsK E n.toNat)) = E.length ∧
  SubP n E (kindT (topsK E n.toNat)) (topsK E n.toNat) (sortL cmpT (pathsT n E (topsK E n.toNat)))
open Classical in
noncomputable def readF (n : Int) (E : List Ed) : (Int × List Int × List (List Int)) × Bool :=
  if ReadP n E then ((kindT (topsK E n.toNat), topsK E n.toNat, sortL cmpT (pathsT n E (topsK E n.toNat))), true) else ((0, [], []), false)
theorem readF_no {n : Int} {E : List Ed} (h : ¬ ReadP n E) : readF n E = ((0, [], []), false) := if_neg h
theorem readF_yes {n : Int} {E : List Ed} (h : ReadP n E) : readF n E = ((kindT (topsK E n.toNat), topsK E n.toNat, sortL cmpT (pathsT n E (topsK E n.toNat))), true) := if_pos h
theorem mem_topsK {E : List Ed} {k : Nat} {t : Int} : t ∈ topsK E k ↔ 0 ≤ t ∧ t < k ∧ (nearL E t).length = 3 := by
  unfold topsK
  rw [List.mem_map]
  constructor
  · rintro ⟨v, hv, rfl⟩
    rw [List.mem_filter, List.mem_range] at hv
    exact ⟨by omega, by omega, by simpa using hv.2⟩
  · rintro ⟨h0, h1, h2⟩
    exact ⟨t.toNat, by rw [List.mem_filter, List.mem_range, show ((t.toNat : Nat) : Int) = t by omega]; exact ⟨by omega, by simpa using h2⟩, by omega⟩
theorem topsK_sorted (E : List Ed) (k : Nat) : (topsK E k).Pairwise (· < ·) := by
  unfold topsK
  rw [List.pairwise_map]
  exact (List.pairwise_lt_range.filter _).imp fun h => by omega
theorem topsK_succ (E : List Ed) (k : Nat) : topsK E (k + 1) = topsK E k ++ (if (nearL E (k : Nat)).length = 3 then [(k : Int)] else []) := by
  unfold topsK
  rw [List.range_succ, List.filter_append, List.map_append]
  congr 1
  by_cases h : (nearL E (k : Nat)).length = 3 <;> simp [h]
theorem pathT_is {n : Int} {E : List Ed} (hR : RightP n E) {t x : Int} (ht : (nearL E t).length = 3) (hx : x ∈ nearL E t) :
    FolT n E t (pathT n E t x) ∧ (nearL E ((pathT n E t x).getLastD 0)).length ≠ 2 ∧ ∃ r, pathT n E t x = t :: x :: r := by
  obtain ⟨h1, h2, r, h3⟩ := goT_fol hR (by omega) n.toNat (FolT.start hx) (by simp)
  exact ⟨h1, h2, r, h3⟩
theorem mem_keepT {n : Int} {E : List Ed} {t : Int} {l : List Int} {p : List Int} : p ∈ keepT n E t l ↔ (∃ x ∈ l, p = pathT n E t x) ∧ t < p.getLastD 0 := by
  unfold keepT
  rw [List.mem_filter, List.mem_map, decide_eq_true_iff]
  exact and_congr_left fun _ => ⟨fun ⟨x, hx, e⟩ => ⟨x, hx, e.symm⟩, fun ⟨x, hx, e⟩ => ⟨x, hx, e.symm⟩⟩
theorem keepT_snoc (n : Int) (E : List Ed) (t : Int) (l : List Int) (x : Int) : keepT n E t (l ++ [x]) = keepT n E t l ++ (if t < (pathT n E t x).getLastD 0 then [pathT n E t x] else []) := by
  unfold keepT
  rw [List.map_append, List.filter_append]
  congr 1
  rw [List.map_cons, List.map_nil]
  by_cases h : t < (pathT n E t x).getLastD 0
  · rw [if_pos h, List.filter_cons, if_pos (decide_eq_true h)]; rfl
  · rw [if_neg h, List.filter_cons, if_neg (by rw [decide_eq_true_iff]; exact h)]; rfl
theorem paths_keys {n : Int} {E : List Ed} (hR : RightP n E) {T : List Int} (hT : ∀ t ∈ T, (nearL E t).length = 3) (hnd : T.Nodup) :
    (pathsT n E T).Pairwise (fun x y => ltOf cmpT x y = true ∨ ltOf cmpT y x = true) := by
  unfold pathsT
  rw [List.pairwise_flatMap]
  refine ⟨fun t ht => ?_, ?_⟩
  · unfold keepT
    refine List.Pairwise.filter _ ?_
    rw [List.pairwise_map]
    refine List.Pairwise.imp_of_mem ?_ (near_nodup hR t)
    intro x y hx hy hne
    obtain ⟨_, _, r, hr⟩ := pathT_is hR (hT t ht) hx
    obtain ⟨_, _, q, hq⟩ := pathT_is hR (hT t ht) hy
    rw [hr, hq]
    exact parts_T (.inr (by simpa using hne))
  · refine List.Pairwise.imp_of_mem ?_ hnd
    intro t u ht hu hne p hp q hq
    obtain ⟨⟨x, hx, rfl⟩, _⟩ := mem_keepT.1 hp
    obtain ⟨⟨y, hy, rfl⟩, _⟩ := mem_keepT.1 hq
    obtain ⟨_, _, r, hr⟩ := pathT_is hR (hT t ht) hx
    obtain ⟨_, _, q, hq⟩ := pathT_is hR (hT u hu) hy
    rw [hr, hq]
    exact parts_T (.inl (by simpa using hne))
end Go.Sh

set_option linter.unusedVariables false
set_option linter.unusedSimpArgs false
namespace Go.Sh
open Go.Proofs Go.Sort Go.Shelf Go.RowKit
/-! ### slices.SortFunc on paths -/
def goodT (x : List Int) : Prop := 2 ≤ x.length ∧ x.length ≤ 1000000
theorem hd_get {x : List Int} (h : 0 < x.length) : x[0]? = some (x.headD 0) := by cases x with | nil => simp at h | cons a l => rfl
theorem last_get {x : List Int} (h : 0 < x.length) : x[x.length - 1]? = some (x.getLastD 0) := by rw [List.getLastD_eq_getLast?, List.getLast?_eq_getElem?, List.getElem?_eq_getElem (by omega)]; rfl
theorem getD_get {x : List Int} {i : Nat} (h : i < x.length) : x[i]? = some (x.getD i 0) := by rw [List.getD_eq_getElem?_getD, List.getElem?_eq_getElem h]; rfl
theorem CloT_p [Fwd] : SoundP Try.prog 70 (conF (fun a : List Int × List Int => goodT a.1 ∧ goodT a.2) (fun a => [.one (.flat false 1 (ints a.1)), .one (.flat false 1 (ints a.2))]) (fun a => .one (.s (.i .i64 (cmpT a.1 a.2))))) := by
  refine con_pure (X := { Γ := [(72, CompareC), (71, OrC)], T := T, nt := 34 }) cr_none hmix hT (sound_cons Compare_ok (sound_cons Or_ok sound_nil)) Try.func70 (by rfl) (by rfl) (by rfl) 2 ?_
  rintro ⟨x, y⟩ ⟨⟨hx, hx2⟩, hy, hy2⟩
  dsimp only at hx hx2 hy hy2 ⊢
  refine ⟨⟨Nat.le_of_ble_eq_true rfl, Nat.le_of_ble_eq_true rfl⟩, ?_⟩
  refine Idx.by 0 rfl (by rw [ints_length]; omega) ?_
  refine Look.by _ (ints_get (hd_get (by omega))) ?_
  refine Idx.by 0 rfl (by rw [ints_length]; omega) ?_
  refine Look.by _ (ints_get (hd_get (by omega))) ?_
  refine Call.by _ _ (CompareC_at _ _) ?_
  refine Pick.T (inI64_of (by rw [ints_length]; omega) (by rw [ints_length]; omega)) ?_
  refine Idx.by (x.length - 1) (by rw [ints_length]; omega) (by rw [ints_length]; omega) ?_
  refine Look.by _ (ints_get (last_get (by omega))) ?_
  refine Pick.T (inI64_of (by rw [ints_length]; omega) (by rw [ints_length]; omega)) ?_
  refine Idx.by (y.length - 1) (by rw [ints_length]; omega) (by rw [ints_length]; omega) ?_
  refine Look.by _ (ints_get (last_get (by omega))) ?_
  refine Call.by _ _ (CompareC_at _ _) ?_
  refine Idx.by 1 rfl (by rw [ints_length]; omega) ?_
  refine Look.by _ (ints_get (getD_get (by omega))) ?_
  refine Idx.by 1 rfl (by rw [ints_length]; omega) ?_
  refine Look.by _ (ints_get (getD_get (by omega))) ?_
  refine Call.by _ _ (CompareC_at _ _) ?_
  refine Call.by _ _ (OrC_at (l := [cmpI (x.headD 0) (y.headD 0), cmpI (x.getLastD 0) (y.getLastD 0), cmpI (x.getD 1 0) (y.getD 1 0)]) (by simp)) ?_
  refine Seg.by (by kernel_rfl) ?_
  refine ⟨rfl, ?_⟩
  show _ = _
  rfl
theorem cloT_call (x y : List Int) (A B : Option Addr) (ca cb : Nat) (W : World) (hx : goodT x) (hy : goodT y) (h1 : FlatOk W noLab none A ca 1 (ints x)) (h2 : FlatOk W noLab none B cb 1 (ints y)) :
    Calls Try.prog 70 #[.slice A x.length ca, .slice B y.length cb] W fun e w' => e = .returned (.int .i64 (cmpT x y)) ∧ ∃ q os', w' = grow (W.drewN q) os' := by
  letI : Fwd := ⟨True⟩
  have hF : conF (fun a : List Int × List Int => goodT a.1 ∧ goodT a.2) (fun a => [V.one (.flat false 1 (ints a.1)), .one (.flat false 1 (ints a.2))]) (fun a => V.one (C.s (.i .i64 (cmpT a.1 a.2)))) [.one (.flat false 1 (ints x)), .one (.flat false 1 (ints y))] = some (.one (.s (.i .i64 (cmpT x y))), []) :=
    conF_at (a := (x, y)) (fun a b _ _ h => by simp at h; rw [ints_inj h.1, ints_inj h.2]) ⟨hx, hy⟩
  refine (CloT_p _ _ _ hF W #[.slice A x.length ca, .slice B y.length cb] ⟨⟨⟨A, ca, fun _ => none, fun _ => 0⟩, by rw [ints_length], h1⟩, ⟨⟨B, cb, fun _ => none, fun _ => 0⟩, by rw [ints_length], h2⟩, trivial⟩).mono ?_
  rintro e w' ⟨u, lab, rfl, hf, _, hu⟩
  obtain ⟨p, hu⟩ := hu
  refine ⟨?_, frm_grow trivial hf⟩
  show Ending.returned u = _
  rw [show u = (Sc.i .i64 (cmpT x y)).val from hu]
  rfl
theorem SortT_row : NestFnCall Try.prog 69 70 1 (sortNP goodT cmpT) (sortN cmpT) :=
  nest_sort Try.laysSortR rfl ⟨_, Try.func69, by decide, by simp [Try.f69]⟩
    (enters_of Try.func70 (by kernel_rfl) rfl) goodT cmpT swoT cloT_call
end Go.Sh

set_option linter.unusedVariables false
set_option linter.unusedSimpArgs false
namespace Go.Sh
open Go.Proofs
/-! ### topo.Read -/
noncomputable def ReadC : Con := conP 1 (fun a : Int × List Ed => a.2.length ≤ 1000000) (fun a => [grV a.1 a.2]) (fun a => .tup [sbV true (readF a.1 a.2).1.1 (readF a.1 a.2).1.2.1 (readF a.1 a.2).1.2.2, .one (.s (.b (readF a.1 a.2).2))])
theorem ReadC_at {n : Int} {E : List Ed} (h : E.length ≤ 1000000) : ReadC.F [grV n E] = some (.tup [sbV true (readF n E).1.1 (readF n E).1.2.1 (readF n E).1.2.2, .one (.s (.b (readF n E).2))], []) :=
  conP_at (a := (n, E)) (fun x y _ _ h => by
    obtain ⟨n, E⟩ := x
    obtain ⟨n', E'⟩ := y
    simp at h
    obtain ⟨rfl, rfl⟩ := grV_inj h
    rfl) h
def nbK (n : Nat) (E : List Ed) (k : Nat) : List (List Int) := ((List.range k).map fun (v : Nat) => nearL E (v : Int)) ++ List.replicate (n - k) []
theorem nbK_len {n : Nat} {E : List Ed} {k : Nat} (h : k ≤ n) : (nbK n E k).length = n := by simp [nbK]; omega
theorem nbK_end (n : Nat) (E : List Ed) : nbK n E n = nbrs n E := by simp [nbK, nbrs]
theorem nbK_zero (n : Nat) (E : List Ed) : nbK n E 0 = List.replicate n [] := by simp [nbK]
theorem nbK_set {n : Nat} {E : List Ed} {k : Nat} (h : k < n) : (nbK n E k).set k (nearL E (k : Int)) = nbK n E (k + 1) := by
  apply List.ext_getElem?
  intro i
  unfold nbK
  rw [List.getElem?_set]
  have hl : (((List.range k).map fun (v : Nat) => nearL E (v : Int)) ++ List.replicate (n - k) []).length = n := by simp; omega
  by_cases h1 : k = i
  · subst h1
    rw [if_pos rfl, if_pos (by rw [hl]; exact h), List.getElem?_append_left (by simp), List.getElem?_map, List.getElem?_range (by omega)]; rfl
  · rw [if_neg h1]
    by_cases h2 : i < k
    · rw [List.getElem?_append_left (by simpa using h2), List.getElem?_append_left (by simp; omega), List.getElem?_map, List.getElem?_map, List.getElem?_range h2, List.getElem?_range (by omega)]
    · rw [List.getElem?_append_right (by simp; omega), List.getElem?_append_right (by simp; omega), List.getElem?_replicate, List.getElem?_replicate]
      simp
      by_cases h3 : i < n
      · rw [if_pos (by omega), if_pos (by omega)]
      · rw [if_neg (by omega), if_neg (by omega)]
theorem nb_get {n : Nat} {E : List Ed} {v : Nat} (h : v < n) : (rowsI (nbrs n E))[v]? = some (ints (nearL E (v : Int))) := by
  refine rowsI_get ?_
  unfold nbrs
  rw [List.getElem?_map, List.getElem?_range h]; rfl
theorem keepT_len (n : Int) (E : List Ed) (t : Int) (l : List Int) : (keepT n E t l).length ≤ l.length := by
  unfold keepT
  exact Nat.le_trans (List.length_filter_le _ _) (by simp)
theorem pathsT_snoc (n : Int) (E : List Ed) (T : List Int) (t : Int) : pathsT n E (T ++ [t]) = pathsT n E T ++ keepT n E t (nearL E t) := by simp [pathsT]
theorem pathsT_len {n : Int} {E : List Ed} : ∀ {T : List Int}, (∀ t ∈ T, (nearL E t).length = 3) → (pathsT n E T).length ≤ 3 * T.length
  | [], _ => by simp [pathsT]
  | t :: T, h => by
    have ih := pathsT_len (n := n) (T := T) fun x hx => h x (List.mem_cons_of_mem _ hx)
    have h1 := keepT_len n E t (nearL E t)
    have h2 := h t (by simp)
    unfold pathsT at ih ⊢
    rw [List.flatMap_cons, List.length_append, List.length_cons]
    omega
theorem keepT_row {n : Int} {E : List Ed} (hR : RightP n E) {t : Int} (ht : (nearL E t).length = 3) {l : List Int} (hl : ∀ x ∈ l, x ∈ nearL E t) {p : List Int} (hp : p ∈ keepT n E t l) : 2 ≤ p.length ∧ p.length ≤ n.toNat + 1 := by
  obtain ⟨⟨x, hx, rfl⟩, _⟩ := mem_keepT.1 hp
  obtain ⟨h1, _, _⟩ := pathT_is hR ht (hl x hx)
  exact ⟨h1.two, h1.len hR⟩
theorem pathsT_row {n : Int} {E : List Ed} (hR : RightP n E) {T : List Int} (hT : ∀ t ∈ T, (nearL E t).length = 3) {p : List Int} (hp : p ∈ pathsT n E T) : 2 ≤ p.length ∧ p.length ≤ n.toNat + 1 := by
  obtain ⟨t, ht, hp⟩ := List.mem_flatMap.1 hp
  exact keepT_row hR (hT t ht) (fun x hx => hx) hp
theorem usedT_le {m : Nat} : ∀ {L : List (List Int)}, (∀ p ∈ L, p.length ≤ m + 1) → usedT L ≤ L.length * m
  | [], _ => by simp [usedT]
  | p :: L, h => by
    have ih := usedT_le (m := m) (L := L) fun x hx => h x (List.mem_cons_of_mem _ hx)
    have h1 := h p (by simp)
    simp only [usedT, List.map_cons, List.sum_cons, List.length_cons] at ih ⊢
    rw [Nat.succ_mul]
    omega
theorem usedT_snoc (L : List (List Int)) (p : List Int) : usedT (L ++ [p]) = usedT L + (p.length - 1) := by simp [usedT]
set_option maxHeartbeats 4000000 in
theorem Read_ok : SoundC Try.prog T 35 ReadC := by
  refine sound_con (X := { Γ := [(42, RightC), (68, NearGC), (31, SubC)], T := T, nt := 149, ext := [69] }) (nestFn_ok SortT_row) hmix hT (sound_cons RightG_ok (sound_cons Near_ok (sound_cons Sub_ok sound_nil))) Try.func35 (by rfl) (by rfl) (by rfl) (by rfl) 2 ?_
  rintro ⟨n, E⟩ hl
  dsimp only at hl ⊢
  refine ⟨⟨Nat.le_of_ble_eq_true rfl, Nat.le_of_ble_eq_true rfl⟩, ?_⟩
  refine Call.by _ _ (RightC_at n E) ?_
  refine Pick.by (fun h1 => ?_) (fun h1 => ?_)
  · have h1 : ¬ RightP n E := by simpa using h1
    have hv := readF_no (n := n) (E := E) (fun h => h1 h.1)
    dsimp only
    rw [hv]
    exact ⟨rfl, rfl, ⟨rfl, ⟨rfl, rfl⟩, ⟨rfl, rfl⟩, trivial⟩, rfl, trivial⟩
  have h1 : RightP n E := by simpa using h1
  obtain ⟨hn0, hn1, hE4, hokE, hsrt⟩ := id h1
  refine Pick.T (by simp) ?_
  refine Idx.by n.toNat (by omega) (by omega) ?_
  refine LoopP.intro (α := Nat) (fun k => k ≤ n.toNat) (fun k => n.toNat - k) (fun k => [(1, .ptr 0 0), (2, .ptr 2 0), (4, .ptr 3 0), (5, .sl 4 none none), (24, .s (.i .i64 n.toNat)), (25, .s (.i .i64 k))])
    (fun k => [(0, some (.blk [.s (.i .i64 n), .sl 1 none none])), (1, some (.flat false 2 (edges E))), (2, some (.blk [.s (.i .i64 0), .nils, .nils])), (3, some (.blk [.s (.i .i64 0), .nils, .nils])), (4, some (.nest true 1 (rowsI (nbK n.toNat E k)) [] []))]) 5 0 (by omega) (by refine Weak.by [(0, some _), (1, some _), (2, some _), (3, some _), (4, some _)] (by ((repeat' first | exact rfl | exact trivial | refine And.intro ?_ ?_) <;> (repeat' first | exact rfl | exact trivial | refine And.intro ?_ ?_)); all_goals ((first | exact sc_eq (by rw [List.length_replicate]) | (rw [nbK_zero]; simp [rowsI, ints]; done)))) (by ((repeat' first | exact rfl | exact trivial | refine And.intro ?_ ?_) <;> (repeat' first | exact rfl | exact trivial | refine And.intro ?_ ?_)); all_goals ((first | exact sc_eq (by rw [List.length_replicate]) | (rw [nbK_zero]; simp [rowsI, ints]; done)))) (by rfl)) ?_
  rintro k hk
  have hkl : (rowsI (nbK n.toNat E k)).length = n.toNat := by rw [rowsI_length, nbK_len hk]
  refine Pick.by (fun hc => ?_) (fun hc => ?_)
  · have hlt : k < n.toNat := by have := of_decide_eq_true hc; omega
    refine Call.by _ _ (NearGC_at (n := n) (E := E) (k : Int) hl) ?_
    refine Idx.by k rfl (by rw [hkl]; exact hlt) ?_
    refine Pick.T (by rw [hkl]; simpa using hlt) ?_
    refine Pick.T (inI64_of (by omega) (by omega)) ?_
    have hng : nearG n E (k : Int) = nearL E k := if_pos h1
    refine Next.by (k + 1) (by omega) (by omega) (by refine Weak.by [(0, some _), (1, some _), (2, some _), (3, some _), (4, some _)] (by ((repeat' first | exact rfl | exact trivial | refine And.intro ?_ ?_) <;> (repeat' first | exact rfl | exact trivial | refine And.intro ?_ ?_)); all_goals ((rw [← nbK_set hlt, rowsI_set, hng]))) (by ((repeat' first | exact rfl | exact trivial | refine And.intro ?_ ?_) <;> (repeat' first | exact rfl | exact trivial | refine And.intro ?_ ?_)); all_goals ((rw [← nbK_set hlt, rowsI_set, hng]))) (by rfl))
  have hge : k = n.toNat := by have := of_decide_eq_false hc; omega
  subst hge
  rw [nbK_end] at hkl ⊢
  refine LoopP.intro (α := Nat) (fun k => k ≤ n.toNat ∧ ∀ v : Nat, v < k → degOk E v) (fun k => n.toNat - k) (fun k => [(1, .ptr 0 0), (2, .ptr 2 0), (4, .ptr 3 0), (5, .sl 4 none none), (35, .sl 4 none none), (36, .s (.i .i64 n.toNat)), (37, .s (.i .i64 k))])
    (fun k => [(0, some (.blk [.s (.i .i64 n), .sl 1 none none])), (1, some (.flat false 2 (edges E))), (2, some (.blk [.s (.i .i64 0), .nils, .nils])), (3, some (.blk [.s (.i .i64 0), .sl 5 none none, .nils])), (4, some (.nest true 1 (rowsI (nbrs n.toNat E)) [] [])), (5, some (.flat true 1 (ints (topsK E k))))]) 6 0 ⟨by omega, fun v h => by omega⟩ (by refine Weak.by [(0, some _), (1, some _), (2, some _), (3, some _), (4, some _), (5, none)] (by ((repeat' first | exact rfl | exact trivial | refine And.intro ?_ ?_) <;> (repeat' first | exact rfl | exact trivial | refine And.intro ?_ ?_)); all_goals ((first | exact sc_eq (by rw [hkl]) | done))) (by ((repeat' first | exact rfl | exact trivial | refine And.intro ?_ ?_) <;> (repeat' first | exact rfl | exact trivial | refine And.intro ?_ ?_)); all_goals ((first | exact sc_eq (by rw [hkl]) | done))) (by rfl)) ?_
  rintro k ⟨hk, hdg⟩
  have htl : (topsK E k).length ≤ k := by unfold topsK; rw [List.length_map]; exact Nat.le_trans (List.length_filter_le _ _) (by simp)
  refine Pick.by (fun hc => ?_) (fun hc => ?_)
  · have hlt : k < n.toNat := by have := of_decide_eq_true hc; omega
    have hro := nb_get (E := E) hlt
    have hnl := nearL_length E k
    have hnx : degOk E k → ∀ v : Nat, v < k + 1 → degOk E v := fun h v hv => by
      rcases Nat.lt_or_ge v k with h2 | h2
      · exact hdg v h2
      · obtain rfl : v = k := by omega
        exact h
    have hst := topsK_succ E k
    refine Idx.by k rfl (by rw [hkl]; exact hlt) ?_
    refine Pick.T (by rw [hkl]; simpa using hlt) ?_
    refine Look.by _ hro ?_
    refine Pick.by (fun h3 => ?_) (fun h3 => ?_)
    · have h3 : (nearL E (k : Int)).length = 0 := by rw [ints_length] at h3; have := beq_iff_eq.1 h3; omega
      rw [if_neg (by omega), List.append_nil] at hst
      refine Pick.T (inI64_of (by omega) (by omega)) ?_
      refine Next.by (k + 1) ⟨by omega, hnx (.inl h3)⟩ (by omega) (by refine Weak.by [(0, some _), (1, some _), (2, some _), (3, some _), (4, some _), (5, some _)] (by ((repeat' first | exact rfl | exact trivial | refine And.intro ?_ ?_) <;> (repeat' first | exact rfl | exact trivial | refine And.intro ?_ ?_)); all_goals ((rw [hst]))) (by ((repeat' first | exact rfl | exact trivial | refine And.intro ?_ ?_) <;> (repeat' first | exact rfl | exact trivial | refine And.intro ?_ ?_)); all_goals ((rw [hst]))) (by rfl))
    refine Pick.by (fun h4 => ?_) (fun h4 => ?_)
    · have h4 : (nearL E (k : Int)).length = 2 := by rw [ints_length] at h4; have := beq_iff_eq.1 h4; omega
      rw [if_neg (by omega), List.append_nil] at hst
      refine Pick.T (inI64_of (by omega) (by omega)) ?_
      refine Next.by (k + 1) ⟨by omega, hnx (.inr (.inl h4))⟩ (by omega) (by refine Weak.by [(0, some _), (1, some _), (2, some _), (3, some _), (4, some _), (5, some _)] (by ((repeat' first | exact rfl | exact trivial | refine And.intro ?_ ?_) <;> (repeat' first | exact rfl | exact trivial | refine And.intro ?_ ?_)); all_goals ((rw [hst]))) (by ((repeat' first | exact rfl | exact trivial | refine And.intro ?_ ?_) <;> (repeat' first | exact rfl | exact trivial | refine And.intro ?_ ?_)); all_goals ((rw [hst]))) (by rfl))
    refine Pick.by (fun h5 => ?_) (fun h5 => ?_)
    · have h5 : (nearL E (k : Int)).length = 3 := by rw [ints_length] at h5; have := beq_iff_eq.1 h5; omega
      rw [if_pos h5] at hst
      refine Pick.T (by simp [cut, ints_length] at htl ⊢; omega) ?_
      refine Pick.T (inI64_of (by omega) (by omega)) ?_
      refine Next.by (k + 1) ⟨by omega, hnx (.inr (.inr h5))⟩ (by omega) (by refine Weak.by [(0, some _), (1, some _), (2, some _), (3, some _), (4, some _), (5, some _)] (by ((repeat' first | exact rfl | exact trivial | refine And.intro ?_ ?_) <;> (repeat' first | exact rfl | exact trivial | refine And.intro ?_ ?_)); all_goals ((rw [hst, ints_snoc]; rfl))) (by ((repeat' first | exact rfl | exact trivial | refine And.intro ?_ ?_) <;> (repeat' first | exact rfl | exact trivial | refine And.intro ?_ ?_)); all_goals ((rw [hst, ints_snoc]; rfl))) (by rfl))
    · have hno : ¬ degOk E k := by
        rw [ints_length] at h3 h4 h5
        have h3 := beq_eq_false_iff_ne.1 h3
        have h4 := beq_eq_false_iff_ne.1 h4
        have h5 := beq_eq_false_iff_ne.1 h5
        unfold degOk
        omega
      have hv := readF_no (n := n) (E := E) (fun h => hno (h.2.1 k (by omega)))
      dsimp only
      rw [hv]
      exact ⟨rfl, rfl, ⟨rfl, ⟨rfl, rfl⟩, ⟨rfl, rfl⟩, trivial⟩, rfl, trivial⟩
  have hge : k = n.toNat := by have := of_decide_eq_false hc; omega
  subst hge
  have hdegs : degsOk n E := fun v hv => hdg v (by omega)
  have hTs3 : ∀ t ∈ topsK E n.toNat, 0 ≤ t ∧ t < n ∧ (nearL E t).length = 3 := fun t ht => by
    have := mem_topsK.1 ht
    exact ⟨this.1, by omega, this.2.2⟩
  have hTsn : (topsK E n.toNat).Nodup := (topsK_sorted E n.toNat).imp fun h => by omega
  obtain ⟨Ts, hTs⟩ : ∃ Ts, topsK E n.toNat = Ts := ⟨_, rfl⟩
  rw [hTs] at hTs3 hTsn htl ⊢
  have hTd : ∀ t ∈ Ts, (nearL E t).length = 3 := fun t ht => (hTs3 t ht).2.2
  refine Pick.by (fun h4 => ?_) (fun h4 => ?_)
  · have h4 : Ts.length = 4 := by rw [ints_length] at h4; have := beq_iff_eq.1 h4; omega
    have hkd : kindT Ts = 1 := if_pos h4
    refine LoopP.intro (α := Nat) (fun i => i ≤ Ts.length) (fun i => Ts.length - i) (fun i => [(1, .ptr 0 0), (2, .ptr 2 0), (4, .ptr 3 0), (5, .sl 4 none none), (9, .s (.i .i64 (usedT (pathsT n E (Ts.take i)) : Nat))), (68, .sl 5 none none), (69, .s (.i .i64 Ts.length)), (70, .s (.i .i64 i))])
      (fun i => [(0, some (.blk [.s (.i .i64 n), .sl 1 none none])), (1, some (.flat false 2 (edges E))), (2, some (.blk [.s (.i .i64 0), .nils, .nils])), (3, some (.blk [.s (.i .i64 1), .sl 5 none none, .sl 6 none none])), (4, some (.nest true 1 (rowsI (nbrs n.toNat E)) [] [])), (5, some (.flat true 1 (ints Ts))), (6, some (.nest true 1 (rowsI (pathsT n E (Ts.take i))) [] []))]) 7 0 (by omega) (by refine Weak.by [(0, some _), (1, some _), (2, some _), (3, some _), (4, some _), (5, some _), (6, none)] (by ((repeat' first | exact rfl | exact trivial | refine And.intro ?_ ?_) <;> (repeat' first | exact rfl | exact trivial | refine And.intro ?_ ?_)); all_goals ((first | exact sc_eq (by rw [ints_length]) | done))) (by ((repeat' first | exact rfl | exact trivial | refine And.intro ?_ ?_) <;> (repeat' first | exact rfl | exact trivial | refine And.intro ?_ ?_)); all_goals ((first | exact sc_eq (by rw [ints_length]) | done))) (by rfl)) ?_
    rintro i hi
    refine Pick.by (fun hc => ?_) (fun hc => ?_)
    · have hlt : i < Ts.length := by have := of_decide_eq_true hc; omega
      obtain ⟨t, ht⟩ : ∃ t, Ts[i] = t := ⟨_, rfl⟩
      have htm : t ∈ Ts := by rw [← ht]; exact List.getElem_mem hlt
      have hti : Ts[i]? = some t := by rw [List.getElem?_eq_getElem hlt, ht]
      obtain ⟨t0, t1, t2⟩ := hTs3 t htm
      have htn := nb_get (n := n.toNat) (E := E) (v := t.toNat) (by omega)
      rw [Int.toNat_of_nonneg t0] at htn
      refine Idx.by i rfl (by rw [ints_length]; exact hlt) ?_
      refine Look.by _ (ints_get hti) ?_
      refine Idx.by t.toNat (by show t = _; omega) (by rw [hkl]; omega) ?_
      refine Pick.T (by rw [hkl]; simp; omega) ?_
      refine Look.by _ htn ?_
      have hk0 : pathsT n E (Ts.take i) ++ keepT n E t ((nearL E t).take 0) = pathsT n E (Ts.take i) := by rw [List.take_zero]; simp [keepT]
      refine LoopP.intro (α := Nat) (fun j => j ≤ (nearL E t).length) (fun j => (nearL E t).length - j) (fun j => [(1, .ptr 0 0), (2, .ptr 2 0), (4, .ptr 3 0), (5, .sl 4 none none), (9, .s (.i .i64 (usedT (pathsT n E (Ts.take i) ++ keepT n E t ((nearL E t).take j)) : Nat))), (11, .s (.i .i64 t)), (68, .sl 5 none none), (69, .s (.i .i64 Ts.length)), (70, .s (.i .i64 i)), (77, .sl 4 (some (t.toNat, 0)) none), (78, .s (.i .i64 (nearL E t).length)), (79, .s (.i .i64 j))])
        (fun j => [(0, some (.blk [.s (.i .i64 n), .sl 1 none none])), (1, some (.flat false 2 (edges E))), (2, some (.blk [.s (.i .i64 0), .nils, .nils])), (3, some (.blk [.s (.i .i64 1), .sl 5 none none, .sl 6 none none])), (4, some (.nest true 1 (rowsI (nbrs n.toNat E)) [] [])), (5, some (.flat true 1 (ints Ts))), (6, some (.nest true 1 (rowsI (pathsT n E (Ts.take i) ++ keepT n E t ((nearL E t).take j))) [] []))]) 7 0 (by omega) (by refine Weak.by [(0, some _), (1, some _), (2, some _), (3, some _), (4, some _), (5, some _), (6, some _)] (by ((repeat' first | exact rfl | exact trivial | refine And.intro ?_ ?_) <;> (repeat' first | exact rfl | exact trivial | refine And.intro ?_ ?_)); all_goals ((first | exact sc_eq (by rw [ints_length]) | exact sc_eq (by rw [hk0]) | (rw [hk0]; done) | (simp; done)))) (by ((repeat' first | exact rfl | exact trivial | refine And.intro ?_ ?_) <;> (repeat' first | exact rfl | exact trivial | refine And.intro ?_ ?_)); all_goals ((first | exact sc_eq (by rw [ints_length]) | exact sc_eq (by rw [hk0]) | (rw [hk0]; done) | (simp; done)))) (by rfl)) ?_
      rintro j hj
      refine Pick.by (fun hc2 => ?_) (fun hc2 => ?_)
      · have hjl : j < (nearL E t).length := by have := of_decide_eq_true hc2; omega
        obtain ⟨x0, hx0⟩ : ∃ x, (nearL E t)[j] = x := ⟨_, rfl⟩
        have hxm : x0 ∈ nearL E t := by rw [← hx0]; exact List.getElem_mem hjl
        have hxg : (nearL E t)[j]? = some x0 := by rw [List.getElem?_eq_getElem hjl, hx0]
        refine Look.by _ htn ?_
        refine Idx.by j rfl (by rw [ints_length]; exact hjl) ?_
        refine Look.by _ htn ?_
        refine Look.by _ (ints_get hxg) ?_
        refine LoopP.intro (α := List Int) (fun p => FolT n E t p ∧ ∃ f, n.toNat + 2 ≤ f + p.length ∧ goT E f p = pathT n E t x0) (fun p => n.toNat + 2 - p.length) (fun p => [(1, .ptr 0 0), (2, .ptr 2 0), (4, .ptr 3 0), (5, .sl 4 none none), (9, .s (.i .i64 (usedT (pathsT n E (Ts.take i) ++ keepT n E t ((nearL E t).take j)) : Nat))), (11, .s (.i .i64 t)), (13, .s (.i .i64 (p.getLastD 0))), (14, .sl 7 none none), (68, .sl 5 none none), (69, .s (.i .i64 Ts.length)), (70, .s (.i .i64 i)), (77, .sl 4 (some (t.toNat, 0)) none), (78, .s (.i .i64 (nearL E t).length)), (79, .s (.i .i64 j))])
          (fun p => [(0, some (.blk [.s (.i .i64 n), .sl 1 none none])), (1, some (.flat false 2 (edges E))), (2, some (.blk [.s (.i .i64 0), .nils, .nils])), (3, some (.blk [.s (.i .i64 1), .sl 5 none none, .sl 6 none none])), (4, some (.nest true 1 (rowsI (nbrs n.toNat E)) [] [])), (5, some (.flat true 1 (ints Ts))), (6, some (.nest true 1 (rowsI (pathsT n E (Ts.take i) ++ keepT n E t ((nearL E t).take j))) [] [])), (7, some (.flat true 1 (ints p)))]) 8 [t, x0] ⟨FolT.start hxm, n.toNat, by simp, rfl⟩ (by refine Weak.by [(0, some _), (1, some _), (2, some _), (3, some _), (4, some _), (5, some _), (6, some _), (7, some _)] (by ((repeat' first | exact rfl | exact trivial | refine And.intro ?_ ?_) <;> (repeat' first | exact rfl | exact trivial | refine And.intro ?_ ?_)); all_goals ((first | (simp; done)))) (by ((repeat' first | exact rfl | exact trivial | refine And.intro ?_ ?_) <;> (repeat' first | exact rfl | exact trivial | refine And.intro ?_ ?_)); all_goals ((first | (simp; done)))) (by rfl)) ?_
        rintro p ⟨hF, f, hf, hg⟩
        have hp2 := hF.two
        have hpn := hF.len h1
        obtain ⟨xl, hxl⟩ : ∃ x, p.getLastD 0 = x := ⟨_, rfl⟩
        have hxr : 0 ≤ xl ∧ xl < n := by rw [← hxl, lastD_get (by omega)]; exact hF.inN h1 _ (by rw [getD_at (by omega)]; exact List.getElem_mem _)
        have hxt := nb_get (n := n.toNat) (E := E) (v := xl.toNat) (by omega)
        rw [Int.toNat_of_nonneg hxr.1] at hxt
        rw [hxl]
        refine Idx.by xl.toNat (by show xl = _; omega) (by rw [hkl]; omega) ?_
        refine Pick.T (by rw [hkl]; simp; omega) ?_
        refine Look.by _ hxt ?_
        refine Pick.by (fun h2 => ?_) (fun h2 => ?_)
        · have h2 : (nearL E xl).length = 2 := by rw [ints_length] at h2; have := beq_iff_eq.1 h2; omega
          obtain ⟨c, hcc⟩ : ∃ c, (nearL E xl).getD 0 0 = c := ⟨_, rfl⟩
          obtain ⟨d, hdd⟩ : ∃ d, (nearL E xl).getD 1 0 = d := ⟨_, rfl⟩
          obtain ⟨q, hqq⟩ : ∃ q, p.getD (p.length - 2) 0 = q := ⟨_, rfl⟩
          have hcg : (nearL E xl)[0]? = some c := by rw [getD_get (by omega), hcc]
          have hdg2 : (nearL E xl)[1]? = some d := by rw [getD_get (by omega), hdd]
          have hqg : p[p.length - 2]? = some q := by rw [getD_get (by omega), hqq]
          have hcr := (adj_in h1 (mem_nearL.1 (List.mem_of_getElem? hcg))).2
          have hdr := (adj_in h1 (mem_nearL.1 (List.mem_of_getElem? hdg2))).2
          have hqr := hF.inN h1 q (List.mem_of_getElem? hqg)
          have hnx : nxtT E p = c + d - q := by unfold nxtT; rw [hxl, hcc, hdd, hqq]
          refine Idx.by xl.toNat (by show xl = _; omega) (by rw [hkl]; omega) ?_
          refine Pick.T (by rw [hkl]; simp; omega) ?_
          refine Look.by _ hxt ?_
          refine Idx.by 0 rfl (by rw [ints_length]; omega) ?_
          refine Look.by _ hxt ?_
          refine Look.by _ (ints_get hcg) ?_
          refine Idx.by xl.toNat (by show xl = _; omega) (by rw [hkl]; omega) ?_
          refine Pick.T (by rw [hkl]; simp; omega) ?_
          refine Look.by _ hxt ?_
          refine Idx.by 1 rfl (by rw [ints_length]; omega) ?_
          refine Look.by _ hxt ?_
          refine Look.by _ (ints_get hdg2) ?_
          refine Pick.T (inI64_of (by omega) (by omega)) ?_
          refine Pick.T (inI64_of (by rw [ints_length]; omega) (by rw [ints_length]; omega)) ?_
          refine Idx.by (p.length - 2) (by rw [ints_length]; omega) (by rw [ints_length]; omega) ?_
          refine Look.by _ (ints_get hqg) ?_
          refine Pick.T (inI64_of (by omega) (by omega)) ?_
          refine Seg.by (by kernel_rfl) ?_
          refine Pick.T (by simp [cut, ints_length]; omega) ?_
          have h2' : (nearL E (p.getLastD 0)).length = 2 := by rw [hxl]; exact h2
          have hlen := hF.len2 h1 (by omega) h2'
          obtain ⟨f', rfl⟩ : ∃ f', f = f' + 1 := ⟨f - 1, by omega⟩
          rw [goT_step h2'] at hg
          have hla : (p ++ [nxtT E p]).getLastD 0 = c + d - q := by rw [List.getLastD_concat, hnx]
          refine Next.by (p ++ [nxtT E p]) ⟨hF.next h1 (by omega) h2', f', by simp; omega, hg⟩ (by simp; omega) (by refine Weak.by [(0, some _), (1, some _), (2, some _), (3, some _), (4, some _), (5, some _), (6, some _), (7, some _)] (by ((repeat' first | exact rfl | exact trivial | refine And.intro ?_ ?_) <;> (repeat' first | exact rfl | exact trivial | refine And.intro ?_ ?_)); all_goals ((first | exact sc_eq hla | (rw [hnx, ints_snoc]; rfl) | (simp; done)))) (by ((repeat' first | exact rfl | exact trivial | refine And.intro ?_ ?_) <;> (repeat' first | exact rfl | exact trivial | refine And.intro ?_ ?_)); all_goals ((first | exact sc_eq hla | (rw [hnx, ints_snoc]; rfl) | (simp; done)))) (by rfl))
        · have h2 : (nearL E xl).length ≠ 2 := by rw [ints_length] at h2; have := beq_eq_false_iff_ne.1 h2; omega
          have hpp : p = pathT n E t x0 := by rw [← hg, goT_stop (by rw [hxl]; exact h2)]
          have hstk : keepT n E t ((nearL E t).take (j + 1)) = keepT n E t ((nearL E t).take j) ++ (if t < xl then [p] else []) := by
            rw [List.take_succ_eq_append_getElem hjl, hx0, keepT_snoc, ← hpp, hxl]
          have hkl2 := keepT_len n E t ((nearL E t).take j)
          have htk : ((nearL E t).take j).length ≤ 3 := by rw [List.length_take]; omega
          have hpl := pathsT_len (n := n) (T := Ts.take i) fun y hy => hTd y (List.mem_of_mem_take hy)
          have hti3 : (Ts.take i).length ≤ 4 := by rw [List.length_take]; omega
          have hall : ∀ r ∈ pathsT n E (Ts.take i) ++ keepT n E t ((nearL E t).take j), r.length ≤ n.toNat + 1 := fun r hr => by
            rcases List.mem_append.1 hr with hr | hr
            · exact (pathsT_row h1 (fun y hy => hTd y (List.mem_of_mem_take hy)) hr).2
            · exact (keepT_row h1 t2 (fun y hy => List.mem_of_mem_take hy) hr).2
          have hul := usedT_le hall
          have hll : (pathsT n E (Ts.take i) ++ keepT n E t ((nearL E t).take j)).length ≤ 15 := by rw [List.length_append]; omega
          have hub : usedT (pathsT n E (Ts.take i) ++ keepT n E t ((nearL E t).take j)) ≤ 15000 := Nat.le_trans hul (Nat.le_trans (Nat.mul_le_mul hll (show n.toNat ≤ 1000 by omega)) (by decide))
          refine Pick.by (fun h3 => ?_) (fun h3 => ?_)
          · have h3 : ¬ t < xl := by have := of_decide_eq_true h3; omega
            rw [if_neg h3, List.append_nil] at hstk
            refine Pick.T (inI64_of (by omega) (by omega)) ?_
            refine Next.by (j + 1) (by omega) (by omega) (by refine Weak.by [(0, some _), (1, some _), (2, some _), (3, some _), (4, some _), (5, some _), (6, some _)] (by ((repeat' first | exact rfl | exact trivial | refine And.intro ?_ ?_) <;> (repeat' first | exact rfl | exact trivial | refine And.intro ?_ ?_)); all_goals ((first | exact sc_eq (by rw [hstk]) | (rw [hstk]; done) | (rw [hstk]; rfl) | (simp; done)))) (by ((repeat' first | exact rfl | exact trivial | refine And.intro ?_ ?_) <;> (repeat' first | exact rfl | exact trivial | refine And.intro ?_ ?_)); all_goals ((first | exact sc_eq (by rw [hstk]) | (rw [hstk]; done) | (rw [hstk]; rfl) | (simp; done)))) (by rfl))
          · have h3 : t < xl := by have := of_decide_eq_false h3; omega
            rw [if_pos h3] at hstk
            refine Pick.T (decide_eq_true (by rw [rowsI_length]; simp only [List.length_cons, List.length_nil]; omega)) ?_
            have hus : usedT (pathsT n E (Ts.take i) ++ (keepT n E t ((nearL E t).take j) ++ [p])) = usedT (pathsT n E (Ts.take i) ++ keepT n E t ((nearL E t).take j)) + (p.length - 1) := by rw [← List.append_assoc, usedT_snoc]
            have hil : ((ints p).length : Int) = p.length := by rw [ints_length]
            refine Pick.T (inI64_of (by rw [hil]; omega) (by rw [hil]; omega)) ?_
            refine Pick.T (inI64_of (by rw [hil]; omega) (by rw [hil]; omega)) ?_
            refine Pick.T (inI64_of (by omega) (by omega)) ?_
            refine Next.by (j + 1) (by omega) (by omega) (by refine Weak.by [(0, some _), (1, some _), (2, some _), (3, some _), (4, some _), (5, some _), (6, some _)] (by ((repeat' first | exact rfl | exact trivial | refine And.intro ?_ ?_) <;> (repeat' first | exact rfl | exact trivial | refine And.intro ?_ ?_)); all_goals ((first | exact sc_eq (by rw [hstk, hus, hil]; omega) | (rw [hstk, ← List.append_assoc, rowsI_snoc]; done) | (rw [hstk, ← List.append_assoc, rowsI_snoc]; rfl) | (simp; done)))) (by ((repeat' first | exact rfl | exact trivial | refine And.intro ?_ ?_) <;> (repeat' first | exact rfl | exact trivial | refine And.intro ?_ ?_)); all_goals ((first | exact sc_eq (by rw [hstk, hus, hil]; omega) | (rw [hstk, ← List.append_assoc, rowsI_snoc]; done) | (rw [hstk, ← List.append_assoc, rowsI_snoc]; rfl) | (simp; done)))) (by rfl))
      · have hjg : (nearL E t).length ≤ j := by have := of_decide_eq_false hc2; omega
        rw [List.take_of_length_le hjg]
        refine Pick.T (inI64_of (by omega) (by omega)) ?_
        have hstp : pathsT n E (Ts.take (i + 1)) = pathsT n E (Ts.take i) ++ keepT n E t (nearL E t) := by rw [List.take_succ_eq_append_getElem hlt, ht, pathsT_snoc]
        refine Next.by (i + 1) (by omega) (by omega) (by refine Weak.by [(0, some _), (1, some _), (2, some _), (3, some _), (4, some _), (5, some _), (6, some _)] (by ((repeat' first | exact rfl | exact trivial | refine And.intro ?_ ?_) <;> (repeat' first | exact rfl | exact trivial | refine And.intro ?_ ?_)); all_goals ((first | exact sc_eq (by rw [hstp]) | (rw [hstp]; done) | (rw [hstp]; rfl)))) (by ((repeat' first | exact rfl | exact trivial | refine And.intro ?_ ?_) <;> (repeat' first | exact rfl | exact trivial | refine And.intro ?_ ?_)); all_goals ((first | exact sc_eq (by rw [hstp]) | (rw [hstp]; done) | (rw [hstp]; rfl)))) (by rfl))
    · have hge : Ts.length ≤ i := by have := of_decide_eq_false hc; omega
      rw [List.take_of_length_le hge]
      have hpl := pathsT_len (n := n) hTd
      have hsn : sortNP goodT cmpT (rowsI (pathsT n E Ts)) := ⟨_, rfl, fun r hr => by have := pathsT_row h1 hTd hr; exact ⟨this.1, by omega⟩, paths_keys h1 hTd hTsn, by omega⟩
      have hsp := sortL_perm cmpT (pathsT n E Ts)
      have hfew : fewL (sortL cmpT (pathsT n E Ts)) := ⟨by rw [hsp.length_eq]; omega, fun r hr => by have := pathsT_row h1 hTd (hsp.mem_iff.1 hr); omega⟩
      refine ⟨rfl, rfl, _, _, rfl, hsn, ?_⟩
      rw [sortN_rows]
      refine Pick.by (fun h6 => ?_) (fun h6 => ?_)
      · have h6 : usedT (pathsT n E Ts) ≠ E.length := by intro e; rw [edges_length, e] at h6; simp at h6
        have hv := readF_no (n := n) (E := E) (fun h => h6 (by rw [← hTs]; exact h.2.2.2.1))
        dsimp only
        rw [hv]
        exact ⟨rfl, rfl, ⟨rfl, ⟨rfl, rfl⟩, ⟨rfl, rfl⟩, trivial⟩, rfl, trivial⟩
      have h6 : usedT (pathsT n E Ts) = E.length := by
        have h6 : (!((usedT (pathsT n E Ts) : Int) == ((edges E).length : Nat))) = false := h6
        rw [edges_length] at h6
        have : (usedT (pathsT n E Ts) : Int) = (E.length : Nat) := by simpa only [Bool.not_eq_false', beq_iff_eq] using h6
        omega
      refine Call.by _ _ (SubC_at (n := n) (E := E) (k := 1) (Ts := Ts) hfew) ?_
      refine Pick.by (fun h7 => ?_) (fun h7 => ?_)
      · have h7 : ¬ SubP n E 1 Ts (sortL cmpT (pathsT n E Ts)) := by
          have h7 : (!subB n E 1 Ts (sortL cmpT (pathsT n E Ts))) = true := h7
          intro h; rw [subB_iff.2 h] at h7; cases h7
        have hv := readF_no (n := n) (E := E) (fun h => h7 (by have := h.2.2.2.2; rw [hTs, hkd] at this; exact this))
        dsimp only
        rw [hv]
        exact ⟨rfl, rfl, ⟨rfl, ⟨rfl, rfl⟩, ⟨rfl, rfl⟩, trivial⟩, rfl, trivial⟩
      · have h7 : SubP n E 1 Ts (sortL cmpT (pathsT n E Ts)) := by
          have h7 : (!subB n E 1 Ts (sortL cmpT (pathsT n E Ts))) = false := h7
          exact subB_iff.1 (by simpa using h7)
        have hv := readF_yes (n := n) (E := E) ⟨h1, hdegs, by rw [hTs, hkd]; decide, by rw [hTs]; exact h6, by rw [hTs, hkd]; exact h7⟩
        rw [hTs, hkd] at hv
        dsimp only
        rw [hv]
        exact ⟨rfl, rfl, ⟨rfl, ⟨rfl, rfl⟩, ⟨rfl, rfl⟩, trivial⟩, rfl, trivial⟩
  have h4 : Ts.length ≠ 4 := by rw [ints_length] at h4; have := beq_eq_false_iff_ne.1 h4; omega
  refine Pick.by (fun h5 => ?_) (fun h5 => ?_)
  · have h5 : Ts.length = 2 := by rw [ints_length] at h5; have := beq_iff_eq.1 h5; omega
    have hkd : kindT Ts = 2 := by unfold kindT; rw [if_neg h4, if_pos h5]
    refine LoopP.intro (α := Nat) (fun i => i ≤ Ts.length) (fun i => Ts.length - i) (fun i => [(1, .ptr 0 0), (2, .ptr 2 0), (4, .ptr 3 0), (5, .sl 4 none none), (9, .s (.i .i64 (usedT (pathsT n E (Ts.take i)) : Nat))), (68, .sl 5 none none), (69, .s (.i .i64 Ts.length)), (70, .s (.i .i64 i))])
      (fun i => [(0, some (.blk [.s (.i .i64 n), .sl 1 none none])), (1, some (.flat false 2 (edges E))), (2, some (.blk [.s (.i .i64 0), .nils, .nils])), (3, some (.blk [.s (.i .i64 2), .sl 5 none none, .sl 6 none none])), (4, some (.nest true 1 (rowsI (nbrs n.toNat E)) [] [])), (5, some (.flat true 1 (ints Ts))), (6, some (.nest true 1 (rowsI (pathsT n E (Ts.take i))) [] []))]) 7 0 (by omega) (by refine Weak.by [(0, some _), (1, some _), (2, some _), (3, some _), (4, some _), (5, some _), (6, none)] (by ((repeat' first | exact rfl | exact trivial | refine And.intro ?_ ?_) <;> (repeat' first | exact rfl | exact trivial | refine And.intro ?_ ?_)); all_goals ((first | exact sc_eq (by rw [ints_length]) | done))) (by ((repeat' first | exact rfl | exact trivial | refine And.intro ?_ ?_) <;> (repeat' first | exact rfl | exact trivial | refine And.intro ?_ ?_)); all_goals ((first | exact sc_eq (by rw [ints_length]) | done))) (by rfl)) ?_
    rintro i hi
    refine Pick.by (fun hc => ?_) (fun hc => ?_)
    · have hlt : i < Ts.length := by have := of_decide_eq_true hc; omega
      obtain ⟨t, ht⟩ : ∃ t, Ts[i] = t := ⟨_, rfl⟩
      have htm : t ∈ Ts := by rw [← ht]; exact List.getElem_mem hlt
      have hti : Ts[i]? = some t := by rw [List.getElem?_eq_getElem hlt, ht]
      obtain ⟨t0, t1, t2⟩ := hTs3 t htm
      have htn := nb_get (n := n.toNat) (E := E) (v := t.toNat) (by omega)
      rw [Int.toNat_of_nonneg t0] at htn
      refine Idx.by i rfl (by rw [ints_length]; exact hlt) ?_
      refine Look.by _ (ints_get hti) ?_
      refine Idx.by t.toNat (by show t = _; omega) (by rw [hkl]; omega) ?_
      refine Pick.T (by rw [hkl]; simp; omega) ?_
      refine Look.by _ htn ?_
      have hk0 : pathsT n E (Ts.take i) ++ keepT n E t ((nearL E t).take 0) = pathsT n E (Ts.take i) := by rw [List.take_zero]; simp [keepT]
      refine LoopP.intro (α := Nat) (fun j => j ≤ (nearL E t).length) (fun j => (nearL E t).length - j) (fun j => [(1, .ptr 0 0), (2, .ptr 2 0), (4, .ptr 3 0), (5, .sl 4 none none), (9, .s (.i .i64 (usedT (pathsT n E (Ts.take i) ++ keepT n E t ((nearL E t).take j)) : Nat))), (11, .s (.i .i64 t)), (68, .sl 5 none none), (69, .s (.i .i64 Ts.length)), (70, .s (.i .i64 i)), (77, .sl 4 (some (t.toNat, 0)) none), (78, .s (.i .i64 (nearL E t).length)), (79, .s (.i .i64 j))])
        (fun j => [(0, some (.blk [.s (.i .i64 n), .sl 1 none none])), (1, some (.flat false 2 (edges E))), (2, some (.blk [.s (.i .i64 0), .nils, .nils])), (3, some (.blk [.s (.i .i64 2), .sl 5 none none, .sl 6 none none])), (4, some (.nest true 1 (rowsI (nbrs n.toNat E)) [] [])), (5, some (.flat true 1 (ints Ts))), (6, some (.nest true 1 (rowsI (pathsT n E (Ts.take i) ++ keepT n E t ((nearL E t).take j))) [] []))]) 7 0 (by omega) (by refine Weak.by [(0, some _), (1, some _), (2, some _), (3, some _), (4, some _), (5, some _), (6, some _)] (by ((repeat' first | exact rfl | exact trivial | refine And.intro ?_ ?_) <;> (repeat' first | exact rfl | exact trivial | refine And.intro ?_ ?_)); all_goals ((first | exact sc_eq (by rw [ints_length]) | exact sc_eq (by rw [hk0]) | (rw [hk0]; done) | (simp; done)))) (by ((repeat' first | exact rfl | exact trivial | refine And.intro ?_ ?_) <;> (repeat' first | exact rfl | exact trivial | refine And.intro ?_ ?_)); all_goals ((first | exact sc_eq (by rw [ints_length]) | exact sc_eq (by rw [hk0]) | (rw [hk0]; done) | (simp; done)))) (by rfl)) ?_
      rintro j hj
      refine Pick.by (fun hc2 => ?_) (fun hc2 => ?_)
      · have hjl : j < (nearL E t).length := by have := of_decide_eq_true hc2; omega
        obtain ⟨x0, hx0⟩ : ∃ x, (nearL E t)[j] = x := ⟨_, rfl⟩
        have hxm : x0 ∈ nearL E t := by rw [← hx0]; exact List.getElem_mem hjl
        have hxg : (nearL E t)[j]? = some x0 := by rw [List.getElem?_eq_getElem hjl, hx0]
        refine Look.by _ htn ?_
        refine Idx.by j rfl (by rw [ints_length]; exact hjl) ?_
        refine Look.by _ htn ?_
        refine Look.by _ (ints_get hxg) ?_
        refine LoopP.intro (α := List Int) (fun p => FolT n E t p ∧ ∃ f, n.toNat + 2 ≤ f + p.length ∧ goT E f p = pathT n E t x0) (fun p => n.toNat + 2 - p.length) (fun p => [(1, .ptr 0 0), (2, .ptr 2 0), (4, .ptr 3 0), (5, .sl 4 none none), (9, .s (.i .i64 (usedT (pathsT n E (Ts.take i) ++ keepT n E t ((nearL E t).take j)) : Nat))), (11, .s (.i .i64 t)), (13, .s (.i .i64 (p.getLastD 0))), (14, .sl 7 none none), (68, .sl 5 none none), (69, .s (.i .i64 Ts.length)), (70, .s (.i .i64 i)), (77, .sl 4 (some (t.toNat, 0)) none), (78, .s (.i .i64 (nearL E t).length)), (79, .s (.i .i64 j))])
          (fun p => [(0, some (.blk [.s (.i .i64 n), .sl 1 none none])), (1, some (.flat false 2 (edges E))), (2, some (.blk [.s (.i .i64 0), .nils, .nils])), (3, some (.blk [.s (.i .i64 2), .sl 5 none none, .sl 6 none none])), (4, some (.nest true 1 (rowsI (nbrs n.toNat E)) [] [])), (5, some (.flat true 1 (ints Ts))), (6, some (.nest true 1 (rowsI (pathsT n E (Ts.take i) ++ keepT n E t ((nearL E t).take j))) [] [])), (7, some (.flat true 1 (ints p)))]) 8 [t, x0] ⟨FolT.start hxm, n.toNat, by simp, rfl⟩ (by refine Weak.by [(0, some _), (1, some _), (2, some _), (3, some _), (4, some _), (5, some _), (6, some _), (7, some _)] (by ((repeat' first | exact rfl | exact trivial | refine And.intro ?_ ?_) <;> (repeat' first | exact rfl | exact trivial | refine And.intro ?_ ?_)); all_goals ((first | (simp; done)))) (by ((repeat' first | exact rfl | exact trivial | refine And.intro ?_ ?_) <;> (repeat' first | exact rfl | exact trivial | refine And.intro ?_ ?_)); all_goals ((first | (simp; done)))) (by rfl)) ?_
        rintro p ⟨hF, f, hf, hg⟩
        have hp2 := hF.two
        have hpn := hF.len h1
        obtain ⟨xl, hxl⟩ : ∃ x, p.getLastD 0 = x := ⟨_, rfl⟩
        have hxr : 0 ≤ xl ∧ xl < n := by rw [← hxl, lastD_get (by omega)]; exact hF.inN h1 _ (by rw [getD_at (by omega)]; exact List.getElem_mem _)
        have hxt := nb_get (n := n.toNat) (E := E) (v := xl.toNat) (by omega)
        rw [Int.toNat_of_nonneg hxr.1] at hxt
        rw [hxl]
        refine Idx.by xl.toNat (by show xl = _; omega) (by rw [hkl]; omega) ?_
        refine Pick.T (by rw [hkl]; simp; omega) ?_
        refine Look.by _ hxt ?_
        refine Pick.by (fun h2 => ?_) (fun h2 => ?_)
        · have h2 : (nearL E xl).length = 2 := by rw [ints_length] at h2; have := beq_iff_eq.1 h2; omega
          obtain ⟨c, hcc⟩ : ∃ c, (nearL E xl).getD 0 0 = c := ⟨_, rfl⟩
          obtain ⟨d, hdd⟩ : ∃ d, (nearL E xl).getD 1 0 = d := ⟨_, rfl⟩
          obtain ⟨q, hqq⟩ : ∃ q, p.getD (p.length - 2) 0 = q := ⟨_, rfl⟩
          have hcg : (nearL E xl)[0]? = some c := by rw [getD_get (by omega), hcc]
          have hdg2 : (nearL E xl)[1]? = some d := by rw [getD_get (by omega), hdd]
          have hqg : p[p.length - 2]? = some q := by rw [getD_get (by omega), hqq]
          have hcr := (adj_in h1 (mem_nearL.1 (List.mem_of_getElem? hcg))).2
          have hdr := (adj_in h1 (mem_nearL.1 (List.mem_of_getElem? hdg2))).2
          have hqr := hF.inN h1 q (List.mem_of_getElem? hqg)
          have hnx : nxtT E p = c + d - q := by unfold nxtT; rw [hxl, hcc, hdd, hqq]
          refine Idx.by xl.toNat (by show xl = _; omega) (by rw [hkl]; omega) ?_
          refine Pick.T (by rw [hkl]; simp; omega) ?_
          refine Look.by _ hxt ?_
          refine Idx.by 0 rfl (by rw [ints_length]; omega) ?_
          refine Look.by _ hxt ?_
          refine Look.by _ (ints_get hcg) ?_
          refine Idx.by xl.toNat (by show xl = _; omega) (by rw [hkl]; omega) ?_
          refine Pick.T (by rw [hkl]; simp; omega) ?_
          refine Look.by _ hxt ?_
          refine Idx.by 1 rfl (by rw [ints_length]; omega) ?_
          refine Look.by _ hxt ?_
          refine Look.by _ (ints_get hdg2) ?_
          refine Pick.T (inI64_of (by omega) (by omega)) ?_
          refine Pick.T (inI64_of (by rw [ints_length]; omega) (by rw [ints_length]; omega)) ?_
          refine Idx.by (p.length - 2) (by rw [ints_length]; omega) (by rw [ints_length]; omega) ?_
          refine Look.by _ (ints_get hqg) ?_
          refine Pick.T (inI64_of (by omega) (by omega)) ?_
          refine Seg.by (by kernel_rfl) ?_
          refine Pick.T (by simp [cut, ints_length]; omega) ?_
          have h2' : (nearL E (p.getLastD 0)).length = 2 := by rw [hxl]; exact h2
          have hlen := hF.len2 h1 (by omega) h2'
          obtain ⟨f', rfl⟩ : ∃ f', f = f' + 1 := ⟨f - 1, by omega⟩
          rw [goT_step h2'] at hg
          have hla : (p ++ [nxtT E p]).getLastD 0 = c + d - q := by rw [List.getLastD_concat, hnx]
          refine Next.by (p ++ [nxtT E p]) ⟨hF.next h1 (by omega) h2', f', by simp; omega, hg⟩ (by simp; omega) (by refine Weak.by [(0, some _), (1, some _), (2, some _), (3, some _), (4, some _), (5, some _), (6, some _), (7, some _)] (by ((repeat' first | exact rfl | exact trivial | refine And.intro ?_ ?_) <;> (repeat' first | exact rfl | exact trivial | refine And.intro ?_ ?_)); all_goals ((first | exact sc_eq hla | (rw [hnx, ints_snoc]; rfl) | (simp; done)))) (by ((repeat' first | exact rfl | exact trivial | refine And.intro ?_ ?_) <;> (repeat' first | exact rfl | exact trivial | refine And.intro ?_ ?_)); all_goals ((first | exact sc_eq hla | (rw [hnx, ints_snoc]; rfl) | (simp; done)))) (by rfl))
        · have h2 : (nearL E xl).length ≠ 2 := by rw [ints_length] at h2; have := beq_eq_false_iff_ne.1 h2; omega
          have hpp : p = pathT n E t x0 := by rw [← hg, goT_stop (by rw [hxl]; exact h2)]
          have hstk : keepT n E t ((nearL E t).take (j + 1)) = keepT n E t ((nearL E t).take j) ++ (if t < xl then [p] else []) := by
            rw [List.take_succ_eq_append_getElem hjl, hx0, keepT_snoc, ← hpp, hxl]
          have hkl2 := keepT_len n E t ((nearL E t).take j)
          have htk : ((nearL E t).take j).length ≤ 3 := by rw [List.length_take]; omega
          have hpl := pathsT_len (n := n) (T := Ts.take i) fun y hy => hTd y (List.mem_of_mem_take hy)
          have hti3 : (Ts.take i).length ≤ 4 := by rw [List.length_take]; omega
          have hall : ∀ r ∈ pathsT n E (Ts.take i) ++ keepT n E t ((nearL E t).take j), r.length ≤ n.toNat + 1 := fun r hr => by
            rcases List.mem_append.1 hr with hr | hr
            · exact (pathsT_row h1 (fun y hy => hTd y (List.mem_of_mem_take hy)) hr).2
            · exact (keepT_row h1 t2 (fun y hy => List.mem_of_mem_take hy) hr).2
          have hul := usedT_le hall
          have hll : (pathsT n E (Ts.take i) ++ keepT n E t ((nearL E t).take j)).length ≤ 15 := by rw [List.length_append]; omega
          have hub : usedT (pathsT n E (Ts.take i) ++ keepT n E t ((nearL E t).take j)) ≤ 15000 := Nat.le_trans hul (Nat.le_trans (Nat.mul_le_mul hll (show n.toNat ≤ 1000 by omega)) (by decide))
          refine Pick.by (fun h3 => ?_) (fun h3 => ?_)
          · have h3 : ¬ t < xl := by have := of_decide_eq_true h3; omega
            rw [if_neg h3, List.append_nil] at hstk
            refine Pick.T (inI64_of (by omega) (by omega)) ?_
            refine Next.by (j + 1) (by omega) (by omega) (by refine Weak.by [(0, some _), (1, some _), (2, some _), (3, some _), (4, some _), (5, some _), (6, some _)] (by ((repeat' first | exact rfl | exact trivial | refine And.intro ?_ ?_) <;> (repeat' first | exact rfl | exact trivial | refine And.intro ?_ ?_)); all_goals ((first | exact sc_eq (by rw [hstk]) | (rw [hstk]; done) | (rw [hstk]; rfl) | (simp; done)))) (by ((repeat' first | exact rfl | exact trivial | refine And.intro ?_ ?_) <;> (repeat' first | exact rfl | exact trivial | refine And.intro ?_ ?_)); all_goals ((first | exact sc_eq (by rw [hstk]) | (rw [hstk]; done) | (rw [hstk]; rfl) | (simp; done)))) (by rfl))
          · have h3 : t < xl := by have := of_decide_eq_false h3; omega
            rw [if_pos h3] at hstk
            refine Pick.T (decide_eq_true (by rw [rowsI_length]; simp only [List.length_cons, List.length_nil]; omega)) ?_
            have hus : usedT (pathsT n E (Ts.take i) ++ (keepT n E t ((nearL E t).take j) ++ [p])) = usedT (pathsT n E (Ts.take i) ++ keepT n E t ((nearL E t).take j)) + (p.length - 1) := by rw [← List.append_assoc, usedT_snoc]
            have hil : ((ints p).length : Int) = p.length := by rw [ints_length]
            refine Pick.T (inI64_of (by rw [hil]; omega) (by rw [hil]; omega)) ?_
            refine Pick.T (inI64_of (by rw [hil]; omega) (by rw [hil]; omega)) ?_
            refine Pick.T (inI64_of (by omega) (by omega)) ?_
            refine Next.by (j + 1) (by omega) (by omega) (by refine Weak.by [(0, some _), (1, some _), (2, some _), (3, some _), (4, some _), (5, some _), (6, some _)] (by ((repeat' first | exact rfl | exact trivial | refine And.intro ?_ ?_) <;> (repeat' first | exact rfl | exact trivial | refine And.intro ?_ ?_)); all_goals ((first | exact sc_eq (by rw [hstk, hus, hil]; omega) | (rw [hstk, ← List.append_assoc, rowsI_snoc]; done) | (rw [hstk, ← List.append_assoc, rowsI_snoc]; rfl) | (simp; done)))) (by ((repeat' first | exact rfl | exact trivial | refine And.intro ?_ ?_) <;> (repeat' first | exact rfl | exact trivial | refine And.intro ?_ ?_)); all_goals ((first | exact sc_eq (by rw [hstk, hus, hil]; omega) | (rw [hstk, ← List.append_assoc, rowsI_snoc]; done) | (rw [hstk, ← List.append_assoc, rowsI_snoc]; rfl) | (simp; done)))) (by rfl))
      · have hjg : (nearL E t).length ≤ j := by have := of_decide_eq_false hc2; omega
        rw [List.take_of_length_le hjg]
        refine Pick.T (inI64_of (by omega) (by omega)) ?_
        have hstp : pathsT n E (Ts.take (i + 1)) = pathsT n E (Ts.take i) ++ keepT n E t (nearL E t) := by rw [List.take_succ_eq_append_getElem hlt, ht, pathsT_snoc]
        refine Next.by (i + 1) (by omega) (by omega) (by refine Weak.by [(0, some _), (1, some _), (2, some _), (3, some _), (4, some _), (5, some _), (6, some _)] (by ((repeat' first | exact rfl | exact trivial | refine And.intro ?_ ?_) <;> (repeat' first | exact rfl | exact trivial | refine And.intro ?_ ?_)); all_goals ((first | exact sc_eq (by rw [hstp]) | (rw [hstp]; done) | (rw [hstp]; rfl)))) (by ((repeat' first | exact rfl | exact trivial | refine And.intro ?_ ?_) <;> (repeat' first | exact rfl | exact trivial | refine And.intro ?_ ?_)); all_goals ((first | exact sc_eq (by rw [hstp]) | (rw [hstp]; done) | (rw [hstp]; rfl)))) (by rfl))
    · have hge : Ts.length ≤ i := by have := of_decide_eq_false hc; omega
      rw [List.take_of_length_le hge]
      have hpl := pathsT_len (n := n) hTd
      have hsn : sortNP goodT cmpT (rowsI (pathsT n E Ts)) := ⟨_, rfl, fun r hr => by have := pathsT_row h1 hTd hr; exact ⟨this.1, by omega⟩, paths_keys h1 hTd hTsn, by omega⟩
      have hsp := sortL_perm cmpT (pathsT n E Ts)
      have hfew : fewL (sortL cmpT (pathsT n E Ts)) := ⟨by rw [hsp.length_eq]; omega, fun r hr => by have := pathsT_row h1 hTd (hsp.mem_iff.1 hr); omega⟩
      refine ⟨rfl, rfl, _, _, rfl, hsn, ?_⟩
      rw [sortN_rows]
      refine Pick.by (fun h6 => ?_) (fun h6 => ?_)
      · have h6 : usedT (pathsT n E Ts) ≠ E.length := by intro e; rw [edges_length, e] at h6; simp at h6
        have hv := readF_no (n := n) (E := E) (fun h => h6 (by rw [← hTs]; exact h.2.2.2.1))
        dsimp only
        rw [hv]
        exact ⟨rfl, rfl, ⟨rfl, ⟨rfl, rfl⟩, ⟨rfl, rfl⟩, trivial⟩, rfl, trivial⟩
      have h6 : usedT (pathsT n E Ts) = E.length := by
        have h6 : (!((usedT (pathsT n E Ts) : Int) == ((edges E).length : Nat))) = false := h6
        rw [edges_length] at h6
        have : (usedT (pathsT n E Ts) : Int) = (E.length : Nat) := by simpa only [Bool.not_eq_false', beq_iff_eq] using h6
        omega
      refine Call.by _ _ (SubC_at (n := n) (E := E) (k := 2) (Ts := Ts) hfew) ?_
      refine Pick.by (fun h7 => ?_) (fun h7 => ?_)
      · have h7 : ¬ SubP n E 2 Ts (sortL cmpT (pathsT n E Ts)) := by
          have h7 : (!subB n E 2 Ts (sortL cmpT (pathsT n E Ts))) = true := h7
          intro h; rw [subB_iff.2 h] at h7; cases h7
        have hv := readF_no (n := n) (E := E) (fun h => h7 (by have := h.2.2.2.2; rw [hTs, hkd] at this; exact this))
        dsimp only
        rw [hv]
        exact ⟨rfl, rfl, ⟨rfl, ⟨rfl, rfl⟩, ⟨rfl, rfl⟩, trivial⟩, rfl, trivial⟩
      · have h7 : SubP n E 2 Ts (sortL cmpT (pathsT n E Ts)) := by
          have h7 : (!subB n E 2 Ts (sortL cmpT (pathsT n E Ts))) = false := h7
          exact subB_iff.1 (by simpa using h7)
        have hv := readF_yes (n := n) (E := E) ⟨h1, hdegs, by rw [hTs, hkd]; decide, by rw [hTs]; exact h6, by rw [hTs, hkd]; exact h7⟩
        rw [hTs, hkd] at hv
        dsimp only
        rw [hv]
        exact ⟨rfl, rfl, ⟨rfl, ⟨rfl, rfl⟩, ⟨rfl, rfl⟩, trivial⟩, rfl, trivial⟩
  · have h5 : Ts.length ≠ 2 := by rw [ints_length] at h5; have := beq_eq_false_iff_ne.1 h5; omega
    have hv := readF_no (n := n) (E := E) (fun h => h.2.2.1 (by rw [hTs]; unfold kindT; rw [if_neg h4, if_neg h5]))
    dsimp only
    rw [hv]
    exact ⟨rfl, rfl, ⟨rfl, ⟨rfl, rfl⟩, ⟨rfl, rfl⟩, trivial⟩, rfl, trivial⟩
end Go.Sh

set_option linter.unusedVariables false
set_option linter.unusedSimpArgs false
namespace Go.Sh
open Go.Proofs
/-! ### carcanetlaw09.small -/
end Go.Sh

set_option linter.unusedVariables false
set_option linter.unusedSimpArgs false
namespace Go.Sh
open Go.Proofs
/-! ### carcanetref11.find -/
end Go.Sh

set_option linter.unusedVariables false
set_option linter.unusedSimpArgs false
namespace Go.Sh
open Go.Proofs Go.Shelf Go.RowKit
/-! ### slices.Grow of nil, slices.Concat -/
noncomputable def growN : Sc → Option (Option (Nat × Flat)) := fun x => match x with
  | .i .i64 n => if 0 ≤ n ∧ n ≤ 1000000000 then some (some (1, [])) else none
  | _ => none
theorem Grow_call : NilCall Try.prog 99 growN := by
  refine ⟨⟨_, Try.func99, by decide, by simp [Try.f99]⟩, ?_⟩
  intro x r hx w
  obtain ⟨n, rfl, h0, h1, rfl⟩ : ∃ n : Int, x = .i .i64 n ∧ 0 ≤ n ∧ n ≤ 1000000000 ∧ r = some (1, []) := by
    unfold growN at hx
    split at hx
    · split at hx
      · rename_i h
        injection hx with hx
        exact ⟨_, rfl, h.1, h.2, hx.symm⟩
      · simp at hx
    · simp at hx
  obtain ⟨k, rfl⟩ : ∃ k : Nat, n = k := ⟨n.toNat, by omega⟩
  rcases Nat.eq_zero_or_pos k with rfl | hk
  · refine (Any8.slices_Grow_room Try.laysGrow none 0 0 0 w (by omega) (by omega) (by omega) (by omega)).mono ?_
    rintro e w' ⟨rfl, rfl⟩
    exact ⟨_, rfl, Frm.refl _ _, none, 0, rfl, fun key => FlatOk.nil (by omega)⟩
  · obtain ⟨i0, hi, hz0, hz1, hz2⟩ := info_parts iSI
    refine (Any8.slices_Grow_grow Try.laysGrow i0 _ hi hz0 (by omega) none 0 0 k [] w (by omega) (by omega) (by rw [hz2]; omega) (by omega) (by simp) (fun _ => rfl) (fun a h => by simp at h)).mono ?_
    rintro e w' ⟨rfl, rfl⟩
    have hsz : (#[] ++ Builtin.zeroCells (Value.int .i64 0).cells (0 + k - 0) ++ Builtin.zeroCells (Value.int .i64 0).cells (grownCap w (0 + k) 0 3 - (0 + k)) : Array Value).size = grownCap w (0 + k) 0 3 := by
      have hG : 0 + k ≤ grownCap w (0 + k) 0 3 := grownCap_ge w _ _ _
      generalize grownCap w (0 + k) 0 3 = G at hG ⊢
      simp [Builtin.zeroCells, Value.cells]
      omega
    have hle := grownCap_le_maxLen w (0 + k) 0 3 (by unfold maxLen; omega)
    refine ⟨_, rfl, ⟨rfl, ⟨rfl, fun _ => Nat.le_succ _⟩, rfl, by simp, fun b hb _ => heap_alloc_lt w.drew _ hb⟩, _, _, rfl, fun key => ?_⟩
    refine { fits := Nat.zero_le _, pos := by omega, even := fun i row h => by simp at h, cell := fun i row j x h => by simp at h, room := fun _ => .inr ⟨w.heap.size, 0, _, _, rfl, ?_, heap_alloc_at w.drew _, ?_, ?_⟩ }
    · rw [if_pos ⟨Nat.le_refl _, by simp⟩]
    · show 0 + grownCap w (0 + k) 0 3 * 1 ≤ _
      refine Nat.le_trans ?_ (Nat.le_of_eq hsz.symm)
      omega
    · show grownCap w (0 + k) 0 3 ≤ _
      unfold maxLen at hle; omega
noncomputable def XCat : Cx := { Γ := [], T := T, nt := 36, ext := [99], base := nilCR 99 growN }
theorem XCat_ok : CrOk Try.prog (callAt 1 XCat) := callAt_ok hmix hT sound_nil inl_nil (nil_ok Grow_call) 1
noncomputable def ConcatC : Con := conP 1 (fun L : List (List Int) => L.length ≤ 1000 ∧ L.flatten.length ≤ 100000000) (fun L => [.one (.nest false 1 (rowsI L))]) (fun L => .one (.flat true 1 (ints L.flatten)))
theorem ConcatC_at {L : List (List Int)} (h : L.length ≤ 1000 ∧ L.flatten.length ≤ 100000000) : ConcatC.F [.one (.nest false 1 (rowsI L))] = some (.one (.flat true 1 (ints L.flatten)), []) :=
  conP_at (a := L) (fun a b _ _ h => by simp at h; rw [rowsI_inj h]) h
theorem flat_take {L : List (List Int)} {i : Nat} (h : i < L.length) : (L.take (i + 1)).flatten = (L.take i).flatten ++ L[i] := by
  rw [List.take_succ_eq_append_getElem h, List.flatten_append]; simp
theorem flat_le (L : List (List Int)) (i : Nat) : (L.take i).flatten.length ≤ L.flatten.length := by
  conv => rhs; rw [← List.take_append_drop i L, List.flatten_append, List.length_append]
  omega
set_option maxHeartbeats 1000000 in
theorem Concat_ok : SoundC Try.prog T 81 ConcatC := by
  refine sound_con (X := XCat) (cr := callAt 1 XCat) XCat_ok hmix hT sound_nil Try.func81 (by rfl) (by rfl) (by rfl) (by rfl) 1 ?_
  rintro L ⟨hL, hF⟩
  refine ⟨⟨Nat.le_of_ble_eq_true rfl, Nat.le_of_ble_eq_true rfl⟩, ?_⟩
  refine LoopP.intro (α := Nat) (fun i => i ≤ L.length) (fun i => L.length - i) (fun i => [(0, .sl 0 none none), (3, .s (.i .i64 ((L.take i).flatten.length : Nat))), (9, .sl 0 none none), (10, .s (.i .i64 L.length)), (11, .s (.i .i64 i))])
    (fun i => [(0, some (.nest false 1 (rowsI L) [] []))]) 1 0 (by omega) (by refine Weak.by [(0, some _)] (by ((repeat' first | exact rfl | exact trivial | refine And.intro ?_ ?_) <;> (repeat' first | exact rfl | exact trivial | refine And.intro ?_ ?_)); all_goals (exact sc_eq (by rw [rowsI_length]))) (by ((repeat' first | exact rfl | exact trivial | refine And.intro ?_ ?_) <;> (repeat' first | exact rfl | exact trivial | refine And.intro ?_ ?_)); all_goals (exact sc_eq (by rw [rowsI_length]))) (by rfl)) ?_
  rintro i hi
  have hfi := flat_le L i
  refine Pick.by (fun hc => ?_) (fun hc => ?_)
  · have hlt : i < L.length := by have := of_decide_eq_true hc; omega
    have hpg : (rowsI L)[i]? = some (ints L[i]) := rowsI_get (List.getElem?_eq_getElem hlt)
    have hft := flat_take hlt
    have hfi2 := flat_le L (i + 1)
    rw [hft, List.length_append] at hfi2
    refine Idx.by i rfl (by rw [rowsI_length]; exact hlt) ?_
    refine Pick.T (by simpa [rowsI_length] using hlt) ?_
    refine Look.by _ hpg ?_
    refine Pick.T (inI64_of (by rw [ints_length]; omega) (by rw [ints_length]; omega)) ?_
    refine Pick.T (inI64_of (by omega) (by omega)) ?_
    refine Next.by (i + 1) (by omega) (by omega) (by refine Weak.by [(0, some _)] (by ((repeat' first | exact rfl | exact trivial | refine And.intro ?_ ?_) <;> (repeat' first | exact rfl | exact trivial | refine And.intro ?_ ?_)); all_goals (exact sc_eq (by rw [hft, List.length_append, ints_length]; omega))) (by ((repeat' first | exact rfl | exact trivial | refine And.intro ?_ ?_) <;> (repeat' first | exact rfl | exact trivial | refine And.intro ?_ ?_)); all_goals (exact sc_eq (by rw [hft, List.length_append, ints_length]; omega))) (by rfl))
  have hil : i = L.length := by have := of_decide_eq_false hc; omega
  subst hil
  rw [List.take_length]
  refine ⟨rfl, .i .i64 ((L.flatten.length : Nat) : Int), some (1, []), rfl, if_pos ⟨by omega, by omega⟩, ?_⟩
  refine LoopP.intro (α := Nat) (fun i => i ≤ L.length) (fun i => L.length - i) (fun i => [(6, .sl 1 none none), (25, .sl 0 none none), (26, .s (.i .i64 L.length)), (27, .s (.i .i64 i))])
    (fun i => [(0, some (.nest false 1 (rowsI L) [] [])), (1, some (.flat true 1 (ints (L.take i).flatten)))]) 2 0 (by omega) (by refine Weak.by [(0, some _), (1, some _)] (by ((repeat' first | exact rfl | exact trivial | refine And.intro ?_ ?_) <;> (repeat' first | exact rfl | exact trivial | refine And.intro ?_ ?_)); all_goals ((first | exact sc_eq (by rw [rowsI_length]) | rfl))) (by ((repeat' first | exact rfl | exact trivial | refine And.intro ?_ ?_) <;> (repeat' first | exact rfl | exact trivial | refine And.intro ?_ ?_)); all_goals ((first | exact sc_eq (by rw [rowsI_length]) | rfl))) (by rfl)) ?_
  rintro i hi
  have hfi := flat_le L i
  refine Pick.by (fun hc => ?_) (fun hc => ?_)
  · have hlt : i < L.length := by have := of_decide_eq_true hc; omega
    have hpg : (rowsI L)[i]? = some (ints L[i]) := rowsI_get (List.getElem?_eq_getElem hlt)
    have hft := flat_take hlt
    have hfi2 := flat_le L (i + 1)
    rw [hft, List.length_append] at hfi2
    refine Idx.by i rfl (by rw [rowsI_length]; exact hlt) ?_
    refine Pick.T (by simpa [rowsI_length] using hlt) ?_
    refine Look.by _ hpg ?_
    refine Pick.T (decide_eq_true (by rw [ints_length, show (cut none (ints L[i])).length = L[i].length from ints_length _]; omega)) ?_
    refine Pick.T (inI64_of (by omega) (by omega)) ?_
    refine Next.by (i + 1) (by omega) (by omega) (by refine Weak.by [(0, some _), (1, some _)] (by ((repeat' first | exact rfl | exact trivial | refine And.intro ?_ ?_) <;> (repeat' first | exact rfl | exact trivial | refine And.intro ?_ ?_)); all_goals ((rw [hft, ints_append]; rfl))) (by ((repeat' first | exact rfl | exact trivial | refine And.intro ?_ ?_) <;> (repeat' first | exact rfl | exact trivial | refine And.intro ?_ ?_)); all_goals ((rw [hft, ints_append]; rfl))) (by rfl))
  have hil : i = L.length := by have := of_decide_eq_false hc; omega
  subst hil
  rw [List.take_length]
  exact ⟨rfl, rfl, rfl⟩
end Go.Sh

set_option linter.unusedVariables false
set_option linter.unusedSimpArgs false
namespace Go.Sh
open Go.Proofs
/-! ### expander$2: what lies between two ends -/
noncomputable def XInn (d : Nat) : Cx := { Γ := [(81, ConcatC), (80, recC 80 (innerD d))], T := T, nt := 35, pt := [23, 29] }
theorem min_in {x y : Int} (hx : inI64 x = true) (hy : inI64 y = true) : inI64 (if y < x then y else x) = true := by split <;> assumption
theorem max_in {x y : Int} (hx : inI64 x = true) (hy : inI64 y = true) : inI64 (if y > x then y else x) = true := by split <;> assumption
set_option maxRecDepth 20000 in
set_option maxHeartbeats 1000000 in
theorem inner_run (d : Nat) (ih : RecCall Try.prog 80 (innerD d)) : RecCall Try.prog 80 (innerD (d + 1)) := by
  have hΓ : Sound Try.prog T (XInn d).Γ := sound_cons Concat_ok (sound_cons (rec_sound ih) sound_nil)
  refine rec_call (X := XInn d) (cr := callAt 1 (XInn d)) (c := body Try.f80) (callAt_ok hmix hT hΓ inl_nil cr_none 1) hmix hT hΓ Try.func80 (by rfl) (by rfl) (by rfl) (by rfl) (by rfl) ?_
  intro l x y r h
  have h : (if inI64 x = true ∧ inI64 y = true then (if mapHas l (key2 x y) = true then (match innerD d l x (mapGet l (key2 x y)), innerD d l (mapGet l (key2 x y)) y with
      | some p, some q => if p.length + q.length ≤ 1000000 then some (p ++ mapGet l (key2 x y) :: q) else none
      | _, _ => none) else some []) else none) = some r := h
  by_cases hr : inI64 x = true ∧ inI64 y = true
  rotate_left
  · rw [if_neg hr] at h; simp at h
  rw [if_pos hr] at h
  refine Pick.T (min_in hr.1 hr.2) ?_
  refine Pick.T (max_in hr.1 hr.2) ?_
  refine Pick.by (fun hc => ?_) (fun hc => ?_)
  · have hc : ¬ mapHas l (key2 x y) = true := by
      have hc : (!mapHas l (key2 x y)) = true := hc
      simpa using hc
    rw [if_neg hc] at h
    injection h with h
    subst h
    exact ⟨rfl, rfl, rfl⟩
  have hc : mapHas l (key2 x y) = true := by
    have hc : (!mapHas l (key2 x y)) = false := hc
    simpa using hc
  rw [if_pos hc] at h
  cases h1 : innerD d l x (mapGet l (key2 x y)) with
  | none => rw [h1] at h; simp at h
  | some rx =>
    cases h2 : innerD d l (mapGet l (key2 x y)) y with
    | none => rw [h1, h2] at h; simp at h
    | some ry =>
      rw [h1, h2] at h
      dsimp only at h
      by_cases hl : rx.length + ry.length ≤ 1000000
      rotate_left
      · rw [if_neg hl] at h; simp at h
      rw [if_pos hl] at h
      injection h with h
      subst h

      refine Call.by _ _ (recC_at h1) ?_
      refine Call.by _ _ (recC_at h2) ?_
      refine Call.by _ _ (ConcatC_at (L := [rx, [mapGet l (key2 x y)], ry]) ⟨by simp, by simp; omega⟩) ?_
      refine Seg.by (by kernel_rfl) ?_
      refine ⟨rfl, rfl, ?_⟩
      show _ = ints _
      simp
theorem inner_call : ∀ d, RecCall Try.prog 80 (innerD d)
  | 0 => ⟨⟨_, Try.func80, by decide, by simp [Try.f80]⟩, fun l x y r h => by simp [innerD] at h⟩
  | d + 1 => inner_run d (inner_call d)
end Go.Sh

set_option linter.unusedVariables false
set_option linter.unusedSimpArgs false
namespace Go.Sh
open Go.Proofs
/-! ### expand.Edge -/
theorem runs_addok {E : List Ed} {l : List Stp} {n i : Nat} (hi : i < l.length) (h : RunsP E l n i) (ha : l[i].2.2.2 = true) :
    (0 ≤ l[i].2.1 ∧ l[i].2.1 < n) ∧ (0 ≤ l[i].2.2.1 ∧ l[i].2.2.1 < n) ∧ (0 ≤ l[i].1 ∧ l[i].1 < n) ∧ AddOk (l[i].2.1, l[i].2.2.1, l[i].1) (addsL (l.take i)) ∧ Val (addsL (l.take i)) ∧ (adjE E l[i].2.1 l[i].1 ∨ inKeys (addsL (l.take i)) l[i].2.1 l[i].1) ∧ (adjE E l[i].1 l[i].2.2.1 ∨ inKeys (addsL (l.take i)) l[i].1 l[i].2.2.1) := by
  obtain ⟨N, G, hn, h1, h2, _⟩ := runs_may hi h
  obtain ⟨_, _, h3, h4, h5, h6, _, h7, h8⟩ := added_fact h1 h2 ha
  rw [hn] at h4 h5 h6
  exact ⟨h4, h5, h6, h3, h1.val, h7, h8⟩
theorem runs_put {E : List Ed} {l : List Stp} {n i : Nat} (hi : i < l.length) (h : RunsP E l n i) : putStep (byL (addsL (l.take i))) l[i] = byL (addsL (l.take (i + 1))) := by
  rw [List.take_succ_eq_append_getElem hi, addsL_snoc]
  exact put_by fun ha => (runs_addok hi h ha).2.2.2.1.2.2.2.2.2.2
noncomputable def EdgeC : Con := conP 4 (fun a : ((Int × List Ed) × List Stp) × Int × Int => a.1.2.length ≤ 1000 ∧ i64 a.2.1 ∧ i64 a.2.2) (fun a => [grV a.1.1.1 a.1.1.2, .one (.flat false 4 (stps a.1.2)), .one (.s (.i .i64 a.2.1)), .one (.s (.i .i64 a.2.2))])
  (fun a => .tup [.one (.flat true 1 (ints ((expF a.1.1.1 a.1.1.2 a.1.2 a.2.1 a.2.2).getD []))), .one (.s (.b (expF a.1.1.1 a.1.1.2 a.1.2 a.2.1 a.2.2).isSome))])
theorem EdgeC_at {n : Int} {E : List Ed} {l : List Stp} {a b : Int} (h : l.length ≤ 1000 ∧ i64 a ∧ i64 b) : EdgeC.F [grV n E, .one (.flat false 4 (stps l)), .one (.s (.i .i64 a)), .one (.s (.i .i64 b))] = some (.tup [.one (.flat true 1 (ints ((expF n E l a b).getD []))), .one (.s (.b (expF n E l a b).isSome))], []) :=
  conP_at (a := (((n, E), l), a, b)) (fun x y _ _ h => by
    obtain ⟨⟨⟨n, E⟩, l⟩, a, b⟩ := x
    obtain ⟨⟨⟨n', E'⟩, l'⟩, a', b'⟩ := y
    simp at h
    obtain ⟨h1, h2, rfl, rfl⟩ := h
    obtain ⟨rfl, rfl⟩ := grV_inj h1
    rw [stps_inj h2]) h
noncomputable def XEx : Cx := { Γ := [(25, ReplC), (27, HasGC), (81, ConcatC), (80, recC 80 (innerD 1002))], T := T, nt := 18, pt := [34], inl := [(45, inlF Try.f45), (79, inlF Try.f79), (82, inlF Try.f82)] }
theorem XEx_sound : Sound Try.prog T XEx.Γ := sound_cons Repl_ok (sound_cons Has_ok (sound_cons Concat_ok (sound_cons (rec_sound (inner_call 1002)) sound_nil)))
theorem XEx_ok : CrOk Try.prog (callAt 1 XEx) := callAt_ok hmix hT XEx_sound (inl_cons Try.func45 (by rfl) (by rfl) (by rfl) (inl_cons Try.func79 (by rfl) (by rfl) (by rfl) (inl_cons Try.func82 (by rfl) (by rfl) (by rfl) inl_nil))) cr_none 1
set_option maxHeartbeats 2000000 in
set_option maxRecDepth 20000 in
theorem Edge_ok : SoundC Try.prog T 17 EdgeC := by
  refine sound_con (X := XEx) (cr := callAt 1 XEx) XEx_ok hmix hT XEx_sound Try.func17 (by rfl) (by rfl) (by rfl) (by rfl) 5 ?_
  rintro ⟨⟨⟨n, E⟩, L⟩, a, b⟩ ⟨hL, ha, hb⟩
  dsimp only at hL ha hb ⊢
  refine ⟨⟨Nat.le_of_ble_eq_true rfl, Nat.le_of_ble_eq_true rfl⟩, ?_⟩
  refine Call.by _ _ (ReplC_at (l := L) (by omega)) ?_
  refine Pick.by (fun h1 => ?_) (fun h1 => ?_)
  · have h1 : ¬ (replO n E L).2 = true := by have h1 : (!(replO n E L).2) = true := h1; simpa using h1
    have hv : expF n E L a b = none := if_neg fun h => h1 h.1
    rw [hv]
    refine ⟨rfl, ?_⟩
    (repeat' first | exact rfl | exact trivial | refine And.intro ?_ ?_)
  have h1 : (replO n E L).2 = true := by have h1 : (!(replO n E L).2) = false := h1; simpa using h1
  obtain ⟨hR, hruns⟩ := runs_zero h1
  have hruns := runs_all hruns
  obtain ⟨_, N, G, hN, hX⟩ := runs_end h1
  have hn0 := hR.1
  have hn1 := hR.2.1
  refine LoopP.intro (α := Nat) (fun i => i ≤ L.length) (fun i => L.length - i) (fun i => [(1, .sl 2 none none), (2, .ptr 0 0), (7, .ptr 3 0), (20, .sl 2 none none), (21, .s (.i .i64 L.length)), (22, .s (.i .i64 i)), (1000002, .s (.i .i64 a)), (1000003, .s (.i .i64 b))])
    (fun i => [(0, some (.blk [.s (.i .i64 n), .sl 1 none none])), (1, some (.flat false 2 (edges E))), (2, some (.flat false 4 (stps L))), (3, some (.blk [.mp 4])), (4, some (.map true 2 (byL (addsL (L.take i)))))]) 5 0 (by omega) (by refine Weak.by [(0, some _), (1, some _), (2, some _), (3, some _), (4, some _)] (by ((repeat' first | exact rfl | exact trivial | refine And.intro ?_ ?_) <;> (repeat' first | exact rfl | exact trivial | refine And.intro ?_ ?_)); all_goals (exact sc_eq (by rw [stps_length]))) (by ((repeat' first | exact rfl | exact trivial | refine And.intro ?_ ?_) <;> (repeat' first | exact rfl | exact trivial | refine And.intro ?_ ?_)); all_goals (exact sc_eq (by rw [stps_length]))) (by rfl)) ?_
  rintro i hi
  refine Pick.by (fun hc => ?_) (fun hc => ?_)
  · have hlt : i < L.length := by have := of_decide_eq_true hc; omega
    obtain ⟨s, hs⟩ : ∃ s, L[i] = s := ⟨_, rfl⟩
    have hrow : (stps L)[i]? = some [.i .i64 s.1, .i .i64 s.2.1, .i .i64 s.2.2.1, .b s.2.2.2] := by unfold stps; rw [List.getElem?_map, List.getElem?_eq_getElem hlt, hs]; rfl
    have hput := runs_put hlt (hruns i (by omega))
    rw [hs] at hput
    refine Idx.by i rfl (by rw [stps_length]; exact hlt) ?_
    refine Look.by _ hrow ?_
    refine Pick.by (fun h2 => ?_) (fun h2 => ?_)
    · have h2 : s.2.2.2 = true := h2
      have hok := runs_addok hlt (hruns i (by omega)) (by rw [hs]; exact h2)
      rw [hs] at hok
      obtain ⟨r1, r2, r3, _⟩ := hok
      have hput : mapPut (byL (addsL (L.take i))) [s.2.1, s.2.2.1] s.1 = byL (addsL (L.take (i + 1))) := by rw [← hput]; unfold putStep; rw [if_pos h2]
      refine Pick.T (inI64_of (by omega) (by omega)) ?_
      refine Pick.T (inI64_of (by omega) (by omega)) ?_
      refine Pick.T (inI64_of (by omega) (by omega)) ?_
      refine Next.by (i + 1) (by omega) (by omega) (by refine Weak.by [(0, some _), (1, some _), (2, some _), (3, some _), (4, some _)] (by ((repeat' first | exact rfl | exact trivial | refine And.intro ?_ ?_) <;> (repeat' first | exact rfl | exact trivial | refine And.intro ?_ ?_)); all_goals (rw [← hput])) (by ((repeat' first | exact rfl | exact trivial | refine And.intro ?_ ?_) <;> (repeat' first | exact rfl | exact trivial | refine And.intro ?_ ?_)); all_goals (rw [← hput])) (by rfl))
    · have h2 : ¬ s.2.2.2 = true := by have h2 : s.2.2.2 = false := h2; rw [h2]; simp
      have hput : byL (addsL (L.take i)) = byL (addsL (L.take (i + 1))) := by rw [← hput]; unfold putStep; rw [if_neg h2]
      refine Pick.T (inI64_of (by omega) (by omega)) ?_
      rw [hput]
      refine Next.by (i + 1) (by omega) (by omega) (by refine Weak.by [(0, some _), (1, some _), (2, some _), (3, some _), (4, some _)] (by ((repeat' first | exact rfl | exact trivial | refine And.intro ?_ ?_) <;> (repeat' first | exact rfl | exact trivial | refine And.intro ?_ ?_))) (by ((repeat' first | exact rfl | exact trivial | refine And.intro ?_ ?_) <;> (repeat' first | exact rfl | exact trivial | refine And.intro ?_ ?_))) (by rfl))
  have hil : i = L.length := by have := of_decide_eq_false hc; rw [] at this; omega
  subst hil
  rw [List.take_length]
  have hval := hX.val
  have hlen := addsL_len L
  have hrng : ∀ e ∈ addsL L, i64 e.1 ∧ i64 e.2.1 ∧ i64 e.2.2 := fun e he => by
    have := hX.rng e he
    rw [hN] at this
    unfold i64
    omega
  refine Pick.T (min_in (inI64_iff.2 ha) (inI64_iff.2 hb)) ?_
  refine Pick.T (max_in (inI64_iff.2 ha) (inI64_iff.2 hb)) ?_
  have hin : innerD 1002 (byL (addsL L)) a b = some (pth (addsL L) a b) := inner_pth (r := addsL L) (pre := []) hval hrng (by omega) ha hb (by simp) (by omega)
  have hpl := pth_len (a := a) (b := b) hval
  have hkey : mapHas (byL (addsL L)) (key2 a b) = true ↔ inKeys (addsL L) a b := key2_has hval.lt
  refine Pick.by (fun hc1 => ?_) (fun hc1 => ?_)
  · have hk : ¬ inKeys (addsL L) a b := fun k => by
      have hc1 : (!mapHas (byL (addsL L)) (key2 a b)) = true := hc1
      rw [hkey.2 k] at hc1; simp at hc1
    refine Call.by _ _ (HasGC_at _ _ (by have := hR.2.2.1; omega)) ?_
    refine Pick.by (fun hc2 => ?_) (fun hc2 => ?_)
    · have hc2 : hasG n E a b = false := by have hc2 : (!hasG n E a b) = true := hc2; simpa using hc2
      have hE : ¬ adjE E a b := fun k => by
        have : hasG n E a b = true := by unfold hasG; simp [hR, mem_nearL.2 k]
        rw [this] at hc2; simp at hc2
      have hv : expF n E L a b = none := if_neg fun h => h.2.elim hE hk
      rw [hv]
      refine ⟨rfl, ?_⟩
      (repeat' first | exact rfl | exact trivial | refine And.intro ?_ ?_)
    · have hc2 : hasG n E a b = true := by have hc2 : (!hasG n E a b) = false := hc2; simpa using hc2
      have hE : adjE E a b := by unfold hasG at hc2; simp at hc2; exact mem_nearL.1 hc2.2
      have hv : expF n E L a b = some [[a], pth (addsL L) a b, [b]].flatten := (if_pos ⟨h1, .inl hE⟩ : expF n E L a b = some (a :: pth (addsL L) a b ++ [b])).trans (by simp)
      rw [hv]
      refine Call.by _ _ (recC_at hin) ?_
      refine Call.by _ _ (ConcatC_at (L := [[a], pth (addsL L) a b, [b]]) ⟨by simp, by simp; omega⟩) ?_
      refine ⟨rfl, ?_⟩
      (repeat' first | exact rfl | exact trivial | refine And.intro ?_ ?_)
  · have hk : inKeys (addsL L) a b := hkey.1 (by
      have hc1 : (!mapHas (byL (addsL L)) (key2 a b)) = false := hc1
      simpa using hc1)
    have hv : expF n E L a b = some [[a], pth (addsL L) a b, [b]].flatten := (if_pos ⟨h1, .inr hk⟩ : expF n E L a b = some (a :: pth (addsL L) a b ++ [b])).trans (by simp)
    rw [hv]
    refine Call.by _ _ (recC_at hin) ?_
    refine Call.by _ _ (ConcatC_at (L := [[a], pth (addsL L) a b, [b]]) ⟨by simp, by simp; omega⟩) ?_
    refine ⟨rfl, ?_⟩
    (repeat' first | exact rfl | exact trivial | refine And.intro ?_ ?_)
end Go.Sh

set_option linter.unusedVariables false
set_option linter.unusedSimpArgs false
namespace Go.Sh
open Go.Proofs
/-! ### expand.Lift -/
noncomputable def LiftC : Con := conP 3 (fun a : ((Int × List Ed) × List Stp) × Int × List Int × List (List Int) => a.1.2.length ≤ 1000 ∧ a.2.2.1.length ≤ 1000000 ∧ fewL a.2.2.2 ∧ smallNums a.2.2.2) (fun a => [grV a.1.1.1 a.1.1.2, .one (.flat false 4 (stps a.1.2)), sbV false a.2.1 a.2.2.1 a.2.2.2])
  (fun a => liftV a.1.1.1 a.1.1.2 a.1.2 a.2.1 a.2.2.1 a.2.2.2)
theorem LiftC_at {n : Int} {E : List Ed} {l : List Stp} {k : Int} {Ts : List Int} {L : List (List Int)} (h : l.length ≤ 1000 ∧ Ts.length ≤ 1000000 ∧ fewL L ∧ smallNums L) : LiftC.F [grV n E, .one (.flat false 4 (stps l)), sbV false k Ts L] = some (liftV n E l k Ts L, []) :=
  conP_at (a := (((n, E), l), k, Ts, L)) (fun x y _ _ h => by
    obtain ⟨⟨⟨n, E⟩, l⟩, k, Ts, L⟩ := x
    obtain ⟨⟨⟨n', E'⟩, l'⟩, k', Ts', L'⟩ := y
    simp at h
    obtain ⟨h1, h2, h3⟩ := h
    obtain ⟨rfl, rfl⟩ := grV_inj h1
    obtain ⟨rfl, rfl, rfl⟩ := sbV_inj h3
    rw [stps_inj h2]) h
noncomputable def XLi : Cx := { Γ := [(25, ReplC), (27, HasGC), (81, ConcatC), (48, CloneCI), (80, recC 80 (innerD 1002))], T := T, nt := 85, pt := [34], inl := [(45, inlF Try.f45), (79, inlF Try.f79), (82, inlF Try.f82)] }
theorem XLi_sound : Sound Try.prog T XLi.Γ := sound_cons Repl_ok (sound_cons Has_ok (sound_cons Concat_ok (sound_cons Clone_okI (sound_cons (rec_sound (inner_call 1002)) sound_nil))))
theorem XLi_ok : CrOk Try.prog (callAt 1 XLi) := callAt_ok hmix hT XLi_sound (inl_cons Try.func45 (by rfl) (by rfl) (by rfl) (inl_cons Try.func79 (by rfl) (by rfl) (by rfl) (inl_cons Try.func82 (by rfl) (by rfl) (by rfl) inl_nil))) cr_none 1
theorem one_cut (p : List Int) : cut (some (0, min 1 p.length)) (ints p) = ints (p.take 1) := by
  show ((ints p).drop 0).take (min 1 p.length) = _
  unfold ints
  rw [List.drop_zero, ← List.map_take]
  cases p <;> simp
theorem tail_cut (m : List Int) : cut (subOf none 0 1 m.length) (ints m) = ints m.tail := by
  show ((ints m).drop 1).take (m.length - 1) = _
  unfold ints
  rw [← List.map_drop, ← List.map_take, List.drop_one, List.take_of_length_le (by rw [List.length_tail]; omega)]
set_option maxHeartbeats 8000000 in
set_option maxRecDepth 20000 in
theorem Lift_ok : SoundC Try.prog T 22 LiftC := by
  refine sound_con (X := XLi) (cr := callAt 1 XLi) XLi_ok hmix hT XLi_sound Try.func22 (by rfl) (by rfl) (by rfl) (by rfl) 6 ?_
  rintro ⟨⟨⟨n, E⟩, L⟩, k, Ts, S⟩ ⟨hL, hTs, hS, hnum⟩
  dsimp only at hL hTs hS hnum ⊢
  refine ⟨⟨Nat.le_of_ble_eq_true rfl, Nat.le_of_ble_eq_true rfl⟩, ?_⟩
  refine Call.by _ _ (ReplC_at (l := L) (by omega)) ?_
  refine Pick.by (fun h1 => ?_) (fun h1 => ?_)
  · have h1 : ¬ (replO n E L).2 = true := by have h1 : (!(replO n E L).2) = true := h1; simpa using h1
    have hv : liftV n E L k Ts S = .tup [sbV true 0 [] [], .one (.s (.b false))] := by
      unfold liftV
      rw [show liftO n E L S = none from if_neg h1]
    rw [hv]
    refine ⟨rfl, ?_⟩
    (repeat' first | exact rfl | exact trivial | refine And.intro ?_ ?_)
  have h1 : (replO n E L).2 = true := by have h1 : (!(replO n E L).2) = false := h1; simpa using h1
  have hlo : liftO n E L S = liftN (expF n E L) S S.length := if_pos h1
  obtain ⟨hR, hruns⟩ := runs_zero h1
  have hruns := runs_all hruns
  obtain ⟨_, N, G, hN, hX⟩ := runs_end h1
  have hn0 := hR.1
  have hn1 := hR.2.1
  refine Call.by _ _ (ReplC_at (l := L) (by omega)) ?_
  refine Pick.F (by show (!(replO n E L).2) = false; rw [h1]; rfl) ?_
  refine LoopP.intro (α := Nat) (fun i => i ≤ L.length) (fun i => L.length - i) (fun i => [(1, .sl 2 none none), (2, .ptr 0 0), (7, .ptr 3 0), (20, .sl 2 none none), (21, .s (.i .i64 L.length)), (22, .s (.i .i64 i)), (1000005, .ptr 5 0), (1000006, .ptr 8 0)])
    (fun i => [(0, some (.blk [.s (.i .i64 n), .sl 1 none none])), (1, some (.flat false 2 (edges E))), (2, some (.flat false 4 (stps L))), (3, some (.blk [.mp 4])), (4, some (.map true 2 (byL (addsL (L.take i))))), (5, some (.blk [.s (.i .i64 k), .sl 6 none none, .sl 7 none none])), (6, some (.flat false 1 (ints Ts))), (7, some (.nest false 1 (rowsI S) [] [])), (8, some (.blk [.s (.i .i64 0), .nils, .nils]))]) 9 0 (by omega) (by refine Weak.by [(0, some _), (1, some _), (2, some _), (3, some _), (4, some _), (5, some _), (6, some _), (7, some _), (8, some _)] (by ((repeat' first | exact rfl | exact trivial | refine And.intro ?_ ?_) <;> (repeat' first | exact rfl | exact trivial | refine And.intro ?_ ?_)); all_goals (exact sc_eq (by rw [stps_length]))) (by ((repeat' first | exact rfl | exact trivial | refine And.intro ?_ ?_) <;> (repeat' first | exact rfl | exact trivial | refine And.intro ?_ ?_)); all_goals (exact sc_eq (by rw [stps_length]))) (by rfl)) ?_
  rintro i hi
  refine Pick.by (fun hc => ?_) (fun hc => ?_)
  · have hlt : i < L.length := by have := of_decide_eq_true hc; omega
    obtain ⟨s, hs⟩ : ∃ s, L[i] = s := ⟨_, rfl⟩
    have hrow : (stps L)[i]? = some [.i .i64 s.1, .i .i64 s.2.1, .i .i64 s.2.2.1, .b s.2.2.2] := by unfold stps; rw [List.getElem?_map, List.getElem?_eq_getElem hlt, hs]; rfl
    have hput := runs_put hlt (hruns i (by omega))
    rw [hs] at hput
    refine Idx.by i rfl (by rw [stps_length]; exact hlt) ?_
    refine Look.by _ hrow ?_
    refine Pick.by (fun h2 => ?_) (fun h2 => ?_)
    · have h2 : s.2.2.2 = true := h2
      have hok := runs_addok hlt (hruns i (by omega)) (by rw [hs]; exact h2)
      rw [hs] at hok
      obtain ⟨r1, r2, r3, _⟩ := hok
      have hput : mapPut (byL (addsL (L.take i))) [s.2.1, s.2.2.1] s.1 = byL (addsL (L.take (i + 1))) := by rw [← hput]; unfold putStep; rw [if_pos h2]
      refine Pick.T (inI64_of (by omega) (by omega)) ?_
      refine Pick.T (inI64_of (by omega) (by omega)) ?_
      refine Pick.T (inI64_of (by omega) (by omega)) ?_
      refine Next.by (i + 1) (by omega) (by omega) (by refine Weak.by [(0, some _), (1, some _), (2, some _), (3, some _), (4, some _), (5, some _), (6, some _), (7, some _), (8, some _)] (by ((repeat' first | exact rfl | exact trivial | refine And.intro ?_ ?_) <;> (repeat' first | exact rfl | exact trivial | refine And.intro ?_ ?_)); all_goals (rw [← hput])) (by ((repeat' first | exact rfl | exact trivial | refine And.intro ?_ ?_) <;> (repeat' first | exact rfl | exact trivial | refine And.intro ?_ ?_)); all_goals (rw [← hput])) (by rfl))
    · have h2 : ¬ s.2.2.2 = true := by have h2 : s.2.2.2 = false := h2; rw [h2]; simp
      have hput : byL (addsL (L.take i)) = byL (addsL (L.take (i + 1))) := by rw [← hput]; unfold putStep; rw [if_neg h2]
      refine Pick.T (inI64_of (by omega) (by omega)) ?_
      rw [hput]
      refine Next.by (i + 1) (by omega) (by omega) (by refine Weak.by [(0, some _), (1, some _), (2, some _), (3, some _), (4, some _), (5, some _), (6, some _), (7, some _), (8, some _)] (by ((repeat' first | exact rfl | exact trivial | refine And.intro ?_ ?_) <;> (repeat' first | exact rfl | exact trivial | refine And.intro ?_ ?_))) (by ((repeat' first | exact rfl | exact trivial | refine And.intro ?_ ?_) <;> (repeat' first | exact rfl | exact trivial | refine And.intro ?_ ?_))) (by rfl))
  have hil : i = L.length := by have := of_decide_eq_false hc; rw [] at this; omega
  subst hil
  rw [List.take_length]
  have hval := hX.val
  have hlen := addsL_len L
  have hrng : ∀ e ∈ addsL L, i64 e.1 ∧ i64 e.2.1 ∧ i64 e.2.2 := fun e he => by
    have := hX.rng e he
    rw [hN] at this
    unfold i64
    omega
  have hkey : ∀ a b, mapHas (byL (addsL L)) (key2 a b) = true ↔ inKeys (addsL L) a b := fun a b => key2_has hval.lt
  have hin : ∀ {a b : Int}, i64 a → i64 b → innerD 1002 (byL (addsL L)) a b = some (pth (addsL L) a b) := fun ha hb => inner_pth (r := addsL L) (pre := []) hval hrng (by omega) ha hb (by simp) (by omega)
  refine Call.by _ _ (CloneC_atI hTs) ?_
  refine Seg.by (by kernel_rfl) ?_
  obtain ⟨hS1, hS2⟩ := hS
  refine LoopP.intro (α := Nat × List (List Int)) (fun a => a.1 ≤ S.length ∧ liftN (expF n E L) S a.1 = some a.2) (fun a => S.length - a.1) (fun a => [(6, .ptr 6 0), (10, .fn 82 [.ptr 2 0, .ptr 0 0, .ptr 4 0]), (11, .ptr 7 0), (37, .sl 5 none none), (38, .s (.i .i64 S.length)), (39, .s (.i .i64 a.1))])
    (fun a => [(0, some (.blk [.s (.i .i64 n), .sl 1 none none])), (1, some (.flat false 2 (edges E))), (2, some (.blk [.mp 3])), (3, some (.map true 2 (byL (addsL L)))), (4, some (.fnb true 80 [.ptr 2 0, .ptr 4 0])), (5, some (.nest false 1 (rowsI S) [] [])), (6, some (.blk [.s (.i .i64 0), .nils, .nils])), (7, some (.blk [.s (.i .i64 k), .sl 8 none none, .sl 9 none none])), (8, some (.flat true 1 (ints Ts))), (9, some (.nest true 1 (rowsI a.2) [] []))]) 10 (0, []) ⟨by omega, rfl⟩ (by refine Weak.by [(0, some _), (1, some _), (2, some _), (3, some _), (4, some _), (5, some _), (6, some _), (7, some _), (8, some _), (9, none)] (by ((repeat' first | exact rfl | exact trivial | refine And.intro ?_ ?_) <;> (repeat' first | exact rfl | exact trivial | refine And.intro ?_ ?_)); all_goals (exact sc_eq (by rw [rowsI_length]))) (by ((repeat' first | exact rfl | exact trivial | refine And.intro ?_ ?_) <;> (repeat' first | exact rfl | exact trivial | refine And.intro ?_ ?_)); all_goals (exact sc_eq (by rw [rowsI_length]))) (by rfl)) ?_
  rintro ⟨i, K⟩ ⟨hi, hK⟩
  dsimp only at hi hK ⊢
  have hKl := liftN_len hK
  refine Pick.by (fun hc => ?_) (fun hc => ?_)
  rotate_left
  · have hil : i = S.length := by have := of_decide_eq_false hc; omega
    have hv : liftV n E L k Ts S = .tup [sbV true k Ts K, .one (.s (.b true))] := by
      unfold liftV
      rw [hlo, ← hil, hK]
    rw [hv]
    refine ⟨rfl, ?_⟩
    (repeat' first | exact rfl | exact trivial | refine And.intro ?_ ?_)
  have hlt : i < S.length := by have := of_decide_eq_true hc; omega
  obtain ⟨p, hpe⟩ : ∃ p, S[i] = p := ⟨_, rfl⟩
  have hpl := hS2 _ (List.getElem_mem hlt)
  have hpn := hnum _ (List.getElem_mem hlt)
  rw [hpe] at hpl hpn
  have hpg : (rowsI S)[i]? = some (ints p) := rowsI_get (by rw [List.getElem?_eq_getElem hlt, hpe])
  refine Idx.by i rfl (by rw [rowsI_length]; exact hlt) ?_
  refine Pick.T (by simpa [rowsI_length] using hlt) ?_
  refine Look.by _ hpg ?_
  refine Look.by _ hpg ?_
  refine Rng.by 0 (min 1 p.length) rfl (by rw [ints_length]; show (if (p.length : Int) < 1 then (p.length : Int) else 1) = _; split <;> omega) (by omega) (by rw [ints_length]; omega) ?_
  refine Look.by _ hpg ?_
  have hcl := CloneC_atI (l := p.take 1) (by rw [List.length_take]; omega)
  rw [← one_cut] at hcl
  refine Call.by _ _ hcl ?_
  rw [one_cut]
  refine Look.by _ hpg ?_
  refine Pick.T (inI64_of (by rw [ints_length]; omega) (by rw [ints_length]; omega)) ?_
  refine LoopP.intro (α := Nat × List Int) (fun a => a.1 ≤ p.length - 1 ∧ liftA (expF n E L) p a.1 = some a.2) (fun a => p.length - a.1) (fun a => [(6, .ptr 6 0), (10, .fn 82 [.ptr 2 0, .ptr 0 0, .ptr 4 0]), (11, .ptr 7 0), (13, .sl 5 (some (i, 0)) none), (14, .sl 10 none none), (37, .sl 5 none none), (38, .s (.i .i64 S.length)), (39, .s (.i .i64 i)), (51, .s (.i .i64 ((p.length : Int) - 1))), (52, .s (.i .i64 a.1))])
    (fun a => [(0, some (.blk [.s (.i .i64 n), .sl 1 none none])), (1, some (.flat false 2 (edges E))), (2, some (.blk [.mp 3])), (3, some (.map true 2 (byL (addsL L)))), (4, some (.fnb true 80 [.ptr 2 0, .ptr 4 0])), (5, some (.nest false 1 (rowsI S) [] [])), (6, some (.blk [.s (.i .i64 0), .nils, .nils])), (7, some (.blk [.s (.i .i64 k), .sl 8 none none, .sl 9 none none])), (8, some (.flat true 1 (ints Ts))), (9, some (.nest true 1 (rowsI K) [] [])), (10, some (.flat true 1 (ints a.2)))]) 11 (0, p.take 1) ⟨by omega, rfl⟩ (by refine Weak.by [(0, some _), (1, some _), (2, some _), (3, some _), (4, some _), (5, some _), (6, some _), (7, some _), (8, some _), (9, some _), (10, some _)] (by ((repeat' first | exact rfl | exact trivial | refine And.intro ?_ ?_) <;> (repeat' first | exact rfl | exact trivial | refine And.intro ?_ ?_)); all_goals (first | exact sc_eq (by rw [ints_length]) | (simp; done))) (by ((repeat' first | exact rfl | exact trivial | refine And.intro ?_ ?_) <;> (repeat' first | exact rfl | exact trivial | refine And.intro ?_ ?_)); all_goals (first | exact sc_eq (by rw [ints_length]) | (simp; done))) (by rfl)) ?_
  rintro ⟨j, q⟩ ⟨hj, hq⟩
  dsimp only at hj hq ⊢
  have hql := liftA_len (c := 1002) (fun x y m h => (expF_len hL h).1) hq
  have hql2 : j * 1002 ≤ 5000 * 1002 := Nat.mul_le_mul_right _ (by omega)
  refine Pick.by (fun hc2 => ?_) (fun hc2 => ?_)
  rotate_left
  · have hje : j = p.length - 1 := by have := of_decide_eq_false hc2; omega
    have hlf : liftF (expF n E L) S[i] = some q := by rw [hpe]; unfold liftF; rw [← hje]; exact hq
    have hst := liftN_go hlt hK hlf
    refine Pick.T (decide_eq_true (by rw [rowsI_length, hKl]; simp only [List.length_cons, List.length_nil]; omega)) ?_
    refine Pick.T (inI64_of (by omega) (by omega)) ?_
    refine Next.by (i + 1, K ++ [q]) ⟨by dsimp only; omega, hst⟩ (by dsimp only; omega) (by refine Weak.by [(0, some _), (1, some _), (2, some _), (3, some _), (4, some _), (5, some _), (6, some _), (7, some _), (8, some _), (9, some _)] (by ((repeat' first | exact rfl | exact trivial | refine And.intro ?_ ?_) <;> (repeat' first | exact rfl | exact trivial | refine And.intro ?_ ?_)); all_goals ((first | (rw [rowsI_snoc]; done) | (rw [rowsI_snoc]; rfl) | (simp; done)))) (by ((repeat' first | exact rfl | exact trivial | refine And.intro ?_ ?_) <;> (repeat' first | exact rfl | exact trivial | refine And.intro ?_ ?_)); all_goals ((first | (rw [rowsI_snoc]; done) | (rw [rowsI_snoc]; rfl) | (simp; done)))) (by rfl))
  have hjl : j + 1 < p.length := by have := of_decide_eq_true hc2; omega
  have g0 : p[j]? = some (p.getD j 0) := by rw [List.getD_eq_getElem?_getD, List.getElem?_eq_getElem (by omega)]; rfl
  have g1 : p[j + 1]? = some (p.getD (j + 1) 0) := by rw [List.getD_eq_getElem?_getD, List.getElem?_eq_getElem (by omega)]; rfl
  have ha : i64 (p.getD j 0) := hpn _ (List.mem_of_getElem? g0)
  have hb : i64 (p.getD (j + 1) 0) := hpn _ (List.mem_of_getElem? g1)
  have hin := hin ha hb
  have hkey := hkey (p.getD j 0) (p.getD (j + 1) 0)
  obtain ⟨a, hae⟩ : ∃ a, p.getD j 0 = a := ⟨_, rfl⟩
  obtain ⟨b, hbe⟩ : ∃ b, p.getD (j + 1) 0 = b := ⟨_, rfl⟩
  have hno : expF n E L a b = none → liftV n E L k Ts S = .tup [sbV true 0 [] [], .one (.s (.b false))] := fun h => by
    rw [← hae, ← hbe] at h
    have := liftN_no (f := expF n E L) hlt (by rw [hpe]; exact liftF_no hjl h)
    unfold liftV
    rw [hlo, this]
  have hyes : ∀ m, expF n E L a b = some m → liftA (expF n E L) p (j + 1) = some (q ++ m.tail) := fun m h => by
    rw [← hae, ← hbe] at h
    exact liftA_go hq h
  rw [hae, hbe] at hkey hin
  rw [hae] at g0 ha
  rw [hbe] at g1 hb
  clear hae hbe
  refine Look.by _ hpg ?_
  refine Idx.by j rfl (by rw [ints_length]; omega) ?_
  refine Look.by _ hpg ?_
  refine Look.by _ (ints_get g0) ?_
  refine Pick.T (inI64_of (by omega) (by omega)) ?_
  refine Look.by _ hpg ?_
  refine Idx.by (j + 1) (by omega) (by rw [ints_length]; omega) ?_
  refine Look.by _ hpg ?_
  refine Look.by _ (ints_get g1) ?_
  refine Bar.by (by kernel_rfl) (by kernel_rfl) ?_
  refine Pick.T (min_in (inI64_iff.2 ha) (inI64_iff.2 hb)) ?_
  refine Pick.T (max_in (inI64_iff.2 ha) (inI64_iff.2 hb)) ?_
  refine Pick.by (fun hc1 => ?_) (fun hc1 => ?_)
  · have hk : ¬ inKeys (addsL L) a b := fun k => by
      have hc1 : (!mapHas (byL (addsL L)) (key2 a b)) = true := hc1
      rw [hkey.2 k] at hc1; simp at hc1
    refine Call.by _ _ (HasGC_at _ _ (by have := hR.2.2.1; omega)) ?_
    refine Pick.by (fun hc2 => ?_) (fun hc2 => ?_)
    · have hc2 : hasG n E a b = false := by have hc2 : (!hasG n E a b) = true := hc2; simpa using hc2
      have hE : ¬ adjE E a b := fun k => by
        have : hasG n E a b = true := by unfold hasG; simp [hR, mem_nearL.2 k]
        rw [this] at hc2; simp at hc2
      have hv := hno (if_neg fun h => h.2.elim hE hk)
      rw [hv]
      refine Seg.by (by kernel_rfl) ?_
      refine ⟨rfl, ?_⟩
      (repeat' first | exact rfl | exact trivial | refine And.intro ?_ ?_)
    · have hc2 : hasG n E a b = true := by have hc2 : (!hasG n E a b) = false := hc2; simpa using hc2
      have hE : adjE E a b := by unfold hasG at hc2; simp at hc2; exact mem_nearL.1 hc2.2
      obtain ⟨m, hm, hmv⟩ : ∃ m, expF n E L a b = some m ∧ m = [[a], pth (addsL L) a b, [b]].flatten := ⟨_, if_pos ⟨h1, .inl hE⟩, by simp⟩
      have hml := expF_len hL hm
      refine Call.by _ _ (recC_at hin) ?_
      refine Call.by _ _ (ConcatC_at (L := [[a], pth (addsL L) a b, [b]]) ⟨by simp, by rw [← hmv]; omega⟩) ?_
      rw [← hmv]
      refine Seg.by (by kernel_rfl) ?_
      refine Rng.by 1 m.length rfl (by rw [ints_length]) (by omega) (by rw [ints_length]; omega) ?_
      refine Pick.T (decide_eq_true (by rw [tail_cut, ints_length, ints_length, List.length_tail]; omega)) ?_
      refine Pick.T (inI64_of (by omega) (by omega)) ?_
      refine Next.by (j + 1, q ++ m.tail) ⟨by dsimp only; omega, hyes m hm⟩ (by dsimp only; omega) (by refine Weak.by [(0, some _), (1, some _), (2, some _), (3, some _), (4, some _), (5, some _), (6, some _), (7, some _), (8, some _), (9, some _), (10, some _)] (by ((repeat' first | exact rfl | exact trivial | refine And.intro ?_ ?_) <;> (repeat' first | exact rfl | exact trivial | refine And.intro ?_ ?_)); all_goals (first | (rw [ints_append, ← tail_cut]; rfl) | (simp; done))) (by ((repeat' first | exact rfl | exact trivial | refine And.intro ?_ ?_) <;> (repeat' first | exact rfl | exact trivial | refine And.intro ?_ ?_)); all_goals (first | (rw [ints_append, ← tail_cut]; rfl) | (simp; done))) (by rfl))
  · have hk : inKeys (addsL L) a b := hkey.1 (by
      have hc1 : (!mapHas (byL (addsL L)) (key2 a b)) = false := hc1
      simpa using hc1)
    obtain ⟨m, hm, hmv⟩ : ∃ m, expF n E L a b = some m ∧ m = [[a], pth (addsL L) a b, [b]].flatten := ⟨_, if_pos ⟨h1, .inr hk⟩, by simp⟩
    have hml := expF_len hL hm
    refine Call.by _ _ (recC_at hin) ?_
    refine Call.by _ _ (ConcatC_at (L := [[a], pth (addsL L) a b, [b]]) ⟨by simp, by rw [← hmv]; omega⟩) ?_
    rw [← hmv]
    refine Seg.by (by kernel_rfl) ?_
    refine Rng.by 1 m.length rfl (by rw [ints_length]) (by omega) (by rw [ints_length]; omega) ?_
    refine Pick.T (decide_eq_true (by rw [tail_cut, ints_length, ints_length, List.length_tail]; omega)) ?_
    refine Pick.T (inI64_of (by omega) (by omega)) ?_
    refine Next.by (j + 1, q ++ m.tail) ⟨by dsimp only; omega, hyes m hm⟩ (by dsimp only; omega) (by refine Weak.by [(0, some _), (1, some _), (2, some _), (3, some _), (4, some _), (5, some _), (6, some _), (7, some _), (8, some _), (9, some _), (10, some _)] (by ((repeat' first | exact rfl | exact trivial | refine And.intro ?_ ?_) <;> (repeat' first | exact rfl | exact trivial | refine And.intro ?_ ?_)); all_goals (first | (rw [ints_append, ← tail_cut]; rfl) | (simp; done))) (by ((repeat' first | exact rfl | exact trivial | refine And.intro ?_ ?_) <;> (repeat' first | exact rfl | exact trivial | refine And.intro ?_ ?_)); all_goals (first | (rw [ints_append, ← tail_cut]; rfl) | (simp; done))) (by rfl))
end Go.Sh

set_option linter.unusedVariables false
set_option linter.unusedSimpArgs false
namespace Go.Sh
open Go.Proofs
/-! ### carcanetref11.paths -/
end Go.Sh

set_option linter.unusedVariables false
set_option linter.unusedSimpArgs false
namespace Go.Sh
open Go.Proofs
/-! ### carcanetref11.Edge, carcanetref11.Lift -/
end Go.Sh

set_option linter.unusedVariables false
set_option linter.unusedSimpArgs false
namespace Go.Sh
open Go.Proofs
/-! ### carcanetlaw11.small, ours -/
/-! ### carcanetref09.Same -/
/-! ### carcanetlaw11.shown -/
def E11 : List Ed := [(0, 1), (0, 3), (1, 2), (2, 3)]
def l11 : List Stp := [(0, 1, 3, true)]
theorem right11 : RightP 4 E11 := by unfold RightP E11 okE; decide
theorem repl11 : (replO 4 E11 l11).2 = true := by unfold replO; rw [if_pos right11]; decide
theorem exp_a : expF 4 E11 l11 3 1 = some [3, 0, 1] := (if_pos ⟨repl11, .inr (by decide)⟩ : _ = some (3 :: pth (addsL l11) 3 1 ++ [1])).trans (by decide)
theorem exp_b : expF 4 E11 l11 2 1 = some [2, 1] := (if_pos ⟨repl11, .inl (by unfold adjE; decide)⟩ : _ = some (2 :: pth (addsL l11) 2 1 ++ [1])).trans (by decide)
theorem exp_c : expF 4 E11 l11 1 3 = some [1, 0, 3] := (if_pos ⟨repl11, .inr (by decide)⟩ : _ = some (1 :: pth (addsL l11) 1 3 ++ [3])).trans (by decide)
theorem exp_n : expF 4 E11 [] 3 1 = none := if_neg fun h => h.2.elim (by unfold adjE; decide) (by decide)
theorem lift11 : liftV 4 E11 l11 7 [] [[2, 1, 3]] = .tup [sbV true 7 [] [[2, 1, 0, 3]], .one (.s (.b true))] := by
  have : liftO 4 E11 l11 [[2, 1, 3]] = some [[2, 1, 0, 3]] := by
    unfold liftO
    rw [if_pos repl11]
    simp [liftN, liftF, liftA, exp_b, exp_c]
  unfold liftV
  rw [this]
noncomputable def Shown11C : Con := conP 0 (fun _ : Unit => True) (fun _ => []) (fun _ => .one (.s (.b true)))
theorem Shown11C_at : Shown11C.F [] = some (.one (.s (.b true)), []) := conP_at (a := ()) (fun a b _ _ h => rfl) trivial
set_option maxHeartbeats 1000000 in
theorem Shown11_ok : SoundC Try.prog T 15 Shown11C := by
  refine sound_con (X := { Γ := [(17, EdgeC), (22, LiftC)], T := T, nt := 90 }) cr_none hmix hT (sound_cons Edge_ok (sound_cons Lift_ok sound_nil)) Try.func15 (by rfl) (by rfl) (by rfl) (by rfl) 0 ?_
  rintro ⟨⟩ -
  refine ⟨⟨Nat.le_of_ble_eq_true rfl, Nat.le_of_ble_eq_true rfl⟩, ?_⟩
  have h1 := EdgeC_at (n := 4) (E := E11) (l := l11) (a := 3) (b := 1) ⟨by decide, by unfold i64; omega, by unfold i64; omega⟩
  rw [exp_a] at h1
  refine Call.by _ _ h1 ?_
  have h2 := EdgeC_at (n := 4) (E := E11) (l := []) (a := 3) (b := 1) ⟨by decide, by unfold i64; omega, by unfold i64; omega⟩
  rw [exp_n] at h2
  refine Call.by _ _ h2 ?_
  have h3 := LiftC_at (n := 4) (E := E11) (l := l11) (k := 7) (Ts := []) (L := [[2, 1, 3]]) ⟨by decide, by decide, by unfold fewL; decide, fun p hp x hx => by
    simp only [List.mem_singleton] at hp
    subst hp
    simp only [List.mem_cons, List.not_mem_nil, or_false] at hx
    unfold i64
    omega⟩
  rw [lift11] at h3
  refine Call.by _ _ h3 ?_
  refine Idx.by 0 rfl (by decide) ?_
  refine Look.by [.i .i64 3] rfl ?_
  refine Idx.by 1 rfl (by decide) ?_
  refine Look.by [.i .i64 0] rfl ?_
  refine Idx.by 0 rfl (by decide) ?_
  refine Look.by (ints [2, 1, 0, 3]) rfl ?_
  refine Idx.by 0 rfl (by decide) ?_
  refine Look.by (ints [2, 1, 0, 3]) rfl ?_
  refine Idx.by 2 rfl (by decide) ?_
  refine Look.by (ints [2, 1, 0, 3]) rfl ?_
  refine Look.by [.i .i64 0] rfl ?_
  exact ⟨rfl, rfl⟩
end Go.Sh

set_option linter.unusedVariables false
set_option linter.unusedSimpArgs false
namespace Go.Sh
open Go.Proofs
/-! ### ExpandTells, ExpandLifts, ExpandWrong, ExpandOwn -/
/-! #### what is lifted -/
end Go.Sh

set_option linter.unusedVariables false
set_option linter.unusedSimpArgs false
namespace Go.Sh
open Go.Proofs
/-! ### ExpandApart -/
end Go.Sh

set_option linter.unusedVariables false
set_option linter.unusedSimpArgs false
namespace Go.Sh
open Go.Proofs
/-! ### graph.Degrees -/
end Go.Sh

set_option linter.unusedVariables false
set_option linter.unusedSimpArgs false
namespace Go.Sh
open Go.Proofs
/-! ### carcanetlaw10.ReduceCore -/
theorem leftF_length (G : List Bool) : (leftF G).length = live G := by
  unfold leftF live
  rw [List.length_map, ← List.countP_eq_length_filter]
  have e : G = (List.range G.length).map fun v => G.getD v false := by
    apply List.ext_getElem?
    intro i
    rw [List.getElem?_map]
    by_cases hi : i < G.length
    · rw [List.getElem?_range hi, Option.map_some, List.getD_eq_getElem?_getD, List.getElem?_eq_getElem hi]; rfl
    · rw [List.getElem?_eq_none (by omega), List.getElem?_eq_none (by simp; omega)]; rfl
  conv => rhs; rw [e]
  rw [List.countP_map]; rfl
/-- what is left at the end -/
structure Core (N : List (List Int)) (G : List Bool) : Prop where
  wf : Wf N G
  no : ∀ u, mayB N G u = false
theorem Core.three {N : List (List Int)} {G : List Bool} (h : Core N G) {v : Int} (h0 : 0 ≤ v) (h1 : v < N.length) (hg : goneAt G v = false) : 3 ≤ (rowAt N v).length := by
  have := h.no v
  by_cases hl : (rowAt N v).length ≤ 2
  · rw [mayB_iff.2 ⟨h0, h1, hg, hl⟩] at this; cases this
  · omega
theorem core_run {n : Int} {E : List Ed} (hR : RightP n E) : Core (runR n E).2.1 (runR n E).2.2 ∧ (runR n E).2.1.length = n.toNat ∧ (runR n E).1.length + (leftF (runR n E).2.2).length = n.toNat := by
  have hW := begin_wf hR
  have hl : live (List.replicate n.toNat false) ≤ n.toNat := by rw [live_zero]; omega
  obtain ⟨h1, h2, h3⟩ := runS_wf n.toNat hW
  have hc := run_count (f := n.toNat) hW
  rw [live_zero] at hc
  exact ⟨⟨h1, run_end hW hl⟩, by rw [show (runR n E).2.1.length = _ from h2, nbrs_length], by rw [leftF_length]; exact hc⟩
end Go.Sh

set_option linter.unusedVariables false
set_option linter.unusedSimpArgs false
namespace Go.Sh
open Go.Proofs
/-! ### carcanetlaw09.shown -/
instance (E : List Ed) (a b : Int) : Decidable (adjE E a b) := by unfold adjE; exact inferInstance
end Go.Sh

set_option linter.unusedVariables false
set_option linter.unusedSimpArgs false
namespace Go.Sh
open Go.Proofs
/-! ### the edges of what is read are the graph's -/
theorem edN_eq {a b c d : Int} (h : edN (a, b) = edN (c, d)) : (a = c ∧ b = d) ∨ (a = d ∧ b = c) := by
  unfold edN mnI mxI at h
  dsimp only at h
  injection h with h1 h2
  split at h1 <;> split at h1 <;> split at h2 <;> split at h2 <;> omega
theorem mem_segsR {p : List Int} {x : Ed} : x ∈ segsR p ↔ ∃ i, i + 1 < p.length ∧ x = edN (p.getD i 0, p.getD (i + 1) 0) := by
  unfold segsR
  rw [List.mem_map]
  constructor
  · rintro ⟨i, hi, rfl⟩
    rw [List.mem_range] at hi
    exact ⟨i, by omega, rfl⟩
  · rintro ⟨i, hi, rfl⟩
    exact ⟨i, by rw [List.mem_range]; omega, rfl⟩
theorem getD_inj {p : List Int} (hn : p.Nodup) {i j : Nat} (hi : i < p.length) (hj : j < p.length) (h : p.getD i 0 = p.getD j 0) : i = j := by
  rw [getD_at hi, getD_at hj] at h
  exact (List.getElem_inj hn).1 h
theorem segsR_nodup {p : List Int} (hn : p.Nodup) : (segsR p).Nodup := by
  unfold segsR
  rw [List.nodup_iff_pairwise_ne, List.pairwise_map]
  refine List.Pairwise.imp_of_mem ?_ (List.nodup_iff_pairwise_ne.1 List.nodup_range)
  intro i j hi hj hne e
  rw [List.mem_range] at hi hj
  rcases edN_eq e with ⟨h, _⟩ | ⟨h1, h2⟩
  · exact hne (getD_inj hn (by omega) (by omega) h)
  · have := getD_inj hn (by omega) (by omega) h1
    have := getD_inj hn (by omega) (by omega) h2
    omega
theorem seg_two {n : Int} {E : List Ed} {k : Int} {Ts : List Int} {L : List (List Int)} (h : SubP n E k Ts L) {i j : Nat} {p q : List Int} (hp : L[i]? = some p) (hq : L[j]? = some q) (hij : i ≠ j) {x : Ed} (hx : x ∈ segsR p) (hy : x ∈ segsR q) : p.length = 2 := by
  obtain ⟨a, ha, rfl⟩ := mem_segsR.1 hx
  obtain ⟨b, hb, e⟩ := mem_segsR.1 hy
  have hu : p.getD a 0 ∈ q ∧ p.getD (a + 1) 0 ∈ q := by
    rcases edN_eq e with ⟨h1, h2⟩ | ⟨h1, h2⟩
    · rw [h1, h2]; exact ⟨getD_mem (by omega), getD_mem hb⟩
    · rw [h1, h2]; exact ⟨getD_mem hb, getD_mem (by omega)⟩
  refine Decidable.byContradiction fun hne => ?_
  have hno : ∀ v, v ∈ innerL p → v ∈ q → False := fun v hv hvq => by
    have hvp : v ∈ p := by obtain ⟨z, hz, rfl⟩ := mem_inner.1 hv; exact List.getElem_mem _
    have := cnt_at hp hq hij hvp hvq
    have := h.2.2 p (List.mem_of_getElem? hp) v hv
    omega
  cases a with
  | zero =>
    refine hno _ (mem_inner.2 ⟨0, by omega, ?_⟩) hu.2
    rw [getD_at (by omega)]
  | succ a =>
    refine hno _ (mem_inner.2 ⟨a, by omega, ?_⟩) hu.1
    rw [getD_at (by omega)]
theorem prs_inj : ∀ i, i < 6 → ∀ j, j < 6 → (((prsT 1).getD i (0, 0)).1 = ((prsT 1).getD j (0, 0)).1 ∧ ((prsT 1).getD i (0, 0)).2 = ((prsT 1).getD j (0, 0)).2 → i = j) ∧ ¬ (((prsT 1).getD i (0, 0)).1 = ((prsT 1).getD j (0, 0)).2 ∧ ((prsT 1).getD i (0, 0)).2 = ((prsT 1).getD j (0, 0)).1) := by decide
theorem prs_lt : ∀ i, i < 6 → (0 ≤ ((prsT 1).getD i (0, 0)).1 ∧ ((prsT 1).getD i (0, 0)).1 < 4) ∧ 0 ≤ ((prsT 1).getD i (0, 0)).2 ∧ ((prsT 1).getD i (0, 0)).2 < 4 := by decide
theorem segs_apart {n : Int} {E : List Ed} {k : Int} {Ts : List Int} {L : List (List Int)} (h : SubP n E k Ts L) {i j : Nat} {p q : List Int} (hp : L[i]? = some p) (hq : L[j]? = some q) (hij : i ≠ j) {x : Ed} (hx : x ∈ segsR p) (hy : x ∈ segsR q) : False := by
  have hp2 := seg_two h hp hq hij hx hy
  have hq2 := seg_two h hq hp (Ne.symm hij) hy hx
  obtain ⟨P1, hd1, ls1, z1⟩ := h.2.1 i p hp
  obtain ⟨P2, hd2, ls2, z2⟩ := h.2.1 j q hq
  have hnd := sub_tops h
  rcases h.1 with ⟨rfl, hT, hL⟩ | ⟨rfl, hT, hL⟩
  · have hi : i < 6 := by rw [← hL]; exact (List.getElem?_eq_some_iff.1 hp).1
    have hj : j < 6 := by rw [← hL]; exact (List.getElem?_eq_some_iff.1 hq).1
    obtain ⟨a, ha, rfl⟩ := mem_segsR.1 hx
    obtain ⟨b, hb, e⟩ := mem_segsR.1 hy
    obtain rfl : a = 0 := by omega
    obtain rfl : b = 0 := by omega
    rw [headD_at (by omega)] at hd1 hd2
    rw [lastD_at, hp2] at ls1
    rw [lastD_at, hq2] at ls2
    have hd1' := hd1; have ls1' := ls1
    rw [hd1, ls1, hd2, ls2] at e
    have l1 := prs_lt i hi
    have l2 := prs_lt j hj
    obtain ⟨q1, q2⟩ := prs_inj i hi j hj
    rcases edN_eq e with ⟨e1, e2⟩ | ⟨e1, e2⟩
    · have := getD_inj hnd (by omega) (by omega) e1
      have := getD_inj hnd (by omega) (by omega) e2
      exact hij (q1 ⟨by omega, by omega⟩)
    · have := getD_inj hnd (by omega) (by omega) e1
      have := getD_inj hnd (by omega) (by omega) e2
      exact q2 ⟨by omega, by omega⟩
  · omega
theorem segs_nodup {n : Int} {E : List Ed} {k : Int} {Ts : List Int} {L : List (List Int)} (h : SubP n E k Ts L) : (segs L).Nodup := by
  unfold segs
  rw [List.nodup_iff_pairwise_ne, List.pairwise_flatMap]
  refine ⟨fun p hp => ?_, ?_⟩
  · obtain ⟨i, hi, rfl⟩ := List.mem_iff_getElem.1 hp
    exact List.nodup_iff_pairwise_ne.1 (segsR_nodup (h.2.1 i _ (List.getElem?_eq_getElem hi)).1.2.2.2.1)
  · rw [List.pairwise_iff_getElem]
    intro i j hi hj hij x hx y hy e
    subst e
    exact segs_apart h (List.getElem?_eq_getElem hi) (List.getElem?_eq_getElem hj) (by omega) hx hy
theorem adj_edN {n : Int} {E : List Ed} (hR : RightP n E) {a b : Int} (h : adjE E a b) : edN (a, b) ∈ E := by
  have hok : ∀ p ∈ E, p.1 < p.2 := fun p hp => (hR.2.2.2.1 p hp).2.1
  unfold edN mnI mxI
  dsimp only
  rcases h with h | h
  · have := hok _ h
    dsimp only at this
    rw [if_neg (by omega), if_pos (by omega)]
    exact h
  · have := hok _ h
    dsimp only at this
    rw [if_pos (by omega), if_neg (by omega)]
    exact h
theorem segs_sub {n : Int} {E : List Ed} {k : Int} {Ts : List Int} {L : List (List Int)} (h : SubP n E k Ts L) : ∀ x ∈ segs L, x ∈ E := fun x hx => by
  obtain ⟨p, hp, hxp⟩ := List.mem_flatMap.1 hx
  obtain ⟨i, hi, rfl⟩ := List.mem_iff_getElem.1 hp
  obtain ⟨hP, _⟩ := h.2.1 i _ (List.getElem?_eq_getElem hi)
  obtain ⟨a, ha, rfl⟩ := mem_segsR.1 hxp
  exact adj_edN hP.1 (hP.2.2.2.2 a ha)
theorem nodup_same {α : Type} [DecidableEq α] {l m : List α} (hl : l.Nodup) (hm : m.Nodup) (hs : ∀ x ∈ l, x ∈ m) (he : l.length = m.length) : ∀ x ∈ m, x ∈ l := fun x hx => by
  refine Decidable.byContradiction fun hno => ?_
  have h1 : (x :: l).Nodup := List.nodup_cons.2 ⟨hno, hl⟩
  have := nodup_lenG h1 (m := m) (fun y hy => by rcases List.mem_cons.1 hy with rfl | hy; exact hx; exact hs y hy)
  simp at this
  omega
theorem segs_len (L : List (List Int)) : (segs L).length = usedT L := by
  unfold segs usedT
  rw [List.length_flatMap]
  congr 1
  exact List.map_congr_left fun p _ => segsR_length p
theorem used_perm {L M : List (List Int)} (h : L.Perm M) : usedT L = usedT M := by
  unfold usedT
  induction h with
  | nil => rfl
  | cons x _ ih => simp only [List.map_cons, List.sum_cons, ih]
  | swap x y l => simp only [List.map_cons, List.sum_cons]; omega
  | trans _ _ h1 h2 => exact h1.trans h2
theorem ltE_nodup {E : List Ed} (h : E.Pairwise ltE) : E.Nodup := List.nodup_iff_pairwise_ne.2 (h.imp fun h => ltE_ne h)
theorem read_edges {n : Int} {E : List Ed} (h : ReadP n E) : insAll (segs (sortL cmpT (pathsT n E (topsK E n.toNat)))) = E := by
  obtain ⟨hR, _, _, hu, hs⟩ := h
  have hlen : (segs (sortL cmpT (pathsT n E (topsK E n.toNat)))).length = E.length := by rw [segs_len, used_perm (sortL_perm _ _), hu]
  have hE := ltE_nodup hR.2.2.2.2
  have hsub := segs_sub hs
  refine (insAll_of hR.2.2.2.2 fun x => ⟨fun hx => ?_, fun hx => hsub x hx⟩).symm
  exact nodup_same (segs_nodup hs) hE hsub hlen x hx
end Go.Sh

set_option linter.unusedVariables false
set_option linter.unusedSimpArgs false
namespace Go.Sh
open Go.Proofs
/-! ### a subdivision that has all edges is the one that is read -/
theorem len_of_mem {l m : List Int} (hl : l.Nodup) (hm : m.Nodup) (h : ∀ x, x ∈ l ↔ x ∈ m) : l.length = m.length :=
  Nat.le_antisymm (nodup_len hl fun x hx => (h x).1 hx) (nodup_len hm fun x hx => (h x).2 hx)
section
variable {n : Int} {E : List Ed} {k : Int} {T : List Int} {L : List (List Int)}
theorem adj_paths (hR : RightP n E) (hE : ∀ x ∈ E, x ∈ segs L) {v w : Int} (ha : adjE E v w) : ∃ (i : Nat) (p : List Int) (s : Nat), L[i]? = some p ∧ s + 1 < p.length ∧ ((p.getD s 0 = v ∧ p.getD (s + 1) 0 = w) ∨ (p.getD s 0 = w ∧ p.getD (s + 1) 0 = v)) := by
  obtain ⟨p, hp, hx⟩ := List.mem_flatMap.1 (hE _ (adj_edN hR ha))
  obtain ⟨s, hs, he⟩ := mem_segsR.1 hx
  obtain ⟨i, hi, rfl⟩ := List.mem_iff_getElem.1 hp
  refine ⟨i, _, s, List.getElem?_eq_getElem hi, hs, ?_⟩
  rcases edN_eq he with ⟨h1, h2⟩ | ⟨h1, h2⟩
  · exact .inl ⟨h1.symm, h2.symm⟩
  · exact .inr ⟨h2.symm, h1.symm⟩
theorem inner_idx {p : List Int} {s : Nat} (hs : s + 2 < p.length) : p.getD (s + 1) 0 ∈ innerL p := mem_inner.2 ⟨s, hs, getD_at (by omega)⟩
theorem inner_near (hR : RightP n E) (h : SubP n E k T L) (hE : ∀ x ∈ E, x ∈ segs L) {i s : Nat} {p : List Int} (hp : L[i]? = some p) (hs : s + 2 < p.length) : ∀ w, w ∈ nearL E (p.getD (s + 1) 0) ↔ w ∈ [p.getD s 0, p.getD (s + 2) 0] := by
  intro w
  obtain ⟨hP, _⟩ := h.2.1 i p hp
  rw [mem_nearL]
  simp only [List.mem_cons, List.not_mem_nil, or_false]
  constructor
  · intro ha
    obtain ⟨j, q, t, hq, ht, hc⟩ := adj_paths hR hE ha
    have hin := inner_idx hs
    have hc1 := h.2.2 p (List.mem_of_getElem? hp) _ hin
    have hvp : p.getD (s + 1) 0 ∈ p := getD_mem (by omega)
    have hvq : p.getD (s + 1) 0 ∈ q := by
      rcases hc with ⟨e, _⟩ | ⟨_, e⟩ <;> rw [← e] <;> exact getD_mem (by omega)
    have hij : i = j := Decidable.byContradiction fun hij => by
      have := cnt_at hp hq hij hvp hvq
      omega
    subst hij
    rw [hp] at hq
    injection hq with hq
    subst hq
    rcases hc with ⟨e1, e2⟩ | ⟨e1, e2⟩
    · have := getD_inj hP.2.2.2.1 (by omega) (by omega) e1
      subst this
      exact .inr e2.symm
    · have := getD_inj hP.2.2.2.1 (by omega) (by omega) e2
      have : t = s := by omega
      subst this
      exact .inl e1.symm
  · rintro (rfl | rfl)
    · exact adj_sym (hP.2.2.2.2 s (by omega))
    · exact hP.2.2.2.2 (s + 1) (by omega)
theorem inner_deg (hR : RightP n E) (h : SubP n E k T L) (hE : ∀ x ∈ E, x ∈ segs L) {i s : Nat} {p : List Int} (hp : L[i]? = some p) (hs : s + 2 < p.length) : (nearL E (p.getD (s + 1) 0)).length = 2 := by
  have := len_of_mem (near_nodup hR _) (m := [p.getD s 0, p.getD (s + 2) 0]) (by
    simp only [List.nodup_cons, List.mem_singleton, List.not_mem_nil, not_false_eq_true, List.nodup_nil, and_true]
    intro e
    have := getD_inj (h.2.1 i p hp).1.2.2.2.1 (by omega) (by omega) e
    omega) (inner_near hR h hE hp hs)
  exact this
end
end Go.Sh

set_option linter.unusedVariables false
set_option linter.unusedSimpArgs false
namespace Go.Sh
open Go.Proofs
/-! ### ExpandTopo, ExpandRead -/
theorem sub_few {n : Int} {E : List Ed} {k : Int} {T : List Int} {L : List (List Int)} (hn : n ≤ 64) (h : SubP n E k T L) : fewL L ∧ smallNums L ∧ T.length ≤ 4 := by
  have hl : L.length ≤ 6 ∧ T.length ≤ 4 := by rcases h.1 with ⟨_, h1, h2⟩ | ⟨_, h1, h2⟩ <;> omega
  refine ⟨⟨by omega, fun p hp => ?_⟩, fun p hp x hx => ?_, hl.2⟩
  · obtain ⟨i, hi, rfl⟩ := List.mem_iff_getElem.1 hp
    have hP := (h.2.1 i _ (List.getElem?_eq_getElem hi)).1
    have := range_len hP.2.2.2.1 (path_in hP)
    omega
  · obtain ⟨i, hi, rfl⟩ := List.mem_iff_getElem.1 hp
    have hP := (h.2.1 i _ (List.getElem?_eq_getElem hi)).1
    have := path_in hP x hx
    unfold i64
    omega
theorem sub_steps {n : Int} {E : List Ed} {k : Int} {T : List Int} {L : List (List Int)} (h : SubP n E k T L) : ∀ p ∈ L, stepsE E p := fun p hp => by
  obtain ⟨i, hi, rfl⟩ := List.mem_iff_getElem.1 hp
  exact (h.2.1 i _ (List.getElem?_eq_getElem hi)).1.2.2.2.2
theorem liftV_left {n : Int} {E : List Ed} {l : List Stp} {N : List (List Int)} {G : List Bool} (hl : (replO n E l).2 = true) (h : ExpI E N G (addsL l)) {k : Int} {T : List Int} {L : List (List Int)} (hS : SubP n (edgesF N G) k T L) : liftV n E l k T L = .tup [sbV true k T (L.map (bigP (addsL l))), .one (.s (.b true))] := by
  unfold liftV
  rw [lift_left hl h (sub_steps hS)]
/-- in what is left no inner one can be: kind 1 -/
theorem read_core {n : Int} {N : List (List Int)} {G : List Bool} (hC : Core N G) (hN : N.length = n.toNat) (h0 : 0 ≤ n) (hn : n ≤ 63) {k : Int} {T : List Int} {L : List (List Int)} (hR : RightP n (edgesF N G)) (hS : SubP n (edgesF N G) k T L) (hE : ∀ x ∈ edgesF N G, x ∈ segs L) : k = 1 := by
  rcases hS.1 with ⟨h1, _⟩ | ⟨h2, _, hl⟩
  · exact h1
  exfalso
  have hp := List.getElem?_eq_getElem (show 0 < L.length by omega)
  obtain ⟨hP, _, _, h3⟩ := hS.2.1 0 _ hp
  have hd := inner_deg hR hS hE hp (s := 0) (by omega)
  have hv := path_in hP _ (getD_mem (show 0 + 1 < (L[0]).length by omega))
  rw [back_near hC.wf (by omega) hv.1] at hd
  have := hC.three hv.1 (by omega) (by
    cases hg : goneAt G ((L[0]).getD (0 + 1) 0) with
    | false => rfl
    | true => rw [hC.wf.gone _ hv.1 hg] at hd; simp at hd)
  omega
noncomputable def XReadF := conF (fun _ : Int × List Ed => True) (fun a => [grV a.1 a.2]) (fun _ => .one (.s (.b true)))
set_option maxHeartbeats 2000000 in
theorem XRead_ok : SoundP Try.prog 14 XReadF := by
  refine con_pure (X := { Γ := [(15, Shown11C), (16, OfC), (26, RunC), (35, ReadC), (31, SubC), (22, LiftC)], T := T, nt := 49 }) cr_none hmix hT (sound_cons Shown11_ok (sound_cons Of_ok (sound_cons Run_ok (sound_cons Read_ok (sound_cons Sub_ok (sound_cons Lift_ok sound_nil)))))) Try.func14 (by rfl) (by rfl) (by rfl) 2 ?_
  rintro ⟨n, E⟩ -
  dsimp only
  refine ⟨⟨Nat.le_of_ble_eq_true rfl, Nat.le_of_ble_eq_true rfl⟩, ?_⟩
  refine Call.by _ _ Shown11C_at ?_
  refine Call.by _ _ (OfC_at n E (most := 30) (by omega)) ?_
  have hR := any_right (n := n) (l := E) (most := 30) (by omega) (by omega)
  have hr := anyN_range (n := n) (most := 30) (by omega)
  obtain ⟨m, hm⟩ : ∃ m, anyN n 30 = m := ⟨_, rfl⟩
  obtain ⟨F, hF⟩ : ∃ F, anyE n E 30 = F := ⟨_, rfl⟩
  rw [hm] at hr
  rw [hm, hF] at hR ⊢
  have hF3 := hR.2.2.1
  obtain ⟨h1, h2, h3⟩ := runO_len m F
  refine Call.by _ _ (RunC_at m F) ?_
  have hrep := run_again hR
  have hok : (replO m F (runO m F).1).2 = true := by rw [hrep]
  obtain ⟨_, N, G, hN, hX, hK, hlog⟩ := log_of hok
  rw [hrep] at hlog
  have hM2 : (runO m F).2.2 = edgesF N G := congrArg Prod.snd hlog
  obtain ⟨hC, hCl, _⟩ := core_run hR
  have hrun : (runO m F).2.2 = edgesF (runR m F).2.1 (runR m F).2.2 := by
    have : runO m F = ((runR m F).1, leftF (runR m F).2.2, edgesF (runR m F).2.1 (runR m F).2.2) := if_pos hR
    rw [this]
  have hr2 := ReadC_at (n := m) (E := (runO m F).2.2) (by omega)
  by_cases hP : ReadP m (runO m F).2.2
  · have hv := readF_yes hP
    have hS := hP.2.2.2.2
    have hE : ∀ x ∈ (runO m F).2.2, x ∈ segs (sortL cmpT (pathsT m (runO m F).2.2 (topsK (runO m F).2.2 m.toNat))) := fun x hx => by
      have := read_edges hP
      rw [← this] at hx
      exact mem_insAll.1 hx
    have hk : kindT (topsK (runO m F).2.2 m.toNat) = 1 := by
      have hR3 := hP.1
      have hS3 := hS
      have hE3 := hE
      generalize kindT (topsK (runO m F).2.2 m.toNat) = kk at hS3
      generalize topsK (runO m F).2.2 m.toNat = tt at hS3 hE3
      generalize sortL cmpT (pathsT m (runO m F).2.2 tt) = ll at hS3 hE3
      rw [hrun] at hR3 hS3 hE3
      exact read_core hC hCl (by omega) (by omega) hR3 hS3 hE3
    obtain ⟨Ts, hTs⟩ : ∃ Ts, topsK (runO m F).2.2 m.toNat = Ts := ⟨_, rfl⟩
    rw [hTs] at hv hS hk
    obtain ⟨K, hKe⟩ : ∃ K, sortL cmpT (pathsT m (runO m F).2.2 Ts) = K := ⟨_, rfl⟩
    rw [hKe, hk] at hv hS
    rw [hv] at hr2
    refine Call.by _ _ hr2 ?_
    have hS2 := hS
    rw [hM2] at hS2
    obtain ⟨hfK, hnK, hTl⟩ := sub_few (by omega) hS2
    have hB := big_sub hR hN hX hK hS2
    have hLf := LiftC_at (n := m) (E := F) (l := (runO m F).1) (k := 1) (Ts := Ts) (L := K) ⟨by omega, by omega, hfK, hnK⟩
    rw [liftV_left hok hX hS2] at hLf
    refine Call.by _ _ hLf ?_
    obtain ⟨hfB, _, _⟩ := sub_few (by omega) hB
    have hC2 := SubC_at (n := m) (E := F) (k := 1) (Ts := Ts) hfB
    rw [subB_iff.2 hB] at hC2
    refine Call.by _ _ hC2 ?_
    exact ⟨rfl, rfl⟩
  · rw [readF_no hP] at hr2
    refine Call.by _ _ hr2 ?_
    exact ⟨rfl, rfl⟩
end Go.Sh

set_option linter.unusedVariables false
set_option linter.unusedSimpArgs false
namespace Go.Sh
open Go.Proofs
/-! ### what is handed in, as data -/
theorem VTy.struct {T : Tab} {t : Nat} {ti : TI} {fs : List (Nat × Nat)} {v : V} (ht : lk T t = some ti) (hk : ti.kind = .struct fs) (h : VTy T t v) : ∃ cs, v = .agg cs ∧ All2 (fun (f : Nat × Nat) c => CTy T f.2 c) fs cs := by
  unfold VTy at h
  rw [ht] at h
  simp only at h
  rw [hk] at h
  exact h
theorem VTy.cell {T : Tab} {t : Nat} {ti : TI} {v : V} (ht : lk T t = some ti) (hk : ∀ fs, ti.kind ≠ .struct fs ∧ ∀ n e, ti.kind ≠ .array n e) (h : VTy T t v) : ∃ c, v = .one c ∧ CTy T t c := by
  unfold VTy at h
  rw [ht] at h
  simp only at h
  cases hq : ti.kind with
  | struct fs => exact absurd hq (hk fs).1
  | array n e => exact absurd hq ((hk []).2 n e)
  | _ => rw [hq] at h; exact h
theorem VTy.array {T : Tab} {t : Nat} {ti : TI} {n e : Nat} {v : V} (ht : lk T t = some ti) (hk : ti.kind = .array n e) (h : VTy T t v) : ∃ cs, v = .agg cs ∧ cs.length = n ∧ ∀ c ∈ cs, CTy T e c := by
  unfold VTy at h
  rw [ht] at h
  simp only at h
  rw [hk] at h
  exact h
theorem ScTy.int {T : Tab} {t : Nat} {ti : TI} {k : IntKind} {x : Sc} (ht : lk T t = some ti) (hk : ti.kind = .int k) (h : ScTy T t x) : ∃ n, x = .i k n ∧ (Lit.int k n).wf = true := by
  unfold ScTy at h
  rw [ht] at h
  simp only at h
  rw [hk] at h
  cases x with
  | i k' n => obtain ⟨rfl, h⟩ := h; exact ⟨n, rfl, h⟩
  | b _ => exact h.elim
theorem CTy.sc {T : Tab} {t : Nat} {c : C} (hs : sliceE T t = none) (h : CTy T t c) : ∃ x, c = .s x ∧ ScTy T t x := by
  unfold CTy at h
  rw [hs] at h
  exact h
theorem CTy.flat {T : Tab} {t e : Nat} {c : C} (hs : sliceE T t = some e) (hs2 : sliceE T e = none) (h : CTy T t c) : ∃ rows, c = .flat false (sizeT T e) rows ∧ FlatTy T e rows := by
  unfold CTy at h
  rw [hs] at h
  simp only at h
  rw [hs2] at h
  exact h
theorem CTy.nest {T : Tab} {t e e2 : Nat} {c : C} (hs : sliceE T t = some e) (hs2 : sliceE T e = some e2) (h : CTy T t c) : ∃ rows, c = .nest false (sizeT T e2) rows ∧ rows.length ≤ maxLen ∧ ∀ fl ∈ rows, FlatTy T e2 fl := by
  unfold CTy at h
  rw [hs] at h
  simp only at h
  rw [hs2] at h
  exact h
theorem i64_wf {n : Int} (h : (Lit.int .i64 n).wf = true) : i64 n := by
  simp [Lit.wf, IntKind.min, IntKind.max, IntKind.signed, IntKind.bits] at h
  exact h
theorem list_ex {α β : Type} {P : α → β → Prop} : ∀ {l : List α}, (∀ x ∈ l, ∃ y, P x y) → ∃ m : List β, All2 P l m := by
  intro l
  induction l with
  | nil => intro _; exact ⟨[], All2.nil⟩
  | cons x l ih =>
    intro h
    obtain ⟨y, hy⟩ := h x (by simp)
    obtain ⟨m, hm⟩ := ih fun x hx => h x (by simp [hx])
    exact ⟨y :: m, All2.cons' hy hm⟩
theorem All2.map_eq {α β : Type} {f : β → α} {l : List α} {m : List β} (h : All2 (fun x y => x = f y) l m) : l = m.map f := by
  apply List.ext_getElem?
  intro i
  rw [List.getElem?_map]
  by_cases hi : i < l.length
  · have him : i < m.length := by rw [← h.1]; exact hi
    rw [List.getElem?_eq_getElem hi, List.getElem?_eq_getElem him, Option.map_some, h.2 i _ _ (List.getElem?_eq_getElem hi) (List.getElem?_eq_getElem him)]
  · rw [List.getElem?_eq_none (by omega), List.getElem?_eq_none (by rw [← h.1]; omega)]; rfl
theorem All2.mem {α β : Type} {R : α → β → Prop} {l : List α} {m : List β} (h : All2 R l m) {y : β} (hy : y ∈ m) : ∃ x ∈ l, R x y := by
  obtain ⟨i, hi⟩ := List.mem_iff_getElem?.1 hy
  have hl := (List.getElem?_eq_some_iff.1 hi).1
  rw [← h.1] at hl
  exact ⟨_, List.getElem_mem hl, h.2 i _ y (List.getElem?_eq_getElem hl) hi⟩
/-! #### at this program's types -/
theorem row_int {row : Row} (h : RowTy T 3 row) : ∃ n, row = [.i .i64 n] ∧ i64 n := by
  obtain ⟨x, rfl, hx⟩ := h
  obtain ⟨n, rfl, hw⟩ := ScTy.int (t := 3) rfl rfl hx
  exact ⟨n, rfl, i64_wf hw⟩
theorem ints_of {fl : Flat} (h : FlatTy T 3 fl) : ∃ l : List Int, fl = ints l ∧ l.length ≤ maxLen ∧ ∀ x ∈ l, i64 x := by
  obtain ⟨m, hm⟩ := list_ex (P := fun row n => row = [Sc.i .i64 n] ∧ i64 n) fun row hr => row_int (h.2 row hr)
  refine ⟨m, All2.map_eq (f := fun n => [Sc.i .i64 n]) (hm.imp fun _ _ _ k => k.1), by rw [← hm.1]; exact h.1, fun x hx => ?_⟩
  obtain ⟨_, _, k⟩ := hm.mem hx
  exact k.2
theorem All2.two {α β : Type} {R : α → β → Prop} {a b : α} {m : List β} (h : All2 R [a, b] m) : ∃ x y, m = [x, y] ∧ R a x ∧ R b y := by
  obtain ⟨h1, h2⟩ := h
  match m, h1, h2 with
  | [x, y], _, h2 => exact ⟨x, y, rfl, h2 0 a x rfl rfl, h2 1 b y rfl rfl⟩
theorem All2.one {α β : Type} {R : α → β → Prop} {a : α} {m : List β} (h : All2 R [a] m) : ∃ x, m = [x] ∧ R a x := by
  obtain ⟨h1, h2⟩ := h
  match m, h1, h2 with
  | [x], _, h2 => exact ⟨x, rfl, h2 0 a x rfl rfl⟩
theorem All2.three {α β : Type} {R : α → β → Prop} {a b c : α} {m : List β} (h : All2 R [a, b, c] m) : ∃ x y z, m = [x, y, z] ∧ R a x ∧ R b y ∧ R c z := by
  obtain ⟨h1, h2⟩ := h
  match m, h1, h2 with
  | [x, y, z], _, h2 => exact ⟨x, y, z, rfl, h2 0 a x rfl rfl, h2 1 b y rfl rfl, h2 2 c z rfl rfl⟩
theorem row_edge {row : Row} (h : RowTy T 59 row) : ∃ p : Ed, row = [.i .i64 p.1, .i .i64 p.2] ∧ i64 p.1 ∧ i64 p.2 := by
  obtain ⟨_, h⟩ := h
  obtain ⟨x, y, rfl, hx, hy⟩ := All2.two h
  obtain ⟨n, rfl, hn⟩ := ScTy.int (t := 3) rfl rfl hx
  obtain ⟨m, rfl, hm⟩ := ScTy.int (t := 3) rfl rfl hy
  exact ⟨(n, m), rfl, i64_wf hn, i64_wf hm⟩
theorem edges_of {fl : Flat} (h : FlatTy T 59 fl) : ∃ E : List Ed, fl = edges E ∧ E.length ≤ maxLen ∧ ∀ p ∈ E, i64 p.1 ∧ i64 p.2 := by
  obtain ⟨m, hm⟩ := list_ex (P := fun row (p : Ed) => row = [Sc.i .i64 p.1, Sc.i .i64 p.2] ∧ i64 p.1 ∧ i64 p.2) fun row hr => row_edge (h.2 row hr)
  refine ⟨m, All2.map_eq (f := fun p : Ed => [Sc.i .i64 p.1, Sc.i .i64 p.2]) (hm.imp fun _ _ _ k => k.1), by rw [← hm.1]; exact h.1, fun x hx => ?_⟩
  obtain ⟨_, _, k⟩ := hm.mem hx
  exact k.2
theorem net_of {v : V} (h : VTy T 24 v) : ∃ n E, v = grV n E ∧ i64 n ∧ ∀ p ∈ E, i64 p.1 ∧ i64 p.2 := by
  obtain ⟨cs, rfl, hcs⟩ := VTy.struct (t := 24) rfl rfl h
  obtain ⟨x, y, rfl, hx, hy⟩ := All2.two hcs
  obtain ⟨z, rfl, hz⟩ := CTy.sc (t := 3) rfl hx
  obtain ⟨n, rfl, hw⟩ := ScTy.int (t := 3) rfl rfl hz
  obtain ⟨rows, rfl, hr⟩ := CTy.flat (t := 22) (e := 59) rfl rfl hy
  obtain ⟨E, rfl, _, hE⟩ := edges_of hr
  exact ⟨n, E, rfl, i64_wf hw, hE⟩
end Go.Sh

set_option linter.unusedVariables false
namespace Go.Sh
open Go.Proofs
theorem own : ownKnob Try.prog.godebug = none := by kernel_rfl
theorem laidOut : laidOutB Try.prog = true := by kernel_rfl
set_option maxRecDepth 100000 in
/-- A law whose function answers true, whatever comes. -/
theorem law_row {s : ChangeSpec} {f : FuncId} {fn : Func} {conds : List PathCond} {apart fresh handsOn : Bool} {ts : List TypeId} {F : List V → Option (V × List V)} (hf : Try.prog.funcs[f]? = some fn) (hin : Try.prog.inits.idxOf? f = none) (hv : s.vars = [])
    (hts : fn.params.toList = ts) (ha : ts.all (argB T) = true) (hr : ts.all (fun t => Try.prog.readableRec t && Nat.blt t Try.prog.types.size) = true) (hres : fn.resultTypes = #[4])
    (hsp : ∀ (H : Type) (ds : List (DataW H)), ds.length = ts.length → (s.fn H ds).results = [.lit (.bool true)] ∧ (s.fn H ds).args = ds ∧ (s.fn H ds).vars = [])
    (hS : SoundP Try.prog f F) (hF : LawV T ts F) (os : Os) (started : os.Started) (H : Type) (enc : TypeId × Value → H) (a : Assume)
    (hw : ∃ (w : World) (tape : Tape) (i : Input), w.os = os ∧ (w.forCall tape i).Shaped Try.checked.prog ∧ i.vars = [] ∧ Input.okWide Try.checked.prog (w.forCall tape i) .any w.heap.size f i ∧
      s.pre6 enc Try.checked.prog fn conds apart (w.forCall tape i).memory i.args ∧ a.holds Try.checked.prog (lone (Frame.enter Try.checked.prog f i.args .normal) [] (w.forCall tape i))) :
    ReturnsInHanded a Try.checked os f .any (s.pre6 enc Try.checked.prog fn conds apart) (s.post enc Try.checked.prog fn apart fresh handsOn false) := by
  refine returnsInHanded_of_change (C := Try.checked) own started hin hf hw ?_
  intro W base args ds gs before hval hW _ _
  refine law_contract (P := Try.prog) (conds := conds) hT laidOut hv hts ha (fun t ht => ?_) hres Try.underlying4 (hsp H) hS hF hval hW
  have := List.all_eq_true.1 hr t ht
  simp only [Bool.and_eq_true] at this
  exact ⟨this.1, Nat.le_of_ble_eq_true this.2⟩
end Go.Sh

set_option linter.unusedVariables false
namespace Go.Sh
open Go.Proofs
/-! ### more of what is handed in, as data -/
theorem ScTy.bool {T : Tab} {t : Nat} {ti : TI} {x : Sc} (ht : lk T t = some ti) (hk : ti.kind = .bool) (h : ScTy T t x) : ∃ b, x = .b b := by
  unfold ScTy at h
  rw [ht] at h
  simp only at h
  rw [hk] at h
  cases x with
  | i k' n => exact h.elim
  | b b => exact ⟨b, rfl⟩
end Go.Sh

set_option linter.unusedVariables false
set_option linter.unusedSimpArgs false
namespace Go.Sh
open Go.Proofs
/-! ### slices.Index, slices.Contains -/
/-! ### bags.rising -/
end Go.Sh

set_option linter.unusedVariables false
set_option linter.unusedSimpArgs false
namespace Go.Sh
open Go.Proofs
/-! ### bags: what they are -/
end Go.Sh

set_option linter.unusedVariables false
namespace Go.Sh
open Go.Proofs
/-! ### more of what is handed in, as data: bags -/
end Go.Sh
