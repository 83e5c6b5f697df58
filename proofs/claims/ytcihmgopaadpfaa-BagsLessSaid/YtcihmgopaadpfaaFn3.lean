/- What the functions answer that the statement reaches. No condition. -/
import Derived.Test.YtcihmgopaadpfaaFn2
import Derived.Shelf.SlSortCmp.NoneTotal
import Derived.Ground.SlsfProg
import Derived.Sort.QuietIn
import Derived.Sort.QuietTacIn
import Derived.Deep.RegionLaw
import Derived.Test.YtcihmgopaadpfaaRows
set_option linter.unusedVariables false
set_option linter.unusedSimpArgs false
namespace Go.Sh
/-! ### a run's bags are bags -/
theorem RunL.pos {n : Int} {L : List Stp} (h : RunL n L) {v : Int} (h0 : 0 ≤ v) (h1 : v < n) : posV L v < L.length ∧ (stepAt L (posV L v)).1 = v := by
  obtain ⟨s, hs, e⟩ := h.all v h0 h1
  obtain ⟨k, hk⟩ := List.getElem?_of_mem hs
  have hkl := (List.getElem?_eq_some_iff.1 hk).1
  have ht : stepAt L k = s := by have := stepAt_get hkl; rw [hk] at this; injection this with this; exact this.symm
  have := posV_at h hkl
  rw [ht, e] at this
  rw [this, ht]
  exact ⟨hkl, e⟩
end Go.Sh

set_option linter.unusedVariables false
set_option linter.unusedSimpArgs false
namespace Go.Sh
/-! ### a graph that has bags has no model of the complete graph of four -/
inductive Pth (U : List Int) (Q : Nat → Prop) : Nat → Nat → Prop
  | refl {i : Nat} (h : Q i) : Pth U Q i i
  | step {i k j : Nat} (h : Q i) (hu : upAt U i = k) (hk : i < k) (r : Pth U Q k j) : Pth U Q i j
theorem Pth.le {U : List Int} {Q : Nat → Prop} {i j : Nat} (h : Pth U Q i j) : i ≤ j := by
  induction h with
  | refl _ => exact Nat.le_refl _
  | step _ _ hk _ ih => omega
theorem Pth.head {U : List Int} {Q : Nat → Prop} {i j : Nat} (h : Pth U Q i j) : Q i := by
  cases h with
  | refl h => exact h
  | step h _ _ _ => exact h
theorem Pth.mono {U : List Int} {Q Q' : Nat → Prop} {i j : Nat} (h : Pth U Q i j) (hq : ∀ t, Q t → Q' t) : Pth U Q' i j := by
  induction h with
  | refl h => exact .refl (hq _ h)
  | step h hu hk _ ih => exact .step (hq _ h) hu hk ih
theorem Pth.trans {U : List Int} {Q : Nat → Prop} {i j k : Nat} (h : Pth U Q i j) (h2 : Pth U Q j k) : Pth U Q i k := by
  induction h with
  | refl _ => exact h2
  | step h hu hk _ ih => exact .step h hu hk (ih h2)
end Go.Sh

set_option linter.unusedVariables false
set_option linter.unusedSimpArgs false
namespace Go.Sh
open Go.Proofs
/-! ### bits, as numbers -/
theorem getD_lt {r : List Nat} {m : Nat} (h : ∀ x ∈ r, x < m) (hm : 0 < m) (i : Nat) : r.getD i 0 < m := by
  by_cases hi : i < r.length
  · rw [List.getD_eq_getElem?_getD, List.getElem?_eq_getElem hi]; exact h _ (List.getElem_mem hi)
  · rw [getD_out hi]; exact hm
/-- small rows of bits -/
def Byt (r : List Nat) : Prop := r.length ≤ 8 ∧ ∀ x ∈ r, x < 256
theorem lessX_lt {x v : Nat} (h : x < 256) : lessX x v < 256 := by
  apply Nat.lt_pow_two_of_testBit (n := 8)
  intro i hi
  rw [lessX_bit]
  exact Nat.testBit_lt_two_pow (Nat.lt_of_lt_of_le (show x < 2 ^ 8 by omega) (Nat.pow_le_pow_right (by omega) (by unfold up1; split <;> omega)))
theorem mergeX_lt {r : List Nat} (h : Byt r) {a b i x : Nat} (ha : a < 8) (hx : x < 256) : mergeX r a b i x < 256 := by
  have h1 := getD_lt h.2 (by omega) a
  have h2 := getD_lt h.2 (by omega) b
  unfold mergeX
  split
  · apply Nat.lt_pow_two_of_testBit (n := 8)
    intro i hi
    rw [off_bit, Nat.testBit_lt_two_pow (Nat.lt_of_lt_of_le (Nat.or_lt_two_pow (n := 8) h1 h2) (Nat.pow_le_pow_right (by omega) hi))]
    rfl
  · split
    · exact Nat.or_lt_two_pow (n := 8) hx (Nat.pow_lt_pow_right (by omega) ha)
    · exact hx
theorem Byt.less {r : List Nat} (h : Byt r) {v : Nat} (hv : v < r.length) : Byt (lessL r v) := by
  refine ⟨by have := lessL_length hv; have := h.1; omega, fun x hx => ?_⟩
  obtain ⟨y, hy, rfl⟩ := List.mem_map.1 hx
  exact lessX_lt (h.2 y (List.mem_of_mem_eraseIdx hy))
theorem Byt.merge {r : List Nat} (h : Byt r) {a b : Nat} (ha : a < r.length) : Byt (mergeL r a b) := by
  refine ⟨by rw [mergeL_length]; exact h.1, fun x hx => ?_⟩
  obtain ⟨i, hi, rfl⟩ := List.mem_map.1 hx
  exact mergeX_lt h (by have := h.1; omega) (getD_lt h.2 (by omega) i)
theorem Byt.merged {r : List Nat} (h : Byt r) {a b : Nat} (ha : a < r.length) (hb : b < r.length) : Byt (mergedL r a b) := (h.merge ha).less (by rw [mergeL_length]; exact hb)
/-! ### carcanetref08.less -/
/-! ### carcanetref08.merged -/
/-! ### carcanetref08.is -/
end Go.Sh

set_option linter.unusedVariables false
set_option linter.unusedSimpArgs false
namespace Go.Sh
open Go.Proofs
/-! ### carcanetref08.Rows -/
/-! ### carcanetref08.comes -/
end Go.Sh

set_option linter.unusedVariables false
set_option linter.unusedSimpArgs false
namespace Go.Sh
open Go.Proofs
/-! ### carcanetref08.Has -/
/-! ### carcanetlaw08.MinorTrue -/
/-! ### carcanetref08.Pattern -/
end Go.Sh

set_option linter.unusedVariables false
set_option linter.unusedSimpArgs false
namespace Go.Sh
open Go.Proofs
/-! ### carcanetlaw10.ReduceMinor -/
end Go.Sh

set_option linter.unusedVariables false
set_option linter.unusedSimpArgs false
namespace Go.Sh
open Go.Proofs
/-! ### carcanetlaw12.BagsHold, BagsSound, BagsNarrow -/
end Go.Sh

set_option linter.unusedVariables false
set_option linter.unusedSimpArgs false
namespace Go.Proofs
open Go.RowKit Go.Shelf

attribute [local go_sem] Oper.semAt_some
/-- the cells of edges -/
def Try.Eds (S : Nat → Prop) (W : World) (sv : Value) (E : List (Int × Int)) : Prop :=
  (E = [] ∧ ∃ a cap, sv = .slice a 0 cap) ∨ ∃ ab ao cap, sv = .slice (some ⟨ab, ao, none⟩) E.length cap ∧ S ab ∧ ∀ j x, E[j]? = some x → W.cell? ⟨ab, ao + j * 2, none⟩ = some (.int .i64 x.1) ∧ W.cell? ⟨ab, ao + j * 2 + 1, none⟩ = some (.int .i64 x.2)
/-- some blocks lie as they lay -/
structure Try.Kept (S : Nat → Prop) (W W' : World) : Prop where
  size : W.heap.size ≤ W'.heap.size
  block : ∀ k, S k → W'.heap[k]? = W.heap[k]?
theorem Try.Kept.refl (S : Nat → Prop) (W : World) : Try.Kept S W W := ⟨Nat.le_refl _, fun _ _ => rfl⟩
theorem Try.Kept.trans {S : Nat → Prop} {A B C : World} (h : Try.Kept S A B) (k : Try.Kept S B C) : Try.Kept S A C := ⟨Nat.le_trans h.size k.size, fun b hb => (k.block b hb).trans (h.block b hb)⟩
theorem Try.Kept.cell {S : Nat → Prop} {W W' : World} (h : Try.Kept S W W') {p : Addr} (hp : S p.block) : W'.cell? p = W.cell? p := World.cell?_of_block (w := W) (h.block p.block hp)
theorem Try.Kept.alloc {S : Nat → Prop} {A W : World} (h : Try.Kept S A W) (hS : ∀ k, S k → k < A.heap.size) (o : Obj) : Try.Kept S A (W.alloc o) := ⟨Nat.le_trans h.size (by simp), fun k hk => (Below.heap_alloc W o k (Nat.lt_of_lt_of_le (hS k hk) h.size)).trans (h.block k hk)⟩
theorem Try.Kept.of {n : Nat} {S : Nat → Prop} {W W' : World} (h : Below n W W') (hS : ∀ k, S k → k < n) : Try.Kept S W W' := ⟨h.size, fun k hk => h.block k (hS k hk)⟩
/-- some blocks, and all blocks of a type, lie as they lay -/
def Try.Kp (S : Nat → Prop) (t : Nat) (W W' : World) : Prop := Try.Kept S W W' ∧ ∀ (k : Nat) (c : Array Value) (fr : Nat × Nat), W.heap[k]? = some (Obj.cells c t fr) → W'.heap[k]? = some (Obj.cells c t fr)
theorem Try.kp_t {S : Nat → Prop} {t : Nat} {A B C : World} (h : Try.Kp S t A B) (k : Try.Kp S t B C) : Try.Kp S t A C := ⟨h.1.trans k.1, fun b c fr hb => k.2 b c fr (h.2 b c fr hb)⟩
theorem Try.kp_b {S : Nat → Prop} {t : Nat} {w : World} (hS : ∀ k, S k → k < w.heap.size) (W : World) (l : Nat) (o o' : Obj) (hl : w.heap.size ≤ l) (h : W.heap[l]? = some o) (hc : o.isCells = false) (hw : o.isWalk = false) : Try.Kp S t W (W.putObj l o') :=
  ⟨⟨(grownBy_putObj' W l o').size, fun k hk => by
    by_cases hlt : k < W.heap.size
    · exact (grownBy_putObj' W l o').block k hlt (fun e2 => by injection e2 with e2; have := hS k hk; omega)
    · have h1 := hS k hk
      have h2 := (Array.getElem?_eq_some_iff.1 h).1
      omega⟩, fun k c fr hk => by
    by_cases e : k = l
    · subst e; rw [h] at hk; injection hk with hk; subst hk; cases hc
    · exact ((grownBy_putObj' W l o').block k (Array.getElem?_eq_some_iff.1 hk).1 (fun e2 => e (by cases e2; rfl))).trans hk⟩
open Go.Sh in
theorem Try.nearL_one {n v xa xb : Int} (h : okE n (xa, xb)) (l : List Ed) : Go.Sh.nearL (l ++ [(xa, xb)]) v = Go.Sh.nearL l v ++ (if xb = v then [xa] else if xa = v then [xb] else []) := by
  unfold Go.Sh.okE at h
  rw [Go.Sh.nearL_snoc]
  unfold Go.Sh.nearX
  dsimp only at h ⊢
  by_cases h2 : xb = v
  · rw [if_pos h2, if_neg (by omega), if_pos h2]; rfl
  · rw [if_neg h2, if_neg h2]
    by_cases h3 : xa = v
    · rw [if_pos h3]; rfl
    · rw [if_neg h3]; rfl
set_option maxRecDepth 100000 in
set_option maxHeartbeats 2000000 in
theorem Try.near1_in (F : Fence) (n : Nat) (h7 : F.fn 94) (hro : F.round = none) (hn : 1 ≤ n) (l Bg Bv cap : Nat) (S : Nat → Prop) (ab ao : Nat) (v m : Int) (E : List (Int × Int)) (hE : ∀ p ∈ E, Go.Sh.okE m p) (hEl : E.length ≤ 4000) (hb : S ab) (hBg0 : S Bg) (hBv0 : S Bv) (J Jx : List Int → World → Prop)
    (hY : ∀ pre x W, J pre W → pre.length < E.length → YieldAt F (n - 1) Try.prog l #[.int .i64 x] W fun e W' =>
      (e = .returned (.bool true) ∧ J (pre ++ [x]) W' ∧ Try.Kp S 60 W W') ∨ (e = .returned (.bool false) ∧ Jx (pre ++ [x]) W'))
    (W : World) (hJ : AbidesFrom W.heap.size J) (hS : ∀ k, S k → k < W.heap.size) (hBg : W.cell? ⟨Bg, 1, none⟩ = some (.slice (some ⟨ab, ao, none⟩) E.length cap)) (hBv : W.cell? ⟨Bv, 0, none⟩ = some (.int .i64 v)) (hc : ∀ j x, E[j]? = some x → W.cell? ⟨ab, ao + j * 2, none⟩ = some (.int .i64 x.1) ∧ W.cell? ⟨ab, ao + j * 2 + 1, none⟩ = some (.int .i64 x.2)) (h0 : J [] W) :
    CallsIn F n Try.prog 94 #[.func (.yield l) #[] #[], .pointer (some ⟨Bg, 0, none⟩), .pointer (some ⟨Bv, 0, none⟩)] W fun e W' => (∃ v, e = .returned v) ∧
      ((∃ k, k ≤ E.length ∧ (k = E.length ∨ ∃ x, E[k]? = some x ∧ x.1 > v) ∧ J (Go.Sh.nearL (E.take k) v) W') ∨ (∃ pre, (∃ k, k ≤ E.length ∧ pre = Go.Sh.nearL (E.take k) v) ∧ Jx pre W')) := by
  refine callsIn_of_wp Try.func94 rfl h7 ?_ hro
  simp only [Try.ntmps94, List.size_toArray, List.length_cons, List.length_nil, Nat.reduceAdd, Nat.reduceSub, Array.replicate_succ, Array.replicate_zero, List.push_toArray, List.append_toArray, List.nil_append, List.cons_append]
  gi_wp2
  gi_loopw [9] (fun i wr => ∃ k : Nat, k ≤ E.length ∧ i = .int .i64 k ∧ J (Go.Sh.nearL (E.take k) v) wr ∧ (Go.Sh.nearL (E.take k) v).length ≤ k ∧ Try.Kept S W wr)
    (fun i _ => E.length - (intOf i).toNat)
  case atStart => exact ⟨0, Nat.zero_le _, rfl, h0, by simp [Go.Sh.nearL], Try.Kept.refl _ _⟩
  case round =>
    obtain ⟨k, hk, rfl, hJs, hnl, hnx⟩ := hrel
    by_cases hlt : k < E.length
    · obtain ⟨x, hx⟩ : ∃ x, E[k]? = some x := ⟨_, List.getElem?_eq_getElem hlt⟩
      have hxm : x ∈ E := List.mem_of_getElem? hx
      have hok := hE x hxm
      have hcx1 : wr.cell? ⟨ab, ao + k * 2, none⟩ = some (.int .i64 x.1) := (hnx.cell (p := ⟨ab, ao + k * 2, none⟩) hb).trans (hc k x hx).1
      have hcx2 : wr.cell? ⟨ab, ao + k * 2 + 1, none⟩ = some (.int .i64 x.2) := (hnx.cell (p := ⟨ab, ao + k * 2 + 1, none⟩) hb).trans (hc k x hx).2
      have hv2 : wr.cell? ⟨Bv, 0, none⟩ = some (.int .i64 v) := (hnx.cell (p := ⟨Bv, 0, none⟩) hBv0).trans hBv
      obtain ⟨xa, xb⟩ := x
      have hab : xa < xb := hok.2.1
      have htk : E.take (k + 1) = E.take k ++ [(xa, xb)] := by
        rw [List.take_succ_eq_append_getElem hlt]
        rw [List.getElem?_eq_getElem hlt] at hx
        injection hx with hx
        rw [hx]
      have hst := Try.nearL_one (v := v) hok (E.take k)
      rw [← htk] at hst
      dsimp only at hcx1 hcx2
      have hv3 : (wr.alloc (.cells #[.int .i64 xa, .int .i64 xb] 60)).cell? ⟨Bv, 0, none⟩ = some (.int .i64 v) := ((hnx.alloc hS _).cell (p := ⟨Bv, 0, none⟩) hBv0).trans hBv
      have hJ3 : J (Go.Sh.nearL (E.take k) v) (wr.alloc (.cells #[.int .i64 xa, .int .i64 xb] 60)) := hJ _ _ _ none hJs (World.grownBy_alloc _ _ _) (fun r e => by cases e)
      have hnx3 : Try.Kept S W (wr.alloc (.cells #[.int .i64 xa, .int .i64 xb] 60)) := hnx.alloc hS _
      by_cases h1 : v < xa
      · gi_wp2
        refine bodyPost_ret (results_none rfl _ _ _) rfl ?_
        exact ⟨⟨_, rfl⟩, .inl ⟨k, by omega, .inr ⟨_, hx, h1⟩, hJ3⟩⟩
      · by_cases h2 : xb = v
        · rw [if_pos h2] at hst
          have h3 : ¬ xa = v := by omega
          obtain ⟨fn, tmps, assign, body, hy, hR⟩ := hY _ xa _ hJ3 (by omega)
          rw [← hst] at hR
          subst h2
          gi_wp2
          refine hR.mono ?_
          rintro e W3 (⟨rfl, hJ4, hk4⟩ | ⟨rfl, hJx4⟩)
          · have hbx : W3.heap[wr.heap.size]? = some (.cells #[.int .i64 xa, .int .i64 xb] 60) := hk4.2 _ _ _ (World.alloc_heap_new wr _)
            have hb0 : W3.cell? ⟨wr.heap.size, 0, none⟩ = some (.int .i64 xa) := by simp [World.cell?, hbx]
            have hv4 : W3.cell? ⟨Bv, 0, none⟩ = some (.int .i64 xb) := (hk4.1.cell (p := ⟨Bv, 0, none⟩) hBv0).trans hv3
            gi_wp2
            refine ⟨fun _ h => (by cases h), ?_⟩
            gi_wp2
            go_roundw
            case rel => exact ⟨k + 1, by omega, by simp, hJ4, by rw [hst, List.length_append]; simp; omega, hnx3.trans hk4.1⟩
            case measure => simp [intOf]; omega
          · gi_wp2
            refine bodyPost_ret (results_none rfl _ _ _) rfl ?_
            exact ⟨⟨_, rfl⟩, .inr ⟨_, ⟨k + 1, by omega, rfl⟩, hJx4⟩⟩
        · rw [if_neg h2] at hst
          by_cases h3 : xa = v
          · rw [if_pos h3] at hst
            obtain ⟨fn, tmps, assign, body, hy, hR⟩ := hY _ xb _ hJ3 (by omega)
            rw [← hst] at hR
            subst h3
            have hbf : (xb == xa) = false := beq_eq_false_iff_ne.2 h2
            gi_wp2
            refine ⟨fun _ h => (by cases h), ?_⟩
            gi_wp2
            refine hR.mono ?_
            rintro e W3 (⟨rfl, hJ4, hk4⟩ | ⟨rfl, hJx4⟩)
            · gi_wp2
              go_roundw
              case rel => exact ⟨k + 1, by omega, by simp, hJ4, by rw [hst, List.length_append]; simp; omega, hnx3.trans hk4.1⟩
              case measure => simp [intOf]; omega
            · gi_wp2
              refine bodyPost_ret (results_none rfl _ _ _) rfl ?_
              exact ⟨⟨_, rfl⟩, .inr ⟨_, ⟨k + 1, by omega, rfl⟩, hJx4⟩⟩
          · rw [if_neg h3, List.append_nil] at hst
            have hbf : (xb == v) = false := beq_eq_false_iff_ne.2 h2
            have hbg : (xa == v) = false := beq_eq_false_iff_ne.2 h3
            gi_wp2
            refine ⟨fun _ h => (by cases h), ?_⟩
            gi_wp2
            go_roundw
            case rel => exact ⟨k + 1, by omega, by simp, by rw [hst]; exact hJ3, by rw [hst]; omega, hnx3⟩
            case measure => simp [intOf]; omega
    · obtain rfl : k = E.length := by omega
      gi_wp2
      go_end0
      exact ⟨⟨_, rfl⟩, .inl ⟨_, Nat.le_refl _, .inl rfl, hJs⟩⟩

open Go.Sh in
/-- from where a vertex is passed on, it has no neighbours more -/
theorem Try.near_rest {n v : Int} {E : List Ed} (hE : ∀ p ∈ E, okE n p) (hs : E.Pairwise ltE) {k : Nat} (hk : k = E.length ∨ ∃ x, E[k]? = some x ∧ x.1 > v) : Go.Sh.nearL (E.take k) v = Go.Sh.nearL E v := by
  rcases hk with rfl | ⟨x, hx, hv⟩
  · rw [List.take_length]
  · have h2 : Go.Sh.nearL (E.drop k) v = [] := by
      unfold Go.Sh.nearL
      rw [List.flatMap_eq_nil_iff]
      intro y hy
      have hy1 : x.1 ≤ y.1 := by
        obtain ⟨j, hj⟩ := List.getElem?_of_mem hy
        rw [List.getElem?_drop] at hj
        rcases Nat.eq_zero_or_pos j with h0 | h0
        · subst h0; rw [Nat.add_zero, hx] at hj; injection hj with hj; rw [hj]; exact Int.le_refl _
        · obtain ⟨h1, e1⟩ := List.getElem?_eq_some_iff.1 hx
          obtain ⟨h3, e3⟩ := List.getElem?_eq_some_iff.1 hj
          have := List.pairwise_iff_getElem.1 hs k (k + j) h1 h3 (by omega)
          rw [e1, e3] at this
          unfold ltE at this; omega
      have := (hE y (List.mem_of_mem_drop hy)).2.1
      unfold nearX
      rw [if_neg (by omega), if_neg (by omega)]; rfl
    conv => rhs; rw [← List.take_append_drop k E]
    unfold Go.Sh.nearL at h2 ⊢
    rw [List.flatMap_append, h2, List.append_nil]
end Go.Proofs

set_option linter.unusedVariables false
set_option linter.unusedSimpArgs false
namespace Go.Proofs
open Go.RowKit Go.Shelf Go.Sh

attribute [local go_sem] Oper.semAt_some
/-- a graph's value, taken apart -/
theorem Try.gr_of {w : World} {n : Int} {E : List Ed} {u : Value} (h : V1Ok w noLab 0 (grV n E) u) : ∃ A c, u = .agg #[.int .i64 n, .slice A E.length c] ∧ FlatOk w noLab none A c 2 (edges E) := by
  obtain ⟨cs, rfl, hc⟩ := h
  cases hl : cs.toList with
  | nil => rw [hl] at hc; exact hc.elim
  | cons a r =>
    rw [hl] at hc
    cases r with
    | nil => exact hc.2.elim
    | cons b r =>
      cases r with
      | cons _ _ => exact hc.2.2.elim
      | nil =>
        obtain ⟨⟨_, h1⟩, ⟨x, h2, h3⟩, _⟩ := hc
        have h1 : a = .int .i64 n := h1
        rw [edges_length] at h2
        refine ⟨x.A, x.c, ?_, h3⟩
        have : cs = #[a, b] := by cases cs; simp_all
        rw [this, h1, h2]
theorem Try.gr_ok {w : World} {n : Int} {E : List Ed} {A : Option Addr} {c : Nat} (h : FlatOk w noLab none A c 2 (edges E)) : V1Ok w noLab 0 (grV n E) (.agg #[.int .i64 n, .slice A E.length c]) :=
  ⟨_, rfl, ⟨⟨none, 0, fun _ => none, fun _ => 0⟩, rfl⟩, ⟨⟨A, c, fun _ => none, fun _ => 0⟩, by show Value.slice A E.length c = .slice A (edges E).length c; rw [edges_length], h⟩, trivial⟩
theorem Try.flat_below {w w' : World} {A : Option Addr} {c sz : Nat} {rows : Flat} (h : FlatOk w noLab none A c sz rows) (hb : ∀ b : Nat, b < w.heap.size → w'.heap[b]? = w.heap[b]?) : FlatOk w' noLab none A c sz rows :=
  h.mono (by simp) (fun b hlt _ => ⟨rfl, hb b hlt⟩)
theorem Try.eds_of {w : World} {E : List Ed} {A : Option Addr} {c : Nat} (h : FlatOk w noLab none A c 2 (edges E)) : Try.Eds (· < w.heap.size) w (.slice A E.length c) E := by
  cases E with
  | nil => exact .inl ⟨rfl, A, c, rfl⟩
  | cons x E =>
    obtain ⟨a, rfl, _, h0⟩ := h.cell 0 [.i .i64 x.1, .i .i64 x.2] 0 (.i .i64 x.1) rfl rfl
    have h0 : w.cell? a = some (.int .i64 x.1) := h0
    obtain ⟨ab, ao, sp⟩ := a
    have hsp : sp = none := by
      cases sp with
      | none => rfl
      | some s =>
        simp only [World.cell?] at h0
        split at h0 <;> simp at h0
    subst hsp
    refine .inr ⟨ab, ao, c, rfl, ?_, fun j y hj => ?_⟩
    · simp only [World.cell?] at h0
      by_cases hp : ab < w.heap.size
      · exact hp
      · rw [Array.getElem?_eq_none (by omega)] at h0
        simp at h0
    · have hr := edges_get hj
      obtain ⟨b1, e1, _, h1⟩ := h.cell j _ 0 (.i .i64 y.1) hr rfl
      obtain ⟨b2, e2, _, h2⟩ := h.cell j _ 1 (.i .i64 y.2) hr rfl
      injection e1 with e1
      injection e2 with e2
      subst e1
      subst e2
      rw [Addr.add_plain] at h1 h2
      exact ⟨h1, by rw [Nat.add_assoc]; exact h2⟩
theorem Try.right_in (m : Nat) (w : World) (n : Int) (E : List Ed) (A : Option Addr) (c : Nat) (h : FlatOk w noLab none A c 2 (edges E)) :
    CallsIn Fence.wide m Try.prog 39 #[.agg #[.int .i64 n, .slice A E.length c]] w fun e w' => e = .returned (.bool (decide (RightP n E))) ∧ Below w.heap.size w w' := by
  refine callsIn_wide.2 ((RightG_p [grV n E] _ _ (RightC_at n E) w #[_] ⟨Try.gr_ok h, trivial⟩).mono ?_)
  rintro e w' ⟨u, lab, rfl, hf, _, hu⟩
  obtain ⟨x, hu⟩ := hu
  have hu : u = .bool (decide (RightP n E)) := hu
  exact ⟨by rw [hu], hf.os, hf.tape.1, hf.output, hf.size, fun b hb => hf.block b hb (fun h => h)⟩
/-- what the maker of the walk lays -/
def Try.nearW (w : World) (n v : Int) (sv : Value) : World := (w.alloc (.cells #[.int .i64 n, sv] 26)).alloc (.cells #[.int .i64 v] 3)
set_option maxHeartbeats 1000000 in
theorem Try.near_in (F : Fence) (m : Nat) (h5 : F.fn 67) (hro : F.round = none) (n v : Int) (A : Option Addr) (len c : Nat) (w : World) :
    CallsIn F m Try.prog 67 #[.agg #[.int .i64 n, .slice A len c], .int .i64 v] w fun e w' => e = .returned (.func (.func 94) #[] #[.pointer (some ⟨w.heap.size, 0, none⟩), .pointer (some ⟨w.heap.size + 1, 0, none⟩)]) ∧ w' = Try.nearW w n v (.slice A len c) := by
  refine callsIn_of_wp Try.func67 rfl h5 ?_ hro
  simp only [Try.ntmps67, List.size_toArray, List.length_cons, List.length_nil, Nat.reduceAdd, Nat.reduceSub, Array.replicate_succ, Array.replicate_zero, List.push_toArray, List.append_toArray, List.nil_append, List.cons_append]
  gi_wp2
  go_ret
  refine ⟨?_, rfl⟩
  simp
set_option maxRecDepth 100000 in
set_option maxHeartbeats 1000000 in
theorem Try.near1_nil_in (F : Fence) (m : Nat) (h7 : F.fn 94) (hro : F.round = none) (l Bg Bv : Nat) (a : Option Addr) (cap : Nat) (J : List Int → World → Prop) (W : World) (hBg : W.cell? ⟨Bg, 1, none⟩ = some (.slice a 0 cap)) (h0 : J [] W) :
    CallsIn F m Try.prog 94 #[.func (.yield l) #[] #[], .pointer (some ⟨Bg, 0, none⟩), .pointer (some ⟨Bv, 0, none⟩)] W fun e W' => (∃ v, e = .returned v) ∧ J [] W' := by
  refine callsIn_of_wp Try.func94 rfl h7 ?_ hro
  simp only [Try.ntmps94, List.size_toArray, List.length_cons, List.length_nil, Nat.reduceAdd, Nat.reduceSub, Array.replicate_succ, Array.replicate_zero, List.push_toArray, List.append_toArray, List.nil_append, List.cons_append]
  gi_wp2
  gi_loopw [9] (fun i wr => i = .int .i64 0 ∧ J [] wr) (fun _ _ => 0)
  case atStart => exact ⟨rfl, h0⟩
  case round =>
    obtain ⟨rfl, hJs⟩ := hrel
    gi_wp2
    go_end0
    exact ⟨⟨_, rfl⟩, hJs⟩
theorem Try.Eds.kept {S S' : Nat → Prop} {A B : World} (h : Try.Kept S A B) (hS : ∀ k, S' k → S k) {sv : Value} {E : List Ed} : Try.Eds S' A sv E → Try.Eds S B sv E
  | .inl e => .inl e
  | .inr ⟨ab, ao, cap, e, hb, hc⟩ => .inr ⟨ab, ao, cap, e, hS _ hb, fun j x hj => ⟨(h.cell (p := ⟨ab, ao + j * 2, none⟩) (hS _ hb)).trans (hc j x hj).1, (h.cell (p := ⟨ab, ao + j * 2 + 1, none⟩) (hS _ hb)).trans (hc j x hj).2⟩⟩
theorem Try.near_stops (F : Fence) (m : Nat) (h7 : F.fn 94) (hro : F.round = none) (hm : 1 ≤ m) (Bg Bv : Nat) (S : Nat → Prop) (n v : Int) (sv : Value) (E : List Ed) (hR : RightP n E) (w : World) (hBg0 : S Bg) (hBv0 : S Bv) (hS : ∀ k, S k → k < w.heap.size)
    (hBg : w.cell? ⟨Bg, 1, none⟩ = some sv) (hBv : w.cell? ⟨Bv, 0, none⟩ = some (.int .i64 v)) (hI : Try.Eds S w sv E) :
    SeqStopsK F m Try.prog 94 #[.pointer (some ⟨Bg, 0, none⟩), .pointer (some ⟨Bv, 0, none⟩)] (fun x : Int => #[Value.int .i64 x]) (Try.Kp S 60) (fun ys => ys = Go.Sh.nearL E v) (fun pre => pre <+: Go.Sh.nearL E v) E.length w := fun l J Jx W hW hJ _ hY h0 => by
  have hk := Try.Kept.of hW hS
  have hBg' := (hk.cell (p := ⟨Bg, 1, none⟩) hBg0).trans hBg
  have hBv' := (hk.cell (p := ⟨Bv, 0, none⟩) hBv0).trans hBv
  rcases hI.kept hk (fun k h => h) with ⟨rfl, a, cap, rfl⟩ | ⟨ab, ao, cap, rfl, hb, hcs⟩
  · exact (Try.near1_nil_in F m h7 hro l Bg Bv a cap J W hBg' h0).mono fun e W' ⟨he, hj⟩ => ⟨he, .inl ⟨_, rfl, hj⟩⟩
  · refine (Try.near1_in F m h7 hro hm l Bg Bv cap S ab ao v n E hR.2.2.2.1 hR.2.2.1 hb hBg0 hBv0 J Jx hY W hJ (fun k h => Nat.lt_of_lt_of_le (hS k h) hW.size) hBg' hBv' hcs h0).mono ?_
    rintro e W' ⟨he, ⟨k, hk, hk2, hj⟩ | ⟨pre, ⟨k, hk, rfl⟩, hj⟩⟩
    · refine ⟨he, .inl ⟨_, rfl, ?_⟩⟩
      rw [← Try.near_rest hR.2.2.2.1 hR.2.2.2.2 hk2]; exact hj
    · refine ⟨he, .inr ⟨_, ?_, hj⟩⟩
      exact ⟨Go.Sh.nearL (E.drop k) v, by unfold Go.Sh.nearL; rw [← List.flatMap_append, List.take_append_drop]⟩
end Go.Proofs

set_option linter.unusedVariables false
set_option linter.unusedSimpArgs false
namespace Go.Proofs
open Go.RowKit Go.Shelf Go.Sh

attribute [local go_sem] Oper.semAt_some
/-- the world as the walk through the neighbours begins -/
structure Try.NearAt (w W3 W4 : World) (n v : Int) (A : Option Addr) (c : Nat) (E : List Ed) : Prop where
  size : W4.heap.size = W3.heap.size + 2
  below : Below W3.heap.size W3 W4
  cg : W4.cell? ⟨W3.heap.size, 1, none⟩ = some (.slice A E.length c)
  cv : W4.cell? ⟨W3.heap.size + 1, 0, none⟩ = some (.int .i64 v)
theorem Try.near_at (w W3 : World) (n v : Int) (A : Option Addr) (c : Nat) (E : List Ed) : Try.NearAt w W3 (Try.nearW W3 n v (.slice A E.length c)) n v A c E := by
  have s4 : (Try.nearW W3 n v (.slice A E.length c)).heap.size = W3.heap.size + 2 := by simp [Try.nearW]
  have hb : Below W3.heap.size W3 (Try.nearW W3 n v (.slice A E.length c)) := ((Below.refl _ W3).alloc (Nat.le_refl _) _).alloc (by simp) _
  have h1 : (Try.nearW W3 n v (.slice A E.length c)).heap[W3.heap.size]? = some (.cells #[.int .i64 n, .slice A E.length c] 26) := by
    unfold Try.nearW
    rw [Below.heap_alloc _ _ _ (by simp)]; exact World.alloc_heap_new _ _
  have h2 : (Try.nearW W3 n v (.slice A E.length c)).heap[W3.heap.size + 1]? = some (.cells #[.int .i64 v] 3) := by
    have := World.alloc_heap_new (W3.alloc (.cells #[.int .i64 n, .slice A E.length c] 26)) (.cells #[.int .i64 v] 3)
    rwa [World.size_alloc] at this
  exact ⟨s4, hb, by simp [World.cell?, h1], by simp [World.cell?, h2]⟩
/-! ### graph.Has -/
set_option maxRecDepth 100000 in
set_option maxHeartbeats 2000000 in
theorem Try.Has_in (n a b : Int) (E : List Ed) (A : Option Addr) (c : Nat) (w : World) (hE : E.length ≤ 1000000) (h : FlatOk w noLab none A c 2 (edges E)) :
    CallsIn Fence.wide 6 Try.prog 37 #[.agg #[.int .i64 n, .slice A E.length c], .int .i64 a, .int .i64 b] w fun e W' => e = .returned (.bool (decide (RightP n E) && (Go.Sh.nearL E a).elem b)) ∧ Below w.heap.size w W' := by
  obtain ⟨w1, hw1⟩ : ∃ w1, w.alloc (.cells #[.int .i64 n, .slice A E.length c] 26) = w1 := ⟨_, rfl⟩
  obtain ⟨w2, hw2⟩ : ∃ w2, w1.alloc (.cells #[.int .i64 b] 3) = w2 := ⟨_, rfl⟩
  obtain ⟨w3, hw3⟩ : ∃ w3, w2.alloc (.cells #[.bool false] 4) = w3 := ⟨_, rfl⟩
  have s1 : w1.heap.size = w.heap.size + 1 := by rw [← hw1]; simp
  have s2 : w2.heap.size = w.heap.size + 2 := by rw [← hw2]; simp [s1]
  have s3 : w3.heap.size = w.heap.size + 3 := by rw [← hw3]; simp [s2]
  have b1 : Below w.heap.size w w1 := by rw [← hw1]; exact (Below.refl _ w).alloc (Nat.le_refl _) _
  have b2 : Below w.heap.size w w2 := by rw [← hw2]; exact b1.alloc (by omega) _
  have b3 : Below w.heap.size w w3 := by rw [← hw3]; exact b2.alloc (by omega) _
  have hg3 : w3.heap[w.heap.size]? = some (.cells #[.int .i64 n, .slice A E.length c] 26) := by
    rw [← hw3, Below.heap_alloc _ _ _ (by omega), ← hw2, Below.heap_alloc _ _ _ (by omega), ← hw1]; exact World.alloc_heap_new _ _
  have bB : Boxed w3 (w.heap.size + 1) 3 (.int .i64 b) := by rw [← hw3, ← s1]; refine Boxed.alloc ?_ _; rw [← hw2]; exact Boxed.new _ _ _
  have bO : Boxed w3 (w.heap.size + 2) 4 (.bool false) := by rw [← hw3, ← s2]; exact Boxed.new _ _ _
  have c0 : w3.cell? ⟨w.heap.size, 0, none⟩ = some (.int .i64 n) := by simp [World.cell?, hg3]
  have c1 : w3.cell? ⟨w.heap.size, 1, none⟩ = some (.slice A E.length c) := by simp [World.cell?, hg3]
  refine callsIn_of_wp_marks Try.func37 rfl trivial ?_ rfl
  simp only [Try.ntmps37, List.size_toArray, List.length_cons, List.length_nil, Nat.reduceAdd, Nat.reduceSub, Array.replicate_succ, Array.replicate_zero, List.push_toArray, List.append_toArray, List.nil_append, List.cons_append]
  have f3 := Try.flat_below h (fun b hb => b3.block b hb)
  subst hw1
  subst hw2
  subst hw3
  by_cases hR : RightP n E
  · gi_wp2_with (first
      | (refine ⟨trivial, ?_⟩; gi_at_call 39; refine (Try.right_in 5 _ n E A c f3).mono ?_; rintro e W3 ⟨rfl, hb3⟩; have c0' := (hb3.cell (p := ⟨w.heap.size, 0, none⟩) (by show w.heap.size < _; rw [s3]; omega)).trans c0; have c1' := (hb3.cell (p := ⟨w.heap.size, 1, none⟩) (by show w.heap.size < _; rw [s3]; omega)).trans c1; have hd : decide (RightP n E) = true := decide_eq_true hR)
      | (refine ⟨trivial, ?_⟩; gi_at_call 67; refine (Try.near_in Fence.wide 5 trivial rfl n a A E.length c _).mono ?_; rintro e W4 ⟨rfl, rfl⟩))
    have hA4 := Try.near_at w W3 n a A c E
    have t3 : w.heap.size + 3 ≤ W3.heap.size := by have := hb3.size; rw [s3] at this; exact this
    have bB3 : Boxed W3 (w.heap.size + 1) 3 (.int .i64 b) := (hb3.block _ (by rw [s3]; omega)).trans bB
    have bO3 : Boxed W3 (w.heap.size + 2) 4 (.bool false) := (hb3.block _ (by rw [s3]; omega)).trans bO
    have d3 : Below w.heap.size w W3 := b3.trans (hb3.mono (by rw [s3]; omega))
    have hE3 := (Try.eds_of h).kept (Try.Kept.of (S := (· < w.heap.size)) d3 (fun k h => h)) (fun k h => h)
    generalize Try.nearW W3 n a (.slice A E.length c) = W4 at hA4 ⊢
    obtain ⟨s4, hb4, cg, cv⟩ := hA4
    have bB4 : Boxed W4 (w.heap.size + 1) 3 (.int .i64 b) := (hb4.block _ (by omega)).trans bB3
    have bO4 : Boxed W4 (w.heap.size + 2) 4 (.bool false) := (hb4.block _ (by omega)).trans bO3
    have d4 : Below w.heap.size w W4 := d3.trans (hb4.mono (by omega))
    have hE4 : Try.Eds (fun k => k < W4.heap.size ∧ k ≠ w.heap.size + 2) W4 (.slice A E.length c) E := by
      rcases hE3.kept (Try.Kept.of (S := (· < w.heap.size)) (hb4.mono (show w.heap.size ≤ _ by omega)) (fun k h => h)) (fun k h => h) with h0 | ⟨ab, ao, cap, e, hb, hc⟩
      · exact .inl h0
      · exact .inr ⟨ab, ao, cap, e, ⟨by omega, by omega⟩, hc⟩
    have hml : E.length ≤ 4000 := hR.2.2.1
    have hd2 : decide (RightP n E) = true := decide_eq_true hR
    refine wpIn_rangeFunc_ownG rfl (by omega) (gf := 94) (lb := #[.pointer (some ⟨W3.heap.size, 0, none⟩), .pointer (some ⟨W3.heap.size + 1, 0, none⟩)]) rfl trivial (enters_of Try.func94 (by kernel_rfl) rfl)
      (Try.near_stops Fence.wide 5 trivial rfl (by omega) W3.heap.size (W3.heap.size + 1) (fun k => k < W4.heap.size ∧ k ≠ w.heap.size + 2) n a _ E hR W4 ⟨by omega, by omega⟩ ⟨by omega, by omega⟩ (fun k h => h.1) cg cv hE4) Try.kp_t (Try.kp_b (fun k h => h.1)) (Below.refl _ _) (fun _ => rfl)
      (fun pre W => (Boxed W (w.heap.size + 1) 3 (.int .i64 b) ∧ Boxed W (w.heap.size + 2) 4 (.bool false) ∧ b ∉ pre) ∧ Below w.heap.size W4 W)
      (fun cd pre W => (cd = .ret ∧ Boxed W (w.heap.size + 2) 4 (.bool true) ∧ b ∈ pre) ∧ Below w.heap.size W4 W)
      (OwnFrom.and (fun s X Y row hs hg hr => ⟨hs.1.kept hg (fun e => by have := (hr _ e.symm).1; omega), hs.2.1.kept hg (fun e => by have := (hr _ e.symm).1; omega), hs.2.2⟩) (ownFrom_below (by omega) (by omega)))
      (fun cd => OwnFrom.and (fun s X Y row hs hg hr => ⟨hs.1, hs.2.1.kept hg (fun e => by have := (hr _ e.symm).1; omega), hs.2.2⟩) (ownFrom_below (by omega) (by omega)))
      ⟨⟨bB4, bO4, by simp⟩, Below.refl _ _⟩
      (fun x => { tmps := #[.agg #[.int .i64 n, .slice A E.length c], .int .i64 a, .int .i64 b, .pointer (some ⟨w.heap.size, 0, none⟩), undef, .pointer (some ⟨w.heap.size + 1, 0, none⟩), .pointer (some ⟨w.heap.size + 2, 0, none⟩), .int .i64 x, .agg #[.int .i64 n, .slice A E.length c], .bool true, .bool false, .agg #[.int .i64 n, .slice A E.length c], .int .i64 a, .func (.func 94) #[] #[.pointer (some ⟨W3.heap.size, 0, none⟩), .pointer (some ⟨W3.heap.size + 1, 0, none⟩)], .int .i64 x, undef, undef, undef], defers := [] }) ?assign ?body ?done ?stop
    case assign =>
      intro l x W K hK
      gi_wp2
      exact hK
    case body =>
      rintro l pre x W ⟨⟨hv, ho, hn⟩, hB⟩ hlt
      have hc := hv.cell
      have hoc := ho.cell
      have hof := ho.frozen
      by_cases hx : x = b
      · have hxb : (x == b) = true := by simpa using hx
        gi_wp2
        exact ⟨(KeepsOthers.setCell _ _ _).from _, ⟨rfl, ho.set _, by simp [hx]⟩, hB.setCell (p := ⟨w.heap.size + 2, 0, none⟩) (by show w.heap.size ≤ w.heap.size + 2; omega) _⟩
      · have hxb : (x == b) = false := by simpa using hx
        gi_wp2
        exact ⟨KeepsFrom.refl _ _, ⟨Try.Kept.refl _ _, fun _ _ _ h => h⟩, ⟨hv, ho, by simp [hn]; exact fun e => hx e.symm⟩, hB⟩
    case done =>
      rintro D ys W hD rfl ⟨⟨hv, ho, hn⟩, hB⟩ hK
      have hoc := ho.cell
      have hof := ho.frozen
      gi_wp2
      have hK' : (W.setCell ⟨w.heap.size + 2, 0, none⟩ (.bool false)).heap[D]? = some (.deferred (some [])) := by
        rw [Below.heap_setCell _ _ _ _ (by show D ≠ w.heap.size + 2; omega)]; exact hK
      refine ⟨by simp, .inl ⟨_, _, rfl, run_takeDeferred hK', ?_⟩⟩
      have hc5 := cell_kept (ho.set (.bool false)).cell (grownBy_putObj' _ D (.deferred none)) (fun r e => by cases e; exact ⟨_, hK', rfl⟩)
      refine ⟨.bool false, ?_, by rw [hd2, show (Go.Sh.nearL E a).elem b = false by simpa using hn]; rfl, ((d4.trans hB).setCell (p := ⟨w.heap.size + 2, 0, none⟩) (by show w.heap.size ≤ w.heap.size + 2; omega) _).trans (belowK_b (w := w) (Nat.le_refl _) _ D _ _ (by omega) hK' rfl rfl)⟩
      simp [results, Try.f37, go_sem, hc5]
    case stop =>
      rintro D cd pre W hD hpre ⟨⟨rfl, ho, hn⟩, hB⟩ hK
      gi_wp2
      refine ⟨by simp, .inl ⟨_, _, rfl, run_takeDeferred hK, ?_⟩⟩
      have hc5 := cell_kept ho.cell (grownBy_putObj' _ D (.deferred none)) (fun r e => by cases e; exact ⟨_, hK, rfl⟩)
      refine ⟨.bool true, ?_, by rw [hd2, show (Go.Sh.nearL E a).elem b = true by simpa using hpre.subset hn]; rfl, (d4.trans hB).trans (belowK_b (w := w) (Nat.le_refl _) _ D _ _ (by omega) hK rfl rfl)⟩
      simp [results, Try.f37, go_sem, hc5]
  · gi_wp2_with (refine ⟨trivial, ?_⟩; gi_at_call 39; refine (Try.right_in 5 _ n E A c f3).mono ?_; rintro e W3 ⟨rfl, hb3⟩; have hd : decide (RightP n E) = false := decide_eq_false hR; have bO3 : Boxed W3 (w.heap.size + 2) 4 (.bool false) := (hb3.block _ (by rw [s3]; omega)).trans bO; have hoc := bO3.cell; have hof := bO3.frozen)
    have bO3 : Boxed W3 (w.heap.size + 2) 4 (.bool false) := (hb3.block _ (by rw [s3]; omega)).trans bO
    have hc5 := (bO3.set (.bool false)).cell
    refine ⟨.bool false, ?_, by rw [decide_eq_false hR]; rfl, (b3.trans (hb3.mono (by rw [s3]; omega))).setCell (p := ⟨w.heap.size + 2, 0, none⟩) (by show w.heap.size ≤ w.heap.size + 2; omega) _⟩
    simp [results, Try.f37, go_sem, hc5]
end Go.Proofs

set_option linter.unusedVariables false
set_option linter.unusedSimpArgs false
namespace Go.Sh
open Go.Proofs Go.Sort Go.Shelf Go.RowKit
/-! ### rows of cells in their place -/
theorem holds_row {w : World} {own : Nat → Option Key} {key : Option Key} {A : Option Addr} {cap sz : Nat} {rows : Flat} {b off : Nat} {arr : Array Value} {T : TypeId} (h : FlatOk w own key A cap sz rows) (hA : A = some ⟨b, off, none⟩) (hh : w.heap[b]? = some (.cells arr T (0, 0))) :
    Holds id w b off (cellsR rows).toArray := by
  intro t ht
  have ht0 := ht
  have ht : t < rows.flatten.length := by rw [List.size_toArray, cellsR, List.length_map] at ht; exact ht
  have hlen : rows.flatten.length = rows.length * sz := flat_len h.even
  have h0 : 0 < sz := h.pos
  have hi : t / sz < rows.length := by rw [Nat.div_lt_iff_lt_mul h0]; omega
  have hj : t % sz < sz := Nat.mod_lt _ h0
  have hrow : rows[t / sz]? = some rows[t / sz] := List.getElem?_eq_getElem hi
  have hrl := h.even _ _ hrow
  have hcell : (rows[t / sz])[t % sz]? = some (rows[t / sz])[t % sz] := List.getElem?_eq_getElem (by omega)
  obtain ⟨ad, h1, _, h2⟩ := h.cell _ _ _ _ hrow hcell
  rw [hA] at h1
  injection h1 with h1
  subst h1
  have hq : t / sz * sz + t % sz = t := by rw [Nat.mul_comm]; exact Nat.div_add_mod t sz
  have hfl := flat_get h.even (t / sz) (t % sz) _ hrow hj
  rw [hq, hcell] at hfl
  rw [hq, Addr.add_plain] at h2
  refine ⟨?_, by simp [World.frozen?, hh]⟩
  have ht' : t < (cellsR rows).toArray.size := ht0
  rw [getElem!_pos _ t ht', h2]
  have hz : (cellsR rows)[t]? = some (rows[t / sz])[t % sz].val := by unfold cellsR; rw [List.getElem?_map, hfl]; rfl
  have hz2 := List.getElem?_eq_getElem (l := cellsR rows) (i := t) (by simpa using ht')
  rw [hz2] at hz
  injection hz with hz
  simp [hz]
theorem splice_all {α : Type} {l m : List α} (h : m.length = l.length) : splice l 0 m = m := by
  apply List.ext_getElem?
  intro i
  rw [splice_get l 0 m i (by omega)]
  by_cases hi : i < m.length
  · rw [if_pos ⟨by omega, by omega⟩]; simp
  · rw [if_neg (by omega), List.getElem?_eq_none (by omega), List.getElem?_eq_none (by omega)]
theorem put_splice {off : Nat} {arr : Array Value} {cs : List Value} (h : off + cs.length ≤ arr.size) : putCells id off cs.toArray arr = (splice arr.toList off cs).toArray := by
  apply Array.ext'
  apply List.ext_getElem?
  intro i
  rw [List.toList_toArray, splice_get _ _ _ _ (by simpa using h)]
  rw [Array.getElem?_toList]
  unfold putCells
  rw [Array.getElem?_mapIdx]
  by_cases hi : off ≤ i ∧ i < off + cs.length
  · rw [if_pos hi, Array.getElem?_eq_getElem (by omega), Option.map_some, if_pos (by simpa using hi), getElem!_pos _ _ (by simp; omega), List.getElem?_eq_getElem (by omega)]
    simp
  · rw [if_neg hi, Array.getElem?_toList]
    cases hq : arr[i]? with
    | none => rfl
    | some x => rw [Option.map_some, if_neg (by simpa using hi)]
/-- behind a call that laid a row of cells in its place -/
theorem put_row {w w' : World} {own : Nat → Option Key} {key : Key} {A : Option Addr} {cap sz : Nat} {rows' : Flat} {b off : Nat} {arr : Array Value} {T : TypeId} {q : Nat} {os : Array Obj} (ho : own b = some key) (hh : w.heap[b]? = some (.cells arr T (0, 0))) (hs : off + (cellsR rows').length ≤ arr.size)
    (hlay : FlatOk (w.setRow b (splice arr.toList off (cellsR rows')).toArray) own (some key) A cap sz rows') (hown : ∀ b k, own b = some k → b < w.heap.size)
    (hw : w' = grow (putRow id (Sort.ahead w q) b off (cellsR rows').toArray) os) : Frm (fun b => own b = some key) w w' ∧ FlatOk w' own (some key) A cap sz rows' := by
  subst hw
  have hb : b < w.heap.size := hown b _ ho
  have hheap : ∀ x, x < w.heap.size → (grow (putRow id (Sort.ahead w q) b off (cellsR rows').toArray) os).heap[x]? = (w.heap[x]?).map fun o => if x = b then onCells (putCells id off (cellsR rows').toArray) o else o := fun x hx => by
    show ((w.heap.modify b (onCells (putCells id off (cellsR rows').toArray))) ++ os)[x]? = _
    rw [Array.getElem?_append_left (by simpa using hx), Array.getElem?_modify]
    by_cases e : b = x
    · simp [e]
    · have : ¬ x = b := fun h => e h.symm
      simp [e, this]
  refine ⟨⟨rfl, .of rfl, rfl, ?_, fun x hx hn => ?_⟩, hlay.mono id fun x hx hx2 => ⟨hx2, ?_⟩⟩
  · show w.heap.size ≤ ((w.heap.modify b _) ++ os).size
    simp
  · rw [hheap x hx]
    have : x ≠ b := fun e => hn (by rw [e]; exact ho)
    simp [this]
  · have hx' : x < w.heap.size := hown x _ hx2
    rw [hheap x hx']
    by_cases e : x = b
    · subst e
      rw [hh, World.setRow]
      show _ = (w.heap.modify x _)[x]?
      rw [Array.getElem?_modify, if_pos rfl, hh]
      simp [onCells]
      exact put_splice hs
    · rw [World.setRow]
      show _ = (w.heap.modify b _)[x]?
      rw [Array.getElem?_modify, if_neg (fun h => e h.symm)]
      simp [e]
/-! ### edges -/
def encE (p : Ed) : List Value := [.int .i64 p.1, .int .i64 p.2]
theorem edges_even (l : List Ed) : ∀ (i : Nat) (row : Row), (edges l)[i]? = some row → row.length = 2 := fun i row h => by
  simp only [edges, List.getElem?_map, Option.map_eq_some_iff] at h
  obtain ⟨x, _, rfl⟩ := h
  rfl
theorem flatK_edges (l : List Ed) : flatK encE 2 l.toArray = (cellsR (edges l)).toArray := by
  apply Array.ext'
  show (flatK encE 2 l.toArray).toList = cellsR (edges l)
  induction l with
  | nil => simp [flatK, cellsR, edges]
  | cons p l ih =>
    have e : cellsR (edges (p :: l)) = encE p ++ cellsR (edges l) := rfl
    rw [e, ← ih]
    simp only [flatK, List.size_toArray, List.length_cons, Array.toList_map, Array.toList_range]
    rw [show (l.length + 1) * 2 = 2 + l.length * 2 by omega, List.range_add, List.map_append, List.map_map]
    congr 1
    refine List.map_congr_left fun t ht => ?_
    have h1 : (2 + t) / 2 = t / 2 + 1 := by omega
    have h2 : (2 + t) % 2 = t % 2 := by omega
    simp only [Function.comp, h1, h2]
    congr 1
    simp
/-! ### graph.Normal's closure -/
theorem Clo_p [Fwd] : SoundP Try.prog 92 (conF (fun _ : Ed × Ed => True) (fun a => [edV a.1, edV a.2]) (fun a => .one (.s (.i .i64 (cmpE a.1 a.2))))) := by
  refine con_pure (X := { Γ := [(69, compareC)], T := T, nt := 8 }) cr_none hmix hT (sound_cons compare_ok sound_nil) Try.func92 (by rfl) (by rfl) (by rfl) 4 ?_
  rintro ⟨⟨a, b⟩, ⟨c, d⟩⟩ -
  refine ⟨⟨Nat.le_of_ble_eq_true rfl, Nat.le_of_ble_eq_true rfl⟩, ?_⟩
  refine Call.by _ _ (compareC_at (a, b) (c, d)) ?_
  refine ⟨rfl, ?_⟩
  show _ = _
  rfl
theorem frm_grow [Fwd] (hD : Fwd.D) {w w' : World} (h : Frm (fun _ => False) w w') : ∃ q os, w' = grow (w.drewN q) os := by
  refine ⟨w'.drawn - w.drawn, w'.heap.extract w.heap.size w'.heap.size, ?_⟩
  have hd : w.drawn ≤ w'.drawn := h.tape.2 hD
  have hh : w'.heap = w.heap ++ w'.heap.extract w.heap.size w'.heap.size := by
    apply Array.ext_getElem?
    intro i
    have hs := h.size
    rcases Nat.lt_or_ge i w.heap.size with hi | hi
    · rw [Array.getElem?_append_left hi]; exact h.block i hi (fun h => h)
    · rw [Array.getElem?_append_right hi, Array.getElem?_extract]
      split
      · congr 1; omega
      · rw [Array.getElem?_eq_none]; omega
  have h1 := h.os; have h2 := h.tape.1; have h3 := h.output
  obtain ⟨a1, a2, a3, a4, a5⟩ := w
  obtain ⟨b1, b2, b3, b4, b5⟩ := w'
  simp only at h1 h2 h3 hd
  subst h1 h2 h3
  unfold grow World.drewN
  simp only at hh ⊢
  rw [← hh]
  congr 1
  omega
theorem clo_call (x y : Ed) (W : World) : Calls Try.prog 92 #[.agg (encE x).toArray, .agg (encE y).toArray] W fun e w' => e = .returned (.int .i64 (cmpE x y)) ∧ ∃ q os', w' = grow (W.drewN q) os' := by
  letI : Fwd := ⟨True⟩
  have hz : ∀ (q : Nat) (z : Sc), CellOk W noLab q (.s z) z.val := fun q z => ⟨⟨none, 0, fun _ => none, fun _ => 0⟩, rfl⟩
  have hF : conF (fun _ : Ed × Ed => True) (fun a => [edV a.1, edV a.2]) (fun a => V.one (C.s (.i .i64 (cmpE a.1 a.2)))) [edV x, edV y] = some (.one (.s (.i .i64 (cmpE x y))), []) := compareC_at x y
  refine (Clo_p _ _ _ hF W #[.agg (encE x).toArray, .agg (encE y).toArray] ⟨⟨_, rfl, hz _ _, hz _ _, trivial⟩, ⟨_, rfl, hz _ _, hz _ _, trivial⟩, trivial⟩).mono ?_
  rintro e w' ⟨u, lab, rfl, hf, _, hu⟩
  obtain ⟨p, hu⟩ := hu
  refine ⟨?_, frm_grow trivial hf⟩
  show Ending.returned u = _
  rw [show u = (Sc.i .i64 (cmpE x y)).val from hu]
  rfl
/-! ### slices.SortFunc on edges -/
theorem ltOf_iff (x y : Ed) : ltOf cmpE x y = decide (ltE x y) := by
  unfold ltOf
  exact decide_eq_decide.2 (cmpE_lt x y)
theorem ltOf_t {x y : Ed} : ltOf cmpE x y = true ↔ ltE x y := by rw [ltOf_iff, decide_eq_true_iff]
theorem ltOf_f {x y : Ed} : ltOf cmpE x y = false ↔ ¬ ltE x y := by rw [ltOf_iff, decide_eq_false_iff_not]
theorem swoE : SWO (ltOf cmpE) where
  irrefl x := by rw [ltOf_f]; unfold ltE; omega
  trans x y z h1 h2 := by rw [ltOf_t] at *; unfold ltE at *; omega
  ntrans x y z h1 h2 := by rw [ltOf_f] at *; unfold ltE at *; omega
theorem totE (x y : Ed) (h1 : ltOf cmpE x y = false) (h2 : ltOf cmpE y x = false) : x = y := by
  rw [ltOf_f] at *; unfold ltE at *
  exact Prod.ext (by omega) (by omega)
def sortE (l : List Ed) : List Ed := l.mergeSort fun x y => !(ltOf cmpE) y x
theorem sortE_perm (l : List Ed) : (sortE l).Perm l := List.mergeSort_perm l _
theorem sortE_sorted (l : List Ed) : (sortE l).Pairwise fun x y => ¬ ltE y x := by
  have := List.pairwise_mergeSort (le := fun x y : Ed => !(ltOf cmpE) y x) (fun a b c h1 h2 => by
    simp only [Bool.not_eq_true', ltOf_f] at *; unfold ltE at *; omega) (fun a b => by
    simp only [Bool.or_eq_true, Bool.not_eq_true', ltOf_f]; unfold ltE; omega) l
  exact this.imp fun h => by simpa only [Bool.not_eq_true', ltOf_f] using h
open Classical in
noncomputable def sortF (l : Flat) : Flat := if h : ∃ E : List Ed, l = edges E then edges (sortE h.choose) else l
theorem sortF_edges (E : List Ed) : sortF (edges E) = edges (sortE E) := by
  have h : ∃ E' : List Ed, edges E = edges E' := ⟨E, rfl⟩
  unfold sortF
  rw [dif_pos h, ← edges_inj h.choose_spec]
theorem SortFn_row : RowFnCall Try.prog 91 92 2 (fun l => ∃ E : List Ed, l = edges E ∧ E.length ≤ 1000000) sortF := by
  refine ⟨⟨_, Try.func91, by decide, by simp [Try.f91]⟩, ?_, ?_⟩
  · rintro l ⟨E, rfl, _⟩
    rw [sortF_edges, edges_length, edges_length, (sortE_perm E).length_eq]
  · rintro l ⟨E, rfl, hE⟩ w own key A cap h hown
    rw [sortF_edges]
    rcases Nat.eq_zero_or_pos E.length with h0 | h0
    · have : E = [] := List.eq_nil_of_length_eq_zero h0
      subst this
      refine (AnyF.slices_SortFunc_none Try.laysSortF A cap _ w).mono ?_
      rintro e w' ⟨rfl, rfl⟩
      exact ⟨rfl, Frm.refl _ _, by simpa [sortE] using h⟩
    · have hlen : (edges (sortE E)).length = (edges E).length := by rw [edges_length, edges_length, (sortE_perm E).length_eq]
      obtain ⟨b, off, arr, T, hA, ho, hh, hs, hlay⟩ := h.lay (lo := 0) (S := edges (sortE E)) (by omega) (by rw [hlen, edges_length]; exact h0) (edges_even _)
      rw [Nat.zero_mul, Nat.add_zero] at hs hlay
      rw [splice_all hlen] at hlay
      have hH : HoldsK encE 2 w b off E.toArray := by
        unfold HoldsK
        rw [flatK_edges]
        exact holds_row h hA hh
      have eg : ∀ args w, (callFunc 92 args).run Try.prog w = .ok (.enter 92 args) w := enters_of Try.func92 (by kernel_rfl) rfl
      subst hA
      rw [edges_length]
      refine (AnyQ.slices_SortFunc_total Try.laysSortF 2 Try.isAgg60 Try.sizeOf60 encE (fun _ => rfl) (fun x v hv => by simp [encE] at hv; rcases hv with rfl | rfl <;> rfl) cmpE swoE 92 #[] b off cap E.toArray w eg (fun _ _ _ _ x y => clo_call x y _) hH (hown b _ ho) (by simp; omega) totE).mono ?_
      rintro e w' ⟨rfl, q, os, hw⟩
      have hw2 : w' = grow (putRow id (Sort.ahead w q) b off (cellsR (edges (sortE E))).toArray) os := by rw [hw, sortWorldK, putRowK, ← flatK_edges]; rfl
      obtain ⟨h1, h2⟩ := put_row (q := q) (os := os) ho hh hs hlay hown hw2
      exact ⟨rfl, h1, h2⟩
end Go.Sh

set_option linter.unusedVariables false
set_option linter.unusedSimpArgs false
namespace Go.Sh
open Go.Proofs
/-! ### graph.Normal -/
/-- what is kept ahead of the sorting -/
def prs (l : List Ed) : List Ed := l.filterMap fun p => if p.1 = p.2 then none else some (edN p)
theorem prs_snoc (l : List Ed) (p : Ed) : prs (l ++ [p]) = prs l ++ (if p.1 = p.2 then [] else [edN p]) := by
  unfold prs
  rw [List.filterMap_append]
  congr 1
  by_cases h : p.1 = p.2 <;> simp [h]
theorem prs_length (l : List Ed) : (prs l).length ≤ l.length := List.length_filterMap_le _ _
theorem mem_prs {l : List Ed} {x : Ed} : x ∈ prs l ↔ ∃ p ∈ l, p.1 ≠ p.2 ∧ x = edN p := by
  unfold prs
  rw [List.mem_filterMap]
  constructor
  · rintro ⟨p, hp, h⟩
    split at h
    · simp at h
    · rename_i hne; injection h with h; exact ⟨p, hp, hne, h.symm⟩
  · rintro ⟨p, hp, hne, rfl⟩
    exact ⟨p, hp, by rw [if_neg hne]⟩
theorem norm_of {l M : List Ed} (hs : M.Pairwise ltE) (hm : ∀ x, x ∈ M ↔ x ∈ sortE (prs l)) : M = normE l :=
  sortedE_eq hs (normE_sorted l) fun x => by rw [hm, (sortE_perm _).mem_iff, mem_prs, mem_normE]
noncomputable def XNor : Cx := { Γ := [], T := T, nt := 70, inl := [(93, inlF Try.f93)], ext := [91], base := rowFnCR 91 92 2 (fun l => ∃ E : List Ed, l = edges E ∧ E.length ≤ 1000000) sortF }
theorem XNor_ok : CrOk Try.prog (callAt 1 XNor) := callAt_ok hmix hT sound_nil (inl_cons Try.func93 (by rfl) (by rfl) (by rfl) inl_nil) (rowFn_ok SortFn_row) 1
theorem edges_set (l : List Ed) (i : Nat) (x : Ed) : (edges l).set i [.i .i64 x.1, .i .i64 x.2] = edges (l.set i x) := by simp [edges, List.map_set]
theorem take_spl {α : Type} (l m : List α) (i : Nat) (h : i + m.length ≤ l.length) : (splice l i m).take i = l.take i := by
  apply List.ext_getElem?
  intro j
  rw [List.getElem?_take, List.getElem?_take]
  split
  · rw [splice_get _ _ _ _ h, if_neg (by omega)]
  · rfl
set_option maxHeartbeats 2000000 in
theorem NormG_p : SoundP Try.prog 56 (conF (fun a : Int × List Ed => a.2.length ≤ 1000000) (fun a => [.one (.s (.i .i64 a.1)), .one (.flat false 2 (edges a.2))]) (fun a => .tup [grO (normF a.1 a.2).1.1 (normF a.1 a.2).1.2, .one (.s (.i .i64 (normF a.1 a.2).2))])) := by
  refine con_pure (X := XNor) (cr := callAt 1 XNor) XNor_ok hmix hT sound_nil Try.func56 (by rfl) (by rfl) (by rfl) 2 ?_
  rintro ⟨n, l⟩ hl
  dsimp only at hl
  refine ⟨⟨Nat.le_of_ble_eq_true rfl, Nat.le_of_ble_eq_true rfl⟩, ?_⟩
  refine Pick.by (fun h1 => ?_) (fun h1 => ?_)
  · have h1 : n < 0 := by simpa using h1
    have hv : normF n l = ((0, []), 1) := if_pos h1
    dsimp only
    rw [hv]
    exact ⟨rfl, rfl, ⟨rfl, ⟨rfl, rfl⟩, trivial⟩, rfl, trivial⟩
  have h1 : ¬ n < 0 := by simpa using h1
  refine Pick.by (fun h2 => ?_) (fun h2 => ?_)
  · have h2 : n > 1000 := by simpa using h2
    have hv : normF n l = ((0, []), 5) := by unfold normF; rw [if_neg h1, if_pos h2]
    dsimp only
    rw [hv]
    exact ⟨rfl, rfl, ⟨rfl, ⟨rfl, rfl⟩, trivial⟩, rfl, trivial⟩
  have h2 : ¬ n > 1000 := by simpa using h2
  refine LoopP.intro (α := Nat) (fun i => i ≤ l.length ∧ ∀ q ∈ l.take i, inR n q) (fun i => l.length - i) (fun i => [(0, .s (.i .i64 n)), (4, .ptr 0 0), (5, .s (.i .i64 0)), (6, .sl 2 none none), (17, .sl 1 none none), (18, .s (.i .i64 l.length)), (19, .s (.i .i64 i))])
    (fun i => [(0, some (.blk [.s (.i .i64 0), .nils])), (1, some (.flat false 2 (edges l))), (2, some (.flat true 2 (edges (prs (l.take i)))))]) 3 0 ⟨by omega, by simp⟩ (by refine Weak.by [(0, some _), (1, some _), (2, none)] (by ((repeat' first | exact rfl | exact trivial | refine And.intro ?_ ?_) <;> (repeat' first | exact rfl | exact trivial | refine And.intro ?_ ?_)); all_goals (first | exact sc_eq (by rw [edges_length]) | simp [prs, edges])) (by ((repeat' first | exact rfl | exact trivial | refine And.intro ?_ ?_) <;> (repeat' first | exact rfl | exact trivial | refine And.intro ?_ ?_)); all_goals (first | exact sc_eq (by rw [edges_length]) | simp [prs, edges])) (by rfl)) ?_
  rintro i ⟨hi, hin⟩
  refine Pick.by (fun hc => ?_) (fun hc => ?_)
  · have hlt : i < l.length := by simpa using hc
    have hbad : ¬ inR n l[i] → normF n l = ((0, []), 4) := fun h => by
      unfold normF
      rw [if_neg h1, if_neg h2, if_neg fun k => h (k _ (List.getElem_mem hlt))]
    refine Idx.by i rfl (by rw [edges_length]; exact hlt) ?_
    refine Look.by _ (edges_get (List.getElem?_eq_getElem hlt)) ?_
    refine Pick.by (fun h3 => ?_) (fun h3 => ?_)
    · have h3 : mnI l[i].1 l[i].2 < 0 := of_decide_eq_true h3
      have hv := hbad (fun h => by unfold inR at h; unfold mnI at h3; split at h3 <;> omega)
      dsimp only
      rw [hv]
      exact ⟨rfl, rfl, ⟨rfl, ⟨rfl, rfl⟩, trivial⟩, rfl, trivial⟩
    have h3 : ¬ mnI l[i].1 l[i].2 < 0 := of_decide_eq_false h3
    refine Pick.by (fun h4 => ?_) (fun h4 => ?_)
    · have h4 : mxI l[i].1 l[i].2 ≥ n := of_decide_eq_true h4
      have hv := hbad (fun h => by unfold inR at h; unfold mxI at h4; split at h4 <;> omega)
      dsimp only
      rw [hv]
      exact ⟨rfl, rfl, ⟨rfl, ⟨rfl, rfl⟩, trivial⟩, rfl, trivial⟩
    have h4 : ¬ mxI l[i].1 l[i].2 ≥ n := of_decide_eq_false h4
    have hok : inR n l[i] := by unfold inR; unfold mnI at h3; unfold mxI at h4; split at h3 <;> split at h4 <;> omega
    have hin2 := all_take hlt hin hok
    have ht : l.take (i + 1) = l.take i ++ [l[i]] := List.take_succ_eq_append_getElem hlt
    have hpl := prs_length (l.take i)
    rw [List.length_take] at hpl
    refine Pick.by (fun h5 => ?_) (fun h5 => ?_)
    · have h5 : l[i].1 ≠ l[i].2 := by simpa using h5
      refine Pick.T (by simp [cut, edges_length]; omega) ?_
      refine Pick.T (inI64_of (by omega) (by omega)) ?_
      refine Next.by (i + 1) ⟨by omega, hin2⟩ (by show l.length - (i + 1) < l.length - i; omega) (by refine Weak.by [(0, some _), (1, some _), (2, some _)] (by ((repeat' first | exact rfl | exact trivial | refine And.intro ?_ ?_) <;> (repeat' first | exact rfl | exact trivial | refine And.intro ?_ ?_)); all_goals ((rw [ht, prs_snoc, if_neg h5, edges_snoc]; rfl))) (by ((repeat' first | exact rfl | exact trivial | refine And.intro ?_ ?_) <;> (repeat' first | exact rfl | exact trivial | refine And.intro ?_ ?_)); all_goals ((rw [ht, prs_snoc, if_neg h5, edges_snoc]; rfl))) (by rfl))
    · have h5 : l[i].1 = l[i].2 := by simpa using h5
      refine Pick.T (inI64_of (by omega) (by omega)) ?_
      refine Next.by (i + 1) ⟨by omega, hin2⟩ (by show l.length - (i + 1) < l.length - i; omega) (by refine Weak.by [(0, some _), (1, some _), (2, some _)] (by ((repeat' first | exact rfl | exact trivial | refine And.intro ?_ ?_) <;> (repeat' first | exact rfl | exact trivial | refine And.intro ?_ ?_)); all_goals ((rw [ht, prs_snoc, if_pos h5, List.append_nil]))) (by ((repeat' first | exact rfl | exact trivial | refine And.intro ?_ ?_) <;> (repeat' first | exact rfl | exact trivial | refine And.intro ?_ ?_)); all_goals ((rw [ht, prs_snoc, if_pos h5, List.append_nil]))) (by rfl))
  have hge : l.length ≤ i := by simpa using hc
  rw [List.take_of_length_le hge] at hin
  have hi' : i = l.length := by omega
  subst hi'
  rw [List.take_length]
  have hpl := prs_length l
  have hval : normF n l = if (normE l).length > 4000 then ((0, []), 5) else ((n, normE l), 0) := by
    unfold normF
    rw [if_neg h1, if_neg h2, if_pos hin]
  refine ⟨rfl, rfl, _, rfl, ⟨_, rfl, by omega⟩, ?_⟩
  rw [sortF_edges]
  obtain ⟨L, hL⟩ : ∃ L, L = sortE (prs l) := ⟨_, rfl⟩
  have hLl : L.length ≤ 1000000 := by rw [hL, (sortE_perm _).length_eq]; omega
  have hLs : L.Pairwise fun x y => ¬ ltE y x := by rw [hL]; exact sortE_sorted _
  have hLm : ∀ M : List Ed, M.Pairwise ltE → (∀ x, x ∈ M ↔ x ∈ L) → M = normE l := fun M h1 h2 => norm_of h1 fun x => by rw [h2, hL]
  rw [← hL]
  clear hL
  refine Pick.by (fun h6 => ?_) (fun h6 => ?_)
  · have h6 : L.length < 2 := by simp [edges_length] at h6; omega
    have hfin : L = normE l := hLm L (by
      match L, h6 with
      | [], _ => exact List.Pairwise.nil
      | [a], _ => simp) (fun x => Iff.rfl)
    rw [hfin]
    refine Pick.by (fun h20 => ?_) (fun h20 => ?_)
    · have h20 : (normE l).length > 4000 := by simp [edges_length] at h20; omega
      have hv : normF n l = ((0, []), 5) := by rw [hval, if_pos h20]
      dsimp only
      rw [hv]
      exact ⟨rfl, rfl, ⟨rfl, ⟨rfl, rfl⟩, trivial⟩, rfl, trivial⟩
    · have h20 : ¬ (normE l).length > 4000 := by simp [edges_length] at h20; omega
      have hv : normF n l = ((n, normE l), 0) := by rw [hval, if_neg h20]
      dsimp only
      rw [hv]
      exact ⟨rfl, rfl, ⟨rfl, ⟨rfl, rfl⟩, trivial⟩, rfl, trivial⟩
  have h6 : ¬ L.length < 2 := by simp [edges_length] at h6; omega
  refine LoopP.intro (α := Nat) (fun k => 1 ≤ k ∧ k ≤ L.length ∧ (L.take k).Pairwise ltE) (fun k => L.length - k) (fun k => [(0, .sl 1 none none), (3, .s (.i .i64 k)), (1000000, .s (.i .i64 n)), (1000004, .ptr 0 0)])
    (fun k => [(0, some (.blk [.s (.i .i64 0), .nils])), (1, some (.flat true 2 (edges L)))]) 2 1 ⟨by omega, by omega, ?_⟩ (by refine Weak.by [(0, some _), (1, some _)] (by ((repeat' first | exact rfl | exact trivial | refine And.intro ?_ ?_) <;> (repeat' first | exact rfl | exact trivial | refine And.intro ?_ ?_))) (by ((repeat' first | exact rfl | exact trivial | refine And.intro ?_ ?_) <;> (repeat' first | exact rfl | exact trivial | refine And.intro ?_ ?_))) (by rfl)) ?_
  · rw [List.take_one]; cases L[0]? <;> simp
  rintro k ⟨hk1, hk, hp⟩
  refine Pick.by (fun h7 => ?_) (fun h7 => ?_)
  · have hkl : k < L.length := by simp [edges_length] at h7; omega
    refine Idx.by k rfl (by rw [edges_length]; exact hkl) ?_
    refine Look.by _ (edges_get (List.getElem?_eq_getElem hkl)) ?_
    refine Pick.T (inI64_of (by omega) (by omega)) ?_
    refine Idx.by (k - 1) (by omega) (by rw [edges_length]; omega) ?_
    refine Look.by _ (edges_get (List.getElem?_eq_getElem (show k - 1 < L.length by omega))) ?_
    refine Seg.by (by kernel_rfl) ?_
    have hsorted := List.pairwise_iff_getElem.1 hLs
    refine Pick.by (fun h8 => ?_) (fun h8 => ?_)
    · have h8 : L[k].1 = L[k - 1].1 ∧ L[k].2 = L[k - 1].2 := by simpa using h8
      have h8 : L[k] = L[k - 1] := Prod.ext h8.1 h8.2
      refine Rng.by k L.length rfl (by rw [edges_length]) (by omega) (by rw [edges_length]; omega) ?_
      refine LoopP.intro (α := Nat × Nat × List Ed) (fun p => 1 ≤ p.1 ∧ p.1 < k + p.2.1 ∧ 1 ≤ p.2.1 ∧ k + p.2.1 ≤ L.length ∧ p.2.2.length = L.length ∧ (p.2.2.take p.1).Pairwise ltE ∧ (∀ x, x ∈ p.2.2.take p.1 ↔ x ∈ L.take (k + p.2.1)) ∧ p.2.2[p.1 - 1]? = L[k + p.2.1 - 1]? ∧ ∀ j, k + p.2.1 - 1 ≤ j → p.2.2[j]? = L[j]?)
        (fun p => L.length - (k + p.2.1)) (fun p => [(0, .sl 1 none none), (3, .s (.i .i64 p.1)), (4, .sl 1 none (some (k, L.length - k))), (5, .s (.i .i64 p.2.1)), (1000000, .s (.i .i64 n)), (1000004, .ptr 0 0)])
        (fun p => [(0, some (.blk [.s (.i .i64 0), .nils])), (1, some (.flat true 2 (edges p.2.2)))]) 2 (k, 1, L) ?_ (by refine Weak.by [(0, some _), (1, some _)] (by ((repeat' first | exact rfl | exact trivial | refine And.intro ?_ ?_) <;> (repeat' first | exact rfl | exact trivial | refine And.intro ?_ ?_))) (by ((repeat' first | exact rfl | exact trivial | refine And.intro ?_ ?_) <;> (repeat' first | exact rfl | exact trivial | refine And.intro ?_ ?_))) (by rfl)) ?_
      · refine ⟨hk1, by simp only; omega, by simp, by simp only; omega, rfl, hp, fun x => ?_, ?_, fun j _ => rfl⟩
        · show x ∈ L.take k ↔ x ∈ L.take (k + 1)
          rw [List.take_succ_eq_append_getElem hkl, List.mem_append]
          constructor
          · exact .inl
          · rintro (h | h)
            · exact h
            · simp at h
              rw [h, h8]
              exact List.mem_iff_getElem?.2 ⟨k - 1, by rw [List.getElem?_take, if_pos (by omega), List.getElem?_eq_getElem]⟩
        · show L[k - 1]? = L[k + 1 - 1]?
          rw [show k + 1 - 1 = k by omega, List.getElem?_eq_getElem hkl, List.getElem?_eq_getElem (by omega), h8]
      rintro ⟨kk, k2, M⟩ ⟨g1, g2, g3, g4, g5, g6, g7, g8, g9⟩
      dsimp only at g1 g2 g3 g4 g5 g6 g7 g8 g9
      refine Pick.by (fun h9 => ?_) (fun h9 => ?_)
      · have h9 : k + k2 < L.length := by simp at h9; omega
        have e1 : M[k + k2]? = some L[k + k2] := by rw [g9 _ (by omega)]; exact List.getElem?_eq_getElem h9
        have e2 : M[k + (k2 - 1)]? = some L[k + (k2 - 1)] := by rw [g9 _ (by omega)]; exact List.getElem?_eq_getElem (by omega)
        refine Idx.by k2 rfl (by omega) ?_
        refine Look.by _ (edges_get e1) ?_
        refine Pick.T (inI64_of (by dsimp only; omega) (by dsimp only; omega)) ?_
        refine Idx.by (k2 - 1) (by dsimp only; omega) (by omega) ?_
        refine Look.by _ (edges_get e2) ?_
        refine Seg.by (by kernel_rfl) ?_
        have e3 : L[k + (k2 - 1)] = L[k + k2 - 1] := by congr 1; omega
        refine Pick.by (fun h10 => ?_) (fun h10 => ?_)
        · have h10 : L[k + k2] ≠ L[k + (k2 - 1)] := fun h => by rw [h] at h10; simp at h10
          have hlt : ltE L[k + (k2 - 1)] L[k + k2] := by
            have h11 := hsorted (k + (k2 - 1)) (k + k2) (by omega) h9 (by omega)
            unfold ltE at h11 ⊢
            rcases Int.lt_trichotomy L[k + k2].1 L[k + (k2 - 1)].1 with h | h | h
            · omega
            · rcases Int.lt_trichotomy L[k + k2].2 L[k + (k2 - 1)].2 with h' | h' | h'
              · omega
              · exact absurd (Prod.ext h h') h10
              · omega
            · omega
          refine Idx.by k2 rfl (by omega) ?_
          refine Look.by _ (edges_get e1) ?_
          have hkM : kk < M.length := by omega
          refine Idx.by kk rfl (by rw [edges_length]; exact hkM) ?_
          refine Look.by _ (edges_get (List.getElem?_eq_getElem hkM)) ?_
          refine Pick.T (inI64_of (by dsimp only; omega) (by dsimp only; omega)) ?_
          refine Pick.T (inI64_of (by dsimp only; omega) (by dsimp only; omega)) ?_
          have hsp : (M.set kk L[k + k2]).take (kk + 1) = M.take kk ++ [L[k + k2]] := by
            rw [List.take_succ_eq_append_getElem (by rw [List.length_set]; exact hkM), List.getElem_set_self, List.take_set_of_le (Nat.le_refl _)]
          have hlast : M[kk - 1]? = some L[k + (k2 - 1)] := by rw [g8, show k + k2 - 1 = k + (k2 - 1) by omega]; exact List.getElem?_eq_getElem (by omega)
          refine Next.by (kk + 1, k2 + 1, M.set kk L[k + k2]) ⟨by dsimp only; omega, by dsimp only; omega, by dsimp only; omega, by dsimp only; omega, by simpa using g5, ?_, fun x => ?_, ?_, fun j hj => ?_⟩ (by dsimp only; omega) (by refine Weak.by [(0, some _), (1, some _)] (by ((repeat' first | exact rfl | exact trivial | refine And.intro ?_ ?_) <;> (repeat' first | exact rfl | exact trivial | refine And.intro ?_ ?_)); all_goals ((rw [← edges_set]; rfl))) (by ((repeat' first | exact rfl | exact trivial | refine And.intro ?_ ?_) <;> (repeat' first | exact rfl | exact trivial | refine And.intro ?_ ?_)); all_goals ((rw [← edges_set]; rfl))) (by rfl))
          · show ((M.set kk L[k + k2]).take (kk + 1)).Pairwise ltE
            rw [hsp, List.pairwise_append]
            refine ⟨g6, by simp, fun a ha b hb => ?_⟩
            simp at hb
            subst hb
            obtain ⟨j, hj, rfl⟩ := List.mem_iff_getElem.1 ha
            rw [List.length_take] at hj
            rcases Nat.lt_or_ge j (kk - 1) with h | h
            · have h12 := List.pairwise_iff_getElem.1 g6 j (kk - 1) (by rw [List.length_take]; omega) (by rw [List.length_take]; omega) h
              have h13 : (M.take kk)[kk - 1]'(by rw [List.length_take]; omega) = L[k + (k2 - 1)] := by
                have : (M.take kk)[kk - 1]? = some L[k + (k2 - 1)] := by rw [List.getElem?_take, if_pos (by omega)]; exact hlast
                rw [List.getElem?_eq_getElem (by rw [List.length_take]; omega)] at this
                injection this
              rw [h13] at h12
              exact h12.trans hlt
            · have hj' : j = kk - 1 := by omega
              subst hj'
              have h13 : (M.take kk)[kk - 1]'(by rw [List.length_take]; omega) = L[k + (k2 - 1)] := by
                have : (M.take kk)[kk - 1]? = some L[k + (k2 - 1)] := by rw [List.getElem?_take, if_pos (by omega)]; exact hlast
                rw [List.getElem?_eq_getElem (by rw [List.length_take]; omega)] at this
                injection this
              rw [h13]
              exact hlt
          · show x ∈ (M.set kk L[k + k2]).take (kk + 1) ↔ x ∈ L.take (k + (k2 + 1))
            rw [hsp, List.mem_append, g7, show k + (k2 + 1) = k + k2 + 1 by omega, List.take_succ_eq_append_getElem h9, List.mem_append]
          · show (M.set kk L[k + k2])[kk + 1 - 1]? = L[k + (k2 + 1) - 1]?
            rw [show kk + 1 - 1 = kk by omega, show k + (k2 + 1) - 1 = k + k2 by omega, List.getElem?_set_self hkM]
            exact (List.getElem?_eq_getElem h9).symm
          · show (M.set kk L[k + k2])[j]? = L[j]?
            have hj : k + (k2 + 1) - 1 ≤ j := hj
            rw [List.getElem?_set_ne (by omega)]
            exact g9 j (by omega)
        · have h10 : L[k + k2] = L[k + (k2 - 1)] := by
            have h10 : L[k + k2].1 = L[k + (k2 - 1)].1 ∧ L[k + k2].2 = L[k + (k2 - 1)].2 := by simpa using h10
            exact Prod.ext h10.1 h10.2
          refine Pick.T (inI64_of (by dsimp only; omega) (by dsimp only; omega)) ?_
          refine Next.by (kk, k2 + 1, M) ⟨g1, by dsimp only; omega, by dsimp only; omega, by dsimp only; omega, g5, g6, fun x => ?_, ?_, fun j hj => g9 j (by dsimp only at hj; omega)⟩ (by dsimp only; omega) (by refine Weak.by [(0, some _), (1, some _)] (by ((repeat' first | exact rfl | exact trivial | refine And.intro ?_ ?_) <;> (repeat' first | exact rfl | exact trivial | refine And.intro ?_ ?_))) (by ((repeat' first | exact rfl | exact trivial | refine And.intro ?_ ?_) <;> (repeat' first | exact rfl | exact trivial | refine And.intro ?_ ?_))) (by rfl))
          · show x ∈ M.take kk ↔ x ∈ L.take (k + (k2 + 1))
            rw [g7, show k + (k2 + 1) = k + k2 + 1 by omega, List.take_succ_eq_append_getElem h9, List.mem_append]
            constructor
            · exact .inl
            · rintro (h | h)
              · exact h
              · simp at h
                rw [h, h10]
                exact List.mem_iff_getElem?.2 ⟨k + (k2 - 1), by rw [List.getElem?_take, if_pos (by omega), List.getElem?_eq_getElem]⟩
          · show M[kk - 1]? = L[k + (k2 + 1) - 1]?
            rw [g8, show k + (k2 + 1) - 1 = k + k2 by omega, List.getElem?_eq_getElem h9, List.getElem?_eq_getElem (by omega), h10, e3]
      have h9 : L.length = k + k2 := by simp at h9; omega
      refine Rng.by kk L.length rfl (by dsimp only; rw [edges_length, g5]) (by omega) (by dsimp only; rw [edges_length]; omega) ?_
      have hkL : kk ≤ (edges M).length := by rw [edges_length]; omega
      have hc1 : (cut (subOf none 0 kk L.length) (edges M)).length = L.length - kk := by
        show (((edges M).drop kk).take (L.length - kk)).length = _
        rw [List.length_take, List.length_drop, edges_length]; omega
      refine Pick.T (decide_eq_true (by
        show kk + (cut (subOf none 0 kk L.length) (edges M)).length ≤ (edges M).length
        rw [hc1, edges_length]; omega)) ?_
      have hnrm : M.take kk = normE l := hLm _ g6 fun x => by rw [g7, ← h9, List.take_length]
      have hkn : (normE l).length = kk := by rw [← hnrm, List.length_take]; omega
      have hb : kk + (List.replicate (cut (subOf none 0 kk L.length) (edges M)).length [Sc.i .i64 0, Sc.i .i64 0]).length ≤ (edges M).length := by rw [List.length_replicate, hc1, edges_length]; omega
      have hfl : (splice (edges M) kk (List.replicate (cut (subOf none 0 kk L.length) (edges M)).length [Sc.i .i64 0, Sc.i .i64 0])).take kk = edges (normE l) := by
        rw [take_spl _ _ _ hb, ← hnrm]
        simp [edges, List.map_take]
      have hsl := splice_length (edges M) kk _ hb
      refine Rng.by 0 kk rfl rfl (by omega) (by
        show kk ≤ (splice (edges M) kk (List.replicate (cut (subOf none 0 kk L.length) (edges M)).length [Sc.i .i64 0, Sc.i .i64 0])).length
        rw [hsl]; exact hkL) ?_
      refine Pick.by (fun h20 => ?_) (fun h20 => ?_)
      · have h20 : (normE l).length > 4000 := by simp at h20; omega
        have hv : normF n l = ((0, []), 5) := by rw [hval, if_pos h20]
        dsimp only
        rw [hv]
        exact ⟨rfl, rfl, ⟨rfl, ⟨rfl, rfl⟩, trivial⟩, rfl, trivial⟩
      · have h20 : ¬ (normE l).length > 4000 := by simp at h20; omega
        have hv : normF n l = ((n, normE l), 0) := by rw [hval, if_neg h20]
        dsimp only
        rw [hv]
        exact ⟨rfl, rfl, ⟨rfl, ⟨rfl, hfl.symm⟩, trivial⟩, rfl, trivial⟩
    have h8 : L[k] ≠ L[k - 1] := fun h => by rw [h] at h8; simp at h8
    refine Pick.T (inI64_of (by omega) (by omega)) ?_
    refine Next.by (k + 1) ⟨by omega, by omega, pw_step hkl hp (fun _ => ?_)⟩ (by show L.length - (k + 1) < L.length - k; omega) (by refine Weak.by [(0, some _), (1, some _)] (by ((repeat' first | exact rfl | exact trivial | refine And.intro ?_ ?_) <;> (repeat' first | exact rfl | exact trivial | refine And.intro ?_ ?_))) (by ((repeat' first | exact rfl | exact trivial | refine And.intro ?_ ?_) <;> (repeat' first | exact rfl | exact trivial | refine And.intro ?_ ?_))) (by rfl))
    have h11 := hsorted (k - 1) k (by omega) hkl (by omega)
    unfold ltE at h11 ⊢
    rcases Int.lt_trichotomy L[k].1 L[k - 1].1 with h | h | h
    · omega
    · rcases Int.lt_trichotomy L[k].2 L[k - 1].2 with h' | h' | h'
      · omega
      · exact absurd (Prod.ext h h') h8
      · omega
    · omega
  have hkl : k = L.length := by simp [edges_length] at h7; omega
  subst hkl
  rw [List.take_length] at hp
  have hfin : L = normE l := hLm L hp fun x => Iff.rfl
  rw [hfin]
  refine Pick.by (fun h20 => ?_) (fun h20 => ?_)
  · have h20 : (normE l).length > 4000 := by simp [edges_length] at h20; omega
    have hv : normF n l = ((0, []), 5) := by rw [hval, if_pos h20]
    dsimp only
    rw [hv]
    exact ⟨rfl, rfl, ⟨rfl, ⟨rfl, rfl⟩, trivial⟩, rfl, trivial⟩
  · have h20 : ¬ (normE l).length > 4000 := by simp [edges_length] at h20; omega
    have hv : normF n l = ((n, normE l), 0) := by rw [hval, if_neg h20]
    dsimp only
    rw [hv]
    exact ⟨rfl, rfl, ⟨rfl, ⟨rfl, rfl⟩, trivial⟩, rfl, trivial⟩
theorem NormG_ok : SoundC Try.prog T 56 NormC := sound_pure Try.func56 (by rfl) (by rfl) (by simp [NormC, conP]) NormG_p
end Go.Sh

set_option linter.unusedVariables false
set_option linter.unusedSimpArgs false
namespace Go.Proofs
open Go.RowKit Go.Shelf Go.Sh

attribute [local go_sem] Oper.semAt_some
theorem Try.infoE : (Try.prog.info? 60).map (fun i => (i.zero, i.size, i.bytes)) = some (some (.agg #[.int .i64 0, .int .i64 0]), 2, 16) := by kernel_rfl
/-- the edges that are left of some under new numbers -/
def Try.renE (f : Int → Int) (E : List Ed) : List Ed := E.filterMap fun p => if f p.1 ≥ 0 ∧ f p.2 ≥ 0 then some (f p.1, f p.2) else none
/-- what sub.Contract's closure tells -/
def Try.conF (hi lo x : Int) : Int := if x = hi then lo else if x > hi then x - 1 else x
end Go.Proofs

set_option linter.unusedVariables false
set_option linter.unusedSimpArgs false
namespace Go.Proofs
open Go.RowKit Go.Shelf Go.Sh

attribute [local go_sem] Oper.semAt_some
theorem Try.wide_fn (f : Nat) : Fence.wide.fn f = True := rfl
attribute [local go_sem] Try.wide_fn
end Go.Proofs

set_option linter.unusedVariables false
set_option linter.unusedSimpArgs false
namespace Go.Sh
open Go.Proofs Go.RowKit Go.Shelf
/-! ### graph.Near, graph.Has: contracts -/
def hasG (n : Int) (E : List Ed) (a b : Int) : Bool := decide (RightP n E) && (nearL E a).elem b
noncomputable def HasGC : Con := conP 3 (fun a : (Int × List Ed) × Int × Int => a.1.2.length ≤ 1000000) (fun a => [grV a.1.1 a.1.2, .one (.s (.i .i64 a.2.1)), .one (.s (.i .i64 a.2.2))]) (fun a => .one (.s (.b (hasG a.1.1 a.1.2 a.2.1 a.2.2))))
theorem HasGC_at {n : Int} {E : List Ed} (a b : Int) (h : E.length ≤ 1000000) : HasGC.F [grV n E, .one (.s (.i .i64 a)), .one (.s (.i .i64 b))] = some (.one (.s (.b (hasG n E a b))), []) :=
  conP_at (a := ((n, E), a, b)) (fun x y _ _ h => by
    obtain ⟨⟨n, E⟩, a, b⟩ := x
    obtain ⟨⟨n', E'⟩, a', b'⟩ := y
    simp at h
    obtain ⟨h1, h2, h3⟩ := h
    obtain ⟨rfl, rfl⟩ := grV_inj h1
    subst h2 h3
    rfl) h
theorem us_int {w : World} {q : Nat} {v : Int} {u : Value} (h : V1Ok w noLab q (.one (.s (.i .i64 v))) u) : u = .int .i64 v := by
  obtain ⟨x, h⟩ := h; exact h
theorem Has_ok : SoundC Try.prog T 37 HasGC := by
  refine sound_pure Try.func37 (by rfl) (by rfl) (by simp [HasGC, conP]) ?_
  intro vs r outs hF w us hus
  obtain ⟨⟨⟨n, E⟩, a, b⟩, hl, rfl, rfl⟩ := conF_inv (pre := fun a : (Int × List Ed) × Int × Int => a.1.2.length ≤ 1000000) (enc := fun a => [grV a.1.1 a.1.2, .one (.s (.i .i64 a.2.1)), .one (.s (.i .i64 a.2.2))]) (val := fun a => .one (.s (.b (hasG a.1.1 a.1.2 a.2.1 a.2.2)))) hF
  dsimp only at hl hus ⊢
  obtain ⟨u1, u2, u3, hu, h1, h2, h3⟩ : ∃ u1 u2 u3, us.toList = [u1, u2, u3] ∧ V1Ok w noLab 0 (grV n E) u1 ∧ V1Ok w noLab (0 + 2) (.one (.s (.i .i64 a))) u2 ∧ V1Ok w noLab (0 + 2 + 1) (.one (.s (.i .i64 b))) u3 := by
    match h : us.toList, hus with
    | [u1, u2, u3], hus => exact ⟨u1, u2, u3, rfl, hus.1, hus.2.1, hus.2.2.1⟩
    | [], hus => exact hus.elim
    | [_], hus => exact hus.2.elim
    | [_, _], hus => exact hus.2.2.elim
    | _ :: _ :: _ :: _ :: _, hus => exact hus.2.2.2.elim
  obtain rfl : us = #[u1, u2, u3] := by cases us; simp_all
  obtain ⟨A, c, rfl, hA⟩ := Try.gr_of h1
  rw [us_int h2, us_int h3]
  refine ((callsIn_wide (n := 6)).1 (Try.Has_in n a b E A c w hl hA)).mono ?_
  rintro e w' ⟨rfl, hb⟩
  exact ⟨_, noLab, rfl, ⟨hb.os, .of hb.tape, hb.output, hb.size, fun b h _ => hb.block b h⟩, fun b k h => by simp [noLab] at h, ⟨⟨none, 0, fun _ => none, fun _ => 0⟩, rfl⟩⟩
end Go.Sh

set_option linter.unusedVariables false
set_option linter.unusedSimpArgs false
namespace Go.Proofs
open Go.RowKit Go.Shelf Go.Sh

attribute [local go_sem] Oper.semAt_some
theorem Try.wide_fn2 (f : Nat) : Fence.wide.fn f = True := rfl
attribute [local go_sem] Try.wide_fn2
end Go.Proofs

set_option linter.unusedVariables false
set_option linter.unusedSimpArgs false
namespace Go.Sh
open Go.Proofs Go.RowKit Go.Shelf
/-! ### sub.Delete, sub.Contract: contracts -/
end Go.Sh

set_option linter.unusedVariables false
set_option linter.unusedSimpArgs false
namespace Go.Proofs
open Go.RowKit Go.Shelf Go.Sh

attribute [local go_sem] Oper.semAt_some
theorem Try.tE : Try.prog.underlying 22 = some (TypeDesc.slice 60) := by kernel_rfl
theorem Try.clear_edges (W : World) (b o n cap : Nat) (hn : n = 1) (ty : TypeId) (hc : ∀ j, j < 2 → (W.cell? ⟨b, o + j, none⟩).isSome = true) (hf : ∀ j, j < 2 → W.frozen? ⟨b, o + j, none⟩ = false) :
    (Builtin.clear_ #[22] ty #[.slice (some ⟨b, o, none⟩) n cap]).run Try.prog W = .ok (.tuple #[]) (W.setCells b o [.int .i64 0, .int .i64 0]) := by
  subst hn
  obtain ⟨i0, hi0, hz0, hz1, hz2⟩ := info_parts Try.infoE
  have hv : (zeroValue 60).run Try.prog W = .ok (.agg #[.int .i64 0, .int .i64 0]) W := by simp [zeroValue, typeInfo, hi0, hz0]
  have hzc : (Builtin.zeroCells #[.int .i64 0, .int .i64 0] 1).toList = [.int .i64 0, .int .i64 0] := (zero_rows (zr := [.i .i64 0, .i .i64 0]) rfl 1).trans rfl
  have hst := run_storeCells_cells (P := Try.prog) b o [.int .i64 0, .int .i64 0] 0 W (by simpa using hc) (by simpa using hf) (by intro v hv'; simp at hv'; subst hv'; rfl)
  simp only [Nat.add_zero] at hst
  simp [Builtin.clear_, run_underlying Try.tE, hv, Value.cells, hzc, hst]
set_option maxRecDepth 100000 in
set_option maxHeartbeats 2000000 in
theorem Try.delE_run (blk off cap i j : Nat) (hj : j = i + 1) (E : List Ed) (w : World) (arr : Array Value) (T : TypeId) (hh : w.heap[blk]? = some (.cells arr T (0, 0))) (hi : i < E.length) (hcap : E.length ≤ cap) (hsz : off + cap * 2 ≤ arr.size) (hl : E.length ≤ 1000000)
    (hc : ∀ (k : Nat) (x : Ed), E[k]? = some x → arr[off + k * 2]? = some (.int .i64 x.1) ∧ arr[off + k * 2 + 1]? = some (.int .i64 x.2)) :
    Calls Try.prog 66 #[.slice (some ⟨blk, off, none⟩) E.length cap, .int .i64 i, .int .i64 (j : Nat)] w fun e w' => e = .returned (.slice (some ⟨blk, off, none⟩) (E.length - 1) cap) ∧
      w' = (w.drew.setCells blk (off + i * 2) ((E.drop (i + 1)).flatMap encE)).setCells blk (off + (E.length - 1) * 2) [.int .i64 0, .int .i64 0] := by
  obtain ⟨i0, hi0, hz0, hz1, hz2⟩ := info_parts Try.infoE
  obtain ⟨news, hnews⟩ : ∃ news, news = (E.drop (i + 1)).flatMap encE := ⟨_, rfl⟩
  have hnl : news.length = (E.length - (i + 1)) * 2 := by
    rw [hnews]
    have : ∀ l : List Ed, (l.flatMap encE).length = l.length * 2 := fun l => by
      induction l with
      | nil => rfl
      | cons p l ih => simp only [List.flatMap_cons, List.length_append, ih, List.length_cons]; simp [encE]; omega
    rw [this, List.length_drop]
  have hcell : ∀ k, off + k < arr.size → w.cell? ⟨blk, off + k, none⟩ = arr[off + k]? := fun k _ => by simp [World.cell?, hh]
  have hget : ∀ t u, news[t]? = some u → arr[off + (i + 1) * 2 + t]? = some u := by
    intro t u hu
    have hcr : ∀ l : List Ed, l.flatMap encE = cellsR (edges l) := fun l => by
      unfold cellsR edges
      induction l with
      | nil => rfl
      | cons p l ih => simp only [List.map_cons, List.flatten_cons, List.map_append, List.flatMap_cons, ih]; rfl
    have htl : t < news.length := (List.getElem?_eq_some_iff.1 hu).1
    obtain ⟨x, hx⟩ : ∃ x, E[i + 1 + t / 2]? = some x := ⟨_, List.getElem?_eq_getElem (by omega)⟩
    have hrow : (edges (E.drop (i + 1)))[t / 2]? = some [.i .i64 x.1, .i .i64 x.2] := edges_get (by rw [List.getElem?_drop]; exact hx)
    have hfl := flat_get (edges_even (E.drop (i + 1))) (t / 2) (t % 2) _ hrow (by omega)
    rw [show t / 2 * 2 + t % 2 = t by omega] at hfl
    have hq : news[t]? = ([Sc.i .i64 x.1, Sc.i .i64 x.2][t % 2]?).map Sc.val := by rw [hnews, hcr, cellsR, List.getElem?_map, hfl]
    rw [hu] at hq
    obtain ⟨c1, c2⟩ := hc _ _ hx
    rcases Nat.mod_two_eq_zero_or_one t with h0 | h0
    · rw [h0] at hq
      simp [Sc.val] at hq
      rw [show off + (i + 1) * 2 + t = off + (i + 1 + t / 2) * 2 by omega, c1, hq]
    · rw [h0] at hq
      simp [Sc.val] at hq
      rw [show off + (i + 1) * 2 + t = off + (i + 1 + t / 2) * 2 + 1 by omega, c2, hq]
  have s2 : ∀ u ∈ news, u.oneCell' = true := by
    intro u hu
    rw [hnews] at hu
    obtain ⟨x, _, hx⟩ := List.mem_flatMap.1 hu
    simp [encE] at hx
    rcases hx with rfl | rfl <;> rfl
  have s3 : ∀ t, t < news.length → (w.drew.cell? ⟨blk, off + i * 2 + t, none⟩).isSome = true ∧ w.drew.frozen? ⟨blk, off + i * 2 + t, none⟩ = false := by
    intro t ht
    refine ⟨?_, by show w.frozen? _ = false; simp [World.frozen?, hh]⟩
    show (w.cell? _).isSome = true
    rw [Nat.add_assoc, hcell _ (by omega), Array.getElem?_eq_getElem (by omega)]; rfl
  obtain ⟨A, hA, hsrc⟩ : ∃ A : Addr, (if cap = j then some (⟨blk, off, none⟩ : Addr) else some ⟨blk, off + j * 2, none⟩) = some A ∧ (∀ t u, news[t]? = some u → w.drew.cell? (A.add t) = some u) := by
    subst hj
    by_cases h : cap = i + 1
    · refine ⟨⟨blk, off, none⟩, by simp [h], fun t u hu => ?_⟩
      have h0 : news.length = 0 := by rw [hnl]; omega
      rw [List.length_eq_zero_iff.1 h0] at hu
      simp at hu
    · refine ⟨⟨blk, off + (i + 1) * 2, none⟩, by simp [h], fun t u hu => ?_⟩
      rw [Addr.add_plain]
      show w.cell? _ = _
      rw [show off + (i + 1) * 2 + t = off + ((i + 1) * 2 + t) by omega, hcell _ (by have := (List.getElem?_eq_some_iff.1 hu).1; omega), ← Nat.add_assoc]
      exact hget t u hu
  have hic : i ≤ cap := by omega
  have hjc : j ≤ cap := by omega
  have hjl : j ≤ E.length := by omega
  have hij : i ≤ j := by omega
  have hne : ¬ i = j := by omega
  have hnl' : news.length = (E.length - j) * 2 := by rw [hj]; exact hnl
  have hroom : i + (E.length - j) ≤ cap := by omega
  have hlen1 : i + (E.length - j) = E.length - 1 := by omega
  have hcl : ∀ ty, (Builtin.clear_ #[22] ty #[.slice (some ⟨blk, off + (i + (E.length - j)) * 2, none⟩) (E.length - (i + (E.length - j))) (cap - (i + (E.length - j)))]).run Try.prog (w.drew.setCells blk (off + i * 2) news) = .ok (.tuple #[]) ((w.drew.setCells blk (off + i * 2) news).setCells blk (off + (i + (E.length - j)) * 2) [.int .i64 0, .int .i64 0]) := by
    intro ty
    obtain ⟨arr', k1, k2, _⟩ := heap_setCells blk news (off + i * 2) w.drew arr T (0, 0) hh (by omega)
    exact Try.clear_edges _ _ _ _ _ (by omega) ty (fun t ht => by simp only [World.cell?, k1]; rw [Array.getElem?_eq_getElem (by omega)]; rfl) (fun t ht => by simp [World.frozen?, k1])
  have hjH : Hid (j = i + 1) := hj
  have hlH : Hid (i + (E.length - j) = E.length - 1) := hlen1
  have hnH : Hid (news = (E.drop (i + 1)).flatMap encE) := hnews
  clear hj hlen1 hnews hnl hget hcell hc
  go_enter Try.func66, Try.ntmps66
  go_wp2_with fail
  go_region_law (refine step_append_room rfl (.tmp 22) (.tmp 25) 22 rfl 60 i0 2 Try.tE hi0 hz1 blk off i cap (by simp [Act.eval, Act.put]) A (E.length - j) (cap - j) news (by simp [Act.eval, Act.put]) hnl' hsrc s2 hroom s3 ?_)
  generalize hW1 : w.drew.setCells blk (off + i * 2) news = W1 at hcl ⊢
  go_wp2
  go_ret
  have hl1 := hlH.out
  refine ⟨by rw [← hl1]; rfl, ?_⟩
  rw [← hW1, hnH.out, hlH.out]
/-- .. and what the row holds then -/
theorem Try.delE_row {w : World} {own : Nat → Option Key} {key : Key} {A : Option Addr} {cap i j : Nat} {E : List Ed} (hj : j = i + 1) (h : FlatOk w own (some key) A cap 2 (edges E)) (hi : i < E.length) (hl : E.length ≤ 1000000) :
    Calls Try.prog 66 #[.slice A E.length cap, .int .i64 i, .int .i64 (j : Nat)] w fun e w' => e = .returned (.slice A (E.length - 1) cap) ∧ Frm (fun b => own b = some key) w w' ∧ FlatOk w' own (some key) A cap 2 (edges (E.eraseIdx i)) := by
  have hfit := h.fits
  rw [edges_length] at hfit
  rcases h.room rfl with ⟨_, h0⟩ | ⟨b, off, arr, T, rfl, ho, hh, hsz, hgr⟩
  · have h1 : (edges E).length = 0 := by rw [h0]; rfl
    rw [edges_length] at h1; omega
  have hc : ∀ (k : Nat) (x : Ed), E[k]? = some x → arr[off + k * 2]? = some (.int .i64 x.1) ∧ arr[off + k * 2 + 1]? = some (.int .i64 x.2) := by
    intro k x hk
    have hr := edges_get hk
    obtain ⟨b1, e1, _, h1⟩ := h.cell k _ 0 (.i .i64 x.1) hr rfl
    obtain ⟨b2, e2, _, h2⟩ := h.cell k _ 1 (.i .i64 x.2) hr rfl
    injection e1 with e1
    injection e2 with e2
    subst e1
    subst e2
    rw [Addr.add_plain, cells_at hh] at h1 h2
    rw [Nat.add_zero] at h1
    exact ⟨h1, by rw [Nat.add_assoc]; exact h2⟩
  refine (Try.delE_run b off cap i j hj E w arr T hh hi hfit (by omega) hl hc).mono ?_
  rintro e w' ⟨rfl, rfl⟩
  refine ⟨rfl, ?_⟩
  have hfm : ∀ l : List Ed, l.flatMap encE = cellsR (edges l) := fun l => by
    unfold cellsR edges
    induction l with
    | nil => rfl
    | cons p l ih => simp only [List.map_cons, List.flatten_cons, List.map_append, List.flatMap_cons, ih]; rfl
  have hnl : ((E.drop (i + 1)).flatMap encE).length = (E.length - (i + 1)) * 2 := by
    rw [hfm, cellsR_len (edges_even _), edges_length, List.length_drop]
  obtain ⟨a1, k1, k2, k3, k4, k5, k6, k7, k8⟩ := heap_setCells b ((E.drop (i + 1)).flatMap encE) (off + i * 2) w.drew arr T (0, 0) hh (by omega)
  obtain ⟨a2, p1, p2, p3, p4, p5, p6, p7, p8⟩ := heap_setCells b [.int .i64 0, .int .i64 0] (off + (E.length - 1) * 2) _ a1 T (0, 0) k1 (by simp; omega)
  refine ⟨⟨p6.trans k6, .of (p7.trans k7), p8.trans k8, by rw [p5, k5]; exact Nat.le_refl _, fun y hy hn => (p4 y fun e => hn (by rw [e]; exact ho)).trans (k4 y fun e => hn (by rw [e]; exact ho))⟩, ?_⟩
  have hel : (edges (E.eraseIdx i)).length = E.length - 1 := by rw [edges_length, List.length_eraseIdx_of_lt hi]
  refine ⟨by rw [hel]; omega, by omega, edges_even _, fun r row q x hr hq => ?_, fun _ => .inr ⟨b, off, a2, T, rfl, ho, p1, by omega, hgr⟩⟩
  simp only [edges, List.getElem?_map, Option.map_eq_some_iff] at hr
  obtain ⟨x0, hx0, rfl⟩ := hr
  have hrl := (List.getElem?_eq_some_iff.1 hx0).1
  rw [List.length_eraseIdx_of_lt hi] at hrl
  have hql : q < 2 := (List.getElem?_eq_some_iff.1 hq).1
  refine ⟨_, rfl, ho, ?_⟩
  rw [Addr.add_plain, cells_at p1, p3, if_neg (by omega), k3]
  rw [List.getElem?_eraseIdx] at hx0
  by_cases hri : r < i
  · rw [if_pos hri] at hx0
    rw [if_neg (by omega)]
    obtain ⟨c1, c2⟩ := hc r x0 hx0
    match q, hql, hq with
    | 0, _, hq => simp at hq; subst hq; rw [Nat.add_zero]; exact c1
    | 1, _, hq => simp at hq; subst hq; rw [← Nat.add_assoc]; exact c2
  · rw [if_neg hri] at hx0
    rw [if_pos ⟨by omega, by omega⟩, hfm, cellsR, List.getElem?_map]
    have hrow : (edges (E.drop (i + 1)))[r - i]? = some [.i .i64 x0.1, .i .i64 x0.2] := edges_get (by rw [List.getElem?_drop, show i + 1 + (r - i) = r + 1 by omega]; exact hx0)
    have hfl := flat_get (edges_even (E.drop (i + 1))) (r - i) q _ hrow hql
    rw [show off + (r * 2 + q) - (off + i * 2) = (r - i) * 2 + q by omega, hfl, hq]
    rfl
end Go.Proofs

set_option linter.unusedVariables false
set_option linter.unusedSimpArgs false
namespace Go.Sh
open Go.Proofs Go.RowKit
/-! ### slices.Clone of steps -/
attribute [local go_sem] Oper.semAt_some
theorem tSE : Try.prog.underlying 22 = some (TypeDesc.slice 60) := by kernel_rfl
theorem iSE : (Try.prog.info? 60).map (fun i => (i.zero, i.size, i.bytes)) = some (some (.agg #[.int .i64 0, .int .i64 0]), 2, 16) := by kernel_rfl
set_option maxRecDepth 100000 in
set_option maxHeartbeats 2000000 in
theorem clone_emptyE (A : Option Addr) (c : Nat) (w : World) : Calls Try.prog 57 #[.slice A 0 c] w fun e w' => ∃ B c', e = .returned (.slice B 0 c') ∧ Frm (fun _ => False) w w' ∧ ((B = none ∧ c' = 0) ∨ ∃ gb cur T, B = some ⟨gb, 0, none⟩ ∧ w.heap.size ≤ gb ∧ w'.heap[gb]? = some (.cells cur T (0, 0)) ∧ c' * 2 ≤ cur.size ∧ c' ≤ 9223372036854775807) := by
  have t22 := tSE
  obtain ⟨i0, hi, hz0, hz1, hz2⟩ := info_parts iSE
  have q22 : ∀ (w : World) (a : Option Addr) (n c n' c' : Nat), (binOp .eql 22 (.slice a n c) (.slice none n' c')).run Try.prog w = .ok (.bool a.isNone) w := fun w a n c n' c' => Lib.run_eql_slice_nil w _ _ a n c n' c' tSE
  have u22 : ∀ w, Sem.run Try.prog (underlying 22) w = .ok (TypeDesc.slice 60) w := run_underlying t22
  refine (callsIn_wide (n := 6)).1 ?_
  refine callsIn_of_wp Try.func57 rfl trivial ?_ rfl
  simp only [Try.ntmps57, List.size_toArray, List.length_cons, List.length_nil, Nat.reduceAdd, Nat.reduceSub, Array.replicate_succ, Array.replicate_zero, List.push_toArray, List.append_toArray, List.nil_append, List.cons_append]
  cases A with
  | none =>
    gi_wp2
    go_ret
    exact ⟨_, _, rfl, Frm.refl _ _, .inl ⟨rfl, rfl⟩⟩
  | some a =>
    gi_wp2_with (gi_at_builtin; refine wpListIn_append_own _ rfl _ _ 22 rfl w.heap.size 60 i0 _ 2 16 t22 hi hz0 hz1 hz2 rfl (by decide) _ _ _ rfl (World.ownsRow_made w #[] 0 (Nat.le_refl _) (Nat.zero_le _) rfl) a 0 c [] rfl rfl (by intro j u hj; simp at hj) (by intro u hu; cases hu) (by unfold maxLen; omega) (by omega) (by simp) ?_)
    intro v' w1 hown hgrow hnil
    gi_wp2
    go_ret
    have hb : Below w.heap.size w w1 := ((Below.refl _ w).alloc (Nat.le_refl _) _).grown hgrow (by simp) (by intro k hk; simp [Value.ownBlock] at hk; omega)
    have hf : Frm (fun _ => False) w w1 := ⟨hb.os, .of hb.tape, hb.output, hb.size, fun b h _ => hb.block b h⟩
    rcases hown.2 with ⟨rfl, _⟩ | ⟨gb, cap', cur, rfl, hbase, hgb, r1, r2, r3, r4⟩
    · exact ⟨_, _, rfl, hf, .inl ⟨rfl, rfl⟩⟩
    · refine ⟨_, _, rfl, hf, .inr ⟨gb, cur, _, rfl, hbase, hgb, ?_, ?_⟩⟩
      · omega
      · unfold maxLen at *; omega
noncomputable def CloneCE : Con := conP 1 (fun l : List Ed => l.length ≤ 1000000) (fun l => [.one (.flat false 2 (edges l))]) (fun l => .one (.flat true 2 (edges l)))
theorem CloneC_atE {l : List Ed} (h : l.length ≤ 1000000) : CloneCE.F [.one (.flat false 2 (edges l))] = some (.one (.flat true 2 (edges l)), []) :=
  conP_at (a := l) (fun a b _ _ h => by simp at h; rw [edges_inj h]) h
theorem Clone_pE : SoundP Try.prog 57 (conF (fun l : List Ed => l.length ≤ 1000000) (fun l => [.one (.flat false 2 (edges l))]) (fun l => .one (.flat true 2 (edges l)))) := by
  have hfull : SoundP Try.prog 57 (conF (fun l : List Ed => l.length ≤ 1000000 ∧ l ≠ []) (fun l => [.one (.flat false 2 (edges l))]) (fun l => .one (.flat true 2 (edges l)))) := by
    refine con_pure (X := { Γ := [], T := T, nt := 8 }) cr_none hmix hT sound_nil Try.func57 (by rfl) (by rfl) (by rfl) 1 ?_
    rintro l ⟨hl, hne⟩
    refine ⟨⟨Nat.le_of_ble_eq_true rfl, Nat.le_of_ble_eq_true rfl⟩, ?_⟩
    have hpos : 0 < l.length := List.length_pos_iff.2 hne
    refine Pick.T (by rw [edges_length]; simpa using hpos) ?_
    refine Pick.T (by simp [cut, edges_length]; omega) ?_
    exact ⟨rfl, rfl, rfl⟩
  intro vs r outs hF w us hus
  obtain ⟨l, hl, rfl, rfl⟩ := conF_inv (pre := fun l : List Ed => l.length ≤ 1000000) (enc := fun l => [.one (.flat false 2 (edges l))]) (val := fun l => .one (.flat true 2 (edges l))) hF
  by_cases hne : l = []
  · subst hne
    obtain ⟨u, hu, x, hx, hFl⟩ : ∃ u, us = #[u] ∧ CellOk w noLab 0 (.flat false 2 (edges [])) u := by
      obtain ⟨us⟩ := us
      match us, hus with
      | [u], hus => exact ⟨u, rfl, hus.1⟩
      | [], hus => exact hus.elim
      | _ :: _ :: _, hus => exact hus.2.elim
    subst hu
    subst hx
    refine (clone_emptyE x.A x.c w).mono ?_
    rintro e w' ⟨B, c', rfl, hf, hB⟩
    rcases hB with ⟨rfl, rfl⟩ | ⟨gb, cur, T', rfl, h1, h2, h3, h4⟩
    · exact ⟨_, noLab, rfl, hf, fun b k h => by simp [noLab] at h, ⟨⟨none, 0, fun _ => none, fun _ => 0⟩, rfl, FlatOk.nil (by omega)⟩⟩
    · have hlt : gb < w'.heap.size := by
        rcases Nat.lt_or_ge gb w'.heap.size with h | h
        · exact h
        · simp [Array.getElem?_eq_none h] at h2
      refine ⟨_, fun b => if b = gb then some (0, none) else none, rfl, hf, fun b k h => ?_, ⟨⟨some ⟨gb, 0, none⟩, c', fun _ => none, fun _ => 0⟩, rfl, ?_⟩⟩
      · dsimp only at h
        split at h
        · rename_i e; subst e; exact ⟨h1, hlt⟩
        · simp at h
      · exact { fits := Nat.zero_le _, pos := by omega, even := fun i row h => by simp [edges] at h, cell := fun i row j x h => by simp [edges] at h, room := fun _ => .inr ⟨gb, 0, cur, T', rfl, if_pos rfl, h2, by dsimp only; omega, h4⟩ }
  · exact hfull _ _ _ (conF_at (fun a b _ _ h => by simp at h; rw [edges_inj h]) ⟨hl, hne⟩) w us hus

theorem Clone_okE : SoundC Try.prog T 57 CloneCE := sound_pure Try.func57 (by rfl) (by rfl) (by simp [CloneCE, conP]) Clone_pE
/-! ### graph.Add -/
def addF (n : Int) (E : List Ed) (a b : Int) : (Int × List Ed) × Int := if RightP n E then (if mnI a b < 0 ∨ mxI a b ≥ n then ((0, []), 4) else if a = b then ((0, []), 1) else normF n (E ++ [(a, b)])) else ((0, []), 1)
noncomputable def AddC : Con := conP 3 (fun a : (Int × List Ed) × Int × Int => a.1.2.length ≤ 999999) (fun a => [grV a.1.1 a.1.2, .one (.s (.i .i64 a.2.1)), .one (.s (.i .i64 a.2.2))]) (fun a => .tup [grO (addF a.1.1 a.1.2 a.2.1 a.2.2).1.1 (addF a.1.1 a.1.2 a.2.1 a.2.2).1.2, .one (.s (.i .i64 (addF a.1.1 a.1.2 a.2.1 a.2.2).2))])
theorem AddC_at {n : Int} {E : List Ed} (a b : Int) (h : E.length ≤ 999999) : AddC.F [grV n E, .one (.s (.i .i64 a)), .one (.s (.i .i64 b))] = some (.tup [grO (addF n E a b).1.1 (addF n E a b).1.2, .one (.s (.i .i64 (addF n E a b).2))], []) :=
  conP_at (a := ((n, E), a, b)) (fun x y _ _ h => by
    obtain ⟨⟨n, E⟩, a, b⟩ := x
    obtain ⟨⟨n', E'⟩, a', b'⟩ := y
    simp at h
    obtain ⟨h1, h2, h3⟩ := h
    obtain ⟨rfl, rfl⟩ := grV_inj h1
    subst h2 h3
    rfl) h
set_option maxHeartbeats 1000000 in
theorem Add_ok : SoundC Try.prog T 29 AddC := by
  refine sound_con (X := { Γ := [(39, RightC), (57, CloneCE), (56, NormC)], T := T, nt := 45 }) cr_none hmix hT (sound_cons RightG_ok (sound_cons Clone_okE (sound_cons NormG_ok sound_nil))) Try.func29 (by rfl) (by rfl) (by rfl) (by rfl) 4 ?_
  rintro ⟨⟨n, E⟩, a, b⟩ hl
  dsimp only at hl
  refine ⟨⟨Nat.le_of_ble_eq_true rfl, Nat.le_of_ble_eq_true rfl⟩, ?_⟩
  refine Call.by _ _ (RightC_at n E) ?_
  refine Pick.by (fun h1 => ?_) (fun h1 => ?_)
  · have h1 : ¬ RightP n E := by simpa using h1
    have hv : addF n E a b = ((0, []), 1) := if_neg h1
    dsimp only
    rw [hv]
    exact ⟨rfl, rfl, ⟨rfl, ⟨rfl, rfl⟩, trivial⟩, rfl, trivial⟩
  have h1 : RightP n E := by simpa using h1
  refine Pick.by (fun h2 => ?_) (fun h2 => ?_)
  · have h2 : mnI a b < 0 := of_decide_eq_true h2
    have hv : addF n E a b = ((0, []), 4) := by unfold addF; rw [if_pos h1, if_pos (.inl h2)]
    dsimp only
    rw [hv]
    exact ⟨rfl, rfl, ⟨rfl, ⟨rfl, rfl⟩, trivial⟩, rfl, trivial⟩
  have h2 : ¬ mnI a b < 0 := of_decide_eq_false h2
  refine Pick.by (fun h3 => ?_) (fun h3 => ?_)
  · have h3 : mxI a b ≥ n := of_decide_eq_true h3
    have hv : addF n E a b = ((0, []), 4) := by unfold addF; rw [if_pos h1, if_pos (.inr h3)]
    dsimp only
    rw [hv]
    exact ⟨rfl, rfl, ⟨rfl, ⟨rfl, rfl⟩, trivial⟩, rfl, trivial⟩
  have h3 : ¬ mxI a b ≥ n := of_decide_eq_false h3
  refine Pick.by (fun h4 => ?_) (fun h4 => ?_)
  · have h4 : a = b := by simpa using h4
    have hv : addF n E a b = ((0, []), 1) := by unfold addF; rw [if_pos h1, if_neg (by omega), if_pos h4]
    dsimp only
    rw [hv]
    exact ⟨rfl, rfl, ⟨rfl, ⟨rfl, rfl⟩, trivial⟩, rfl, trivial⟩
  have h4 : a ≠ b := by simpa using h4
  have hv : addF n E a b = normF n (E ++ [(a, b)]) := by unfold addF; rw [if_pos h1, if_neg (by omega), if_neg h4]
  dsimp only
  rw [hv]
  refine Call.by _ _ (CloneC_atE (by omega)) ?_
  refine Pick.T (by simp [cut, edges_length]; omega) ?_
  have hN := NormC_at (n := n) (l := E ++ [(a, b)]) (by simp; omega)
  rw [edges_snoc] at hN
  refine Call.by _ _ hN ?_
  refine Seg.by (by kernel_rfl) ?_
  exact ⟨rfl, rfl, ⟨rfl, ⟨rfl, rfl⟩, trivial⟩, rfl, trivial⟩
/-! ### slices.Index on edges -/
def idxE (E : List Ed) (p : Ed) : Int := if p ∈ E then (E.findIdx (fun x => x == p) : Nat) else -1
noncomputable def IndexCE : Con := conP 2 (fun a : List Ed × Ed => a.1.length ≤ 1000000) (fun a => [.one (.flat false 2 (edges a.1)), edV a.2]) (fun a => .one (.s (.i .i64 (idxE a.1 a.2))))
theorem IndexCE_at {E : List Ed} (p : Ed) (h : E.length ≤ 1000000) : IndexCE.F [.one (.flat false 2 (edges E)), edV p] = some (.one (.s (.i .i64 (idxE E p))), []) :=
  conP_at (a := (E, p)) (fun x y _ _ h => by
    obtain ⟨E, ⟨a, b⟩⟩ := x
    obtain ⟨E', ⟨a', b'⟩⟩ := y
    simp [edV] at h
    obtain ⟨h1, h2, h3⟩ := h
    have h1 := edges_inj h1
    subst h1 h2 h3
    rfl) h
theorem idx_at {E : List Ed} {p : Ed} {i : Nat} (hi : i < E.length) (hn : p ∉ E.take i) (he : E[i] = p) : idxE E p = i := by
  unfold idxE
  rw [if_pos (he ▸ List.getElem_mem hi)]
  congr 1
  rw [List.findIdx_eq hi]
  refine ⟨by simpa using he, fun j hj => ?_⟩
  have : E[j] ∈ E.take i := by rw [List.mem_iff_getElem?]; exact ⟨j, by rw [List.getElem?_take, if_pos hj]; exact List.getElem?_eq_getElem _⟩
  simp only [beq_eq_false_iff_ne]
  exact fun e => hn (e ▸ this)
theorem Index_pE : SoundP Try.prog 65 (conF (fun a : List Ed × Ed => a.1.length ≤ 1000000) (fun a => [.one (.flat false 2 (edges a.1)), edV a.2]) (fun a => .one (.s (.i .i64 (idxE a.1 a.2))))) := by
  refine con_pure (X := { Γ := [], T := T, nt := 19 }) cr_none hmix hT sound_nil Try.func65 (by rfl) (by rfl) (by rfl) 3 ?_
  rintro ⟨E, ⟨a, b⟩⟩ hl
  dsimp only at hl
  refine ⟨⟨Nat.le_of_ble_eq_true rfl, Nat.le_of_ble_eq_true rfl⟩, ?_⟩
  refine LoopP.intro (α := Nat) (fun i => i ≤ E.length ∧ (a, b) ∉ E.take i) (fun i => E.length - i) (fun i => [(0, .sl 0 none none), (3, .ptr 1 0), (7, .s (.i .i64 E.length)), (8, .s (.i .i64 i))])
    (fun i => [(0, some (.flat false 2 (edges E))), (1, some (.blk [.s (.i .i64 a), .s (.i .i64 b)]))]) 2 0 ⟨by omega, by simp⟩ (by refine Weak.by [(0, some _), (1, some _)] (by ((repeat' first | exact rfl | exact trivial | refine And.intro ?_ ?_) <;> (repeat' first | exact rfl | exact trivial | refine And.intro ?_ ?_)); all_goals (exact sc_eq (by rw [edges_length]))) (by ((repeat' first | exact rfl | exact trivial | refine And.intro ?_ ?_) <;> (repeat' first | exact rfl | exact trivial | refine And.intro ?_ ?_)); all_goals (exact sc_eq (by rw [edges_length]))) (by rfl)) ?_
  rintro i ⟨hi, hn⟩
  refine Pick.by (fun h1 => ?_) (fun h1 => ?_)
  · have hil : i < E.length := by simpa using h1
    refine Idx.by i rfl (by rw [edges_length]; exact hil) ?_
    refine Look.by _ (edges_get (List.getElem?_eq_getElem hil)) ?_
    refine Seg.by (by kernel_rfl) ?_
    refine Pick.by (fun h2 => ?_) (fun h2 => ?_)
    · have h2 : a = E[i].1 ∧ b = E[i].2 := by simpa using h2
      have he : E[i] = (a, b) := Prod.ext h2.1.symm h2.2.symm
      refine ⟨rfl, ?_⟩
      show _ = _
      exact sc_eq (idx_at hil hn he).symm
    · have h2 : E[i] ≠ (a, b) := fun e => by rw [e] at h2; simp at h2
      refine Pick.T (inI64_of (by omega) (by omega)) ?_
      refine Next.by (i + 1) ⟨by omega, ?_⟩ (by omega) (by refine Weak.by [(0, some _), (1, some _)] (by ((repeat' first | exact rfl | exact trivial | refine And.intro ?_ ?_) <;> (repeat' first | exact rfl | exact trivial | refine And.intro ?_ ?_))) (by ((repeat' first | exact rfl | exact trivial | refine And.intro ?_ ?_) <;> (repeat' first | exact rfl | exact trivial | refine And.intro ?_ ?_))) (by rfl))
      rw [List.take_succ_eq_append_getElem hil, List.mem_append]
      rintro (h | h)
      · exact hn h
      · simp at h; exact h2 h.symm
  · have hil : i = E.length := by
      have : ¬ i < E.length := by simpa using h1
      omega
    subst hil
    rw [List.take_length] at hn
    refine ⟨rfl, ?_⟩
    show _ = _
    refine sc_eq ?_
    unfold idxE
    rw [if_neg hn]
theorem Index_okE : SoundC Try.prog T 65 IndexCE := sound_pure Try.func65 (by rfl) (by rfl) (by simp [IndexCE, conP]) Index_pE
end Go.Sh

set_option linter.unusedVariables false
set_option linter.unusedSimpArgs false
namespace Go.Sh
open Go.Proofs Go.RowKit
/-! ### graph.Without -/
def delPre (fl : Flat) (x y : Int) : Prop := ∃ (E : List Ed) (i : Nat), fl = edges E ∧ x = i ∧ y = (i + 1 : Nat) ∧ i < E.length ∧ E.length ≤ 1000000
def delFE (fl : Flat) (x _y : Int) : Flat := fl.eraseIdx x.toNat
theorem edges_erase : ∀ (E : List Ed) (i : Nat), (edges E).eraseIdx i = edges (E.eraseIdx i)
  | [], i => by simp [edges]
  | p :: E, 0 => rfl
  | p :: E, i + 1 => by
    have h := edges_erase E i
    simp only [edges, List.map_cons, List.eraseIdx_cons_succ] at h ⊢
    rw [h]
theorem delE_call : RowsCall Try.prog 66 2 delPre delFE := by
  refine ⟨⟨_, Try.func66, by decide, by simp [Try.f66]⟩, ?_⟩
  rintro l x y ⟨E, i, rfl, rfl, rfl, hi, hl⟩ w own key A cap hF hown
  rw [edges_length]
  refine (Try.delE_row rfl hF hi hl).mono ?_
  rintro e w' ⟨rfl, hfr, hFl⟩
  have hv : delFE (edges E) i (i + 1 : Nat) = edges (E.eraseIdx i) := by unfold delFE; rw [Int.toNat_natCast, edges_erase]
  rw [hv]
  refine ⟨A, cap, by rw [edges_length, List.length_eraseIdx_of_lt hi], hfr, hFl.mono (fun _ => rfl) fun b hb ho => ⟨?_, rfl⟩⟩
  have := hown _ _ ho
  rw [if_neg (by omega)]
  exact ho
noncomputable def woF (n : Int) (E : List Ed) (a b : Int) : (Int × List Ed) × Int := if RightP n E then (if edN (a, b) ∈ E then ((n, E.eraseIdx (E.findIdx fun x => x == edN (a, b))), 0) else ((0, []), 6)) else ((0, []), 1)
noncomputable def WoC : Con := conP 3 (fun a : (Int × List Ed) × Int × Int => a.1.2.length ≤ 1000000) (fun a => [grV a.1.1 a.1.2, .one (.s (.i .i64 a.2.1)), .one (.s (.i .i64 a.2.2))]) (fun a => .tup [grO (woF a.1.1 a.1.2 a.2.1 a.2.2).1.1 (woF a.1.1 a.1.2 a.2.1 a.2.2).1.2, .one (.s (.i .i64 (woF a.1.1 a.1.2 a.2.1 a.2.2).2))])
theorem WoC_at {n : Int} {E : List Ed} (a b : Int) (h : E.length ≤ 1000000) : WoC.F [grV n E, .one (.s (.i .i64 a)), .one (.s (.i .i64 b))] = some (.tup [grO (woF n E a b).1.1 (woF n E a b).1.2, .one (.s (.i .i64 (woF n E a b).2))], []) :=
  conP_at (a := ((n, E), a, b)) (fun x y _ _ h => by
    obtain ⟨⟨n, E⟩, a, b⟩ := x
    obtain ⟨⟨n', E'⟩, a', b'⟩ := y
    simp at h
    obtain ⟨h1, h2, h3⟩ := h
    obtain ⟨rfl, rfl⟩ := grV_inj h1
    subst h2 h3
    rfl) h
theorem wo_val {n a b : Int} {E : List Ed} (hR : RightP n E) (h : edN (a, b) ∈ E) : ∃ E', woF n E a b = ((n, E'), 0) ∧ RightP n E' ∧ ∀ p ∈ E', p ∈ E := by
  refine ⟨E.eraseIdx (E.findIdx fun x => x == edN (a, b)), ?_, ?_, fun p hp => List.mem_of_mem_eraseIdx hp⟩
  · unfold woF; rw [if_pos hR, if_pos h]
  · have hs : (E.eraseIdx (E.findIdx fun x => x == edN (a, b))).Sublist E := List.eraseIdx_sublist ..
    exact ⟨hR.1, hR.2.1, Nat.le_trans hs.length_le hR.2.2.1, fun p hp => hR.2.2.2.1 p (hs.subset hp), hR.2.2.2.2.sublist hs⟩
set_option maxHeartbeats 1000000 in
theorem Wo_ok : SoundC Try.prog T 35 WoC := by
  refine sound_con (X := { Γ := [(39, RightC), (65, IndexCE), (57, CloneCE), (66, rowsC 2 delPre delFE)], T := T, nt := 36 }) cr_none hmix hT (sound_cons RightG_ok (sound_cons Index_okE (sound_cons Clone_okE (sound_cons (rows_sound delE_call) sound_nil)))) Try.func35 (by rfl) (by rfl) (by rfl) (by rfl) 4 ?_
  rintro ⟨⟨n, E⟩, a, b⟩ hl
  dsimp only at hl
  refine ⟨⟨Nat.le_of_ble_eq_true rfl, Nat.le_of_ble_eq_true rfl⟩, ?_⟩
  refine Call.by _ _ (RightC_at n E) ?_
  refine Pick.by (fun h1 => ?_) (fun h1 => ?_)
  · have h1 : ¬ RightP n E := by simpa using h1
    have hv : woF n E a b = ((0, []), 1) := if_neg h1
    dsimp only
    rw [hv]
    exact ⟨rfl, rfl, ⟨rfl, ⟨rfl, rfl⟩, trivial⟩, rfl, trivial⟩
  have h1 : RightP n E := by simpa using h1
  refine Call.by _ _ (IndexCE_at (edN (a, b)) hl) ?_
  have hE4 := h1.2.2.1
  refine Pick.by (fun h2 => ?_) (fun h2 => ?_)
  · have h2 : idxE E (edN (a, b)) < 0 := of_decide_eq_true h2
    have hm : edN (a, b) ∉ E := by
      intro hm
      rw [idxE, if_pos hm] at h2; omega
    have hv : woF n E a b = ((0, []), 6) := by unfold woF; rw [if_pos h1, if_neg hm]
    dsimp only
    rw [hv]
    exact ⟨rfl, rfl, ⟨rfl, ⟨rfl, rfl⟩, trivial⟩, rfl, trivial⟩
  · have h2 : ¬ idxE E (edN (a, b)) < 0 := of_decide_eq_false h2
    have hm : edN (a, b) ∈ E := by
      by_cases hm : edN (a, b) ∈ E
      · exact hm
      · rw [idxE, if_neg hm] at h2; omega
    have hi : idxE E (edN (a, b)) = (E.findIdx fun x => x == edN (a, b) : Nat) := if_pos hm
    have hlt : (E.findIdx fun x => x == edN (a, b)) < E.length := List.findIdx_lt_length_of_exists ⟨_, hm, by simp⟩
    obtain ⟨i, hii⟩ : ∃ i, (E.findIdx fun x => x == edN (a, b)) = i := ⟨_, rfl⟩
    have hv : woF n E a b = ((n, E.eraseIdx i), 0) := by unfold woF; rw [if_pos h1, if_pos hm, hii]
    rw [hii] at hi hlt
    refine Call.by _ _ (CloneC_atE hl) ?_
    refine Pick.T (inI64_of (by show _ ≤ idxE E (edN (a, b)) + 1; omega) (by show idxE E (edN (a, b)) + 1 ≤ _; omega)) ?_
    have hd := rowsC_at (sz := 2) (pre := delPre) (F := delFE) (l := edges E) (x := idxE E (edN (a, b))) (y := idxE E (edN (a, b)) + 1) ⟨E, i, rfl, hi, by rw [hi]; simp, hlt, hl⟩
    have hf : delFE (edges E) (idxE E (edN (a, b))) (idxE E (edN (a, b)) + 1) = edges (E.eraseIdx i) := by unfold delFE; rw [hi, Int.toNat_natCast, edges_erase]
    rw [hf] at hd
    refine Call.by _ _ hd ?_
    dsimp only
    rw [hv]
    refine Seg.by (by kernel_rfl) ?_
    exact ⟨rfl, rfl, ⟨rfl, ⟨rfl, rfl⟩, trivial⟩, rfl, trivial⟩
end Go.Sh

set_option linter.unusedVariables false
set_option linter.unusedSimpArgs false
namespace Go.Sh
open Go.Proofs
/-! ### models of what came of a graph are models of the graph -/
/-! ### what came of a deletion, of a contraction -/
end Go.Sh

set_option linter.unusedVariables false
set_option linter.unusedSimpArgs false
namespace Go.Sh
open Go.Proofs
/-! ### MinorDrop, MinorLift -/
end Go.Sh

set_option linter.unusedVariables false
set_option linter.unusedSimpArgs false
namespace Go.Sh
open Go.Proofs
/-! ### MinorGrows -/
theorem add_val {n a b : Int} {E : List Ed} (hR : RightP n E) (hl : E.length ≤ 300) (ha : 0 ≤ a ∧ a < n) (hb : 0 ≤ b ∧ b < n) (hne : a ≠ b) : addF n E a b = ((n, normE (E ++ [(a, b)])), 0) ∧ RightP n (normE (E ++ [(a, b)])) := by
  have hin : ∀ p ∈ E ++ [(a, b)], inR n p := fun p hp => by
    rcases List.mem_append.1 hp with hp | hp
    · have := hR.2.2.2.1 _ hp; unfold okE at this; unfold inR; omega
    · simp at hp; subst hp; unfold inR; dsimp only; omega
  have hlen : (normE (E ++ [(a, b)])).length ≤ 4000 := Nat.le_trans (normE_length _) (by simp; omega)
  refine ⟨?_, hR.1, hR.2.1, hlen, normE_ok (fun p hp => by have := hin p hp; unfold inR at this; exact this), normE_sorted _⟩
  unfold addF mnI mxI
  rw [if_pos hR, if_neg (by split <;> split <;> omega), if_neg hne]
  unfold normF
  rw [if_neg (by have := hR.1; omega), if_neg (by have := hR.2.1; omega), if_pos hin, if_neg (by omega)]
end Go.Sh

set_option linter.unusedVariables false
set_option linter.unusedSimpArgs false
namespace Go.Sh
open Go.Proofs
/-! ### carcanetlaw12.BagsLess -/
theorem bag_wo {n : Int} {E E' : List Ed} {S : List (List Int)} {U : List Int} (hR' : RightP n E') (hs : ∀ p ∈ E', p ∈ E) (h : BagP n E S U) : BagP n E' S U :=
  ⟨hR', h.2.1, h.2.2.1, fun p hp => h.2.2.2 p (hs p hp)⟩
theorem metB_comm (S : List (List Int)) (a b : Int) : metB S a b = metB S b a := by
  unfold metB
  congr 1
  funext l
  exact Bool.and_comm ..
theorem metB_edN (S : List (List Int)) (a b : Int) : metB S (edN (a, b)).1 (edN (a, b)).2 = metB S a b := by
  unfold edN mnI mxI
  dsimp only
  by_cases h : b < a
  · rw [if_pos h, if_neg (by omega), metB_comm]
  · rw [if_neg h]
    by_cases h2 : b > a
    · rw [if_pos h2]
    · rw [if_neg h2]
      have : a = b := by omega
      rw [this]
theorem bag_add {n a b : Int} {E : List Ed} {S : List (List Int)} {U : List Int} (hne : a ≠ b) (hR : RightP n E) (hR' : RightP n (normE (E ++ [(a, b)]))) (h : BagP n E S U) : BagP n (normE (E ++ [(a, b)])) S U ↔ metB S a b = true := by
  constructor
  · intro k
    have := k.2.2.2 (edN (a, b)) (mem_normE.2 ⟨(a, b), by simp, hne, rfl⟩)
    rwa [metB_edN] at this
  · intro k
    refine ⟨hR', h.2.1, h.2.2.1, fun p hp => ?_⟩
    obtain ⟨q, hq, hqn, rfl⟩ := mem_normE.1 hp
    rw [metB_edN]
    rcases List.mem_append.1 hq with hq | hq
    · exact h.2.2.2 q hq
    · simp at hq
      subst hq
      exact k
theorem has_edN {n a b : Int} {E : List Ed} (hR : RightP n E) : hasG n E a b = true ↔ edN (a, b) ∈ E := by
  unfold hasG
  rw [decide_eq_true hR, Bool.true_and, List.elem_iff, mem_nearL]
  have hok : ∀ p ∈ E, p.1 < p.2 := fun p hp => (hR.2.2.2.1 p hp).2.1
  unfold adjE edN mnI mxI
  dsimp only
  constructor
  · rintro (h | h)
    · have := hok _ h
      dsimp only at this
      rw [if_neg (by omega), if_pos (by omega)]
      exact h
    · have := hok _ h
      dsimp only at this
      rw [if_pos (by omega), if_neg (by omega)]
      exact h
  · intro h
    have := hok _ h
    dsimp only at this
    by_cases hb : b < a
    · rw [if_pos hb, if_neg (by omega)] at h
      exact .inr h
    · rw [if_neg hb] at h this
      by_cases hb2 : b > a
      · rw [if_pos hb2] at h
        exact .inl h
      · rw [if_neg hb2] at this; omega
noncomputable def BLessF := conF (fun _ : (Int × List Ed) × Bg × (Int × Int) => True) (fun a => [grV a.1.1 a.1.2, bgV false a.2.1.1 a.2.1.2, .agg [.s (.i .i64 a.2.2.1), .s (.i .i64 a.2.2.2)]]) (fun _ => .one (.s (.b true)))
set_option maxHeartbeats 2000000 in
theorem BLess_ok : SoundP Try.prog 14 BLessF := by
  refine con_pure (X := { Γ := [(15, Shown12C), (16, OfC), (20, Small12C), (21, BChkC), (36, InC), (37, HasGC), (35, WoC), (29, AddC)], T := T, nt := Try.f14.ntmps }) cr_none hmix hT (sound_cons Shown12_ok (sound_cons Of_ok (sound_cons Small12_ok (sound_cons BChk_ok (sound_cons In_ok (sound_cons Has_ok (sound_cons Wo_ok (sound_cons Add_ok sound_nil)))))))) Try.func14 (by rfl) (by rfl) (by rfl) 6 ?_
  rintro ⟨⟨n, E⟩, ⟨S, U⟩, ⟨x, y⟩⟩ -
  dsimp only
  refine ⟨⟨Nat.le_of_ble_eq_true rfl, Nat.le_of_ble_eq_true rfl⟩, ?_⟩
  refine Call.by _ _ Shown12C_at ?_
  refine Call.by _ _ (OfC_at n E (most := 20) (by omega)) ?_
  have hR := any_right (n := n) (l := E) (most := 20) (by omega) (by omega)
  have hF3 : (anyE n E 20).length ≤ 300 := Nat.le_trans (normE_length _) (anyL_length _ _)
  obtain ⟨m, hm⟩ : ∃ m, anyN n 20 = m := ⟨_, rfl⟩
  obtain ⟨F, hF⟩ : ∃ F, anyE n E 20 = F := ⟨_, rfl⟩
  rw [hm, hF] at hR ⊢
  rw [hF] at hF3
  have hFl := hR.2.2.1
  have hm1 := hR.2.1
  have hok := cutB_ok S U
  refine Call.by _ _ (Small12C_at S U) ?_
  obtain ⟨C, hC⟩ : ∃ C, cutB S = C := ⟨_, rfl⟩
  obtain ⟨V, hV⟩ : ∃ V, U.take 60 = V := ⟨_, rfl⟩
  rw [hC, hV] at hok ⊢
  refine Pick.by (fun h1 => ?_) (fun h1 => ?_)
  · exact ⟨rfl, rfl⟩
  have h1 : ¬ m < 2 := of_decide_eq_false h1
  refine Call.by _ _ (BChkC_at (n := m) (E := F) hok) ?_
  refine Pick.by (fun h2 => ?_) (fun h2 => ?_)
  · exact ⟨rfl, rfl⟩
  have h2 : bagB m F C V = true := by have h2 : (!bagB m F C V) = false := h2; simpa using h2
  have hP := bagB_iff.1 h2
  have hxl := low_range x
  have hyl := low_range y
  have hr := tmod_range hxl.1 (show 0 < m by omega)
  have hq := tmod_range hyl.1 (show 0 < m - 1 by omega)
  have hb := tmod_range (show 0 ≤ (low x).tmod m + 1 + (low y).tmod (m - 1) by omega) (show 0 < m by omega)
  have hne : (low x).tmod m ≠ ((low x).tmod m + 1 + (low y).tmod (m - 1)).tmod m := by
    rw [Int.tmod_eq_emod_of_nonneg (show 0 ≤ (low x).tmod m + 1 + (low y).tmod (m - 1) by omega)]
    rcases Int.lt_or_le ((low x).tmod m + 1 + (low y).tmod (m - 1)) m with h | h
    · rw [Int.emod_eq_of_lt (by omega) h]; omega
    · rw [← Int.sub_emod_right, Int.emod_eq_of_lt (by omega) (by omega)]; omega
  refine Idx.by 0 rfl (by decide) ?_
  refine Pick.F (beq_eq_false_iff_ne.2 (by omega)) ?_
  refine Pick.T (inI64_of (by show _ ≤ (low x).tmod m + 1; omega) (by show (low x).tmod m + 1 ≤ _; omega)) ?_
  refine Idx.by 1 rfl (by decide) ?_
  refine Pick.T (inI64_of (by omega) (by omega)) ?_
  refine Pick.F (beq_eq_false_iff_ne.2 (by omega)) ?_
  refine Pick.T (inI64_of (by show _ ≤ (low x).tmod m + 1 + (low y).tmod (m - 1); omega) (by show (low x).tmod m + 1 + (low y).tmod (m - 1) ≤ _; omega)) ?_
  refine Pick.F (beq_eq_false_iff_ne.2 (by omega)) ?_
  refine Seg.by (by kernel_rfl) ?_
  refine LoopP.intro (α := Nat) (fun k => k ≤ C.length) (fun k => C.length - k) (fun k => [(7, .s (.b true)), (8, .ptr 0 0), (9, .ptr 2 0), (10, .s (.i .i64 ((low x).tmod m))), (11, .s (.i .i64 (((low x).tmod m + 1 + (low y).tmod (m - 1)).tmod m))), (12, .s (.b (metB (C.take k) ((low x).tmod m) (((low x).tmod m + 1 + (low y).tmod (m - 1)).tmod m)))), (13, .s (.i .i64 k))])
    (fun k => [(0, some (.blk [.s (.i .i64 m), .sl 1 none none])), (1, some (.flat true 2 (edges F))), (2, some (.blk [.sl 3 none none, .sl 4 none none])), (3, some (.nest true 1 (rowsI C) [] [])), (4, some (.flat true 1 (ints V)))]) 5 0 (by omega) (by refine Weak.by [(0, some _), (1, some _), (2, some _), (3, some _), (4, some _)] (by ((repeat' first | exact rfl | exact trivial | refine And.intro ?_ ?_) <;> (repeat' first | exact rfl | exact trivial | refine And.intro ?_ ?_))) (by ((repeat' first | exact rfl | exact trivial | refine And.intro ?_ ?_) <;> (repeat' first | exact rfl | exact trivial | refine And.intro ?_ ?_))) (by rfl)) ?_
  rintro k hk
  refine Pick.by (fun hc => ?_) (fun hc => ?_)
  · have hjl : k < C.length := by simpa [rowsI_length] using hc
    have hro := rowsI_get (bagAt_get hjl)
    have hlr := hok.2.2 _ (bagAt_mem hjl)
    have hSl := hok.1
    have hst := metB_succ C ((low x).tmod m) (((low x).tmod m + 1 + (low y).tmod (m - 1)).tmod m) hjl
    refine Pick.by (fun h4 => ?_) (fun h4 => ?_)
    · have h4 : metB (C.take k) ((low x).tmod m) (((low x).tmod m + 1 + (low y).tmod (m - 1)).tmod m) = true := h4
      refine Pick.T (inI64_of (by omega) (by omega)) ?_
      refine Next.by (k + 1) (by omega) (by omega) (by refine Weak.by [(0, some _), (1, some _), (2, some _), (3, some _), (4, some _)] (by ((repeat' first | exact rfl | exact trivial | refine And.intro ?_ ?_) <;> (repeat' first | exact rfl | exact trivial | refine And.intro ?_ ?_)); all_goals ((rw [hst, h4]; rfl))) (by ((repeat' first | exact rfl | exact trivial | refine And.intro ?_ ?_) <;> (repeat' first | exact rfl | exact trivial | refine And.intro ?_ ?_)); all_goals ((rw [hst, h4]; rfl))) (by rfl))
    have h4 : metB (C.take k) ((low x).tmod m) (((low x).tmod m + 1 + (low y).tmod (m - 1)).tmod m) = false := h4
    rw [h4, Bool.false_or] at hst
    refine Idx.by k rfl (by rw [rowsI_length]; exact hjl) ?_
    refine Pick.T (by rw [rowsI_length]; simpa using hjl) ?_
    refine Look.by _ hro ?_
    refine Call.by _ _ (InC_at ((low x).tmod m) (by omega)) ?_
    refine Pick.by (fun h5 => ?_) (fun h5 => ?_)
    · have h5 : (bagAt C k).elem ((low x).tmod m) = true := h5
      rw [h5, Bool.true_and] at hst
      refine Idx.by k rfl (by rw [rowsI_length]; exact hjl) ?_
      refine Pick.T (by rw [rowsI_length]; simpa using hjl) ?_
      refine Look.by _ hro ?_
      refine Call.by _ _ (InC_at (((low x).tmod m + 1 + (low y).tmod (m - 1)).tmod m) (by omega)) ?_
      refine Pick.T (inI64_of (by omega) (by omega)) ?_
      refine Next.by (k + 1) (by omega) (by omega) (by refine Weak.by [(0, some _), (1, some _), (2, some _), (3, some _), (4, some _)] (by ((repeat' first | exact rfl | exact trivial | refine And.intro ?_ ?_) <;> (repeat' first | exact rfl | exact trivial | refine And.intro ?_ ?_)); all_goals ((rw [hst]; rfl))) (by ((repeat' first | exact rfl | exact trivial | refine And.intro ?_ ?_) <;> (repeat' first | exact rfl | exact trivial | refine And.intro ?_ ?_)); all_goals ((rw [hst]; rfl))) (by rfl))
    · have h5 : (bagAt C k).elem ((low x).tmod m) = false := h5
      rw [h5, Bool.false_and] at hst
      refine Pick.T (inI64_of (by omega) (by omega)) ?_
      refine Next.by (k + 1) (by omega) (by omega) (by refine Weak.by [(0, some _), (1, some _), (2, some _), (3, some _), (4, some _)] (by ((repeat' first | exact rfl | exact trivial | refine And.intro ?_ ?_) <;> (repeat' first | exact rfl | exact trivial | refine And.intro ?_ ?_)); all_goals ((rw [hst]; rfl))) (by ((repeat' first | exact rfl | exact trivial | refine And.intro ?_ ?_) <;> (repeat' first | exact rfl | exact trivial | refine And.intro ?_ ?_)); all_goals ((rw [hst]; rfl))) (by rfl))
  have hge : C.length ≤ k := by simpa [rowsI_length] using hc
  rw [List.take_of_length_le hge]
  refine Call.by _ _ (HasGC_at ((low x).tmod m) (((low x).tmod m + 1 + (low y).tmod (m - 1)).tmod m) (by omega)) ?_
  refine Pick.by (fun h6 => ?_) (fun h6 => ?_)
  · have h6 : hasG m F ((low x).tmod m) (((low x).tmod m + 1 + (low y).tmod (m - 1)).tmod m) = true := h6
    have hmem := (has_edN hR).1 h6
    obtain ⟨E', hw, hR', hs⟩ := wo_val hR hmem
    have hW := WoC_at (n := m) (E := F) ((low x).tmod m) (((low x).tmod m + 1 + (low y).tmod (m - 1)).tmod m) (by omega)
    rw [hw] at hW
    refine Call.by _ _ hW ?_
    have hmet : metB C ((low x).tmod m) (((low x).tmod m + 1 + (low y).tmod (m - 1)).tmod m) = true := by
      have := hP.2.2.2 _ hmem
      rwa [metB_edN] at this
    rw [hmet]
    have hK := BChkC_at (n := m) (E := E') hok
    rw [bagB_iff.2 (bag_wo hR' hs hP)] at hK
    refine Call.by _ _ hK ?_
    exact ⟨rfl, rfl⟩
  · obtain ⟨hd, hR'⟩ := add_val hR hF3 hr hb hne
    have hD := AddC_at (n := m) (E := F) ((low x).tmod m) (((low x).tmod m + 1 + (low y).tmod (m - 1)).tmod m) (by omega)
    rw [hd] at hD
    refine Call.by _ _ hD ?_
    have hK := BChkC_at (n := m) (E := normE (F ++ [(((low x).tmod m), (((low x).tmod m + 1 + (low y).tmod (m - 1)).tmod m))])) hok
    have heq : bagB m (normE (F ++ [(((low x).tmod m), (((low x).tmod m + 1 + (low y).tmod (m - 1)).tmod m))])) C V = metB C ((low x).tmod m) (((low x).tmod m + 1 + (low y).tmod (m - 1)).tmod m) := by
      rw [Bool.eq_iff_iff, bagB_iff]
      exact bag_add hne hR hR' hP
    rw [heq] at hK
    refine Call.by _ _ hK ?_
    refine ⟨rfl, ?_⟩
    show Sc.b (metB C ((low x).tmod m) (((low x).tmod m + 1 + (low y).tmod (m - 1)).tmod m) == metB C ((low x).tmod m) (((low x).tmod m + 1 + (low y).tmod (m - 1)).tmod m)) = Sc.b true
    rw [beq_self_eq_true]
end Go.Sh

set_option linter.unusedVariables false
set_option linter.unusedSimpArgs false
namespace Go.Sh
open Go.Proofs
/-! ### carcanetlaw08.MinorMoves -/
def i64 (x : Int) : Prop := -9223372036854775808 ≤ x ∧ x ≤ 9223372036854775807
def rows64 (S : List (List Int)) : Prop := ∀ l ∈ S, ∀ x ∈ l, i64 x
def clI (x : Int) : Int := mnI x 4611686018427387904
def clP (j : Nat) (row : List Int) : List Int := (row.take j).map clI ++ row.drop j
theorem clP_all (row : List Int) (j : Nat) (h : row.length ≤ j) : clP j row = row.map clI := by
  unfold clP
  rw [List.take_of_length_le h, List.drop_eq_nil_of_le h, List.append_nil]
theorem clP_zero (row : List Int) : clP 0 row = row := by simp [clP]
def ClI (S : List (List Int)) (i j : Nat) (R : List (List Int)) : Prop := R.length = S.length ∧ ∀ r row, S[r]? = some row → R[r]? = some (if r < i then row.map clI else if r = i then clP j row else row)
theorem ClI.at {S R : List (List Int)} {i j : Nat} (h : ClI S i j R) {row : List Int} (hi : S[i]? = some row) : R[i]? = some (clP j row) := by
  have := h.2 i row hi
  rwa [if_neg (by omega), if_pos rfl] at this
theorem ClI.step {S R : List (List Int)} {i j : Nat} (h : ClI S i j R) {row : List Int} (hi : S[i]? = some row) : ClI S i (j + 1) (R.set i (clP (j + 1) row)) := by
  refine ⟨by rw [List.length_set]; exact h.1, fun r w hr => ?_⟩
  rw [List.getElem?_set]
  by_cases e : i = r
  · subst e
    rw [hi] at hr
    injection hr with hr
    subst hr
    rw [if_pos rfl, if_pos (by rw [h.1]; exact (List.getElem?_eq_some_iff.1 hi).1), if_neg (by omega), if_pos rfl]
  · rw [if_neg e, h.2 r w hr, if_neg (show ¬ r = i by omega), if_neg (show ¬ r = i by omega)]
theorem ClI.next {S R : List (List Int)} {i j : Nat} (h : ClI S i j R) {row : List Int} (hi : S[i]? = some row) (hj : row.length ≤ j) : ClI S (i + 1) 0 R := by
  refine ⟨h.1, fun r w hr => ?_⟩
  rw [h.2 r w hr]
  by_cases e : r < i
  · rw [if_pos e, if_pos (by omega)]
  · by_cases e2 : r = i
    · subst e2
      rw [hi] at hr
      injection hr with hr
      subst hr
      rw [if_neg e, if_pos rfl, if_pos (by omega), clP_all _ _ hj]
    · rw [if_neg e, if_neg e2, if_neg (by omega)]
      split
      · rw [clP_zero]
      · rfl
theorem ClI.done {S R : List (List Int)} {i : Nat} (h : ClI S i 0 R) (hi : S.length ≤ i) : R = S.map fun l => l.map clI := by
  apply List.ext_getElem?
  intro r
  by_cases hr : r < S.length
  · rw [h.2 r _ (List.getElem?_eq_getElem hr), if_pos (by omega)]
    simp [hr]
  · rw [List.getElem?_eq_none (by rw [h.1]; omega), List.getElem?_eq_none (by simp; omega)]
theorem ClI.zero (S : List (List Int)) : ClI S 0 0 S := ⟨rfl, fun r row h => by
  rw [if_neg (by omega), clP_zero]
  split <;> exact h⟩
end Go.Sh

set_option linter.unusedVariables false
set_option linter.unusedSimpArgs false
namespace Go.Sh
open Go.Proofs
/-! ### what is handed in, as data -/
theorem VTy.struct {T : Tab} {t : Nat} {ti : TI} {fs : List (Nat × Nat)} {v : V} (ht : lk T t = some ti) (hk : ti.kind = .struct fs) (h : VTy T t v) : ∃ cs, v = .agg cs ∧ All2 (fun (f : Nat × Nat) c => CTy T f.2 c) fs cs := by
  unfold VTy at h
  rw [ht] at h
  simp only at h
  rw [hk] at h
  exact h
theorem VTy.cell {T : Tab} {t : Nat} {ti : TI} {v : V} (ht : lk T t = some ti) (hk : ∀ fs, ti.kind ≠ .struct fs ∧ ∀ n e, ti.kind ≠ .array n e) (h : VTy T t v) : ∃ c, v = .one c ∧ CTy T t c := by
  unfold VTy at h
  rw [ht] at h
  simp only at h
  cases hq : ti.kind with
  | struct fs => exact absurd hq (hk fs).1
  | array n e => exact absurd hq ((hk []).2 n e)
  | _ => rw [hq] at h; exact h
theorem VTy.array {T : Tab} {t : Nat} {ti : TI} {n e : Nat} {v : V} (ht : lk T t = some ti) (hk : ti.kind = .array n e) (h : VTy T t v) : ∃ cs, v = .agg cs ∧ cs.length = n ∧ ∀ c ∈ cs, CTy T e c := by
  unfold VTy at h
  rw [ht] at h
  simp only at h
  rw [hk] at h
  exact h
theorem ScTy.int {T : Tab} {t : Nat} {ti : TI} {k : IntKind} {x : Sc} (ht : lk T t = some ti) (hk : ti.kind = .int k) (h : ScTy T t x) : ∃ n, x = .i k n ∧ (Lit.int k n).wf = true := by
  unfold ScTy at h
  rw [ht] at h
  simp only at h
  rw [hk] at h
  cases x with
  | i k' n => obtain ⟨rfl, h⟩ := h; exact ⟨n, rfl, h⟩
  | b _ => exact h.elim
theorem CTy.sc {T : Tab} {t : Nat} {c : C} (hs : sliceE T t = none) (h : CTy T t c) : ∃ x, c = .s x ∧ ScTy T t x := by
  unfold CTy at h
  rw [hs] at h
  exact h
theorem CTy.flat {T : Tab} {t e : Nat} {c : C} (hs : sliceE T t = some e) (hs2 : sliceE T e = none) (h : CTy T t c) : ∃ rows, c = .flat false (sizeT T e) rows ∧ FlatTy T e rows := by
  unfold CTy at h
  rw [hs] at h
  simp only at h
  rw [hs2] at h
  exact h
theorem CTy.nest {T : Tab} {t e e2 : Nat} {c : C} (hs : sliceE T t = some e) (hs2 : sliceE T e = some e2) (h : CTy T t c) : ∃ rows, c = .nest false (sizeT T e2) rows ∧ rows.length ≤ maxLen ∧ ∀ fl ∈ rows, FlatTy T e2 fl := by
  unfold CTy at h
  rw [hs] at h
  simp only at h
  rw [hs2] at h
  exact h
theorem i64_wf {n : Int} (h : (Lit.int .i64 n).wf = true) : i64 n := by
  simp [Lit.wf, IntKind.min, IntKind.max, IntKind.signed, IntKind.bits] at h
  exact h
theorem list_ex {α β : Type} {P : α → β → Prop} : ∀ {l : List α}, (∀ x ∈ l, ∃ y, P x y) → ∃ m : List β, All2 P l m := by
  intro l
  induction l with
  | nil => intro _; exact ⟨[], All2.nil⟩
  | cons x l ih =>
    intro h
    obtain ⟨y, hy⟩ := h x (by simp)
    obtain ⟨m, hm⟩ := ih fun x hx => h x (by simp [hx])
    exact ⟨y :: m, All2.cons' hy hm⟩
theorem All2.map_eq {α β : Type} {f : β → α} {l : List α} {m : List β} (h : All2 (fun x y => x = f y) l m) : l = m.map f := by
  apply List.ext_getElem?
  intro i
  rw [List.getElem?_map]
  by_cases hi : i < l.length
  · have him : i < m.length := by rw [← h.1]; exact hi
    rw [List.getElem?_eq_getElem hi, List.getElem?_eq_getElem him, Option.map_some, h.2 i _ _ (List.getElem?_eq_getElem hi) (List.getElem?_eq_getElem him)]
  · rw [List.getElem?_eq_none (by omega), List.getElem?_eq_none (by rw [← h.1]; omega)]; rfl
theorem All2.mem {α β : Type} {R : α → β → Prop} {l : List α} {m : List β} (h : All2 R l m) {y : β} (hy : y ∈ m) : ∃ x ∈ l, R x y := by
  obtain ⟨i, hi⟩ := List.mem_iff_getElem?.1 hy
  have hl := (List.getElem?_eq_some_iff.1 hi).1
  rw [← h.1] at hl
  exact ⟨_, List.getElem_mem hl, h.2 i _ y (List.getElem?_eq_getElem hl) hi⟩
/-! #### at this program's types -/
theorem row_int {row : Row} (h : RowTy T 3 row) : ∃ n, row = [.i .i64 n] ∧ i64 n := by
  obtain ⟨x, rfl, hx⟩ := h
  obtain ⟨n, rfl, hw⟩ := ScTy.int (t := 3) rfl rfl hx
  exact ⟨n, rfl, i64_wf hw⟩
theorem ints_of {fl : Flat} (h : FlatTy T 3 fl) : ∃ l : List Int, fl = ints l ∧ l.length ≤ maxLen ∧ ∀ x ∈ l, i64 x := by
  obtain ⟨m, hm⟩ := list_ex (P := fun row n => row = [Sc.i .i64 n] ∧ i64 n) fun row hr => row_int (h.2 row hr)
  refine ⟨m, All2.map_eq (f := fun n => [Sc.i .i64 n]) (hm.imp fun _ _ _ k => k.1), by rw [← hm.1]; exact h.1, fun x hx => ?_⟩
  obtain ⟨_, _, k⟩ := hm.mem hx
  exact k.2
theorem rows_of {rows : List Flat} (h : ∀ fl ∈ rows, FlatTy T 3 fl) : ∃ S : List (List Int), rows = rowsI S ∧ rows64 S ∧ ∀ l ∈ S, l.length ≤ maxLen := by
  obtain ⟨m, hm⟩ := list_ex (P := fun (fl : Flat) l => fl = ints l ∧ l.length ≤ maxLen ∧ ∀ x ∈ l, i64 x) fun fl hf => ints_of (h fl hf)
  refine ⟨m, All2.map_eq (hm.imp fun _ _ _ k => k.1), fun l hl => ?_, fun l hl => ?_⟩
  · obtain ⟨_, _, k⟩ := hm.mem hl; exact k.2.2
  · obtain ⟨_, _, k⟩ := hm.mem hl; exact k.2.1
theorem All2.two {α β : Type} {R : α → β → Prop} {a b : α} {m : List β} (h : All2 R [a, b] m) : ∃ x y, m = [x, y] ∧ R a x ∧ R b y := by
  obtain ⟨h1, h2⟩ := h
  match m, h1, h2 with
  | [x, y], _, h2 => exact ⟨x, y, rfl, h2 0 a x rfl rfl, h2 1 b y rfl rfl⟩
theorem All2.one {α β : Type} {R : α → β → Prop} {a : α} {m : List β} (h : All2 R [a] m) : ∃ x, m = [x] ∧ R a x := by
  obtain ⟨h1, h2⟩ := h
  match m, h1, h2 with
  | [x], _, h2 => exact ⟨x, rfl, h2 0 a x rfl rfl⟩
theorem All2.three {α β : Type} {R : α → β → Prop} {a b c : α} {m : List β} (h : All2 R [a, b, c] m) : ∃ x y z, m = [x, y, z] ∧ R a x ∧ R b y ∧ R c z := by
  obtain ⟨h1, h2⟩ := h
  match m, h1, h2 with
  | [x, y, z], _, h2 => exact ⟨x, y, z, rfl, h2 0 a x rfl rfl, h2 1 b y rfl rfl, h2 2 c z rfl rfl⟩
theorem row_edge {row : Row} (h : RowTy T 60 row) : ∃ p : Ed, row = [.i .i64 p.1, .i .i64 p.2] ∧ i64 p.1 ∧ i64 p.2 := by
  obtain ⟨_, h⟩ := h
  obtain ⟨x, y, rfl, hx, hy⟩ := All2.two h
  obtain ⟨n, rfl, hn⟩ := ScTy.int (t := 3) rfl rfl hx
  obtain ⟨m, rfl, hm⟩ := ScTy.int (t := 3) rfl rfl hy
  exact ⟨(n, m), rfl, i64_wf hn, i64_wf hm⟩
theorem edges_of {fl : Flat} (h : FlatTy T 60 fl) : ∃ E : List Ed, fl = edges E ∧ E.length ≤ maxLen ∧ ∀ p ∈ E, i64 p.1 ∧ i64 p.2 := by
  obtain ⟨m, hm⟩ := list_ex (P := fun row (p : Ed) => row = [Sc.i .i64 p.1, Sc.i .i64 p.2] ∧ i64 p.1 ∧ i64 p.2) fun row hr => row_edge (h.2 row hr)
  refine ⟨m, All2.map_eq (f := fun p : Ed => [Sc.i .i64 p.1, Sc.i .i64 p.2]) (hm.imp fun _ _ _ k => k.1), by rw [← hm.1]; exact h.1, fun x hx => ?_⟩
  obtain ⟨_, _, k⟩ := hm.mem hx
  exact k.2
theorem net_of {v : V} (h : VTy T 24 v) : ∃ n E, v = grV n E ∧ i64 n ∧ ∀ p ∈ E, i64 p.1 ∧ i64 p.2 := by
  obtain ⟨cs, rfl, hcs⟩ := VTy.struct (t := 24) rfl rfl h
  obtain ⟨x, y, rfl, hx, hy⟩ := All2.two hcs
  obtain ⟨z, rfl, hz⟩ := CTy.sc (t := 3) rfl hx
  obtain ⟨n, rfl, hw⟩ := ScTy.int (t := 3) rfl rfl hz
  obtain ⟨rows, rfl, hr⟩ := CTy.flat (t := 22) (e := 60) rfl rfl hy
  obtain ⟨E, rfl, _, hE⟩ := edges_of hr
  exact ⟨n, E, rfl, i64_wf hw, hE⟩
end Go.Sh

set_option linter.unusedVariables false
namespace Go.Sh
open Go.Proofs
theorem own : ownKnob Try.prog.godebug = none := by kernel_rfl
theorem laidOut : laidOutB Try.prog = true := by kernel_rfl
set_option maxRecDepth 100000 in
/-- A law whose function answers true, whatever comes. -/
theorem law_row {s : ChangeSpec} {f : FuncId} {fn : Func} {conds : List PathCond} {apart fresh handsOn : Bool} {ts : List TypeId} {F : List V → Option (V × List V)} (hf : Try.prog.funcs[f]? = some fn) (hin : Try.prog.inits.idxOf? f = none) (hv : s.vars = [])
    (hts : fn.params.toList = ts) (ha : ts.all (argB T) = true) (hr : ts.all (fun t => Try.prog.readableRec t && Nat.blt t Try.prog.types.size) = true) (hres : fn.resultTypes = #[4])
    (hsp : ∀ (H : Type) (ds : List (DataW H)), ds.length = ts.length → (s.fn H ds).results = [.lit (.bool true)] ∧ (s.fn H ds).args = ds ∧ (s.fn H ds).vars = [])
    (hS : SoundP Try.prog f F) (hF : LawV T ts F) (os : Os) (started : os.Started) (H : Type) (enc : TypeId × Value → H) (a : Assume)
    (hw : ∃ (w : World) (tape : Tape) (i : Input), w.os = os ∧ (w.forCall tape i).Shaped Try.checked.prog ∧ i.vars = [] ∧ Input.okWide Try.checked.prog (w.forCall tape i) .any w.heap.size f i ∧
      s.pre6 enc Try.checked.prog fn conds apart (w.forCall tape i).memory i.args ∧ a.holds Try.checked.prog (lone (Frame.enter Try.checked.prog f i.args .normal) [] (w.forCall tape i))) :
    ReturnsInHanded a Try.checked os f .any (s.pre6 enc Try.checked.prog fn conds apart) (s.post enc Try.checked.prog fn apart fresh handsOn false) := by
  refine returnsInHanded_of_change (C := Try.checked) own started hin hf hw ?_
  intro W base args ds gs before hval hW _ _
  refine law_contract (P := Try.prog) (conds := conds) hT laidOut hv hts ha (fun t ht => ?_) hres Try.underlying4 (hsp H) hS hF hval hW
  have := List.all_eq_true.1 hr t ht
  simp only [Bool.and_eq_true] at this
  exact ⟨this.1, Nat.le_of_ble_eq_true this.2⟩
end Go.Sh

set_option linter.unusedVariables false
namespace Go.Sh
open Go.Proofs
/-! ### more of what is handed in, as data -/
theorem ScTy.bool {T : Tab} {t : Nat} {ti : TI} {x : Sc} (ht : lk T t = some ti) (hk : ti.kind = .bool) (h : ScTy T t x) : ∃ b, x = .b b := by
  unfold ScTy at h
  rw [ht] at h
  simp only at h
  rw [hk] at h
  cases x with
  | i k' n => exact h.elim
  | b b => exact ⟨b, rfl⟩
theorem All2.four {α β : Type} {R : α → β → Prop} {a b c d : α} {m : List β} (h : All2 R [a, b, c, d] m) : ∃ x y z t, m = [x, y, z, t] ∧ R a x ∧ R b y ∧ R c z ∧ R d t := by
  obtain ⟨h1, h2⟩ := h
  match m, h1, h2 with
  | [x, y, z, t], _, h2 => exact ⟨x, y, z, t, rfl, h2 0 a x rfl rfl, h2 1 b y rfl rfl, h2 2 c z rfl rfl, h2 3 d t rfl rfl⟩
end Go.Sh

set_option linter.unusedVariables false
namespace Go.Sh
open Go.Proofs
/-! ### more of what is handed in, as data: bags -/
theorem bags_of {v : V} (h : VTy T 35 v) : ∃ S U, v = bgV false S U := by
  obtain ⟨cs, rfl, hcs⟩ := VTy.struct (t := 35) rfl rfl h
  obtain ⟨x, y, rfl, hx, hy⟩ := All2.two hcs
  obtain ⟨rows, rfl, _, hr⟩ := CTy.nest (t := 28) (e := 29) (e2 := 3) rfl rfl hx
  obtain ⟨S, rfl, hS, _⟩ := rows_of hr
  obtain ⟨rows, rfl, hr⟩ := CTy.flat (t := 29) (e := 3) rfl rfl hy
  obtain ⟨U, rfl, _, _⟩ := ints_of hr
  exact ⟨S, U, rfl⟩
end Go.Sh

set_option linter.unusedVariables false
namespace Go.Sh
open Go.Proofs
/-! ### two numbers in an array -/
theorem two_of {v : V} (h : VTy T 51 v) : ∃ a b : Int, v = .agg [.s (.i .i64 a), .s (.i .i64 b)] ∧ i64 a ∧ i64 b := by
  obtain ⟨cs, rfl, hl, hc⟩ := VTy.array (t := 51) (n := 2) (e := 3) rfl rfl h
  match cs, hl, hc with
  | [x, y], _, hc =>
    obtain ⟨p, rfl, hp⟩ := CTy.sc (t := 3) rfl (hc x (by simp))
    obtain ⟨a, rfl, ha⟩ := ScTy.int (t := 3) rfl rfl hp
    obtain ⟨q, rfl, hq⟩ := CTy.sc (t := 3) rfl (hc y (by simp))
    obtain ⟨b, rfl, hb⟩ := ScTy.int (t := 3) rfl rfl hq
    exact ⟨a, b, rfl, i64_wf ha, i64_wf hb⟩
end Go.Sh
