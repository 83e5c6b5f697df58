/- What the functions answer that the statement reaches. No condition. -/
import Derived.Test.YtcihmgopaadpfaaFn1
import Derived.Test.YtcihmgopaadpfaaRows
set_option linter.unusedVariables false
set_option linter.unusedSimpArgs false
namespace Go.Proofs
open Go.RowKit Go.Shelf Go.Sh

attribute [local go_sem] Oper.semAt_some
theorem Try.wide_fn (f : Nat) : Fence.wide.fn f = True := rfl
attribute [local go_sem] Try.wide_fn
theorem Try.own_ge {w : World} {b k size : Nat} {e : TypeId} {v : Value} {xs : List Value} (h : w.ownsRow b e size v k xs) : ∀ g, v.ownBlock = some g → b ≤ g := by
  intro g hg
  rcases h.2 with ⟨rfl, _⟩ | ⟨g', cap, cur, rfl, hb, _⟩
  · simp [Value.ownBlock] at hg
  · simp [Value.ownBlock] at hg; omega
theorem Try.cells_two (w : World) (x y : Value) (t : TypeId) : ∀ j u, [x, y][j]? = some u → (w.alloc (.cells #[x, y] t)).cell? ((⟨w.heap.size, 0, none⟩ : Addr).add j) = some u := by
  intro j u hj
  rw [Addr.add_plain, World.cell?]
  show (match (w.alloc _).heap[w.heap.size]? with | some (.cells c _ _) => _ | _ => _) = _
  rw [World.alloc_heap_new, Nat.zero_add]
  show #[x, y][j]? = some u
  rw [← hj]; simp
theorem Try.set2 {W : World} {b : Nat} {x y x' y' : Value} {T : TypeId} (h : W.heap[b]? = some (.cells #[x, y] T)) : ((W.setCell ⟨b, 0, none⟩ x').setCell ⟨b, 1, none⟩ y').heap[b]? = some (.cells #[x', y'] T) := by
  rw [Go.Sort.setCell_eq, Go.Sort.setCell_eq]
  simp [Go.Sort.mapBlock, Array.getElem?_modify, h, Go.Sort.onCells]
theorem Try.set2_size {W : World} {b : Nat} {x' y' : Value} : ((W.setCell ⟨b, 0, none⟩ x').setCell ⟨b, 1, none⟩ y').heap.size = W.heap.size := by simp [World.setCell]
theorem Try.set2_other {W : World} {b k : Nat} {x' y' : Value} (h : k ≠ b) : ((W.setCell ⟨b, 0, none⟩ x').setCell ⟨b, 1, none⟩ y').heap[k]? = W.heap[k]? := by
  rw [Below.heap_setCell _ _ _ _ h, Below.heap_setCell _ _ _ _ h]
theorem Try.tup2 {w : World} {lab : Nat → Option Key} {n r : Int} {E : List Ed} {u : Value} (h : VOk w lab 0 (.tup [grO n E, .one (.s (.i .i64 r))]) u) : ∃ A c, u = .tuple #[.agg #[.int .i64 n, .slice A E.length c], .int .i64 r] ∧ FlatOk w lab (some (1, none)) A c 2 (edges E) := by
  obtain ⟨us, rfl, hv⟩ := h
  obtain ⟨us⟩ := us
  match us, hv with
  | [], hv => exact hv.elim
  | [_], hv => exact hv.2.elim
  | _ :: _ :: _ :: _, hv => exact hv.2.2.elim
  | [ug, ue], hv =>
    obtain ⟨⟨cs, rfl, hc⟩, ⟨_, he⟩, _⟩ := hv
    obtain ⟨cs⟩ := cs
    match cs, hc with
    | [], hc => exact hc.elim
    | [_], hc => exact hc.2.elim
    | _ :: _ :: _ :: _, hc => exact hc.2.2.elim
    | [a, b], hc =>
      obtain ⟨⟨_, h1⟩, ⟨x, h2, h3⟩, _⟩ := hc
      have h1 : a = .int .i64 n := h1
      have he : ue = .int .i64 r := he
      rw [edges_length] at h2
      subst h1 he h2
      exact ⟨x.A, x.c, rfl, h3⟩
theorem Try.tup2_ok {w : World} {lab : Nat → Option Key} {n r : Int} {E : List Ed} {A : Option Addr} {c : Nat} (h : FlatOk w lab (some (1, none)) A c 2 (edges E)) : VOk w lab 0 (.tup [grO n E, .one (.s (.i .i64 r))]) (.tuple #[.agg #[.int .i64 n, .slice A E.length c], .int .i64 r]) :=
  ⟨_, rfl, ⟨_, rfl, ⟨⟨none, 0, fun _ => none, fun _ => 0⟩, rfl⟩, ⟨⟨A, c, fun _ => none, fun _ => 0⟩, by show Value.slice A E.length c = .slice A (edges E).length c; rw [edges_length], h⟩, trivial⟩, ⟨⟨none, 0, fun _ => none, fun _ => 0⟩, rfl⟩, trivial⟩
set_option maxRecDepth 100000 in
set_option maxHeartbeats 2000000 in
theorem Try.renCon_in (B B2 : Nat) (f : Int → Int) (N n : Int) (E : List Ed) (A : Option Addr) (cap : Nat) (w : World) (hE : E.length ≤ 4000) (hn : n ≤ 1000) (hr : ∀ p ∈ E, okE n p) (h : FlatOk w noLab none A cap 2 (edges E))
    (hcl : ∀ (m : Nat) (x : Int) (W : World), 0 ≤ x ∧ x ≤ 1000 → Below w.heap.size w W → CallsIn Fence.wide m Try.prog 63 #[.int .i64 x, .pointer (some ⟨B, 0, none⟩), .pointer (some ⟨B2, 0, none⟩)] W fun e W' => e = .returned (.int .i64 (f x)) ∧ W' = W)
    (R : (Int × List Ed) × Int) (hR : R = normF N (Try.renE f E)) :
    CallsIn Fence.wide 8 Try.prog 59 #[.agg #[.int .i64 N, .func (.func 63) #[] #[.pointer (some ⟨B, 0, none⟩), .pointer (some ⟨B2, 0, none⟩)]], .agg #[.int .i64 n, .slice A E.length cap]] w fun e W' =>
      ∃ u lab, e = .returned u ∧ Below w.heap.size w W' ∧ (∀ b k, lab b = some k → w.heap.size ≤ b ∧ b < W'.heap.size) ∧ VOk W' lab 0 (.tup [grO R.1.1 R.1.2, .one (.s (.i .i64 R.2))]) u := by
  obtain ⟨i0, hi, hz0, hz1, hz2⟩ := info_parts Try.infoE
  obtain ⟨⟨n1, E1⟩, r1⟩ := R
  obtain ⟨w1, hw1⟩ : ∃ w1, w.alloc (.cells #[.int .i64 N, .func (.func 63) #[] #[.pointer (some ⟨B, 0, none⟩), .pointer (some ⟨B2, 0, none⟩)]] 96) = w1 := ⟨_, rfl⟩
  obtain ⟨w2, hw2⟩ : ∃ w2, w1.alloc (.cells #[.int .i64 n, .slice A E.length cap] 26) = w2 := ⟨_, rfl⟩
  obtain ⟨w3, hw3⟩ : ∃ w3, w2.alloc (.cells #[.int .i64 0, .slice none 0 0] 26) = w3 := ⟨_, rfl⟩
  have s1 : w1.heap.size = w.heap.size + 1 := by rw [← hw1]; simp
  have s2 : w2.heap.size = w.heap.size + 2 := by rw [← hw2]; simp [s1]
  have s3 : w3.heap.size = w.heap.size + 3 := by rw [← hw3]; simp [s2]
  have b1 : Below w.heap.size w w1 := by rw [← hw1]; exact (Below.refl _ w).alloc (Nat.le_refl _) _
  have b2 : Below w.heap.size w w2 := by rw [← hw2]; exact b1.alloc (by omega) _
  have b3 : Below w.heap.size w w3 := by rw [← hw3]; exact b2.alloc (by omega) _
  have g1 : w3.heap[w.heap.size]? = some (.cells #[.int .i64 N, .func (.func 63) #[] #[.pointer (some ⟨B, 0, none⟩), .pointer (some ⟨B2, 0, none⟩)]] 96) := by
    rw [← hw3, Below.heap_alloc _ _ _ (by omega), ← hw2, Below.heap_alloc _ _ _ (by omega), ← hw1]; exact World.alloc_heap_new _ _
  have g2 : w3.heap[w.heap.size + 1]? = some (.cells #[.int .i64 n, .slice A E.length cap] 26) := by
    rw [← hw3, Below.heap_alloc _ _ _ (by omega), ← hw2, ← s1]; exact World.alloc_heap_new _ _
  have g3 : w3.heap[w.heap.size + 2]? = some (.cells #[.int .i64 0, .slice none 0 0] 26) := by
    rw [← hw3, ← s2]; exact World.alloc_heap_new _ _
  have c10 : w3.cell? ⟨w.heap.size, 0, none⟩ = some (.int .i64 N) := by simp [World.cell?, g1]
  have c11 : w3.cell? ⟨w.heap.size, 1, none⟩ = some (.func (.func 63) #[] #[.pointer (some ⟨B, 0, none⟩), .pointer (some ⟨B2, 0, none⟩)]) := by simp [World.cell?, g1]
  have c21 : w3.cell? ⟨w.heap.size + 1, 1, none⟩ = some (.slice A E.length cap) := by simp [World.cell?, g2]
  refine callsIn_of_wp Try.func59 rfl trivial ?_ rfl
  simp only [Try.ntmps59, List.size_toArray, List.length_cons, List.length_nil, Nat.reduceAdd, Nat.reduceSub, Array.replicate_succ, Array.replicate_zero, List.push_toArray, List.append_toArray, List.nil_append, List.cons_append]
  have hEd := Try.eds_of h
  gi_wp2
  gi_loopw [6, 14] (fun lv i wr => ∃ k : Nat, k ≤ E.length ∧ i = .int .i64 k ∧ wr.ownsRow (w.heap.size + 3) 60 2 lv (Try.renE f (E.take k)).length ((Try.renE f (E.take k)).flatMap encE) ∧ Below (w.heap.size + 3) w3 wr)
    (fun _ i _ => E.length - (intOf i).toNat)
  case atStart => exact ⟨0, Nat.zero_le _, rfl, World.ownsRow_nil _ _ _ _, Below.refl _ _⟩
  case round =>
    obtain ⟨k, hk, rfl, hrow, hB⟩ := hrel
    have hsz := hB.size
    rw [s3] at hsz
    have hBw : Below w.heap.size w wr := b3.trans (hB.mono (by omega))
    have m1 : wr.cell? ⟨w.heap.size, 0, none⟩ = some (.int .i64 N) := (hB.cell (p := ⟨w.heap.size, 0, none⟩) (by show w.heap.size < _; omega)).trans c10
    have m2 : wr.cell? ⟨w.heap.size, 1, none⟩ = some (.func (.func 63) #[] #[.pointer (some ⟨B, 0, none⟩), .pointer (some ⟨B2, 0, none⟩)]) := (hB.cell (p := ⟨w.heap.size, 1, none⟩) (by show w.heap.size < _; omega)).trans c11
    by_cases hlt : k < E.length
    · obtain ⟨x, hx⟩ : ∃ x, E[k]? = some x := ⟨_, List.getElem?_eq_getElem hlt⟩
      have hok := hr x (List.mem_of_getElem? hx)
      obtain ⟨xa, xb⟩ := x
      have htk : E.take (k + 1) = E.take k ++ [(xa, xb)] := by
        rw [List.take_succ_eq_append_getElem hlt]
        rw [List.getElem?_eq_getElem hlt] at hx
        injection hx with hx
        rw [hx]
      have hst := Try.renE_snoc f (E.take k) (xa, xb)
      rw [← htk] at hst
      unfold okE at hok
      dsimp only at hok hst
      rcases hEd with ⟨rfl, _⟩ | ⟨ab, ao, c, e, hb, hcs⟩
      · simp at hlt
      injection e with e1 e2 e3
      subst e1
      subst e3
      have hcx1 : wr.cell? ⟨ab, ao + k * 2, none⟩ = some (.int .i64 xa) := (hBw.cell (p := ⟨ab, ao + k * 2, none⟩) hb).trans (hcs k _ hx).1
      have hcx2 : wr.cell? ⟨ab, ao + k * 2 + 1, none⟩ = some (.int .i64 xb) := (hBw.cell (p := ⟨ab, ao + k * 2 + 1, none⟩) hb).trans (hcs k _ hx).2
      have hB5 : Below (w.heap.size + 3) w3 (wr.alloc (.cells #[.int .i64 xa, .int .i64 xb] 60)) := hB.alloc (by omega) _
      have hBw5 : Below w.heap.size w (wr.alloc (.cells #[.int .i64 xa, .int .i64 xb] 60)) := hBw.alloc (by omega) _
      have n2 : (wr.alloc (.cells #[.int .i64 xa, .int .i64 xb] 60)).cell? ⟨w.heap.size, 1, none⟩ = some (.func (.func 63) #[] #[.pointer (some ⟨B, 0, none⟩), .pointer (some ⟨B2, 0, none⟩)]) := (hB5.cell (p := ⟨w.heap.size, 1, none⟩) (by show w.heap.size < _; omega)).trans c11
      have hrow5 := hrow.alloc (.cells #[.int .i64 xa, .int .i64 xb] 60)
      have x0 : (wr.alloc (.cells #[.int .i64 xa, .int .i64 xb] 60)).cell? ⟨wr.heap.size, 0, none⟩ = some (.int .i64 xa) := by rw [World.cell?]; show (match (wr.alloc _).heap[wr.heap.size]? with | some (.cells c _ _) => _ | _ => _) = _; rw [World.alloc_heap_new]; rfl
      have x1 : (wr.alloc (.cells #[.int .i64 xa, .int .i64 xb] 60)).cell? ⟨wr.heap.size, 1, none⟩ = some (.int .i64 xb) := by rw [World.cell?]; show (match (wr.alloc _).heap[wr.heap.size]? with | some (.cells c _ _) => _ | _ => _) = _; rw [World.alloc_heap_new]; rfl
      have hdr : ∀ q, Below w.heap.size w ((wr.alloc (.cells #[.int .i64 xa, .int .i64 xb] 60)).drewN q) := fun q => ⟨hBw5.os, hBw5.tape, hBw5.output, hBw5.size, hBw5.block⟩
      gi_wp2
      have hxa : 0 ≤ xa ∧ xa ≤ 1000 := by omega
      have hxb : 0 ≤ xb ∧ xb ≤ 1000 := by omega
      gi_quiet ((gi_at_call 63; exact CallsIn.quiet_of_same (hcl _ _ _ (by first | exact hxa | exact hxb) (hdr _))))
      have hB6 : Below (w.heap.size + 3) w3 ((wr.alloc (.cells #[.int .i64 xa, .int .i64 xb] 60)).drewN nq) := ⟨hB5.os, hB5.tape, hB5.output, hB5.size, hB5.block⟩
      have hrow6 : ((wr.alloc (.cells #[.int .i64 xa, .int .i64 xb] 60)).drewN nq).ownsRow (w.heap.size + 3) 60 2 u6 (Try.renE f (E.take k)).length ((Try.renE f (E.take k)).flatMap encE) := hrow5
      generalize (wr.alloc (.cells #[.int .i64 xa, .int .i64 xb] 60)).drewN nq = W6 at hB6 hrow6 ⊢
      have hln := Try.renE_length f (E.take k)
      rw [List.length_take] at hln
      have hs6 := hB6.size
      have hmx : (Try.renE f (E.take k)).length + 1 ≤ maxLen := by unfold maxLen; omega
      have hm8 : ((Try.renE f (E.take k)).length + 1) * 16 ≤ 140737488355328 := by omega
      have hge := Try.own_ge hrow6
      have hsA : w.heap.size + 3 ≤ (W6.alloc (.cells #[.int .i64 (f xa), .int .i64 (f xb)] 60)).heap.size := by rw [World.size_alloc]; omega
      by_cases h1 : 0 ≤ f xa
      · by_cases h2 : 0 ≤ f xb
        · rw [if_pos ⟨h1, h2⟩] at hst
          gi_wp2_with (gi_at_builtin; refine wpListIn_append_own _ rfl _ _ 22 rfl (w.heap.size + 3) 60 i0 _ 2 16 Try.underlying22 hi hz0 hz1 hz2 rfl (by decide) _ _ _ rfl (hrow6.alloc _) ⟨W6.heap.size, 0, none⟩ 1 1 [.int .i64 (f xa), .int .i64 (f xb)] rfl rfl (Try.cells_two _ _ _ _) (by simp [Value.oneCell']) hmx hm8 hsA ?_; intro v' w1' hown' hgrow _)
          have hr7 : w1'.ownsRow (w.heap.size + 3) 60 2 v' (Try.renE f (E.take (k + 1))).length ((Try.renE f (E.take (k + 1))).flatMap encE) := by
            rw [hst, List.length_append, List.flatMap_append]
            simpa [encE] using hown'
          have hB7 : Below (w.heap.size + 3) w3 w1' := (hB6.alloc (by omega) _).grown hgrow hsA hge
          go_roundw
          case rel => exact ⟨k + 1, by omega, by simp, hr7, hB7⟩
          case measure => simp [intOf]; omega
        · rw [if_neg (fun h => h2 h.2), List.append_nil] at hst
          gi_wp2
          go_roundw
          case rel => exact ⟨k + 1, by omega, by simp, by rw [hst]; exact hrow6, hB6⟩
          case measure => simp [intOf]; omega
      · rw [if_neg (fun h => h1 h.1), List.append_nil] at hst
        gi_wp2
        go_roundw
        case rel => exact ⟨k + 1, by omega, by simp, by rw [hst]; exact hrow6, hB6⟩
        case measure => simp [intOf]; omega
    · obtain rfl : k = E.length := by omega
      rw [List.take_length] at hrow
      obtain ⟨lv, lc, rfl, hfl⟩ := Try.own_edges hrow
      have hll := Try.renE_length f E
      have hNF := NormC_at (n := N) (l := Try.renE f E) (by omega)
      have hcall := NormG_p _ _ _ hNF wr #[.int .i64 N, .slice lv (Try.renE f E).length lc] ⟨⟨⟨none, 0, fun _ => none, fun _ => 0⟩, rfl⟩, ⟨⟨lv, lc, fun _ => none, fun _ => 0⟩, by show Value.slice lv (Try.renE f E).length lc = .slice lv (edges (Try.renE f E)).length lc; rw [edges_length], hfl⟩, trivial⟩
      rw [← hR] at hcall
      clear hR hNF
      have g3' : wr.heap[w.heap.size + 2]? = some (.cells #[.int .i64 0, .slice none 0 0] 26) := (hB.block _ (by omega)).trans g3
      have hlt2 : w.heap.size + 2 < wr.heap.size := by omega
      gi_wp2
      gi_at_call 56
      refine (callsIn_wide.2 hcall).mono ?_
      rintro e W7 ⟨u, lab, rfl, hf7, hlab, hu⟩
      obtain ⟨ra, rc, rfl, hfl7⟩ := Try.tup2 hu
      have g37 : W7.heap[w.heap.size + 2]? = some (.cells #[.int .i64 0, .slice none 0 0] 26) := (hf7.block _ hlt2 (fun h => h)).trans g3'
      have q0 : W7.cell? ⟨w.heap.size + 2, 0, none⟩ = some (.int .i64 0) := by simp [World.cell?, g37]
      have q1 : W7.cell? ⟨w.heap.size + 2, 1, none⟩ = some (.slice none 0 0) := by simp [World.cell?, g37]
      have z0 : W7.frozen? ⟨w.heap.size + 2, 0, none⟩ = false := by simp [World.frozen?, g37]
      have z1 : W7.frozen? ⟨w.heap.size + 2, 1, none⟩ = false := by simp [World.frozen?, g37]
      gi_wp2
      have g38 := Try.set2 (x' := .int .i64 n1) (y' := .slice ra E1.length rc) g37
      have hz8 := Try.set2_size (W := W7) (b := w.heap.size + 2) (x' := .int .i64 n1) (y' := .slice ra E1.length rc)
      have ho8 : ∀ k, k ≠ w.heap.size + 2 → _ := fun k hk => Try.set2_other (W := W7) (x' := .int .i64 n1) (y' := .slice ra E1.length rc) hk
      have hB7 : Below w.heap.size w ((W7.setCell ⟨w.heap.size + 2, 0, none⟩ (.int .i64 n1)).setCell ⟨w.heap.size + 2, 1, none⟩ (.slice ra E1.length rc)) :=
        ((hBw.trans (hf7.below.mono (by omega))).setCell (p := ⟨w.heap.size + 2, 0, none⟩) (by show w.heap.size ≤ w.heap.size + 2; omega) _).setCell (p := ⟨w.heap.size + 2, 1, none⟩) (by show w.heap.size ≤ w.heap.size + 2; omega) _
      generalize (W7.setCell ⟨w.heap.size + 2, 0, none⟩ (.int .i64 n1)).setCell ⟨w.heap.size + 2, 1, none⟩ (.slice ra E1.length rc) = W8 at g38 hz8 ho8 hB7 ⊢
      have d0 : W8.cell? ⟨w.heap.size + 2, 0, none⟩ = some (.int .i64 n1) := by simp [World.cell?, g38]
      have d1 : W8.cell? ⟨w.heap.size + 2, 1, none⟩ = some (.slice ra E1.length rc) := by simp [World.cell?, g38]
      refine bodyPost_ret (v := .tuple #[.agg #[.int .i64 n1, .slice ra E1.length rc], .int .i64 r1]) ?_ rfl ?_
      · simp [results, Try.f59, go_sem, d0, d1]
      · refine ⟨_, lab, rfl, hB7, fun b k hk => ⟨by have := (hlab b k hk).1; omega, by rw [hz8]; exact (hlab b k hk).2⟩, Try.tup2_ok (hfl7.mono id fun b hb ho => ⟨ho, ho8 b ?_⟩)⟩
        have := (hlab b _ ho).1
        omega
end Go.Proofs

set_option linter.unusedVariables false
set_option linter.unusedSimpArgs false
namespace Go.Sh
open Go.Proofs Go.RowKit Go.Shelf
/-! ### graph.Near, graph.Has: contracts -/
def hasG (n : Int) (E : List Ed) (a b : Int) : Bool := decide (RightP n E) && (nearL E a).elem b
theorem us_int {w : World} {q : Nat} {v : Int} {u : Value} (h : V1Ok w noLab q (.one (.s (.i .i64 v))) u) : u = .int .i64 v := by
  obtain ⟨x, h⟩ := h; exact h
end Go.Sh

set_option linter.unusedVariables false
set_option linter.unusedSimpArgs false
namespace Go.Proofs
open Go.RowKit Go.Shelf Go.Sh

attribute [local go_sem] Oper.semAt_some
theorem Try.wide_fn2 (f : Nat) : Fence.wide.fn f = True := rfl
attribute [local go_sem] Try.wide_fn2
theorem Try.lab_none (w W : World) (h : Below w.heap.size w W) : ∀ b k, noLab b = some k → w.heap.size ≤ b ∧ b < W.heap.size := fun b k h => by simp [noLab] at h
/-- what sub.Contract answers -/
def Try.conG (n : Int) (E : List Ed) (a b : Int) : (Int × List Ed) × Int := if RightP n E then (if mnI a b < 0 ∨ mxI a b ≥ n then ((0, []), 4) else if hasG n E a b = true then normF (n - 1) (Try.renE (Try.conF (mxI a b) (mnI a b)) E) else ((0, []), 6)) else ((0, []), 1)
set_option maxRecDepth 100000 in
set_option maxHeartbeats 2000000 in
theorem Try.Contract_in (n a b : Int) (E : List Ed) (A : Option Addr) (c : Nat) (w : World) (hE : E.length ≤ 1000000) (h : FlatOk w noLab none A c 2 (edges E)) (R : (Int × List Ed) × Int) (hR : R = Try.conG n E a b) :
    CallsIn Fence.wide 9 Try.prog 33 #[.agg #[.int .i64 n, .slice A E.length c], .int .i64 a, .int .i64 b] w fun e W' =>
      ∃ u lab, e = .returned u ∧ Below w.heap.size w W' ∧ (∀ b k, lab b = some k → w.heap.size ≤ b ∧ b < W'.heap.size) ∧ VOk W' lab 0 (.tup [grO R.1.1 R.1.2, .one (.s (.i .i64 R.2))]) u := by
  obtain ⟨w1, hw1⟩ : ∃ w1, w.alloc (.cells #[.int .i64 n, .slice A E.length c] 26) = w1 := ⟨_, rfl⟩
  obtain ⟨w3, hw3⟩ : ∃ w3, w1.alloc (.cells #[.int .i64 0, .slice none 0 0] 26) = w3 := ⟨_, rfl⟩
  have s1 : w1.heap.size = w.heap.size + 1 := by rw [← hw1]; simp
  have s3 : w3.heap.size = w.heap.size + 2 := by rw [← hw3]; simp [s1]
  have b1 : Below w.heap.size w w1 := by rw [← hw1]; exact (Below.refl _ w).alloc (Nat.le_refl _) _
  have b3 : Below w.heap.size w w3 := by rw [← hw3]; exact b1.alloc (by omega) _
  have g1 : w3.heap[w.heap.size]? = some (.cells #[.int .i64 n, .slice A E.length c] 26) := by
    rw [← hw3, Below.heap_alloc _ _ _ (by omega), ← hw1]; exact World.alloc_heap_new _ _
  have g3 : w3.heap[w.heap.size + 1]? = some (.cells #[.int .i64 0, .slice none 0 0] 26) := by
    rw [← hw3, ← s1]; exact World.alloc_heap_new _ _
  have c10 : w3.cell? ⟨w.heap.size, 0, none⟩ = some (.int .i64 n) := by simp [World.cell?, g1]
  have c11 : w3.cell? ⟨w.heap.size, 1, none⟩ = some (.slice A E.length c) := by simp [World.cell?, g1]
  refine callsIn_of_wp Try.func33 rfl trivial ?_ rfl
  simp only [Try.ntmps33, List.size_toArray, List.length_cons, List.length_nil, Nat.reduceAdd, Nat.reduceSub, Array.replicate_succ, Array.replicate_zero, List.push_toArray, List.append_toArray, List.nil_append, List.cons_append]
  have f3 := Try.flat_below h (fun b hb => b3.block b hb)
  have l3 : w.heap.size + 1 < w3.heap.size := by omega
  have hright := Try.right_in 8 w3 n E A c f3
  by_cases hRt : RightP n E
  · rw [decide_eq_true hRt] at hright
    gi_wp2
    gi_at_call 39
    refine hright.mono ?_
    rintro e W7 ⟨rfl, hb7⟩
    have m0 := (hb7.cell (p := ⟨w.heap.size, 0, none⟩) (by show w.heap.size < _; omega)).trans c10
    have m1 := (hb7.cell (p := ⟨w.heap.size, 1, none⟩) (by show w.heap.size < _; omega)).trans c11
    have g37 : W7.heap[w.heap.size + 1]? = some (.cells #[.int .i64 0, .slice none 0 0] 26) := (hb7.block _ l3).trans g3
    have q0 : W7.cell? ⟨w.heap.size + 1, 0, none⟩ = some (.int .i64 0) := by simp [World.cell?, g37]
    have q1 : W7.cell? ⟨w.heap.size + 1, 1, none⟩ = some (.slice none 0 0) := by simp [World.cell?, g37]
    have z0 : W7.frozen? ⟨w.heap.size + 1, 0, none⟩ = false := by simp [World.frozen?, g37]
    have z1 : W7.frozen? ⟨w.heap.size + 1, 1, none⟩ = false := by simp [World.frozen?, g37]
    have hB7 : Below w.heap.size w W7 := b3.trans (hb7.mono (by omega))
    have l7 : w.heap.size + 1 < W7.heap.size := Nat.lt_of_lt_of_le l3 hb7.size
    have l17 : w.heap.size < W7.heap.size := by omega
    have hmn : mnI a b = min a b := by unfold mnI; omega
    have hmx : mxI a b = max a b := by unfold mxI; omega
    by_cases h1 : min a b < 0
    · have hv : R = ((0, []), 4) := by rw [hR]; unfold Try.conG; rw [if_pos hRt, if_pos (.inl (by rw [hmn]; exact h1))]
      subst hv
      gi_wp2
      have g38 := Try.set2 (x' := .int .i64 0) (y' := .slice none 0 0) g37
      have hB8 : Below w.heap.size w ((W7.setCell ⟨w.heap.size + 1, 0, none⟩ (.int .i64 0)).setCell ⟨w.heap.size + 1, 1, none⟩ (.slice none 0 0)) :=
        (hB7.setCell (p := ⟨w.heap.size + 1, 0, none⟩) (by show w.heap.size ≤ w.heap.size + 1; omega) _).setCell (p := ⟨w.heap.size + 1, 1, none⟩) (by show w.heap.size ≤ w.heap.size + 1; omega) _
      generalize (W7.setCell ⟨w.heap.size + 1, 0, none⟩ (.int .i64 0)).setCell ⟨w.heap.size + 1, 1, none⟩ (.slice none 0 0) = W8 at g38 hB8 ⊢
      have d0 : W8.cell? ⟨w.heap.size + 1, 0, none⟩ = some (.int .i64 0) := by simp [World.cell?, g38]
      have d1 : W8.cell? ⟨w.heap.size + 1, 1, none⟩ = some (.slice none 0 0) := by simp [World.cell?, g38]
      refine bodyPost_ret (v := .tuple #[.agg #[.int .i64 0, .slice none 0 0], .int .i64 4]) ?_ rfl ?_
      · simp [results, Try.f33, go_sem, d0, d1]
      · first
          | exact ⟨_, rfl, hB8, noLab, fun b k l hk => by simp [noLab] at hk, Try.tup2_ok (E := []) (FlatOk.nil (by omega))⟩
          | exact ⟨_, noLab, rfl, hB8, Try.lab_none _ _ hB8, Try.tup2_ok (E := []) (FlatOk.nil (by omega))⟩
    by_cases h2 : n ≤ max a b
    · have hv : R = ((0, []), 4) := by rw [hR]; unfold Try.conG; rw [if_pos hRt, if_pos (.inr (by rw [hmx]; exact h2))]
      subst hv
      gi_wp2
      have g38 := Try.set2 (x' := .int .i64 0) (y' := .slice none 0 0) g37
      have hB8 : Below w.heap.size w ((W7.setCell ⟨w.heap.size + 1, 0, none⟩ (.int .i64 0)).setCell ⟨w.heap.size + 1, 1, none⟩ (.slice none 0 0)) :=
        (hB7.setCell (p := ⟨w.heap.size + 1, 0, none⟩) (by show w.heap.size ≤ w.heap.size + 1; omega) _).setCell (p := ⟨w.heap.size + 1, 1, none⟩) (by show w.heap.size ≤ w.heap.size + 1; omega) _
      generalize (W7.setCell ⟨w.heap.size + 1, 0, none⟩ (.int .i64 0)).setCell ⟨w.heap.size + 1, 1, none⟩ (.slice none 0 0) = W8 at g38 hB8 ⊢
      have d0 : W8.cell? ⟨w.heap.size + 1, 0, none⟩ = some (.int .i64 0) := by simp [World.cell?, g38]
      have d1 : W8.cell? ⟨w.heap.size + 1, 1, none⟩ = some (.slice none 0 0) := by simp [World.cell?, g38]
      refine bodyPost_ret (v := .tuple #[.agg #[.int .i64 0, .slice none 0 0], .int .i64 4]) ?_ rfl ?_
      · simp [results, Try.f33, go_sem, d0, d1]
      · first
          | exact ⟨_, rfl, hB8, noLab, fun b k l hk => by simp [noLab] at hk, Try.tup2_ok (E := []) (FlatOk.nil (by omega))⟩
          | exact ⟨_, noLab, rfl, hB8, Try.lab_none _ _ hB8, Try.tup2_ok (E := []) (FlatOk.nil (by omega))⟩
    have h7 := Try.flat_below h (fun b hb => hB7.block b hb)
    have hHas : CallsIn Fence.wide 8 Try.prog 37 #[.agg #[.int .i64 n, .slice A E.length c], .int .i64 a, .int .i64 b] W7 fun e W' => e = .returned (.bool (hasG n E a b)) ∧ Below W7.heap.size W7 W' := callsIn_wide.2 ((callsIn_wide (n := 6)).1 (Try.Has_in n a b E A c W7 hE h7))
    by_cases h3 : hasG n E a b = true
    · rw [h3] at hHas
      have hv : normF (n - 1) (Try.renE (Try.conF (mxI a b) (mnI a b)) E) = R := by rw [hR]; unfold Try.conG; rw [if_pos hRt, if_neg (by rw [hmn, hmx]; omega), if_pos h3]
      clear hR
      rw [hmn, hmx] at hv
      gi_wp2
      gi_at_call 37
      refine hHas.mono ?_
      rintro e W6 ⟨rfl, hb6⟩
      have hB6 : Below w.heap.size w W6 := hB7.trans (hb6.mono (by omega))
      have l6 : w.heap.size + 1 < W6.heap.size := Nat.lt_of_lt_of_le l7 hb6.size
      have n0 := (hb6.cell (p := ⟨w.heap.size, 0, none⟩) (by show w.heap.size < _; omega)).trans m0
      have n1 := (hb6.cell (p := ⟨w.heap.size, 1, none⟩) (by show w.heap.size < _; omega)).trans m1
      have g36 : W6.heap[w.heap.size + 1]? = some (.cells #[.int .i64 0, .slice none 0 0] 26) := (hb6.block _ l7).trans g37
      obtain ⟨W5, hW5⟩ : ∃ W5, W6.alloc (.cells #[.int .i64 (min a b)] 3) = W5 := ⟨_, rfl⟩
      obtain ⟨W4, hW4⟩ : ∃ W4, W5.alloc (.cells #[.int .i64 (max a b)] 3) = W4 := ⟨_, rfl⟩
      have t5 : W5.heap.size = W6.heap.size + 1 := by rw [← hW5]; simp
      have t4 : W4.heap.size = W6.heap.size + 2 := by rw [← hW4]; simp [t5]
      have k5 : Below W6.heap.size W6 W5 := by rw [← hW5]; exact (Below.refl _ W6).alloc (Nat.le_refl _) _
      have k4 : Below W6.heap.size W6 W4 := by rw [← hW4]; exact k5.alloc (by omega) _
      have gl : W4.heap[W6.heap.size]? = some (.cells #[.int .i64 (min a b)] 3) := by
        rw [← hW4, Below.heap_alloc _ _ _ (by omega), ← hW5]; exact World.alloc_heap_new _ _
      have gh : W4.heap[W6.heap.size + 1]? = some (.cells #[.int .i64 (max a b)] 3) := by
        rw [← hW4, ← t5]; exact World.alloc_heap_new _ _
      have ml : W4.cell? ⟨W6.heap.size, 0, none⟩ = some (.int .i64 (min a b)) := by simp [World.cell?, gl]
      have mh : W4.cell? ⟨W6.heap.size + 1, 0, none⟩ = some (.int .i64 (max a b)) := by simp [World.cell?, gh]
      have p0 : W4.cell? ⟨w.heap.size, 0, none⟩ = some (.int .i64 n) := (k4.cell (p := ⟨w.heap.size, 0, none⟩) (by show w.heap.size < _; omega)).trans n0
      have p1 : W4.cell? ⟨w.heap.size, 1, none⟩ = some (.slice A E.length c) := (k4.cell (p := ⟨w.heap.size, 1, none⟩) (by show w.heap.size < _; omega)).trans n1
      have g34 : W4.heap[w.heap.size + 1]? = some (.cells #[.int .i64 0, .slice none 0 0] 26) := (k4.block _ l6).trans g36
      have hB4 : Below w.heap.size w W4 := hB6.trans (k4.mono (by omega))
      have h4 := Try.flat_below h (fun b hb => hB4.block b hb)
      have hren := Try.renCon_in (W6.heap.size + 1) W6.heap.size (Try.conF (max a b) (min a b)) (n - 1) n E A c W4 hRt.2.2.1 hRt.2.1 hRt.2.2.2.1 h4 (fun m x W hx hW => Try.con1_in m (W6.heap.size + 1) W6.heap.size (max a b) (min a b) x W hx ((hW.cell (p := ⟨W6.heap.size + 1, 0, none⟩) (by show W6.heap.size + 1 < _; omega)).trans mh) ((hW.cell (p := ⟨W6.heap.size, 0, none⟩) (by show W6.heap.size < _; omega)).trans ml)) R hv.symm
      obtain ⟨⟨n1', E1⟩, r1⟩ := R
      clear hv
      clear q0 q1 z0 z1 m0 m1
      gi_wp2
      gi_at_call 59
      have hn1000 : n ≤ 1000 := hRt.2.1
      have hw64 : wrap64 (n - 1) = n - 1 := by unfold wrap64; omega
      rw [hw64]
      refine hren.mono ?_
      rintro e W9 ⟨u, lab, rfl, hb9, hlab, hu⟩
      obtain ⟨ra, rc, rfl, hfl9⟩ := Try.tup2 hu
      have g39 : W9.heap[w.heap.size + 1]? = some (.cells #[.int .i64 0, .slice none 0 0] 26) := (hb9.block _ (by omega)).trans g34
      have q0 : W9.cell? ⟨w.heap.size + 1, 0, none⟩ = some (.int .i64 0) := by simp [World.cell?, g39]
      have q1 : W9.cell? ⟨w.heap.size + 1, 1, none⟩ = some (.slice none 0 0) := by simp [World.cell?, g39]
      have z0 : W9.frozen? ⟨w.heap.size + 1, 0, none⟩ = false := by simp [World.frozen?, g39]
      have z1 : W9.frozen? ⟨w.heap.size + 1, 1, none⟩ = false := by simp [World.frozen?, g39]
      gi_wp2
      have hB7 := hB4
      have g38 := Try.set2 (x' := .int .i64 n1') (y' := .slice ra E1.length rc) g39
      have hz8 := Try.set2_size (W := W9) (b := w.heap.size + 1) (x' := .int .i64 n1') (y' := .slice ra E1.length rc)
      have ho8 : ∀ k, k ≠ w.heap.size + 1 → _ := fun k hk => Try.set2_other (W := W9) (x' := .int .i64 n1') (y' := .slice ra E1.length rc) hk
      have hB8 : Below w.heap.size w ((W9.setCell ⟨w.heap.size + 1, 0, none⟩ (.int .i64 n1')).setCell ⟨w.heap.size + 1, 1, none⟩ (.slice ra E1.length rc)) :=
        ((hB7.trans (hb9.mono (by omega))).setCell (p := ⟨w.heap.size + 1, 0, none⟩) (by show w.heap.size ≤ w.heap.size + 1; omega) _).setCell (p := ⟨w.heap.size + 1, 1, none⟩) (by show w.heap.size ≤ w.heap.size + 1; omega) _
      generalize (W9.setCell ⟨w.heap.size + 1, 0, none⟩ (.int .i64 n1')).setCell ⟨w.heap.size + 1, 1, none⟩ (.slice ra E1.length rc) = W8 at g38 hz8 ho8 hB8 ⊢
      have d0 : W8.cell? ⟨w.heap.size + 1, 0, none⟩ = some (.int .i64 n1') := by simp [World.cell?, g38]
      have d1 : W8.cell? ⟨w.heap.size + 1, 1, none⟩ = some (.slice ra E1.length rc) := by simp [World.cell?, g38]
      have hlab8 : ∀ b k, lab b = some k → w.heap.size ≤ b ∧ b < W8.heap.size := fun b k hk => ⟨by have := (hlab b k hk).1; omega, by rw [hz8]; exact (hlab b k hk).2⟩
      have hfl8 : FlatOk W8 lab (some (1, none)) ra rc 2 (edges E1) := hfl9.mono id fun b hb ho => ⟨ho, ho8 b (by have := (hlab b _ ho).1; omega)⟩
      refine bodyPost_ret (v := .tuple #[.agg #[.int .i64 n1', .slice ra E1.length rc], .int .i64 r1]) ?_ rfl ?_
      · simp [results, Try.f33, go_sem, d0, d1]
      · first
          | exact ⟨_, rfl, hB8, lab, fun b k l hk => hlab8 b (k, l) hk, Try.tup2_ok hfl8⟩
          | exact ⟨_, lab, rfl, hB8, hlab8, Try.tup2_ok hfl8⟩
    · have h3 : hasG n E a b = false := by simpa using h3
      rw [h3] at hHas
      have hv : R = ((0, []), 6) := by rw [hR]; unfold Try.conG; rw [if_pos hRt, if_neg (by rw [hmn, hmx]; omega), if_neg (by rw [h3]; simp)]
      subst hv
      gi_wp2
      gi_at_call 37
      refine hHas.mono ?_
      rintro e W6 ⟨rfl, hb6⟩
      have hB6 : Below w.heap.size w W6 := hB7.trans (hb6.mono (by omega))
      have g36 : W6.heap[w.heap.size + 1]? = some (.cells #[.int .i64 0, .slice none 0 0] 26) := (hb6.block _ l7).trans g37
      clear q0 q1 z0 z1 m0 m1
      have q0 : W6.cell? ⟨w.heap.size + 1, 0, none⟩ = some (.int .i64 0) := by simp [World.cell?, g36]
      have q1 : W6.cell? ⟨w.heap.size + 1, 1, none⟩ = some (.slice none 0 0) := by simp [World.cell?, g36]
      have z0 : W6.frozen? ⟨w.heap.size + 1, 0, none⟩ = false := by simp [World.frozen?, g36]
      have z1 : W6.frozen? ⟨w.heap.size + 1, 1, none⟩ = false := by simp [World.frozen?, g36]
      clear hB7 g37 hb6 h7 hb7
      gi_wp2
      have hB7 := hB6
      have g37 := g36
      clear hB6 g36
      generalize W6 = W7 at q0 q1 z0 z1 hB7 g37 ⊢
      have g38 := Try.set2 (x' := .int .i64 0) (y' := .slice none 0 0) g37
      have hB8 : Below w.heap.size w ((W7.setCell ⟨w.heap.size + 1, 0, none⟩ (.int .i64 0)).setCell ⟨w.heap.size + 1, 1, none⟩ (.slice none 0 0)) :=
        (hB7.setCell (p := ⟨w.heap.size + 1, 0, none⟩) (by show w.heap.size ≤ w.heap.size + 1; omega) _).setCell (p := ⟨w.heap.size + 1, 1, none⟩) (by show w.heap.size ≤ w.heap.size + 1; omega) _
      generalize (W7.setCell ⟨w.heap.size + 1, 0, none⟩ (.int .i64 0)).setCell ⟨w.heap.size + 1, 1, none⟩ (.slice none 0 0) = W8 at g38 hB8 ⊢
      have d0 : W8.cell? ⟨w.heap.size + 1, 0, none⟩ = some (.int .i64 0) := by simp [World.cell?, g38]
      have d1 : W8.cell? ⟨w.heap.size + 1, 1, none⟩ = some (.slice none 0 0) := by simp [World.cell?, g38]
      refine bodyPost_ret (v := .tuple #[.agg #[.int .i64 0, .slice none 0 0], .int .i64 6]) ?_ rfl ?_
      · simp [results, Try.f33, go_sem, d0, d1]
      · first
          | exact ⟨_, rfl, hB8, noLab, fun b k l hk => by simp [noLab] at hk, Try.tup2_ok (E := []) (FlatOk.nil (by omega))⟩
          | exact ⟨_, noLab, rfl, hB8, Try.lab_none _ _ hB8, Try.tup2_ok (E := []) (FlatOk.nil (by omega))⟩
  · rw [decide_eq_false hRt] at hright
    have hv : R = ((0, []), 1) := by rw [hR]; unfold Try.conG; rw [if_neg hRt]
    subst hv
    gi_wp2
    gi_at_call 39
    refine hright.mono ?_
    rintro e W7 ⟨rfl, hb7⟩
    have g37 : W7.heap[w.heap.size + 1]? = some (.cells #[.int .i64 0, .slice none 0 0] 26) := (hb7.block _ l3).trans g3
    have q0 : W7.cell? ⟨w.heap.size + 1, 0, none⟩ = some (.int .i64 0) := by simp [World.cell?, g37]
    have q1 : W7.cell? ⟨w.heap.size + 1, 1, none⟩ = some (.slice none 0 0) := by simp [World.cell?, g37]
    have z0 : W7.frozen? ⟨w.heap.size + 1, 0, none⟩ = false := by simp [World.frozen?, g37]
    have z1 : W7.frozen? ⟨w.heap.size + 1, 1, none⟩ = false := by simp [World.frozen?, g37]
    have hB7 : Below w.heap.size w W7 := b3.trans (hb7.mono (by omega))
    gi_wp2
    have g38 := Try.set2 (x' := .int .i64 0) (y' := .slice none 0 0) g37
    have hB8 : Below w.heap.size w ((W7.setCell ⟨w.heap.size + 1, 0, none⟩ (.int .i64 0)).setCell ⟨w.heap.size + 1, 1, none⟩ (.slice none 0 0)) :=
      (hB7.setCell (p := ⟨w.heap.size + 1, 0, none⟩) (by show w.heap.size ≤ w.heap.size + 1; omega) _).setCell (p := ⟨w.heap.size + 1, 1, none⟩) (by show w.heap.size ≤ w.heap.size + 1; omega) _
    generalize (W7.setCell ⟨w.heap.size + 1, 0, none⟩ (.int .i64 0)).setCell ⟨w.heap.size + 1, 1, none⟩ (.slice none 0 0) = W8 at g38 hB8 ⊢
    have d0 : W8.cell? ⟨w.heap.size + 1, 0, none⟩ = some (.int .i64 0) := by simp [World.cell?, g38]
    have d1 : W8.cell? ⟨w.heap.size + 1, 1, none⟩ = some (.slice none 0 0) := by simp [World.cell?, g38]
    refine bodyPost_ret (v := .tuple #[.agg #[.int .i64 0, .slice none 0 0], .int .i64 1]) ?_ rfl ?_
    · simp [results, Try.f33, go_sem, d0, d1]
    · first
        | exact ⟨_, rfl, hB8, noLab, fun b k l hk => by simp [noLab] at hk, Try.tup2_ok (E := []) (FlatOk.nil (by omega))⟩
        | exact ⟨_, noLab, rfl, hB8, Try.lab_none _ _ hB8, Try.tup2_ok (E := []) (FlatOk.nil (by omega))⟩
end Go.Proofs

set_option linter.unusedVariables false
set_option linter.unusedSimpArgs false
namespace Go.Sh
open Go.Proofs Go.RowKit Go.Shelf
/-! ### sub.Delete, sub.Contract: contracts -/
noncomputable def ConC : Con := conP 3 (fun a : (Int × List Ed) × Int × Int => a.1.2.length ≤ 1000000) (fun a => [grV a.1.1 a.1.2, .one (.s (.i .i64 a.2.1)), .one (.s (.i .i64 a.2.2))]) (fun a => .tup [grO (Try.conG a.1.1 a.1.2 a.2.1 a.2.2).1.1 (Try.conG a.1.1 a.1.2 a.2.1 a.2.2).1.2, .one (.s (.i .i64 (Try.conG a.1.1 a.1.2 a.2.1 a.2.2).2))])
theorem ConC_at {n : Int} {E : List Ed} (a b : Int) (h : E.length ≤ 1000000) : ConC.F [grV n E, .one (.s (.i .i64 a)), .one (.s (.i .i64 b))] = some (.tup [grO (Try.conG n E a b).1.1 (Try.conG n E a b).1.2, .one (.s (.i .i64 (Try.conG n E a b).2))], []) :=
  conP_at (a := ((n, E), a, b)) (fun x y _ _ h => by
    obtain ⟨⟨n, E⟩, a, b⟩ := x
    obtain ⟨⟨n', E'⟩, a', b'⟩ := y
    simp at h
    obtain ⟨h1, h2, h3⟩ := h
    obtain ⟨rfl, rfl⟩ := grV_inj h1
    subst h2 h3
    rfl) h
theorem Con_ok : SoundC Try.prog T 33 ConC := by
  refine sound_pure Try.func33 (by rfl) (by rfl) (by simp [ConC, conP]) ?_
  intro vs r outs hF w us hus
  obtain ⟨⟨⟨n, E⟩, a, b⟩, hl, rfl, rfl⟩ := conF_inv (pre := fun a : (Int × List Ed) × Int × Int => a.1.2.length ≤ 1000000) (enc := fun a => [grV a.1.1 a.1.2, .one (.s (.i .i64 a.2.1)), .one (.s (.i .i64 a.2.2))]) (val := fun a => .tup [grO (Try.conG a.1.1 a.1.2 a.2.1 a.2.2).1.1 (Try.conG a.1.1 a.1.2 a.2.1 a.2.2).1.2, .one (.s (.i .i64 (Try.conG a.1.1 a.1.2 a.2.1 a.2.2).2))]) hF
  dsimp only at hl hus ⊢
  obtain ⟨u1, u2, u3, hu, h1, h2, h3⟩ : ∃ u1 u2 u3, us.toList = [u1, u2, u3] ∧ V1Ok w noLab 0 (grV n E) u1 ∧ V1Ok w noLab (0 + 2) (.one (.s (.i .i64 a))) u2 ∧ V1Ok w noLab (0 + 2 + 1) (.one (.s (.i .i64 b))) u3 := by
    match h : us.toList, hus with
    | [u1, u2, u3], hus => exact ⟨u1, u2, u3, rfl, hus.1, hus.2.1, hus.2.2.1⟩
    | [], hus => exact hus.elim
    | [_], hus => exact hus.2.elim
    | [_, _], hus => exact hus.2.2.elim
    | _ :: _ :: _ :: _ :: _, hus => exact hus.2.2.2.elim
  obtain rfl : us = #[u1, u2, u3] := by cases us; simp_all
  obtain ⟨A, c, rfl, hA⟩ := Try.gr_of h1
  rw [us_int h2, us_int h3]
  refine ((callsIn_wide (n := 9)).1 (Try.Contract_in n a b E A c w hl hA _ rfl)).mono ?_
  rintro e w' ⟨u, lab, rfl, hb, hlab, hv⟩
  exact ⟨u, lab, rfl, ⟨hb.os, .of hb.tape, hb.output, hb.size, fun b h _ => hb.block b h⟩, hlab, hv⟩
end Go.Sh

set_option linter.unusedVariables false
set_option linter.unusedSimpArgs false
namespace Go.Sh
open Go.Proofs
/-! ### models of what came of a graph are models of the graph -/
theorem touch_iff {E : List Ed} {A B : List Int} : touchB E A B = true ↔ ∃ a ∈ A, ∃ b ∈ B, adjE E a b := by
  unfold touchB adjE
  rw [List.any_eq_true]
  constructor
  · rintro ⟨x, hx, h⟩
    simp only [Bool.or_eq_true, Bool.and_eq_true, List.elem_eq_mem, decide_eq_true_eq] at h
    rcases h with ⟨h1, h2⟩ | ⟨h1, h2⟩
    · exact ⟨_, h1, _, h2, .inl hx⟩
    · exact ⟨_, h2, _, h1, .inr hx⟩
  · rintro ⟨a, ha, b, hb, h | h⟩
    · exact ⟨_, h, by simp [ha, hb]⟩
    · exact ⟨_, h, by simp [ha, hb]⟩
def upR (φ : Int → Int) (lo hi : Int) (l : List Int) : List Int := if lo ∈ l then l.map φ ++ [hi] else l.map φ
theorem mem_upR {φ : Int → Int} {lo hi : Int} {l : List Int} {x : Int} : x ∈ upR φ lo hi l ↔ (∃ y ∈ l, φ y = x) ∨ (lo ∈ l ∧ x = hi) := by
  unfold upR
  split
  · rename_i h; simp [h]
  · rename_i h; simp [h]
theorem upR_head {φ : Int → Int} {lo hi : Int} {l : List Int} (h : l ≠ []) : (upR φ lo hi l).headD 0 = φ (l.headD 0) := by
  cases l with
  | nil => exact absurd rfl h
  | cons a l => unfold upR; split <;> rfl
theorem nodup_flat {S : List (List Int)} : S.flatten.Nodup ↔ (∀ l ∈ S, l.Nodup) ∧ S.Pairwise fun A B => ∀ x, x ∈ A → x ∈ B → False := by
  rw [List.nodup_iff_pairwise_ne, List.pairwise_flatten]
  constructor
  · rintro ⟨h1, h2⟩
    exact ⟨fun l hl => h1 l hl, h2.imp fun h x hx hy => h x hx x hy rfl⟩
  · rintro ⟨h1, h2⟩
    exact ⟨fun l hl => h1 l hl, h2.imp fun {A B} h x hx y hy (e : x = y) => h x hx (by rw [e]; exact hy)⟩
theorem chk_up {n n' hi lo : Int} {E E' : List Ed} {k : Int} {S : List (List Int)} {φ : Int → Int} (h : CheckP n' E' k S) (hR : RightP n E) (hin : ∀ x, 0 ≤ x ∧ x < n' → 0 ≤ φ x ∧ φ x < n) (hinj : ∀ x y, φ x = φ y → x = y)
    (hlo : 0 ≤ lo → φ lo = lo ∧ 0 ≤ hi ∧ hi < n ∧ adjE E lo hi ∧ ∀ x, φ x ≠ hi)
    (hadj : ∀ a b, adjE E' a b → adjE E (φ a) (φ b) ∨ (a = lo ∧ adjE E hi (φ b)) ∨ (b = lo ∧ adjE E (φ a) hi)) : CheckP n E k (S.map (upR φ lo hi)) := by
  obtain ⟨h1, h2, h3, h4, h5, h6⟩ := h
  have hlo' : ∀ l ∈ S, lo ∈ l → φ lo = lo ∧ 0 ≤ hi ∧ hi < n ∧ adjE E lo hi ∧ ∀ x, φ x ≠ hi := fun l hl hm => hlo ((h4 l hl).2.2.2.1 lo hm).1
  have hsym : ∀ a b, adjE E a b → adjE E b a := fun a b h => h.symm
  rw [nodup_flat] at h5
  refine ⟨hR, h2, by simpa using h3, ?_, ?_, ?_⟩
  · intro l' hl'
    obtain ⟨l, hl, rfl⟩ := List.mem_map.1 hl'
    obtain ⟨_, w2, w3, w4, w5⟩ := h4 l hl
    refine ⟨hR, ?_, ?_, ?_, ?_⟩
    · unfold upR; split
      · simp
      · simpa using w2
    · have hm : (l.map φ).Nodup := by
        rw [List.nodup_iff_pairwise_ne, List.pairwise_map]
        exact w3.imp fun hne he => hne (hinj _ _ he)
      unfold upR; split
      · rename_i hm2
        rw [List.nodup_append]
        refine ⟨hm, by simp, fun a ha b hb => ?_⟩
        obtain ⟨x, _, rfl⟩ := List.mem_map.1 ha
        simp at hb; subst hb
        exact (hlo' l hl hm2).2.2.2.2 x
      · exact hm
    · intro x hx
      rcases mem_upR.1 hx with ⟨y, hy, rfl⟩ | ⟨hm, rfl⟩
      · exact hin _ (w4 y hy)
      · exact ⟨(hlo' l hl hm).2.1, (hlo' l hl hm).2.2.1⟩
    · have hs : l.headD 0 ∈ l := by cases l with
        | nil => exact absurd rfl w2
        | cons a l => simp
      have hmem : ∀ x, Rch E' l (l.headD 0) x → x ∈ l := fun x hx => by
        cases hx with
        | base => exact hs
        | step _ _ hv => exact hv
      have key : ∀ x, Rch E' l (l.headD 0) x → Rch E (upR φ lo hi l) (φ (l.headD 0)) (φ x) := by
        intro x hx
        induction hx with
        | base => exact .base
        | @step u v hu ha hv ih =>
          have hvm : φ v ∈ upR φ lo hi l := mem_upR.2 (.inl ⟨v, hv, rfl⟩)
          rcases hadj u v ha with h | ⟨rfl, h⟩ | ⟨rfl, h⟩
          · exact .step ih h hvm
          · have hum := hmem _ hu
            obtain ⟨q1, q2, q3, q4, q5⟩ := hlo' l hl hum
            rw [q1] at ih
            exact .step (.step ih q4 (mem_upR.2 (.inr ⟨hum, rfl⟩))) h hvm
          · obtain ⟨q1, q2, q3, q4, q5⟩ := hlo' l hl hv
            refine .step (.step ih h (mem_upR.2 (.inr ⟨hv, rfl⟩))) ?_ hvm
            rw [q1]; exact hsym _ _ q4
      intro x hx
      rw [upR_head w2]
      rcases mem_upR.1 hx with ⟨y, hy, rfl⟩ | ⟨hm, rfl⟩
      · exact key y (w5 y hy)
      · obtain ⟨q1, q2, q3, q4, q5⟩ := hlo' l hl hm
        have := key lo (w5 lo hm)
        rw [q1] at this
        exact .step this q4 hx
  · rw [nodup_flat]
    refine ⟨?_, ?_⟩
    · intro l' hl'
      obtain ⟨l, hl, rfl⟩ := List.mem_map.1 hl'
      have hm : (l.map φ).Nodup := by
        rw [List.nodup_iff_pairwise_ne, List.pairwise_map]
        exact (h4 l hl).2.2.1.imp fun hne he => hne (hinj _ _ he)
      unfold upR; split
      · rename_i hm2
        rw [List.nodup_append]
        refine ⟨hm, by simp, fun a ha b hb => ?_⟩
        obtain ⟨x, _, rfl⟩ := List.mem_map.1 ha
        simp at hb; subst hb
        exact (hlo' l hl hm2).2.2.2.2 x
      · exact hm
    · rw [List.pairwise_map]
      refine h5.2.imp_of_mem fun {A B} hA hB hd => ?_
      intro x hx hy
      rcases mem_upR.1 hx with ⟨a, ha, rfl⟩ | ⟨hm, rfl⟩
      · rcases mem_upR.1 hy with ⟨b, hb, hab⟩ | ⟨hm2, he⟩
        · exact hd a ha (by rw [← hinj _ _ hab]; exact hb)
        · exact (hlo' B hB hm2).2.2.2.2 a he
      · rcases mem_upR.1 hy with ⟨b, hb, hab⟩ | ⟨hm2, _⟩
        · exact (hlo' A hA hm).2.2.2.2 b hab
        · exact hd _ hm hm2
  · intro q hq
    have hlen := (patG_ok k).2.2.2 q hq
    have ht := touch_iff.1 (h6 q hq)
    have hat : ∀ i : Int, 0 ≤ i → i < (patG k).1 → setAt (S.map (upR φ lo hi)) i = upR φ lo hi (setAt S i) ∧ setAt S i ∈ S := fun i h0 hi' => by
      have hlt : i.toNat < S.length := by omega
      unfold setAt
      rw [List.getD_eq_getElem?_getD, List.getD_eq_getElem?_getD, List.getElem?_map, List.getElem?_eq_getElem hlt]
      exact ⟨rfl, List.getElem_mem hlt⟩
    obtain ⟨e1, m1⟩ := hat q.1 hlen.1 (by omega)
    obtain ⟨e2, m2⟩ := hat q.2 (by omega) hlen.2.2
    rw [e1, e2]
    obtain ⟨a, ha, b, hb, hab⟩ := ht
    refine touch_iff.2 ?_
    rcases hadj a b hab with h | ⟨rfl, h⟩ | ⟨rfl, h⟩
    · exact ⟨_, mem_upR.2 (.inl ⟨a, ha, rfl⟩), _, mem_upR.2 (.inl ⟨b, hb, rfl⟩), h⟩
    · exact ⟨_, mem_upR.2 (.inr ⟨ha, rfl⟩), _, mem_upR.2 (.inl ⟨b, hb, rfl⟩), h⟩
    · exact ⟨_, mem_upR.2 (.inl ⟨a, ha, rfl⟩), _, mem_upR.2 (.inr ⟨hb, rfl⟩), h⟩
/-! ### what came of a deletion, of a contraction -/
theorem adj_ren {f : Int → Int} {E : List Ed} {a b : Int} (h : adjE (normE (Try.renE f E)) a b) : a ≠ b ∧ 0 ≤ a ∧ 0 ≤ b ∧ ∃ x y, adjE E x y ∧ f x = a ∧ f y = b := by
  have key : ∀ a b : Int, (a, b) ∈ normE (Try.renE f E) → a ≠ b ∧ 0 ≤ a ∧ 0 ≤ b ∧ ∃ x y, adjE E x y ∧ f x = a ∧ f y = b := by
    intro a b h
    obtain ⟨q, hq, hne, he⟩ := mem_normE.1 h
    unfold Try.renE at hq
    obtain ⟨p, hp, hpq⟩ := List.mem_filterMap.1 hq
    split at hpq
    · rename_i hpos
      injection hpq with hpq
      subst hpq
      dsimp only at hne
      unfold edN mnI mxI at he
      dsimp only at he
      by_cases hlt : f p.2 < f p.1
      · rw [if_pos hlt, if_neg (by omega)] at he
        injection he with e1 e2
        exact ⟨by omega, by omega, by omega, p.2, p.1, .inr hp, e1.symm, e2.symm⟩
      · rw [if_neg hlt, if_pos (by omega)] at he
        injection he with e1 e2
        exact ⟨by omega, by omega, by omega, p.1, p.2, .inl hp, e1.symm, e2.symm⟩
    · cases hpq
  rcases h with h | h
  · exact key a b h
  · obtain ⟨h1, h2, h3, x, y, h4, h5, h6⟩ := key b a h
    exact ⟨fun e => h1 e.symm, h3, h2, y, x, h4.symm, h6, h5⟩
theorem ren_right {n m : Int} {f : Int → Int} {E : List Ed} (hR : RightP n E) (h0 : 0 ≤ m) (hm : m ≤ 1000) (hf : ∀ x, 0 ≤ x → x < n → f x < m) : normF m (Try.renE f E) = ((m, normE (Try.renE f E)), 0) ∧ RightP m (normE (Try.renE f E)) := by
  have hin : ∀ p ∈ Try.renE f E, inR m p := by
    intro q hq
    unfold Try.renE at hq
    obtain ⟨p, hp, hpq⟩ := List.mem_filterMap.1 hq
    have hok := hR.2.2.2.1 p hp
    unfold okE at hok
    split at hpq
    · rename_i hpos
      injection hpq with hpq
      subst hpq
      have := hf p.1 (by omega) (by omega)
      have := hf p.2 (by omega) (by omega)
      unfold inR; dsimp only; omega
    · cases hpq
  have hl : (normE (Try.renE f E)).length ≤ 4000 := Nat.le_trans (normE_length _) (Nat.le_trans (Try.renE_length f E) hR.2.2.1)
  refine ⟨?_, h0, hm, hl, normE_ok (fun p hp => by have := hin p hp; unfold inR at this; exact this), normE_sorted _⟩
  unfold normF
  rw [if_neg (by omega), if_neg (by omega), if_pos hin, if_neg (by omega)]
theorem con_val {n a b : Int} {E : List Ed} (hR : RightP n E) (h : (a, b) ∈ E) : Try.conG n E a b = ((n - 1, normE (Try.renE (Try.conF b a) E)), 0) ∧ RightP (n - 1) (normE (Try.renE (Try.conF b a) E)) := by
  have hok := hR.2.2.2.1 _ h
  unfold okE at hok
  dsimp only at hok
  have hm : mnI a b = a := by unfold mnI; rw [if_neg (by omega)]
  have hx : mxI a b = b := by unfold mxI; rw [if_pos (by omega)]
  have h1 := ren_right (m := n - 1) (f := Try.conF b a) hR (by omega) (by have := hR.2.1; omega) (fun x h1 h2 => by unfold Try.conF; (split <;> first | omega | (split <;> omega)))
  refine ⟨?_, h1.2⟩
  unfold Try.conG
  have hh : hasG n E a b = true := by
    unfold hasG
    rw [Bool.and_eq_true]
    exact ⟨decide_eq_true hR, by rw [List.elem_eq_mem, decide_eq_true_iff, mem_nearL]; exact .inl h⟩
  rw [if_pos hR, hm, hx, if_neg (by omega), if_pos hh, h1.1]
theorem lift_up {n a b : Int} {E : List Ed} {k : Int} {S : List (List Int)} (hR : RightP n E) (hab : (a, b) ∈ E) (h : CheckP (n - 1) (normE (Try.renE (Try.conF b a) E)) k S) : CheckP n E k (S.map (liftRow a b)) := by
  have hok := hR.2.2.2.1 _ hab
  unfold okE at hok
  dsimp only at hok
  have hu := chk_up (φ := fun x => if x ≥ b then x + 1 else x) (lo := a) (hi := b) h hR (fun x hx => by split <;> omega) (fun x y hxy => by split at hxy <;> split at hxy <;> omega)
    (fun _ => ⟨if_neg (by omega), by omega, by omega, .inl hab, fun x hx => by split at hx <;> omega⟩) (fun p q hpq => by
    obtain ⟨hne, hp, hq, x, y, hxy, hfx, hfy⟩ := adj_ren hpq
    have hback : ∀ z w, Try.conF b a z = w → (z = b ∧ w = a) ∨ (z ≠ b ∧ (if w ≥ b then w + 1 else w) = z) := fun z w hz => by
      unfold Try.conF at hz
      split at hz
      · exact .inl ⟨by assumption, hz.symm⟩
      · refine .inr ⟨by assumption, ?_⟩
        split at hz
        · rw [if_pos (by omega)]; omega
        · rw [if_neg (by omega)]; omega
    rcases hback x p hfx with ⟨rfl, rfl⟩ | ⟨_, e1⟩
    · rcases hback y q hfy with ⟨rfl, rfl⟩ | ⟨_, e2⟩
      · exact absurd rfl hne
      · exact .inr (.inl ⟨rfl, by rw [e2]; exact hxy⟩)
    · rcases hback y q hfy with ⟨rfl, rfl⟩ | ⟨_, e2⟩
      · exact .inr (.inr ⟨rfl, by rw [e1]; exact hxy⟩)
      · exact .inl (by rw [e1, e2]; exact hxy))
  have he : S.map (upR (fun x => if x ≥ b then x + 1 else x) a b) = S.map (liftRow a b) := by
    refine List.map_congr_left fun l hl => ?_
    unfold upR liftRow aboveF
    rw [if_neg (show ¬ (a < 0 ∨ a = b) by omega)]
    by_cases hm : a ∈ l
    · rw [if_pos hm, if_pos (by simpa using hm)]
    · rw [if_neg hm, if_neg (by simpa using hm)]
  rw [← he]; exact hu
end Go.Sh

set_option linter.unusedVariables false
set_option linter.unusedSimpArgs false
namespace Go.Sh
open Go.Proofs
/-! ### carcanetlaw08.MinorCheck, MinorNone -/
end Go.Sh

set_option linter.unusedVariables false
set_option linter.unusedSimpArgs false
namespace Go.Sh
open Go.Proofs
/-! ### MinorDrop, MinorLift -/
theorem chk_milds {n : Int} {E : List Ed} {k : Int} {S : List (List Int)} (h : CheckP n E k S) (hs : small S) : milds S :=
  ⟨hs.1, fun l hl => ⟨hs.2 l hl, fun v hv => by have h1 := (h.2.2.2.1 l hl).2.2.2.1 v hv; have h2 := h.1.2.1; omega⟩⟩
theorem up_small {f : List Int → List Int} {S : List (List Int)} (hf : ∀ l, (f l).length ≤ l.length + 1) (hs : S.length ≤ 1000000 ∧ ∀ l ∈ S, l.length ≤ 20) : small (S.map f) :=
  ⟨by rw [List.length_map]; exact hs.1, fun l hl => by
    obtain ⟨x, hx, rfl⟩ := List.mem_map.1 hl
    have := hf x; have := hs.2 x hx; omega⟩
theorem cut_twenty (S : List (List Int)) : (cutSets S).length ≤ 1000000 ∧ ∀ l ∈ cutSets S, l.length ≤ 20 := by
  unfold cutSets
  refine ⟨by rw [List.length_map, List.length_take]; omega, fun l hl => ?_⟩
  obtain ⟨x, _, rfl⟩ := List.mem_map.1 hl
  rw [List.length_take]; omega
noncomputable def MLiftF := conF (fun _ : (Int × List Ed) × Int × Mo => True) (fun a => [grV a.1.1 a.1.2, .one (.s (.i .i64 a.2.1)), moV false a.2.2.1 a.2.2.2]) (fun _ => .one (.s (.b true)))
set_option maxHeartbeats 1000000 in
theorem MLift_ok : SoundP Try.prog 12 MLiftF := by
  refine con_pure (X := { Γ := [(28, ShownC), (16, OfC), (30, SmallC), (27, CheckC), (33, ConC), (34, LiftMC)], T := T, nt := 63 }) cr_none hmix hT (sound_cons (Shown_ok Unlike_ok) (sound_cons Of_ok (sound_cons Small_ok (sound_cons (Check_ok Unlike_ok) (sound_cons Con_ok (sound_cons LiftM_ok sound_nil)))))) Try.func12 (by rfl) (by rfl) (by rfl) 5 ?_
  rintro ⟨⟨n, E⟩, v, k, S⟩ -
  refine ⟨⟨Nat.le_of_ble_eq_true rfl, Nat.le_of_ble_eq_true rfl⟩, ?_⟩
  refine Call.by _ _ ShownC_at ?_
  refine Call.by _ _ (OfC_at n E (most := 20) (by omega)) ?_
  have hR := any_right (n := n) (l := E) (most := 20) (by omega) (by omega)
  obtain ⟨m, hm⟩ : ∃ m, anyN n 20 = m := ⟨_, rfl⟩
  obtain ⟨F, hF⟩ : ∃ F, anyE n E 20 = F := ⟨_, rfl⟩
  rw [hm, hF] at hR ⊢
  have hFl := hR.2.2.1
  refine Pick.by (fun h1 => ?_) (fun h1 => ?_)
  · exact ⟨rfl, rfl⟩
  have h1 : 0 < F.length := by
    have h1 : ¬ (F.length : Int) = 0 := by simpa [edges_length] using h1
    omega
  refine Pick.F (beq_eq_false_iff_ne.2 (by rw [edges_length]; omega)) ?_
  have hr := tmod_range (low_range v).1 (show 0 < (F.length : Int) by omega)
  obtain ⟨i, hi⟩ : ∃ i : Nat, (low v).tmod (F.length : Int) = i := ⟨((low v).tmod (F.length : Int)).toNat, by omega⟩
  have hil : i < F.length := by omega
  refine Idx.by i (by rw [← hi, edges_length]; rfl) (by rw [edges_length]; exact hil) ?_
  refine Look.by _ (edges_get (List.getElem?_eq_getElem hil)) ?_
  obtain ⟨⟨a, b⟩, hab⟩ : ∃ e, F[i] = e := ⟨_, rfl⟩
  have hmem : (a, b) ∈ F := by rw [← hab]; exact List.getElem_mem hil
  have hok := hR.2.2.2.1 _ hmem
  unfold okE at hok
  dsimp only at hok
  simp only [hab]
  refine Seg.by (by kernel_rfl) ?_
  obtain ⟨hd, hR'⟩ := con_val hR hmem
  have hD := ConC_at (n := m) (E := F) a b (by omega)
  rw [hd] at hD
  have hcs := cut_small S
  refine Call.by _ _ (SmallC_at k S) ?_
  refine Call.by _ _ hD ?_
  refine Call.by _ _ (CheckC_at (n := m - 1) (E := normE (Try.renE (Try.conF b a) F)) (k := k) hcs) ?_
  refine Pick.by (fun h2 => ?_) (fun h2 => ?_)
  · refine Seg.by (by kernel_rfl) ?_
    exact ⟨rfl, rfl⟩
  have h2 : checkB (m - 1) (normE (Try.renE (Try.conF b a) F)) k (cutSets S) = true := by
    have h2 : (!checkB (m - 1) (normE (Try.renE (Try.conF b a) F)) k (cutSets S)) = false := h2
    simpa using h2
  have hc := checkB_iff.1 h2
  have hup := lift_up hR hmem hc
  have hDr := LiftMC_at (k := k) b a (chk_milds hc hcs)
  rw [show mnI b a = a by unfold mnI; rw [if_pos (by omega)], show mxI b a = b by unfold mxI; rw [if_neg (by omega)]] at hDr
  refine Call.by _ _ hDr ?_
  have hfin := CheckC_at (n := m) (E := F) (k := k) (S := (cutSets S).map (liftRow a b)) (up_small (fun l => by unfold liftRow aboveF; split <;> (try split) <;> simp) (cut_twenty S))
  rw [checkB_iff.2 hup] at hfin
  refine Call.by _ _ hfin ?_
  refine Seg.by (by kernel_rfl) ?_
  exact ⟨rfl, rfl⟩
end Go.Sh

set_option linter.unusedVariables false
set_option linter.unusedSimpArgs false
namespace Go.Sh
open Go.Proofs
/-! ### carcanetlaw08.MinorMoves -/
def i64 (x : Int) : Prop := -9223372036854775808 ≤ x ∧ x ≤ 9223372036854775807
def rows64 (S : List (List Int)) : Prop := ∀ l ∈ S, ∀ x ∈ l, i64 x
def clI (x : Int) : Int := mnI x 4611686018427387904
def clP (j : Nat) (row : List Int) : List Int := (row.take j).map clI ++ row.drop j
theorem clP_all (row : List Int) (j : Nat) (h : row.length ≤ j) : clP j row = row.map clI := by
  unfold clP
  rw [List.take_of_length_le h, List.drop_eq_nil_of_le h, List.append_nil]
theorem clP_zero (row : List Int) : clP 0 row = row := by simp [clP]
def ClI (S : List (List Int)) (i j : Nat) (R : List (List Int)) : Prop := R.length = S.length ∧ ∀ r row, S[r]? = some row → R[r]? = some (if r < i then row.map clI else if r = i then clP j row else row)
theorem ClI.at {S R : List (List Int)} {i j : Nat} (h : ClI S i j R) {row : List Int} (hi : S[i]? = some row) : R[i]? = some (clP j row) := by
  have := h.2 i row hi
  rwa [if_neg (by omega), if_pos rfl] at this
theorem ClI.step {S R : List (List Int)} {i j : Nat} (h : ClI S i j R) {row : List Int} (hi : S[i]? = some row) : ClI S i (j + 1) (R.set i (clP (j + 1) row)) := by
  refine ⟨by rw [List.length_set]; exact h.1, fun r w hr => ?_⟩
  rw [List.getElem?_set]
  by_cases e : i = r
  · subst e
    rw [hi] at hr
    injection hr with hr
    subst hr
    rw [if_pos rfl, if_pos (by rw [h.1]; exact (List.getElem?_eq_some_iff.1 hi).1), if_neg (by omega), if_pos rfl]
  · rw [if_neg e, h.2 r w hr, if_neg (show ¬ r = i by omega), if_neg (show ¬ r = i by omega)]
theorem ClI.next {S R : List (List Int)} {i j : Nat} (h : ClI S i j R) {row : List Int} (hi : S[i]? = some row) (hj : row.length ≤ j) : ClI S (i + 1) 0 R := by
  refine ⟨h.1, fun r w hr => ?_⟩
  rw [h.2 r w hr]
  by_cases e : r < i
  · rw [if_pos e, if_pos (by omega)]
  · by_cases e2 : r = i
    · subst e2
      rw [hi] at hr
      injection hr with hr
      subst hr
      rw [if_neg e, if_pos rfl, if_pos (by omega), clP_all _ _ hj]
    · rw [if_neg e, if_neg e2, if_neg (by omega)]
      split
      · rw [clP_zero]
      · rfl
theorem ClI.done {S R : List (List Int)} {i : Nat} (h : ClI S i 0 R) (hi : S.length ≤ i) : R = S.map fun l => l.map clI := by
  apply List.ext_getElem?
  intro r
  by_cases hr : r < S.length
  · rw [h.2 r _ (List.getElem?_eq_getElem hr), if_pos (by omega)]
    simp [hr]
  · rw [List.getElem?_eq_none (by rw [h.1]; omega), List.getElem?_eq_none (by simp; omega)]
theorem ClI.zero (S : List (List Int)) : ClI S 0 0 S := ⟨rfl, fun r row h => by
  rw [if_neg (by omega), clP_zero]
  split <;> exact h⟩
end Go.Sh

set_option linter.unusedVariables false
set_option linter.unusedSimpArgs false
namespace Go.Sh
open Go.Proofs
/-! ### what is handed in, as data -/
theorem VTy.struct {T : Tab} {t : Nat} {ti : TI} {fs : List (Nat × Nat)} {v : V} (ht : lk T t = some ti) (hk : ti.kind = .struct fs) (h : VTy T t v) : ∃ cs, v = .agg cs ∧ All2 (fun (f : Nat × Nat) c => CTy T f.2 c) fs cs := by
  unfold VTy at h
  rw [ht] at h
  simp only at h
  rw [hk] at h
  exact h
theorem VTy.cell {T : Tab} {t : Nat} {ti : TI} {v : V} (ht : lk T t = some ti) (hk : ∀ fs, ti.kind ≠ .struct fs) (h : VTy T t v) : ∃ c, v = .one c ∧ CTy T t c := by
  unfold VTy at h
  rw [ht] at h
  simp only at h
  exact h
theorem ScTy.int {T : Tab} {t : Nat} {ti : TI} {k : IntKind} {x : Sc} (ht : lk T t = some ti) (hk : ti.kind = .int k) (h : ScTy T t x) : ∃ n, x = .i k n ∧ (Lit.int k n).wf = true := by
  unfold ScTy at h
  rw [ht] at h
  simp only at h
  rw [hk] at h
  cases x with
  | i k' n => obtain ⟨rfl, h⟩ := h; exact ⟨n, rfl, h⟩
  | b _ => exact h.elim
theorem CTy.sc {T : Tab} {t : Nat} {c : C} (hs : sliceE T t = none) (h : CTy T t c) : ∃ x, c = .s x ∧ ScTy T t x := by
  unfold CTy at h
  rw [hs] at h
  exact h
theorem CTy.flat {T : Tab} {t e : Nat} {c : C} (hs : sliceE T t = some e) (hs2 : sliceE T e = none) (h : CTy T t c) : ∃ rows, c = .flat false (sizeT T e) rows ∧ FlatTy T e rows := by
  unfold CTy at h
  rw [hs] at h
  simp only at h
  rw [hs2] at h
  exact h
theorem CTy.nest {T : Tab} {t e e2 : Nat} {c : C} (hs : sliceE T t = some e) (hs2 : sliceE T e = some e2) (h : CTy T t c) : ∃ rows, c = .nest false (sizeT T e2) rows ∧ rows.length ≤ maxLen ∧ ∀ fl ∈ rows, FlatTy T e2 fl := by
  unfold CTy at h
  rw [hs] at h
  simp only at h
  rw [hs2] at h
  exact h
theorem i64_wf {n : Int} (h : (Lit.int .i64 n).wf = true) : i64 n := by
  simp [Lit.wf, IntKind.min, IntKind.max, IntKind.signed, IntKind.bits] at h
  exact h
theorem list_ex {α β : Type} {P : α → β → Prop} : ∀ {l : List α}, (∀ x ∈ l, ∃ y, P x y) → ∃ m : List β, All2 P l m := by
  intro l
  induction l with
  | nil => intro _; exact ⟨[], All2.nil⟩
  | cons x l ih =>
    intro h
    obtain ⟨y, hy⟩ := h x (by simp)
    obtain ⟨m, hm⟩ := ih fun x hx => h x (by simp [hx])
    exact ⟨y :: m, All2.cons' hy hm⟩
theorem All2.map_eq {α β : Type} {f : β → α} {l : List α} {m : List β} (h : All2 (fun x y => x = f y) l m) : l = m.map f := by
  apply List.ext_getElem?
  intro i
  rw [List.getElem?_map]
  by_cases hi : i < l.length
  · have him : i < m.length := by rw [← h.1]; exact hi
    rw [List.getElem?_eq_getElem hi, List.getElem?_eq_getElem him, Option.map_some, h.2 i _ _ (List.getElem?_eq_getElem hi) (List.getElem?_eq_getElem him)]
  · rw [List.getElem?_eq_none (by omega), List.getElem?_eq_none (by rw [← h.1]; omega)]; rfl
theorem All2.mem {α β : Type} {R : α → β → Prop} {l : List α} {m : List β} (h : All2 R l m) {y : β} (hy : y ∈ m) : ∃ x ∈ l, R x y := by
  obtain ⟨i, hi⟩ := List.mem_iff_getElem?.1 hy
  have hl := (List.getElem?_eq_some_iff.1 hi).1
  rw [← h.1] at hl
  exact ⟨_, List.getElem_mem hl, h.2 i _ y (List.getElem?_eq_getElem hl) hi⟩
/-! #### at this program's types -/
theorem row_int {row : Row} (h : RowTy T 3 row) : ∃ n, row = [.i .i64 n] ∧ i64 n := by
  obtain ⟨x, rfl, hx⟩ := h
  obtain ⟨n, rfl, hw⟩ := ScTy.int (t := 3) rfl rfl hx
  exact ⟨n, rfl, i64_wf hw⟩
theorem ints_of {fl : Flat} (h : FlatTy T 3 fl) : ∃ l : List Int, fl = ints l ∧ l.length ≤ maxLen ∧ ∀ x ∈ l, i64 x := by
  obtain ⟨m, hm⟩ := list_ex (P := fun row n => row = [Sc.i .i64 n] ∧ i64 n) fun row hr => row_int (h.2 row hr)
  refine ⟨m, All2.map_eq (f := fun n => [Sc.i .i64 n]) (hm.imp fun _ _ _ k => k.1), by rw [← hm.1]; exact h.1, fun x hx => ?_⟩
  obtain ⟨_, _, k⟩ := hm.mem hx
  exact k.2
theorem rows_of {rows : List Flat} (h : ∀ fl ∈ rows, FlatTy T 3 fl) : ∃ S : List (List Int), rows = rowsI S ∧ rows64 S ∧ ∀ l ∈ S, l.length ≤ maxLen := by
  obtain ⟨m, hm⟩ := list_ex (P := fun (fl : Flat) l => fl = ints l ∧ l.length ≤ maxLen ∧ ∀ x ∈ l, i64 x) fun fl hf => ints_of (h fl hf)
  refine ⟨m, All2.map_eq (hm.imp fun _ _ _ k => k.1), fun l hl => ?_, fun l hl => ?_⟩
  · obtain ⟨_, _, k⟩ := hm.mem hl; exact k.2.2
  · obtain ⟨_, _, k⟩ := hm.mem hl; exact k.2.1
theorem All2.two {α β : Type} {R : α → β → Prop} {a b : α} {m : List β} (h : All2 R [a, b] m) : ∃ x y, m = [x, y] ∧ R a x ∧ R b y := by
  obtain ⟨h1, h2⟩ := h
  match m, h1, h2 with
  | [x, y], _, h2 => exact ⟨x, y, rfl, h2 0 a x rfl rfl, h2 1 b y rfl rfl⟩
theorem All2.one {α β : Type} {R : α → β → Prop} {a : α} {m : List β} (h : All2 R [a] m) : ∃ x, m = [x] ∧ R a x := by
  obtain ⟨h1, h2⟩ := h
  match m, h1, h2 with
  | [x], _, h2 => exact ⟨x, rfl, h2 0 a x rfl rfl⟩
theorem All2.three {α β : Type} {R : α → β → Prop} {a b c : α} {m : List β} (h : All2 R [a, b, c] m) : ∃ x y z, m = [x, y, z] ∧ R a x ∧ R b y ∧ R c z := by
  obtain ⟨h1, h2⟩ := h
  match m, h1, h2 with
  | [x, y, z], _, h2 => exact ⟨x, y, z, rfl, h2 0 a x rfl rfl, h2 1 b y rfl rfl, h2 2 c z rfl rfl⟩
theorem row_edge {row : Row} (h : RowTy T 60 row) : ∃ p : Ed, row = [.i .i64 p.1, .i .i64 p.2] ∧ i64 p.1 ∧ i64 p.2 := by
  obtain ⟨_, h⟩ := h
  obtain ⟨x, y, rfl, hx, hy⟩ := All2.two h
  obtain ⟨n, rfl, hn⟩ := ScTy.int (t := 3) rfl rfl hx
  obtain ⟨m, rfl, hm⟩ := ScTy.int (t := 3) rfl rfl hy
  exact ⟨(n, m), rfl, i64_wf hn, i64_wf hm⟩
theorem edges_of {fl : Flat} (h : FlatTy T 60 fl) : ∃ E : List Ed, fl = edges E ∧ E.length ≤ maxLen ∧ ∀ p ∈ E, i64 p.1 ∧ i64 p.2 := by
  obtain ⟨m, hm⟩ := list_ex (P := fun row (p : Ed) => row = [Sc.i .i64 p.1, Sc.i .i64 p.2] ∧ i64 p.1 ∧ i64 p.2) fun row hr => row_edge (h.2 row hr)
  refine ⟨m, All2.map_eq (f := fun p : Ed => [Sc.i .i64 p.1, Sc.i .i64 p.2]) (hm.imp fun _ _ _ k => k.1), by rw [← hm.1]; exact h.1, fun x hx => ?_⟩
  obtain ⟨_, _, k⟩ := hm.mem hx
  exact k.2
theorem int_of {v : V} (h : VTy T 3 v) : ∃ n, v = .one (.s (.i .i64 n)) ∧ i64 n := by
  obtain ⟨c, rfl, hc⟩ := VTy.cell (ti := { kind := .int .i64, size := _, bytes := _, zero := _, eqs := _, cells := _ }) rfl (fun fs => by simp) h
  obtain ⟨x, rfl, hx⟩ := CTy.sc rfl hc
  obtain ⟨n, rfl, hw⟩ := ScTy.int (t := 3) rfl rfl hx
  exact ⟨n, rfl, i64_wf hw⟩
theorem model_of {v : V} (h : VTy T 47 v) : ∃ k S, v = moV false k S ∧ i64 k ∧ rows64 S := by
  obtain ⟨cs, rfl, hcs⟩ := VTy.struct (t := 47) rfl rfl h
  obtain ⟨x, y, rfl, hx, hy⟩ := All2.two hcs
  obtain ⟨z, rfl, hz⟩ := CTy.sc (t := 3) rfl hx
  obtain ⟨n, rfl, hw⟩ := ScTy.int (t := 3) rfl rfl hz
  obtain ⟨rows, rfl, _, hr⟩ := CTy.nest (t := 28) (e := 29) (e2 := 3) rfl rfl hy
  obtain ⟨S, rfl, hS, _⟩ := rows_of hr
  exact ⟨n, S, rfl, i64_wf hw, hS⟩
theorem net_of {v : V} (h : VTy T 24 v) : ∃ n E, v = grV n E ∧ i64 n ∧ ∀ p ∈ E, i64 p.1 ∧ i64 p.2 := by
  obtain ⟨cs, rfl, hcs⟩ := VTy.struct (t := 24) rfl rfl h
  obtain ⟨x, y, rfl, hx, hy⟩ := All2.two hcs
  obtain ⟨z, rfl, hz⟩ := CTy.sc (t := 3) rfl hx
  obtain ⟨n, rfl, hw⟩ := ScTy.int (t := 3) rfl rfl hz
  obtain ⟨rows, rfl, hr⟩ := CTy.flat (t := 22) (e := 60) rfl rfl hy
  obtain ⟨E, rfl, _, hE⟩ := edges_of hr
  exact ⟨n, E, rfl, i64_wf hw, hE⟩
end Go.Sh

set_option linter.unusedVariables false
namespace Go.Sh
open Go.Proofs
theorem own : ownKnob Try.prog.godebug = none := by kernel_rfl
theorem laidOut : laidOutB Try.prog = true := by kernel_rfl
set_option maxRecDepth 100000 in
/-- A law whose function answers true, whatever comes. -/
theorem law_row {s : ChangeSpec} {f : FuncId} {fn : Func} {conds : List PathCond} {apart fresh handsOn : Bool} {ts : List TypeId} {F : List V → Option (V × List V)} (hf : Try.prog.funcs[f]? = some fn) (hin : Try.prog.inits.idxOf? f = none) (hv : s.vars = [])
    (hts : fn.params.toList = ts) (ha : ts.all (argB T) = true) (hr : ts.all (fun t => Try.prog.readableRec t && Nat.blt t Try.prog.types.size) = true) (hres : fn.resultTypes = #[4])
    (hsp : ∀ (H : Type) (ds : List (DataW H)), ds.length = ts.length → (s.fn H ds).results = [.lit (.bool true)] ∧ (s.fn H ds).args = ds ∧ (s.fn H ds).vars = [])
    (hS : SoundP Try.prog f F) (hF : LawV T ts F) (os : Os) (started : os.Started) (H : Type) (enc : TypeId × Value → H) (a : Assume)
    (hw : ∃ (w : World) (tape : Tape) (i : Input), w.os = os ∧ (w.forCall tape i).Shaped Try.checked.prog ∧ i.vars = [] ∧ Input.okWide Try.checked.prog (w.forCall tape i) .any w.heap.size f i ∧
      s.pre6 enc Try.checked.prog fn conds apart (w.forCall tape i).memory i.args ∧ a.holds Try.checked.prog (lone (Frame.enter Try.checked.prog f i.args .normal) [] (w.forCall tape i))) :
    ReturnsInHanded a Try.checked os f .any (s.pre6 enc Try.checked.prog fn conds apart) (s.post enc Try.checked.prog fn apart fresh handsOn false) := by
  refine returnsInHanded_of_change (C := Try.checked) own started hin hf hw ?_
  intro W base args ds gs before hval hW _ _
  refine law_contract (P := Try.prog) (conds := conds) hT laidOut hv hts ha (fun t ht => ?_) hres Try.underlying4 (hsp H) hS hF hval hW
  have := List.all_eq_true.1 hr t ht
  simp only [Bool.and_eq_true] at this
  exact ⟨this.1, Nat.le_of_ble_eq_true this.2⟩
end Go.Sh
