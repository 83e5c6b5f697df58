/- What the functions answer that the statement reaches. No condition. -/
import Derived.Test.YtddlfeclbffloaaFn2
import Derived.Test.YtddlfeclbffloaaRows
namespace Go.Proofs
open Go.RowKit Go.Shelf Go.Maps Go.Sort

theorem Try.keeps_iff (s : List Int) (j : Nat) (hj : j < s.length) : Lib.keeps s.toArray j = true ↔ (j = 0 ∨ s[j] ≠ s[j - 1]'(by omega)) := by
  have h1 : s.toArray[j]! = s[j] := by rw [getElem!_pos _ j (by simpa using hj)]; simp
  have h2 : s.toArray[j - 1]! = s[j - 1]'(by omega) := by rw [getElem!_pos _ (j - 1) (by simp; omega)]; simp
  unfold Lib.keeps
  rw [h1, h2]
  simp
theorem Try.compact_nodup {s : List Int} (hs : s.Pairwise (· ≤ ·)) : (Lib.compact s).length = s.length ↔ s.Nodup := by
  unfold Lib.compact Lib.compactUpTo
  rw [List.length_map]
  have hr : s.length = (List.range s.length).length := by simp
  constructor
  · intro h
    have hall : ∀ j ∈ List.range s.length, Lib.keeps s.toArray j = true := by
      refine List.length_filter_eq_length_iff.1 ?_
      rw [h]; exact hr
    have hlt : ∀ i j (hij : i < j) (hj : j < s.length), s[i]'(by omega) < s[j] := by
      intro i j hij hj
      have hk := (Try.keeps_iff s j hj).1 (hall j (List.mem_range.2 hj))
      have hne : s[j] ≠ s[j - 1]'(by omega) := by rcases hk with h | h <;> first | omega | exact h
      have hle : s[j - 1]'(by omega) ≤ s[j] := by
        have := List.pairwise_iff_getElem.1 hs (j - 1) j (by omega) hj (by omega)
        exact this
      have h2 : s[i]'(by omega) ≤ s[j - 1]'(by omega) := by
        rcases Nat.eq_or_lt_of_le (show i ≤ j - 1 by omega) with e | h
        · subst e; exact Int.le_refl _
        · exact List.pairwise_iff_getElem.1 hs i (j - 1) (by omega) (by omega) h
      omega
    exact List.pairwise_iff_getElem.2 fun i j hi hj hij => by have := hlt i j hij hj; omega
  · intro h
    rw [List.length_filter_eq_length_iff.2 ?_]
    · simp
    · intro j hj
      have hj := List.mem_range.1 hj
      rw [Try.keeps_iff s j hj]
      by_cases h0 : j = 0
      · exact .inl h0
      · have := List.pairwise_iff_getElem.1 h (j - 1) j (by omega) hj (by omega)
        exact .inr fun e => this e.symm
def Try.sortL (zs : List Int) : List Int := zs.mergeSort (fun x y => decide (x ≤ y))
theorem Try.sortL_sorted (zs : List Int) : (Try.sortL zs).Pairwise (· ≤ ·) := by
  have := List.pairwise_mergeSort (le := fun a b : Int => decide (a ≤ b)) (fun a b c h1 h2 => by simp at *; omega) (fun a b => by simp; omega) zs
  exact this.imp (fun h => by simpa using h)
theorem Try.compact_sort (zs : List Int) : (Lib.compact (Try.sortL zs)).length = zs.length ↔ zs.Nodup := by
  have hp : (Try.sortL zs).Perm zs := List.mergeSort_perm zs _
  rw [← hp.length_eq, Try.compact_nodup (Try.sortL_sorted zs), hp.nodup_iff]
def Try.CompactsIn (F : Fence) (m : Nat) : Prop :=
  (∀ (blk off cap : Nat) (zs : List Int) (w : World), Holds (Value.int .i64) w blk off zs.toArray → zs.length ≤ 9223372036854775807 → zs.length ≤ cap →
    CallsIn F m Try.prog 94 #[.slice (some ⟨blk, off, none⟩) zs.length cap] w fun e w' => e = .returned (.slice (some ⟨blk, off, none⟩) (Lib.compact zs).length cap) ∧ ∃ q, w' = putRow (Value.int .i64) (Sort.ahead w q) blk off (Lib.compact zs ++ List.replicate (zs.length - (Lib.compact zs).length) 0).toArray) ∧
  (∀ (a : Option Addr) (cap : Nat) (w : World), CallsIn F m Try.prog 94 #[.slice a 0 cap] w fun e w' => e = .returned (.slice a 0 cap) ∧ w' = w)
theorem Try.compactsIn (m : Nat) : Try.CompactsIn Fence.wide m :=
  ⟨fun blk off cap ss W h1 h2 h3 => callsIn_wide.2 (Any.slices_Compact_int Try.laysCompact blk off cap ss W h1 h2 h3), fun p cap W => callsIn_wide.2 (Any.slices_Compact_int_empty Try.laysCompact p cap W)⟩
set_option maxRecDepth 100000 in
set_option maxHeartbeats 2000000 in
theorem Try.unlike_in (F : Fence) (n : Nat) (h77 : F.fn 77) (h93 : F.fn 93) (h94 : F.fn 94) (h92 : F.fn 92) (h84 : F.fn 84) (h102 : F.fn 102) (h116 : F.fn 116) (h103 : F.fn 103) (hro : F.round = none) (hn : 6 ≤ n) (hsort : Try.SortsIn F (n - 1 - 1)) (hcomp : Try.CompactsIn F (n - 1)) (a : Option Addr) (cap : Nat) (zs : List Int) (hlen : zs.length ≤ 1000000) (w : World)
    (hI : Try.Ints w.heap.size w (.slice a zs.length cap) zs) :
    CallsIn F n Try.prog 77 #[.slice a zs.length cap] w fun e W' => e = .returned (.bool (decide zs.Nodup)) ∧ Below w.heap.size w W' := by
  have h1 : 1 ≤ n := by omega
  have hml : zs.length ≤ maxLen := by unfold maxLen; omega
  have hB0 : Below w.heap.size w (w.alloc (.cells #[.slice a zs.length cap] 38)) := ((Below.refl _ w).alloc (Nat.le_refl _) _)
  have bO := Boxed.new w 38 (.slice a zs.length cap)
  have hcs := Try.compact_sort zs
  have hsl : (Try.sortL zs).length = zs.length := (List.mergeSort_perm zs _).length_eq
  refine callsIn_of_wp Try.func77 rfl h77 ?_ hro
  simp only [Try.ntmps77, List.size_toArray, List.length_cons, List.length_nil, Nat.reduceAdd, Nat.reduceSub, Array.replicate_succ, Array.replicate_zero, List.push_toArray, List.append_toArray, List.nil_append, List.cons_append]
  gi_wp2_with (first
    | (gi_at_call 93; refine (Try.values_in F (n - 1) h93 hro _ _ _ _).mono ?_; rintro e w' ⟨rfl, rfl⟩)
    | (gi_at_call 92; refine (Try.sorted_in F (n - 1) h92 h84 h102 h116 h103 hro (by omega) hsort w.heap.size w.heap.size _ zs hml (by omega) _ (by simp) (by simp) bO.cell (hI.below hB0)).mono ?_; rintro e W ⟨v, rfl, hrow, hnil, hb⟩))
  rcases hrow.2 with ⟨rfl, hz⟩ | ⟨gb, cap', cur, rfl, hbase, hgb, r1, r2, r3, r4⟩
  · have hss : zs = [] := List.eq_nil_of_length_eq_zero hz
    subst hss
    gi_wp2_with (gi_at_call 94; refine (hcomp.2 none 0 W).mono ?_; rintro e w' ⟨rfl, rfl⟩)
    go_ret
    exact ⟨rfl, hB0.trans (hb.mono (by simp))⟩
  · have hH : Holds (Value.int .i64) W gb 0 (Try.sortL zs).toArray := holds_of_block_i hgb (by rw [hsl]; simpa [Try.sortL] using r4)
    have hsz : (Try.sortL zs).length ≤ 9223372036854775807 := by omega
    have cS := hcomp.1 gb 0 cap' (Try.sortL zs) W hH hsz (by omega)
    rw [hsl] at cS
    gi_wp2_with (gi_at_call 94; refine cS.mono ?_; rintro e w' ⟨rfl, q, rfl⟩)
    go_ret
    have hg : W.grownBy (putRow encZ (Sort.ahead W q) gb 0 (Lib.compact (Try.sortL zs) ++ List.replicate (zs.length - (Lib.compact (Try.sortL zs)).length) 0).toArray) (some gb) := by
      have := grownBy_sorted_i (w := W) (g := gb) (n := q) (os := #[]) (Lib.compact (Try.sortL zs) ++ List.replicate (zs.length - (Lib.compact (Try.sortL zs)).length) 0).toArray
      rwa [grow_empty] at this
    have hb1 : Below w.heap.size w W := hB0.trans (hb.mono (by simp))
    refine ⟨?_, hb1.grown hg hb1.size (fun j hj => by cases hj; simp at hbase; omega)⟩
    show Ending.returned (.bool (((Lib.compact (Try.sortL zs)).length : Int) == (zs.length : Int))) = _
    congr 2
    by_cases hd : zs.Nodup
    · rw [decide_eq_true hd, hcs.2 hd]; simp
    · rw [decide_eq_false hd]
      exact beq_eq_false_iff_ne.2 fun h => hd (hcs.1 (by omega))
open Go.Sh in
theorem Try.ints_of {w : World} {l : List Int} {A : Option Addr} {c : Nat} (h : FlatOk w noLab none A c 1 (ints l)) : Try.Ints w.heap.size w (.slice A l.length c) l := by
  cases l with
  | nil => exact .inl ⟨rfl, A, c, rfl⟩
  | cons x l =>
    obtain ⟨a, rfl, _, h0⟩ := h.cell 0 [.i .i64 x] 0 (.i .i64 x) rfl rfl
    refine .inr ⟨a, c, rfl, ?_, fun j hj => ?_⟩
    · have h0 : w.cell? (a.add (0 * 1 + 0)) = some (Sc.val (.i .i64 x)) := h0
      have e : (a.add (0 * 1 + 0)).block = a.block := Try.add_block a _
      rw [← e]
      generalize a.add (0 * 1 + 0) = p at h0
      simp only [World.cell?] at h0
      by_cases hp : p.block < w.heap.size
      · exact hp
      · rw [Array.getElem?_eq_none (by omega)] at h0
        simp at h0
    · have hg := List.getElem?_eq_getElem hj
      obtain ⟨b, hb, _, hc⟩ := h.cell j [.i .i64 (x :: l)[j]] 0 (.i .i64 (x :: l)[j]) (ints_get hg) rfl
      injection hb with hb
      subst hb
      rw [Nat.mul_one, Nat.add_zero] at hc
      rw [hc, hg]; rfl
end Go.Proofs


set_option linter.unusedVariables false
namespace Go.Sh
open Go.Proofs
/-! ### walk.unlike -/
theorem Unlike_ok : SoundC Try.prog T 77 UnlikeC := by
  refine sound_pure Try.func77 (by rfl) (by rfl) (by simp [UnlikeC, conP]) ?_
  intro vs r outs hF w us hus
  obtain ⟨l, hl, rfl, rfl⟩ := conF_inv (pre := fun l : List Int => l.length ≤ 1000000) (enc := fun l => [.one (.flat false 1 (ints l))]) (val := fun l => .one (.s (.b (decide l.Nodup)))) hF
  have hl : l.length ≤ 1000000 := hl
  obtain ⟨u, hu⟩ : ∃ u, us.toList = [u] ∧ V1Ok w noLab 0 (.one (.flat false 1 (ints l))) u := by
    cases h : us.toList with
    | nil => rw [h] at hus; exact hus.elim
    | cons u r =>
      rw [h] at hus
      cases r with
      | nil => exact ⟨u, rfl, hus.1⟩
      | cons _ _ => exact hus.2.elim
  obtain ⟨he, ⟨x, hx, hF⟩⟩ := hu
  obtain rfl : us = #[u] := by cases us; simp_all
  subst hx
  rw [ints_length]
  refine ((callsIn_wide (n := 6)).1 (Try.unlike_in Fence.wide 6 trivial trivial trivial trivial trivial trivial trivial trivial rfl (by omega) (Try.sortsIn _) (Try.compactsIn _) x.A x.c l hl w (Try.ints_of hF))).mono ?_
  rintro e w' ⟨rfl, hb⟩
  exact ⟨_, noLab, rfl, ⟨hb.os, hb.tape, hb.output, hb.size, fun b h _ => hb.block b h⟩, fun b k h => by simp [noLab] at h, ⟨⟨none, 0, fun _ => none, fun _ => 0⟩, rfl⟩⟩
end Go.Sh

set_option linter.unusedVariables false
set_option linter.unusedSimpArgs false
namespace Go.Sh
open Go.Proofs
/-! ### what is handed in, as data -/
theorem VTy.struct {T : Tab} {t : Nat} {ti : TI} {fs : List (Nat × Nat)} {v : V} (ht : lk T t = some ti) (hk : ti.kind = .struct fs) (h : VTy T t v) : ∃ cs, v = .agg cs ∧ All2 (fun (f : Nat × Nat) c => CTy T f.2 c) fs cs := by
  unfold VTy at h
  rw [ht] at h
  simp only at h
  rw [hk] at h
  exact h
theorem VTy.cell {T : Tab} {t : Nat} {ti : TI} {v : V} (ht : lk T t = some ti) (hk : ∀ fs, ti.kind ≠ .struct fs) (h : VTy T t v) : ∃ c, v = .one c ∧ CTy T t c := by
  unfold VTy at h
  rw [ht] at h
  simp only at h
  exact h
theorem ScTy.int {T : Tab} {t : Nat} {ti : TI} {k : IntKind} {x : Sc} (ht : lk T t = some ti) (hk : ti.kind = .int k) (h : ScTy T t x) : ∃ n, x = .i k n ∧ (Lit.int k n).wf = true := by
  unfold ScTy at h
  rw [ht] at h
  simp only at h
  rw [hk] at h
  cases x with
  | i k' n => obtain ⟨rfl, h⟩ := h; exact ⟨n, rfl, h⟩
  | b _ => exact h.elim
theorem CTy.sc {T : Tab} {t : Nat} {c : C} (hs : sliceE T t = none) (h : CTy T t c) : ∃ x, c = .s x ∧ ScTy T t x := by
  unfold CTy at h
  rw [hs] at h
  exact h
theorem CTy.flat {T : Tab} {t e : Nat} {c : C} (hs : sliceE T t = some e) (hs2 : sliceE T e = none) (h : CTy T t c) : ∃ rows, c = .flat false (sizeT T e) rows ∧ FlatTy T e rows := by
  unfold CTy at h
  rw [hs] at h
  simp only at h
  rw [hs2] at h
  exact h
theorem CTy.nest {T : Tab} {t e e2 : Nat} {c : C} (hs : sliceE T t = some e) (hs2 : sliceE T e = some e2) (h : CTy T t c) : ∃ rows, c = .nest false (sizeT T e2) rows ∧ rows.length ≤ maxLen ∧ ∀ fl ∈ rows, FlatTy T e2 fl := by
  unfold CTy at h
  rw [hs] at h
  simp only at h
  rw [hs2] at h
  exact h
theorem i64_wf {n : Int} (h : (Lit.int .i64 n).wf = true) : i64 n := by
  simp [Lit.wf, IntKind.min, IntKind.max, IntKind.signed, IntKind.bits] at h
  exact h
theorem list_ex {α β : Type} {P : α → β → Prop} : ∀ {l : List α}, (∀ x ∈ l, ∃ y, P x y) → ∃ m : List β, All2 P l m := by
  intro l
  induction l with
  | nil => intro _; exact ⟨[], All2.nil⟩
  | cons x l ih =>
    intro h
    obtain ⟨y, hy⟩ := h x (by simp)
    obtain ⟨m, hm⟩ := ih fun x hx => h x (by simp [hx])
    exact ⟨y :: m, All2.cons' hy hm⟩
theorem All2.map_eq {α β : Type} {f : β → α} {l : List α} {m : List β} (h : All2 (fun x y => x = f y) l m) : l = m.map f := by
  apply List.ext_getElem?
  intro i
  rw [List.getElem?_map]
  by_cases hi : i < l.length
  · have him : i < m.length := by rw [← h.1]; exact hi
    rw [List.getElem?_eq_getElem hi, List.getElem?_eq_getElem him, Option.map_some, h.2 i _ _ (List.getElem?_eq_getElem hi) (List.getElem?_eq_getElem him)]
  · rw [List.getElem?_eq_none (by omega), List.getElem?_eq_none (by rw [← h.1]; omega)]; rfl
theorem All2.mem {α β : Type} {R : α → β → Prop} {l : List α} {m : List β} (h : All2 R l m) {y : β} (hy : y ∈ m) : ∃ x ∈ l, R x y := by
  obtain ⟨i, hi⟩ := List.mem_iff_getElem?.1 hy
  have hl := (List.getElem?_eq_some_iff.1 hi).1
  rw [← h.1] at hl
  exact ⟨_, List.getElem_mem hl, h.2 i _ y (List.getElem?_eq_getElem hl) hi⟩
/-! #### at this program's types -/
theorem row_int {row : Row} (h : RowTy T 3 row) : ∃ n, row = [.i .i64 n] ∧ i64 n := by
  obtain ⟨x, rfl, hx⟩ := h
  obtain ⟨n, rfl, hw⟩ := ScTy.int (t := 3) rfl rfl hx
  exact ⟨n, rfl, i64_wf hw⟩
theorem ints_of {fl : Flat} (h : FlatTy T 3 fl) : ∃ l : List Int, fl = ints l ∧ l.length ≤ maxLen ∧ ∀ x ∈ l, i64 x := by
  obtain ⟨m, hm⟩ := list_ex (P := fun row n => row = [Sc.i .i64 n] ∧ i64 n) fun row hr => row_int (h.2 row hr)
  refine ⟨m, All2.map_eq (f := fun n => [Sc.i .i64 n]) (hm.imp fun _ _ _ k => k.1), by rw [← hm.1]; exact h.1, fun x hx => ?_⟩
  obtain ⟨_, _, k⟩ := hm.mem hx
  exact k.2
theorem rows_of {rows : List Flat} (h : ∀ fl ∈ rows, FlatTy T 3 fl) : ∃ S : List (List Int), rows = rowsI S ∧ rows64 S ∧ ∀ l ∈ S, l.length ≤ maxLen := by
  obtain ⟨m, hm⟩ := list_ex (P := fun (fl : Flat) l => fl = ints l ∧ l.length ≤ maxLen ∧ ∀ x ∈ l, i64 x) fun fl hf => ints_of (h fl hf)
  refine ⟨m, All2.map_eq (hm.imp fun _ _ _ k => k.1), fun l hl => ?_, fun l hl => ?_⟩
  · obtain ⟨_, _, k⟩ := hm.mem hl; exact k.2.2
  · obtain ⟨_, _, k⟩ := hm.mem hl; exact k.2.1
theorem All2.two {α β : Type} {R : α → β → Prop} {a b : α} {m : List β} (h : All2 R [a, b] m) : ∃ x y, m = [x, y] ∧ R a x ∧ R b y := by
  obtain ⟨h1, h2⟩ := h
  match m, h1, h2 with
  | [x, y], _, h2 => exact ⟨x, y, rfl, h2 0 a x rfl rfl, h2 1 b y rfl rfl⟩
theorem All2.one {α β : Type} {R : α → β → Prop} {a : α} {m : List β} (h : All2 R [a] m) : ∃ x, m = [x] ∧ R a x := by
  obtain ⟨h1, h2⟩ := h
  match m, h1, h2 with
  | [x], _, h2 => exact ⟨x, rfl, h2 0 a x rfl rfl⟩
theorem All2.three {α β : Type} {R : α → β → Prop} {a b c : α} {m : List β} (h : All2 R [a, b, c] m) : ∃ x y z, m = [x, y, z] ∧ R a x ∧ R b y ∧ R c z := by
  obtain ⟨h1, h2⟩ := h
  match m, h1, h2 with
  | [x, y, z], _, h2 => exact ⟨x, y, z, rfl, h2 0 a x rfl rfl, h2 1 b y rfl rfl, h2 2 c z rfl rfl⟩
theorem row_edge {row : Row} (h : RowTy T 77 row) : ∃ p : Ed, row = [.i .i64 p.1, .i .i64 p.2] ∧ i64 p.1 ∧ i64 p.2 := by
  obtain ⟨_, h⟩ := h
  obtain ⟨x, y, rfl, hx, hy⟩ := All2.two h
  obtain ⟨n, rfl, hn⟩ := ScTy.int (t := 3) rfl rfl hx
  obtain ⟨m, rfl, hm⟩ := ScTy.int (t := 3) rfl rfl hy
  exact ⟨(n, m), rfl, i64_wf hn, i64_wf hm⟩
theorem edges_of {fl : Flat} (h : FlatTy T 77 fl) : ∃ E : List Ed, fl = edges E ∧ E.length ≤ maxLen ∧ ∀ p ∈ E, i64 p.1 ∧ i64 p.2 := by
  obtain ⟨m, hm⟩ := list_ex (P := fun row (p : Ed) => row = [Sc.i .i64 p.1, Sc.i .i64 p.2] ∧ i64 p.1 ∧ i64 p.2) fun row hr => row_edge (h.2 row hr)
  refine ⟨m, All2.map_eq (f := fun p : Ed => [Sc.i .i64 p.1, Sc.i .i64 p.2]) (hm.imp fun _ _ _ k => k.1), by rw [← hm.1]; exact h.1, fun x hx => ?_⟩
  obtain ⟨_, _, k⟩ := hm.mem hx
  exact k.2
theorem int_of {v : V} (h : VTy T 3 v) : ∃ n, v = .one (.s (.i .i64 n)) ∧ i64 n := by
  obtain ⟨c, rfl, hc⟩ := VTy.cell (ti := { kind := .int .i64, size := _, bytes := _, zero := _, eqs := _, cells := _ }) rfl (fun fs => by simp) h
  obtain ⟨x, rfl, hx⟩ := CTy.sc rfl hc
  obtain ⟨n, rfl, hw⟩ := ScTy.int (t := 3) rfl rfl hx
  exact ⟨n, rfl, i64_wf hw⟩
theorem model_of {v : V} (h : VTy T 27 v) : ∃ k S, v = moV false k S ∧ i64 k ∧ rows64 S := by
  obtain ⟨cs, rfl, hcs⟩ := VTy.struct (t := 27) rfl rfl h
  obtain ⟨x, y, rfl, hx, hy⟩ := All2.two hcs
  obtain ⟨z, rfl, hz⟩ := CTy.sc (t := 3) rfl hx
  obtain ⟨n, rfl, hw⟩ := ScTy.int (t := 3) rfl rfl hz
  obtain ⟨rows, rfl, _, hr⟩ := CTy.nest (t := 25) (e := 38) (e2 := 3) rfl rfl hy
  obtain ⟨S, rfl, hS, _⟩ := rows_of hr
  exact ⟨n, S, rfl, i64_wf hw, hS⟩
theorem net_of {v : V} (h : VTy T 24 v) : ∃ n E, v = grV n E ∧ i64 n ∧ ∀ p ∈ E, i64 p.1 ∧ i64 p.2 := by
  obtain ⟨cs, rfl, hcs⟩ := VTy.struct (t := 24) rfl rfl h
  obtain ⟨x, y, rfl, hx, hy⟩ := All2.two hcs
  obtain ⟨z, rfl, hz⟩ := CTy.sc (t := 3) rfl hx
  obtain ⟨n, rfl, hw⟩ := ScTy.int (t := 3) rfl rfl hz
  obtain ⟨rows, rfl, hr⟩ := CTy.flat (t := 22) (e := 77) rfl rfl hy
  obtain ⟨E, rfl, _, hE⟩ := edges_of hr
  exact ⟨n, E, rfl, i64_wf hw, hE⟩
end Go.Sh

set_option linter.unusedVariables false
namespace Go.Sh
open Go.Proofs
theorem own : ownKnob Try.prog.godebug = none := by kernel_rfl
theorem laidOut : laidOutB Try.prog = true := by kernel_rfl
set_option maxRecDepth 100000 in
/-- A law whose function answers true, whatever comes. -/
theorem law_row {s : ChangeSpec} {f : FuncId} {fn : Func} {conds : List PathCond} {apart fresh handsOn : Bool} {ts : List TypeId} {F : List V → Option (V × List V)} (hf : Try.prog.funcs[f]? = some fn) (hin : Try.prog.inits.idxOf? f = none) (hv : s.vars = [])
    (hts : fn.params.toList = ts) (ha : ts.all (argB T) = true) (hr : ts.all (fun t => Try.prog.readableRec t && Nat.blt t Try.prog.types.size) = true) (hres : fn.resultTypes = #[4])
    (hsp : ∀ (H : Type) (ds : List (DataW H)), ds.length = ts.length → (s.fn H ds).results = [.lit (.bool true)] ∧ (s.fn H ds).args = ds ∧ (s.fn H ds).vars = [])
    (hS : SoundP Try.prog f F) (hF : LawV T ts F) (os : Os) (started : os.Started) (H : Type) (enc : TypeId × Value → H) (a : Assume)
    (hw : ∃ (w : World) (tape : Tape) (i : Input), w.os = os ∧ (w.forCall tape i).Shaped Try.checked.prog ∧ i.vars = [] ∧ Input.okWide Try.checked.prog (w.forCall tape i) .any w.heap.size f i ∧
      s.pre6 enc Try.checked.prog fn conds apart (w.forCall tape i).memory i.args ∧ a.holds Try.checked.prog (lone (Frame.enter Try.checked.prog f i.args .normal) [] (w.forCall tape i))) :
    ReturnsInHanded a Try.checked os f .any (s.pre6 enc Try.checked.prog fn conds apart) (s.post enc Try.checked.prog fn apart fresh handsOn false) := by
  refine returnsInHanded_of_change (C := Try.checked) own started hin hf hw ?_
  intro W base args ds gs before hval hW _ _
  refine law_contract (P := Try.prog) (conds := conds) hT laidOut hv hts ha (fun t ht => ?_) hres Try.underlying4 (hsp H) hS hF hval hW
  have := List.all_eq_true.1 hr t ht
  simp only [Bool.and_eq_true] at this
  exact ⟨this.1, Nat.le_of_ble_eq_true this.2⟩
end Go.Sh

set_option linter.unusedVariables false
namespace Go.Sh
open Go.Proofs
/-! ### more of what is handed in, as data -/
theorem graph_of {v : V} (h : VTy T 29 v) : ∃ n E, v = grV n E ∧ i64 n ∧ E.length ≤ maxLen := by
  obtain ⟨cs, rfl, hcs⟩ := VTy.struct (t := 29) rfl rfl h
  obtain ⟨x, y, rfl, hx, hy⟩ := All2.two hcs
  obtain ⟨z, rfl, hz⟩ := CTy.sc (t := 3) rfl hx
  obtain ⟨n, rfl, hw⟩ := ScTy.int (t := 3) rfl rfl hz
  obtain ⟨rows, rfl, hr⟩ := CTy.flat (t := 22) (e := 77) rfl rfl hy
  obtain ⟨E, rfl, hl, _⟩ := edges_of hr
  exact ⟨n, E, rfl, i64_wf hw, hl⟩
end Go.Sh
