/- What the functions answer that the statement reaches. No condition. -/
import Derived.Test.YtcihmgopaadpfaaFn1
import Derived.Deep.RegionLaw
set_option linter.unusedVariables false
set_option linter.unusedSimpArgs false
namespace Go.Proofs
open Go.RowKit Go.Shelf Go.Sh

attribute [local go_sem] Oper.semAt_some
theorem Try.tE : Try.prog.underlying 22 = some (TypeDesc.slice 60) := by kernel_rfl
theorem Try.clear_edges (W : World) (b o n cap : Nat) (hn : n = 1) (ty : TypeId) (hc : ∀ j, j < 2 → (W.cell? ⟨b, o + j, none⟩).isSome = true) (hf : ∀ j, j < 2 → W.frozen? ⟨b, o + j, none⟩ = false) :
    (Builtin.clear_ #[22] ty #[.slice (some ⟨b, o, none⟩) n cap]).run Try.prog W = .ok (.tuple #[]) (W.setCells b o [.int .i64 0, .int .i64 0]) := by
  subst hn
  obtain ⟨i0, hi0, hz0, hz1, hz2⟩ := info_parts Try.infoE
  have hv : (zeroValue 60).run Try.prog W = .ok (.agg #[.int .i64 0, .int .i64 0]) W := by simp [zeroValue, typeInfo, hi0, hz0]
  have hzc : (Builtin.zeroCells #[.int .i64 0, .int .i64 0] 1).toList = [.int .i64 0, .int .i64 0] := (zero_rows (zr := [.i .i64 0, .i .i64 0]) rfl 1).trans rfl
  have hst := run_storeCells_cells (P := Try.prog) b o [.int .i64 0, .int .i64 0] 0 W (by simpa using hc) (by simpa using hf) (by intro v hv'; simp at hv'; subst hv'; rfl)
  simp only [Nat.add_zero] at hst
  simp [Builtin.clear_, run_underlying Try.tE, hv, Value.cells, hzc, hst]
set_option maxRecDepth 100000 in
set_option maxHeartbeats 2000000 in
theorem Try.delE_run (blk off cap i j : Nat) (hj : j = i + 1) (E : List Ed) (w : World) (arr : Array Value) (T : TypeId) (hh : w.heap[blk]? = some (.cells arr T (0, 0))) (hi : i < E.length) (hcap : E.length ≤ cap) (hsz : off + cap * 2 ≤ arr.size) (hl : E.length ≤ 1000000)
    (hc : ∀ (k : Nat) (x : Ed), E[k]? = some x → arr[off + k * 2]? = some (.int .i64 x.1) ∧ arr[off + k * 2 + 1]? = some (.int .i64 x.2)) :
    Calls Try.prog 66 #[.slice (some ⟨blk, off, none⟩) E.length cap, .int .i64 i, .int .i64 (j : Nat)] w fun e w' => e = .returned (.slice (some ⟨blk, off, none⟩) (E.length - 1) cap) ∧
      w' = (w.drew.setCells blk (off + i * 2) ((E.drop (i + 1)).flatMap encE)).setCells blk (off + (E.length - 1) * 2) [.int .i64 0, .int .i64 0] := by
  obtain ⟨i0, hi0, hz0, hz1, hz2⟩ := info_parts Try.infoE
  obtain ⟨news, hnews⟩ : ∃ news, news = (E.drop (i + 1)).flatMap encE := ⟨_, rfl⟩
  have hnl : news.length = (E.length - (i + 1)) * 2 := by
    rw [hnews]
    have : ∀ l : List Ed, (l.flatMap encE).length = l.length * 2 := fun l => by
      induction l with
      | nil => rfl
      | cons p l ih => simp only [List.flatMap_cons, List.length_append, ih, List.length_cons]; simp [encE]; omega
    rw [this, List.length_drop]
  have hcell : ∀ k, off + k < arr.size → w.cell? ⟨blk, off + k, none⟩ = arr[off + k]? := fun k _ => by simp [World.cell?, hh]
  have hget : ∀ t u, news[t]? = some u → arr[off + (i + 1) * 2 + t]? = some u := by
    intro t u hu
    have hcr : ∀ l : List Ed, l.flatMap encE = cellsR (edges l) := fun l => by
      unfold cellsR edges
      induction l with
      | nil => rfl
      | cons p l ih => simp only [List.map_cons, List.flatten_cons, List.map_append, List.flatMap_cons, ih]; rfl
    have htl : t < news.length := (List.getElem?_eq_some_iff.1 hu).1
    obtain ⟨x, hx⟩ : ∃ x, E[i + 1 + t / 2]? = some x := ⟨_, List.getElem?_eq_getElem (by omega)⟩
    have hrow : (edges (E.drop (i + 1)))[t / 2]? = some [.i .i64 x.1, .i .i64 x.2] := edges_get (by rw [List.getElem?_drop]; exact hx)
    have hfl := flat_get (edges_even (E.drop (i + 1))) (t / 2) (t % 2) _ hrow (by omega)
    rw [show t / 2 * 2 + t % 2 = t by omega] at hfl
    have hq : news[t]? = ([Sc.i .i64 x.1, Sc.i .i64 x.2][t % 2]?).map Sc.val := by rw [hnews, hcr, cellsR, List.getElem?_map, hfl]
    rw [hu] at hq
    obtain ⟨c1, c2⟩ := hc _ _ hx
    rcases Nat.mod_two_eq_zero_or_one t with h0 | h0
    · rw [h0] at hq
      simp [Sc.val] at hq
      rw [show off + (i + 1) * 2 + t = off + (i + 1 + t / 2) * 2 by omega, c1, hq]
    · rw [h0] at hq
      simp [Sc.val] at hq
      rw [show off + (i + 1) * 2 + t = off + (i + 1 + t / 2) * 2 + 1 by omega, c2, hq]
  have s2 : ∀ u ∈ news, u.oneCell' = true := by
    intro u hu
    rw [hnews] at hu
    obtain ⟨x, _, hx⟩ := List.mem_flatMap.1 hu
    simp [encE] at hx
    rcases hx with rfl | rfl <;> rfl
  have s3 : ∀ t, t < news.length → (w.drew.cell? ⟨blk, off + i * 2 + t, none⟩).isSome = true ∧ w.drew.frozen? ⟨blk, off + i * 2 + t, none⟩ = false := by
    intro t ht
    refine ⟨?_, by show w.frozen? _ = false; simp [World.frozen?, hh]⟩
    show (w.cell? _).isSome = true
    rw [Nat.add_assoc, hcell _ (by omega), Array.getElem?_eq_getElem (by omega)]; rfl
  obtain ⟨A, hA, hsrc⟩ : ∃ A : Addr, (if cap = j then some (⟨blk, off, none⟩ : Addr) else some ⟨blk, off + j * 2, none⟩) = some A ∧ (∀ t u, news[t]? = some u → w.drew.cell? (A.add t) = some u) := by
    subst hj
    by_cases h : cap = i + 1
    · refine ⟨⟨blk, off, none⟩, by simp [h], fun t u hu => ?_⟩
      have h0 : news.length = 0 := by rw [hnl]; omega
      rw [List.length_eq_zero_iff.1 h0] at hu
      simp at hu
    · refine ⟨⟨blk, off + (i + 1) * 2, none⟩, by simp [h], fun t u hu => ?_⟩
      rw [Addr.add_plain]
      show w.cell? _ = _
      rw [show off + (i + 1) * 2 + t = off + ((i + 1) * 2 + t) by omega, hcell _ (by have := (List.getElem?_eq_some_iff.1 hu).1; omega), ← Nat.add_assoc]
      exact hget t u hu
  have hic : i ≤ cap := by omega
  have hjc : j ≤ cap := by omega
  have hjl : j ≤ E.length := by omega
  have hij : i ≤ j := by omega
  have hne : ¬ i = j := by omega
  have hnl' : news.length = (E.length - j) * 2 := by rw [hj]; exact hnl
  have hroom : i + (E.length - j) ≤ cap := by omega
  have hlen1 : i + (E.length - j) = E.length - 1 := by omega
  have hcl : ∀ ty, (Builtin.clear_ #[22] ty #[.slice (some ⟨blk, off + (i + (E.length - j)) * 2, none⟩) (E.length - (i + (E.length - j))) (cap - (i + (E.length - j)))]).run Try.prog (w.drew.setCells blk (off + i * 2) news) = .ok (.tuple #[]) ((w.drew.setCells blk (off + i * 2) news).setCells blk (off + (i + (E.length - j)) * 2) [.int .i64 0, .int .i64 0]) := by
    intro ty
    obtain ⟨arr', k1, k2, _⟩ := heap_setCells blk news (off + i * 2) w.drew arr T (0, 0) hh (by omega)
    exact Try.clear_edges _ _ _ _ _ (by omega) ty (fun t ht => by simp only [World.cell?, k1]; rw [Array.getElem?_eq_getElem (by omega)]; rfl) (fun t ht => by simp [World.frozen?, k1])
  have hjH : Hid (j = i + 1) := hj
  have hlH : Hid (i + (E.length - j) = E.length - 1) := hlen1
  have hnH : Hid (news = (E.drop (i + 1)).flatMap encE) := hnews
  clear hj hlen1 hnews hnl hget hcell hc
  go_enter Try.func66, Try.ntmps66
  go_wp2_with fail
  go_region_law (refine step_append_room rfl (.tmp 22) (.tmp 25) 22 rfl 60 i0 2 Try.tE hi0 hz1 blk off i cap (by simp [Act.eval, Act.put]) A (E.length - j) (cap - j) news (by simp [Act.eval, Act.put]) hnl' hsrc s2 hroom s3 ?_)
  generalize hW1 : w.drew.setCells blk (off + i * 2) news = W1 at hcl ⊢
  go_wp2
  go_ret
  have hl1 := hlH.out
  refine ⟨by rw [← hl1]; rfl, ?_⟩
  rw [← hW1, hnH.out, hlH.out]
/-- .. and what the row holds then -/
theorem Try.delE_row {w : World} {own : Nat → Option Key} {key : Key} {A : Option Addr} {cap i j : Nat} {E : List Ed} (hj : j = i + 1) (h : FlatOk w own (some key) A cap 2 (edges E)) (hi : i < E.length) (hl : E.length ≤ 1000000) :
    Calls Try.prog 66 #[.slice A E.length cap, .int .i64 i, .int .i64 (j : Nat)] w fun e w' => e = .returned (.slice A (E.length - 1) cap) ∧ Frm (fun b => own b = some key) w w' ∧ FlatOk w' own (some key) A cap 2 (edges (E.eraseIdx i)) := by
  have hfit := h.fits
  rw [edges_length] at hfit
  rcases h.room rfl with ⟨_, h0⟩ | ⟨b, off, arr, T, rfl, ho, hh, hsz, hgr⟩
  · have h1 : (edges E).length = 0 := by rw [h0]; rfl
    rw [edges_length] at h1; omega
  have hc : ∀ (k : Nat) (x : Ed), E[k]? = some x → arr[off + k * 2]? = some (.int .i64 x.1) ∧ arr[off + k * 2 + 1]? = some (.int .i64 x.2) := by
    intro k x hk
    have hr := edges_get hk
    obtain ⟨b1, e1, _, h1⟩ := h.cell k _ 0 (.i .i64 x.1) hr rfl
    obtain ⟨b2, e2, _, h2⟩ := h.cell k _ 1 (.i .i64 x.2) hr rfl
    injection e1 with e1
    injection e2 with e2
    subst e1
    subst e2
    rw [Addr.add_plain, cells_at hh] at h1 h2
    rw [Nat.add_zero] at h1
    exact ⟨h1, by rw [Nat.add_assoc]; exact h2⟩
  refine (Try.delE_run b off cap i j hj E w arr T hh hi hfit (by omega) hl hc).mono ?_
  rintro e w' ⟨rfl, rfl⟩
  refine ⟨rfl, ?_⟩
  have hfm : ∀ l : List Ed, l.flatMap encE = cellsR (edges l) := fun l => by
    unfold cellsR edges
    induction l with
    | nil => rfl
    | cons p l ih => simp only [List.map_cons, List.flatten_cons, List.map_append, List.flatMap_cons, ih]; rfl
  have hnl : ((E.drop (i + 1)).flatMap encE).length = (E.length - (i + 1)) * 2 := by
    rw [hfm, cellsR_len (edges_even _), edges_length, List.length_drop]
  obtain ⟨a1, k1, k2, k3, k4, k5, k6, k7, k8⟩ := heap_setCells b ((E.drop (i + 1)).flatMap encE) (off + i * 2) w.drew arr T (0, 0) hh (by omega)
  obtain ⟨a2, p1, p2, p3, p4, p5, p6, p7, p8⟩ := heap_setCells b [.int .i64 0, .int .i64 0] (off + (E.length - 1) * 2) _ a1 T (0, 0) k1 (by simp; omega)
  refine ⟨⟨p6.trans k6, .of (p7.trans k7), p8.trans k8, by rw [p5, k5]; exact Nat.le_refl _, fun y hy hn => (p4 y fun e => hn (by rw [e]; exact ho)).trans (k4 y fun e => hn (by rw [e]; exact ho))⟩, ?_⟩
  have hel : (edges (E.eraseIdx i)).length = E.length - 1 := by rw [edges_length, List.length_eraseIdx_of_lt hi]
  refine ⟨by rw [hel]; omega, by omega, edges_even _, fun r row q x hr hq => ?_, fun _ => .inr ⟨b, off, a2, T, rfl, ho, p1, by omega, hgr⟩⟩
  simp only [edges, List.getElem?_map, Option.map_eq_some_iff] at hr
  obtain ⟨x0, hx0, rfl⟩ := hr
  have hrl := (List.getElem?_eq_some_iff.1 hx0).1
  rw [List.length_eraseIdx_of_lt hi] at hrl
  have hql : q < 2 := (List.getElem?_eq_some_iff.1 hq).1
  refine ⟨_, rfl, ho, ?_⟩
  rw [Addr.add_plain, cells_at p1, p3, if_neg (by omega), k3]
  rw [List.getElem?_eraseIdx] at hx0
  by_cases hri : r < i
  · rw [if_pos hri] at hx0
    rw [if_neg (by omega)]
    obtain ⟨c1, c2⟩ := hc r x0 hx0
    match q, hql, hq with
    | 0, _, hq => simp at hq; subst hq; rw [Nat.add_zero]; exact c1
    | 1, _, hq => simp at hq; subst hq; rw [← Nat.add_assoc]; exact c2
  · rw [if_neg hri] at hx0
    rw [if_pos ⟨by omega, by omega⟩, hfm, cellsR, List.getElem?_map]
    have hrow : (edges (E.drop (i + 1)))[r - i]? = some [.i .i64 x0.1, .i .i64 x0.2] := edges_get (by rw [List.getElem?_drop, show i + 1 + (r - i) = r + 1 by omega]; exact hx0)
    have hfl := flat_get (edges_even (E.drop (i + 1))) (r - i) q _ hrow hql
    rw [show off + (r * 2 + q) - (off + i * 2) = (r - i) * 2 + q by omega, hfl, hq]
    rfl
end Go.Proofs

set_option linter.unusedVariables false
set_option linter.unusedSimpArgs false
namespace Go.Sh
open Go.Proofs Go.RowKit
/-! ### slices.Clone of steps -/
attribute [local go_sem] Oper.semAt_some
theorem tSE : Try.prog.underlying 22 = some (TypeDesc.slice 60) := by kernel_rfl
theorem iSE : (Try.prog.info? 60).map (fun i => (i.zero, i.size, i.bytes)) = some (some (.agg #[.int .i64 0, .int .i64 0]), 2, 16) := by kernel_rfl
set_option maxRecDepth 100000 in
set_option maxHeartbeats 2000000 in
theorem clone_emptyE (A : Option Addr) (c : Nat) (w : World) : Calls Try.prog 57 #[.slice A 0 c] w fun e w' => ∃ B c', e = .returned (.slice B 0 c') ∧ Frm (fun _ => False) w w' ∧ ((B = none ∧ c' = 0) ∨ ∃ gb cur T, B = some ⟨gb, 0, none⟩ ∧ w.heap.size ≤ gb ∧ w'.heap[gb]? = some (.cells cur T (0, 0)) ∧ c' * 2 ≤ cur.size ∧ c' ≤ 9223372036854775807) := by
  have t22 := tSE
  obtain ⟨i0, hi, hz0, hz1, hz2⟩ := info_parts iSE
  have q22 : ∀ (w : World) (a : Option Addr) (n c n' c' : Nat), (binOp .eql 22 (.slice a n c) (.slice none n' c')).run Try.prog w = .ok (.bool a.isNone) w := fun w a n c n' c' => Lib.run_eql_slice_nil w _ _ a n c n' c' tSE
  have u22 : ∀ w, Sem.run Try.prog (underlying 22) w = .ok (TypeDesc.slice 60) w := run_underlying t22
  refine (callsIn_wide (n := 6)).1 ?_
  refine callsIn_of_wp Try.func57 rfl trivial ?_ rfl
  simp only [Try.ntmps57, List.size_toArray, List.length_cons, List.length_nil, Nat.reduceAdd, Nat.reduceSub, Array.replicate_succ, Array.replicate_zero, List.push_toArray, List.append_toArray, List.nil_append, List.cons_append]
  cases A with
  | none =>
    gi_wp2
    go_ret
    exact ⟨_, _, rfl, Frm.refl _ _, .inl ⟨rfl, rfl⟩⟩
  | some a =>
    gi_wp2_with (gi_at_builtin; refine wpListIn_append_own _ rfl _ _ 22 rfl w.heap.size 60 i0 _ 2 16 t22 hi hz0 hz1 hz2 rfl (by decide) _ _ _ rfl (World.ownsRow_made w #[] 0 (Nat.le_refl _) (Nat.zero_le _) rfl) a 0 c [] rfl rfl (by intro j u hj; simp at hj) (by intro u hu; cases hu) (by unfold maxLen; omega) (by omega) (by simp) ?_)
    intro v' w1 hown hgrow hnil
    gi_wp2
    go_ret
    have hb : Below w.heap.size w w1 := ((Below.refl _ w).alloc (Nat.le_refl _) _).grown hgrow (by simp) (by intro k hk; simp [Value.ownBlock] at hk; omega)
    have hf : Frm (fun _ => False) w w1 := ⟨hb.os, .of hb.tape, hb.output, hb.size, fun b h _ => hb.block b h⟩
    rcases hown.2 with ⟨rfl, _⟩ | ⟨gb, cap', cur, rfl, hbase, hgb, r1, r2, r3, r4⟩
    · exact ⟨_, _, rfl, hf, .inl ⟨rfl, rfl⟩⟩
    · refine ⟨_, _, rfl, hf, .inr ⟨gb, cur, _, rfl, hbase, hgb, ?_, ?_⟩⟩
      · omega
      · unfold maxLen at *; omega
noncomputable def CloneCE : Con := conP 1 (fun l : List Ed => l.length ≤ 1000000) (fun l => [.one (.flat false 2 (edges l))]) (fun l => .one (.flat true 2 (edges l)))
theorem CloneC_atE {l : List Ed} (h : l.length ≤ 1000000) : CloneCE.F [.one (.flat false 2 (edges l))] = some (.one (.flat true 2 (edges l)), []) :=
  conP_at (a := l) (fun a b _ _ h => by simp at h; rw [edges_inj h]) h
theorem Clone_pE : SoundP Try.prog 57 (conF (fun l : List Ed => l.length ≤ 1000000) (fun l => [.one (.flat false 2 (edges l))]) (fun l => .one (.flat true 2 (edges l)))) := by
  have hfull : SoundP Try.prog 57 (conF (fun l : List Ed => l.length ≤ 1000000 ∧ l ≠ []) (fun l => [.one (.flat false 2 (edges l))]) (fun l => .one (.flat true 2 (edges l)))) := by
    refine con_pure (X := { Γ := [], T := T, nt := 8 }) cr_none hmix hT sound_nil Try.func57 (by rfl) (by rfl) (by rfl) 1 ?_
    rintro l ⟨hl, hne⟩
    refine ⟨⟨Nat.le_of_ble_eq_true rfl, Nat.le_of_ble_eq_true rfl⟩, ?_⟩
    have hpos : 0 < l.length := List.length_pos_iff.2 hne
    refine Pick.T (by rw [edges_length]; simpa using hpos) ?_
    refine Pick.T (by simp [cut, edges_length]; omega) ?_
    exact ⟨rfl, rfl, rfl⟩
  intro vs r outs hF w us hus
  obtain ⟨l, hl, rfl, rfl⟩ := conF_inv (pre := fun l : List Ed => l.length ≤ 1000000) (enc := fun l => [.one (.flat false 2 (edges l))]) (val := fun l => .one (.flat true 2 (edges l))) hF
  by_cases hne : l = []
  · subst hne
    obtain ⟨u, hu, x, hx, hFl⟩ : ∃ u, us = #[u] ∧ CellOk w noLab 0 (.flat false 2 (edges [])) u := by
      obtain ⟨us⟩ := us
      match us, hus with
      | [u], hus => exact ⟨u, rfl, hus.1⟩
      | [], hus => exact hus.elim
      | _ :: _ :: _, hus => exact hus.2.elim
    subst hu
    subst hx
    refine (clone_emptyE x.A x.c w).mono ?_
    rintro e w' ⟨B, c', rfl, hf, hB⟩
    rcases hB with ⟨rfl, rfl⟩ | ⟨gb, cur, T', rfl, h1, h2, h3, h4⟩
    · exact ⟨_, noLab, rfl, hf, fun b k h => by simp [noLab] at h, ⟨⟨none, 0, fun _ => none, fun _ => 0⟩, rfl, FlatOk.nil (by omega)⟩⟩
    · have hlt : gb < w'.heap.size := by
        rcases Nat.lt_or_ge gb w'.heap.size with h | h
        · exact h
        · simp [Array.getElem?_eq_none h] at h2
      refine ⟨_, fun b => if b = gb then some (0, none) else none, rfl, hf, fun b k h => ?_, ⟨⟨some ⟨gb, 0, none⟩, c', fun _ => none, fun _ => 0⟩, rfl, ?_⟩⟩
      · dsimp only at h
        split at h
        · rename_i e; subst e; exact ⟨h1, hlt⟩
        · simp at h
      · exact { fits := Nat.zero_le _, pos := by omega, even := fun i row h => by simp [edges] at h, cell := fun i row j x h => by simp [edges] at h, room := fun _ => .inr ⟨gb, 0, cur, T', rfl, if_pos rfl, h2, by dsimp only; omega, h4⟩ }
  · exact hfull _ _ _ (conF_at (fun a b _ _ h => by simp at h; rw [edges_inj h]) ⟨hl, hne⟩) w us hus

theorem Clone_okE : SoundC Try.prog T 57 CloneCE := sound_pure Try.func57 (by rfl) (by rfl) (by simp [CloneCE, conP]) Clone_pE
/-! ### graph.Add -/
/-! ### slices.Index on edges -/
def idxE (E : List Ed) (p : Ed) : Int := if p ∈ E then (E.findIdx (fun x => x == p) : Nat) else -1
noncomputable def IndexCE : Con := conP 2 (fun a : List Ed × Ed => a.1.length ≤ 1000000) (fun a => [.one (.flat false 2 (edges a.1)), edV a.2]) (fun a => .one (.s (.i .i64 (idxE a.1 a.2))))
theorem IndexCE_at {E : List Ed} (p : Ed) (h : E.length ≤ 1000000) : IndexCE.F [.one (.flat false 2 (edges E)), edV p] = some (.one (.s (.i .i64 (idxE E p))), []) :=
  conP_at (a := (E, p)) (fun x y _ _ h => by
    obtain ⟨E, ⟨a, b⟩⟩ := x
    obtain ⟨E', ⟨a', b'⟩⟩ := y
    simp [edV] at h
    obtain ⟨h1, h2, h3⟩ := h
    have h1 := edges_inj h1
    subst h1 h2 h3
    rfl) h
theorem idx_at {E : List Ed} {p : Ed} {i : Nat} (hi : i < E.length) (hn : p ∉ E.take i) (he : E[i] = p) : idxE E p = i := by
  unfold idxE
  rw [if_pos (he ▸ List.getElem_mem hi)]
  congr 1
  rw [List.findIdx_eq hi]
  refine ⟨by simpa using he, fun j hj => ?_⟩
  have : E[j] ∈ E.take i := by rw [List.mem_iff_getElem?]; exact ⟨j, by rw [List.getElem?_take, if_pos hj]; exact List.getElem?_eq_getElem _⟩
  simp only [beq_eq_false_iff_ne]
  exact fun e => hn (e ▸ this)
theorem Index_pE : SoundP Try.prog 65 (conF (fun a : List Ed × Ed => a.1.length ≤ 1000000) (fun a => [.one (.flat false 2 (edges a.1)), edV a.2]) (fun a => .one (.s (.i .i64 (idxE a.1 a.2))))) := by
  refine con_pure (X := { Γ := [], T := T, nt := 19 }) cr_none hmix hT sound_nil Try.func65 (by rfl) (by rfl) (by rfl) 3 ?_
  rintro ⟨E, ⟨a, b⟩⟩ hl
  dsimp only at hl
  refine ⟨⟨Nat.le_of_ble_eq_true rfl, Nat.le_of_ble_eq_true rfl⟩, ?_⟩
  refine LoopP.intro (α := Nat) (fun i => i ≤ E.length ∧ (a, b) ∉ E.take i) (fun i => E.length - i) (fun i => [(0, .sl 0 none none), (3, .ptr 1 0), (7, .s (.i .i64 E.length)), (8, .s (.i .i64 i))])
    (fun i => [(0, some (.flat false 2 (edges E))), (1, some (.blk [.s (.i .i64 a), .s (.i .i64 b)]))]) 2 0 ⟨by omega, by simp⟩ (by refine Weak.by [(0, some _), (1, some _)] (by ((repeat' first | exact rfl | exact trivial | refine And.intro ?_ ?_) <;> (repeat' first | exact rfl | exact trivial | refine And.intro ?_ ?_)); all_goals (exact sc_eq (by rw [edges_length]))) (by ((repeat' first | exact rfl | exact trivial | refine And.intro ?_ ?_) <;> (repeat' first | exact rfl | exact trivial | refine And.intro ?_ ?_)); all_goals (exact sc_eq (by rw [edges_length]))) (by rfl)) ?_
  rintro i ⟨hi, hn⟩
  refine Pick.by (fun h1 => ?_) (fun h1 => ?_)
  · have hil : i < E.length := by simpa using h1
    refine Idx.by i rfl (by rw [edges_length]; exact hil) ?_
    refine Look.by _ (edges_get (List.getElem?_eq_getElem hil)) ?_
    refine Seg.by (by kernel_rfl) ?_
    refine Pick.by (fun h2 => ?_) (fun h2 => ?_)
    · have h2 : a = E[i].1 ∧ b = E[i].2 := by simpa using h2
      have he : E[i] = (a, b) := Prod.ext h2.1.symm h2.2.symm
      refine ⟨rfl, ?_⟩
      show _ = _
      exact sc_eq (idx_at hil hn he).symm
    · have h2 : E[i] ≠ (a, b) := fun e => by rw [e] at h2; simp at h2
      refine Pick.T (inI64_of (by omega) (by omega)) ?_
      refine Next.by (i + 1) ⟨by omega, ?_⟩ (by omega) (by refine Weak.by [(0, some _), (1, some _)] (by ((repeat' first | exact rfl | exact trivial | refine And.intro ?_ ?_) <;> (repeat' first | exact rfl | exact trivial | refine And.intro ?_ ?_))) (by ((repeat' first | exact rfl | exact trivial | refine And.intro ?_ ?_) <;> (repeat' first | exact rfl | exact trivial | refine And.intro ?_ ?_))) (by rfl))
      rw [List.take_succ_eq_append_getElem hil, List.mem_append]
      rintro (h | h)
      · exact hn h
      · simp at h; exact h2 h.symm
  · have hil : i = E.length := by
      have : ¬ i < E.length := by simpa using h1
      omega
    subst hil
    rw [List.take_length] at hn
    refine ⟨rfl, ?_⟩
    show _ = _
    refine sc_eq ?_
    unfold idxE
    rw [if_neg hn]
theorem Index_okE : SoundC Try.prog T 65 IndexCE := sound_pure Try.func65 (by rfl) (by rfl) (by simp [IndexCE, conP]) Index_pE
end Go.Sh

set_option linter.unusedVariables false
set_option linter.unusedSimpArgs false
namespace Go.Sh
open Go.Proofs Go.RowKit
/-! ### graph.Without -/
def delPre (fl : Flat) (x y : Int) : Prop := ∃ (E : List Ed) (i : Nat), fl = edges E ∧ x = i ∧ y = (i + 1 : Nat) ∧ i < E.length ∧ E.length ≤ 1000000
def delFE (fl : Flat) (x _y : Int) : Flat := fl.eraseIdx x.toNat
theorem edges_erase : ∀ (E : List Ed) (i : Nat), (edges E).eraseIdx i = edges (E.eraseIdx i)
  | [], i => by simp [edges]
  | p :: E, 0 => rfl
  | p :: E, i + 1 => by
    have h := edges_erase E i
    simp only [edges, List.map_cons, List.eraseIdx_cons_succ] at h ⊢
    rw [h]
theorem delE_call : RowsCall Try.prog 66 2 delPre delFE := by
  refine ⟨⟨_, Try.func66, by decide, by simp [Try.f66]⟩, ?_⟩
  rintro l x y ⟨E, i, rfl, rfl, rfl, hi, hl⟩ w own key A cap hF hown
  rw [edges_length]
  refine (Try.delE_row rfl hF hi hl).mono ?_
  rintro e w' ⟨rfl, hfr, hFl⟩
  have hv : delFE (edges E) i (i + 1 : Nat) = edges (E.eraseIdx i) := by unfold delFE; rw [Int.toNat_natCast, edges_erase]
  rw [hv]
  refine ⟨A, cap, by rw [edges_length, List.length_eraseIdx_of_lt hi], hfr, hFl.mono (fun _ => rfl) fun b hb ho => ⟨?_, rfl⟩⟩
  have := hown _ _ ho
  rw [if_neg (by omega)]
  exact ho
noncomputable def woF (n : Int) (E : List Ed) (a b : Int) : (Int × List Ed) × Int := if RightP n E then (if edN (a, b) ∈ E then ((n, E.eraseIdx (E.findIdx fun x => x == edN (a, b))), 0) else ((0, []), 6)) else ((0, []), 1)
noncomputable def WoC : Con := conP 3 (fun a : (Int × List Ed) × Int × Int => a.1.2.length ≤ 1000000) (fun a => [grV a.1.1 a.1.2, .one (.s (.i .i64 a.2.1)), .one (.s (.i .i64 a.2.2))]) (fun a => .tup [grO (woF a.1.1 a.1.2 a.2.1 a.2.2).1.1 (woF a.1.1 a.1.2 a.2.1 a.2.2).1.2, .one (.s (.i .i64 (woF a.1.1 a.1.2 a.2.1 a.2.2).2))])
theorem WoC_at {n : Int} {E : List Ed} (a b : Int) (h : E.length ≤ 1000000) : WoC.F [grV n E, .one (.s (.i .i64 a)), .one (.s (.i .i64 b))] = some (.tup [grO (woF n E a b).1.1 (woF n E a b).1.2, .one (.s (.i .i64 (woF n E a b).2))], []) :=
  conP_at (a := ((n, E), a, b)) (fun x y _ _ h => by
    obtain ⟨⟨n, E⟩, a, b⟩ := x
    obtain ⟨⟨n', E'⟩, a', b'⟩ := y
    simp at h
    obtain ⟨h1, h2, h3⟩ := h
    obtain ⟨rfl, rfl⟩ := grV_inj h1
    subst h2 h3
    rfl) h
theorem wo_val {n a b : Int} {E : List Ed} (hR : RightP n E) (h : edN (a, b) ∈ E) : ∃ E', woF n E a b = ((n, E'), 0) ∧ RightP n E' ∧ ∀ p ∈ E', p ∈ E := by
  refine ⟨E.eraseIdx (E.findIdx fun x => x == edN (a, b)), ?_, ?_, fun p hp => List.mem_of_mem_eraseIdx hp⟩
  · unfold woF; rw [if_pos hR, if_pos h]
  · have hs : (E.eraseIdx (E.findIdx fun x => x == edN (a, b))).Sublist E := List.eraseIdx_sublist ..
    exact ⟨hR.1, hR.2.1, Nat.le_trans hs.length_le hR.2.2.1, fun p hp => hR.2.2.2.1 p (hs.subset hp), hR.2.2.2.2.sublist hs⟩
set_option maxHeartbeats 1000000 in
theorem Wo_ok : SoundC Try.prog T 35 WoC := by
  refine sound_con (X := { Γ := [(39, RightC), (65, IndexCE), (57, CloneCE), (66, rowsC 2 delPre delFE)], T := T, nt := 36 }) cr_none hmix hT (sound_cons RightG_ok (sound_cons Index_okE (sound_cons Clone_okE (sound_cons (rows_sound delE_call) sound_nil)))) Try.func35 (by rfl) (by rfl) (by rfl) (by rfl) 4 ?_
  rintro ⟨⟨n, E⟩, a, b⟩ hl
  dsimp only at hl
  refine ⟨⟨Nat.le_of_ble_eq_true rfl, Nat.le_of_ble_eq_true rfl⟩, ?_⟩
  refine Call.by _ _ (RightC_at n E) ?_
  refine Pick.by (fun h1 => ?_) (fun h1 => ?_)
  · have h1 : ¬ RightP n E := by simpa using h1
    have hv : woF n E a b = ((0, []), 1) := if_neg h1
    dsimp only
    rw [hv]
    exact ⟨rfl, rfl, ⟨rfl, ⟨rfl, rfl⟩, trivial⟩, rfl, trivial⟩
  have h1 : RightP n E := by simpa using h1
  refine Call.by _ _ (IndexCE_at (edN (a, b)) hl) ?_
  have hE4 := h1.2.2.1
  refine Pick.by (fun h2 => ?_) (fun h2 => ?_)
  · have h2 : idxE E (edN (a, b)) < 0 := of_decide_eq_true h2
    have hm : edN (a, b) ∉ E := by
      intro hm
      rw [idxE, if_pos hm] at h2; omega
    have hv : woF n E a b = ((0, []), 6) := by unfold woF; rw [if_pos h1, if_neg hm]
    dsimp only
    rw [hv]
    exact ⟨rfl, rfl, ⟨rfl, ⟨rfl, rfl⟩, trivial⟩, rfl, trivial⟩
  · have h2 : ¬ idxE E (edN (a, b)) < 0 := of_decide_eq_false h2
    have hm : edN (a, b) ∈ E := by
      by_cases hm : edN (a, b) ∈ E
      · exact hm
      · rw [idxE, if_neg hm] at h2; omega
    have hi : idxE E (edN (a, b)) = (E.findIdx fun x => x == edN (a, b) : Nat) := if_pos hm
    have hlt : (E.findIdx fun x => x == edN (a, b)) < E.length := List.findIdx_lt_length_of_exists ⟨_, hm, by simp⟩
    obtain ⟨i, hii⟩ : ∃ i, (E.findIdx fun x => x == edN (a, b)) = i := ⟨_, rfl⟩
    have hv : woF n E a b = ((n, E.eraseIdx i), 0) := by unfold woF; rw [if_pos h1, if_pos hm, hii]
    rw [hii] at hi hlt
    refine Call.by _ _ (CloneC_atE hl) ?_
    refine Pick.T (inI64_of (by show _ ≤ idxE E (edN (a, b)) + 1; omega) (by show idxE E (edN (a, b)) + 1 ≤ _; omega)) ?_
    have hd := rowsC_at (sz := 2) (pre := delPre) (F := delFE) (l := edges E) (x := idxE E (edN (a, b))) (y := idxE E (edN (a, b)) + 1) ⟨E, i, rfl, hi, by rw [hi]; simp, hlt, hl⟩
    have hf : delFE (edges E) (idxE E (edN (a, b))) (idxE E (edN (a, b)) + 1) = edges (E.eraseIdx i) := by unfold delFE; rw [hi, Int.toNat_natCast, edges_erase]
    rw [hf] at hd
    refine Call.by _ _ hd ?_
    dsimp only
    rw [hv]
    refine Seg.by (by kernel_rfl) ?_
    exact ⟨rfl, rfl, ⟨rfl, ⟨rfl, rfl⟩, trivial⟩, rfl, trivial⟩
end Go.Sh

set_option linter.unusedVariables false
set_option linter.unusedSimpArgs false
namespace Go.Sh
/-! ### models of the complete graph of four: where all but two neighbours have three neighbours, there is one (Dirac) -/
/-- a model, as colours: 0 .. 3 -/
structure MdL (vs : List Nat) (A : Nat → Nat → Prop) (c : Nat → Nat) : Prop where
  some : ∀ i, i < 4 → ∃ x, x ∈ vs ∧ c x = i
  conn : ∀ i, i < 4 → ∀ P : Nat → Prop, (∃ x, x ∈ vs ∧ c x = i ∧ P x) → (∀ x y, x ∈ vs → y ∈ vs → c x = i → c y = i → A x y → P x → P y) → ∀ x, x ∈ vs → c x = i → P x
  meet : ∀ i j, i < j → j < 4 → ∃ x y, x ∈ vs ∧ y ∈ vs ∧ A x y ∧ c x = i ∧ c y = j
def D3 (vs : List Nat) (A : Nat → Nat → Prop) (x : Nat) : Prop := ∃ a b c, a ∈ vs ∧ b ∈ vs ∧ c ∈ vs ∧ a ≠ b ∧ a ≠ c ∧ b ≠ c ∧ A x a ∧ A x b ∧ A x c
theorem D3.but {vs : List Nat} {A : Nat → Nat → Prop} {x : Nat} (h : D3 vs A x) (v : Nat) : ∃ b c, b ∈ vs ∧ c ∈ vs ∧ b ≠ c ∧ b ≠ v ∧ c ≠ v ∧ A x b ∧ A x c := by
  obtain ⟨a, b, c, ha, hb, hc, h1, h2, h3, A1, A2, A3⟩ := h
  by_cases e : a = v
  · exact ⟨b, c, hb, hc, h3, fun e2 => h1 (e.trans e2.symm), fun e2 => h2 (e.trans e2.symm), A2, A3⟩
  · by_cases e2 : b = v
    · exact ⟨a, c, ha, hc, h2, e, fun e3 => h3 (e2.trans e3.symm), A1, A3⟩
    · exact ⟨a, b, ha, hb, h1, e, e2, A1, A2⟩
theorem D3.but2 {vs : List Nat} {A : Nat → Nat → Prop} {x : Nat} (h : D3 vs A x) (u v : Nat) : ∃ b, b ∈ vs ∧ b ≠ u ∧ b ≠ v ∧ A x b := by
  obtain ⟨b, c, hb, hc, h1, h2, h3, A1, A2⟩ := h.but v
  by_cases e : b = u
  · exact ⟨c, hc, fun e2 => h1 (e.trans e2.symm), h3, A2⟩
  · exact ⟨b, hb, e, h2, A1⟩
/-- an edge is contracted: v goes, u takes what it had -/
def ctr (A : Nat → Nat → Prop) (v u : Nat) (x y : Nat) : Prop := A x y ∨ (x = u ∧ A v y ∧ y ≠ u) ∨ (y = u ∧ A v x ∧ x ≠ u)
structure Sm (A : Nat → Nat → Prop) : Prop where
  sym : ∀ x y, A x y → A y x
  irr : ∀ x, ¬ A x x
theorem Sm.ne {A : Nat → Nat → Prop} (h : Sm A) {x y : Nat} (hA : A x y) : x ≠ y := fun e => h.irr x (by rw [← e] at hA; exact hA)
theorem ctr_sm {A : Nat → Nat → Prop} (h : Sm A) (v u : Nat) : Sm (ctr A v u) := by
  refine ⟨fun x y hxy => ?_, fun x hxx => ?_⟩
  · rcases hxy with k | ⟨k1, k2, k3⟩ | ⟨k1, k2, k3⟩
    · exact .inl (h.sym _ _ k)
    · exact .inr (.inr ⟨k1, k2, k3⟩)
    · exact .inr (.inl ⟨k1, k2, k3⟩)
  · rcases hxx with k | ⟨k1, _, k3⟩ | ⟨k1, _, k3⟩
    · exact h.irr x k
    · exact k3 k1
    · exact k3 k1
def upd (c : Nat → Nat) (v i x : Nat) : Nat := if x = v then i else c x
theorem upd_self (c : Nat → Nat) (v i : Nat) : upd c v i v = i := if_pos rfl
theorem upd_ne (c : Nat → Nat) {v i x : Nat} (h : x ≠ v) : upd c v i x = c x := if_neg h
theorem MdL.lift {vs : List Nat} {A : Nat → Nat → Prop} (hA : Sm A) {v u : Nat} (hv : v ∈ vs) (hu : u ∈ vs) (huv : A v u) {vs' : List Nat} (hvs : ∀ x, x ∈ vs' ↔ x ∈ vs ∧ x ≠ v) {c : Nat → Nat} (h : MdL vs' (ctr A v u) c) : MdL vs A (upd c v (c u)) := by
  have hne : u ≠ v := fun e => hA.irr v (by rw [e] at huv; exact huv)
  have hu' : u ∈ vs' := (hvs u).2 ⟨hu, hne⟩
  have cu : upd c v (c u) u = c u := upd_ne c hne
  have cv : upd c v (c u) v = c u := upd_self c v _
  have co : ∀ x, x ∈ vs' → upd c v (c u) x = c x := fun x hx => upd_ne c ((hvs x).1 hx).2
  refine ⟨fun i hi => ?_, fun i hi P hP hcl x hx hcx => ?_, fun i j hij hj => ?_⟩
  · obtain ⟨x, hx, hc⟩ := h.some i hi
    exact ⟨x, ((hvs x).1 hx).1, by rw [co x hx]; exact hc⟩
  · have hcl2 : ∀ x y, x ∈ vs' → y ∈ vs' → c x = i → c y = i → ctr A v u x y → P x → P y := fun x y hx hy ex ey hxy hPx => by
      have hx0 := ((hvs x).1 hx).1
      have hy0 := ((hvs y).1 hy).1
      rcases hxy with k | ⟨k1, k2, _⟩ | ⟨k1, k2, _⟩
      · exact hcl x y hx0 hy0 (by rw [co x hx]; exact ex) (by rw [co y hy]; exact ey) k hPx
      · subst k1
        have hPv := hcl x v hx0 hv (by rw [co x hx]; exact ex) (by rw [cv]; exact ex) (hA.sym _ _ huv) hPx
        exact hcl v y hv hy0 (by rw [cv]; exact ex) (by rw [co y hy]; exact ey) k2 hPv
      · subst k1
        have hPv := hcl x v hx0 hv (by rw [co x hx]; exact ex) (by rw [cv]; exact ey) (hA.sym _ _ k2) hPx
        exact hcl v y hv hy0 (by rw [cv]; exact ey) (by rw [co y hy]; exact ey) huv hPv
    have hst : ∃ y, y ∈ vs' ∧ c y = i ∧ P y := by
      obtain ⟨y, hy, ey, hPy⟩ := hP
      by_cases e : y = v
      · subst e
        rw [cv] at ey
        exact ⟨u, hu', ey, hcl y u hy hu (by rw [cv]; exact ey) (by rw [cu]; exact ey) huv hPy⟩
      · have := (hvs y).2 ⟨hy, e⟩
        exact ⟨y, this, by rw [← co y this]; exact ey, hPy⟩
    have hall := h.conn i hi P hst hcl2
    by_cases e : x = v
    · subst e
      rw [cv] at hcx
      exact hcl u x hu hx (by rw [cu]; exact hcx) (by rw [cv]; exact hcx) (hA.sym _ _ huv) (hall u hu' hcx)
    · have := (hvs x).2 ⟨hx, e⟩
      exact hall x this (by rw [← co x this]; exact hcx)
  · obtain ⟨x, y, hx, hy, hxy, ex, ey⟩ := h.meet i j hij hj
    have hx0 := ((hvs x).1 hx).1
    have hy0 := ((hvs y).1 hy).1
    rcases hxy with k | ⟨k1, k2, _⟩ | ⟨k1, k2, _⟩
    · exact ⟨x, y, hx0, hy0, k, by rw [co x hx]; exact ex, by rw [co y hy]; exact ey⟩
    · subst k1
      exact ⟨v, y, hv, hy0, k2, by rw [cv]; exact ex, by rw [co y hy]; exact ey⟩
    · subst k1
      exact ⟨x, v, hx0, hv, hA.sym _ _ k2, by rw [co x hx]; exact ex, by rw [cv]; exact ey⟩
open Classical in
theorem MdL.induced {vs vs' : List Nat} {A : Nat → Nat → Prop} (hs : ∀ x, x ∈ vs' → x ∈ vs) {c : Nat → Nat} (h : MdL vs' A c) : MdL vs A (fun x => if x ∈ vs' then c x else 4) := by
  have ci : ∀ x i, i < 4 → ((if x ∈ vs' then c x else 4) = i ↔ x ∈ vs' ∧ c x = i) := fun x i hi => by
    by_cases e : x ∈ vs'
    · rw [if_pos e]; exact ⟨fun h => ⟨e, h⟩, fun h => h.2⟩
    · rw [if_neg e]; exact ⟨fun h => by omega, fun h => absurd h.1 e⟩
  refine ⟨fun i hi => ?_, fun i hi P hP hcl x hx hcx => ?_, fun i j hij hj => ?_⟩
  · obtain ⟨x, hx, hc⟩ := h.some i hi
    exact ⟨x, hs x hx, (ci x i hi).2 ⟨hx, hc⟩⟩
  · obtain ⟨hx', hcx'⟩ := (ci x i hi).1 hcx
    obtain ⟨y, hy, hcy, hPy⟩ := hP
    obtain ⟨hy', hcy'⟩ := (ci y i hi).1 hcy
    refine h.conn i hi P ⟨y, hy', hcy', hPy⟩ (fun a b ha hb ea eb hab hPa => ?_) x hx' hcx'
    exact hcl a b (hs a ha) (hs b hb) ((ci a i hi).2 ⟨ha, ea⟩) ((ci b i hi).2 ⟨hb, eb⟩) hab hPa
  · obtain ⟨x, y, hx, hy, hxy, ex, ey⟩ := h.meet i j hij hj
    exact ⟨x, y, hs x hx, hs y hy, hxy, (ci x i (by omega)).2 ⟨hx, ex⟩, (ci y j hj).2 ⟨hy, ey⟩⟩
/-! #### two vertices alike -/
structure Twin (vs : List Nat) (A : Nat → Nat → Prop) (p q u v a b : Nat) : Prop where
  mem : u ∈ vs ∧ v ∈ vs ∧ a ∈ vs ∧ b ∈ vs
  out : u ≠ p ∧ u ≠ q ∧ v ≠ p ∧ v ≠ q
  ab : a ≠ b
  uv : A u v
  ua : A u a
  ub : A u b
  va : A v a
  vb : A v b
  nu : ∀ y, y ∈ vs → A u y → y = v ∨ y = a ∨ y = b
  nv : ∀ y, y ∈ vs → A v y → y = u ∨ y = a ∨ y = b
theorem Twin.swap {vs : List Nat} {A : Nat → Nat → Prop} {p q u v a b : Nat} (h : Twin vs A p q u v a b) : Twin vs A p q u v b a :=
  ⟨⟨h.mem.1, h.mem.2.1, h.mem.2.2.2, h.mem.2.2.1⟩, h.out, h.ab.symm, h.uv, h.ub, h.ua, h.vb, h.va, fun y hy k => (h.nu y hy k).imp id Or.symm, fun y hy k => (h.nv y hy k).imp id Or.symm⟩
/-- what is reached from a without u, v, b -/
inductive Rc (vs : List Nat) (A : Nat → Nat → Prop) (u v a b : Nat) : Nat → Prop
  | base : Rc vs A u v a b a
  | step {x y : Nat} : Rc vs A u v a b x → A x y → y ∈ vs → y ≠ u → y ≠ v → y ≠ b → Rc vs A u v a b y
section
variable {vs : List Nat} {A : Nat → Nat → Prop} {p q u v a b : Nat}
theorem Rc.facts (hA : Sm A) (h : Twin vs A p q u v a b) {x : Nat} (hx : Rc vs A u v a b x) : x ∈ vs ∧ x ≠ u ∧ x ≠ v ∧ x ≠ b := by
  induction hx with
  | base => exact ⟨h.mem.2.2.1, (hA.ne h.ua).symm, (hA.ne h.va).symm, h.ab⟩
  | step _ _ h1 h2 h3 h4 _ => exact ⟨h1, h2, h3, h4⟩
open Classical in
/-- .. one of them is beside b: a model -/
theorem Twin.model (hA : Sm A) (h : Twin vs A p q u v a b) {r : Nat} (hr : Rc vs A u v a b r) (hrb : A r b) : ∃ c, MdL vs A c := by
  let c : Nat → Nat := fun x => if x = u then 0 else if x = v then 1 else if x = b then 2 else if Rc vs A u v a b x then 3 else 4
  obtain ⟨mu, mv, ma, mb⟩ := h.mem
  have nuv := hA.ne h.uv
  have nub := hA.ne h.ub
  have nvb := hA.ne h.vb
  have c0 : c u = 0 := if_pos rfl
  have c1 : c v = 1 := by show (if v = u then 0 else if v = v then 1 else _) = 1; rw [if_neg nuv.symm, if_pos rfl]
  have c2 : c b = 2 := by show (if b = u then 0 else if b = v then 1 else if b = b then 2 else _) = 2; rw [if_neg nub.symm, if_neg nvb.symm, if_pos rfl]
  have c3 : ∀ x, Rc vs A u v a b x → c x = 3 := fun x hx => by
    obtain ⟨_, f1, f2, f3⟩ := hx.facts hA h
    show (if x = u then 0 else if x = v then 1 else if x = b then 2 else if Rc vs A u v a b x then 3 else 4) = 3
    rw [if_neg f1, if_neg f2, if_neg f3, if_pos hx]
  have inv : ∀ x, (c x = 0 → x = u) ∧ (c x = 1 → x = v) ∧ (c x = 2 → x = b) ∧ (c x = 3 → Rc vs A u v a b x) := fun x => by
    by_cases e0 : x = u
    · subst e0; rw [c0]; exact ⟨fun _ => rfl, by omega, by omega, by omega⟩
    by_cases e1 : x = v
    · subst e1; rw [c1]; exact ⟨by omega, fun _ => rfl, by omega, by omega⟩
    by_cases e2 : x = b
    · subst e2; rw [c2]; exact ⟨by omega, by omega, fun _ => rfl, by omega⟩
    by_cases e3 : Rc vs A u v a b x
    · rw [c3 x e3]; exact ⟨by omega, by omega, by omega, fun _ => e3⟩
    · have : c x = 4 := by
        show (if x = u then 0 else if x = v then 1 else if x = b then 2 else if Rc vs A u v a b x then 3 else 4) = 4
        rw [if_neg e0, if_neg e1, if_neg e2, if_neg e3]
      rw [this]; exact ⟨by omega, by omega, by omega, by omega⟩
  have single : ∀ (i w : Nat), (∀ x, c x = i → x = w) → ∀ P : Nat → Prop, (∃ x, x ∈ vs ∧ c x = i ∧ P x) → ∀ x, x ∈ vs → c x = i → P x := fun i w hi P hP x _ hx => by
    obtain ⟨y, _, ey, hy⟩ := hP
    rw [hi x hx]; rw [hi y ey] at hy; exact hy
  refine ⟨c, fun i hi => ?_, fun i hi P hP hcl => ?_, fun i j hij hj => ?_⟩
  · match i, hi with
    | 0, _ => exact ⟨u, mu, c0⟩
    | 1, _ => exact ⟨v, mv, c1⟩
    | 2, _ => exact ⟨b, mb, c2⟩
    | 3, _ => exact ⟨a, ma, c3 a .base⟩
  · match i, hi with
    | 0, _ => exact single 0 u (fun x => (inv x).1) P hP
    | 1, _ => exact single 1 v (fun x => (inv x).2.1) P hP
    | 2, _ => exact single 2 b (fun x => (inv x).2.2.1) P hP
    | 3, _ =>
      obtain ⟨y, hy, ey, hPy⟩ := hP
      have hry := (inv y).2.2.2 ey
      have back : ∀ {z : Nat}, Rc vs A u v a b z → P z → P a := by
        intro z hz
        induction hz with
        | base => exact id
        | @step x z hx hxz hz h1 h2 h3 ih =>
          intro hPz
          refine ih (hcl z x hz (hx.facts hA h).1 (c3 z (.step hx hxz hz h1 h2 h3)) (c3 x hx) (hA.sym _ _ hxz) hPz)
      have hPa := back hry hPy
      have forw : ∀ {z : Nat}, Rc vs A u v a b z → P z := by
        intro z hz
        induction hz with
        | base => exact hPa
        | @step x z hx hxz hz h1 h2 h3 ih => exact hcl x z (hx.facts hA h).1 hz (c3 x hx) (c3 z (.step hx hxz hz h1 h2 h3)) hxz ih
      intro x _ hx
      exact forw ((inv x).2.2.2 hx)
  · have hc : (i = 0 ∧ j = 1) ∨ (i = 0 ∧ j = 2) ∨ (i = 0 ∧ j = 3) ∨ (i = 1 ∧ j = 2) ∨ (i = 1 ∧ j = 3) ∨ (i = 2 ∧ j = 3) := by omega
    rcases hc with ⟨rfl, rfl⟩ | ⟨rfl, rfl⟩ | ⟨rfl, rfl⟩ | ⟨rfl, rfl⟩ | ⟨rfl, rfl⟩ | ⟨rfl, rfl⟩
    · exact ⟨u, v, mu, mv, h.uv, c0, c1⟩
    · exact ⟨u, b, mu, mb, h.ub, c0, c2⟩
    · exact ⟨u, a, mu, ma, h.ua, c0, c3 a .base⟩
    · exact ⟨v, b, mv, mb, h.vb, c1, c2⟩
    · exact ⟨v, a, mv, ma, h.va, c1, c3 a .base⟩
    · exact ⟨b, r, mb, (hr.facts hA h).1, hA.sym _ _ hrb, c2, c3 r hr⟩
end
structure Hyp (vs : List Nat) (A : Nat → Nat → Prop) (p q : Nat) : Prop where
  sm : Sm A
  nd : vs.Nodup
  pq : p ∈ vs ∧ q ∈ vs ∧ (p = q ∨ A p q)
  deg : ∀ x, x ∈ vs → x ≠ p → x ≠ q → D3 vs A x
  out : ∃ x, x ∈ vs ∧ x ≠ p ∧ x ≠ q
section
variable {vs : List Nat} {A : Nat → Nat → Prop} {p q : Nat}
open Classical in
/-- what hangs on the rest by a alone -/
theorem Twin.part {u v a b : Nat} (hH : Hyp vs A p q) (h : Twin vs A p q u v a b) (hno : ∀ r, Rc vs A u v a b r → ¬ A r b) (hpq : ∀ r, Rc vs A u v a b r → r ≠ p ∧ r ≠ q) (ih : ∀ vs' A' p' q', vs'.length < vs.length → Hyp vs' A' p' q' → ∃ c, MdL vs' A' c) : ∃ c, MdL vs A c := by
  have hA := hH.sm
  let vs' := vs.filter fun x => decide (Rc vs A u v a b x)
  have hvs : ∀ x, x ∈ vs' ↔ Rc vs A u v a b x := fun x => by
    rw [List.mem_filter, decide_eq_true_eq]
    exact ⟨fun h => h.2, fun hx => ⟨(hx.facts hA h).1, hx⟩⟩
  have hlt : vs'.length < vs.length := by
    have h1 : vs' ≠ vs := fun e => by
      have : u ∈ vs' := by rw [e]; exact h.mem.1
      exact ((hvs u).1 this).facts hA h |>.2.1 rfl
    have h2 : vs'.length ≤ vs.length := List.length_filter_le _ _
    rcases Nat.lt_or_ge vs'.length vs.length with k | k
    · exact k
    · exact absurd (List.filter_sublist.eq_of_length (Nat.le_antisymm h2 k)) h1
  have hstay : ∀ x y, Rc vs A u v a b x → x ≠ a → A x y → y ∈ vs → Rc vs A u v a b y := fun x y hx hxa hxy hy => by
    obtain ⟨f0, f1, f2, f3⟩ := hx.facts hA h
    refine .step hx hxy hy (fun e => ?_) (fun e => ?_) (fun e => hno x hx (by rw [← e]; exact hxy))
    · rcases h.nu x f0 (hA.sym _ _ (by rw [← e]; exact hxy)) with k | k | k
      · exact f2 k
      · exact hxa k
      · exact f3 k
    · rcases h.nv x f0 (hA.sym _ _ (by rw [← e]; exact hxy)) with k | k | k
      · exact f1 k
      · exact hxa k
      · exact f3 k
  have hH' : Hyp vs' A a a := by
    refine ⟨hA, hH.nd.sublist List.filter_sublist, ⟨(hvs a).2 .base, (hvs a).2 .base, .inl rfl⟩, fun x hx hxa _ => ?_, ?_⟩
    · have hx := (hvs x).1 hx
      have hp := hpq x hx
      obtain ⟨y1, y2, y3, m1, m2, m3, n1, n2, n3, k1, k2, k3⟩ := hH.deg x (hx.facts hA h).1 hp.1 hp.2
      exact ⟨y1, y2, y3, (hvs _).2 (hstay x y1 hx hxa k1 m1), (hvs _).2 (hstay x y2 hx hxa k2 m2), (hvs _).2 (hstay x y3 hx hxa k3 m3), n1, n2, n3, k1, k2, k3⟩
    · have hp := hpq a .base
      obtain ⟨y, hy, n1, n2, k⟩ := (hH.deg a h.mem.2.2.1 hp.1 hp.2).but2 u v
      have : Rc vs A u v a b y := .step .base k hy n1 n2 fun e => hno a .base (by rw [← e]; exact k)
      exact ⟨y, (hvs y).2 this, (hA.ne k).symm, (hA.ne k).symm⟩
  obtain ⟨c, hc⟩ := ih vs' A a a hlt hH'
  exact ⟨_, hc.induced fun x hx => ((hvs x).1 hx).facts hA h |>.1⟩
theorem Twin.done {u v a b : Nat} (hH : Hyp vs A p q) (h : Twin vs A p q u v a b) (ih : ∀ vs' A' p' q', vs'.length < vs.length → Hyp vs' A' p' q' → ∃ c, MdL vs' A' c) : ∃ c, MdL vs A c := by
  have hA := hH.sm
  by_cases h1 : ∃ r, Rc vs A u v a b r ∧ A r b
  · obtain ⟨r, hr, hrb⟩ := h1; exact h.model hA hr hrb
  by_cases h2 : ∃ r, Rc vs A u v b a r ∧ A r a
  · obtain ⟨r, hr, hrb⟩ := h2; exact h.swap.model hA hr hrb
  have no1 : ∀ r, Rc vs A u v a b r → ¬ A r b := fun r hr k => h1 ⟨r, hr, k⟩
  have no2 : ∀ r, Rc vs A u v b a r → ¬ A r a := fun r hr k => h2 ⟨r, hr, k⟩
  by_cases h3 : ∀ r, Rc vs A u v a b r → r ≠ p ∧ r ≠ q
  · exact h.part hH no1 h3 ih
  refine h.swap.part hH no2 (fun s hs => ?_) ih
  have disj : ∀ {s : Nat}, Rc vs A u v b a s → ¬ Rc vs A u v a b s := by
    intro s hs
    induction hs with
    | base => exact fun k => (k.facts hA h).2.2.2 rfl
    | @step x y hx hxy hy n1 n2 n3 ih2 =>
      intro k
      obtain ⟨f0, f1, f2, f3⟩ := hx.facts hA h.swap
      by_cases e : x = b
      · exact no1 y k (by rw [← e]; exact hA.sym _ _ hxy)
      · exact ih2 (.step k (hA.sym _ _ hxy) f0 f1 f2 e)
  obtain ⟨r, hr⟩ := Classical.not_forall.1 h3
  obtain ⟨hr, hrpq⟩ := Classical.not_imp.1 hr
  have hrpq : r = p ∨ r = q := by
    by_cases e : r = p
    · exact .inl e
    · exact .inr (Classical.byContradiction fun e2 => hrpq ⟨e, e2⟩)
  have hsr : ∀ w, (w = p ∨ w = q) → w ≠ s := fun w hw e => by
    subst e
    obtain ⟨f0, f1, f2, f3⟩ := hs.facts hA h.swap
    have hadj : r = w ∨ A r w := by
      rcases hH.pq.2.2 with e | e
      · left
        rcases hrpq with k | k <;> rcases hw with k2 | k2 <;> omega
      · rcases hrpq with k | k <;> rcases hw with k2 | k2
        · left; omega
        · right; rw [k, k2]; exact e
        · right; rw [k, k2]; exact hA.sym _ _ e
        · left; omega
    rcases hadj with e | e
    · exact disj hs (by rw [← e]; exact hr)
    · by_cases eb : w = b
      · exact no1 r hr (by rw [← eb]; exact e)
      · exact disj hs (.step hr e f0 f1 f2 eb)
  exact ⟨fun e => hsr p (.inl rfl) e.symm, fun e => hsr q (.inr rfl) e.symm⟩
/-- what stands in the way of contracting v into u -/
theorem ctr_fail {v u : Nat} (hH : Hyp vs A p q) (hv : v ∈ vs) (hu : u ∈ vs) (hvu : A v u) (hvp : v ≠ p) (hvq : v ≠ q) (ih : ∀ vs' A' p' q', vs'.length < vs.length → Hyp vs' A' p' q' → ∃ c, MdL vs' A' c) :
    (∃ c, MdL vs A c) ∨ (∃ a b, Twin vs A p q u v a b) ∨ ∃ w z, w ∈ vs ∧ z ∈ vs ∧ w ≠ p ∧ w ≠ q ∧ A w u ∧ A w v ∧ A w z ∧ z ≠ u ∧ z ≠ v ∧ ∀ y, y ∈ vs → A w y → y = u ∨ y = v ∨ y = z := by
  have hA := hH.sm
  have hne : u ≠ v := (hA.ne hvu).symm
  let vs' := vs.erase v
  have hvs : ∀ x, x ∈ vs' ↔ x ∈ vs ∧ x ≠ v := fun x => by
    show x ∈ vs.erase v ↔ _
    rw [hH.nd.mem_erase_iff]; exact And.comm
  have hlt : vs'.length < vs.length := by
    show (vs.erase v).length < _
    rw [List.length_erase_of_mem hv]
    have := List.length_pos_of_mem hv
    omega
  have toA : ∀ x y, A x y → ctr A v u x y := fun x y k => .inl k
  by_cases hall : ∀ x, x ∈ vs' → x ≠ p → x ≠ q → D3 vs' (ctr A v u) x
  · left
    have hH' : Hyp vs' (ctr A v u) p q := by
      refine ⟨ctr_sm hA v u, hH.nd.sublist List.erase_sublist, ⟨(hvs p).2 ⟨hH.pq.1, hvp.symm⟩, (hvs q).2 ⟨hH.pq.2.1, hvq.symm⟩, hH.pq.2.2.imp id (toA _ _)⟩, hall, ?_⟩
      obtain ⟨y, hy, n1, n2, k⟩ := (hH.deg v hv hvp hvq).but2 p q
      exact ⟨y, (hvs y).2 ⟨hy, (hA.ne k).symm⟩, n1, n2⟩
    obtain ⟨c, hc⟩ := ih _ _ _ _ hlt hH'
    exact ⟨_, hc.lift hA hv hu hvu hvs⟩
  right
  obtain ⟨w, hw⟩ := Classical.not_forall.1 hall
  obtain ⟨hw', hw⟩ := Classical.not_imp.1 hw
  obtain ⟨hwp, hw⟩ := Classical.not_imp.1 hw
  obtain ⟨hwq, hno⟩ := Classical.not_imp.1 hw
  obtain ⟨hwv, hwne⟩ := (hvs w).1 hw'
  by_cases hwu : w = u
  · left
    subst hwu
    obtain ⟨a, b, ma, mb, nab, na, nb, ka, kb⟩ := (hH.deg w hwv hwp hwq).but v
    obtain ⟨d, e, md, me, nde, nd, ne, kd, ke⟩ := (hH.deg v hv hvp hvq).but w
    have a' := (hvs a).2 ⟨ma, na⟩
    have b' := (hvs b).2 ⟨mb, nb⟩
    have hD : ∀ y, y ∈ vs → y ≠ v → ctr A v w w y → y = a ∨ y = b := fun y hy hyv k => Classical.byContradiction fun hc =>
      hno ⟨a, b, y, a', b', (hvs y).2 ⟨hy, hyv⟩, nab, fun e => hc (.inl e.symm), fun e => hc (.inr e.symm), toA _ _ ka, toA _ _ kb, k⟩
    have vd : ∀ y, y ∈ vs → A v y → y ≠ w → y = a ∨ y = b := fun y hy k hyw => hD y hy (hA.ne k).symm (.inr (.inl ⟨rfl, k, hyw⟩))
    have hva : A v a ∧ A v b := by
      rcases vd d md kd nd with e1 | e1 <;> rcases vd e me ke ne with e2 | e2
      · exact absurd (e1.trans e2.symm) nde
      · subst e1; subst e2; exact ⟨kd, ke⟩
      · subst e1; subst e2; exact ⟨ke, kd⟩
      · exact absurd (e1.trans e2.symm) nde
    refine ⟨a, b, ⟨hwv, hv, ma, mb⟩, ⟨hwp, hwq, hvp, hvq⟩, nab, hA.sym _ _ hvu, ka, kb, hva.1, hva.2, fun y hy k => ?_, fun y hy k => ?_⟩
    · by_cases e : y = v
      · exact .inl e
      · exact .inr (hD y hy e (toA _ _ k))
    · by_cases e : y = w
      · exact .inl e
      · exact .inr (vd y hy k e)
  · right
    have u' := (hvs u).2 ⟨hu, hne⟩
    by_cases hwv2 : A w v
    · have hcu : ctr A v u w u := .inr (.inr ⟨rfl, hA.sym _ _ hwv2, hwu⟩)
      obtain ⟨b, c, mb, mc, nbc, nb, nc, kb, kc⟩ := (hH.deg w hwv hwp hwq).but v
      have key : ∀ z, z ∈ vs → z ≠ u → z ≠ v → A w u → A w z → ∃ w z, w ∈ vs ∧ z ∈ vs ∧ w ≠ p ∧ w ≠ q ∧ A w u ∧ A w v ∧ A w z ∧ z ≠ u ∧ z ≠ v ∧ ∀ y, y ∈ vs → A w y → y = u ∨ y = v ∨ y = z := fun z mz nz nzv ku kz => by
        refine ⟨w, z, hwv, mz, hwp, hwq, ku, hwv2, kz, nz, nzv, fun y hy k => Classical.byContradiction fun hc => ?_⟩
        have y1 : y ≠ u := fun e => hc (.inl e)
        have y2 : y ≠ v := fun e => hc (.inr (.inl e))
        have y3 : y ≠ z := fun e => hc (.inr (.inr e))
        exact hno ⟨u, z, y, u', (hvs z).2 ⟨mz, nzv⟩, (hvs y).2 ⟨hy, y2⟩, nz.symm, y1.symm, y3.symm, toA _ _ ku, toA _ _ kz, toA _ _ k⟩
      by_cases eb : b = u
      · subst eb; exact key c mc nbc.symm nc kb kc
      · by_cases ec : c = u
        · subst ec; exact key b mb nbc nb kc kb
        · exact absurd ⟨u, b, c, u', (hvs b).2 ⟨mb, nb⟩, (hvs c).2 ⟨mc, nc⟩, fun e => eb e.symm, fun e => ec e.symm, nbc, hcu, toA _ _ kb, toA _ _ kc⟩ hno
    · obtain ⟨a, b, c, ma, mb, mc, n1, n2, n3, k1, k2, k3⟩ := hH.deg w hwv hwp hwq
      have ne : ∀ y, A w y → y ≠ v := fun y k e => hwv2 (by rw [← e]; exact k)
      exact absurd ⟨a, b, c, (hvs a).2 ⟨ma, ne a k1⟩, (hvs b).2 ⟨mb, ne b k2⟩, (hvs c).2 ⟨mc, ne c k3⟩, n1, n2, n3, toA _ _ k1, toA _ _ k2, toA _ _ k3⟩ hno
end
theorem dirac_aux : ∀ (n : Nat) (vs : List Nat) (A : Nat → Nat → Prop) (p q : Nat), vs.length = n → Hyp vs A p q → ∃ c, MdL vs A c := by
  intro n
  induction n using Nat.strongRecOn with
  | ind n ihn =>
    intro vs A p q hn hH
    have ih : ∀ vs' A' p' q', vs'.length < vs.length → Hyp vs' A' p' q' → ∃ c, MdL vs' A' c := fun vs' A' p' q' h k => ihn _ (by omega) vs' A' p' q' rfl k
    have hA := hH.sm
    obtain ⟨v, hv, hvp, hvq⟩ := hH.out
    obtain ⟨u, _, _, hu, _, _, _, _, _, kvu, _, _⟩ := hH.deg v hv hvp hvq
    rcases ctr_fail hH hv hu kvu hvp hvq ih with h | ⟨a, b, h⟩ | ⟨w, z, mw, mz, wp, wq, kwu, kwv, kwz, nzu, nzv, nw⟩
    · exact h
    · exact h.done hH ih
    · -- w has just u, v, z; u and v are neighbours
      rcases ctr_fail hH mw mz kwz wp wq ih with h | ⟨a, b, h⟩ | ⟨x, t, mx, mt, xp, xq, kxz, kxw, kxt, ntz, ntw, nx⟩
      · exact h
      · exact h.done hH ih
      · have hx : x = u ∨ x = v := by
          rcases nw x mx (hA.sym _ _ kxw) with e | e | e
          · exact .inl e
          · exact .inr e
          · exact absurd e (hA.ne kxz)
        have go : ∀ x o, x ∈ vs → o ∈ vs → x ≠ p → x ≠ q → A x z → A x w → A x o → A w o → o ≠ z → (∀ y, y ∈ vs → A x y → y = z ∨ y = w ∨ y = t) → (∀ y, y ∈ vs → A w y → y = x ∨ y = o ∨ y = z) → ∃ c, MdL vs A c := by
          intro x o mx mo xp xq k1 k2 k3 k4 noz nx nw
          have eo : o = t := by
            rcases nx o mo k3 with e | e | e
            · exact absurd e noz
            · exact absurd e (hA.ne k4).symm
            · exact e
          refine Twin.done (u := x) (v := w) (a := o) (b := z) hH ⟨⟨mx, mw, mo, mz⟩, ⟨xp, xq, wp, wq⟩, noz, k2, k3, k1, k4, kwz, fun y hy k => ?_, nw⟩ ih
          rcases nx y hy k with e | e | e
          · exact .inr (.inr e)
          · exact .inl e
          · exact .inr (.inl (e.trans eo.symm))
        rcases hx with e | e
        · subst e
          exact go x v mx hv xp xq kxz kxw (hA.sym _ _ kvu) kwv nzv.symm nx nw
        · subst e
          exact go x u mx hu xp xq kxz kxw kvu kwu nzu.symm nx fun y hy k => by
            rcases nw y hy k with e | e | e
            · exact .inr (.inl e)
            · exact .inl e
            · exact .inr (.inr e)
/-- where all have three neighbours there is a model of the complete graph of four -/
theorem dirac {vs : List Nat} {A : Nat → Nat → Prop} (hA : Sm A) (hn : vs.Nodup) (hd : ∀ x, x ∈ vs → D3 vs A x) (h0 : vs ≠ []) : ∃ c, MdL vs A c := by
  obtain ⟨p, hp⟩ := List.exists_mem_of_ne_nil _ h0
  obtain ⟨y, _, _, hy, _, _, _, _, _, k, _, _⟩ := hd p hp
  exact dirac_aux vs.length vs A p p rfl ⟨hA, hn, ⟨hp, hp, .inl rfl⟩, fun x hx _ _ => hd x hx, y, hy, (hA.ne k).symm, (hA.ne k).symm⟩
end Go.Sh

set_option linter.unusedVariables false
set_option linter.unusedSimpArgs false
namespace Go.Sh
/-! ### reduction, on lists -/
abbrev Stp := Int × Int × Int × Bool
def nbrs (n : Nat) (E : List Ed) : List (List Int) := (List.range n).map fun (v : Nat) => nearL E v
def rowAt (N : List (List Int)) (v : Int) : List Int := N.getD v.toNat []
def goneAt (G : List Bool) (v : Int) : Bool := G.getD v.toNat false
def mayB (N : List (List Int)) (G : List Bool) (v : Int) : Bool := decide (0 ≤ v) && (decide (v < N.length) && (!goneAt G v && decide ((rowAt N v).length ≤ 2)))
def stepF (N : List (List Int)) (v : Int) : Stp := (v, (rowAt N v).getD 0 (-1), (rowAt N v).getD 1 (-1), decide (1 < (rowAt N v).length) && !(rowAt N ((rowAt N v).getD 0 (-1))).elem ((rowAt N v).getD 1 (-1)))
def cutF (v : Int) (N : List (List Int)) (x : Int) : List (List Int) := N.set x.toNat ((rowAt N x).erase v)
def joinF (N : List (List Int)) (a b : Int) : List (List Int) := N.set a.toNat (insAt (rowAt N a) b)
def doN (N : List (List Int)) (s : Stp) : List (List Int) :=
  ((if s.2.2.2 then joinF (joinF ((rowAt N s.1).foldl (cutF s.1) N) s.2.1 s.2.2.1) s.2.2.1 s.2.1 else (rowAt N s.1).foldl (cutF s.1) N)).set s.1.toNat []
def doG (G : List Bool) (s : Stp) : List Bool := G.set s.1.toNat true
def leftF (G : List Bool) : List Int := ((List.range G.length).filter fun v => !G.getD v false).map fun (v : Nat) => (v : Int)
def outE (N : List (List Int)) (v : Int) : List Ed := ((rowAt N v).filter fun x => decide (x > v)).map fun x => (v, x)
def edgesF (N : List (List Int)) (G : List Bool) : List Ed := (leftF G).flatMap (outE N)
/-- rows of neighbours -/
structure Wf (N : List (List Int)) (G : List Bool) : Prop where
  len : G.length = N.length
  most : N.length ≤ 1000
  row : ∀ l ∈ N, l.Pairwise (· < ·) ∧ ∀ x ∈ l, 0 ≤ x ∧ x < N.length
  sym : ∀ u v : Int, 0 ≤ u → 0 ≤ v → v ∈ rowAt N u → u ∈ rowAt N v
  irr : ∀ v : Int, 0 ≤ v → v ∉ rowAt N v
  gone : ∀ v : Int, 0 ≤ v → goneAt G v = true → rowAt N v = []
theorem rowAt_mem {N : List (List Int)} {v : Int} (h0 : 0 ≤ v) (h : v < N.length) : rowAt N v ∈ N ∧ N[v.toNat]? = some (rowAt N v) := by
  have hlt : v.toNat < N.length := by omega
  unfold rowAt
  rw [List.getD_eq_getElem?_getD, List.getElem?_eq_getElem hlt]
  exact ⟨List.getElem_mem hlt, rfl⟩
theorem goneAt_get {N : List (List Int)} {G : List Bool} (hl : G.length = N.length) {v : Int} (h0 : 0 ≤ v) (h : v < N.length) : G[v.toNat]? = some (goneAt G v) := by
  have hlt : v.toNat < G.length := by omega
  unfold goneAt
  rw [List.getD_eq_getElem?_getD, List.getElem?_eq_getElem hlt]; rfl
theorem rowAt_out {N : List (List Int)} {v : Int} (h : ¬ v.toNat < N.length) : rowAt N v = [] := by
  unfold rowAt
  rw [List.getD_eq_getElem?_getD, List.getElem?_eq_none (by omega)]; rfl
theorem Wf.rows {N : List (List Int)} {G : List Bool} (h : Wf N G) (v : Int) : (rowAt N v).Pairwise (· < ·) ∧ ∀ x ∈ rowAt N v, 0 ≤ x ∧ x < N.length := by
  by_cases hv : v.toNat < N.length
  · unfold rowAt
    rw [List.getD_eq_getElem?_getD, List.getElem?_eq_getElem hv]
    exact h.row _ (List.getElem_mem hv)
  · rw [rowAt_out hv]; simp
theorem sorted_len' {n : Int} : ∀ {l : List Int} {a : Int}, l.Pairwise (· < ·) → (∀ x ∈ l, a ≤ x ∧ x < n) → (l.length : Int) ≤ max (n - a) 0 := by
  intro l
  induction l with
  | nil => intro a _ _; simp; omega
  | cons x l ih =>
    intro a h hr
    rw [List.pairwise_cons] at h
    have hx := hr x (by simp)
    have := ih (a := x + 1) h.2 fun y hy => ⟨by have := h.1 y hy; omega, (hr y (by simp [hy])).2⟩
    simp only [List.length_cons]
    omega
theorem Wf.row_len {N : List (List Int)} {G : List Bool} (h : Wf N G) (v : Int) : (rowAt N v).length ≤ N.length := by
  have := sorted_len' (h.rows v).1 (h.rows v).2
  omega
theorem rowAt_set {N : List (List Int)} {i u : Int} {r : List Int} (hi : 0 ≤ i) (hi2 : i < N.length) (hu : 0 ≤ u) : rowAt (N.set i.toNat r) u = if u = i then r else rowAt N u := by
  unfold rowAt
  rw [List.getD_eq_getElem?_getD, List.getElem?_set]
  by_cases e : u = i
  · subst e
    rw [if_pos rfl, if_pos (by omega), if_pos rfl]; rfl
  · rw [if_neg (by omega), if_neg e]; rfl
theorem goneAt_set {G : List Bool} {i u : Int} (hi : 0 ≤ i) (hi2 : i < G.length) (hu : 0 ≤ u) : goneAt (G.set i.toNat true) u = if u = i then true else goneAt G u := by
  unfold goneAt
  rw [List.getD_eq_getElem?_getD, List.getElem?_set]
  by_cases e : u = i
  · subst e
    rw [if_pos rfl, if_pos (by omega), if_pos rfl]; rfl
  · rw [if_neg (by omega), if_neg e]; rfl
theorem cutF_length (v : Int) (N : List (List Int)) (x : Int) : (cutF v N x).length = N.length := by simp [cutF]
theorem joinF_length (N : List (List Int)) (a b : Int) : (joinF N a b).length = N.length := by simp [joinF]
theorem cuts_length (v : Int) (l : List Int) (N : List (List Int)) : (l.foldl (cutF v) N).length = N.length := by
  induction l generalizing N with
  | nil => rfl
  | cons x l ih => rw [List.foldl_cons, ih, cutF_length]
theorem cuts_row {v : Int} : ∀ {l : List Int} {N : List (List Int)} {u : Int}, l.Nodup → (∀ x ∈ l, 0 ≤ x ∧ x < N.length) → 0 ≤ u → rowAt (l.foldl (cutF v) N) u = if u ∈ l then (rowAt N u).erase v else rowAt N u := by
  intro l
  induction l with
  | nil => intro N u _ _ _; simp
  | cons x l ih =>
    intro N u hn hr hu
    rw [List.nodup_cons] at hn
    have hx := hr x (by simp)
    rw [List.foldl_cons, ih hn.2 (fun y hy => by rw [cutF_length]; exact hr y (by simp [hy])) hu]
    unfold cutF
    rw [rowAt_set hx.1 hx.2 hu]
    by_cases e : u = x
    · subst e
      simp [hn.1]
    · simp [e]
theorem mem_insAt {l : List Int} {x y : Int} : y ∈ insAt l x ↔ y ∈ l ∨ y = x := by
  unfold insAt
  rw [List.mem_append, List.mem_cons]
  constructor
  · rintro (h | h | h)
    · exact .inl (List.mem_of_mem_take h)
    · exact .inr h
    · exact .inl (List.mem_of_mem_drop h)
  · rintro (h | h)
    · rw [← List.take_append_drop (l.countP (· < x)) l, List.mem_append] at h
      exact h.elim .inl fun h => .inr (.inr h)
    · exact .inr (.inl h)
theorem count_split {l : List Int} {x : Int} (h : l.Pairwise (· < ·)) : (∀ y ∈ l.take (l.countP (· < x)), y < x) ∧ ∀ y ∈ l.drop (l.countP (· < x)), x ≤ y := by
  induction l with
  | nil => simp
  | cons a l ih =>
    rw [List.pairwise_cons] at h
    by_cases ha : a < x
    · rw [List.countP_cons, if_pos (by simpa using ha), List.take_succ_cons, List.drop_succ_cons]
      refine ⟨fun y hy => ?_, (ih h.2).2⟩
      rcases List.mem_cons.1 hy with rfl | hy
      · exact ha
      · exact (ih h.2).1 y hy
    · have h0 : (a :: l).countP (· < x) = 0 := List.countP_eq_zero.2 fun y hy => by
        rcases List.mem_cons.1 hy with rfl | hy
        · simpa using ha
        · have := h.1 y hy; simp; omega
      rw [h0]
      refine ⟨by simp, fun y hy => ?_⟩
      rcases List.mem_cons.1 hy with rfl | hy
      · omega
      · have := h.1 y hy; omega
theorem insAt_sorted {l : List Int} {x : Int} (h : l.Pairwise (· < ·)) (hx : x ∉ l) : (insAt l x).Pairwise (· < ·) := by
  obtain ⟨h1, h2⟩ := count_split (x := x) h
  unfold insAt
  rw [List.pairwise_append]
  refine ⟨h.sublist (List.take_sublist _ _), List.pairwise_cons.2 ⟨fun y hy => ?_, h.sublist (List.drop_sublist _ _)⟩, fun y hy z hz => ?_⟩
  · have := h2 y hy
    have : y ≠ x := fun e => hx (e ▸ List.mem_of_mem_drop hy)
    omega
  · have hy1 := h1 y hy
    rcases List.mem_cons.1 hz with rfl | hz
    · exact hy1
    · have := h2 z hz; omega
theorem erase_sorted {l : List Int} {x : Int} (h : l.Pairwise (· < ·)) : (l.erase x).Pairwise (· < ·) := h.sublist (List.erase_sublist)
theorem mem_erase_sorted {l : List Int} {x y : Int} (h : l.Pairwise (· < ·)) : y ∈ l.erase x ↔ y ∈ l ∧ y ≠ x := by
  have hn : l.Nodup := h.imp fun hab => by omega
  rw [hn.mem_erase_iff]
  exact And.comm
/-- what a step that may be done does: who is whose neighbour behind it -/
structure MayP (N : List (List Int)) (G : List Bool) (v : Int) : Prop where
  lo : 0 ≤ v
  hi : v < N.length
  there : goneAt G v = false
  two : (rowAt N v).length ≤ 2
theorem mayB_iff {N : List (List Int)} {G : List Bool} {v : Int} : mayB N G v = true ↔ MayP N G v := by
  unfold mayB
  simp only [Bool.and_eq_true, decide_eq_true_eq, Bool.not_eq_true']
  exact ⟨fun ⟨a, b, c, d⟩ => ⟨a, b, c, d⟩, fun h => ⟨h.lo, h.hi, h.there, h.two⟩⟩
theorem step_two {N : List (List Int)} {G : List Bool} (h : Wf N G) {v : Int} (hm : MayP N G v) {s : Stp} (hs : s = stepF N v) : s.1 = v ∧ ((rowAt N v = [] ∧ s.2.1 = -1 ∧ s.2.2.1 = -1 ∧ s.2.2.2 = false) ∨ (∃ a, rowAt N v = [a] ∧ s.2.1 = a ∧ s.2.2.1 = -1 ∧ s.2.2.2 = false) ∨
    (∃ a b, rowAt N v = [a, b] ∧ a < b ∧ s.2.1 = a ∧ s.2.2.1 = b ∧ s.2.2.2 = !(rowAt N a).elem b)) := by
  subst hs
  refine ⟨rfl, ?_⟩
  unfold stepF
  have h2 := hm.two
  have h3 := (h.rows v).1
  cases hl : rowAt N v with
  | nil => exact .inl ⟨rfl, rfl, rfl, rfl⟩
  | cons a l =>
    rw [hl] at h2 h3
    cases l with
    | nil => exact .inr (.inl ⟨a, rfl, rfl, rfl, rfl⟩)
    | cons b l =>
      cases l with
      | nil => exact .inr (.inr ⟨a, b, rfl, by simp at h3; exact h3, rfl, rfl, rfl⟩)
      | cons c l => exact absurd h2 (by simp)
theorem doN_length (N : List (List Int)) (s : Stp) : (doN N s).length = N.length := by
  unfold doN
  rw [List.length_set]
  split
  · rw [joinF_length, joinF_length, cuts_length]
  · rw [cuts_length]
theorem do_row {N : List (List Int)} {G : List Bool} (h : Wf N G) {v : Int} (hm : MayP N G v) {u : Int} (hu : 0 ≤ u) : (rowAt (doN N (stepF N v)) u).Pairwise (· < ·) ∧ (∀ y, y ∈ rowAt (doN N (stepF N v)) u ↔ u ≠ v ∧ ((y ∈ rowAt N u ∧ y ≠ v) ∨ ((stepF N v).2.2.2 = true ∧ ((u = (stepF N v).2.1 ∧ y = (stepF N v).2.2.1) ∨ (u = (stepF N v).2.2.1 ∧ y = (stepF N v).2.1))))) := by
  obtain ⟨_, hc⟩ := step_two h hm rfl
  have hrv := h.rows v
  have hnd : (rowAt N v).Nodup := hrv.1.imp fun hab => by omega
  have base : ∀ w, 0 ≤ w → rowAt ((rowAt N v).foldl (cutF v) N) w = (rowAt N w).erase v := fun w hw => by
    rw [cuts_row hnd hrv.2 hw]
    split
    · rfl
    · rename_i hnot
      rw [List.erase_of_not_mem]
      exact fun hin => hnot (h.sym w v hw hm.lo hin)
  have hlen := cuts_length v (rowAt N v) N
  have hv1 : (stepF N v).1 = v := rfl
  unfold doN
  rw [hv1]
  have hjl : ∀ M : List (List Int), M.length = N.length → rowAt (M.set v.toNat []) u = if u = v then [] else rowAt M u := fun M hM => rowAt_set hm.lo (by rw [hM]; exact hm.hi) hu
  have er := erase_sorted (x := v) (h.rows u).1
  have em : ∀ y, y ∈ (rowAt N u).erase v ↔ y ∈ rowAt N u ∧ y ≠ v := fun y => mem_erase_sorted (h.rows u).1
  by_cases hadd : (stepF N v).2.2.2 = true
  · rw [if_pos hadd]
    rcases hc with ⟨_, _, _, e⟩ | ⟨_, _, _, _, e⟩ | ⟨a, b, hl, hab, ea, eb, ec⟩
    · rw [hadd] at e; cases e
    · rw [hadd] at e; cases e
    rw [hadd] at ec
    have hnb : b ∉ rowAt N a := by
      intro hin
      have : (rowAt N a).elem b = true := by simpa using hin
      rw [this] at ec; cases ec
    have hra := hrv.2 a (by rw [hl]; simp)
    have hrb := hrv.2 b (by rw [hl]; simp)
    have hva : a ≠ v := fun e => h.irr v hm.lo (by rw [hl, e]; simp)
    have hvb : b ≠ v := fun e => h.irr v hm.lo (by rw [hl, e]; simp)
    rw [ea, eb]
    rw [hjl _ (by rw [joinF_length, joinF_length, hlen])]
    have j1 : ∀ w, 0 ≤ w → rowAt (joinF ((rowAt N v).foldl (cutF v) N) a b) w = if w = a then insAt ((rowAt N a).erase v) b else (rowAt N w).erase v := fun w hw => by
      unfold joinF
      rw [rowAt_set hra.1 (by rw [hlen]; exact hra.2) hw, base a hra.1, base w hw]
    have j2 : rowAt (joinF (joinF ((rowAt N v).foldl (cutF v) N) a b) b a) u = if u = b then insAt ((rowAt N b).erase v) a else if u = a then insAt ((rowAt N a).erase v) b else (rowAt N u).erase v := by
      have e : rowAt (joinF ((rowAt N v).foldl (cutF v) N) a b) b = (rowAt N b).erase v := by rw [j1 b hrb.1, if_neg (by omega)]
      show rowAt ((joinF ((rowAt N v).foldl (cutF v) N) a b).set b.toNat (insAt (rowAt (joinF ((rowAt N v).foldl (cutF v) N) a b) b) a)) u = _
      rw [rowAt_set hrb.1 (by rw [joinF_length, hlen]; exact hrb.2) hu, e, j1 u hu]
    rw [j2]
    by_cases e1 : u = v
    · rw [if_pos e1]; simp [e1]
    rw [if_neg e1]
    have hna : a ∉ rowAt N b := fun hin => hnb (h.sym b a hrb.1 hra.1 hin)
    by_cases e2 : u = b
    · subst e2
      rw [if_pos rfl]
      refine ⟨insAt_sorted er fun hin => hna ((em a).1 hin).1, fun y => ?_⟩
      rw [mem_insAt, em]
      constructor
      · rintro (⟨h1, h2⟩ | h1)
        · exact ⟨e1, .inl ⟨h1, h2⟩⟩
        · exact ⟨e1, .inr ⟨hadd, .inr ⟨rfl, h1⟩⟩⟩
      · rintro ⟨_, h1 | ⟨_, ⟨h1, _⟩ | ⟨_, h1⟩⟩⟩
        · exact .inl h1
        · omega
        · exact .inr h1
    · rw [if_neg e2]
      by_cases e3 : u = a
      · subst e3
        rw [if_pos rfl]
        refine ⟨insAt_sorted er fun hin => hnb ((em b).1 hin).1, fun y => ?_⟩
        rw [mem_insAt, em]
        constructor
        · rintro (⟨h1, h2⟩ | h1)
          · exact ⟨e1, .inl ⟨h1, h2⟩⟩
          · exact ⟨e1, .inr ⟨hadd, .inl ⟨rfl, h1⟩⟩⟩
        · rintro ⟨_, h1 | ⟨_, ⟨_, h1⟩ | ⟨h1, _⟩⟩⟩
          · exact .inl h1
          · exact .inr h1
          · omega
      · rw [if_neg e3]
        refine ⟨er, fun y => ?_⟩
        rw [em]
        constructor
        · intro h1; exact ⟨e1, .inl h1⟩
        · rintro ⟨_, h1 | ⟨_, ⟨h1, _⟩ | ⟨h1, _⟩⟩⟩
          · exact h1
          · exact absurd h1 e3
          · exact absurd h1 e2
  · rw [if_neg hadd, hjl _ hlen]
    by_cases e1 : u = v
    · rw [if_pos e1]; simp [e1]
    rw [if_neg e1, base u hu]
    refine ⟨er, fun y => ?_⟩
    rw [em]
    simp [e1, hadd]
theorem do_gone {N : List (List Int)} {G : List Bool} (h : Wf N G) {v : Int} (hm : MayP N G v) {u : Int} (hu : 0 ≤ u) : goneAt (doG G (stepF N v)) u = if u = v then true else goneAt G u :=
  goneAt_set hm.lo (by rw [h.len]; exact hm.hi) hu
theorem do_wf {N : List (List Int)} {G : List Bool} (h : Wf N G) {v : Int} (hm : MayP N G v) : Wf (doN N (stepF N v)) (doG G (stepF N v)) := by
  have hlen := doN_length N (stepF N v)
  obtain ⟨_, hc⟩ := step_two h hm rfl
  have hab : (stepF N v).2.2.2 = true → (stepF N v).2.1 ∈ rowAt N v ∧ (stepF N v).2.2.1 ∈ rowAt N v ∧ (stepF N v).2.1 ≠ (stepF N v).2.2.1 := fun hadd => by
    rcases hc with ⟨_, _, _, e⟩ | ⟨_, _, _, _, e⟩ | ⟨a, b, hl, hab, ea, eb, ec⟩
    · rw [hadd] at e; cases e
    · rw [hadd] at e; cases e
    · rw [ea, eb, hl]; exact ⟨by simp, by simp, by omega⟩
  refine ⟨by rw [hlen, doG, List.length_set]; exact h.len, by rw [hlen]; exact h.most, fun l hl => ?_, fun u w hu hw hin => ?_, fun u hu hin => ?_, fun u hu hg => ?_⟩
  · obtain ⟨i, hi, rfl⟩ := List.mem_iff_getElem.1 hl
    have e : (doN N (stepF N v))[i] = rowAt (doN N (stepF N v)) (i : Int) := by
      unfold rowAt
      rw [Int.toNat_natCast, List.getD_eq_getElem?_getD, List.getElem?_eq_getElem hi]; rfl
    rw [e, hlen]
    obtain ⟨h1, h2⟩ := do_row h hm (show (0 : Int) ≤ (i : Int) by omega)
    refine ⟨h1, fun y hy => ?_⟩
    rcases ((h2 y).1 hy).2 with ⟨k, _⟩ | ⟨hadd, ⟨_, k⟩ | ⟨_, k⟩⟩
    · exact (h.rows _).2 y k
    · rw [k]; exact (h.rows v).2 _ (hab hadd).2.1
    · rw [k]; exact (h.rows v).2 _ (hab hadd).1
  · have h1 := (do_row h hm hu).2 w
    have h2 := (do_row h hm hw).2 u
    obtain ⟨k1, k2⟩ := h1.1 hin
    refine h2.2 ⟨?_, ?_⟩
    · rcases k2 with ⟨_, k⟩ | ⟨hadd, ⟨_, k⟩ | ⟨_, k⟩⟩
      · exact k
      · rw [k]; intro e; have := (hab hadd).2.1; rw [e] at this; exact h.irr v hm.lo this
      · rw [k]; intro e; have := (hab hadd).1; rw [e] at this; exact h.irr v hm.lo this
    · rcases k2 with ⟨k, _⟩ | ⟨hadd, ⟨k, k'⟩ | ⟨k, k'⟩⟩
      · exact .inl ⟨h.sym u w hu hw k, k1⟩
      · exact .inr ⟨hadd, .inr ⟨k', k⟩⟩
      · exact .inr ⟨hadd, .inl ⟨k', k⟩⟩
  · rcases (((do_row h hm hu).2 u).1 hin).2 with ⟨k, _⟩ | ⟨hadd, ⟨k, k'⟩ | ⟨k, k'⟩⟩
    · exact h.irr u hu k
    · exact (hab hadd).2.2 (k ▸ k')
    · exact (hab hadd).2.2 (k ▸ k').symm
  · rw [do_gone h hm hu] at hg
    have key : ∀ y, y ∉ rowAt (doN N (stepF N v)) u := fun y hy => by
      obtain ⟨k1, k2⟩ := ((do_row h hm hu).2 y).1 hy
      rw [if_neg k1] at hg
      have hr := h.gone u hu hg
      rcases k2 with ⟨k, _⟩ | ⟨hadd, ⟨k, _⟩ | ⟨k, _⟩⟩
      · rw [hr] at k; simp at k
      · have := h.sym v u hm.lo hu (k ▸ (hab hadd).1)
        rw [hr] at this; simp at this
      · have := h.sym v u hm.lo hu (k ▸ (hab hadd).2.1)
        rw [hr] at this; simp at this
    exact List.eq_nil_iff_forall_not_mem.2 key
/-! #### the rows of a graph -/
theorem nbrs_length (n : Nat) (E : List Ed) : (nbrs n E).length = n := by simp [nbrs]
theorem nbrs_row {n : Nat} {E : List Ed} {v : Int} (h0 : 0 ≤ v) (h : v < n) : rowAt (nbrs n E) v = nearL E v := by
  unfold rowAt nbrs
  rw [List.getD_eq_getElem?_getD, List.getElem?_map, List.getElem?_range (by omega)]
  show nearL E (v.toNat : Int) = _
  rw [Int.toNat_of_nonneg h0]
theorem near_sorted {n : Int} {v : Int} : ∀ {E : List Ed}, (∀ p ∈ E, okE n p) → E.Pairwise ltE → (nearL E v).Pairwise (· < ·) := by
  intro E
  suffices h : ∀ E : List Ed, (∀ p ∈ E, okE n p) → E.Pairwise ltE → (nearL E v).Pairwise (· < ·) from fun a b => h E a b
  intro E
  induction E with
  | nil => intro _ _; simp [nearL]
  | cons x E ih =>
    intro hE hs
    rw [List.pairwise_cons] at hs
    have hx := hE x (by simp)
    have e : nearL (x :: E) v = nearX v x ++ nearL E v := by simp [nearL]
    rw [e, List.pairwise_append]
    refine ⟨?_, ih (fun p hp => hE p (by simp [hp])) hs.2, fun y hy z hz => ?_⟩
    · obtain ⟨h1, h2, h3⟩ := hx
      unfold nearX
      split <;> split <;> simp <;> omega
    · unfold nearL at hz
      obtain ⟨p, hp, hz⟩ := List.mem_flatMap.1 hz
      have hl := hs.1 p hp
      have hpo := hE p (by simp [hp])
      obtain ⟨x1, x2⟩ := x
      obtain ⟨p1, p2⟩ := p
      obtain ⟨h1, h2, h3⟩ := hx
      obtain ⟨q1, q2, q3⟩ := hpo
      simp only [ltE] at hl
      simp only [nearX, List.mem_append] at hy hz
      dsimp only at *
      rcases hy with hy | hy
      · split at hy
        · simp at hy
          rcases hz with hz | hz
          · split at hz
            · simp at hz; omega
            · simp at hz
          · split at hz
            · simp at hz; omega
            · simp at hz
        · simp at hy
      · split at hy
        · simp at hy
          rcases hz with hz | hz
          · split at hz
            · simp at hz; omega
            · simp at hz
          · split at hz
            · simp at hz; omega
            · simp at hz
        · simp at hy
theorem begin_wf {n : Int} {E : List Ed} (h : RightP n E) : Wf (nbrs n.toNat E) (List.replicate n.toNat false) := by
  have h0 := h.1
  have hm := h.2.1
  have hE : ∀ p ∈ E, okE n p := fun p hp => h.2.2.2.1 p hp
  have adj : ∀ {u w : Int}, adjE E u w → 0 ≤ u ∧ u < n ∧ 0 ≤ w ∧ w < n ∧ u ≠ w := fun {u w} ha => by
    rcases ha with ha | ha
    · obtain ⟨h1, h2, h3⟩ := hE _ ha; dsimp only at h1 h2 h3; omega
    · obtain ⟨h1, h2, h3⟩ := hE _ ha; dsimp only at h1 h2 h3; omega
  have row : ∀ u : Int, 0 ≤ u → ∀ w, w ∈ rowAt (nbrs n.toNat E) u ↔ adjE E u w := fun u hu w => by
    by_cases hlt : u < n
    · rw [nbrs_row hu (by omega), mem_nearL]
    · rw [rowAt_out (by rw [nbrs_length]; omega)]
      constructor
      · simp
      · intro ha; have := adj ha; omega
  refine ⟨by rw [nbrs_length]; simp, by rw [nbrs_length]; omega, fun l hl => ?_, fun u w hu hw hin => ?_, fun u hu hin => ?_, fun u hu hg => ?_⟩
  · obtain ⟨i, hi, rfl⟩ := List.mem_map.1 hl
    refine ⟨near_sorted hE h.2.2.2.2, fun w hw => ?_⟩
    have := adj (mem_nearL.1 hw)
    rw [nbrs_length]; omega
  · rw [row u hu] at hin
    rw [row w hw]; exact hin.symm
  · rw [row u hu] at hin
    have := adj hin; omega
  · exfalso
    unfold goneAt at hg
    rw [List.getD_eq_getElem?_getD, List.getElem?_replicate] at hg
    split at hg <;> simp at hg
end Go.Sh

set_option linter.unusedVariables false
set_option linter.unusedSimpArgs false
namespace Go.Sh
open Go.Proofs
def restV (own : Bool) (N : List (List Int)) (G : List Bool) : V := .agg [.nest own 1 (rowsI N), .flat own 1 (bools G)]
theorem restV_inj {o : Bool} {N M : List (List Int)} {G H : List Bool} (h : restV o N G = restV o M H) : N = M ∧ G = H := by
  unfold restV at h
  injection h with h
  injection h with h1 h2
  injection h2 with h2 _
  injection h1 with _ _ h1
  injection h2 with _ _ h2
  exact ⟨rowsI_inj h1, bools_inj h2⟩
/-! ### slices.BinarySearch -/
noncomputable def SearchC : Con := conP 2 (fun a : List Int × Int => a.1.Pairwise (· ≤ ·) ∧ a.1.length ≤ 1000000) (fun a => [.one (.flat false 1 (ints a.1)), .one (.s (.i .i64 a.2))]) (fun a => .tup [.one (.s (.i .i64 (a.1.countP (· < a.2) : Nat))), .one (.s (.b (a.1.elem a.2)))])
theorem SearchC_at {l : List Int} {x : Int} (h : l.Pairwise (· ≤ ·) ∧ l.length ≤ 1000000) : SearchC.F [.one (.flat false 1 (ints l)), .one (.s (.i .i64 x))] = some (.tup [.one (.s (.i .i64 (l.countP (· < x) : Nat))), .one (.s (.b (l.elem x)))], []) :=
  conP_at (a := (l, x)) (fun a b _ _ h => by
    obtain ⟨l, x⟩ := a
    obtain ⟨m, y⟩ := b
    simp at h
    obtain ⟨h1, h2⟩ := h
    rw [ints_inj h1, h2]) h
theorem Search_ok : SoundC Try.prog T 97 SearchC := by
  refine sound_pure Try.func97 (by rfl) (by rfl) (by simp [SearchC, conP]) ?_
  intro vs r outs hF w us hus
  obtain ⟨⟨l, x⟩, hl, rfl, rfl⟩ := conF_inv (pre := fun a : List Int × Int => a.1.Pairwise (· ≤ ·) ∧ a.1.length ≤ 1000000) (enc := fun a => [.one (.flat false 1 (ints a.1)), .one (.s (.i .i64 a.2))]) (val := fun a => .tup [.one (.s (.i .i64 (a.1.countP (· < a.2) : Nat))), .one (.s (.b (a.1.elem a.2)))]) hF
  obtain ⟨u, u2, hu, ⟨y, hy, hFl⟩, hx⟩ : ∃ u u2, us = #[u, u2] ∧ CellOk w noLab 0 (.flat false 1 (ints l)) u ∧ u2 = .int .i64 x := by
    obtain ⟨us⟩ := us
    match us, hus with
    | [u, u2], hus => exact ⟨u, u2, rfl, hus.1, hus.2.1.choose_spec⟩
    | [], hus => exact hus.elim
    | [_], hus => exact hus.2.elim
    | _ :: _ :: _ :: _, hus => exact hus.2.2.elim
  subst hu
  subst hx
  subst hy
  rw [ints_length]
  have fin : ∀ w' : World, w'.os = w.os → w'.tape = w.tape → w'.output = w.output → w'.heap = w.heap → ∃ (u : Value) (lab : Nat → Option Key), Ending.returned (.tuple #[.int .i64 (l.countP (· < x) : Nat), .bool (l.elem x)]) = .returned u ∧ Frm (fun _ => False) w w' ∧ (∀ b k, lab b = some k → w.heap.size ≤ b ∧ b < w'.heap.size) ∧ VOk w' lab 0 (.tup [.one (.s (.i .i64 (l.countP (· < x) : Nat))), .one (.s (.b (l.elem x)))]) u := fun w' h1 h2 h3 h4 =>
    ⟨_, noLab, rfl, ⟨h1, .of h2, h3, by rw [h4]; exact Nat.le_refl _, fun b _ _ => by rw [h4]⟩, fun b k h => by simp [noLab] at h, ⟨_, rfl, ⟨⟨none, 0, fun _ => none, fun _ => 0⟩, rfl⟩, ⟨⟨none, 0, fun _ => none, fun _ => 0⟩, rfl⟩, trivial⟩⟩
  cases l with
  | nil =>
    refine (search_empty y.A y.c x w).mono ?_
    rintro e w' ⟨rfl, rfl⟩
    exact fin _ rfl rfl rfl rfl
  | cons a l =>
    have hcell : ∀ j (hj : j < (a :: l).length), ∃ b, y.A = some b ∧ w.cell? (b.add j) = some (.int .i64 ((a :: l).getD j 0)) := fun j hj => by
      obtain ⟨b, hb, _, hc⟩ := hFl.cell j [.i .i64 (a :: l)[j]] 0 (.i .i64 (a :: l)[j]) (ints_get (List.getElem?_eq_getElem hj)) rfl
      rw [Nat.mul_one, Nat.add_zero] at hc
      exact ⟨b, hb, by rw [hc, List.getD_eq_getElem?_getD, List.getElem?_eq_getElem hj]; rfl⟩
    obtain ⟨⟨b, off, spot⟩, hb, hc0⟩ := hcell 0 (by simp)
    have hsp : spot = none := by
      cases spot with
      | none => rfl
      | some z => exfalso; simp [Addr.add, World.cell?] at hc0; split at hc0 <;> simp at hc0
    subst hsp
    have hs := search_row b off (a :: l).length y.c (a :: l) x w (Nat.le_refl _) (by have := hl.2; dsimp only at this; omega) (fun j hj => by
      obtain ⟨b', hb', hc⟩ := hcell j hj
      rw [hb] at hb'
      injection hb' with hb'
      subst hb'
      rw [Addr.add_plain] at hc
      exact hc) (by rw [List.take_length]; exact hl.1)
    rw [List.take_length] at hs
    rw [hb]
    refine hs.mono ?_
    rintro e w' ⟨rfl, q, rfl⟩
    exact fin _ rfl rfl rfl rfl
/-! ### reduce.begin -/
noncomputable def BeginC : Con := conP 2 (fun a : Int × List Ed => RightP a.1 a.2) (fun a => [grV a.1 a.2]) (fun a => restV true (nbrs a.1.toNat a.2) (List.replicate a.1.toNat false))
theorem BeginC_at {n : Int} {E : List Ed} (h : RightP n E) : BeginC.F [grV n E] = some (restV true (nbrs n.toNat E) (List.replicate n.toNat false), []) :=
  conP_at (a := (n, E)) (fun x y _ _ h => by
    obtain ⟨n, E⟩ := x
    obtain ⟨n', E'⟩ := y
    simp at h
    obtain ⟨rfl, rfl⟩ := grV_inj h
    rfl) h
theorem sortI_id {l : List Int} (h : l.Pairwise (· < ·)) : sortI l = l := (sortI_unique (h.imp fun hab => by omega) (List.Perm.refl _)).symm
theorem nbrs_snoc {n : Nat} {E : List Ed} {x : Ed} {m : Int} (hx : okE m x) (hm : m = n) : nbrs n (E ++ [x]) = ((nbrs n E).set x.1.toNat (nearL E x.1 ++ [x.2])).set x.2.toNat (nearL E x.2 ++ [x.1]) := by
  obtain ⟨h1, h2, h3⟩ := hx
  apply List.ext_getElem?
  intro i
  rw [List.getElem?_set, List.getElem?_set]
  by_cases hi : i < n
  · have e : ∀ E, (nbrs n E)[i]? = some (nearL E i) := fun E => by unfold nbrs; rw [List.getElem?_map, List.getElem?_range hi]; rfl
    rw [e, e, nearL_snoc]
    unfold nearX
    by_cases a1 : x.2.toNat = i
    · have : x.2 = i := by omega
      rw [if_pos a1, if_neg (show ¬ x.1 = (i : Int) by omega), if_pos this, if_pos (show x.2.toNat < ((nbrs n E).set x.1.toNat (nearL E x.1 ++ [x.2])).length by rw [List.length_set, nbrs_length]; omega), this]; rfl
    · rw [if_neg a1, if_neg (show ¬ x.2 = (i : Int) by omega)]
      by_cases a2 : x.1.toNat = i
      · have : x.1 = i := by omega
        rw [if_pos a2, if_pos this, if_pos (show x.1.toNat < (nbrs n E).length by rw [nbrs_length]; omega), this]; simp
      · rw [if_neg a2, if_neg (show ¬ x.1 = (i : Int) by omega)]; simp
  · rw [List.getElem?_eq_none (by rw [nbrs_length]; omega), if_neg (by omega), if_neg (by omega), List.getElem?_eq_none (by rw [nbrs_length]; omega)]
theorem rowsI_set (N : List (List Int)) (i : Nat) (l : List Int) : rowsI (N.set i l) = (rowsI N).set i (ints l) := by simp [rowsI, List.map_set]
set_option maxHeartbeats 2000000 in
theorem Begin_ok : SoundC Try.prog T 70 BeginC := by
  refine sound_con (X := { Γ := [], T := T, nt := 64, ext := [77] }) (rowIn_ok Sort_row) hmix hT sound_nil Try.func70 (by rfl) (by rfl) (by rfl) (by rfl) 2 ?_
  rintro ⟨n, E⟩ hR
  dsimp only at hR ⊢
  obtain ⟨hn0, hn1, hE4, hokE, hsrt⟩ := id hR
  have hW := begin_wf hR
  refine ⟨⟨Nat.le_of_ble_eq_true rfl, Nat.le_of_ble_eq_true rfl⟩, ?_⟩
  refine Pick.T (by simp) ?_
  refine Idx.by n.toNat (by omega) (by omega) ?_
  refine Pick.T (by simp) ?_
  refine Idx.by n.toNat (by omega) (by omega) ?_
  refine Seg.by (by kernel_rfl) ?_
  refine LoopP.intro (α := Nat) (fun k => k ≤ E.length) (fun k => E.length - k) (fun k => [(1, .ptr 0 0), (2, .ptr 2 0), (3, .ptr 3 0), (16, .sl 1 none none), (17, .s (.i .i64 E.length)), (18, .s (.i .i64 k))])
    (fun k => [(0, some (.blk [.s (.i .i64 n), .sl 1 none none])), (1, some (.flat false 2 (edges E))), (2, some (.blk [.nils, .nils])), (3, some (.blk [.sl 4 none none, .sl 5 none none])), (4, some (.nest true 1 (rowsI (nbrs n.toNat (E.take k))) [] [])), (5, some (.flat true 1 (bools (List.replicate n.toNat false))))]) 6 0 (by omega) (by refine Weak.by [(0, some _), (1, some _), (2, some _), (3, some _), (4, some _), (5, some _)] (by ((repeat' first | exact rfl | exact trivial | refine And.intro ?_ ?_) <;> (repeat' first | exact rfl | exact trivial | refine And.intro ?_ ?_)); all_goals ((first | (rw [edges_length]; rfl) | (simp [nbrs, nearL, rowsI, ints, List.map_const']; done) | (simp [bools]; done)))) (by ((repeat' first | exact rfl | exact trivial | refine And.intro ?_ ?_) <;> (repeat' first | exact rfl | exact trivial | refine And.intro ?_ ?_)); all_goals ((first | (rw [edges_length]; rfl) | (simp [nbrs, nearL, rowsI, ints, List.map_const']; done) | (simp [bools]; done)))) (by rfl)) ?_
  rintro k hk
  refine Pick.by (fun hc => ?_) (fun hc => ?_)
  · have hlt : k < E.length := by simpa using hc
    have hok := hokE _ (List.getElem_mem hlt)
    have hget := edges_get (List.getElem?_eq_getElem hlt)
    have hnl := nearL_length (E.take k)
    have hnl2 : ∀ v, (nearL (E.take k) v).length ≤ 8000 := fun v => by have := hnl v; rw [List.length_take] at this; omega
    have hst : nbrs n.toNat (E.take (k + 1)) = nbrs n.toNat (E.take k ++ [E[k]]) := by rw [List.take_succ_eq_append_getElem hlt]
    obtain ⟨⟨a, b⟩, hab⟩ : ∃ p, E[k] = p := ⟨_, rfl⟩
    rw [hab] at hok hget hst
    rw [nbrs_snoc hok (by omega)] at hst
    obtain ⟨o1, o2, o3⟩ := hok
    dsimp only at o1 o2 o3 hget hst
    have hrow : ∀ v : Int, 0 ≤ v → v < n → (rowsI (nbrs n.toNat (E.take k)))[v.toNat]? = some (ints (nearL (E.take k) v)) := fun v h0 h1 => by
      refine rowsI_get ?_
      unfold nbrs
      rw [List.getElem?_map, List.getElem?_range (by omega)]
      show some (nearL (E.take k) (v.toNat : Int)) = _
      rw [Int.toNat_of_nonneg h0]
    have hrl : (rowsI (nbrs n.toNat (E.take k))).length = n.toNat := by rw [rowsI_length, nbrs_length]
    refine Idx.by k rfl (by rw [edges_length]; exact hlt) ?_
    refine Look.by _ hget ?_
    refine Idx.by a.toNat (by omega) (by rw [hrl]; omega) ?_
    refine Pick.T (by rw [hrl]; simp; omega) ?_
    refine Look.by _ (hrow a (by omega) (by omega)) ?_
    refine Pick.T (by simp [cut, ints_length]; have := hnl2 a; omega) ?_
    refine Idx.by a.toNat (by omega) (by rw [hrl]; omega) ?_
    refine Pick.T (by rw [hrl]; simp; omega) ?_
    refine Pick.T (by simp) ?_
    refine Seg.by (by kernel_rfl) ?_
    have hset : (rowsI (nbrs n.toNat (E.take k))).set a.toNat (ints (nearL (E.take k) a) ++ [[.i .i64 b]]) = rowsI ((nbrs n.toNat (E.take k)).set a.toNat (nearL (E.take k) a ++ [b])) := by rw [rowsI_set, ints_snoc]
    have hrl2 : ((rowsI (nbrs n.toNat (E.take k))).set a.toNat (ints (nearL (E.take k) a) ++ [[.i .i64 b]])).length = n.toNat := by rw [List.length_set, hrl]
    refine Idx.by b.toNat (by omega) (by show b.toNat < ((rowsI (nbrs n.toNat (E.take k))).set a.toNat (ints (nearL (E.take k) a) ++ [[.i .i64 b]])).length; rw [hrl2]; omega) ?_
    refine Pick.T (by show decide (b.toNat < ((rowsI (nbrs n.toNat (E.take k))).set a.toNat (ints (nearL (E.take k) a) ++ [[.i .i64 b]])).length) = true; rw [hrl2]; simp; omega) ?_
    refine Look.by (ints (nearL (E.take k) b)) (by show ((rowsI (nbrs n.toNat (E.take k))).set a.toNat (ints (nearL (E.take k) a) ++ [[.i .i64 b]]))[b.toNat]? = _; rw [List.getElem?_set_ne (by omega)]; exact hrow b (by omega) (by omega)) ?_
    refine Pick.T (by simp [cut, ints_length]; have := hnl2 b; omega) ?_
    refine Idx.by b.toNat (by omega) (by show b.toNat < ((rowsI (nbrs n.toNat (E.take k))).set a.toNat (ints (nearL (E.take k) a) ++ [[.i .i64 b]])).length; rw [hrl2]; omega) ?_
    refine Pick.T (by show decide (b.toNat < ((rowsI (nbrs n.toNat (E.take k))).set a.toNat (ints (nearL (E.take k) a) ++ [[.i .i64 b]])).length) = true; rw [hrl2]; simp; omega) ?_
    refine Pick.T (by simp) ?_
    refine Seg.by (by kernel_rfl) ?_
    refine Pick.T (inI64_of (by omega) (by omega)) ?_
    refine Next.by (k + 1) (by omega) (by omega) (by refine Weak.by [(0, some _), (1, some _), (2, some _), (3, some _), (4, some _), (5, some _)] (by ((repeat' first | exact rfl | exact trivial | refine And.intro ?_ ?_) <;> (repeat' first | exact rfl | exact trivial | refine And.intro ?_ ?_)); all_goals ((rw [hst, rowsI_set, rowsI_set, ints_snoc, ints_snoc]; rfl))) (by ((repeat' first | exact rfl | exact trivial | refine And.intro ?_ ?_) <;> (repeat' first | exact rfl | exact trivial | refine And.intro ?_ ?_)); all_goals ((rw [hst, rowsI_set, rowsI_set, ints_snoc, ints_snoc]; rfl))) (by rfl))
  · have hge : E.length ≤ k := by simpa using hc
    rw [List.take_of_length_le hge]
    have hrl : (rowsI (nbrs n.toNat E)).length = n.toNat := by rw [rowsI_length, nbrs_length]
    refine LoopP.intro (α := Nat) (fun j => j ≤ n.toNat) (fun j => n.toNat - j) (fun j => [(2, .ptr 0 0), (3, .ptr 1 0), (54, .sl 2 none none), (55, .s (.i .i64 n.toNat)), (56, .s (.i .i64 j))])
      (fun j => [(0, some (.blk [.nils, .nils])), (1, some (.blk [.sl 2 none none, .sl 3 none none])), (2, some (.nest true 1 (rowsI (nbrs n.toNat E)) [] [])), (3, some (.flat true 1 (bools (List.replicate n.toNat false))))]) 4 0 (by omega) (by refine Weak.by [(0, some _), (1, some _), (2, some _), (3, some _)] (by ((repeat' first | exact rfl | exact trivial | refine And.intro ?_ ?_) <;> (repeat' first | exact rfl | exact trivial | refine And.intro ?_ ?_)); all_goals ((first | (rw [hrl]; rfl) | done))) (by ((repeat' first | exact rfl | exact trivial | refine And.intro ?_ ?_) <;> (repeat' first | exact rfl | exact trivial | refine And.intro ?_ ?_)); all_goals ((first | (rw [hrl]; rfl) | done))) (by rfl)) ?_
    rintro j hj
    refine Pick.by (fun hc => ?_) (fun hc => ?_)
    · have hlt : j < n.toNat := by simp at hc; omega
      have hrow : (rowsI (nbrs n.toNat E))[j]? = some (ints (nearL E j)) := by
        refine rowsI_get ?_
        unfold nbrs
        rw [List.getElem?_map, List.getElem?_range hlt]; rfl
      have hsd := near_sorted (n := n) (v := (j : Int)) hokE hsrt
      refine Idx.by j rfl (by rw [hrl]; exact hlt) ?_
      refine Pick.T (by rw [hrl]; simp; omega) ?_
      refine ⟨rfl, rowsI (nbrs n.toNat E), [], [], nearL E j, rfl, by simp, by simp, hrow, ?_, ?_⟩
      · have := nearL_length E j; omega
      rw [sortI_id hsd]
      refine Pick.T (inI64_of (by omega) (by omega)) ?_
      refine Next.by (j + 1) (by omega) (by omega) (by refine Weak.by [(0, some _), (1, some _), (2, some _), (3, some _)] (by ((repeat' first | exact rfl | exact trivial | refine And.intro ?_ ?_) <;> (repeat' first | exact rfl | exact trivial | refine And.intro ?_ ?_)); all_goals ((rw [set_same hrow]))) (by ((repeat' first | exact rfl | exact trivial | refine And.intro ?_ ?_) <;> (repeat' first | exact rfl | exact trivial | refine And.intro ?_ ?_)); all_goals ((rw [set_same hrow]))) (by rfl))
    · exact ⟨rfl, by (repeat' first | exact rfl | exact trivial | refine And.intro ?_ ?_)⟩
end Go.Sh

set_option linter.unusedVariables false
set_option linter.unusedSimpArgs false
namespace Go.Sh
open Go.Proofs
/-! ### reduce.rest.may -/
noncomputable def MayC : Con := conP 3 (fun a : (List (List Int) × List Bool) × Int => a.1.2.length = a.1.1.length) (fun a => [restV false a.1.1 a.1.2, .one (.s (.i .i64 a.2))]) (fun a => .one (.s (.b (mayB a.1.1 a.1.2 a.2))))
theorem MayC_at {N : List (List Int)} {G : List Bool} (v : Int) (h : G.length = N.length) : MayC.F [restV false N G, .one (.s (.i .i64 v))] = some (.one (.s (.b (mayB N G v))), []) :=
  conP_at (a := ((N, G), v)) (fun x y _ _ h => by
    obtain ⟨⟨N, G⟩, v⟩ := x
    obtain ⟨⟨N', G'⟩, v'⟩ := y
    simp at h
    obtain ⟨h1, h2⟩ := h
    obtain ⟨rfl, rfl⟩ := restV_inj h1
    subst h2
    rfl) h
theorem May_ok : SoundC Try.prog T 71 MayC := by
  refine sound_con (X := { Γ := [], T := T, nt := 31 }) cr_none hmix hT sound_nil Try.func71 (by rfl) (by rfl) (by rfl) (by rfl) 3 ?_
  rintro ⟨⟨N, G⟩, v⟩ hl
  dsimp only at hl ⊢
  refine ⟨⟨Nat.le_of_ble_eq_true rfl, Nat.le_of_ble_eq_true rfl⟩, ?_⟩
  have val : ∀ c : Bool, c = mayB N G v → Sc.b c = Sc.b (mayB N G v) := fun c h => by rw [h]
  refine Pick.by (fun h1 => ?_) (fun h1 => ?_)
  · have h1 : 0 ≤ v := by simpa using h1
    refine Pick.by (fun h2 => ?_) (fun h2 => ?_)
    · have h2 : v < N.length := by rw [rowsI_length] at h2; simpa using h2
      obtain ⟨hm, hg⟩ := rowAt_mem h1 h2
      refine Idx.by v.toNat (by omega) (by rw [bools_length]; omega) ?_
      refine Look.by _ (bools_get (goneAt_get hl h1 h2)) ?_
      refine Pick.by (fun h3 => ?_) (fun h3 => ?_)
      · have h3 : goneAt G v = false := by have h3 : (!goneAt G v) = true := h3; simpa using h3
        refine Idx.by v.toNat (by omega) (by rw [rowsI_length]; omega) ?_
        refine Pick.T (by rw [rowsI_length]; simp; omega) ?_
        refine Look.by _ (rowsI_get hg) ?_
        refine ⟨rfl, val _ ?_⟩
        show decide (((ints (rowAt N v)).length : Int) ≤ 2) = _
        unfold mayB
        rw [decide_eq_true h1, decide_eq_true h2, h3, ints_length]
        simp only [Bool.not_false, Bool.true_and]
        exact decide_eq_decide.2 (by omega)
      · have h3 : goneAt G v = true := by have h3 : (!goneAt G v) = false := h3; simpa using h3
        refine ⟨rfl, val _ ?_⟩
        unfold mayB
        rw [h3]; simp
    · have h2 : ¬ v < N.length := by rw [rowsI_length] at h2; simpa using h2
      refine ⟨rfl, val _ ?_⟩
      unfold mayB
      rw [decide_eq_false h2]; simp
  · have h1 : ¬ 0 ≤ v := by simpa using h1
    refine ⟨rfl, val _ ?_⟩
    unfold mayB
    rw [decide_eq_false h1]; simp
/-! ### reduce.rest.step -/
def stpV (s : Stp) : V := .agg [.s (.i .i64 s.1), .s (.i .i64 s.2.1), .s (.i .i64 s.2.2.1), .s (.b s.2.2.2)]
noncomputable def StepC : Con := conP 3 (fun a : (List (List Int) × List Bool) × Int => Wf a.1.1 a.1.2 ∧ 0 ≤ a.2 ∧ a.2 < a.1.1.length) (fun a => [restV false a.1.1 a.1.2, .one (.s (.i .i64 a.2))]) (fun a => stpV (stepF a.1.1 a.2))
theorem StepC_at {N : List (List Int)} {G : List Bool} {v : Int} (h : Wf N G ∧ 0 ≤ v ∧ v < N.length) : StepC.F [restV false N G, .one (.s (.i .i64 v))] = some (stpV (stepF N v), []) :=
  conP_at (a := ((N, G), v)) (fun x y _ _ h => by
    obtain ⟨⟨N, G⟩, v⟩ := x
    obtain ⟨⟨N', G'⟩, v'⟩ := y
    simp at h
    obtain ⟨h1, h2⟩ := h
    obtain ⟨rfl, rfl⟩ := restV_inj h1
    subst h2
    rfl) h
theorem Step_ok : SoundC Try.prog T 74 StepC := by
  refine sound_con (X := { Γ := [(97, SearchC)], T := T, nt := 46 }) cr_none hmix hT (sound_cons Search_ok sound_nil) Try.func74 (by rfl) (by rfl) (by rfl) (by rfl) 3 ?_
  rintro ⟨⟨N, G⟩, v⟩ ⟨hW, h0, h1⟩
  dsimp only at hW h0 h1 ⊢
  refine ⟨⟨Nat.le_of_ble_eq_true rfl, Nat.le_of_ble_eq_true rfl⟩, ?_⟩
  obtain ⟨hm, hg⟩ := rowAt_mem h0 h1
  have hrv := hW.rows v
  have hst : stepF N v = (v, (rowAt N v).getD 0 (-1), (rowAt N v).getD 1 (-1), decide (1 < (rowAt N v).length) && !(rowAt N ((rowAt N v).getD 0 (-1))).elem ((rowAt N v).getD 1 (-1))) := rfl
  refine Idx.by v.toNat (by omega) (by rw [rowsI_length]; omega) ?_
  refine Pick.T (by rw [rowsI_length]; simp; omega) ?_
  refine Look.by _ (rowsI_get hg) ?_
  generalize hl : rowAt N v = l at *
  refine Pick.by (fun h2 => ?_) (fun h2 => ?_)
  · have h2 : 0 < l.length := by rw [ints_length] at h2; simpa using h2
    obtain ⟨a, ha⟩ : ∃ a, l[0]? = some a := ⟨_, List.getElem?_eq_getElem h2⟩
    have ha' : l.getD 0 (-1) = a := by rw [List.getD_eq_getElem?_getD, ha]; rfl
    have har := hrv.2 a (List.mem_of_getElem? ha)
    refine Look.by _ (rowsI_get hg) ?_
    refine Idx.by 0 rfl (by rw [ints_length]; exact h2) ?_
    refine Look.by _ (rowsI_get hg) ?_
    refine Look.by _ (ints_get ha) ?_
    refine Look.by _ (rowsI_get hg) ?_
    refine Pick.by (fun h3 => ?_) (fun h3 => ?_)
    · have h3 : 1 < l.length := by rw [ints_length] at h3; have h3 : decide ((l.length : Int) > 1) = true := h3; have := of_decide_eq_true h3; omega
      obtain ⟨b, hb⟩ : ∃ b, l[1]? = some b := ⟨_, List.getElem?_eq_getElem h3⟩
      have hb' : l.getD 1 (-1) = b := by rw [List.getD_eq_getElem?_getD, hb]; rfl
      obtain ⟨_, hga⟩ := rowAt_mem har.1 har.2
      have hra := hW.rows a
      have hla := hW.row_len a
      have hmo := hW.most
      refine Look.by _ (rowsI_get hg) ?_
      refine Idx.by 1 rfl (by rw [ints_length]; exact h3) ?_
      refine Look.by _ (rowsI_get hg) ?_
      refine Look.by _ (ints_get hb) ?_
      refine Idx.by a.toNat (by omega) (by rw [rowsI_length]; omega) ?_
      refine Pick.T (by rw [rowsI_length]; simp; omega) ?_
      refine Look.by _ (rowsI_get hga) ?_
      refine Call.by _ _ (SearchC_at (l := rowAt N a) (x := b) ⟨hra.1.imp fun h => by omega, by omega⟩) ?_
      refine Seg.by (by kernel_rfl) ?_
      rw [hst, ha', hb', decide_eq_true h3, Bool.true_and]
      refine ⟨rfl, ?_⟩
      (repeat' first | exact rfl | exact trivial | refine And.intro ?_ ?_)
    · have h3 : ¬ 1 < l.length := by rw [ints_length] at h3; have h3 : decide ((l.length : Int) > 1) = false := h3; have := of_decide_eq_false h3; omega
      have hb' : l.getD 1 (-1) = -1 := by rw [List.getD_eq_getElem?_getD, List.getElem?_eq_none (by omega)]; rfl
      rw [hst, ha', hb', decide_eq_false h3, Bool.false_and]
      refine ⟨rfl, ?_⟩
      (repeat' first | exact rfl | exact trivial | refine And.intro ?_ ?_)
  · have h2 : l.length = 0 := by rw [ints_length] at h2; have h2 : decide ((l.length : Int) > 0) = false := h2; have := of_decide_eq_false h2; omega
    have hnil := List.eq_nil_of_length_eq_zero h2
    rw [hst, hnil]
    refine Look.by _ (rowsI_get hg) ?_
    refine Pick.F (by rw [hnil]; simp [ints]) ?_
    refine ⟨rfl, ?_⟩
    (repeat' first | exact rfl | exact trivial | refine And.intro ?_ ?_)
end Go.Sh

set_option linter.unusedVariables false
set_option linter.unusedSimpArgs false
namespace Go.Sh
open Go.Proofs
/-! ### carcanetref05.Unlike -/
/-! ### carcanetref05.Whole -/
theorem nodup_len {l : List Int} : ∀ {m : List Int}, l.Nodup → (∀ x ∈ l, x ∈ m) → l.length ≤ m.length := by
  induction l with
  | nil => intro m _ _; simp
  | cons x l ih =>
    intro m h s
    rw [List.nodup_cons] at h
    have hx := s x (by simp)
    have := ih (m := m.erase x) h.2 fun y hy => (List.mem_erase_of_ne (fun (e : y = x) => h.1 (by rw [← e]; exact hy))).2 (s y (by simp [hy]))
    rw [List.length_erase_of_mem hx] at this
    have := List.length_pos_of_mem hx
    simp; omega
theorem nodup_all {l m : List Int} (h : l.Nodup) (s : ∀ x ∈ l, x ∈ m) (hl : m.length ≤ l.length) : ∀ x ∈ m, x ∈ l := by
  intro x hx
  by_cases hxl : x ∈ l
  · exact hxl
  · have := nodup_len (l := x :: l) (m := m) (List.nodup_cons.2 ⟨hxl, h⟩) fun y hy => by
      rcases List.mem_cons.1 hy with rfl | hy
      · exact hx
      · exact s y hy
    simp at this
    omega
structure GI (E : List Ed) (l got : List Int) : Prop where
  nd : got.Nodup
  sub : ∀ v ∈ got, v ∈ l
  rch : ∀ v ∈ got, Rch E l (l.headD 0) v
  head : l.headD 0 ∈ got
theorem GI.length {E : List Ed} {l got : List Int} (h : GI E l got) : got.length ≤ l.length := nodup_len h.nd h.sub
theorem GI.put {E : List Ed} {l got : List Int} (h : GI E l got) {u v : Int} (hu : u ∈ got) (ha : adjE E u v) (hv : v ∈ l) (hn : v ∉ got) : GI E l (got ++ [v]) := by
  refine ⟨?_, fun x hx => ?_, fun x hx => ?_, List.mem_append_left _ h.head⟩
  · rw [List.nodup_append]
    refine ⟨h.nd, by simp, fun a ha' b hb e => ?_⟩
    simp at hb
    subst hb; subst e
    exact hn ha'
  · rcases List.mem_append.1 hx with hx | hx
    · exact h.sub x hx
    · simp at hx; subst hx; exact hv
  · rcases List.mem_append.1 hx with hx | hx
    · exact h.rch x hx
    · simp at hx; subst hx; exact .step (h.rch u hu) ha hv
theorem GI.done {E : List Ed} {l got : List Int} (h : GI E l got) (hnd : l.Nodup) (hc : ∀ u ∈ got, ∀ v, adjE E u v → v ∈ l → v ∈ got) : got.length = l.length ↔ Conn E l := by
  constructor
  · intro hl v hv
    exact h.rch v (nodup_all h.nd h.sub (by omega) v hv)
  · intro hC
    have key : ∀ v, Rch E l (l.headD 0) v → v ∈ got := by
      intro v hr
      induction hr with
      | base => exact h.head
      | step _ ha hv ih => exact hc _ ih _ ha hv
    have := nodup_len hnd fun v hv => key v (hC v hv)
    have := h.length
    omega
end Go.Sh

set_option linter.unusedVariables false
set_option linter.unusedSimpArgs false
namespace Go.Sh
open Go.Proofs
/-! ### a pile -/
def Heap (l : List Int) : Prop := ∀ i x y, 0 < i → l[(i - 1) / 2]? = some x → l[i]? = some y → x ≤ y
/-- .. but for one place, going up -/
structure HUp (l : List Int) (i : Nat) : Prop where
  ok : ∀ j x y, 0 < j → j ≠ i → l[(j - 1) / 2]? = some x → l[j]? = some y → x ≤ y
  by_ : ∀ j x y, 0 < j → 0 < i → (j - 1) / 2 = i → l[(i - 1) / 2]? = some x → l[j]? = some y → x ≤ y
/-- .. going down -/
structure HDn (l : List Int) (i : Nat) : Prop where
  ok : ∀ j x y, 0 < j → (j - 1) / 2 ≠ i → l[(j - 1) / 2]? = some x → l[j]? = some y → x ≤ y
  by_ : ∀ j x y, 0 < j → 0 < i → (j - 1) / 2 = i → l[(i - 1) / 2]? = some x → l[j]? = some y → x ≤ y
theorem heap_head {l : List Int} (h : Heap l) {a : Int} (ha : l[0]? = some a) : ∀ (i : Nat) (y : Int), l[i]? = some y → a ≤ y := by
  intro i
  induction i using Nat.strongRecOn with
  | ind i ih =>
    intro y hy
    by_cases hi : i = 0
    · subst hi; rw [ha] at hy; injection hy with hy; omega
    · have hlt := (List.getElem?_eq_some_iff.1 hy).1
      have hp : (i - 1) / 2 < l.length := by omega
      have := ih ((i - 1) / 2) (by omega) _ (List.getElem?_eq_getElem hp)
      have := h i _ _ (by omega) (List.getElem?_eq_getElem hp) hy
      omega
theorem swap_get {l : List Int} {i j : Nat} {x y : Int} (hi : l[i]? = some x) (hj : l[j]? = some y) (hne : i ≠ j) (k : Nat) : ((l.set i y).set j x)[k]? = if k = j then some x else if k = i then some y else l[k]? := by
  have h1 := (List.getElem?_eq_some_iff.1 hi).1
  have h2 := (List.getElem?_eq_some_iff.1 hj).1
  rw [List.getElem?_set]
  by_cases e : j = k
  · subst e
    rw [if_pos rfl, if_pos (by rw [List.length_set]; exact h2), if_pos rfl]
  · rw [if_neg e, if_neg (fun h => e h.symm), List.getElem?_set]
    by_cases e2 : i = k
    · subst e2
      rw [if_pos rfl, if_pos h1, if_pos rfl]
    · rw [if_neg e2, if_neg (fun h => e2 h.symm)]
theorem set_perm {l : List Int} {i : Nat} {x y : Int} (hi : l[i]? = some x) : (y :: l).Perm (x :: l.set i y) := by
  induction l generalizing i with
  | nil => simp at hi
  | cons a l ih =>
    cases i with
    | zero => simp at hi; subst hi; simp only [List.set_cons_zero]; exact List.Perm.swap _ _ _
    | succ i =>
      rw [List.set_cons_succ]
      exact (List.Perm.swap a y l).trans (((ih (by simpa using hi)).cons a).trans (List.Perm.swap x a _))
theorem swap_perm {l : List Int} {i j : Nat} {x y : Int} (hi : l[i]? = some x) (hj : l[j]? = some y) (hne : i ≠ j) : ((l.set i y).set j x).Perm l := by
  have h1 := set_perm (y := y) hi
  have h2 : (l.set i y)[j]? = some y := by rw [List.getElem?_set_ne hne]; exact hj
  have h3 := set_perm (y := x) h2
  exact ((h1.trans h3).cons_inv).symm
theorem up_start {l : List Int} (h : Heap l) (x : Int) : HUp (l ++ [x]) l.length := by
  refine ⟨fun j u v hj hne hu hv => ?_, fun j u v hj hi hp hu hv => ?_⟩
  · have hlt := (List.getElem?_eq_some_iff.1 hv).1
    simp at hlt
    rw [List.getElem?_append_left (by omega)] at hu hv
    exact h j u v hj hu hv
  · have hlt := (List.getElem?_eq_some_iff.1 hv).1
    simp at hlt
    omega
theorem up_done {l : List Int} {i : Nat} (h : HUp l i) (hs : i = 0 ∨ ∀ x y, l[(i - 1) / 2]? = some x → l[i]? = some y → x ≤ y) : Heap l := by
  intro j x y hj hx hy
  by_cases e : j = i
  · subst e
    rcases hs with hs | hs
    · omega
    · exact hs x y hx hy
  · exact h.ok j x y hj e hx hy
theorem up_step {l : List Int} {i : Nat} {x y : Int} (h : HUp l i) (hi : 0 < i) (hx : l[(i - 1) / 2]? = some x) (hy : l[i]? = some y) (hlt : y < x) : HUp ((l.set i x).set ((i - 1) / 2) y) ((i - 1) / 2) := by
  have hne : i ≠ (i - 1) / 2 := by omega
  have get := swap_get hy hx hne
  refine ⟨fun j u v hj hjp hu hv => ?_, fun j u v hj hip hp hu hv => ?_⟩
  · rw [get] at hu hv
    rw [if_neg hjp] at hv
    by_cases e : j = i
    · subst e
      rw [if_pos rfl] at hu hv
      injection hu with hu; injection hv with hv; omega
    · rw [if_neg e] at hv
      by_cases e2 : (j - 1) / 2 = (i - 1) / 2
      · rw [if_pos e2] at hu
        injection hu with hu
        have := h.ok j x v hj e (by rw [e2]; exact hx) hv
        omega
      · rw [if_neg e2] at hu
        by_cases e3 : (j - 1) / 2 = i
        · rw [if_pos e3] at hu
          injection hu with hu
          have := h.by_ j x v hj hi e3 hx hv
          omega
        · rw [if_neg e3] at hu
          exact h.ok j u v hj e hu hv
  · rw [get] at hu hv
    rw [if_neg (by omega), if_neg (by omega)] at hu
    rw [if_neg (show ¬ j = (i - 1) / 2 by omega)] at hv
    have hpp := h.ok ((i - 1) / 2) u x hip (by omega) hu hx
    by_cases e : j = i
    · rw [if_pos e] at hv
      injection hv with hv; omega
    · rw [if_neg e] at hv
      have := h.ok j x v hj e (by rw [hp]; exact hx) hv
      omega
theorem dn_done {l : List Int} {i : Nat} (h : HDn l i) (hs : ∀ j x y, 0 < j → (j - 1) / 2 = i → l[i]? = some x → l[j]? = some y → x ≤ y) : Heap l := by
  intro j x y hj hx hy
  by_cases e : (j - 1) / 2 = i
  · exact hs j x y hj e (e ▸ hx) hy
  · exact h.ok j x y hj e hx hy
/-- the lesser child goes up -/
theorem dn_step {l : List Int} {i k : Nat} {x y : Int} (h : HDn l i) (hk : 0 < k) (hp : (k - 1) / 2 = i) (hx : l[i]? = some x) (hy : l[k]? = some y) (hlt : y < x) (hmin : ∀ j z, 0 < j → (j - 1) / 2 = i → l[j]? = some z → y ≤ z) : HDn ((l.set i y).set k x) k := by
  have hne : i ≠ k := by omega
  have get := swap_get hx hy hne
  refine ⟨fun j u v hj hjp hu hv => ?_, fun j u v hj hip hjk hu hv => ?_⟩
  · rw [get] at hu hv
    rw [if_neg hjp] at hu
    by_cases e : j = k
    · subst e
      rw [if_pos rfl] at hv
      rw [if_pos hp] at hu
      injection hu with hu; injection hv with hv; omega
    · rw [if_neg e] at hv
      by_cases e2 : (j - 1) / 2 = i
      · rw [if_pos e2] at hu
        injection hu with hu
        by_cases e3 : j = i
        · omega
        · rw [if_neg e3] at hv
          have := hmin j v hj e2 hv
          omega
      · rw [if_neg e2] at hu
        by_cases e3 : j = i
        · rw [if_pos e3] at hv
          injection hv with hv
          subst e3
          have := h.by_ k u y hk hj hp hu hy
          omega
        · rw [if_neg e3] at hv
          exact h.ok j u v hj e2 hu hv
  · rw [get] at hu hv
    rw [hp, if_neg hne, if_pos rfl] at hu
    injection hu with hu
    rw [if_neg (show ¬ j = k by omega), if_neg (show ¬ j = i by omega)] at hv
    have := h.ok j y v hj (by omega) (by rw [hjk]; exact hy) hv
    omega
theorem dn_start {l : List Int} {x : Int} (h : Heap l) (m : Nat) : HDn ((l.set 0 x).take m) 0 := by
  refine ⟨fun j u v hj hjp hu hv => ?_, fun j u v _ hi => by omega⟩
  rw [List.getElem?_take] at hu hv
  by_cases h1 : (j - 1) / 2 < m
  case neg => rw [if_neg h1] at hu; simp at hu
  by_cases h2 : j < m
  case neg => rw [if_neg h2] at hv; simp at hv
  rw [if_pos h1] at hu
  rw [if_pos h2] at hv
  rw [List.getElem?_set_ne (by omega)] at hu hv
  exact h j u v hj hu hv
theorem take_perm {l : List Int} {a x : Int} {k : Nat} (h0 : l[0]? = some a) (hx : l[k]? = some x) (hk : l.length = k + 1) : (a :: (l.set 0 x).take k).Perm l := by
  have h1 := set_perm (y := x) h0
  have h2 : l.set 0 x = (l.set 0 x).take k ++ [x] := by
    have hk2 : k < (l.set 0 x).length := by rw [List.length_set]; omega
    have h3 := List.take_append_drop k (l.set 0 x)
    rw [List.drop_eq_getElem_cons hk2, List.drop_eq_nil_of_le (by rw [List.length_set]; omega)] at h3
    have h4 : (l.set 0 x)[k] = x := by
      have : (l.set 0 x)[k]? = some x := by
        rw [List.getElem?_set]
        split
        · rename_i e; subst e; rw [if_pos (by omega)]
        · exact hx
      rw [List.getElem?_eq_getElem hk2] at this
      injection this
    rw [h4] at h3
    exact h3.symm
  rw [h2] at h1
  have h3 : (x :: l).Perm (x :: (a :: (l.set 0 x).take k)) := by
    refine h1.trans ?_
    rw [← List.cons_append]
    exact List.perm_append_comm
  exact h3.cons_inv.symm
/-- what holds while the place goes down -/
structure Sift (l : List Int) (a : Int) (k : Nat) (c : List Int) (i : Nat) : Prop where
  len : k ≤ c.length
  perm : (a :: c.take k).Perm l
  down : HDn (c.take k) i
theorem sift_done {l c : List Int} {a : Int} {k i : Nat} (h : Sift l a k c i) (hs : ∀ j x y, 0 < j → (j - 1) / 2 = i → (c.take k)[i]? = some x → (c.take k)[j]? = some y → x ≤ y) : Heap (c.take k) := dn_done h.down hs
theorem tk_get {c : List Int} {k j : Nat} (h : j < k) : (c.take k)[j]? = c[j]? := by rw [List.getElem?_take, if_pos h]
theorem sift_step {l c : List Int} {a : Int} {k i j : Nat} {x y : Int} (h : Sift l a k c i) (hj : 0 < j) (hp : (j - 1) / 2 = i) (hjk : j < k) (hx : c[i]? = some x) (hy : c[j]? = some y) (hlt : y < x) (hmin : ∀ t z, 0 < t → (t - 1) / 2 = i → t < k → c[t]? = some z → y ≤ z) : Sift l a k ((c.set i y).set j x) j := by
  have hik : i < k := by omega
  have e : ((c.set i y).set j x).take k = ((c.take k).set i y).set j x := by rw [List.take_set, List.take_set]
  refine ⟨by rw [List.length_set, List.length_set]; exact h.len, ?_, ?_⟩
  · rw [e]
    exact ((swap_perm (by rw [tk_get hik]; exact hx) (by rw [tk_get hjk]; exact hy) (by omega)).cons a).trans h.perm
  · rw [e]
    refine dn_step h.down hj hp (by rw [tk_get hik]; exact hx) (by rw [tk_get hjk]; exact hy) hlt fun t z ht htp hz => ?_
    have htk : t < k := by
      have := (List.getElem?_eq_some_iff.1 hz).1
      rw [List.length_take] at this
      omega
    exact hmin t z ht htp htk (by rw [← tk_get htk]; exact hz)
def stps (l : List Stp) : Flat := l.map fun s => [.i .i64 s.1, .i .i64 s.2.1, .i .i64 s.2.2.1, .b s.2.2.2]
def logV (own : Bool) (l : List Stp) (f : List Int) (E : List Ed) : V := .agg [.flat own 4 (stps l), .flat own 1 (ints f), .flat own 2 (edges E)]
def firstMay (N : List (List Int)) (G : List Bool) : Option Nat := (List.range N.length).find? fun v => mayB N G v
def runS : Nat → List (List Int) → List Bool → List Stp × List (List Int) × List Bool
  | 0, N, G => ([], N, G)
  | f + 1, N, G => match firstMay N G with
    | none => ([], N, G)
    | some v => (stepF N v :: (runS f (doN N (stepF N v)) (doG G (stepF N v))).1, (runS f (doN N (stepF N v)) (doG G (stepF N v))).2)
def runR (n : Int) (E : List Ed) : List Stp × List (List Int) × List Bool := runS n.toNat (nbrs n.toNat E) (List.replicate n.toNat false)
theorem live_step {N : List (List Int)} {G : List Bool} (hW : Wf N G) {v : Int} (hm : MayP N G v) : (doG G (stepF N v)).countP (!·) + 1 = G.countP (!·) := by
  have hlt : v.toNat < G.length := by rw [hW.len]; have := hm.hi; have := hm.lo; omega
  have h0 : G[v.toNat] = false := by
    have := goneAt_get hW.len hm.lo hm.hi
    rw [hm.there, List.getElem?_eq_getElem hlt] at this
    injection this
  have e : doG G (stepF N v) = G.set v.toNat true := rfl
  rw [e]
  have key : ∀ (G : List Bool) (i : Nat) (h : i < G.length), G[i] = false → (G.set i true).countP (!·) + 1 = G.countP (!·) := by
    intro G
    induction G with
    | nil => intro i h; simp at h
    | cons g G ih =>
      intro i h hg
      cases i with
      | zero =>
        have hg : g = false := hg
        subst hg
        simp [List.countP_cons]
      | succ i =>
        have := ih i (by simpa using h) (by simpa using hg)
        rw [List.set_cons_succ, List.countP_cons, List.countP_cons]
        omega
  exact key G _ hlt h0
theorem firstMay_some {N : List (List Int)} {G : List Bool} {v : Int} (h : mayB N G v = true) (hmin : ∀ u, mayB N G u = true → v ≤ u) : firstMay N G = some v.toNat := by
  have hm := mayB_iff.1 h
  have h0 := hm.lo
  have h1 := hm.hi
  unfold firstMay
  rw [List.find?_eq_some_iff_append]
  refine ⟨by rw [Int.toNat_of_nonneg h0]; exact h, List.range v.toNat, (List.range' (v.toNat + 1) (N.length - (v.toNat + 1))), ?_, fun u hu => ?_⟩
  · rw [List.range_eq_range', List.range_eq_range']
    have : N.length = v.toNat + (1 + (N.length - (v.toNat + 1))) := by omega
    conv => lhs; rw [this]
    rw [← List.range'_append_1, ← List.range'_append_1]
    simp
  · have hu := List.mem_range.1 hu
    cases hc : mayB N G u with
    | false => rfl
    | true => have := hmin u hc; omega
theorem firstMay_none {N : List (List Int)} {G : List Bool} (h : ∀ u, mayB N G u ≠ true) : firstMay N G = none := by
  unfold firstMay
  rw [List.find?_eq_none]
  intro u _
  exact h u
theorem heap_least {l c : List Int} {a : Int} {k : Nat} {N : List (List Int)} {G : List Bool} (hc : Heap (c.take k)) (hl : Heap l) (ha : l[0]? = some a) (hp : (a :: c.take k).Perm l) (hm : ∀ v, mayB N G v = true → v ∈ l) {v : Int} (hv : mayB N G v = true) : a ≤ v := by
  obtain ⟨i, hi⟩ := List.mem_iff_getElem?.1 (hm v hv)
  exact heap_head hl ha i v hi
theorem runS_go {f v : Nat} {N : List (List Int)} {G : List Bool} (h : firstMay N G = some v) : runS (f + 1) N G = (stepF N v :: (runS f (doN N (stepF N v)) (doG G (stepF N v))).1, (runS f (doN N (stepF N v)) (doG G (stepF N v))).2) := by
  simp only [runS, h]
theorem runS_end {f : Nat} {N : List (List Int)} {G : List Bool} (h : firstMay N G = none) : runS f N G = ([], N, G) := by
  cases f with
  | zero => rfl
  | succ f => simp only [runS, h]
theorem run_step {R : List Stp × List (List Int) × List Bool} {st : List Stp} {n : Nat} {N : List (List Int)} {G : List Bool} {v : Int} (h : R = (st ++ (runS (n - st.length) N G).1, (runS (n - st.length) N G).2)) (hW : Wf N G) (hv : mayB N G v = true) (hst : st.length + 1 ≤ n) (hmin : ∀ u, mayB N G u = true → v ≤ u) :
    R = ((st ++ [stepF N v]) ++ (runS (n - (st ++ [stepF N v]).length) (doN N (stepF N v)) (doG G (stepF N v))).1, (runS (n - (st ++ [stepF N v]).length) (doN N (stepF N v)) (doG G (stepF N v))).2) := by
  have e : n - st.length = (n - (st ++ [stepF N v]).length) + 1 := by simp; omega
  have e2 : ((v.toNat : Nat) : Int) = v := Int.toNat_of_nonneg (mayB_iff.1 hv).lo
  rw [h, e, runS_go (firstMay_some hv hmin), e2]
  simp only [List.append_assoc, List.cons_append, List.nil_append]
theorem may_step {N : List (List Int)} {G : List Bool} (hW : Wf N G) {v : Int} (hm : MayP N G v) (hs : (rowAt N v = [] ∧ (stepF N v).2.1 = -1 ∧ (stepF N v).2.2.1 = -1 ∧ (stepF N v).2.2.2 = false) ∨ (∃ a, rowAt N v = [a] ∧ (stepF N v).2.1 = a ∧ (stepF N v).2.2.1 = -1 ∧ (stepF N v).2.2.2 = false) ∨
    (∃ a b, rowAt N v = [a, b] ∧ a < b ∧ (stepF N v).2.1 = a ∧ (stepF N v).2.2.1 = b ∧ (stepF N v).2.2.2 = !(rowAt N a).elem b)) {u : Int} (hu : mayB (doN N (stepF N v)) (doG G (stepF N v)) u = true) {Q : Prop} (hk : mayB N G u = true → u ≠ v → Q) : Q ∨ u = (stepF N v).2.1 ∨ u = (stepF N v).2.2.1 := by
  have hp := mayB_iff.1 hu
  have h0 := hp.lo
  have h1 := hp.hi
  rw [doN_length] at h1
  have h2 := hp.there
  rw [do_gone hW hm h0] at h2
  have hne : u ≠ v := fun e => by rw [if_pos e] at h2; cases h2
  rw [if_neg hne] at h2
  by_cases hA : u = (stepF N v).2.1
  · exact .inr (.inl hA)
  by_cases hB : u = (stepF N v).2.2.1
  · exact .inr (.inr hB)
  refine .inl (hk (mayB_iff.2 ⟨h0, h1, h2, ?_⟩) hne)
  have hnot : u ∉ rowAt N v := fun hin => by
    rcases hs with ⟨e, _⟩ | ⟨a, e, ea, _⟩ | ⟨a, b, e, _, ea, eb, _⟩
    · rw [e] at hin; simp at hin
    · rw [e] at hin; simp at hin; exact hA (by rw [ea, hin])
    · rw [e] at hin; simp at hin
      rcases hin with h | h
      · exact hA (by rw [ea, h])
      · exact hB (by rw [eb, h])
  have hv : v ∉ rowAt N u := fun hin => hnot (hW.sym u v h0 hm.lo hin)
  obtain ⟨s1, s2⟩ := do_row hW hm h0
  have hsub : ∀ y ∈ rowAt N u, y ∈ rowAt (doN N (stepF N v)) u := fun y hy => (s2 y).2 ⟨hne, .inl ⟨hy, fun e => hv (e ▸ hy)⟩⟩
  have hnd : (rowAt N u).Nodup := (hW.rows u).1.imp fun hab => by omega
  exact Nat.le_trans (nodup_len hnd hsub) hp.two
theorem heap_nil : Heap [] := fun i x y _ h => by simp at h
theorem cut_ints {sub : Option (Nat × Nat)} {m : List Int} : cut sub (ints m) = ints (cut sub m) := by
  cases sub with
  | none => rfl
  | some p => simp [cut, ints, List.map_take, List.map_drop]
theorem stps_snoc (l : List Stp) (s : Stp) : stps (l ++ [s]) = stps l ++ [[.i .i64 s.1, .i .i64 s.2.1, .i .i64 s.2.2.1, .b s.2.2.2]] := by simp [stps]
theorem stps_length (l : List Stp) : (stps l).length = l.length := by simp [stps]
def leftK (G : List Bool) (j : Nat) : List Int := ((List.range j).filter fun v => !G.getD v false).map fun (v : Nat) => (v : Int)
def edgesK (N : List (List Int)) (G : List Bool) (j : Nat) : List Ed := (leftK G j).flatMap (outE N)
theorem leftK_succ (G : List Bool) (j : Nat) : leftK G (j + 1) = leftK G j ++ (if G.getD j false then [] else [(j : Int)]) := by
  unfold leftK
  rw [List.range_succ, List.filter_append, List.map_append]
  congr 1
  cases h : G.getD j false <;> simp [List.filter_cons, h] <;> simp_all
theorem edgesK_succ (N : List (List Int)) (G : List Bool) (j : Nat) : edgesK N G (j + 1) = edgesK N G j ++ (if G.getD j false then [] else outE N j) := by
  unfold edgesK
  rw [leftK_succ, List.flatMap_append]
  congr 1
  cases G.getD j false <;> simp
theorem leftK_len (G : List Bool) (j : Nat) : (leftK G j).length ≤ j := by
  unfold leftK
  rw [List.length_map]
  exact Nat.le_trans (List.length_filter_le _ _) (by simp)
theorem outE_len (N : List (List Int)) (v : Int) : (outE N v).length ≤ (rowAt N v).length := by
  unfold outE
  rw [List.length_map]
  exact List.length_filter_le _ _
theorem edgesK_len {N : List (List Int)} {G : List Bool} (hW : Wf N G) (j : Nat) : (edgesK N G j).length ≤ j * 1000 := by
  induction j with
  | zero => simp [edgesK, leftK]
  | succ j ih =>
    rw [edgesK_succ, List.length_append]
    have h1 := outE_len N j
    have h2 := hW.row_len j
    have h3 := hW.most
    have : (if G.getD j false then [] else outE N j).length ≤ 1000 := by
      split
      · simp
      · omega
    omega
theorem goneAt_nat {G : List Bool} (j : Nat) : goneAt G (j : Int) = G.getD j false := by unfold goneAt; rw [Int.toNat_natCast]
end Go.Sh

set_option linter.unusedVariables false
set_option linter.unusedSimpArgs false
namespace Go.Sh
open Go.Proofs
/-! ### reduce.Run -/
open Classical in
noncomputable def runO (n : Int) (E : List Ed) : List Stp × List Int × List Ed := if RightP n E then ((runR n E).1, leftF (runR n E).2.2, edgesF (runR n E).2.1 (runR n E).2.2) else ([], [], [])
noncomputable def RunC : Con := conP 2 (fun _ : Int × List Ed => True) (fun a => [grV a.1 a.2]) (fun a => logV true (runO a.1 a.2).1 (runO a.1 a.2).2.1 (runO a.1 a.2).2.2)
theorem RunC_at (n : Int) (E : List Ed) : RunC.F [grV n E] = some (logV true (runO n E).1 (runO n E).2.1 (runO n E).2.2, []) :=
  conP_at (a := (n, E)) (fun x y _ _ h => by
    obtain ⟨n, E⟩ := x
    obtain ⟨n', E'⟩ := y
    simp at h
    obtain ⟨rfl, rfl⟩ := grV_inj h
    rfl) trivial
noncomputable def XRun : Cx := { Γ := [(39, RightC), (70, BeginC), (71, MayC), (74, StepC), (98, turnC (fun l _ => l.Pairwise (· ≤ ·) ∧ l.length ≤ 1000000) (fun l x => l.erase x)), (99, turnC (fun l _ => l.Pairwise (· ≤ ·) ∧ l.length ≤ 1000000) insAt)], T := T, nt := 66, inl := [(72, inlF Try.f72), (73, inlF Try.f73), (75, inlF Try.f75), (76, inlF Try.f76)], join := [82000, 56000], jc := [82050, 70031, 66059, 66024] }
theorem XRun_sound : Sound Try.prog T XRun.Γ := sound_cons RightG_ok (sound_cons Begin_ok (sound_cons May_ok (sound_cons Step_ok (sound_cons (turn_sound Without_call) (sound_cons (turn_sound With_call) sound_nil)))))
theorem XRun_ok : CrOk Try.prog (callAt 1 XRun) := callAt_ok hmix hT XRun_sound (inl_cons Try.func72 (by rfl) (by rfl) (by rfl) (inl_cons Try.func73 (by rfl) (by rfl) (by rfl) (inl_cons Try.func75 (by rfl) (by rfl) (by rfl) (inl_cons Try.func76 (by rfl) (by rfl) (by rfl) inl_nil)))) cr_none 1
theorem may_range {N : List (List Int)} {G : List Bool} {n x : Int} (h : N.length = n.toNat) (k : mayB N G x = true) : 0 ≤ x ∧ x < n := by
  have h1 := (mayB_iff.1 k).lo
  have h2 := (mayB_iff.1 k).hi
  omega
theorem skip_may {i : Nat} {x a b v : Int} {P : Prop} (hx : (i = 0 ∧ x = a) ∨ (i = 1 ∧ x = b)) (hne : v ≠ x) (k : P ∨ (i ≤ 0 ∧ v = a) ∨ (i ≤ 1 ∧ v = b)) : P ∨ (i + 1 ≤ 0 ∧ v = a) ∨ (i + 1 ≤ 1 ∧ v = b) := by
  rcases k with k | ⟨k1, k2⟩ | ⟨k1, k2⟩
  · exact .inl k
  · rcases hx with ⟨_, e⟩ | ⟨e0, _⟩
    · exact absurd (by rw [k2, e]) hne
    · omega
  · rcases hx with ⟨e0, _⟩ | ⟨_, e⟩
    · exact .inr (.inr ⟨by omega, k2⟩)
    · exact absurd (by rw [k2, e]) hne
theorem put_may {i : Nat} {x a b v : Int} {P Q : Prop} (hx : (i = 0 ∧ x = a) ∨ (i = 1 ∧ x = b)) (h : P ∨ v = x → Q) (k : P ∨ (i ≤ 0 ∧ v = a) ∨ (i ≤ 1 ∧ v = b)) : Q ∨ (i + 1 ≤ 0 ∧ v = a) ∨ (i + 1 ≤ 1 ∧ v = b) := by
  rcases k with k | ⟨k1, k2⟩ | ⟨k1, k2⟩
  · exact .inl (h (.inl k))
  · rcases hx with ⟨_, e⟩ | ⟨e0, _⟩
    · exact .inl (h (.inr (by rw [k2, e])))
    · omega
  · rcases hx with ⟨e0, _⟩ | ⟨_, e⟩
    · exact .inr (.inr ⟨by omega, k2⟩)
    · exact .inl (h (.inr (by rw [k2, e])))
set_option maxHeartbeats 4000000 in
theorem Run_ok : SoundC Try.prog T 40 RunC := by
  refine sound_con (X := XRun) (cr := callAt 1 XRun) XRun_ok hmix hT XRun_sound Try.func40 (by rfl) (by rfl) (by rfl) (by rfl) 2 ?_
  rintro ⟨n, E⟩ -
  dsimp only
  refine ⟨⟨Nat.le_of_ble_eq_true rfl, Nat.le_of_ble_eq_true rfl⟩, ?_⟩
  refine Call.by _ _ (RightC_at n E) ?_
  refine Pick.by (fun h1 => ?_) (fun h1 => ?_)
  · have h1 : ¬ RightP n E := by have h1 : (!decide (RightP n E)) = true := h1; simpa using h1
    have hv : runO n E = ([], [], []) := if_neg h1
    rw [hv]
    refine ⟨rfl, ?_⟩
    (repeat' first | exact rfl | exact trivial | refine And.intro ?_ ?_)
  have hR : RightP n E := by have h1 : (!decide (RightP n E)) = false := h1; simpa using h1
  have hv : runO n E = ((runR n E).1, leftF (runR n E).2.2, edgesF (runR n E).2.1 (runR n E).2.2) := if_pos hR
  rw [hv]
  refine Call.by _ _ (BeginC_at hR) ?_
  have hn0 := hR.1
  have hn1 := hR.2.1
  have hW := begin_wf hR
  have hNl := nbrs_length n.toNat E
  have hGl : (List.replicate n.toNat false).length = (nbrs n.toNat E).length := by rw [hNl]; simp
  refine LoopP.intro (α := Nat × List Int) (fun a => a.1 ≤ n.toNat ∧ a.2.length ≤ a.1 ∧ Heap a.2 ∧ (∀ v ∈ a.2, 0 ≤ v ∧ v < n) ∧ ∀ v : Int, v < a.1 → mayB (nbrs n.toNat E) (List.replicate n.toNat false) v = true → v ∈ a.2) (fun a => n.toNat - a.1) (fun a => [(2, .ptr 0 0), (3, .ptr 1 0), (4, .ptr 4 0), (18, .s (.i .i64 n)), (19, .s (.i .i64 a.1))])
    (fun a => [(0, some (.blk [.nils, .nils, .nils])), (1, some (.blk [.sl 2 none none, .sl 3 none none])), (2, some (.nest true 1 (rowsI (nbrs n.toNat E)) [] [])), (3, some (.flat true 1 (bools (List.replicate n.toNat false)))), (4, some (.blk [.sl 5 none none])), (5, some (.flat true 1 (ints a.2)))]) 6 (0, []) ⟨by omega, by simp, heap_nil, by simp, fun v h1 h2 => by rw [mayB_iff] at h2; have := h2.lo; omega⟩ (by refine Weak.by [(0, some _), (1, some _), (2, some _), (3, some _), (4, some _), (5, none)] (by ((repeat' first | exact rfl | exact trivial | refine And.intro ?_ ?_) <;> (repeat' first | exact rfl | exact trivial | refine And.intro ?_ ?_))) (by ((repeat' first | exact rfl | exact trivial | refine And.intro ?_ ?_) <;> (repeat' first | exact rfl | exact trivial | refine And.intro ?_ ?_))) (by rfl)) ?_
  rintro ⟨i, l⟩ ⟨hi, hl, hH, hr, hm⟩
  dsimp only at hi hl hH hr hm ⊢
  refine Pick.by (fun hc => ?_) (fun hc => ?_)
  · have hlt : i < n.toNat := by simp at hc; omega
    refine Call.by _ _ (MayC_at (i : Int) hGl) ?_
    refine JoinP.intro (α := List Int) (fun l => l.length ≤ i + 1 ∧ Heap l ∧ (∀ v ∈ l, 0 ≤ v ∧ v < n) ∧ ∀ v : Int, v < (i + 1 : Nat) → mayB (nbrs n.toNat E) (List.replicate n.toNat false) v = true → v ∈ l) (fun l => [(2, .ptr 0 0), (3, .ptr 1 0), (4, .ptr 4 0), (18, .s (.i .i64 n)), (19, .s (.i .i64 i))])
      (fun l => [(0, some (.blk [.nils, .nils, .nils])), (1, some (.blk [.sl 2 none none, .sl 3 none none])), (2, some (.nest true 1 (rowsI (nbrs n.toNat E)) [] [])), (3, some (.flat true 1 (bools (List.replicate n.toNat false)))), (4, some (.blk [.sl 5 none none])), (5, some (.flat true 1 (ints l)))]) 6 ?_ ?_
    rotate_left
    · rintro l' ⟨a1, a2, a3, a4⟩
      refine Pick.T (inI64_of (by omega) (by omega)) ?_
      exact Next.by (i + 1, l') ⟨by dsimp only; omega, a1, a2, a3, a4⟩ (by dsimp only; omega) (by refine Weak.by [(0, some _), (1, some _), (2, some _), (3, some _), (4, some _), (5, some _)] (by ((repeat' first | exact rfl | exact trivial | refine And.intro ?_ ?_) <;> (repeat' first | exact rfl | exact trivial | refine And.intro ?_ ?_))) (by ((repeat' first | exact rfl | exact trivial | refine And.intro ?_ ?_) <;> (repeat' first | exact rfl | exact trivial | refine And.intro ?_ ?_))) (by rfl))
    refine Pick.by (fun h2 => ?_) (fun h2 => ?_)
    · refine Pick.T (by simp [cut, ints_length]; omega) ?_
      have hraw : ints l = ints l := rfl
      have hlen0 : (ints l ++ [[Sc.i .i64 ((i : Nat) : Int)]]) = ints (l ++ [((i : Nat) : Int)]) := by rw [hraw, ints_snoc]
      refine Pick.T (by show inI64 ((((ints l ++ [[Sc.i .i64 ((i : Nat) : Int)]]).length : Nat) : Int) - 1) = true; rw [hlen0, ints_length]; simp; exact inI64_of (by omega) (by omega)) ?_
      have hlen1 : ((l.length : Nat) : Int) = (((ints l ++ [[Sc.i .i64 ((i : Nat) : Int)]]).length : Nat) : Int) - 1 := by rw [hlen0, ints_length]; simp
      refine JoinP.intro (α := List Int) (fun a => Heap a ∧ a.length = l.length + 1 ∧ ∀ v, v ∈ a ↔ v ∈ l ∨ v = ((i : Nat) : Int)) (fun a => [(0, .ptr 4 0), (4, .sl 6 none none), (1000002, .ptr 0 0), (1000003, .ptr 1 0), (1000004, .ptr 4 0), (1000018, .s (.i .i64 n)), (1000019, .s (.i .i64 i))])
        (fun a => [(0, some (.blk [.nils, .nils, .nils])), (1, some (.blk [.sl 2 none none, .sl 3 none none])), (2, some (.nest true 1 (rowsI (nbrs n.toNat E)) [] [])), (3, some (.flat true 1 (bools (List.replicate n.toNat false)))), (4, some (.blk [.sl 5 none none])), (6, some (.flat true 1 (ints a)))]) 7 ?_ ?_
      rotate_left
      · rintro m ⟨hHm, hml2, hmem⟩
        exact ⟨m, ⟨by omega, hHm, fun v hv => ((hmem v).1 hv).elim (hr v) fun e => by rw [e]; omega, fun v hv hmv => (hmem v).2 (if hvi : v < i then .inl (hm v hvi hmv) else .inr (by omega))⟩, by refine Weak.by [(0, some _), (1, some _), (2, some _), (3, some _), (4, some _), (5, some _)] (by ((repeat' first | exact rfl | exact trivial | refine And.intro ?_ ?_) <;> (repeat' first | exact rfl | exact trivial | refine And.intro ?_ ?_))) (by ((repeat' first | exact rfl | exact trivial | refine And.intro ?_ ?_) <;> (repeat' first | exact rfl | exact trivial | refine And.intro ?_ ?_))) (by rfl)⟩
      refine LoopP.intro (α := Nat × List Int) (fun a => a.2.Perm (l ++ [((i : Nat) : Int)]) ∧ HUp a.2 a.1 ∧ a.1 < a.2.length) (fun a => a.1) (fun a => [(0, .ptr 4 0), (4, .sl 6 none none), (5, .s (.i .i64 a.1)), (1000002, .ptr 0 0), (1000003, .ptr 1 0), (1000004, .ptr 4 0), (1000018, .s (.i .i64 n)), (1000019, .s (.i .i64 i))])
        (fun a => [(0, some (.blk [.nils, .nils, .nils])), (1, some (.blk [.sl 2 none none, .sl 3 none none])), (2, some (.nest true 1 (rowsI (nbrs n.toNat E)) [] [])), (3, some (.flat true 1 (bools (List.replicate n.toNat false)))), (4, some (.blk [.sl 5 none none])), (6, some (.flat true 1 (ints a.2)))]) 7 (l.length, l ++ [((i : Nat) : Int)]) ⟨List.Perm.refl _, up_start hH _, by simp⟩ (by refine Weak.by [(0, some _), (1, some _), (2, some _), (3, some _), (4, some _), (5, some _), (6, some _)] (by ((repeat' first | exact rfl | exact trivial | refine And.intro ?_ ?_) <;> (repeat' first | exact rfl | exact trivial | refine And.intro ?_ ?_)); all_goals ((first | (exact hlen0.symm) | (exact sc_eq hlen1)))) (by ((repeat' first | exact rfl | exact trivial | refine And.intro ?_ ?_) <;> (repeat' first | exact rfl | exact trivial | refine And.intro ?_ ?_)); all_goals ((first | (exact hlen0.symm) | (exact sc_eq hlen1)))) (by rfl)) ?_
      rintro ⟨p, m⟩ ⟨hperm, hup, hpm⟩
      dsimp only at hperm hup hpm ⊢
      have hml : m.length = l.length + 1 := by rw [hperm.length_eq]; simp
      have hpq : 0 < p → ((p : Int) - 1).tdiv 2 = (((p - 1) / 2 : Nat) : Int) := fun h => by rw [show (p : Int) - 1 = ((p - 1 : Nat) : Int) by omega]; rfl
      have hput : Heap m → Heap m ∧ m.length = l.length + 1 ∧ ∀ v, v ∈ m ↔ v ∈ l ∨ v = ((i : Nat) : Int) := fun h => ⟨h, hml, fun v => by rw [hperm.mem_iff]; simp⟩
      refine Pick.by (fun hc1 => ?_) (fun hc1 => ?_)
      · have hp0 : 0 < p := by simp at hc1; omega
        have hq := hpq hp0
        have hql : (p - 1) / 2 < m.length := by omega
        obtain ⟨y, hy⟩ : ∃ y, m[p]? = some y := ⟨_, List.getElem?_eq_getElem hpm⟩
        obtain ⟨z, hz⟩ : ∃ z, m[(p - 1) / 2]? = some z := ⟨_, List.getElem?_eq_getElem hql⟩
        refine Idx.by p rfl (by rw [ints_length]; exact hpm) ?_
        refine Look.by _ (ints_get hy) ?_
        refine Pick.T (inI64_of (by omega) (by omega)) ?_
        refine Pick.T (inI64_of (by omega) (by omega)) ?_
        refine Idx.by ((p - 1) / 2) hq (by rw [ints_length]; exact hql) ?_
        refine Look.by _ (ints_get hz) ?_
        refine Seg.by (by kernel_rfl) ?_
        refine Pick.by (fun hc2 => ?_) (fun hc2 => ?_)
        · have hlt : y < z := by simpa using hc2
          have hsw : ints ((m.set p z).set ((p - 1) / 2) y) = ((ints m).set p [.i .i64 z]).set ((p - 1) / 2) [.i .i64 y] := by rw [ints_set, ints_set]
          refine Pick.T (inI64_of (by omega) (by omega)) ?_
          refine Pick.T (inI64_of (by omega) (by omega)) ?_
          refine Pick.T (inI64_of (by omega) (by omega)) ?_
          refine Pick.T (inI64_of (by omega) (by omega)) ?_
          refine Idx.by ((p - 1) / 2) hq (by rw [ints_length]; exact hql) ?_
          refine Look.by _ (ints_get hz) ?_
          refine Idx.by p rfl (by rw [ints_length]; exact hpm) ?_
          refine Look.by _ (ints_get hy) ?_
          refine Idx.by p rfl (by rw [ints_length]; exact hpm) ?_
          refine Look.by _ (ints_get hy) ?_
          refine Idx.by ((p - 1) / 2) hq (by rw [List.length_set, ints_length]; exact hql) ?_
          refine Look.by _ (by rw [List.getElem?_set_ne (by omega)]; exact ints_get hz) ?_
          refine Seg.by (by kernel_rfl) ?_
          refine Pick.T (inI64_of (by omega) (by omega)) ?_
          refine Pick.T (inI64_of (by omega) (by omega)) ?_
          refine Next.by ((p - 1) / 2, (m.set p z).set ((p - 1) / 2) y) ⟨(swap_perm hy hz (by omega)).trans hperm, up_step hup hp0 hz hy hlt, by rw [List.length_set, List.length_set]; exact hql⟩ (by dsimp only; omega) (by refine Weak.by [(0, some _), (1, some _), (2, some _), (3, some _), (4, some _), (5, some _), (6, some _)] (by ((repeat' first | exact rfl | exact trivial | refine And.intro ?_ ?_) <;> (repeat' first | exact rfl | exact trivial | refine And.intro ?_ ?_)); all_goals ((first | (exact hsw) | (exact sc_eq hq.symm)))) (by ((repeat' first | exact rfl | exact trivial | refine And.intro ?_ ?_) <;> (repeat' first | exact rfl | exact trivial | refine And.intro ?_ ?_)); all_goals ((first | (exact hsw) | (exact sc_eq hq.symm)))) (by rfl))
        · have hHm := hput (up_done hup (.inr fun x' y' hx' hy' => by
            rw [hz] at hx'; rw [hy] at hy'
            injection hx' with hx'; injection hy' with hy'
            have : ¬ y < z := by simpa using hc2
            omega))
          exact ⟨m, hHm, by refine Weak.by [(0, some _), (1, some _), (2, some _), (3, some _), (4, some _), (5, some _), (6, some _)] (by ((repeat' first | exact rfl | exact trivial | refine And.intro ?_ ?_) <;> (repeat' first | exact rfl | exact trivial | refine And.intro ?_ ?_))) (by ((repeat' first | exact rfl | exact trivial | refine And.intro ?_ ?_) <;> (repeat' first | exact rfl | exact trivial | refine And.intro ?_ ?_))) (by rfl)⟩
      · have hp0 : p = 0 := by simp at hc1; omega
        refine Seg.by (by kernel_rfl) ?_
        exact ⟨m, hput (up_done hup (.inl hp0)), by refine Weak.by [(0, some _), (1, some _), (2, some _), (3, some _), (4, some _), (5, some _), (6, some _)] (by ((repeat' first | exact rfl | exact trivial | refine And.intro ?_ ?_) <;> (repeat' first | exact rfl | exact trivial | refine And.intro ?_ ?_))) (by ((repeat' first | exact rfl | exact trivial | refine And.intro ?_ ?_) <;> (repeat' first | exact rfl | exact trivial | refine And.intro ?_ ?_))) (by rfl)⟩
    · have h2 : mayB (nbrs n.toNat E) (List.replicate n.toNat false) i = false := h2
      refine ⟨l, ⟨by omega, hH, hr, fun v hv hmv => ?_⟩, by refine Weak.by [(0, some _), (1, some _), (2, some _), (3, some _), (4, some _), (5, some _)] (by ((repeat' first | exact rfl | exact trivial | refine And.intro ?_ ?_) <;> (repeat' first | exact rfl | exact trivial | refine And.intro ?_ ?_))) (by ((repeat' first | exact rfl | exact trivial | refine And.intro ?_ ?_) <;> (repeat' first | exact rfl | exact trivial | refine And.intro ?_ ?_))) (by rfl)⟩
      by_cases hvi : v < i
      · exact hm v hvi hmv
      · have : v = i := by omega
        rw [this, h2] at hmv; cases hmv
  · have hin : i = n.toNat := by simp at hc; omega
    have hm : ∀ v : Int, mayB (nbrs n.toNat E) (List.replicate n.toNat false) v = true → v ∈ l := fun v hv => hm v (by have := (mayB_iff.1 hv).hi; rw [hNl] at this; omega) hv
    have hl0 : l.length ≤ n.toNat := by omega
    have hrun : runR n E = ([] ++ (runS n.toNat (nbrs n.toNat E) (List.replicate n.toNat false)).1, (runS n.toNat (nbrs n.toNat E) (List.replicate n.toNat false)).2) := rfl
    generalize hNN : nbrs n.toNat E = N at *
    generalize hGG : List.replicate n.toNat false = G at *
    refine LoopP.intro (α := List Stp × List (List Int) × List Bool × Option (Nat × Nat) × List Int) (fun a => Wf a.2.1 a.2.2.1 ∧ a.2.1.length = n.toNat ∧ runR n E = (a.1 ++ (runS (n.toNat - a.1.length) a.2.1 a.2.2.1).1, (runS (n.toNat - a.1.length) a.2.1 a.2.2.1).2) ∧ a.1.length + a.2.2.1.countP (!·) ≤ n.toNat ∧ (a.2.2.2.1 = none ∨ ∃ L, a.2.2.2.1 = some (0, L) ∧ L ≤ a.2.2.2.2.length) ∧
        a.2.2.2.2.length ≤ 4000 ∧ (cut a.2.2.2.1 a.2.2.2.2).length ≤ n.toNat + 2 * a.1.length ∧ Heap (cut a.2.2.2.1 a.2.2.2.2) ∧ (∀ v ∈ cut a.2.2.2.1 a.2.2.2.2, 0 ≤ v ∧ v < n) ∧ ∀ v : Int, mayB a.2.1 a.2.2.1 v = true → v ∈ cut a.2.2.2.1 a.2.2.2.2)
      (fun a => 3 * (n.toNat - a.1.length) + (cut a.2.2.2.1 a.2.2.2.2).length) (fun a => [(2, .ptr 0 0), (3, .ptr 1 0), (4, .ptr 4 0), (6, .sl 6 none none)])
      (fun a => [(0, some (.blk [.nils, .nils, .nils])), (1, some (.blk [.sl 2 none none, .sl 3 none none])), (2, some (.nest true 1 (rowsI a.2.1) [] [])), (3, some (.flat true 1 (bools a.2.2.1))), (4, some (.blk [.sl 5 none a.2.2.2.1])), (5, some (.flat true 1 (ints a.2.2.2.2))), (6, some (.flat true 4 (stps a.1)))]) 7 ([], N, G, none, l)
      ⟨hW, hNl, by simpa using hrun, by rw [← hGG]; simp [List.countP_replicate], .inl rfl, by show l.length ≤ _; omega, by show l.length ≤ _; omega, hH, hr, hm⟩ (by refine Weak.by [(0, some _), (1, some _), (2, some _), (3, some _), (4, some _), (5, some _), (6, none)] (by ((repeat' first | exact rfl | exact trivial | refine And.intro ?_ ?_) <;> (repeat' first | exact rfl | exact trivial | refine And.intro ?_ ?_))) (by ((repeat' first | exact rfl | exact trivial | refine And.intro ?_ ?_) <;> (repeat' first | exact rfl | exact trivial | refine And.intro ?_ ?_))) (by rfl)) ?_
    clear hrun hl0 hH hr hm hW hNl hGl hl hi hc
    rintro ⟨st, N, G, sub, m⟩ ⟨hW, hNl, hrun, hlive, hsub, hm4, hl0, hH, hr, hm⟩
    dsimp only at hW hNl hrun hlive hsub hm4 hl0 hH hr hm ⊢
    rcases hsub with rfl | ⟨L, rfl, hL⟩
    · generalize hlm : cut none m = l at *
      have hlm : m = l := hlm
      refine Pick.by (fun hc => ?_) (fun hc => ?_)
      · have hpos : 0 < l.length := by rw [ints_length, hlm] at hc; simpa using hc
        obtain ⟨out, hout⟩ : ∃ a, l[0]? = some a := ⟨_, List.getElem?_eq_getElem hpos⟩
        obtain ⟨last, hlst⟩ : ∃ k, l.length = k + 1 := ⟨l.length - 1, by omega⟩
        obtain ⟨top, htop⟩ : ∃ a, l[last]? = some a := ⟨_, List.getElem?_eq_getElem (by omega)⟩
        have hlast : (((ints m).length : Nat) : Int) - 1 = (last : Int) := by rw [ints_length, hlm]; omega
        have hsift : Sift l out last (m.set 0 top) 0 := ⟨by rw [List.length_set, hlm]; omega, by rw [hlm]; exact take_perm hout htop hlst, by rw [hlm]; exact dn_start hH _⟩
        have hil : (ints m).length = last + 1 := by rw [ints_length, hlm]; exact hlst
        refine Idx.by 0 rfl (by omega) ?_
        refine Look.by _ (by rw [hlm]; exact ints_get hout) ?_
        refine Pick.T (by rw [hlast]; exact inI64_of (by omega) (by omega)) ?_
        refine Idx.by last hlast (by omega) ?_
        refine Look.by _ (by rw [hlm]; exact ints_get htop) ?_
        refine Idx.by 0 rfl (by omega) ?_
        refine Look.by _ (by rw [hlm]; exact ints_get hout) ?_
        refine Rng.by 0 last rfl hlast (by omega) (by rw [List.length_set]; omega) ?_
        refine JoinP.intro (α := List Int) (fun c => c.length = m.length ∧ last ≤ c.length ∧ (out :: c.take last).Perm l ∧ Heap (c.take last)) (fun c => [(0, .ptr 4 0), (3, .sl 5 none (some (0, last))), (4, .s (.i .i64 out)), (1000002, .ptr 0 0), (1000003, .ptr 1 0), (1000004, .ptr 4 0), (1000006, .sl 6 none none)])
          (fun c => [(0, some (.blk [.nils, .nils, .nils])), (1, some (.blk [.sl 2 none none, .sl 3 none none])), (2, some (.nest true 1 (rowsI N) [] [])), (3, some (.flat true 1 (bools G))), (4, some (.blk [.sl 5 none none])), (5, some (.flat true 1 (ints c))), (6, some (.flat true 4 (stps st)))]) 7 ?_ ?_
        rotate_left
        · rintro c ⟨hcm, hlc, hperm, hHc⟩
          have hGN := hW.len
          have hq0 : ∀ v, v ∈ c.take last → v ∈ l := fun v hv => hperm.mem_iff.1 (List.mem_cons_of_mem _ hv)
          have hq1 : ∀ v, v ∈ l → v = out ∨ v ∈ c.take last := fun v hv => by simpa using hperm.mem_iff.2 hv
          have hqr : ∀ v ∈ c.take last, 0 ≤ v ∧ v < n := fun v hv => hr v (hq0 v hv)
          have hqc : cut (some (0, last)) c = c.take last := rfl
          have hqlen : (c.take last).length = last := by rw [List.length_take]; omega
          have hor := hr out (List.mem_of_getElem? hout)
          refine Call.by _ _ (MayC_at out hGN) ?_
          refine Pick.by (fun hmy => ?_) (fun hmy => ?_)
          · have hmy : mayB N G out = false := by have hmy : (!mayB N G out) = true := hmy; simpa using hmy
            refine Next.by (st, N, G, some (0, last), c) ⟨hW, hNl, hrun, hlive, .inr ⟨last, rfl, hlc⟩, by dsimp only; omega, by dsimp only; rw [hqc]; omega, hHc, hqr, fun v hv => ?_⟩ (by dsimp only; rw [hqc]; omega) (by refine Weak.by [(0, some _), (1, some _), (2, some _), (3, some _), (4, some _), (5, some _), (6, some _)] (by ((repeat' first | exact rfl | exact trivial | refine And.intro ?_ ?_) <;> (repeat' first | exact rfl | exact trivial | refine And.intro ?_ ?_))) (by ((repeat' first | exact rfl | exact trivial | refine And.intro ?_ ?_) <;> (repeat' first | exact rfl | exact trivial | refine And.intro ?_ ?_))) (by rfl))
            rcases hq1 v (hm v hv) with e | e
            · rw [e, hmy] at hv; cases hv
            · exact e
          have hmy : mayB N G out = true := by have hmy : (!mayB N G out) = false := hmy; simpa using hmy
          have hmp := mayB_iff.1 hmy
          obtain ⟨hs1, hs2⟩ := step_two hW hmp rfl
          refine Call.by _ _ (StepC_at ⟨hW, hmp.lo, hmp.hi⟩) ?_
          have hlo := hmp.lo
          have hhi := hmp.hi
          have hrv := hW.rows out
          have hnd : (rowAt N out).Nodup := hrv.1.imp fun hab => by omega
          have hNL := rowsI_length N
          have hmo := hW.most
          have hrl := hW.row_len out
          have hgv : (rowsI N)[(out).toNat]? = some (ints (rowAt N out)) := rowsI_get (rowAt_mem hlo hhi).2
          have hvv : out ∉ rowAt N out := hW.irr out hlo
          have hpart : ∀ (di : Nat) (u : Int), 0 ≤ u → rowAt (((rowAt N out).take di).foldl (cutF out) N) u = if u ∈ (rowAt N out).take di then (rowAt N u).erase out else rowAt N u := fun di u hu => cuts_row (hnd.sublist (List.take_sublist _ _)) (fun x hx => hrv.2 x (List.mem_of_mem_take hx)) hu
          have hplen : ∀ di : Nat, (rowsI (((rowAt N out).take di).foldl (cutF out) N)).length = N.length := fun di => by rw [rowsI_length, cuts_length]
          have hpget : ∀ (di : Nat) (u : Int), 0 ≤ u → u < N.length → (rowsI (((rowAt N out).take di).foldl (cutF out) N))[u.toNat]? = some (ints (rowAt (((rowAt N out).take di).foldl (cutF out) N) u)) := fun di u h0 h1 => rowsI_get (rowAt_mem h0 (by rw [cuts_length]; exact h1)).2
          refine Idx.by (out).toNat (by show (out : Int) = _; omega) (by omega) ?_
          refine Pick.T (by rw [hNL]; simp; omega) ?_
          refine Look.by _ hgv ?_
          refine LoopP.intro (α := Nat) (fun di => di ≤ (rowAt N out).length) (fun di => (rowAt N out).length - di) (fun di => [(2, .ptr 8 0), (3, .ptr 9 0), (11, .sl 2 (some ((out).toNat, 0)) none), (12, .s (.i .i64 (rowAt N out).length)), (13, .s (.i .i64 di)), (1000002, .ptr 0 0), (1000003, .ptr 1 0), (1000004, .ptr 4 0), (1000006, .sl 6 none none), (1000008, .ptr 7 0)])
            (fun di => [(0, some (.blk [.nils, .nils, .nils])), (1, some (.blk [.sl 2 none none, .sl 3 none none])), (4, some (.blk [.sl 5 none (some (0, last))])), (5, some (.flat true 1 (ints c))), (6, some (.flat true 4 (stps st))), (7, some (.blk [.s (.i .i64 (stepF N out).1), .s (.i .i64 (stepF N out).2.1), .s (.i .i64 (stepF N out).2.2.1), .s (.b (stepF N out).2.2.2)])), (2, some (.nest true 1 (rowsI (((rowAt N out).take di).foldl (cutF out) N)) [] [])), (3, some (.flat true 1 (bools G))), (8, some (.blk [.sl 2 none none, .sl 3 none none])), (9, some (.blk [.s (.i .i64 (stepF N out).1), .s (.i .i64 (stepF N out).2.1), .s (.i .i64 (stepF N out).2.2.1), .s (.b (stepF N out).2.2.2)]))]) 10 0 (by omega) (by refine Weak.by [(0, some _), (1, some _), (2, some _), (3, some _), (4, some _), (5, some _), (6, some _), (7, some _), (8, some _), (9, some _)] (by ((repeat' first | exact rfl | exact trivial | refine And.intro ?_ ?_) <;> (repeat' first | exact rfl | exact trivial | refine And.intro ?_ ?_)); all_goals ((first | (rw [ints_length]; rfl) | (simp; done)))) (by ((repeat' first | exact rfl | exact trivial | refine And.intro ?_ ?_) <;> (repeat' first | exact rfl | exact trivial | refine And.intro ?_ ?_)); all_goals ((first | (rw [ints_length]; rfl) | (simp; done)))) (by rfl)) ?_
          rintro di hi
          refine Pick.by (fun hc1 => ?_) (fun hc1 => ?_)
          · have hil : di < (rowAt N out).length := by simpa using hc1
            obtain ⟨x, hx⟩ : ∃ x, (rowAt N out)[di]? = some x := ⟨_, List.getElem?_eq_getElem hil⟩
            have hxm := List.mem_of_getElem? hx
            have hxr := hrv.2 x hxm
            have hxv : x ≠ out := fun e => hvv (e ▸ hxm)
            have hgi : (rowsI (((rowAt N out).take di).foldl (cutF out) N))[(out).toNat]? = some (ints (rowAt N out)) := by
              rw [hpget di out hlo hhi, hpart di out hlo, if_neg fun h => hvv (List.mem_of_mem_take h)]
            have hrx := hpget di x hxr.1 hxr.2
            have hstp : ((rowAt N out).take (di + 1)).foldl (cutF out) N = cutF out (((rowAt N out).take di).foldl (cutF out) N) x := by
              rw [List.take_succ_eq_append_getElem hil, List.foldl_append]
              have : (rowAt N out)[di] = x := by rw [List.getElem?_eq_getElem hil] at hx; injection hx
              rw [this]; rfl
            have hwx : (rowAt (((rowAt N out).take di).foldl (cutF out) N) x).Pairwise (· ≤ ·) ∧ (rowAt (((rowAt N out).take di).foldl (cutF out) N) x).length ≤ 1000000 := by
              have h1 := hW.rows x
              have h2 := hW.row_len x
              rw [hpart di x hxr.1]
              split
              · have h3 := List.length_erase_le (l := rowAt N x) (a := out)
                exact ⟨(erase_sorted h1.1).imp fun h => by omega, by omega⟩
              · exact ⟨h1.1.imp fun h => by omega, by omega⟩
            have hpl := hplen di
            refine Look.by _ hgi ?_
            refine Idx.by di rfl (by rw [ints_length]; exact hil) ?_
            refine Look.by _ hgi ?_
            refine Look.by _ (ints_get hx) ?_
            refine Idx.by x.toNat (by omega) (by omega) ?_
            refine Pick.T (by rw [hpl]; simp; omega) ?_
            refine Look.by _ hrx ?_
            refine Call.by _ _ (turnC_at hwx) ?_
            refine Idx.by x.toNat (by omega) (by omega) ?_
            refine Pick.T (by rw [hpl]; simp; omega) ?_
            refine Pick.T (by simp) ?_
            refine Seg.by (by kernel_rfl) ?_
            refine Pick.T (inI64_of (by omega) (by omega)) ?_
            refine Next.by (di + 1) (by omega) (by omega) (by refine Weak.by [(0, some _), (1, some _), (2, some _), (3, some _), (4, some _), (5, some _), (6, some _), (7, some _), (8, some _), (9, some _)] (by ((repeat' first | exact rfl | exact trivial | refine And.intro ?_ ?_) <;> (repeat' first | exact rfl | exact trivial | refine And.intro ?_ ?_)); all_goals ((first | (rw [hstp]; unfold cutF; rw [rowsI_set]; rfl) | (simp; done) | (simp; omega)))) (by ((repeat' first | exact rfl | exact trivial | refine And.intro ?_ ?_) <;> (repeat' first | exact rfl | exact trivial | refine And.intro ?_ ?_)); all_goals ((first | (rw [hstp]; unfold cutF; rw [rowsI_set]; rfl) | (simp; done) | (simp; omega)))) (by rfl))
          have hil : di = (rowAt N out).length := by simp at hc1; omega
          subst hil
          rw [List.take_length]
          have hN1 : ∀ u : Int, 0 ≤ u → rowAt ((rowAt N out).foldl (cutF out) N) u = (rowAt N u).erase out := fun u hu => by
            rw [cuts_row hnd hrv.2 hu]
            split
            · rfl
            · rename_i hno
              rw [List.erase_of_not_mem]
              exact fun h => hno (hW.sym u out hu hlo h)
          have hl1 : (rowsI ((rowAt N out).foldl (cutF out) N)).length = N.length := by rw [rowsI_length, cuts_length]
          refine JoinP.intro (α := Unit) (fun _ => True) (fun _ => [(2, .ptr 8 0), (3, .ptr 9 0), (1000002, .ptr 0 0), (1000003, .ptr 1 0), (1000004, .ptr 4 0), (1000006, .sl 6 none none), (1000008, .ptr 7 0)])
            (fun _ => [(0, some (.blk [.nils, .nils, .nils])), (1, some (.blk [.sl 2 none none, .sl 3 none none])), (4, some (.blk [.sl 5 none (some (0, last))])), (5, some (.flat true 1 (ints c))), (6, some (.flat true 4 (stps st))), (7, some (.blk [.s (.i .i64 (stepF N out).1), .s (.i .i64 (stepF N out).2.1), .s (.i .i64 (stepF N out).2.2.1), .s (.b (stepF N out).2.2.2)])), (2, some (.nest true 1 (rowsI (if (stepF N out).2.2.2 then joinF (joinF ((rowAt N out).foldl (cutF out) N) (stepF N out).2.1 (stepF N out).2.2.1) (stepF N out).2.2.1 (stepF N out).2.1 else (rowAt N out).foldl (cutF out) N)) [] [])), (3, some (.flat true 1 (bools G))), (8, some (.blk [.sl 2 none none, .sl 3 none none])), (9, some (.blk [.s (.i .i64 (stepF N out).1), .s (.i .i64 (stepF N out).2.1), .s (.i .i64 (stepF N out).2.2.1), .s (.b (stepF N out).2.2.2)]))]) 10 ?_ ?_
          rotate_left
          · rintro ⟨⟩ -
            have hl2 : (rowsI (if (stepF N out).2.2.2 then joinF (joinF ((rowAt N out).foldl (cutF out) N) (stepF N out).2.1 (stepF N out).2.2.1) (stepF N out).2.2.1 (stepF N out).2.1 else (rowAt N out).foldl (cutF out) N)).length = N.length := by
              rw [rowsI_length]
              split
              · rw [joinF_length, joinF_length, cuts_length]
              · rw [cuts_length]
            have hdo : (rowsI (if (stepF N out).2.2.2 then joinF (joinF ((rowAt N out).foldl (cutF out) N) (stepF N out).2.1 (stepF N out).2.2.1) (stepF N out).2.2.1 (stepF N out).2.1 else (rowAt N out).foldl (cutF out) N)).set (out).toNat [] = rowsI (doN N (stepF N out)) := by
              unfold doN
              rw [rowsI_set]; rfl
            have hdg : (bools G).set (out).toNat [.b true] = bools (doG G (stepF N out)) := by
              unfold doG bools
              rw [List.map_set]; rfl
            generalize rowsI (if (stepF N out).2.2.2 then joinF (joinF ((rowAt N out).foldl (cutF out) N) (stepF N out).2.1 (stepF N out).2.2.1) (stepF N out).2.2.1 (stepF N out).2.1 else (rowAt N out).foldl (cutF out) N) = RR at hl2 hdo ⊢
            refine Idx.by (out).toNat (by show (out : Int) = _; omega) (by omega) ?_
            refine Pick.T (by rw [hl2]; simp; omega) ?_
            refine Idx.by (out).toNat (by show (out : Int) = _; omega) (by rw [bools_length, hW.len]; omega) ?_
            refine Look.by _ (bools_get (goneAt_get hW.len hlo hhi)) ?_
            refine Seg.by (by kernel_rfl) ?_
            have hW2 := do_wf hW hmp
            have hNl2 : (doN N (stepF N out)).length = n.toNat := by rw [doN_length]; exact hNl
            have hGN2 : (doG G (stepF N out)).length = (doN N (stepF N out)).length := hW2.len
            have hlv := live_step hW hmp
            have hst4 : st.length + 1 ≤ n.toNat := by omega
            have hrun2 := run_step hrun hW hmy hst4 (fun v hv => heap_least hHc hH hout hperm hm hv)
            have hmay2 : ∀ v, mayB (doN N (stepF N out)) (doG G (stepF N out)) v = true → v ∈ c.take last ∨ v = (stepF N out).2.1 ∨ v = (stepF N out).2.2.1 := fun v hv => may_step hW hmp hs2 hv fun h2 hne => (hq1 v (hm v h2)).elim (fun e => absurd e hne) id
            generalize hN2 : doN N (stepF N out) = N2 at *
            generalize hG2 : doG G (stepF N out) = G2 at *
            generalize hsG : stepF N out = s at *
            refine Pick.T (by simp [cut, stps_length]; omega) ?_
            refine LoopP.intro (α := Nat × Option (Nat × Nat) × List Int) (fun a => a.1 ≤ 2 ∧ (a.2.1 = none ∨ ∃ L, a.2.1 = some (0, L) ∧ L ≤ a.2.2.length) ∧ a.2.2.length ≤ 4000 ∧ (cut a.2.1 a.2.2).length ≤ last + a.1 ∧ Heap (cut a.2.1 a.2.2) ∧ (∀ v ∈ cut a.2.1 a.2.2, 0 ≤ v ∧ v < n) ∧ ∀ v : Int, mayB N2 G2 v = true → v ∈ cut a.2.1 a.2.2 ∨ (a.1 ≤ 0 ∧ v = s.2.1) ∨ (a.1 ≤ 1 ∧ v = s.2.2.1)) (fun a => 2 - a.1) (fun a => [(2, .ptr 0 0), (3, .ptr 1 0), (4, .ptr 4 0), (6, .sl 6 none none), (51, .sl 7 none none), (52, .s (.i .i64 2)), (53, .s (.i .i64 a.1))])
              (fun a => [(0, some (.blk [.nils, .nils, .nils])), (1, some (.blk [.sl 2 none none, .sl 3 none none])), (2, some (.nest true 1 (rowsI N2) [] [])), (3, some (.flat true 1 (bools G2))), (4, some (.blk [.sl 5 none a.2.1])), (5, some (.flat true 1 (ints a.2.2))), (6, some (.flat true 4 (stps (st ++ [s])))), (7, some (.flat true 1 (ints [s.2.1, s.2.2.1])))]) 8 (0, some (0, last), c)
              ⟨by dsimp only; omega, .inr ⟨last, rfl, hlc⟩, by dsimp only; omega, by dsimp only; rw [hqc]; omega, hHc, hqr, fun v hv => (hmay2 v hv).elim .inl fun h => h.elim (fun h => .inr (.inl ⟨by dsimp only; omega, h⟩)) fun h => .inr (.inr ⟨by dsimp only; omega, h⟩)⟩ (by refine Weak.by [(0, some _), (1, some _), (2, some _), (3, some _), (4, some _), (5, some _), (6, some _), (7, some _)] (by ((repeat' first | exact rfl | exact trivial | refine And.intro ?_ ?_) <;> (repeat' first | exact rfl | exact trivial | refine And.intro ?_ ?_)); all_goals ((first | (exact stps_snoc st s) | (exact hdo.symm) | (exact hdg.symm)))) (by ((repeat' first | exact rfl | exact trivial | refine And.intro ?_ ?_) <;> (repeat' first | exact rfl | exact trivial | refine And.intro ?_ ?_)); all_goals ((first | (exact stps_snoc st s) | (exact hdo.symm) | (exact hdg.symm)))) (by rfl)) ?_
            rintro ⟨i, sub2, m2⟩ ⟨hi2, hsub2, hm24, hcl2, hH2, hr2, hmv2⟩
            dsimp only at hi2 hsub2 hm24 hcl2 hH2 hr2 hmv2 ⊢
            refine Pick.by (fun hc5 => ?_) (fun hc5 => ?_)
            · have hi3 : i < 2 := by simp at hc5; omega
              obtain ⟨x, hx⟩ : ∃ x, [s.2.1, s.2.2.1][i]? = some x := ⟨_, List.getElem?_eq_getElem (show i < [s.2.1, s.2.2.1].length from hi3)⟩
              have hxi : (i = 0 ∧ x = s.2.1) ∨ (i = 1 ∧ x = s.2.2.1) := by
                have : i = 0 ∨ i = 1 := by omega
                rcases this with e | e
                · subst e; simp at hx; exact .inl ⟨rfl, hx.symm⟩
                · subst e; simp at hx; exact .inr ⟨rfl, hx.symm⟩
              refine Idx.by i rfl (by rw [ints_length]; exact hi3) ?_
              refine Look.by _ (ints_get hx) ?_
              refine Call.by _ _ (MayC_at x hGN2) ?_
              refine JoinP.intro (α := Option (Nat × Nat) × List Int) (fun b => (b.1 = none ∨ ∃ L, b.1 = some (0, L) ∧ L ≤ b.2.length) ∧ b.2.length ≤ 4000 ∧ (cut b.1 b.2).length ≤ last + i + 1 ∧ Heap (cut b.1 b.2) ∧ (∀ v ∈ cut b.1 b.2, 0 ≤ v ∧ v < n) ∧ ∀ v : Int, mayB N2 G2 v = true → v ∈ cut b.1 b.2 ∨ (i + 1 ≤ 0 ∧ v = s.2.1) ∨ (i + 1 ≤ 1 ∧ v = s.2.2.1)) (fun b => [(2, .ptr 0 0), (3, .ptr 1 0), (4, .ptr 4 0), (6, .sl 6 none none), (51, .sl 7 none none), (52, .s (.i .i64 2)), (53, .s (.i .i64 i))])
                (fun b => [(0, some (.blk [.nils, .nils, .nils])), (1, some (.blk [.sl 2 none none, .sl 3 none none])), (2, some (.nest true 1 (rowsI N2) [] [])), (3, some (.flat true 1 (bools G2))), (4, some (.blk [.sl 5 none b.1])), (5, some (.flat true 1 (ints b.2))), (6, some (.flat true 4 (stps (st ++ [s])))), (7, some (.flat true 1 (ints [s.2.1, s.2.2.1])))]) 8 ?_ ?_
              rotate_left
              · rintro ⟨sub3, m3⟩ hJ
                refine Pick.T (inI64_of (by omega) (by omega)) ?_
                exact Next.by (i + 1, sub3, m3) ⟨by dsimp only; omega, hJ⟩ (by dsimp only; omega) (by refine Weak.by [(0, some _), (1, some _), (2, some _), (3, some _), (4, some _), (5, some _), (6, some _), (7, some _)] (by ((repeat' first | exact rfl | exact trivial | refine And.intro ?_ ?_) <;> (repeat' first | exact rfl | exact trivial | refine And.intro ?_ ?_))) (by ((repeat' first | exact rfl | exact trivial | refine And.intro ?_ ?_) <;> (repeat' first | exact rfl | exact trivial | refine And.intro ?_ ?_))) (by rfl))
              refine Pick.by (fun hc6 => ?_) (fun hc6 => ?_)
              · have hc6 : mayB N2 G2 x = true := hc6
                have hxr2 : 0 ≤ x ∧ x < n := may_range hNl2 hc6
                have hH := hH2
                refine Pick.T (by simp [cut, ints_length]; omega) ?_
                have hraw : cut sub2 (ints m2) = ints (cut sub2 m2) := cut_ints
                have hlen0 : (cut sub2 (ints m2) ++ [[Sc.i .i64 x]]) = ints ((cut sub2 m2) ++ [x]) := by rw [hraw, ints_snoc]
                refine Pick.T (by show inI64 ((((cut sub2 (ints m2) ++ [[Sc.i .i64 x]]).length : Nat) : Int) - 1) = true; rw [hlen0, ints_length]; simp; exact inI64_of (by omega) (by omega)) ?_
                have hlen1 : (((cut sub2 m2).length : Nat) : Int) = (((cut sub2 (ints m2) ++ [[Sc.i .i64 x]]).length : Nat) : Int) - 1 := by rw [hlen0, ints_length]; simp
                refine JoinP.intro (α := List Int) (fun a => Heap a ∧ a.length = (cut sub2 m2).length + 1 ∧ ∀ v, v ∈ a ↔ v ∈ (cut sub2 m2) ∨ v = x) (fun a => [(0, .ptr 4 0), (4, .sl 8 none none), (1000002, .ptr 0 0), (1000003, .ptr 1 0), (1000004, .ptr 4 0), (1000006, .sl 6 none none), (1000051, .sl 7 none none), (1000052, .s (.i .i64 2)), (1000053, .s (.i .i64 i))])
                  (fun a => [(0, some (.blk [.nils, .nils, .nils])), (1, some (.blk [.sl 2 none none, .sl 3 none none])), (2, some (.nest true 1 (rowsI N2) [] [])), (3, some (.flat true 1 (bools G2))), (4, some (.blk [.sl 5 none sub2])), (6, some (.flat true 4 (stps (st ++ [s])))), (7, some (.flat true 1 (ints [s.2.1, s.2.2.1]))), (8, some (.flat true 1 (ints a)))]) 9 ?_ ?_
                rotate_left
                · rintro m ⟨hHm, hml2, hmem⟩
                  exact ⟨(none, m), ⟨.inl rfl, by dsimp only; omega, by show m.length ≤ _; omega, hHm, fun v hv => ((hmem v).1 hv).elim (hr2 v) fun e => by rw [e]; exact hxr2, fun v hv => put_may hxi (hmem v).2 (hmv2 v hv)⟩, by refine Weak.by [(0, some _), (1, some _), (2, some _), (3, some _), (4, some _), (5, some _), (6, some _), (7, some _)] (by ((repeat' first | exact rfl | exact trivial | refine And.intro ?_ ?_) <;> (repeat' first | exact rfl | exact trivial | refine And.intro ?_ ?_))) (by ((repeat' first | exact rfl | exact trivial | refine And.intro ?_ ?_) <;> (repeat' first | exact rfl | exact trivial | refine And.intro ?_ ?_))) (by rfl)⟩
                refine LoopP.intro (α := Nat × List Int) (fun a => a.2.Perm ((cut sub2 m2) ++ [x]) ∧ HUp a.2 a.1 ∧ a.1 < a.2.length) (fun a => a.1) (fun a => [(0, .ptr 4 0), (4, .sl 8 none none), (5, .s (.i .i64 a.1)), (1000002, .ptr 0 0), (1000003, .ptr 1 0), (1000004, .ptr 4 0), (1000006, .sl 6 none none), (1000051, .sl 7 none none), (1000052, .s (.i .i64 2)), (1000053, .s (.i .i64 i))])
                  (fun a => [(0, some (.blk [.nils, .nils, .nils])), (1, some (.blk [.sl 2 none none, .sl 3 none none])), (2, some (.nest true 1 (rowsI N2) [] [])), (3, some (.flat true 1 (bools G2))), (4, some (.blk [.sl 5 none sub2])), (6, some (.flat true 4 (stps (st ++ [s])))), (7, some (.flat true 1 (ints [s.2.1, s.2.2.1]))), (8, some (.flat true 1 (ints a.2)))]) 9 ((cut sub2 m2).length, (cut sub2 m2) ++ [x]) ⟨List.Perm.refl _, up_start hH _, by simp⟩ (by refine Weak.by [(0, some _), (1, some _), (2, some _), (3, some _), (4, some _), (5, some _), (6, some _), (7, some _), (8, some _)] (by ((repeat' first | exact rfl | exact trivial | refine And.intro ?_ ?_) <;> (repeat' first | exact rfl | exact trivial | refine And.intro ?_ ?_)); all_goals ((first | (exact hlen0.symm) | (exact sc_eq hlen1)))) (by ((repeat' first | exact rfl | exact trivial | refine And.intro ?_ ?_) <;> (repeat' first | exact rfl | exact trivial | refine And.intro ?_ ?_)); all_goals ((first | (exact hlen0.symm) | (exact sc_eq hlen1)))) (by rfl)) ?_
                rintro ⟨p, m⟩ ⟨hperm, hup, hpm⟩
                dsimp only at hperm hup hpm ⊢
                have hml : m.length = (cut sub2 m2).length + 1 := by rw [hperm.length_eq]; simp
                have hpq : 0 < p → ((p : Int) - 1).tdiv 2 = (((p - 1) / 2 : Nat) : Int) := fun h => by rw [show (p : Int) - 1 = ((p - 1 : Nat) : Int) by omega]; rfl
                have hput : Heap m → Heap m ∧ m.length = (cut sub2 m2).length + 1 ∧ ∀ v, v ∈ m ↔ v ∈ (cut sub2 m2) ∨ v = x := fun h => ⟨h, hml, fun v => by rw [hperm.mem_iff]; simp⟩
                refine Pick.by (fun hc1 => ?_) (fun hc1 => ?_)
                · have hp0 : 0 < p := by simp at hc1; omega
                  have hq := hpq hp0
                  have hql : (p - 1) / 2 < m.length := by omega
                  obtain ⟨y, hy⟩ : ∃ y, m[p]? = some y := ⟨_, List.getElem?_eq_getElem hpm⟩
                  obtain ⟨z, hz⟩ : ∃ z, m[(p - 1) / 2]? = some z := ⟨_, List.getElem?_eq_getElem hql⟩
                  refine Idx.by p rfl (by rw [ints_length]; exact hpm) ?_
                  refine Look.by _ (ints_get hy) ?_
                  refine Pick.T (inI64_of (by omega) (by omega)) ?_
                  refine Pick.T (inI64_of (by omega) (by omega)) ?_
                  refine Idx.by ((p - 1) / 2) hq (by rw [ints_length]; exact hql) ?_
                  refine Look.by _ (ints_get hz) ?_
                  refine Seg.by (by kernel_rfl) ?_
                  refine Pick.by (fun hc2 => ?_) (fun hc2 => ?_)
                  · have hlt : y < z := by simpa using hc2
                    have hsw : ints ((m.set p z).set ((p - 1) / 2) y) = ((ints m).set p [.i .i64 z]).set ((p - 1) / 2) [.i .i64 y] := by rw [ints_set, ints_set]
                    refine Pick.T (inI64_of (by omega) (by omega)) ?_
                    refine Pick.T (inI64_of (by omega) (by omega)) ?_
                    refine Pick.T (inI64_of (by omega) (by omega)) ?_
                    refine Pick.T (inI64_of (by omega) (by omega)) ?_
                    refine Idx.by ((p - 1) / 2) hq (by rw [ints_length]; exact hql) ?_
                    refine Look.by _ (ints_get hz) ?_
                    refine Idx.by p rfl (by rw [ints_length]; exact hpm) ?_
                    refine Look.by _ (ints_get hy) ?_
                    refine Idx.by p rfl (by rw [ints_length]; exact hpm) ?_
                    refine Look.by _ (ints_get hy) ?_
                    refine Idx.by ((p - 1) / 2) hq (by rw [List.length_set, ints_length]; exact hql) ?_
                    refine Look.by _ (by rw [List.getElem?_set_ne (by omega)]; exact ints_get hz) ?_
                    refine Seg.by (by kernel_rfl) ?_
                    refine Pick.T (inI64_of (by omega) (by omega)) ?_
                    refine Pick.T (inI64_of (by omega) (by omega)) ?_
                    refine Next.by ((p - 1) / 2, (m.set p z).set ((p - 1) / 2) y) ⟨(swap_perm hy hz (by omega)).trans hperm, up_step hup hp0 hz hy hlt, by rw [List.length_set, List.length_set]; exact hql⟩ (by dsimp only; omega) (by refine Weak.by [(0, some _), (1, some _), (2, some _), (3, some _), (4, some _), (5, some _), (6, some _), (7, some _), (8, some _)] (by ((repeat' first | exact rfl | exact trivial | refine And.intro ?_ ?_) <;> (repeat' first | exact rfl | exact trivial | refine And.intro ?_ ?_)); all_goals ((first | (exact hsw) | (exact sc_eq hq.symm)))) (by ((repeat' first | exact rfl | exact trivial | refine And.intro ?_ ?_) <;> (repeat' first | exact rfl | exact trivial | refine And.intro ?_ ?_)); all_goals ((first | (exact hsw) | (exact sc_eq hq.symm)))) (by rfl))
                  · have hHm := hput (up_done hup (.inr fun x' y' hx' hy' => by
                      rw [hz] at hx'; rw [hy] at hy'
                      injection hx' with hx'; injection hy' with hy'
                      have : ¬ y < z := by simpa using hc2
                      omega))
                    exact ⟨m, hHm, by refine Weak.by [(0, some _), (1, some _), (2, some _), (3, some _), (4, some _), (5, some _), (6, some _), (7, some _), (8, some _)] (by ((repeat' first | exact rfl | exact trivial | refine And.intro ?_ ?_) <;> (repeat' first | exact rfl | exact trivial | refine And.intro ?_ ?_))) (by ((repeat' first | exact rfl | exact trivial | refine And.intro ?_ ?_) <;> (repeat' first | exact rfl | exact trivial | refine And.intro ?_ ?_))) (by rfl)⟩
                · have hp0 : p = 0 := by simp at hc1; omega
                  refine Seg.by (by kernel_rfl) ?_
                  exact ⟨m, hput (up_done hup (.inl hp0)), by refine Weak.by [(0, some _), (1, some _), (2, some _), (3, some _), (4, some _), (5, some _), (6, some _), (7, some _), (8, some _)] (by ((repeat' first | exact rfl | exact trivial | refine And.intro ?_ ?_) <;> (repeat' first | exact rfl | exact trivial | refine And.intro ?_ ?_))) (by ((repeat' first | exact rfl | exact trivial | refine And.intro ?_ ?_) <;> (repeat' first | exact rfl | exact trivial | refine And.intro ?_ ?_))) (by rfl)⟩
              · have hc6 : mayB N2 G2 x = false := hc6
                exact ⟨(sub2, m2), ⟨hsub2, hm24, by dsimp only; omega, hH2, hr2, fun v hv => skip_may hxi (fun e => by rw [e, hc6] at hv; cases hv) (hmv2 v hv)⟩, by refine Weak.by [(0, some _), (1, some _), (2, some _), (3, some _), (4, some _), (5, some _), (6, some _), (7, some _)] (by ((repeat' first | exact rfl | exact trivial | refine And.intro ?_ ?_) <;> (repeat' first | exact rfl | exact trivial | refine And.intro ?_ ?_))) (by ((repeat' first | exact rfl | exact trivial | refine And.intro ?_ ?_) <;> (repeat' first | exact rfl | exact trivial | refine And.intro ?_ ?_))) (by rfl)⟩
            · have hi3 : i = 2 := by simp at hc5; omega
              refine Next.by (st ++ [s], N2, G2, sub2, m2) ⟨hW2, hNl2, hrun2, by simp; omega, hsub2, hm24, by simp; omega, hH2, hr2, fun v hv => ?_⟩ (by simp; omega) (by refine Weak.by [(0, some _), (1, some _), (2, some _), (3, some _), (4, some _), (5, some _), (6, some _)] (by ((repeat' first | exact rfl | exact trivial | refine And.intro ?_ ?_) <;> (repeat' first | exact rfl | exact trivial | refine And.intro ?_ ?_))) (by ((repeat' first | exact rfl | exact trivial | refine And.intro ?_ ?_) <;> (repeat' first | exact rfl | exact trivial | refine And.intro ?_ ?_))) (by rfl))
              rcases hmv2 v hv with h | ⟨h1, _⟩ | ⟨h1, _⟩
              · exact h
              · omega
              · omega
          refine Pick.by (fun had => ?_) (fun had => ?_)
          · have had : (stepF N out).2.2.2 = true := had
            rw [if_pos had]
            rcases hs2 with ⟨_, _, _, e⟩ | ⟨_, _, _, _, e⟩ | ⟨a, b, hlv, hab, ea, eb, ec⟩
            · rw [had] at e; cases e
            · rw [had] at e; cases e
            have har := hrv.2 a (by rw [hlv]; simp)
            have hbr := hrv.2 b (by rw [hlv]; simp)
            have hra : (rowsI ((rowAt N out).foldl (cutF out) N))[a.toNat]? = some (ints ((rowAt N a).erase out)) := by
              have h1 := rowsI_get (rowAt_mem (N := (rowAt N out).foldl (cutF out) N) har.1 (by rw [cuts_length]; exact har.2)).2
              rw [hN1 a har.1] at h1
              exact h1
            have hrb : (rowsI ((rowAt N out).foldl (cutF out) N))[b.toNat]? = some (ints ((rowAt N b).erase out)) := by
              have h1 := rowsI_get (rowAt_mem (N := (rowAt N out).foldl (cutF out) N) hbr.1 (by rw [cuts_length]; exact hbr.2)).2
              rw [hN1 b hbr.1] at h1
              exact h1
            have hok : ∀ u, ((rowAt N u).erase out).Pairwise (· ≤ ·) ∧ ((rowAt N u).erase out).length ≤ 1000000 := fun u => by
              have h1 := hW.rows u
              have h2 := hW.row_len u
              have h3 := List.length_erase_le (l := rowAt N u) (a := out)
              exact ⟨(erase_sorted h1.1).imp fun h => by omega, by omega⟩
            rw [ea, eb]
            have hj : rowsI (joinF (joinF ((rowAt N out).foldl (cutF out) N) a b) b a) = ((rowsI ((rowAt N out).foldl (cutF out) N)).set a.toNat (ints (insAt ((rowAt N a).erase out) b))).set b.toNat (ints (insAt ((rowAt N b).erase out) a)) := by
              have e1 : rowAt (joinF ((rowAt N out).foldl (cutF out) N) a b) b = (rowAt N b).erase out := by
                unfold joinF
                rw [rowAt_set har.1 (by rw [cuts_length]; exact har.2) hbr.1, if_neg (by omega), hN1 b hbr.1]
              show rowsI ((joinF ((rowAt N out).foldl (cutF out) N) a b).set b.toNat (insAt (rowAt (joinF ((rowAt N out).foldl (cutF out) N) a b) b) a)) = _
              rw [e1, rowsI_set]
              unfold joinF
              rw [rowsI_set, hN1 a har.1]
            have hma : (rowsI ((rowAt N out).foldl (cutF out) N)).set a.toNat (ints (insAt ((rowAt N a).erase out) b)) ≠ [] ∨ True := .inr trivial
            have hl3 : ((rowsI ((rowAt N out).foldl (cutF out) N)).set a.toNat (ints (insAt ((rowAt N a).erase out) b))).length = N.length := by rw [List.length_set, hl1]
            have hrb2 : ((rowsI ((rowAt N out).foldl (cutF out) N)).set a.toNat (ints (insAt ((rowAt N a).erase out) b)))[b.toNat]? = some (ints ((rowAt N b).erase out)) := by rw [List.getElem?_set_ne (by omega)]; exact hrb
            refine Idx.by a.toNat (by omega) (by omega) ?_
            refine Pick.T (by rw [hl1]; simp; omega) ?_
            refine Look.by _ hra ?_
            refine Call.by _ _ (turnC_at (hok a)) ?_
            refine Idx.by a.toNat (by omega) (by omega) ?_
            refine Pick.T (by rw [hl1]; simp; omega) ?_
            refine Pick.T (by simp) ?_
            refine Seg.by (by kernel_rfl) ?_
            refine Idx.by b.toNat (by omega) (by omega) ?_
            refine Pick.T (by rw [hl3]; simp; omega) ?_
            refine Look.by _ hrb2 ?_
            refine Call.by _ _ (turnC_at (hok b)) ?_
            refine Idx.by b.toNat (by omega) (by omega) ?_
            refine Pick.T (by rw [hl3]; simp; omega) ?_
            refine Pick.T (by simp) ?_
            refine Seg.by (by kernel_rfl) ?_
            exact ⟨(), trivial, by refine Weak.by [(0, some _), (1, some _), (2, some _), (3, some _), (4, some _), (5, some _), (6, some _), (7, some _), (8, some _), (9, some _)] (by ((repeat' first | exact rfl | exact trivial | refine And.intro ?_ ?_) <;> (repeat' first | exact rfl | exact trivial | refine And.intro ?_ ?_)); all_goals ((exact hj))) (by ((repeat' first | exact rfl | exact trivial | refine And.intro ?_ ?_) <;> (repeat' first | exact rfl | exact trivial | refine And.intro ?_ ?_)); all_goals ((exact hj))) (by rfl)⟩
          · have had : (stepF N out).2.2.2 = false := had
            rw [if_neg (by rw [had]; simp)]
            exact ⟨(), trivial, by refine Weak.by [(0, some _), (1, some _), (2, some _), (3, some _), (4, some _), (5, some _), (6, some _), (7, some _), (8, some _), (9, some _)] (by ((repeat' first | exact rfl | exact trivial | refine And.intro ?_ ?_) <;> (repeat' first | exact rfl | exact trivial | refine And.intro ?_ ?_))) (by ((repeat' first | exact rfl | exact trivial | refine And.intro ?_ ?_) <;> (repeat' first | exact rfl | exact trivial | refine And.intro ?_ ?_))) (by rfl)⟩
        refine LoopP.intro (α := Nat × List Int) (fun a => Sift l out last a.2 a.1 ∧ a.1 ≤ last ∧ a.2.length = m.length) (fun a => last + 1 - a.1) (fun a => [(0, .ptr 4 0), (3, .sl 5 none (some (0, last))), (4, .s (.i .i64 out)), (5, .s (.i .i64 last)), (6, .s (.i .i64 a.1)), (1000002, .ptr 0 0), (1000003, .ptr 1 0), (1000004, .ptr 4 0), (1000006, .sl 6 none none)])
          (fun a => [(0, some (.blk [.nils, .nils, .nils])), (1, some (.blk [.sl 2 none none, .sl 3 none none])), (2, some (.nest true 1 (rowsI N) [] [])), (3, some (.flat true 1 (bools G))), (4, some (.blk [.sl 5 none none])), (5, some (.flat true 1 (ints a.2))), (6, some (.flat true 4 (stps st)))]) 7 (0, m.set 0 top) ⟨hsift, by dsimp only; omega, by rw [List.length_set]⟩ (by refine Weak.by [(0, some _), (1, some _), (2, some _), (3, some _), (4, some _), (5, some _), (6, some _)] (by ((repeat' first | exact rfl | exact trivial | refine And.intro ?_ ?_) <;> (repeat' first | exact rfl | exact trivial | refine And.intro ?_ ?_)); all_goals ((first | (rw [ints_set]; rfl) | (exact sc_eq hlast.symm)))) (by ((repeat' first | exact rfl | exact trivial | refine And.intro ?_ ?_) <;> (repeat' first | exact rfl | exact trivial | refine And.intro ?_ ?_)); all_goals ((first | (rw [ints_set]; rfl) | (exact sc_eq hlast.symm)))) (by rfl)) ?_
        rintro ⟨i, c⟩ ⟨hsf, hil, hcm⟩
        dsimp only at hsf hil hcm ⊢
        refine Pick.T (inI64_of (by omega) (by omega)) ?_
        refine Pick.T (inI64_of (by omega) (by omega)) ?_
        refine Pick.by (fun hc1 => ?_) (fun hc1 => ?_)
        · have hch : 2 * i + 1 < last := by simp at hc1; omega
          obtain ⟨x, hx⟩ : ∃ x, c[i]? = some x := ⟨_, List.getElem?_eq_getElem (by have := hsf.len; omega)⟩
          obtain ⟨y1, hy1⟩ : ∃ y, c[2 * i + 1]? = some y := ⟨_, List.getElem?_eq_getElem (by have := hsf.len; omega)⟩
          refine Pick.T (inI64_of (by omega) (by omega)) ?_
          refine Pick.T (inI64_of (by omega) (by omega)) ?_
          refine Pick.T (inI64_of (by omega) (by omega)) ?_
          have hk1 : (2 * (i : Int) + 1) = ((2 * i + 1 : Nat) : Int) := by omega
          have hk2 : (2 * (i : Int) + 1 + 1) = ((2 * i + 2 : Nat) : Int) := by omega
          have hjoin : ∀ k, (k = 2 * i + 1 ∨ k = 2 * i + 2) → k < last → (∀ y, c[k]? = some y → ∀ t z, 0 < t → (t - 1) / 2 = i → t < last → c[t]? = some z → y ≤ z) → (k = 2 * i + 1 ∨ k = 2 * i + 2) ∧ k < last ∧ ∀ y, c[k]? = some y → ∀ t z, 0 < t → (t - 1) / 2 = i → t < last → c[t]? = some z → y ≤ z := fun k a b d => ⟨a, b, d⟩
          refine Pick.by (fun hc2 => ?_) (fun hc2 => ?_)
          · have hch2 : 2 * i + 2 < last := by simp at hc2; omega
            obtain ⟨y2, hy2⟩ : ∃ y, c[2 * i + 2]? = some y := ⟨_, List.getElem?_eq_getElem (by have := hsf.len; omega)⟩
            refine Pick.T (inI64_of (by omega) (by omega)) ?_
            refine Idx.by (2 * i + 2) (by omega) (by omega) ?_
            refine Look.by _ (by rw [Nat.zero_add]; exact ints_get hy2) ?_
            refine Idx.by (2 * i + 1) (by omega) (by omega) ?_
            refine Look.by _ (by rw [Nat.zero_add]; exact ints_get hy1) ?_
            refine Seg.by (by kernel_rfl) ?_
            refine JoinP.intro (α := Nat) (fun k => (k = 2 * i + 1 ∨ k = 2 * i + 2) ∧ k < last ∧ ∀ y, c[k]? = some y → ∀ t z, 0 < t → (t - 1) / 2 = i → t < last → c[t]? = some z → y ≤ z) (fun k => [(0, .ptr 4 0), (3, .sl 5 none (some (0, last))), (4, .s (.i .i64 out)), (5, .s (.i .i64 last)), (6, .s (.i .i64 i)), (7, .s (.i .i64 k)), (1000002, .ptr 0 0), (1000003, .ptr 1 0), (1000004, .ptr 4 0), (1000006, .sl 6 none none)])
              (fun k => [(0, some (.blk [.nils, .nils, .nils])), (1, some (.blk [.sl 2 none none, .sl 3 none none])), (2, some (.nest true 1 (rowsI N) [] [])), (3, some (.flat true 1 (bools G))), (4, some (.blk [.sl 5 none none])), (5, some (.flat true 1 (ints c))), (6, some (.flat true 4 (stps st)))]) 7 ?_ ?_
            rotate_left
            · rintro k ⟨hkk, hkl, hM⟩
              obtain ⟨y, hy⟩ : ∃ y, c[k]? = some y := ⟨_, List.getElem?_eq_getElem (by have := hsf.len; omega)⟩
              have hmin := hM y hy
              refine Idx.by i rfl (by omega) ?_
              refine Look.by _ (by rw [Nat.zero_add]; exact ints_get hx) ?_
              refine Idx.by k rfl (by omega) ?_
              refine Look.by _ (by rw [Nat.zero_add]; exact ints_get hy) ?_
              refine Seg.by (by kernel_rfl) ?_
              refine Pick.by (fun hc4 => ?_) (fun hc4 => ?_)
              · have hle : x ≤ y := by simpa using hc4
                refine ⟨c, ⟨hcm, hsf.len, hsf.perm, sift_done hsf fun t u v ht htp hu hv => ?_⟩, by refine Weak.by [(0, some _), (1, some _), (2, some _), (3, some _), (4, some _), (5, some _), (6, some _)] (by ((repeat' first | exact rfl | exact trivial | refine And.intro ?_ ?_) <;> (repeat' first | exact rfl | exact trivial | refine And.intro ?_ ?_))) (by ((repeat' first | exact rfl | exact trivial | refine And.intro ?_ ?_) <;> (repeat' first | exact rfl | exact trivial | refine And.intro ?_ ?_))) (by rfl)⟩
                have htk : t < last := by
                  have := (List.getElem?_eq_some_iff.1 hv).1
                  rw [List.length_take] at this
                  omega
                rw [tk_get (by omega), hx] at hu
                injection hu with hu
                have := hmin t v ht htp htk (by rw [← tk_get htk]; exact hv)
                omega
              · have hlt : y < x := by simpa using hc4
                refine Idx.by k rfl (by omega) ?_
                refine Look.by _ (by rw [Nat.zero_add]; exact ints_get hy) ?_
                refine Idx.by i rfl (by omega) ?_
                refine Look.by _ (by rw [Nat.zero_add]; exact ints_get hx) ?_
                refine Idx.by i rfl (by omega) ?_
                refine Look.by _ (by rw [Nat.zero_add]; exact ints_get hx) ?_
                refine Idx.by k rfl (by omega) ?_
                refine Look.by _ (by rw [Nat.zero_add, Nat.zero_add, List.getElem?_set_ne (by omega)]; exact ints_get hy) ?_
                refine Seg.by (by kernel_rfl) ?_
                refine Next.by (k, (c.set i y).set k x) ⟨sift_step hsf (by omega) (by omega) hkl hx hy hlt hmin, by dsimp only; omega, by rw [List.length_set, List.length_set]; exact hcm⟩ (by dsimp only; omega) (by refine Weak.by [(0, some _), (1, some _), (2, some _), (3, some _), (4, some _), (5, some _), (6, some _)] (by ((repeat' first | exact rfl | exact trivial | refine And.intro ?_ ?_) <;> (repeat' first | exact rfl | exact trivial | refine And.intro ?_ ?_)); all_goals ((rw [Nat.zero_add, Nat.zero_add, ints_set, ints_set]; rfl))) (by ((repeat' first | exact rfl | exact trivial | refine And.intro ?_ ?_) <;> (repeat' first | exact rfl | exact trivial | refine And.intro ?_ ?_)); all_goals ((rw [Nat.zero_add, Nat.zero_add, ints_set, ints_set]; rfl))) (by rfl))
            refine Pick.by (fun hc3 => ?_) (fun hc3 => ?_)
            · have hlt2 : y2 < y1 := by simpa using hc3
              refine Pick.T (inI64_of (by omega) (by omega)) ?_
              refine ⟨2 * i + 2, hjoin _ (.inr rfl) hch2 fun y hy t z ht htp htl hz => ?_, by refine Weak.by [(0, some _), (1, some _), (2, some _), (3, some _), (4, some _), (5, some _), (6, some _)] (by ((repeat' first | exact rfl | exact trivial | refine And.intro ?_ ?_) <;> (repeat' first | exact rfl | exact trivial | refine And.intro ?_ ?_)); all_goals ((exact sc_eq hk2.symm))) (by ((repeat' first | exact rfl | exact trivial | refine And.intro ?_ ?_) <;> (repeat' first | exact rfl | exact trivial | refine And.intro ?_ ?_)); all_goals ((exact sc_eq hk2.symm))) (by rfl)⟩
              have : t = 2 * i + 1 ∨ t = 2 * i + 2 := by omega
              rcases this with rfl | rfl
              · rw [hy2] at hy; rw [hy1] at hz; injection hy with hy; injection hz with hz; omega
              · rw [hy] at hz; injection hz with hz; omega
            · have hlt2 : ¬ y2 < y1 := by simpa using hc3
              refine ⟨2 * i + 1, hjoin _ (.inl rfl) hch fun y hy t z ht htp htl hz => ?_, by refine Weak.by [(0, some _), (1, some _), (2, some _), (3, some _), (4, some _), (5, some _), (6, some _)] (by ((repeat' first | exact rfl | exact trivial | refine And.intro ?_ ?_) <;> (repeat' first | exact rfl | exact trivial | refine And.intro ?_ ?_)); all_goals ((exact sc_eq hk1.symm))) (by ((repeat' first | exact rfl | exact trivial | refine And.intro ?_ ?_) <;> (repeat' first | exact rfl | exact trivial | refine And.intro ?_ ?_)); all_goals ((exact sc_eq hk1.symm))) (by rfl)⟩
              have : t = 2 * i + 1 ∨ t = 2 * i + 2 := by omega
              rcases this with rfl | rfl
              · rw [hy] at hz; injection hz with hz; omega
              · rw [hy1] at hy; rw [hy2] at hz; injection hy with hy; injection hz with hz; omega
          · have hch2 : ¬ 2 * i + 2 < last := by simp at hc2; omega
            refine Seg.by (by kernel_rfl) ?_
            refine JoinP.intro (α := Nat) (fun k => (k = 2 * i + 1 ∨ k = 2 * i + 2) ∧ k < last ∧ ∀ y, c[k]? = some y → ∀ t z, 0 < t → (t - 1) / 2 = i → t < last → c[t]? = some z → y ≤ z) (fun k => [(0, .ptr 4 0), (3, .sl 5 none (some (0, last))), (4, .s (.i .i64 out)), (5, .s (.i .i64 last)), (6, .s (.i .i64 i)), (7, .s (.i .i64 k)), (1000002, .ptr 0 0), (1000003, .ptr 1 0), (1000004, .ptr 4 0), (1000006, .sl 6 none none)])
              (fun k => [(0, some (.blk [.nils, .nils, .nils])), (1, some (.blk [.sl 2 none none, .sl 3 none none])), (2, some (.nest true 1 (rowsI N) [] [])), (3, some (.flat true 1 (bools G))), (4, some (.blk [.sl 5 none none])), (5, some (.flat true 1 (ints c))), (6, some (.flat true 4 (stps st)))]) 7 ?_ ?_
            rotate_left
            · rintro k ⟨hkk, hkl, hM⟩
              obtain ⟨y, hy⟩ : ∃ y, c[k]? = some y := ⟨_, List.getElem?_eq_getElem (by have := hsf.len; omega)⟩
              have hmin := hM y hy
              refine Idx.by i rfl (by omega) ?_
              refine Look.by _ (by rw [Nat.zero_add]; exact ints_get hx) ?_
              refine Idx.by k rfl (by omega) ?_
              refine Look.by _ (by rw [Nat.zero_add]; exact ints_get hy) ?_
              refine Seg.by (by kernel_rfl) ?_
              refine Pick.by (fun hc4 => ?_) (fun hc4 => ?_)
              · have hle : x ≤ y := by simpa using hc4
                refine ⟨c, ⟨hcm, hsf.len, hsf.perm, sift_done hsf fun t u v ht htp hu hv => ?_⟩, by refine Weak.by [(0, some _), (1, some _), (2, some _), (3, some _), (4, some _), (5, some _), (6, some _)] (by ((repeat' first | exact rfl | exact trivial | refine And.intro ?_ ?_) <;> (repeat' first | exact rfl | exact trivial | refine And.intro ?_ ?_))) (by ((repeat' first | exact rfl | exact trivial | refine And.intro ?_ ?_) <;> (repeat' first | exact rfl | exact trivial | refine And.intro ?_ ?_))) (by rfl)⟩
                have htk : t < last := by
                  have := (List.getElem?_eq_some_iff.1 hv).1
                  rw [List.length_take] at this
                  omega
                rw [tk_get (by omega), hx] at hu
                injection hu with hu
                have := hmin t v ht htp htk (by rw [← tk_get htk]; exact hv)
                omega
              · have hlt : y < x := by simpa using hc4
                refine Idx.by k rfl (by omega) ?_
                refine Look.by _ (by rw [Nat.zero_add]; exact ints_get hy) ?_
                refine Idx.by i rfl (by omega) ?_
                refine Look.by _ (by rw [Nat.zero_add]; exact ints_get hx) ?_
                refine Idx.by i rfl (by omega) ?_
                refine Look.by _ (by rw [Nat.zero_add]; exact ints_get hx) ?_
                refine Idx.by k rfl (by omega) ?_
                refine Look.by _ (by rw [Nat.zero_add, Nat.zero_add, List.getElem?_set_ne (by omega)]; exact ints_get hy) ?_
                refine Seg.by (by kernel_rfl) ?_
                refine Next.by (k, (c.set i y).set k x) ⟨sift_step hsf (by omega) (by omega) hkl hx hy hlt hmin, by dsimp only; omega, by rw [List.length_set, List.length_set]; exact hcm⟩ (by dsimp only; omega) (by refine Weak.by [(0, some _), (1, some _), (2, some _), (3, some _), (4, some _), (5, some _), (6, some _)] (by ((repeat' first | exact rfl | exact trivial | refine And.intro ?_ ?_) <;> (repeat' first | exact rfl | exact trivial | refine And.intro ?_ ?_)); all_goals ((rw [Nat.zero_add, Nat.zero_add, ints_set, ints_set]; rfl))) (by ((repeat' first | exact rfl | exact trivial | refine And.intro ?_ ?_) <;> (repeat' first | exact rfl | exact trivial | refine And.intro ?_ ?_)); all_goals ((rw [Nat.zero_add, Nat.zero_add, ints_set, ints_set]; rfl))) (by rfl))
            refine ⟨2 * i + 1, hjoin _ (.inl rfl) hch fun y hy t z ht htp htl hz => ?_, by refine Weak.by [(0, some _), (1, some _), (2, some _), (3, some _), (4, some _), (5, some _), (6, some _)] (by ((repeat' first | exact rfl | exact trivial | refine And.intro ?_ ?_) <;> (repeat' first | exact rfl | exact trivial | refine And.intro ?_ ?_)); all_goals ((exact sc_eq hk1.symm))) (by ((repeat' first | exact rfl | exact trivial | refine And.intro ?_ ?_) <;> (repeat' first | exact rfl | exact trivial | refine And.intro ?_ ?_)); all_goals ((exact sc_eq hk1.symm))) (by rfl)⟩
            have : t = 2 * i + 1 := by omega
            rw [this, hy] at hz; injection hz with hz; omega
        · have hch : ¬ 2 * i + 1 < last := by simp at hc1; omega
          refine ⟨c, ⟨hcm, hsf.len, hsf.perm, sift_done hsf fun t u v ht htp hu hv => ?_⟩, by refine Weak.by [(0, some _), (1, some _), (2, some _), (3, some _), (4, some _), (5, some _), (6, some _)] (by ((repeat' first | exact rfl | exact trivial | refine And.intro ?_ ?_) <;> (repeat' first | exact rfl | exact trivial | refine And.intro ?_ ?_))) (by ((repeat' first | exact rfl | exact trivial | refine And.intro ?_ ?_) <;> (repeat' first | exact rfl | exact trivial | refine And.intro ?_ ?_))) (by rfl)⟩
          have := (List.getElem?_eq_some_iff.1 hv).1
          rw [List.length_take] at this
          omega
      · have hz : l.length = 0 := by rw [ints_length, hlm] at hc; simpa using hc
        have hno : ∀ u, mayB N G u ≠ true := fun u hu => by
          have := hm u hu
          rw [List.eq_nil_of_length_eq_zero hz] at this
          simp at this
        rw [runS_end (firstMay_none hno), List.append_nil] at hrun
        rw [hrun]
        have hst4 : st.length ≤ 1000 := by omega
        have hGN := hW.len
        have hmo := hW.most
        have hNL := rowsI_length N
        refine LoopP.intro (α := Nat) (fun j => j ≤ N.length) (fun j => N.length - j) (fun j => [(2, .ptr 2 0), (4, .ptr 1 0), (5, .ptr 3 0), (13, .sl 4 none none), (14, .s (.i .i64 N.length)), (15, .s (.i .i64 j)), (1000002, .ptr 0 0)])
          (fun j => [(0, some (.blk [.nils, .nils, .nils])), (1, some (.blk [.nils, .nils, .nils])), (2, some (.blk [.sl 4 none none, .sl 5 none none])), (3, some (.blk [.sl 6 none none, .sl 7 none none, .sl 8 none none])), (4, some (.nest true 1 (rowsI N) [] [])), (5, some (.flat true 1 (bools G))), (6, some (.flat true 4 (stps st))), (7, some (.flat true 1 (ints (leftK G j)))), (8, some (.flat true 2 (edges (edgesK N G j))))]) 9 0 (by omega) (by refine Weak.by [(0, some _), (1, some _), (2, some _), (3, some _), (4, some _), (5, some _), (6, some _), (7, none), (8, none)] (by ((repeat' first | exact rfl | exact trivial | refine And.intro ?_ ?_) <;> (repeat' first | exact rfl | exact trivial | refine And.intro ?_ ?_)); all_goals ((first | (rw [hNL]; rfl) | done))) (by ((repeat' first | exact rfl | exact trivial | refine And.intro ?_ ?_) <;> (repeat' first | exact rfl | exact trivial | refine And.intro ?_ ?_)); all_goals ((first | (rw [hNL]; rfl) | done))) (by rfl)) ?_
        rintro j hj
        have hlk := leftK_len G j
        have hek := edgesK_len hW j
        refine Pick.by (fun hd1 => ?_) (fun hd1 => ?_)
        · have hjl : j < N.length := by simpa using hd1
          have hgj : (bools G)[j]? = some [.b (G.getD j false)] := by
            refine bools_get ?_
            rw [List.getD_eq_getElem?_getD, List.getElem?_eq_getElem (by omega)]; rfl
          have hrj : (rowsI N)[j]? = some (ints (rowAt N j)) := by
            have := (rowAt_mem (N := N) (v := (j : Int)) (by omega) (by omega)).2
            exact rowsI_get this
          have hrl := hW.row_len (j : Int)
          refine Idx.by j rfl (by omega) ?_
          refine Pick.T (by rw [hNL]; simp; omega) ?_
          refine Idx.by j rfl (by rw [bools_length]; omega) ?_
          refine Look.by _ hgj ?_
          refine Pick.by (fun hd2 => ?_) (fun hd2 => ?_)
          · have hd2 : G.getD j false = true := hd2
            refine Pick.T (inI64_of (by omega) (by omega)) ?_
            refine Next.by (j + 1) (by omega) (by omega) (by refine Weak.by [(0, some _), (1, some _), (2, some _), (3, some _), (4, some _), (5, some _), (6, some _), (7, some _), (8, some _)] (by ((repeat' first | exact rfl | exact trivial | refine And.intro ?_ ?_) <;> (repeat' first | exact rfl | exact trivial | refine And.intro ?_ ?_)); all_goals ((first | (rw [leftK_succ, if_pos hd2, List.append_nil]) | (rw [edgesK_succ, if_pos hd2, List.append_nil])))) (by ((repeat' first | exact rfl | exact trivial | refine And.intro ?_ ?_) <;> (repeat' first | exact rfl | exact trivial | refine And.intro ?_ ?_)); all_goals ((first | (rw [leftK_succ, if_pos hd2, List.append_nil]) | (rw [edgesK_succ, if_pos hd2, List.append_nil])))) (by rfl))
          have hd2 : G.getD j false = false := hd2
          have hl1 : leftK G (j + 1) = leftK G j ++ [(j : Int)] := by rw [leftK_succ, if_neg (by rw [hd2]; simp)]
          have he1 : edgesK N G (j + 1) = edgesK N G j ++ outE N j := by rw [edgesK_succ, if_neg (by rw [hd2]; simp)]
          refine Pick.T (by simp [cut, ints_length]; omega) ?_
          refine Look.by _ hrj ?_
          refine LoopP.intro (α := Nat) (fun k => k ≤ (rowAt N j).length) (fun k => (rowAt N j).length - k) (fun k => [(2, .ptr 2 0), (4, .ptr 1 0), (5, .ptr 3 0), (6, .s (.i .i64 j)), (13, .sl 4 none none), (14, .s (.i .i64 N.length)), (15, .s (.i .i64 j)), (31, .sl 4 (some (j, 0)) none), (32, .s (.i .i64 (rowAt N j).length)), (33, .s (.i .i64 k)), (1000002, .ptr 0 0)])
            (fun k => [(0, some (.blk [.nils, .nils, .nils])), (1, some (.blk [.nils, .nils, .nils])), (2, some (.blk [.sl 4 none none, .sl 5 none none])), (3, some (.blk [.sl 6 none none, .sl 7 none none, .sl 8 none none])), (4, some (.nest true 1 (rowsI N) [] [])), (5, some (.flat true 1 (bools G))), (6, some (.flat true 4 (stps st))), (7, some (.flat true 1 (ints (leftK G (j + 1))))), (8, some (.flat true 2 (edges (edgesK N G j ++ (((rowAt N j).take k).filter fun x => decide (x > (j : Int))).map fun x => ((j : Int), x)))))]) 9 0 (by omega) (by refine Weak.by [(0, some _), (1, some _), (2, some _), (3, some _), (4, some _), (5, some _), (6, some _), (7, some _), (8, some _)] (by ((repeat' first | exact rfl | exact trivial | refine And.intro ?_ ?_) <;> (repeat' first | exact rfl | exact trivial | refine And.intro ?_ ?_)); all_goals ((first | (rw [hl1, ints_snoc]; rfl) | (rw [List.take_zero]; simp; done) | (rw [ints_length]; rfl) | (simp; done)))) (by ((repeat' first | exact rfl | exact trivial | refine And.intro ?_ ?_) <;> (repeat' first | exact rfl | exact trivial | refine And.intro ?_ ?_)); all_goals ((first | (rw [hl1, ints_snoc]; rfl) | (rw [List.take_zero]; simp; done) | (rw [ints_length]; rfl) | (simp; done)))) (by rfl)) ?_
          rintro k hk
          have hpl : ((((rowAt N j).take k).filter fun x => decide (x > (j : Int))).map fun x => ((j : Int), x)).length ≤ 1000 := by
            rw [List.length_map]
            refine Nat.le_trans (List.length_filter_le _ _) ?_
            rw [List.length_take]; omega
          refine Pick.by (fun hd3 => ?_) (fun hd3 => ?_)
          · have hkl : k < (rowAt N j).length := by simpa using hd3
            obtain ⟨x, hx⟩ : ∃ x, (rowAt N j)[k]? = some x := ⟨_, List.getElem?_eq_getElem hkl⟩
            have hxe : (rowAt N j)[k] = x := by rw [List.getElem?_eq_getElem hkl] at hx; injection hx
            refine Look.by _ hrj ?_
            refine Idx.by k rfl (by rw [ints_length]; exact hkl) ?_
            refine Look.by _ hrj ?_
            refine Look.by _ (ints_get hx) ?_
            refine Pick.by (fun hd4 => ?_) (fun hd4 => ?_)
            · have hd4 : x > (j : Int) := by simpa using hd4
              refine Pick.T (by simp [cut, edges_length] at hpl ⊢; omega) ?_
              refine Pick.T (inI64_of (by omega) (by omega)) ?_
              refine Next.by (k + 1) (by omega) (by omega) (by refine Weak.by [(0, some _), (1, some _), (2, some _), (3, some _), (4, some _), (5, some _), (6, some _), (7, some _), (8, some _)] (by ((repeat' first | exact rfl | exact trivial | refine And.intro ?_ ?_) <;> (repeat' first | exact rfl | exact trivial | refine And.intro ?_ ?_)); all_goals ((first | (rw [List.take_succ_eq_append_getElem hkl, hxe, List.filter_append, List.map_append, List.filter_cons, if_pos (by simpa using hd4), List.filter_nil, ← List.append_assoc]; exact edges_snoc _ _) | (simp; done)))) (by ((repeat' first | exact rfl | exact trivial | refine And.intro ?_ ?_) <;> (repeat' first | exact rfl | exact trivial | refine And.intro ?_ ?_)); all_goals ((first | (rw [List.take_succ_eq_append_getElem hkl, hxe, List.filter_append, List.map_append, List.filter_cons, if_pos (by simpa using hd4), List.filter_nil, ← List.append_assoc]; exact edges_snoc _ _) | (simp; done)))) (by rfl))
            · have hd4 : ¬ x > (j : Int) := by simpa using hd4
              refine Pick.T (inI64_of (by omega) (by omega)) ?_
              refine Next.by (k + 1) (by omega) (by omega) (by refine Weak.by [(0, some _), (1, some _), (2, some _), (3, some _), (4, some _), (5, some _), (6, some _), (7, some _), (8, some _)] (by ((repeat' first | exact rfl | exact trivial | refine And.intro ?_ ?_) <;> (repeat' first | exact rfl | exact trivial | refine And.intro ?_ ?_)); all_goals ((first | (rw [List.take_succ_eq_append_getElem hkl, hxe, List.filter_append, List.map_append, List.filter_cons, if_neg (by simpa using hd4), List.filter_nil, List.map_nil, List.append_nil]) | (simp; done)))) (by ((repeat' first | exact rfl | exact trivial | refine And.intro ?_ ?_) <;> (repeat' first | exact rfl | exact trivial | refine And.intro ?_ ?_)); all_goals ((first | (rw [List.take_succ_eq_append_getElem hkl, hxe, List.filter_append, List.map_append, List.filter_cons, if_neg (by simpa using hd4), List.filter_nil, List.map_nil, List.append_nil]) | (simp; done)))) (by rfl))
          · have hkl : k = (rowAt N j).length := by simp at hd3; omega
            have hfull : edgesK N G (j + 1) = edgesK N G j ++ (((rowAt N j).take k).filter fun x => decide (x > (j : Int))).map fun x => ((j : Int), x) := by rw [he1, hkl, List.take_length]; rfl
            refine Pick.T (inI64_of (by omega) (by omega)) ?_
            refine Next.by (j + 1) (by omega) (by omega) (by refine Weak.by [(0, some _), (1, some _), (2, some _), (3, some _), (4, some _), (5, some _), (6, some _), (7, some _), (8, some _)] (by ((repeat' first | exact rfl | exact trivial | refine And.intro ?_ ?_) <;> (repeat' first | exact rfl | exact trivial | refine And.intro ?_ ?_)); all_goals ((rw [hfull]))) (by ((repeat' first | exact rfl | exact trivial | refine And.intro ?_ ?_) <;> (repeat' first | exact rfl | exact trivial | refine And.intro ?_ ?_)); all_goals ((rw [hfull]))) (by rfl))
        have hjl : j = N.length := by simp at hd1; omega
        subst hjl
        have e1 : leftF G = leftK G N.length := by unfold leftF leftK; rw [hGN]
        have e2 : edgesF N G = edgesK N G N.length := by unfold edgesF edgesK; rw [e1]
        refine ⟨rfl, ?_⟩
        (repeat' first | exact rfl | exact trivial | refine And.intro ?_ ?_)
        all_goals (first | exact congrArg ints e1 | exact congrArg edges e2)
    · have hlm : m.take L = cut (some (0, L)) m := rfl
      generalize cut (some (0, L)) m = l at *
      have hLl : l.length = L := by rw [← hlm, List.length_take]; omega
      have hget : ∀ j, j < L → l[j]? = m[j]? := fun j hj => by rw [← hlm, List.getElem?_take, if_pos hj]
      refine Pick.by (fun hc => ?_) (fun hc => ?_)
      · have hpos : 0 < l.length := by rw [hLl]; simpa using hc
        obtain ⟨out, hout⟩ : ∃ a, l[0]? = some a := ⟨_, List.getElem?_eq_getElem hpos⟩
        obtain ⟨last, hlst⟩ : ∃ k, l.length = k + 1 := ⟨l.length - 1, by omega⟩
        obtain ⟨top, htop⟩ : ∃ a, l[last]? = some a := ⟨_, List.getElem?_eq_getElem (by omega)⟩
        have hlast : (L : Int) - 1 = (last : Int) := by omega
        have hout2 : m[0]? = some out := by rw [← hget 0 (by omega)]; exact hout
        have htop2 : m[last]? = some top := by rw [← hget last (by omega)]; exact htop
        have hsift : Sift l out last (m.set 0 top) 0 := by
          have e : (m.set 0 top).take last = (l.set 0 top).take last := by
            rw [← hlm, List.take_set, List.take_set, List.take_take, Nat.min_eq_left (by omega)]
          exact ⟨by rw [List.length_set]; omega, by rw [e]; exact take_perm hout htop hlst, by rw [e]; exact dn_start hH _⟩
        refine Idx.by 0 rfl (by omega) ?_
        refine Look.by _ (ints_get hout2) ?_
        refine Pick.T (by rw [hlast]; exact inI64_of (by omega) (by omega)) ?_
        refine Idx.by last hlast (by omega) ?_
        refine Look.by _ (by rw [Nat.zero_add]; exact ints_get htop2) ?_
        refine Idx.by 0 rfl (by omega) ?_
        refine Look.by _ (ints_get hout2) ?_
        refine Rng.by 0 last rfl hlast (by omega) (by omega) ?_
        refine JoinP.intro (α := List Int) (fun c => c.length = m.length ∧ last ≤ c.length ∧ (out :: c.take last).Perm l ∧ Heap (c.take last)) (fun c => [(0, .ptr 4 0), (3, .sl 5 none (some (0, last))), (4, .s (.i .i64 out)), (1000002, .ptr 0 0), (1000003, .ptr 1 0), (1000004, .ptr 4 0), (1000006, .sl 6 none none)])
          (fun c => [(0, some (.blk [.nils, .nils, .nils])), (1, some (.blk [.sl 2 none none, .sl 3 none none])), (2, some (.nest true 1 (rowsI N) [] [])), (3, some (.flat true 1 (bools G))), (4, some (.blk [.sl 5 none (some (0, L))])), (5, some (.flat true 1 (ints c))), (6, some (.flat true 4 (stps st)))]) 7 ?_ ?_
        rotate_left
        · rintro c ⟨hcm, hlc, hperm, hHc⟩
          have hGN := hW.len
          have hq0 : ∀ v, v ∈ c.take last → v ∈ l := fun v hv => hperm.mem_iff.1 (List.mem_cons_of_mem _ hv)
          have hq1 : ∀ v, v ∈ l → v = out ∨ v ∈ c.take last := fun v hv => by simpa using hperm.mem_iff.2 hv
          have hqr : ∀ v ∈ c.take last, 0 ≤ v ∧ v < n := fun v hv => hr v (hq0 v hv)
          have hqc : cut (some (0, last)) c = c.take last := rfl
          have hqlen : (c.take last).length = last := by rw [List.length_take]; omega
          have hor := hr out (List.mem_of_getElem? hout)
          refine Call.by _ _ (MayC_at out hGN) ?_
          refine Pick.by (fun hmy => ?_) (fun hmy => ?_)
          · have hmy : mayB N G out = false := by have hmy : (!mayB N G out) = true := hmy; simpa using hmy
            refine Next.by (st, N, G, some (0, last), c) ⟨hW, hNl, hrun, hlive, .inr ⟨last, rfl, hlc⟩, by dsimp only; omega, by dsimp only; rw [hqc]; omega, hHc, hqr, fun v hv => ?_⟩ (by dsimp only; rw [hqc]; omega) (by refine Weak.by [(0, some _), (1, some _), (2, some _), (3, some _), (4, some _), (5, some _), (6, some _)] (by ((repeat' first | exact rfl | exact trivial | refine And.intro ?_ ?_) <;> (repeat' first | exact rfl | exact trivial | refine And.intro ?_ ?_))) (by ((repeat' first | exact rfl | exact trivial | refine And.intro ?_ ?_) <;> (repeat' first | exact rfl | exact trivial | refine And.intro ?_ ?_))) (by rfl))
            rcases hq1 v (hm v hv) with e | e
            · rw [e, hmy] at hv; cases hv
            · exact e
          have hmy : mayB N G out = true := by have hmy : (!mayB N G out) = false := hmy; simpa using hmy
          have hmp := mayB_iff.1 hmy
          obtain ⟨hs1, hs2⟩ := step_two hW hmp rfl
          refine Call.by _ _ (StepC_at ⟨hW, hmp.lo, hmp.hi⟩) ?_
          have hlo := hmp.lo
          have hhi := hmp.hi
          have hrv := hW.rows out
          have hnd : (rowAt N out).Nodup := hrv.1.imp fun hab => by omega
          have hNL := rowsI_length N
          have hmo := hW.most
          have hrl := hW.row_len out
          have hgv : (rowsI N)[(out).toNat]? = some (ints (rowAt N out)) := rowsI_get (rowAt_mem hlo hhi).2
          have hvv : out ∉ rowAt N out := hW.irr out hlo
          have hpart : ∀ (di : Nat) (u : Int), 0 ≤ u → rowAt (((rowAt N out).take di).foldl (cutF out) N) u = if u ∈ (rowAt N out).take di then (rowAt N u).erase out else rowAt N u := fun di u hu => cuts_row (hnd.sublist (List.take_sublist _ _)) (fun x hx => hrv.2 x (List.mem_of_mem_take hx)) hu
          have hplen : ∀ di : Nat, (rowsI (((rowAt N out).take di).foldl (cutF out) N)).length = N.length := fun di => by rw [rowsI_length, cuts_length]
          have hpget : ∀ (di : Nat) (u : Int), 0 ≤ u → u < N.length → (rowsI (((rowAt N out).take di).foldl (cutF out) N))[u.toNat]? = some (ints (rowAt (((rowAt N out).take di).foldl (cutF out) N) u)) := fun di u h0 h1 => rowsI_get (rowAt_mem h0 (by rw [cuts_length]; exact h1)).2
          refine Idx.by (out).toNat (by show (out : Int) = _; omega) (by omega) ?_
          refine Pick.T (by rw [hNL]; simp; omega) ?_
          refine Look.by _ hgv ?_
          refine LoopP.intro (α := Nat) (fun di => di ≤ (rowAt N out).length) (fun di => (rowAt N out).length - di) (fun di => [(2, .ptr 8 0), (3, .ptr 9 0), (11, .sl 2 (some ((out).toNat, 0)) none), (12, .s (.i .i64 (rowAt N out).length)), (13, .s (.i .i64 di)), (1000002, .ptr 0 0), (1000003, .ptr 1 0), (1000004, .ptr 4 0), (1000006, .sl 6 none none), (1000008, .ptr 7 0)])
            (fun di => [(0, some (.blk [.nils, .nils, .nils])), (1, some (.blk [.sl 2 none none, .sl 3 none none])), (4, some (.blk [.sl 5 none (some (0, last))])), (5, some (.flat true 1 (ints c))), (6, some (.flat true 4 (stps st))), (7, some (.blk [.s (.i .i64 (stepF N out).1), .s (.i .i64 (stepF N out).2.1), .s (.i .i64 (stepF N out).2.2.1), .s (.b (stepF N out).2.2.2)])), (2, some (.nest true 1 (rowsI (((rowAt N out).take di).foldl (cutF out) N)) [] [])), (3, some (.flat true 1 (bools G))), (8, some (.blk [.sl 2 none none, .sl 3 none none])), (9, some (.blk [.s (.i .i64 (stepF N out).1), .s (.i .i64 (stepF N out).2.1), .s (.i .i64 (stepF N out).2.2.1), .s (.b (stepF N out).2.2.2)]))]) 10 0 (by omega) (by refine Weak.by [(0, some _), (1, some _), (2, some _), (3, some _), (4, some _), (5, some _), (6, some _), (7, some _), (8, some _), (9, some _)] (by ((repeat' first | exact rfl | exact trivial | refine And.intro ?_ ?_) <;> (repeat' first | exact rfl | exact trivial | refine And.intro ?_ ?_)); all_goals ((first | (rw [ints_length]; rfl) | (simp; done)))) (by ((repeat' first | exact rfl | exact trivial | refine And.intro ?_ ?_) <;> (repeat' first | exact rfl | exact trivial | refine And.intro ?_ ?_)); all_goals ((first | (rw [ints_length]; rfl) | (simp; done)))) (by rfl)) ?_
          rintro di hi
          refine Pick.by (fun hc1 => ?_) (fun hc1 => ?_)
          · have hil : di < (rowAt N out).length := by simpa using hc1
            obtain ⟨x, hx⟩ : ∃ x, (rowAt N out)[di]? = some x := ⟨_, List.getElem?_eq_getElem hil⟩
            have hxm := List.mem_of_getElem? hx
            have hxr := hrv.2 x hxm
            have hxv : x ≠ out := fun e => hvv (e ▸ hxm)
            have hgi : (rowsI (((rowAt N out).take di).foldl (cutF out) N))[(out).toNat]? = some (ints (rowAt N out)) := by
              rw [hpget di out hlo hhi, hpart di out hlo, if_neg fun h => hvv (List.mem_of_mem_take h)]
            have hrx := hpget di x hxr.1 hxr.2
            have hstp : ((rowAt N out).take (di + 1)).foldl (cutF out) N = cutF out (((rowAt N out).take di).foldl (cutF out) N) x := by
              rw [List.take_succ_eq_append_getElem hil, List.foldl_append]
              have : (rowAt N out)[di] = x := by rw [List.getElem?_eq_getElem hil] at hx; injection hx
              rw [this]; rfl
            have hwx : (rowAt (((rowAt N out).take di).foldl (cutF out) N) x).Pairwise (· ≤ ·) ∧ (rowAt (((rowAt N out).take di).foldl (cutF out) N) x).length ≤ 1000000 := by
              have h1 := hW.rows x
              have h2 := hW.row_len x
              rw [hpart di x hxr.1]
              split
              · have h3 := List.length_erase_le (l := rowAt N x) (a := out)
                exact ⟨(erase_sorted h1.1).imp fun h => by omega, by omega⟩
              · exact ⟨h1.1.imp fun h => by omega, by omega⟩
            have hpl := hplen di
            refine Look.by _ hgi ?_
            refine Idx.by di rfl (by rw [ints_length]; exact hil) ?_
            refine Look.by _ hgi ?_
            refine Look.by _ (ints_get hx) ?_
            refine Idx.by x.toNat (by omega) (by omega) ?_
            refine Pick.T (by rw [hpl]; simp; omega) ?_
            refine Look.by _ hrx ?_
            refine Call.by _ _ (turnC_at hwx) ?_
            refine Idx.by x.toNat (by omega) (by omega) ?_
            refine Pick.T (by rw [hpl]; simp; omega) ?_
            refine Pick.T (by simp) ?_
            refine Seg.by (by kernel_rfl) ?_
            refine Pick.T (inI64_of (by omega) (by omega)) ?_
            refine Next.by (di + 1) (by omega) (by omega) (by refine Weak.by [(0, some _), (1, some _), (2, some _), (3, some _), (4, some _), (5, some _), (6, some _), (7, some _), (8, some _), (9, some _)] (by ((repeat' first | exact rfl | exact trivial | refine And.intro ?_ ?_) <;> (repeat' first | exact rfl | exact trivial | refine And.intro ?_ ?_)); all_goals ((first | (rw [hstp]; unfold cutF; rw [rowsI_set]; rfl) | (simp; done) | (simp; omega)))) (by ((repeat' first | exact rfl | exact trivial | refine And.intro ?_ ?_) <;> (repeat' first | exact rfl | exact trivial | refine And.intro ?_ ?_)); all_goals ((first | (rw [hstp]; unfold cutF; rw [rowsI_set]; rfl) | (simp; done) | (simp; omega)))) (by rfl))
          have hil : di = (rowAt N out).length := by simp at hc1; omega
          subst hil
          rw [List.take_length]
          have hN1 : ∀ u : Int, 0 ≤ u → rowAt ((rowAt N out).foldl (cutF out) N) u = (rowAt N u).erase out := fun u hu => by
            rw [cuts_row hnd hrv.2 hu]
            split
            · rfl
            · rename_i hno
              rw [List.erase_of_not_mem]
              exact fun h => hno (hW.sym u out hu hlo h)
          have hl1 : (rowsI ((rowAt N out).foldl (cutF out) N)).length = N.length := by rw [rowsI_length, cuts_length]
          refine JoinP.intro (α := Unit) (fun _ => True) (fun _ => [(2, .ptr 8 0), (3, .ptr 9 0), (1000002, .ptr 0 0), (1000003, .ptr 1 0), (1000004, .ptr 4 0), (1000006, .sl 6 none none), (1000008, .ptr 7 0)])
            (fun _ => [(0, some (.blk [.nils, .nils, .nils])), (1, some (.blk [.sl 2 none none, .sl 3 none none])), (4, some (.blk [.sl 5 none (some (0, last))])), (5, some (.flat true 1 (ints c))), (6, some (.flat true 4 (stps st))), (7, some (.blk [.s (.i .i64 (stepF N out).1), .s (.i .i64 (stepF N out).2.1), .s (.i .i64 (stepF N out).2.2.1), .s (.b (stepF N out).2.2.2)])), (2, some (.nest true 1 (rowsI (if (stepF N out).2.2.2 then joinF (joinF ((rowAt N out).foldl (cutF out) N) (stepF N out).2.1 (stepF N out).2.2.1) (stepF N out).2.2.1 (stepF N out).2.1 else (rowAt N out).foldl (cutF out) N)) [] [])), (3, some (.flat true 1 (bools G))), (8, some (.blk [.sl 2 none none, .sl 3 none none])), (9, some (.blk [.s (.i .i64 (stepF N out).1), .s (.i .i64 (stepF N out).2.1), .s (.i .i64 (stepF N out).2.2.1), .s (.b (stepF N out).2.2.2)]))]) 10 ?_ ?_
          rotate_left
          · rintro ⟨⟩ -
            have hl2 : (rowsI (if (stepF N out).2.2.2 then joinF (joinF ((rowAt N out).foldl (cutF out) N) (stepF N out).2.1 (stepF N out).2.2.1) (stepF N out).2.2.1 (stepF N out).2.1 else (rowAt N out).foldl (cutF out) N)).length = N.length := by
              rw [rowsI_length]
              split
              · rw [joinF_length, joinF_length, cuts_length]
              · rw [cuts_length]
            have hdo : (rowsI (if (stepF N out).2.2.2 then joinF (joinF ((rowAt N out).foldl (cutF out) N) (stepF N out).2.1 (stepF N out).2.2.1) (stepF N out).2.2.1 (stepF N out).2.1 else (rowAt N out).foldl (cutF out) N)).set (out).toNat [] = rowsI (doN N (stepF N out)) := by
              unfold doN
              rw [rowsI_set]; rfl
            have hdg : (bools G).set (out).toNat [.b true] = bools (doG G (stepF N out)) := by
              unfold doG bools
              rw [List.map_set]; rfl
            generalize rowsI (if (stepF N out).2.2.2 then joinF (joinF ((rowAt N out).foldl (cutF out) N) (stepF N out).2.1 (stepF N out).2.2.1) (stepF N out).2.2.1 (stepF N out).2.1 else (rowAt N out).foldl (cutF out) N) = RR at hl2 hdo ⊢
            refine Idx.by (out).toNat (by show (out : Int) = _; omega) (by omega) ?_
            refine Pick.T (by rw [hl2]; simp; omega) ?_
            refine Idx.by (out).toNat (by show (out : Int) = _; omega) (by rw [bools_length, hW.len]; omega) ?_
            refine Look.by _ (bools_get (goneAt_get hW.len hlo hhi)) ?_
            refine Seg.by (by kernel_rfl) ?_
            have hW2 := do_wf hW hmp
            have hNl2 : (doN N (stepF N out)).length = n.toNat := by rw [doN_length]; exact hNl
            have hGN2 : (doG G (stepF N out)).length = (doN N (stepF N out)).length := hW2.len
            have hlv := live_step hW hmp
            have hst4 : st.length + 1 ≤ n.toNat := by omega
            have hrun2 := run_step hrun hW hmy hst4 (fun v hv => heap_least hHc hH hout hperm hm hv)
            have hmay2 : ∀ v, mayB (doN N (stepF N out)) (doG G (stepF N out)) v = true → v ∈ c.take last ∨ v = (stepF N out).2.1 ∨ v = (stepF N out).2.2.1 := fun v hv => may_step hW hmp hs2 hv fun h2 hne => (hq1 v (hm v h2)).elim (fun e => absurd e hne) id
            generalize hN2 : doN N (stepF N out) = N2 at *
            generalize hG2 : doG G (stepF N out) = G2 at *
            generalize hsG : stepF N out = s at *
            refine Pick.T (by simp [cut, stps_length]; omega) ?_
            refine LoopP.intro (α := Nat × Option (Nat × Nat) × List Int) (fun a => a.1 ≤ 2 ∧ (a.2.1 = none ∨ ∃ L, a.2.1 = some (0, L) ∧ L ≤ a.2.2.length) ∧ a.2.2.length ≤ 4000 ∧ (cut a.2.1 a.2.2).length ≤ last + a.1 ∧ Heap (cut a.2.1 a.2.2) ∧ (∀ v ∈ cut a.2.1 a.2.2, 0 ≤ v ∧ v < n) ∧ ∀ v : Int, mayB N2 G2 v = true → v ∈ cut a.2.1 a.2.2 ∨ (a.1 ≤ 0 ∧ v = s.2.1) ∨ (a.1 ≤ 1 ∧ v = s.2.2.1)) (fun a => 2 - a.1) (fun a => [(2, .ptr 0 0), (3, .ptr 1 0), (4, .ptr 4 0), (6, .sl 6 none none), (51, .sl 7 none none), (52, .s (.i .i64 2)), (53, .s (.i .i64 a.1))])
              (fun a => [(0, some (.blk [.nils, .nils, .nils])), (1, some (.blk [.sl 2 none none, .sl 3 none none])), (2, some (.nest true 1 (rowsI N2) [] [])), (3, some (.flat true 1 (bools G2))), (4, some (.blk [.sl 5 none a.2.1])), (5, some (.flat true 1 (ints a.2.2))), (6, some (.flat true 4 (stps (st ++ [s])))), (7, some (.flat true 1 (ints [s.2.1, s.2.2.1])))]) 8 (0, some (0, last), c)
              ⟨by dsimp only; omega, .inr ⟨last, rfl, hlc⟩, by dsimp only; omega, by dsimp only; rw [hqc]; omega, hHc, hqr, fun v hv => (hmay2 v hv).elim .inl fun h => h.elim (fun h => .inr (.inl ⟨by dsimp only; omega, h⟩)) fun h => .inr (.inr ⟨by dsimp only; omega, h⟩)⟩ (by refine Weak.by [(0, some _), (1, some _), (2, some _), (3, some _), (4, some _), (5, some _), (6, some _), (7, some _)] (by ((repeat' first | exact rfl | exact trivial | refine And.intro ?_ ?_) <;> (repeat' first | exact rfl | exact trivial | refine And.intro ?_ ?_)); all_goals ((first | (exact stps_snoc st s) | (exact hdo.symm) | (exact hdg.symm)))) (by ((repeat' first | exact rfl | exact trivial | refine And.intro ?_ ?_) <;> (repeat' first | exact rfl | exact trivial | refine And.intro ?_ ?_)); all_goals ((first | (exact stps_snoc st s) | (exact hdo.symm) | (exact hdg.symm)))) (by rfl)) ?_
            rintro ⟨i, sub2, m2⟩ ⟨hi2, hsub2, hm24, hcl2, hH2, hr2, hmv2⟩
            dsimp only at hi2 hsub2 hm24 hcl2 hH2 hr2 hmv2 ⊢
            refine Pick.by (fun hc5 => ?_) (fun hc5 => ?_)
            · have hi3 : i < 2 := by simp at hc5; omega
              obtain ⟨x, hx⟩ : ∃ x, [s.2.1, s.2.2.1][i]? = some x := ⟨_, List.getElem?_eq_getElem (show i < [s.2.1, s.2.2.1].length from hi3)⟩
              have hxi : (i = 0 ∧ x = s.2.1) ∨ (i = 1 ∧ x = s.2.2.1) := by
                have : i = 0 ∨ i = 1 := by omega
                rcases this with e | e
                · subst e; simp at hx; exact .inl ⟨rfl, hx.symm⟩
                · subst e; simp at hx; exact .inr ⟨rfl, hx.symm⟩
              refine Idx.by i rfl (by rw [ints_length]; exact hi3) ?_
              refine Look.by _ (ints_get hx) ?_
              refine Call.by _ _ (MayC_at x hGN2) ?_
              refine JoinP.intro (α := Option (Nat × Nat) × List Int) (fun b => (b.1 = none ∨ ∃ L, b.1 = some (0, L) ∧ L ≤ b.2.length) ∧ b.2.length ≤ 4000 ∧ (cut b.1 b.2).length ≤ last + i + 1 ∧ Heap (cut b.1 b.2) ∧ (∀ v ∈ cut b.1 b.2, 0 ≤ v ∧ v < n) ∧ ∀ v : Int, mayB N2 G2 v = true → v ∈ cut b.1 b.2 ∨ (i + 1 ≤ 0 ∧ v = s.2.1) ∨ (i + 1 ≤ 1 ∧ v = s.2.2.1)) (fun b => [(2, .ptr 0 0), (3, .ptr 1 0), (4, .ptr 4 0), (6, .sl 6 none none), (51, .sl 7 none none), (52, .s (.i .i64 2)), (53, .s (.i .i64 i))])
                (fun b => [(0, some (.blk [.nils, .nils, .nils])), (1, some (.blk [.sl 2 none none, .sl 3 none none])), (2, some (.nest true 1 (rowsI N2) [] [])), (3, some (.flat true 1 (bools G2))), (4, some (.blk [.sl 5 none b.1])), (5, some (.flat true 1 (ints b.2))), (6, some (.flat true 4 (stps (st ++ [s])))), (7, some (.flat true 1 (ints [s.2.1, s.2.2.1])))]) 8 ?_ ?_
              rotate_left
              · rintro ⟨sub3, m3⟩ hJ
                refine Pick.T (inI64_of (by omega) (by omega)) ?_
                exact Next.by (i + 1, sub3, m3) ⟨by dsimp only; omega, hJ⟩ (by dsimp only; omega) (by refine Weak.by [(0, some _), (1, some _), (2, some _), (3, some _), (4, some _), (5, some _), (6, some _), (7, some _)] (by ((repeat' first | exact rfl | exact trivial | refine And.intro ?_ ?_) <;> (repeat' first | exact rfl | exact trivial | refine And.intro ?_ ?_))) (by ((repeat' first | exact rfl | exact trivial | refine And.intro ?_ ?_) <;> (repeat' first | exact rfl | exact trivial | refine And.intro ?_ ?_))) (by rfl))
              refine Pick.by (fun hc6 => ?_) (fun hc6 => ?_)
              · have hc6 : mayB N2 G2 x = true := hc6
                have hxr2 : 0 ≤ x ∧ x < n := may_range hNl2 hc6
                have hH := hH2
                refine Pick.T (by simp [cut, ints_length]; omega) ?_
                have hraw : cut sub2 (ints m2) = ints (cut sub2 m2) := cut_ints
                have hlen0 : (cut sub2 (ints m2) ++ [[Sc.i .i64 x]]) = ints ((cut sub2 m2) ++ [x]) := by rw [hraw, ints_snoc]
                refine Pick.T (by show inI64 ((((cut sub2 (ints m2) ++ [[Sc.i .i64 x]]).length : Nat) : Int) - 1) = true; rw [hlen0, ints_length]; simp; exact inI64_of (by omega) (by omega)) ?_
                have hlen1 : (((cut sub2 m2).length : Nat) : Int) = (((cut sub2 (ints m2) ++ [[Sc.i .i64 x]]).length : Nat) : Int) - 1 := by rw [hlen0, ints_length]; simp
                refine JoinP.intro (α := List Int) (fun a => Heap a ∧ a.length = (cut sub2 m2).length + 1 ∧ ∀ v, v ∈ a ↔ v ∈ (cut sub2 m2) ∨ v = x) (fun a => [(0, .ptr 4 0), (4, .sl 8 none none), (1000002, .ptr 0 0), (1000003, .ptr 1 0), (1000004, .ptr 4 0), (1000006, .sl 6 none none), (1000051, .sl 7 none none), (1000052, .s (.i .i64 2)), (1000053, .s (.i .i64 i))])
                  (fun a => [(0, some (.blk [.nils, .nils, .nils])), (1, some (.blk [.sl 2 none none, .sl 3 none none])), (2, some (.nest true 1 (rowsI N2) [] [])), (3, some (.flat true 1 (bools G2))), (4, some (.blk [.sl 5 none sub2])), (6, some (.flat true 4 (stps (st ++ [s])))), (7, some (.flat true 1 (ints [s.2.1, s.2.2.1]))), (8, some (.flat true 1 (ints a)))]) 9 ?_ ?_
                rotate_left
                · rintro m ⟨hHm, hml2, hmem⟩
                  exact ⟨(none, m), ⟨.inl rfl, by dsimp only; omega, by show m.length ≤ _; omega, hHm, fun v hv => ((hmem v).1 hv).elim (hr2 v) fun e => by rw [e]; exact hxr2, fun v hv => put_may hxi (hmem v).2 (hmv2 v hv)⟩, by refine Weak.by [(0, some _), (1, some _), (2, some _), (3, some _), (4, some _), (5, some _), (6, some _), (7, some _)] (by ((repeat' first | exact rfl | exact trivial | refine And.intro ?_ ?_) <;> (repeat' first | exact rfl | exact trivial | refine And.intro ?_ ?_))) (by ((repeat' first | exact rfl | exact trivial | refine And.intro ?_ ?_) <;> (repeat' first | exact rfl | exact trivial | refine And.intro ?_ ?_))) (by rfl)⟩
                refine LoopP.intro (α := Nat × List Int) (fun a => a.2.Perm ((cut sub2 m2) ++ [x]) ∧ HUp a.2 a.1 ∧ a.1 < a.2.length) (fun a => a.1) (fun a => [(0, .ptr 4 0), (4, .sl 8 none none), (5, .s (.i .i64 a.1)), (1000002, .ptr 0 0), (1000003, .ptr 1 0), (1000004, .ptr 4 0), (1000006, .sl 6 none none), (1000051, .sl 7 none none), (1000052, .s (.i .i64 2)), (1000053, .s (.i .i64 i))])
                  (fun a => [(0, some (.blk [.nils, .nils, .nils])), (1, some (.blk [.sl 2 none none, .sl 3 none none])), (2, some (.nest true 1 (rowsI N2) [] [])), (3, some (.flat true 1 (bools G2))), (4, some (.blk [.sl 5 none sub2])), (6, some (.flat true 4 (stps (st ++ [s])))), (7, some (.flat true 1 (ints [s.2.1, s.2.2.1]))), (8, some (.flat true 1 (ints a.2)))]) 9 ((cut sub2 m2).length, (cut sub2 m2) ++ [x]) ⟨List.Perm.refl _, up_start hH _, by simp⟩ (by refine Weak.by [(0, some _), (1, some _), (2, some _), (3, some _), (4, some _), (5, some _), (6, some _), (7, some _), (8, some _)] (by ((repeat' first | exact rfl | exact trivial | refine And.intro ?_ ?_) <;> (repeat' first | exact rfl | exact trivial | refine And.intro ?_ ?_)); all_goals ((first | (exact hlen0.symm) | (exact sc_eq hlen1)))) (by ((repeat' first | exact rfl | exact trivial | refine And.intro ?_ ?_) <;> (repeat' first | exact rfl | exact trivial | refine And.intro ?_ ?_)); all_goals ((first | (exact hlen0.symm) | (exact sc_eq hlen1)))) (by rfl)) ?_
                rintro ⟨p, m⟩ ⟨hperm, hup, hpm⟩
                dsimp only at hperm hup hpm ⊢
                have hml : m.length = (cut sub2 m2).length + 1 := by rw [hperm.length_eq]; simp
                have hpq : 0 < p → ((p : Int) - 1).tdiv 2 = (((p - 1) / 2 : Nat) : Int) := fun h => by rw [show (p : Int) - 1 = ((p - 1 : Nat) : Int) by omega]; rfl
                have hput : Heap m → Heap m ∧ m.length = (cut sub2 m2).length + 1 ∧ ∀ v, v ∈ m ↔ v ∈ (cut sub2 m2) ∨ v = x := fun h => ⟨h, hml, fun v => by rw [hperm.mem_iff]; simp⟩
                refine Pick.by (fun hc1 => ?_) (fun hc1 => ?_)
                · have hp0 : 0 < p := by simp at hc1; omega
                  have hq := hpq hp0
                  have hql : (p - 1) / 2 < m.length := by omega
                  obtain ⟨y, hy⟩ : ∃ y, m[p]? = some y := ⟨_, List.getElem?_eq_getElem hpm⟩
                  obtain ⟨z, hz⟩ : ∃ z, m[(p - 1) / 2]? = some z := ⟨_, List.getElem?_eq_getElem hql⟩
                  refine Idx.by p rfl (by rw [ints_length]; exact hpm) ?_
                  refine Look.by _ (ints_get hy) ?_
                  refine Pick.T (inI64_of (by omega) (by omega)) ?_
                  refine Pick.T (inI64_of (by omega) (by omega)) ?_
                  refine Idx.by ((p - 1) / 2) hq (by rw [ints_length]; exact hql) ?_
                  refine Look.by _ (ints_get hz) ?_
                  refine Seg.by (by kernel_rfl) ?_
                  refine Pick.by (fun hc2 => ?_) (fun hc2 => ?_)
                  · have hlt : y < z := by simpa using hc2
                    have hsw : ints ((m.set p z).set ((p - 1) / 2) y) = ((ints m).set p [.i .i64 z]).set ((p - 1) / 2) [.i .i64 y] := by rw [ints_set, ints_set]
                    refine Pick.T (inI64_of (by omega) (by omega)) ?_
                    refine Pick.T (inI64_of (by omega) (by omega)) ?_
                    refine Pick.T (inI64_of (by omega) (by omega)) ?_
                    refine Pick.T (inI64_of (by omega) (by omega)) ?_
                    refine Idx.by ((p - 1) / 2) hq (by rw [ints_length]; exact hql) ?_
                    refine Look.by _ (ints_get hz) ?_
                    refine Idx.by p rfl (by rw [ints_length]; exact hpm) ?_
                    refine Look.by _ (ints_get hy) ?_
                    refine Idx.by p rfl (by rw [ints_length]; exact hpm) ?_
                    refine Look.by _ (ints_get hy) ?_
                    refine Idx.by ((p - 1) / 2) hq (by rw [List.length_set, ints_length]; exact hql) ?_
                    refine Look.by _ (by rw [List.getElem?_set_ne (by omega)]; exact ints_get hz) ?_
                    refine Seg.by (by kernel_rfl) ?_
                    refine Pick.T (inI64_of (by omega) (by omega)) ?_
                    refine Pick.T (inI64_of (by omega) (by omega)) ?_
                    refine Next.by ((p - 1) / 2, (m.set p z).set ((p - 1) / 2) y) ⟨(swap_perm hy hz (by omega)).trans hperm, up_step hup hp0 hz hy hlt, by rw [List.length_set, List.length_set]; exact hql⟩ (by dsimp only; omega) (by refine Weak.by [(0, some _), (1, some _), (2, some _), (3, some _), (4, some _), (5, some _), (6, some _), (7, some _), (8, some _)] (by ((repeat' first | exact rfl | exact trivial | refine And.intro ?_ ?_) <;> (repeat' first | exact rfl | exact trivial | refine And.intro ?_ ?_)); all_goals ((first | (exact hsw) | (exact sc_eq hq.symm)))) (by ((repeat' first | exact rfl | exact trivial | refine And.intro ?_ ?_) <;> (repeat' first | exact rfl | exact trivial | refine And.intro ?_ ?_)); all_goals ((first | (exact hsw) | (exact sc_eq hq.symm)))) (by rfl))
                  · have hHm := hput (up_done hup (.inr fun x' y' hx' hy' => by
                      rw [hz] at hx'; rw [hy] at hy'
                      injection hx' with hx'; injection hy' with hy'
                      have : ¬ y < z := by simpa using hc2
                      omega))
                    exact ⟨m, hHm, by refine Weak.by [(0, some _), (1, some _), (2, some _), (3, some _), (4, some _), (5, some _), (6, some _), (7, some _), (8, some _)] (by ((repeat' first | exact rfl | exact trivial | refine And.intro ?_ ?_) <;> (repeat' first | exact rfl | exact trivial | refine And.intro ?_ ?_))) (by ((repeat' first | exact rfl | exact trivial | refine And.intro ?_ ?_) <;> (repeat' first | exact rfl | exact trivial | refine And.intro ?_ ?_))) (by rfl)⟩
                · have hp0 : p = 0 := by simp at hc1; omega
                  refine Seg.by (by kernel_rfl) ?_
                  exact ⟨m, hput (up_done hup (.inl hp0)), by refine Weak.by [(0, some _), (1, some _), (2, some _), (3, some _), (4, some _), (5, some _), (6, some _), (7, some _), (8, some _)] (by ((repeat' first | exact rfl | exact trivial | refine And.intro ?_ ?_) <;> (repeat' first | exact rfl | exact trivial | refine And.intro ?_ ?_))) (by ((repeat' first | exact rfl | exact trivial | refine And.intro ?_ ?_) <;> (repeat' first | exact rfl | exact trivial | refine And.intro ?_ ?_))) (by rfl)⟩
              · have hc6 : mayB N2 G2 x = false := hc6
                exact ⟨(sub2, m2), ⟨hsub2, hm24, by dsimp only; omega, hH2, hr2, fun v hv => skip_may hxi (fun e => by rw [e, hc6] at hv; cases hv) (hmv2 v hv)⟩, by refine Weak.by [(0, some _), (1, some _), (2, some _), (3, some _), (4, some _), (5, some _), (6, some _), (7, some _)] (by ((repeat' first | exact rfl | exact trivial | refine And.intro ?_ ?_) <;> (repeat' first | exact rfl | exact trivial | refine And.intro ?_ ?_))) (by ((repeat' first | exact rfl | exact trivial | refine And.intro ?_ ?_) <;> (repeat' first | exact rfl | exact trivial | refine And.intro ?_ ?_))) (by rfl)⟩
            · have hi3 : i = 2 := by simp at hc5; omega
              refine Next.by (st ++ [s], N2, G2, sub2, m2) ⟨hW2, hNl2, hrun2, by simp; omega, hsub2, hm24, by simp; omega, hH2, hr2, fun v hv => ?_⟩ (by simp; omega) (by refine Weak.by [(0, some _), (1, some _), (2, some _), (3, some _), (4, some _), (5, some _), (6, some _)] (by ((repeat' first | exact rfl | exact trivial | refine And.intro ?_ ?_) <;> (repeat' first | exact rfl | exact trivial | refine And.intro ?_ ?_))) (by ((repeat' first | exact rfl | exact trivial | refine And.intro ?_ ?_) <;> (repeat' first | exact rfl | exact trivial | refine And.intro ?_ ?_))) (by rfl))
              rcases hmv2 v hv with h | ⟨h1, _⟩ | ⟨h1, _⟩
              · exact h
              · omega
              · omega
          refine Pick.by (fun had => ?_) (fun had => ?_)
          · have had : (stepF N out).2.2.2 = true := had
            rw [if_pos had]
            rcases hs2 with ⟨_, _, _, e⟩ | ⟨_, _, _, _, e⟩ | ⟨a, b, hlv, hab, ea, eb, ec⟩
            · rw [had] at e; cases e
            · rw [had] at e; cases e
            have har := hrv.2 a (by rw [hlv]; simp)
            have hbr := hrv.2 b (by rw [hlv]; simp)
            have hra : (rowsI ((rowAt N out).foldl (cutF out) N))[a.toNat]? = some (ints ((rowAt N a).erase out)) := by
              have h1 := rowsI_get (rowAt_mem (N := (rowAt N out).foldl (cutF out) N) har.1 (by rw [cuts_length]; exact har.2)).2
              rw [hN1 a har.1] at h1
              exact h1
            have hrb : (rowsI ((rowAt N out).foldl (cutF out) N))[b.toNat]? = some (ints ((rowAt N b).erase out)) := by
              have h1 := rowsI_get (rowAt_mem (N := (rowAt N out).foldl (cutF out) N) hbr.1 (by rw [cuts_length]; exact hbr.2)).2
              rw [hN1 b hbr.1] at h1
              exact h1
            have hok : ∀ u, ((rowAt N u).erase out).Pairwise (· ≤ ·) ∧ ((rowAt N u).erase out).length ≤ 1000000 := fun u => by
              have h1 := hW.rows u
              have h2 := hW.row_len u
              have h3 := List.length_erase_le (l := rowAt N u) (a := out)
              exact ⟨(erase_sorted h1.1).imp fun h => by omega, by omega⟩
            rw [ea, eb]
            have hj : rowsI (joinF (joinF ((rowAt N out).foldl (cutF out) N) a b) b a) = ((rowsI ((rowAt N out).foldl (cutF out) N)).set a.toNat (ints (insAt ((rowAt N a).erase out) b))).set b.toNat (ints (insAt ((rowAt N b).erase out) a)) := by
              have e1 : rowAt (joinF ((rowAt N out).foldl (cutF out) N) a b) b = (rowAt N b).erase out := by
                unfold joinF
                rw [rowAt_set har.1 (by rw [cuts_length]; exact har.2) hbr.1, if_neg (by omega), hN1 b hbr.1]
              show rowsI ((joinF ((rowAt N out).foldl (cutF out) N) a b).set b.toNat (insAt (rowAt (joinF ((rowAt N out).foldl (cutF out) N) a b) b) a)) = _
              rw [e1, rowsI_set]
              unfold joinF
              rw [rowsI_set, hN1 a har.1]
            have hma : (rowsI ((rowAt N out).foldl (cutF out) N)).set a.toNat (ints (insAt ((rowAt N a).erase out) b)) ≠ [] ∨ True := .inr trivial
            have hl3 : ((rowsI ((rowAt N out).foldl (cutF out) N)).set a.toNat (ints (insAt ((rowAt N a).erase out) b))).length = N.length := by rw [List.length_set, hl1]
            have hrb2 : ((rowsI ((rowAt N out).foldl (cutF out) N)).set a.toNat (ints (insAt ((rowAt N a).erase out) b)))[b.toNat]? = some (ints ((rowAt N b).erase out)) := by rw [List.getElem?_set_ne (by omega)]; exact hrb
            refine Idx.by a.toNat (by omega) (by omega) ?_
            refine Pick.T (by rw [hl1]; simp; omega) ?_
            refine Look.by _ hra ?_
            refine Call.by _ _ (turnC_at (hok a)) ?_
            refine Idx.by a.toNat (by omega) (by omega) ?_
            refine Pick.T (by rw [hl1]; simp; omega) ?_
            refine Pick.T (by simp) ?_
            refine Seg.by (by kernel_rfl) ?_
            refine Idx.by b.toNat (by omega) (by omega) ?_
            refine Pick.T (by rw [hl3]; simp; omega) ?_
            refine Look.by _ hrb2 ?_
            refine Call.by _ _ (turnC_at (hok b)) ?_
            refine Idx.by b.toNat (by omega) (by omega) ?_
            refine Pick.T (by rw [hl3]; simp; omega) ?_
            refine Pick.T (by simp) ?_
            refine Seg.by (by kernel_rfl) ?_
            exact ⟨(), trivial, by refine Weak.by [(0, some _), (1, some _), (2, some _), (3, some _), (4, some _), (5, some _), (6, some _), (7, some _), (8, some _), (9, some _)] (by ((repeat' first | exact rfl | exact trivial | refine And.intro ?_ ?_) <;> (repeat' first | exact rfl | exact trivial | refine And.intro ?_ ?_)); all_goals ((exact hj))) (by ((repeat' first | exact rfl | exact trivial | refine And.intro ?_ ?_) <;> (repeat' first | exact rfl | exact trivial | refine And.intro ?_ ?_)); all_goals ((exact hj))) (by rfl)⟩
          · have had : (stepF N out).2.2.2 = false := had
            rw [if_neg (by rw [had]; simp)]
            exact ⟨(), trivial, by refine Weak.by [(0, some _), (1, some _), (2, some _), (3, some _), (4, some _), (5, some _), (6, some _), (7, some _), (8, some _), (9, some _)] (by ((repeat' first | exact rfl | exact trivial | refine And.intro ?_ ?_) <;> (repeat' first | exact rfl | exact trivial | refine And.intro ?_ ?_))) (by ((repeat' first | exact rfl | exact trivial | refine And.intro ?_ ?_) <;> (repeat' first | exact rfl | exact trivial | refine And.intro ?_ ?_))) (by rfl)⟩
        refine LoopP.intro (α := Nat × List Int) (fun a => Sift l out last a.2 a.1 ∧ a.1 ≤ last ∧ a.2.length = m.length) (fun a => last + 1 - a.1) (fun a => [(0, .ptr 4 0), (3, .sl 5 none (some (0, last))), (4, .s (.i .i64 out)), (5, .s (.i .i64 last)), (6, .s (.i .i64 a.1)), (1000002, .ptr 0 0), (1000003, .ptr 1 0), (1000004, .ptr 4 0), (1000006, .sl 6 none none)])
          (fun a => [(0, some (.blk [.nils, .nils, .nils])), (1, some (.blk [.sl 2 none none, .sl 3 none none])), (2, some (.nest true 1 (rowsI N) [] [])), (3, some (.flat true 1 (bools G))), (4, some (.blk [.sl 5 none (some (0, L))])), (5, some (.flat true 1 (ints a.2))), (6, some (.flat true 4 (stps st)))]) 7 (0, m.set 0 top) ⟨hsift, by dsimp only; omega, by rw [List.length_set]⟩ (by refine Weak.by [(0, some _), (1, some _), (2, some _), (3, some _), (4, some _), (5, some _), (6, some _)] (by ((repeat' first | exact rfl | exact trivial | refine And.intro ?_ ?_) <;> (repeat' first | exact rfl | exact trivial | refine And.intro ?_ ?_)); all_goals ((first | (rw [ints_set]; rfl) | (exact sc_eq hlast.symm)))) (by ((repeat' first | exact rfl | exact trivial | refine And.intro ?_ ?_) <;> (repeat' first | exact rfl | exact trivial | refine And.intro ?_ ?_)); all_goals ((first | (rw [ints_set]; rfl) | (exact sc_eq hlast.symm)))) (by rfl)) ?_
        rintro ⟨i, c⟩ ⟨hsf, hil, hcm⟩
        dsimp only at hsf hil hcm ⊢
        refine Pick.T (inI64_of (by omega) (by omega)) ?_
        refine Pick.T (inI64_of (by omega) (by omega)) ?_
        refine Pick.by (fun hc1 => ?_) (fun hc1 => ?_)
        · have hch : 2 * i + 1 < last := by simp at hc1; omega
          obtain ⟨x, hx⟩ : ∃ x, c[i]? = some x := ⟨_, List.getElem?_eq_getElem (by have := hsf.len; omega)⟩
          obtain ⟨y1, hy1⟩ : ∃ y, c[2 * i + 1]? = some y := ⟨_, List.getElem?_eq_getElem (by have := hsf.len; omega)⟩
          refine Pick.T (inI64_of (by omega) (by omega)) ?_
          refine Pick.T (inI64_of (by omega) (by omega)) ?_
          refine Pick.T (inI64_of (by omega) (by omega)) ?_
          have hk1 : (2 * (i : Int) + 1) = ((2 * i + 1 : Nat) : Int) := by omega
          have hk2 : (2 * (i : Int) + 1 + 1) = ((2 * i + 2 : Nat) : Int) := by omega
          have hjoin : ∀ k, (k = 2 * i + 1 ∨ k = 2 * i + 2) → k < last → (∀ y, c[k]? = some y → ∀ t z, 0 < t → (t - 1) / 2 = i → t < last → c[t]? = some z → y ≤ z) → (k = 2 * i + 1 ∨ k = 2 * i + 2) ∧ k < last ∧ ∀ y, c[k]? = some y → ∀ t z, 0 < t → (t - 1) / 2 = i → t < last → c[t]? = some z → y ≤ z := fun k a b d => ⟨a, b, d⟩
          refine Pick.by (fun hc2 => ?_) (fun hc2 => ?_)
          · have hch2 : 2 * i + 2 < last := by simp at hc2; omega
            obtain ⟨y2, hy2⟩ : ∃ y, c[2 * i + 2]? = some y := ⟨_, List.getElem?_eq_getElem (by have := hsf.len; omega)⟩
            refine Pick.T (inI64_of (by omega) (by omega)) ?_
            refine Idx.by (2 * i + 2) (by omega) (by omega) ?_
            refine Look.by _ (by rw [Nat.zero_add]; exact ints_get hy2) ?_
            refine Idx.by (2 * i + 1) (by omega) (by omega) ?_
            refine Look.by _ (by rw [Nat.zero_add]; exact ints_get hy1) ?_
            refine Seg.by (by kernel_rfl) ?_
            refine JoinP.intro (α := Nat) (fun k => (k = 2 * i + 1 ∨ k = 2 * i + 2) ∧ k < last ∧ ∀ y, c[k]? = some y → ∀ t z, 0 < t → (t - 1) / 2 = i → t < last → c[t]? = some z → y ≤ z) (fun k => [(0, .ptr 4 0), (3, .sl 5 none (some (0, last))), (4, .s (.i .i64 out)), (5, .s (.i .i64 last)), (6, .s (.i .i64 i)), (7, .s (.i .i64 k)), (1000002, .ptr 0 0), (1000003, .ptr 1 0), (1000004, .ptr 4 0), (1000006, .sl 6 none none)])
              (fun k => [(0, some (.blk [.nils, .nils, .nils])), (1, some (.blk [.sl 2 none none, .sl 3 none none])), (2, some (.nest true 1 (rowsI N) [] [])), (3, some (.flat true 1 (bools G))), (4, some (.blk [.sl 5 none (some (0, L))])), (5, some (.flat true 1 (ints c))), (6, some (.flat true 4 (stps st)))]) 7 ?_ ?_
            rotate_left
            · rintro k ⟨hkk, hkl, hM⟩
              obtain ⟨y, hy⟩ : ∃ y, c[k]? = some y := ⟨_, List.getElem?_eq_getElem (by have := hsf.len; omega)⟩
              have hmin := hM y hy
              refine Idx.by i rfl (by omega) ?_
              refine Look.by _ (by rw [Nat.zero_add]; exact ints_get hx) ?_
              refine Idx.by k rfl (by omega) ?_
              refine Look.by _ (by rw [Nat.zero_add]; exact ints_get hy) ?_
              refine Seg.by (by kernel_rfl) ?_
              refine Pick.by (fun hc4 => ?_) (fun hc4 => ?_)
              · have hle : x ≤ y := by simpa using hc4
                refine ⟨c, ⟨hcm, hsf.len, hsf.perm, sift_done hsf fun t u v ht htp hu hv => ?_⟩, by refine Weak.by [(0, some _), (1, some _), (2, some _), (3, some _), (4, some _), (5, some _), (6, some _)] (by ((repeat' first | exact rfl | exact trivial | refine And.intro ?_ ?_) <;> (repeat' first | exact rfl | exact trivial | refine And.intro ?_ ?_))) (by ((repeat' first | exact rfl | exact trivial | refine And.intro ?_ ?_) <;> (repeat' first | exact rfl | exact trivial | refine And.intro ?_ ?_))) (by rfl)⟩
                have htk : t < last := by
                  have := (List.getElem?_eq_some_iff.1 hv).1
                  rw [List.length_take] at this
                  omega
                rw [tk_get (by omega), hx] at hu
                injection hu with hu
                have := hmin t v ht htp htk (by rw [← tk_get htk]; exact hv)
                omega
              · have hlt : y < x := by simpa using hc4
                refine Idx.by k rfl (by omega) ?_
                refine Look.by _ (by rw [Nat.zero_add]; exact ints_get hy) ?_
                refine Idx.by i rfl (by omega) ?_
                refine Look.by _ (by rw [Nat.zero_add]; exact ints_get hx) ?_
                refine Idx.by i rfl (by omega) ?_
                refine Look.by _ (by rw [Nat.zero_add]; exact ints_get hx) ?_
                refine Idx.by k rfl (by omega) ?_
                refine Look.by _ (by rw [Nat.zero_add, Nat.zero_add, List.getElem?_set_ne (by omega)]; exact ints_get hy) ?_
                refine Seg.by (by kernel_rfl) ?_
                refine Next.by (k, (c.set i y).set k x) ⟨sift_step hsf (by omega) (by omega) hkl hx hy hlt hmin, by dsimp only; omega, by rw [List.length_set, List.length_set]; exact hcm⟩ (by dsimp only; omega) (by refine Weak.by [(0, some _), (1, some _), (2, some _), (3, some _), (4, some _), (5, some _), (6, some _)] (by ((repeat' first | exact rfl | exact trivial | refine And.intro ?_ ?_) <;> (repeat' first | exact rfl | exact trivial | refine And.intro ?_ ?_)); all_goals ((rw [Nat.zero_add, Nat.zero_add, ints_set, ints_set]; rfl))) (by ((repeat' first | exact rfl | exact trivial | refine And.intro ?_ ?_) <;> (repeat' first | exact rfl | exact trivial | refine And.intro ?_ ?_)); all_goals ((rw [Nat.zero_add, Nat.zero_add, ints_set, ints_set]; rfl))) (by rfl))
            refine Pick.by (fun hc3 => ?_) (fun hc3 => ?_)
            · have hlt2 : y2 < y1 := by simpa using hc3
              refine Pick.T (inI64_of (by omega) (by omega)) ?_
              refine ⟨2 * i + 2, hjoin _ (.inr rfl) hch2 fun y hy t z ht htp htl hz => ?_, by refine Weak.by [(0, some _), (1, some _), (2, some _), (3, some _), (4, some _), (5, some _), (6, some _)] (by ((repeat' first | exact rfl | exact trivial | refine And.intro ?_ ?_) <;> (repeat' first | exact rfl | exact trivial | refine And.intro ?_ ?_)); all_goals ((exact sc_eq hk2.symm))) (by ((repeat' first | exact rfl | exact trivial | refine And.intro ?_ ?_) <;> (repeat' first | exact rfl | exact trivial | refine And.intro ?_ ?_)); all_goals ((exact sc_eq hk2.symm))) (by rfl)⟩
              have : t = 2 * i + 1 ∨ t = 2 * i + 2 := by omega
              rcases this with rfl | rfl
              · rw [hy2] at hy; rw [hy1] at hz; injection hy with hy; injection hz with hz; omega
              · rw [hy] at hz; injection hz with hz; omega
            · have hlt2 : ¬ y2 < y1 := by simpa using hc3
              refine ⟨2 * i + 1, hjoin _ (.inl rfl) hch fun y hy t z ht htp htl hz => ?_, by refine Weak.by [(0, some _), (1, some _), (2, some _), (3, some _), (4, some _), (5, some _), (6, some _)] (by ((repeat' first | exact rfl | exact trivial | refine And.intro ?_ ?_) <;> (repeat' first | exact rfl | exact trivial | refine And.intro ?_ ?_)); all_goals ((exact sc_eq hk1.symm))) (by ((repeat' first | exact rfl | exact trivial | refine And.intro ?_ ?_) <;> (repeat' first | exact rfl | exact trivial | refine And.intro ?_ ?_)); all_goals ((exact sc_eq hk1.symm))) (by rfl)⟩
              have : t = 2 * i + 1 ∨ t = 2 * i + 2 := by omega
              rcases this with rfl | rfl
              · rw [hy] at hz; injection hz with hz; omega
              · rw [hy1] at hy; rw [hy2] at hz; injection hy with hy; injection hz with hz; omega
          · have hch2 : ¬ 2 * i + 2 < last := by simp at hc2; omega
            refine Seg.by (by kernel_rfl) ?_
            refine JoinP.intro (α := Nat) (fun k => (k = 2 * i + 1 ∨ k = 2 * i + 2) ∧ k < last ∧ ∀ y, c[k]? = some y → ∀ t z, 0 < t → (t - 1) / 2 = i → t < last → c[t]? = some z → y ≤ z) (fun k => [(0, .ptr 4 0), (3, .sl 5 none (some (0, last))), (4, .s (.i .i64 out)), (5, .s (.i .i64 last)), (6, .s (.i .i64 i)), (7, .s (.i .i64 k)), (1000002, .ptr 0 0), (1000003, .ptr 1 0), (1000004, .ptr 4 0), (1000006, .sl 6 none none)])
              (fun k => [(0, some (.blk [.nils, .nils, .nils])), (1, some (.blk [.sl 2 none none, .sl 3 none none])), (2, some (.nest true 1 (rowsI N) [] [])), (3, some (.flat true 1 (bools G))), (4, some (.blk [.sl 5 none (some (0, L))])), (5, some (.flat true 1 (ints c))), (6, some (.flat true 4 (stps st)))]) 7 ?_ ?_
            rotate_left
            · rintro k ⟨hkk, hkl, hM⟩
              obtain ⟨y, hy⟩ : ∃ y, c[k]? = some y := ⟨_, List.getElem?_eq_getElem (by have := hsf.len; omega)⟩
              have hmin := hM y hy
              refine Idx.by i rfl (by omega) ?_
              refine Look.by _ (by rw [Nat.zero_add]; exact ints_get hx) ?_
              refine Idx.by k rfl (by omega) ?_
              refine Look.by _ (by rw [Nat.zero_add]; exact ints_get hy) ?_
              refine Seg.by (by kernel_rfl) ?_
              refine Pick.by (fun hc4 => ?_) (fun hc4 => ?_)
              · have hle : x ≤ y := by simpa using hc4
                refine ⟨c, ⟨hcm, hsf.len, hsf.perm, sift_done hsf fun t u v ht htp hu hv => ?_⟩, by refine Weak.by [(0, some _), (1, some _), (2, some _), (3, some _), (4, some _), (5, some _), (6, some _)] (by ((repeat' first | exact rfl | exact trivial | refine And.intro ?_ ?_) <;> (repeat' first | exact rfl | exact trivial | refine And.intro ?_ ?_))) (by ((repeat' first | exact rfl | exact trivial | refine And.intro ?_ ?_) <;> (repeat' first | exact rfl | exact trivial | refine And.intro ?_ ?_))) (by rfl)⟩
                have htk : t < last := by
                  have := (List.getElem?_eq_some_iff.1 hv).1
                  rw [List.length_take] at this
                  omega
                rw [tk_get (by omega), hx] at hu
                injection hu with hu
                have := hmin t v ht htp htk (by rw [← tk_get htk]; exact hv)
                omega
              · have hlt : y < x := by simpa using hc4
                refine Idx.by k rfl (by omega) ?_
                refine Look.by _ (by rw [Nat.zero_add]; exact ints_get hy) ?_
                refine Idx.by i rfl (by omega) ?_
                refine Look.by _ (by rw [Nat.zero_add]; exact ints_get hx) ?_
                refine Idx.by i rfl (by omega) ?_
                refine Look.by _ (by rw [Nat.zero_add]; exact ints_get hx) ?_
                refine Idx.by k rfl (by omega) ?_
                refine Look.by _ (by rw [Nat.zero_add, Nat.zero_add, List.getElem?_set_ne (by omega)]; exact ints_get hy) ?_
                refine Seg.by (by kernel_rfl) ?_
                refine Next.by (k, (c.set i y).set k x) ⟨sift_step hsf (by omega) (by omega) hkl hx hy hlt hmin, by dsimp only; omega, by rw [List.length_set, List.length_set]; exact hcm⟩ (by dsimp only; omega) (by refine Weak.by [(0, some _), (1, some _), (2, some _), (3, some _), (4, some _), (5, some _), (6, some _)] (by ((repeat' first | exact rfl | exact trivial | refine And.intro ?_ ?_) <;> (repeat' first | exact rfl | exact trivial | refine And.intro ?_ ?_)); all_goals ((rw [Nat.zero_add, Nat.zero_add, ints_set, ints_set]; rfl))) (by ((repeat' first | exact rfl | exact trivial | refine And.intro ?_ ?_) <;> (repeat' first | exact rfl | exact trivial | refine And.intro ?_ ?_)); all_goals ((rw [Nat.zero_add, Nat.zero_add, ints_set, ints_set]; rfl))) (by rfl))
            refine ⟨2 * i + 1, hjoin _ (.inl rfl) hch fun y hy t z ht htp htl hz => ?_, by refine Weak.by [(0, some _), (1, some _), (2, some _), (3, some _), (4, some _), (5, some _), (6, some _)] (by ((repeat' first | exact rfl | exact trivial | refine And.intro ?_ ?_) <;> (repeat' first | exact rfl | exact trivial | refine And.intro ?_ ?_)); all_goals ((exact sc_eq hk1.symm))) (by ((repeat' first | exact rfl | exact trivial | refine And.intro ?_ ?_) <;> (repeat' first | exact rfl | exact trivial | refine And.intro ?_ ?_)); all_goals ((exact sc_eq hk1.symm))) (by rfl)⟩
            have : t = 2 * i + 1 := by omega
            rw [this, hy] at hz; injection hz with hz; omega
        · have hch : ¬ 2 * i + 1 < last := by simp at hc1; omega
          refine ⟨c, ⟨hcm, hsf.len, hsf.perm, sift_done hsf fun t u v ht htp hu hv => ?_⟩, by refine Weak.by [(0, some _), (1, some _), (2, some _), (3, some _), (4, some _), (5, some _), (6, some _)] (by ((repeat' first | exact rfl | exact trivial | refine And.intro ?_ ?_) <;> (repeat' first | exact rfl | exact trivial | refine And.intro ?_ ?_))) (by ((repeat' first | exact rfl | exact trivial | refine And.intro ?_ ?_) <;> (repeat' first | exact rfl | exact trivial | refine And.intro ?_ ?_))) (by rfl)⟩
          have := (List.getElem?_eq_some_iff.1 hv).1
          rw [List.length_take] at this
          omega
      · have hz : l.length = 0 := by rw [hLl]; simpa using hc
        have hno : ∀ u, mayB N G u ≠ true := fun u hu => by
          have := hm u hu
          rw [List.eq_nil_of_length_eq_zero hz] at this
          simp at this
        rw [runS_end (firstMay_none hno), List.append_nil] at hrun
        rw [hrun]
        have hst4 : st.length ≤ 1000 := by omega
        have hGN := hW.len
        have hmo := hW.most
        have hNL := rowsI_length N
        refine LoopP.intro (α := Nat) (fun j => j ≤ N.length) (fun j => N.length - j) (fun j => [(2, .ptr 2 0), (4, .ptr 1 0), (5, .ptr 3 0), (13, .sl 4 none none), (14, .s (.i .i64 N.length)), (15, .s (.i .i64 j)), (1000002, .ptr 0 0)])
          (fun j => [(0, some (.blk [.nils, .nils, .nils])), (1, some (.blk [.nils, .nils, .nils])), (2, some (.blk [.sl 4 none none, .sl 5 none none])), (3, some (.blk [.sl 6 none none, .sl 7 none none, .sl 8 none none])), (4, some (.nest true 1 (rowsI N) [] [])), (5, some (.flat true 1 (bools G))), (6, some (.flat true 4 (stps st))), (7, some (.flat true 1 (ints (leftK G j)))), (8, some (.flat true 2 (edges (edgesK N G j))))]) 9 0 (by omega) (by refine Weak.by [(0, some _), (1, some _), (2, some _), (3, some _), (4, some _), (5, some _), (6, some _), (7, none), (8, none)] (by ((repeat' first | exact rfl | exact trivial | refine And.intro ?_ ?_) <;> (repeat' first | exact rfl | exact trivial | refine And.intro ?_ ?_)); all_goals ((first | (rw [hNL]; rfl) | done))) (by ((repeat' first | exact rfl | exact trivial | refine And.intro ?_ ?_) <;> (repeat' first | exact rfl | exact trivial | refine And.intro ?_ ?_)); all_goals ((first | (rw [hNL]; rfl) | done))) (by rfl)) ?_
        rintro j hj
        have hlk := leftK_len G j
        have hek := edgesK_len hW j
        refine Pick.by (fun hd1 => ?_) (fun hd1 => ?_)
        · have hjl : j < N.length := by simpa using hd1
          have hgj : (bools G)[j]? = some [.b (G.getD j false)] := by
            refine bools_get ?_
            rw [List.getD_eq_getElem?_getD, List.getElem?_eq_getElem (by omega)]; rfl
          have hrj : (rowsI N)[j]? = some (ints (rowAt N j)) := by
            have := (rowAt_mem (N := N) (v := (j : Int)) (by omega) (by omega)).2
            exact rowsI_get this
          have hrl := hW.row_len (j : Int)
          refine Idx.by j rfl (by omega) ?_
          refine Pick.T (by rw [hNL]; simp; omega) ?_
          refine Idx.by j rfl (by rw [bools_length]; omega) ?_
          refine Look.by _ hgj ?_
          refine Pick.by (fun hd2 => ?_) (fun hd2 => ?_)
          · have hd2 : G.getD j false = true := hd2
            refine Pick.T (inI64_of (by omega) (by omega)) ?_
            refine Next.by (j + 1) (by omega) (by omega) (by refine Weak.by [(0, some _), (1, some _), (2, some _), (3, some _), (4, some _), (5, some _), (6, some _), (7, some _), (8, some _)] (by ((repeat' first | exact rfl | exact trivial | refine And.intro ?_ ?_) <;> (repeat' first | exact rfl | exact trivial | refine And.intro ?_ ?_)); all_goals ((first | (rw [leftK_succ, if_pos hd2, List.append_nil]) | (rw [edgesK_succ, if_pos hd2, List.append_nil])))) (by ((repeat' first | exact rfl | exact trivial | refine And.intro ?_ ?_) <;> (repeat' first | exact rfl | exact trivial | refine And.intro ?_ ?_)); all_goals ((first | (rw [leftK_succ, if_pos hd2, List.append_nil]) | (rw [edgesK_succ, if_pos hd2, List.append_nil])))) (by rfl))
          have hd2 : G.getD j false = false := hd2
          have hl1 : leftK G (j + 1) = leftK G j ++ [(j : Int)] := by rw [leftK_succ, if_neg (by rw [hd2]; simp)]
          have he1 : edgesK N G (j + 1) = edgesK N G j ++ outE N j := by rw [edgesK_succ, if_neg (by rw [hd2]; simp)]
          refine Pick.T (by simp [cut, ints_length]; omega) ?_
          refine Look.by _ hrj ?_
          refine LoopP.intro (α := Nat) (fun k => k ≤ (rowAt N j).length) (fun k => (rowAt N j).length - k) (fun k => [(2, .ptr 2 0), (4, .ptr 1 0), (5, .ptr 3 0), (6, .s (.i .i64 j)), (13, .sl 4 none none), (14, .s (.i .i64 N.length)), (15, .s (.i .i64 j)), (31, .sl 4 (some (j, 0)) none), (32, .s (.i .i64 (rowAt N j).length)), (33, .s (.i .i64 k)), (1000002, .ptr 0 0)])
            (fun k => [(0, some (.blk [.nils, .nils, .nils])), (1, some (.blk [.nils, .nils, .nils])), (2, some (.blk [.sl 4 none none, .sl 5 none none])), (3, some (.blk [.sl 6 none none, .sl 7 none none, .sl 8 none none])), (4, some (.nest true 1 (rowsI N) [] [])), (5, some (.flat true 1 (bools G))), (6, some (.flat true 4 (stps st))), (7, some (.flat true 1 (ints (leftK G (j + 1))))), (8, some (.flat true 2 (edges (edgesK N G j ++ (((rowAt N j).take k).filter fun x => decide (x > (j : Int))).map fun x => ((j : Int), x)))))]) 9 0 (by omega) (by refine Weak.by [(0, some _), (1, some _), (2, some _), (3, some _), (4, some _), (5, some _), (6, some _), (7, some _), (8, some _)] (by ((repeat' first | exact rfl | exact trivial | refine And.intro ?_ ?_) <;> (repeat' first | exact rfl | exact trivial | refine And.intro ?_ ?_)); all_goals ((first | (rw [hl1, ints_snoc]; rfl) | (rw [List.take_zero]; simp; done) | (rw [ints_length]; rfl) | (simp; done)))) (by ((repeat' first | exact rfl | exact trivial | refine And.intro ?_ ?_) <;> (repeat' first | exact rfl | exact trivial | refine And.intro ?_ ?_)); all_goals ((first | (rw [hl1, ints_snoc]; rfl) | (rw [List.take_zero]; simp; done) | (rw [ints_length]; rfl) | (simp; done)))) (by rfl)) ?_
          rintro k hk
          have hpl : ((((rowAt N j).take k).filter fun x => decide (x > (j : Int))).map fun x => ((j : Int), x)).length ≤ 1000 := by
            rw [List.length_map]
            refine Nat.le_trans (List.length_filter_le _ _) ?_
            rw [List.length_take]; omega
          refine Pick.by (fun hd3 => ?_) (fun hd3 => ?_)
          · have hkl : k < (rowAt N j).length := by simpa using hd3
            obtain ⟨x, hx⟩ : ∃ x, (rowAt N j)[k]? = some x := ⟨_, List.getElem?_eq_getElem hkl⟩
            have hxe : (rowAt N j)[k] = x := by rw [List.getElem?_eq_getElem hkl] at hx; injection hx
            refine Look.by _ hrj ?_
            refine Idx.by k rfl (by rw [ints_length]; exact hkl) ?_
            refine Look.by _ hrj ?_
            refine Look.by _ (ints_get hx) ?_
            refine Pick.by (fun hd4 => ?_) (fun hd4 => ?_)
            · have hd4 : x > (j : Int) := by simpa using hd4
              refine Pick.T (by simp [cut, edges_length] at hpl ⊢; omega) ?_
              refine Pick.T (inI64_of (by omega) (by omega)) ?_
              refine Next.by (k + 1) (by omega) (by omega) (by refine Weak.by [(0, some _), (1, some _), (2, some _), (3, some _), (4, some _), (5, some _), (6, some _), (7, some _), (8, some _)] (by ((repeat' first | exact rfl | exact trivial | refine And.intro ?_ ?_) <;> (repeat' first | exact rfl | exact trivial | refine And.intro ?_ ?_)); all_goals ((first | (rw [List.take_succ_eq_append_getElem hkl, hxe, List.filter_append, List.map_append, List.filter_cons, if_pos (by simpa using hd4), List.filter_nil, ← List.append_assoc]; exact edges_snoc _ _) | (simp; done)))) (by ((repeat' first | exact rfl | exact trivial | refine And.intro ?_ ?_) <;> (repeat' first | exact rfl | exact trivial | refine And.intro ?_ ?_)); all_goals ((first | (rw [List.take_succ_eq_append_getElem hkl, hxe, List.filter_append, List.map_append, List.filter_cons, if_pos (by simpa using hd4), List.filter_nil, ← List.append_assoc]; exact edges_snoc _ _) | (simp; done)))) (by rfl))
            · have hd4 : ¬ x > (j : Int) := by simpa using hd4
              refine Pick.T (inI64_of (by omega) (by omega)) ?_
              refine Next.by (k + 1) (by omega) (by omega) (by refine Weak.by [(0, some _), (1, some _), (2, some _), (3, some _), (4, some _), (5, some _), (6, some _), (7, some _), (8, some _)] (by ((repeat' first | exact rfl | exact trivial | refine And.intro ?_ ?_) <;> (repeat' first | exact rfl | exact trivial | refine And.intro ?_ ?_)); all_goals ((first | (rw [List.take_succ_eq_append_getElem hkl, hxe, List.filter_append, List.map_append, List.filter_cons, if_neg (by simpa using hd4), List.filter_nil, List.map_nil, List.append_nil]) | (simp; done)))) (by ((repeat' first | exact rfl | exact trivial | refine And.intro ?_ ?_) <;> (repeat' first | exact rfl | exact trivial | refine And.intro ?_ ?_)); all_goals ((first | (rw [List.take_succ_eq_append_getElem hkl, hxe, List.filter_append, List.map_append, List.filter_cons, if_neg (by simpa using hd4), List.filter_nil, List.map_nil, List.append_nil]) | (simp; done)))) (by rfl))
          · have hkl : k = (rowAt N j).length := by simp at hd3; omega
            have hfull : edgesK N G (j + 1) = edgesK N G j ++ (((rowAt N j).take k).filter fun x => decide (x > (j : Int))).map fun x => ((j : Int), x) := by rw [he1, hkl, List.take_length]; rfl
            refine Pick.T (inI64_of (by omega) (by omega)) ?_
            refine Next.by (j + 1) (by omega) (by omega) (by refine Weak.by [(0, some _), (1, some _), (2, some _), (3, some _), (4, some _), (5, some _), (6, some _), (7, some _), (8, some _)] (by ((repeat' first | exact rfl | exact trivial | refine And.intro ?_ ?_) <;> (repeat' first | exact rfl | exact trivial | refine And.intro ?_ ?_)); all_goals ((rw [hfull]))) (by ((repeat' first | exact rfl | exact trivial | refine And.intro ?_ ?_) <;> (repeat' first | exact rfl | exact trivial | refine And.intro ?_ ?_)); all_goals ((rw [hfull]))) (by rfl))
        have hjl : j = N.length := by simp at hd1; omega
        subst hjl
        have e1 : leftF G = leftK G N.length := by unfold leftF leftK; rw [hGN]
        have e2 : edgesF N G = edgesK N G N.length := by unfold edgesF edgesK; rw [e1]
        refine ⟨rfl, ?_⟩
        (repeat' first | exact rfl | exact trivial | refine And.intro ?_ ?_)
        all_goals (first | exact congrArg ints e1 | exact congrArg edges e2)
end Go.Sh
