/- What the functions answer that the statement reaches. No condition. -/
import Derived.Test.YtimjdkcpmbideaaFn1
import Derived.Deep.RegionLaw
import Derived.Shelf.SlSortCmp.NoneTotal
import Derived.Ground.SlsfProg
import Derived.Sort.QuietIn
import Derived.Sort.QuietTacIn
import Derived.Test.YtimjdkcpmbideaaRows
set_option linter.unusedVariables false
set_option linter.unusedSimpArgs false
namespace Go.Sh
open Go.Proofs Go.RowKit
/-! ### slices.Clone of numbers -/
attribute [local go_sem] Oper.semAt_some
theorem tSI : Try.prog.underlying 30 = some (TypeDesc.slice 3) := by kernel_rfl
theorem iSI : (Try.prog.info? 3).map (fun i => (i.zero, i.size, i.bytes)) = some (some (.int .i64 0), 1, 8) := by kernel_rfl
set_option maxRecDepth 100000 in
set_option maxHeartbeats 2000000 in
theorem clone_emptyI (A : Option Addr) (c : Nat) (w : World) : Calls Try.prog 48 #[.slice A 0 c] w fun e w' => ∃ B c', e = .returned (.slice B 0 c') ∧ Frm (fun _ => False) w w' ∧ ((B = none ∧ c' = 0) ∨ ∃ gb cur T, B = some ⟨gb, 0, none⟩ ∧ w.heap.size ≤ gb ∧ w'.heap[gb]? = some (.cells cur T (0, 0)) ∧ c' ≤ cur.size ∧ c' ≤ 9223372036854775807) := by
  have t22 := tSI
  obtain ⟨i0, hi, hz0, hz1, hz2⟩ := info_parts iSI
  have q22 : ∀ (w : World) (a : Option Addr) (n c n' c' : Nat), (binOp .eql 30 (.slice a n c) (.slice none n' c')).run Try.prog w = .ok (.bool a.isNone) w := fun w a n c n' c' => Lib.run_eql_slice_nil w _ _ a n c n' c' tSI
  have u22 : ∀ w, Sem.run Try.prog (underlying 30) w = .ok (TypeDesc.slice 3) w := run_underlying t22
  refine (callsIn_wide (n := 6)).1 ?_
  refine callsIn_of_wp Try.func48 rfl trivial ?_ rfl
  simp only [Try.ntmps48, List.size_toArray, List.length_cons, List.length_nil, Nat.reduceAdd, Nat.reduceSub, Array.replicate_succ, Array.replicate_zero, List.push_toArray, List.append_toArray, List.nil_append, List.cons_append]
  cases A with
  | none =>
    gi_wp2
    go_ret
    exact ⟨_, _, rfl, Frm.refl _ _, .inl ⟨rfl, rfl⟩⟩
  | some a =>
    gi_wp2_with (gi_at_builtin; refine wpListIn_append_own _ rfl _ _ 30 rfl w.heap.size 3 i0 _ 1 8 t22 hi hz0 hz1 hz2 rfl (by decide) _ _ _ rfl (World.ownsRow_made w #[] 0 (Nat.le_refl _) (Nat.zero_le _) rfl) a 0 c [] rfl rfl (by intro j u hj; simp at hj) (by intro u hu; cases hu) (by unfold maxLen; omega) (by omega) (by simp) ?_)
    intro v' w1 hown hgrow hnil
    gi_wp2
    go_ret
    have hb : Below w.heap.size w w1 := ((Below.refl _ w).alloc (Nat.le_refl _) _).grown hgrow (by simp) (by intro k hk; simp [Value.ownBlock] at hk; omega)
    have hf : Frm (fun _ => False) w w1 := ⟨hb.os, .of hb.tape, hb.output, hb.size, fun b h _ => hb.block b h⟩
    rcases hown.2 with ⟨rfl, _⟩ | ⟨gb, cap', cur, rfl, hbase, hgb, r1, r2, r3, r4⟩
    · exact ⟨_, _, rfl, hf, .inl ⟨rfl, rfl⟩⟩
    · refine ⟨_, _, rfl, hf, .inr ⟨gb, cur, _, rfl, hbase, hgb, ?_, ?_⟩⟩
      · omega
      · unfold maxLen at *; omega
noncomputable def CloneCI : Con := conP 1 (fun l : List Int => l.length ≤ 1000000) (fun l => [.one (.flat false 1 (ints l))]) (fun l => .one (.flat true 1 (ints l)))
theorem CloneC_atI {l : List Int} (h : l.length ≤ 1000000) : CloneCI.F [.one (.flat false 1 (ints l))] = some (.one (.flat true 1 (ints l)), []) :=
  conP_at (a := l) (fun a b _ _ h => by simp at h; rw [ints_inj h]) h
theorem Clone_pI : SoundP Try.prog 48 (conF (fun l : List Int => l.length ≤ 1000000) (fun l => [.one (.flat false 1 (ints l))]) (fun l => .one (.flat true 1 (ints l)))) := by
  have hfull : SoundP Try.prog 48 (conF (fun l : List Int => l.length ≤ 1000000 ∧ l ≠ []) (fun l => [.one (.flat false 1 (ints l))]) (fun l => .one (.flat true 1 (ints l)))) := by
    refine con_pure (X := { Γ := [], T := T, nt := 8 }) cr_none hmix hT sound_nil Try.func48 (by rfl) (by rfl) (by rfl) 1 ?_
    rintro l ⟨hl, hne⟩
    refine ⟨⟨Nat.le_of_ble_eq_true rfl, Nat.le_of_ble_eq_true rfl⟩, ?_⟩
    have hpos : 0 < l.length := List.length_pos_iff.2 hne
    refine Pick.T (by rw [ints_length]; simpa using hpos) ?_
    refine Pick.T (by simp [cut, ints_length]; omega) ?_
    exact ⟨rfl, rfl, rfl⟩
  intro vs r outs hF w us hus
  obtain ⟨l, hl, rfl, rfl⟩ := conF_inv (pre := fun l : List Int => l.length ≤ 1000000) (enc := fun l => [.one (.flat false 1 (ints l))]) (val := fun l => .one (.flat true 1 (ints l))) hF
  by_cases hne : l = []
  · subst hne
    obtain ⟨u, hu, x, hx, hFl⟩ : ∃ u, us = #[u] ∧ CellOk w noLab 0 (.flat false 1 (ints [])) u := by
      obtain ⟨us⟩ := us
      match us, hus with
      | [u], hus => exact ⟨u, rfl, hus.1⟩
      | [], hus => exact hus.elim
      | _ :: _ :: _, hus => exact hus.2.elim
    subst hu
    subst hx
    refine (clone_emptyI x.A x.c w).mono ?_
    rintro e w' ⟨B, c', rfl, hf, hB⟩
    rcases hB with ⟨rfl, rfl⟩ | ⟨gb, cur, T', rfl, h1, h2, h3, h4⟩
    · exact ⟨_, noLab, rfl, hf, fun b k h => by simp [noLab] at h, ⟨⟨none, 0, fun _ => none, fun _ => 0⟩, rfl, FlatOk.nil (by omega)⟩⟩
    · have hlt : gb < w'.heap.size := by
        rcases Nat.lt_or_ge gb w'.heap.size with h | h
        · exact h
        · simp [Array.getElem?_eq_none h] at h2
      refine ⟨_, fun b => if b = gb then some (0, none) else none, rfl, hf, fun b k h => ?_, ⟨⟨some ⟨gb, 0, none⟩, c', fun _ => none, fun _ => 0⟩, rfl, ?_⟩⟩
      · dsimp only at h
        split at h
        · rename_i e; subst e; exact ⟨h1, hlt⟩
        · simp at h
      · exact { fits := Nat.zero_le _, pos := by omega, even := fun i row h => by simp [ints] at h, cell := fun i row j x h => by simp [ints] at h, room := fun _ => .inr ⟨gb, 0, cur, T', rfl, if_pos rfl, h2, by dsimp only; omega, h4⟩ }
  · exact hfull _ _ _ (conF_at (fun a b _ _ h => by simp at h; rw [ints_inj h]) ⟨hl, hne⟩) w us hus

theorem Clone_okI : SoundC Try.prog T 48 CloneCI := sound_pure Try.func48 (by rfl) (by rfl) (by simp [CloneCI, conP]) Clone_pI
end Go.Sh

set_option linter.unusedVariables false
set_option linter.unusedSimpArgs false
namespace Go.Sh
open Go.Proofs
/-! ### topo.Model -/
noncomputable def ModC : Con := conP 1 (fun a : Int × List Int × List (List Int) => fewL a.2.2) (fun a => [sbV false a.1 a.2.1 a.2.2]) (fun a => moV true (modF a.1 a.2.1 a.2.2).1 (modF a.1 a.2.1 a.2.2).2)
theorem ModC_at {k : Int} {Ts : List Int} {L : List (List Int)} (h : fewL L) : ModC.F [sbV false k Ts L] = some (moV true (modF k Ts L).1 (modF k Ts L).2, []) :=
  conP_at (a := (k, Ts, L)) (fun a b _ _ h => by
    obtain ⟨k, Ts, L⟩ := a
    obtain ⟨k', Ts', L'⟩ := b
    simp at h
    obtain ⟨rfl, rfl, rfl⟩ := sbV_inj h
    rfl) h
theorem inner_cut (p : List Int) : cut (some (1, p.length - 1 - 1)) (ints p) = ints (innerL p) := by
  show ((ints p).drop 1).take (p.length - 1 - 1) = ints (innerL p)
  unfold innerL ints
  rw [← List.map_drop, ← List.map_take, List.dropLast_eq_take, List.length_drop]
def setsA (Ts : List Int) (L : List (List Int)) (i : Nat) : List (List Int) := (List.range Ts.length).map fun t => Ts.getD t 0 :: ((List.range i).filter fun j => fromT 1 j == t).flatMap fun j => innerL (L.getD j [])
def setsB2 (Ts : List Int) (L : List (List Int)) (i : Nat) : List (List Int) := Ts.map (fun v => [v]) ++ (L.take i).map innerL
theorem setsA_zero (Ts : List Int) (L : List (List Int)) : setsA Ts L 0 = Ts.map fun v => [v] := by
  apply List.ext_getElem
  · simp [setsA]
  · intro i h1 h2
    simp [setsA] at h1 ⊢
    rw [List.getElem?_eq_getElem h1]; rfl
theorem setsA_len (Ts : List Int) (L : List (List Int)) (i : Nat) : (setsA Ts L i).length = Ts.length := by simp [setsA]
theorem setsA_get {Ts : List Int} {L : List (List Int)} {i t : Nat} (h : t < Ts.length) : (setsA Ts L i)[t]? = some (Ts.getD t 0 :: ((List.range i).filter fun j => fromT 1 j == t).flatMap fun j => innerL (L.getD j [])) := by
  unfold setsA
  rw [List.getElem?_map, List.getElem?_range h]; rfl
theorem setsA_set {Ts : List Int} {L : List (List Int)} {i t : Nat} (h : t < Ts.length) (ht : fromT 1 i = t) : (setsA Ts L i).set t ((Ts.getD t 0 :: ((List.range i).filter fun j => fromT 1 j == t).flatMap fun j => innerL (L.getD j [])) ++ innerL (L.getD i [])) = setsA Ts L (i + 1) := by
  apply List.ext_getElem?
  intro x
  rw [List.getElem?_set]
  by_cases h1 : t = x
  · subst h1
    rw [if_pos rfl, if_pos (by rw [setsA_len]; exact h), setsA_get h, List.range_succ, List.filter_append]
    simp [ht]
  · rw [if_neg h1]
    by_cases h2 : x < Ts.length
    · rw [setsA_get h2, setsA_get h2, List.range_succ, List.filter_append]
      have : (fromT 1 i == x) = false := by rw [ht]; simpa using h1
      simp [this]
    · rw [List.getElem?_eq_none (by rw [setsA_len]; omega), List.getElem?_eq_none (by rw [setsA_len]; omega)]
theorem setsB2_zero (Ts : List Int) (L : List (List Int)) : setsB2 Ts L 0 = Ts.map fun v => [v] := by simp [setsB2]
theorem setsB2_succ {Ts : List Int} {L : List (List Int)} {i : Nat} (h : i < L.length) : setsB2 Ts L (i + 1) = setsB2 Ts L i ++ [innerL L[i]] := by
  unfold setsB2
  rw [List.take_succ_eq_append_getElem h, List.map_append, ← List.append_assoc]; rfl
theorem modF_no {k : Int} {Ts : List Int} {L : List (List Int)} (h : ¬ (shapeP k Ts L ∧ ∀ p ∈ L, 2 ≤ p.length)) : modF k Ts L = (0, []) := if_neg h
set_option maxHeartbeats 4000000 in
theorem Mod_ok : SoundC Try.prog T 31 ModC := by
  refine sound_con (X := { Γ := [(60, TopsC), (48, CloneCI)], T := T, nt := 99, ext := [59] }) (new_ok Try.pairs_call) hmix hT (sound_cons Tops_ok (sound_cons Clone_okI sound_nil)) Try.func31 (by rfl) (by rfl) (by rfl) (by rfl) 3 ?_
  rintro ⟨k, Ts, L⟩ ⟨hL, hLr⟩
  dsimp only at hL hLr ⊢
  refine ⟨⟨Nat.le_of_ble_eq_true rfl, Nat.le_of_ble_eq_true rfl⟩, ?_⟩
  by_cases hk : k = 1 ∨ k = 2
  · have hpr : Try.prsR k = some (2, edges (prsT k)) := if_pos hk
    refine ⟨rfl, _, some (2, edges (prsT k)), rfl, congrArg some hpr, ?_⟩
    have hpl := prsT_len hk
    have hp6 : 0 < (prsT k).length ∧ (prsT k).length ≤ 6 := by rw [hpl]; split <;> omega
    refine Pick.T (by rw [edges_length]; simpa using hp6.1) ?_
    refine Call.by _ _ (TopsC_at k) ?_
    refine Pick.by (fun h1 => ?_) (fun h1 => ?_)
    · have h1 : ¬ (Ts.length : Int) = (if k = 1 then 4 else 2) := by simpa [ints_length] using h1
      refine Seg.by (by kernel_rfl) ?_
      have hv := modF_no (k := k) (Ts := Ts) (L := L) (fun h => h1 ((shape_iff hk).1 h.1).1)
      dsimp only
      rw [hv]
      exact ⟨rfl, rfl, ⟨rfl, rfl⟩, trivial⟩
    have h1 : (Ts.length : Int) = (if k = 1 then 4 else 2) := by simpa [ints_length] using h1
    refine Seg.by (by kernel_rfl) ?_
    refine Pick.by (fun h2 => ?_) (fun h2 => ?_)
    · have h2 : ¬ L.length = (prsT k).length := by intro e; rw [rowsI_length, edges_length, e] at h2; simp at h2
      have hv := modF_no (k := k) (Ts := Ts) (L := L) (fun h => h2 ((shape_iff hk).1 h.1).2)
      dsimp only
      rw [hv]
      exact ⟨rfl, rfl, ⟨rfl, rfl⟩, trivial⟩
    have h2 : L.length = (prsT k).length := by
      have h2 : ((L.length : Nat) : Int) = ((prsT k).length : Nat) := by simpa [rowsI_length, edges_length] using h2
      omega
    have hsh : shapeP k Ts L := (shape_iff hk).2 ⟨h1, h2⟩
    have hT4 : Ts.length ≤ 4 := by split at h1 <;> omega
    rcases hk with rfl | rfl
    · refine LoopP.intro (α := Nat) (fun i => i ≤ Ts.length) (fun i => Ts.length - i) (fun i => [(1, .ptr 0 0), (2, .ptr 3 0), (3, .sl 4 none none), (4, .ptr 5 0), (37, .sl 1 none none), (38, .s (.i .i64 Ts.length)), (39, .s (.i .i64 i))])
        (fun i => [(0, some (.blk [.s (.i .i64 1), .sl 1 none none, .sl 2 none none])), (1, some (.flat false 1 (ints Ts))), (2, some (.nest false 1 (rowsI L) [] [])), (3, some (.blk [.s (.i .i64 0), .nils])), (4, some (.flat true 2 (edges (prsT 1)))), (5, some (.blk [.s (.i .i64 1), .sl 6 none none])), (6, some (.nest true 1 (rowsI ((Ts.take i).map fun v => [v])) [] []))]) 7 0 (by omega) (by refine Weak.by [(0, some _), (1, some _), (2, some _), (3, some _), (4, some _), (5, some _), (6, none)] (by ((repeat' first | exact rfl | exact trivial | refine And.intro ?_ ?_) <;> (repeat' first | exact rfl | exact trivial | refine And.intro ?_ ?_)); all_goals (exact sc_eq (by rw [ints_length]))) (by ((repeat' first | exact rfl | exact trivial | refine And.intro ?_ ?_) <;> (repeat' first | exact rfl | exact trivial | refine And.intro ?_ ?_)); all_goals (exact sc_eq (by rw [ints_length]))) (by rfl)) ?_
      rintro i hi
      refine Pick.by (fun hc => ?_) (fun hc => ?_)
      · have hlt : i < Ts.length := by have := of_decide_eq_true hc; omega
        have hst : rowsI ((Ts.take (i + 1)).map fun v => [v]) = rowsI ((Ts.take i).map fun v => [v]) ++ [ints [Ts[i]]] := by rw [List.take_succ_eq_append_getElem hlt, List.map_append, ← rowsI_snoc]; rfl
        refine Idx.by i rfl (by rw [ints_length]; exact hlt) ?_
        refine Look.by _ (ints_get (List.getElem?_eq_getElem hlt)) ?_
        refine Pick.T (decide_eq_true (by rw [rowsI_length, List.length_map, List.length_take]; simp only [List.length_cons, List.length_nil]; omega)) ?_
        refine Pick.T (inI64_of (by omega) (by omega)) ?_
        refine Next.by (i + 1) (by omega) (by omega) (by refine Weak.by [(0, some _), (1, some _), (2, some _), (3, some _), (4, some _), (5, some _), (6, some _)] (by ((repeat' first | exact rfl | exact trivial | refine And.intro ?_ ?_) <;> (repeat' first | exact rfl | exact trivial | refine And.intro ?_ ?_)); all_goals ((first | (rw [hst]; rfl) | (simp; done)))) (by ((repeat' first | exact rfl | exact trivial | refine And.intro ?_ ?_) <;> (repeat' first | exact rfl | exact trivial | refine And.intro ?_ ?_)); all_goals ((first | (rw [hst]; rfl) | (simp; done)))) (by rfl))
      have hge : Ts.length ≤ i := by have := of_decide_eq_false hc; omega
      rw [List.take_of_length_le hge]
      refine LoopP.intro (α := Nat) (fun i => i ≤ L.length ∧ ∀ p ∈ L.take i, 2 ≤ p.length) (fun i => L.length - i) (fun i => [(1, .ptr 0 0), (2, .ptr 3 0), (3, .sl 4 none none), (4, .ptr 5 0), (52, .sl 2 none none), (53, .s (.i .i64 L.length)), (54, .s (.i .i64 i))])
        (fun i => [(0, some (.blk [.s (.i .i64 1), .sl 1 none none, .sl 2 none none])), (1, some (.flat false 1 (ints Ts))), (2, some (.nest false 1 (rowsI L) [] [])), (3, some (.blk [.s (.i .i64 0), .nils])), (4, some (.flat true 2 (edges (prsT 1)))), (5, some (.blk [.s (.i .i64 1), .sl 6 none none])), (6, some (.nest true 1 (rowsI (setsA Ts L i)) [] []))]) 7 0 ⟨by omega, by simp⟩ (by refine Weak.by [(0, some _), (1, some _), (2, some _), (3, some _), (4, some _), (5, some _), (6, some _)] (by ((repeat' first | exact rfl | exact trivial | refine And.intro ?_ ?_) <;> (repeat' first | exact rfl | exact trivial | refine And.intro ?_ ?_)); all_goals ((first | exact sc_eq (by rw [rowsI_length]) | (rw [setsA_zero]; done) | (rw [setsA_zero]; rfl) | (simp; done)))) (by ((repeat' first | exact rfl | exact trivial | refine And.intro ?_ ?_) <;> (repeat' first | exact rfl | exact trivial | refine And.intro ?_ ?_)); all_goals ((first | exact sc_eq (by rw [rowsI_length]) | (rw [setsA_zero]; done) | (rw [setsA_zero]; rfl) | (simp; done)))) (by rfl)) ?_
      rintro i ⟨hi, hall⟩
      refine Pick.by (fun hc => ?_) (fun hc => ?_)
      · have hlt : i < L.length := by have := of_decide_eq_true hc; omega
        obtain ⟨p, hp⟩ : ∃ p, L[i] = p := ⟨_, rfl⟩
        have hpm : p ∈ L := by rw [← hp]; exact List.getElem_mem hlt
        have hpl := hLr p hpm
        have hLp : L[i]? = some p := by rw [List.getElem?_eq_getElem hlt, hp]
        have hpg : (rowsI L)[i]? = some (ints p) := rowsI_get hLp
        refine Idx.by i rfl (by rw [rowsI_length]; exact hlt) ?_
        refine Pick.T (by simpa [rowsI_length] using hlt) ?_
        refine Look.by _ hpg ?_
        refine Pick.by (fun h3 => ?_) (fun h3 => ?_)
        · have h3 : p.length < 2 := by have := of_decide_eq_true h3; rw [ints_length] at this; omega
          have hv := modF_no (k := 1) (Ts := Ts) (L := L) (fun h => by have := h.2 p hpm; omega)
          dsimp only
          rw [hv]
          exact ⟨rfl, rfl, ⟨rfl, rfl⟩, trivial⟩
        have h3 : 2 ≤ p.length := by have := of_decide_eq_false h3; rw [ints_length] at this; omega
        have hall2 : ∀ p ∈ L.take (i + 1), 2 ≤ p.length := all_take hlt hall (by rw [hp]; exact h3)
        refine Look.by _ hpg ?_
        refine Pick.T (inI64_of (by rw [ints_length]; omega) (by rw [ints_length]; omega)) ?_
        refine Look.by _ hpg ?_
        refine Rng.by 1 (p.length - 1) rfl (by rw [ints_length]; omega) (by omega) (by rw [ints_length]; omega) ?_
        refine Look.by _ hpg ?_
        have hcl := CloneC_atI (l := innerL p) (by rw [innerL_length]; omega)
        rw [← inner_cut] at hcl
        refine Call.by _ _ hcl ?_
        rw [inner_cut]
        have hi6 : i < (prsT 1).length := by omega
        obtain ⟨⟨qa, qb⟩, hq⟩ : ∃ q, (prsT 1)[i] = q := ⟨_, rfl⟩
        have hqi := prsT_in (k := 1) (.inl rfl) (List.getElem_mem hi6)
        rw [hq] at hqi
        dsimp only at hqi
        have hqe : (edges (prsT 1))[i]? = some [.i .i64 qa, .i .i64 qb] := edges_get (by rw [List.getElem?_eq_getElem hi6, hq])
        have hft : fromT 1 i = qa.toNat := by unfold fromT; rw [List.getD_eq_getElem?_getD, List.getElem?_eq_getElem hi6, hq]; rfl
        have ht4 : Ts.length = 4 := by have h1 : (Ts.length : Int) = 4 := h1; omega
        have hqt : qa.toNat < Ts.length := by have := hqi.1.2; simp at this; omega
        obtain ⟨R0, hR0⟩ : ∃ R0, (Ts.getD qa.toNat 0 :: ((List.range i).filter fun j => fromT 1 j == qa.toNat).flatMap fun j => innerL (L.getD j [])) = R0 := ⟨_, rfl⟩
        have hro : (rowsI (setsA Ts L i))[qa.toNat]? = some (ints R0) := rowsI_get (by rw [setsA_get hqt, hR0])
        have hst : (rowsI (setsA Ts L i)).set qa.toNat (ints R0 ++ ints (innerL p)) = rowsI (setsA Ts L (i + 1)) := by
          rw [← setsA_set (L := L) hqt hft, hR0, rowsI_set, ints_append]
          congr 2
          rw [List.getD_eq_getElem?_getD, hLp]; rfl
        have hrl : (rowsI (setsA Ts L i)).length = Ts.length := by rw [rowsI_length, setsA_len]
        have hR0l : R0.length ≤ 50000 := by
          rw [← hR0, List.length_cons]
          have : ∀ l : List Nat, (l.flatMap fun j => innerL (L.getD j [])).length ≤ l.length * 5000 := fun l => by
            induction l with
            | nil => simp
            | cons x l ih =>
              rw [List.flatMap_cons, List.length_append, List.length_cons, Nat.succ_mul]
              have : (innerL (L.getD x [])).length ≤ 5000 := by
                rw [innerL_length, List.getD_eq_getElem?_getD]
                cases hx : L[x]? with
                | none => simp
                | some y => have := hLr y (List.mem_of_getElem? hx); simp; omega
              omega
          have h1 := this ((List.range i).filter fun j => fromT 1 j == qa.toNat)
          have h2 : ((List.range i).filter fun j => fromT 1 j == qa.toNat).length ≤ i := Nat.le_trans (List.length_filter_le _ _) (by simp)
          have h3 := Nat.mul_le_mul_right 5000 h2
          omega
        refine Idx.by i rfl (by rw [edges_length]; exact hi6) ?_
        refine Idx.by 0 rfl (by decide) ?_
        refine Look.by _ hqe ?_
        refine Idx.by i rfl (by rw [edges_length]; exact hi6) ?_
        refine Idx.by 0 rfl (by decide) ?_
        refine Look.by _ hqe ?_
        refine Idx.by qa.toNat (by show qa = _; omega) (by rw [hrl]; exact hqt) ?_
        refine Pick.T (by rw [hrl]; simpa using hqt) ?_
        refine Look.by _ hro ?_
        refine Pick.T (by simp [cut, ints_length, innerL_length]; omega) ?_
        refine Idx.by qa.toNat (by show qa = _; omega) (by rw [hrl]; exact hqt) ?_
        refine Pick.T (by rw [hrl]; simpa using hqt) ?_
        refine Pick.T (by simp) ?_
        refine Seg.by (by kernel_rfl) ?_
        refine Pick.T (inI64_of (by omega) (by omega)) ?_
        refine Next.by (i + 1) ⟨by omega, hall2⟩ (by omega) (by refine Weak.by [(0, some _), (1, some _), (2, some _), (3, some _), (4, some _), (5, some _), (6, some _)] (by ((repeat' first | exact rfl | exact trivial | refine And.intro ?_ ?_) <;> (repeat' first | exact rfl | exact trivial | refine And.intro ?_ ?_)); all_goals ((first | (rw [← hst]; rfl) | (simp; done)))) (by ((repeat' first | exact rfl | exact trivial | refine And.intro ?_ ?_) <;> (repeat' first | exact rfl | exact trivial | refine And.intro ?_ ?_)); all_goals ((first | (rw [← hst]; rfl) | (simp; done)))) (by rfl))
      have hge : L.length ≤ i := by have := of_decide_eq_false hc; omega
      rw [List.take_of_length_le hge] at hall
      have hil : i = L.length := by omega
      have hv : modF 1 Ts L = (1, setsA Ts L i) := by
        unfold modF
        rw [if_pos ⟨hsh, hall⟩, hil]
        rfl
      dsimp only
      rw [hv]
      exact ⟨rfl, rfl, ⟨rfl, rfl⟩, trivial⟩
    · refine LoopP.intro (α := Nat) (fun i => i ≤ Ts.length) (fun i => Ts.length - i) (fun i => [(1, .ptr 0 0), (2, .ptr 3 0), (3, .sl 4 none none), (4, .ptr 5 0), (37, .sl 1 none none), (38, .s (.i .i64 Ts.length)), (39, .s (.i .i64 i))])
        (fun i => [(0, some (.blk [.s (.i .i64 2), .sl 1 none none, .sl 2 none none])), (1, some (.flat false 1 (ints Ts))), (2, some (.nest false 1 (rowsI L) [] [])), (3, some (.blk [.s (.i .i64 0), .nils])), (4, some (.flat true 2 (edges (prsT 2)))), (5, some (.blk [.s (.i .i64 2), .sl 6 none none])), (6, some (.nest true 1 (rowsI ((Ts.take i).map fun v => [v])) [] []))]) 7 0 (by omega) (by refine Weak.by [(0, some _), (1, some _), (2, some _), (3, some _), (4, some _), (5, some _), (6, none)] (by ((repeat' first | exact rfl | exact trivial | refine And.intro ?_ ?_) <;> (repeat' first | exact rfl | exact trivial | refine And.intro ?_ ?_)); all_goals (exact sc_eq (by rw [ints_length]))) (by ((repeat' first | exact rfl | exact trivial | refine And.intro ?_ ?_) <;> (repeat' first | exact rfl | exact trivial | refine And.intro ?_ ?_)); all_goals (exact sc_eq (by rw [ints_length]))) (by rfl)) ?_
      rintro i hi
      refine Pick.by (fun hc => ?_) (fun hc => ?_)
      · have hlt : i < Ts.length := by have := of_decide_eq_true hc; omega
        have hst : rowsI ((Ts.take (i + 1)).map fun v => [v]) = rowsI ((Ts.take i).map fun v => [v]) ++ [ints [Ts[i]]] := by rw [List.take_succ_eq_append_getElem hlt, List.map_append, ← rowsI_snoc]; rfl
        refine Idx.by i rfl (by rw [ints_length]; exact hlt) ?_
        refine Look.by _ (ints_get (List.getElem?_eq_getElem hlt)) ?_
        refine Pick.T (decide_eq_true (by rw [rowsI_length, List.length_map, List.length_take]; simp only [List.length_cons, List.length_nil]; omega)) ?_
        refine Pick.T (inI64_of (by omega) (by omega)) ?_
        refine Next.by (i + 1) (by omega) (by omega) (by refine Weak.by [(0, some _), (1, some _), (2, some _), (3, some _), (4, some _), (5, some _), (6, some _)] (by ((repeat' first | exact rfl | exact trivial | refine And.intro ?_ ?_) <;> (repeat' first | exact rfl | exact trivial | refine And.intro ?_ ?_)); all_goals ((first | (rw [hst]; rfl) | (simp; done)))) (by ((repeat' first | exact rfl | exact trivial | refine And.intro ?_ ?_) <;> (repeat' first | exact rfl | exact trivial | refine And.intro ?_ ?_)); all_goals ((first | (rw [hst]; rfl) | (simp; done)))) (by rfl))
      have hge : Ts.length ≤ i := by have := of_decide_eq_false hc; omega
      rw [List.take_of_length_le hge]
      refine LoopP.intro (α := Nat) (fun i => i ≤ L.length ∧ ∀ p ∈ L.take i, 2 ≤ p.length) (fun i => L.length - i) (fun i => [(1, .ptr 0 0), (2, .ptr 3 0), (3, .sl 4 none none), (4, .ptr 5 0), (52, .sl 2 none none), (53, .s (.i .i64 L.length)), (54, .s (.i .i64 i))])
        (fun i => [(0, some (.blk [.s (.i .i64 2), .sl 1 none none, .sl 2 none none])), (1, some (.flat false 1 (ints Ts))), (2, some (.nest false 1 (rowsI L) [] [])), (3, some (.blk [.s (.i .i64 0), .nils])), (4, some (.flat true 2 (edges (prsT 2)))), (5, some (.blk [.s (.i .i64 2), .sl 6 none none])), (6, some (.nest true 1 (rowsI (setsB2 Ts L i)) [] []))]) 7 0 ⟨by omega, by simp⟩ (by refine Weak.by [(0, some _), (1, some _), (2, some _), (3, some _), (4, some _), (5, some _), (6, some _)] (by ((repeat' first | exact rfl | exact trivial | refine And.intro ?_ ?_) <;> (repeat' first | exact rfl | exact trivial | refine And.intro ?_ ?_)); all_goals ((first | exact sc_eq (by rw [rowsI_length]) | (rw [setsB2_zero]; done) | (rw [setsB2_zero]; rfl) | (simp; done)))) (by ((repeat' first | exact rfl | exact trivial | refine And.intro ?_ ?_) <;> (repeat' first | exact rfl | exact trivial | refine And.intro ?_ ?_)); all_goals ((first | exact sc_eq (by rw [rowsI_length]) | (rw [setsB2_zero]; done) | (rw [setsB2_zero]; rfl) | (simp; done)))) (by rfl)) ?_
      rintro i ⟨hi, hall⟩
      refine Pick.by (fun hc => ?_) (fun hc => ?_)
      · have hlt : i < L.length := by have := of_decide_eq_true hc; omega
        obtain ⟨p, hp⟩ : ∃ p, L[i] = p := ⟨_, rfl⟩
        have hpm : p ∈ L := by rw [← hp]; exact List.getElem_mem hlt
        have hpl := hLr p hpm
        have hLp : L[i]? = some p := by rw [List.getElem?_eq_getElem hlt, hp]
        have hpg : (rowsI L)[i]? = some (ints p) := rowsI_get hLp
        refine Idx.by i rfl (by rw [rowsI_length]; exact hlt) ?_
        refine Pick.T (by simpa [rowsI_length] using hlt) ?_
        refine Look.by _ hpg ?_
        refine Pick.by (fun h3 => ?_) (fun h3 => ?_)
        · have h3 : p.length < 2 := by have := of_decide_eq_true h3; rw [ints_length] at this; omega
          have hv := modF_no (k := 2) (Ts := Ts) (L := L) (fun h => by have := h.2 p hpm; omega)
          dsimp only
          rw [hv]
          exact ⟨rfl, rfl, ⟨rfl, rfl⟩, trivial⟩
        have h3 : 2 ≤ p.length := by have := of_decide_eq_false h3; rw [ints_length] at this; omega
        have hall2 : ∀ p ∈ L.take (i + 1), 2 ≤ p.length := all_take hlt hall (by rw [hp]; exact h3)
        refine Look.by _ hpg ?_
        refine Pick.T (inI64_of (by rw [ints_length]; omega) (by rw [ints_length]; omega)) ?_
        refine Look.by _ hpg ?_
        refine Rng.by 1 (p.length - 1) rfl (by rw [ints_length]; omega) (by omega) (by rw [ints_length]; omega) ?_
        refine Look.by _ hpg ?_
        have hcl := CloneC_atI (l := innerL p) (by rw [innerL_length]; omega)
        rw [← inner_cut] at hcl
        refine Call.by _ _ hcl ?_
        rw [inner_cut]
        refine Pick.T (decide_eq_true (by rw [rowsI_length]; simp only [setsB2, List.length_append, List.length_map, List.length_take, List.length_cons, List.length_nil]; omega)) ?_
        refine Pick.T (inI64_of (by omega) (by omega)) ?_
        refine Next.by (i + 1) ⟨by omega, hall2⟩ (by omega) (by refine Weak.by [(0, some _), (1, some _), (2, some _), (3, some _), (4, some _), (5, some _), (6, some _)] (by ((repeat' first | exact rfl | exact trivial | refine And.intro ?_ ?_) <;> (repeat' first | exact rfl | exact trivial | refine And.intro ?_ ?_)); all_goals ((rw [setsB2_succ hlt, hp, ← rowsI_snoc]))) (by ((repeat' first | exact rfl | exact trivial | refine And.intro ?_ ?_) <;> (repeat' first | exact rfl | exact trivial | refine And.intro ?_ ?_)); all_goals ((rw [setsB2_succ hlt, hp, ← rowsI_snoc]))) (by rfl))
      have hge : L.length ≤ i := by have := of_decide_eq_false hc; omega
      rw [List.take_of_length_le hge] at hall
      have hil : i = L.length := by omega
      have hv : modF 2 Ts L = (2, setsB2 Ts L i) := by
        unfold modF
        rw [if_pos ⟨hsh, hall⟩, hil]
        unfold setsB2; rw [if_neg (by decide), List.take_length]
      dsimp only
      rw [hv]
      exact ⟨rfl, rfl, ⟨rfl, rfl⟩, trivial⟩
  · have hpr : Try.prsR k = none := if_neg hk
    refine ⟨rfl, _, none, rfl, congrArg some hpr, ?_⟩
    refine Seg.by (by kernel_rfl) ?_
    have hv := modF_no (k := k) (Ts := Ts) (L := L) (fun h => hk (by rcases h.1 with h | h; exact .inl h.1; exact .inr h.1))
    dsimp only
    rw [hv]
    exact ⟨rfl, rfl, ⟨rfl, rfl⟩, trivial⟩
end Go.Sh

set_option linter.unusedVariables false
set_option linter.unusedSimpArgs false
namespace Go.Sh
open Go.Proofs Go.Sort Go.Shelf Go.RowKit
/-! ### rows of cells in their place -/
theorem holds_row {w : World} {own : Nat → Option Key} {key : Option Key} {A : Option Addr} {cap sz : Nat} {rows : Flat} {b off : Nat} {arr : Array Value} {T : TypeId} (h : FlatOk w own key A cap sz rows) (hA : A = some ⟨b, off, none⟩) (hh : w.heap[b]? = some (.cells arr T (0, 0))) :
    Holds id w b off (cellsR rows).toArray := by
  intro t ht
  have ht0 := ht
  have ht : t < rows.flatten.length := by rw [List.size_toArray, cellsR, List.length_map] at ht; exact ht
  have hlen : rows.flatten.length = rows.length * sz := flat_len h.even
  have h0 : 0 < sz := h.pos
  have hi : t / sz < rows.length := by rw [Nat.div_lt_iff_lt_mul h0]; omega
  have hj : t % sz < sz := Nat.mod_lt _ h0
  have hrow : rows[t / sz]? = some rows[t / sz] := List.getElem?_eq_getElem hi
  have hrl := h.even _ _ hrow
  have hcell : (rows[t / sz])[t % sz]? = some (rows[t / sz])[t % sz] := List.getElem?_eq_getElem (by omega)
  obtain ⟨ad, h1, _, h2⟩ := h.cell _ _ _ _ hrow hcell
  rw [hA] at h1
  injection h1 with h1
  subst h1
  have hq : t / sz * sz + t % sz = t := by rw [Nat.mul_comm]; exact Nat.div_add_mod t sz
  have hfl := flat_get h.even (t / sz) (t % sz) _ hrow hj
  rw [hq, hcell] at hfl
  rw [hq, Addr.add_plain] at h2
  refine ⟨?_, by simp [World.frozen?, hh]⟩
  have ht' : t < (cellsR rows).toArray.size := ht0
  rw [getElem!_pos _ t ht', h2]
  have hz : (cellsR rows)[t]? = some (rows[t / sz])[t % sz].val := by unfold cellsR; rw [List.getElem?_map, hfl]; rfl
  have hz2 := List.getElem?_eq_getElem (l := cellsR rows) (i := t) (by simpa using ht')
  rw [hz2] at hz
  injection hz with hz
  simp [hz]
theorem splice_all {α : Type} {l m : List α} (h : m.length = l.length) : splice l 0 m = m := by
  apply List.ext_getElem?
  intro i
  rw [splice_get l 0 m i (by omega)]
  by_cases hi : i < m.length
  · rw [if_pos ⟨by omega, by omega⟩]; simp
  · rw [if_neg (by omega), List.getElem?_eq_none (by omega), List.getElem?_eq_none (by omega)]
theorem put_splice {off : Nat} {arr : Array Value} {cs : List Value} (h : off + cs.length ≤ arr.size) : putCells id off cs.toArray arr = (splice arr.toList off cs).toArray := by
  apply Array.ext'
  apply List.ext_getElem?
  intro i
  rw [List.toList_toArray, splice_get _ _ _ _ (by simpa using h)]
  rw [Array.getElem?_toList]
  unfold putCells
  rw [Array.getElem?_mapIdx]
  by_cases hi : off ≤ i ∧ i < off + cs.length
  · rw [if_pos hi, Array.getElem?_eq_getElem (by omega), Option.map_some, if_pos (by simpa using hi), getElem!_pos _ _ (by simp; omega), List.getElem?_eq_getElem (by omega)]
    simp
  · rw [if_neg hi, Array.getElem?_toList]
    cases hq : arr[i]? with
    | none => rfl
    | some x => rw [Option.map_some, if_neg (by simpa using hi)]
/-- behind a call that laid a row of cells in its place -/
theorem put_row {w w' : World} {own : Nat → Option Key} {key : Key} {A : Option Addr} {cap sz : Nat} {rows' : Flat} {b off : Nat} {arr : Array Value} {T : TypeId} {q : Nat} {os : Array Obj} (ho : own b = some key) (hh : w.heap[b]? = some (.cells arr T (0, 0))) (hs : off + (cellsR rows').length ≤ arr.size)
    (hlay : FlatOk (w.setRow b (splice arr.toList off (cellsR rows')).toArray) own (some key) A cap sz rows') (hown : ∀ b k, own b = some k → b < w.heap.size)
    (hw : w' = grow (putRow id (Sort.ahead w q) b off (cellsR rows').toArray) os) : Frm (fun b => own b = some key) w w' ∧ FlatOk w' own (some key) A cap sz rows' := by
  subst hw
  have hb : b < w.heap.size := hown b _ ho
  have hheap : ∀ x, x < w.heap.size → (grow (putRow id (Sort.ahead w q) b off (cellsR rows').toArray) os).heap[x]? = (w.heap[x]?).map fun o => if x = b then onCells (putCells id off (cellsR rows').toArray) o else o := fun x hx => by
    show ((w.heap.modify b (onCells (putCells id off (cellsR rows').toArray))) ++ os)[x]? = _
    rw [Array.getElem?_append_left (by simpa using hx), Array.getElem?_modify]
    by_cases e : b = x
    · simp [e]
    · have : ¬ x = b := fun h => e h.symm
      simp [e, this]
  refine ⟨⟨rfl, .of rfl, rfl, ?_, fun x hx hn => ?_⟩, hlay.mono id fun x hx hx2 => ⟨hx2, ?_⟩⟩
  · show w.heap.size ≤ ((w.heap.modify b _) ++ os).size
    simp
  · rw [hheap x hx]
    have : x ≠ b := fun e => hn (by rw [e]; exact ho)
    simp [this]
  · have hx' : x < w.heap.size := hown x _ hx2
    rw [hheap x hx']
    by_cases e : x = b
    · subst e
      rw [hh, World.setRow]
      show _ = (w.heap.modify x _)[x]?
      rw [Array.getElem?_modify, if_pos rfl, hh]
      simp [onCells]
      exact put_splice hs
    · rw [World.setRow]
      show _ = (w.heap.modify b _)[x]?
      rw [Array.getElem?_modify, if_neg (fun h => e h.symm)]
      simp [e]
/-! ### edges -/
def encE (p : Ed) : List Value := [.int .i64 p.1, .int .i64 p.2]
theorem edges_even (l : List Ed) : ∀ (i : Nat) (row : Row), (edges l)[i]? = some row → row.length = 2 := fun i row h => by
  simp only [edges, List.getElem?_map, Option.map_eq_some_iff] at h
  obtain ⟨x, _, rfl⟩ := h
  rfl
theorem flatK_edges (l : List Ed) : flatK encE 2 l.toArray = (cellsR (edges l)).toArray := by
  apply Array.ext'
  show (flatK encE 2 l.toArray).toList = cellsR (edges l)
  induction l with
  | nil => simp [flatK, cellsR, edges]
  | cons p l ih =>
    have e : cellsR (edges (p :: l)) = encE p ++ cellsR (edges l) := rfl
    rw [e, ← ih]
    simp only [flatK, List.size_toArray, List.length_cons, Array.toList_map, Array.toList_range]
    rw [show (l.length + 1) * 2 = 2 + l.length * 2 by omega, List.range_add, List.map_append, List.map_map]
    congr 1
    refine List.map_congr_left fun t ht => ?_
    have h1 : (2 + t) / 2 = t / 2 + 1 := by omega
    have h2 : (2 + t) % 2 = t % 2 := by omega
    simp only [Function.comp, h1, h2]
    congr 1
    simp
/-! ### graph.Normal's closure -/
theorem frm_grow [Fwd] (hD : Fwd.D) {w w' : World} (h : Frm (fun _ => False) w w') : ∃ q os, w' = grow (w.drewN q) os := by
  refine ⟨w'.drawn - w.drawn, w'.heap.extract w.heap.size w'.heap.size, ?_⟩
  have hd : w.drawn ≤ w'.drawn := h.tape.2 hD
  have hh : w'.heap = w.heap ++ w'.heap.extract w.heap.size w'.heap.size := by
    apply Array.ext_getElem?
    intro i
    have hs := h.size
    rcases Nat.lt_or_ge i w.heap.size with hi | hi
    · rw [Array.getElem?_append_left hi]; exact h.block i hi (fun h => h)
    · rw [Array.getElem?_append_right hi, Array.getElem?_extract]
      split
      · congr 1; omega
      · rw [Array.getElem?_eq_none]; omega
  have h1 := h.os; have h2 := h.tape.1; have h3 := h.output
  obtain ⟨a1, a2, a3, a4, a5⟩ := w
  obtain ⟨b1, b2, b3, b4, b5⟩ := w'
  simp only at h1 h2 h3 hd
  subst h1 h2 h3
  unfold grow World.drewN
  simp only at hh ⊢
  rw [← hh]
  congr 1
  omega
/-! ### slices.SortFunc on edges -/
theorem ltOf_iff (x y : Ed) : ltOf cmpE x y = decide (ltE x y) := by
  unfold ltOf
  exact decide_eq_decide.2 (cmpE_lt x y)
theorem ltOf_t {x y : Ed} : ltOf cmpE x y = true ↔ ltE x y := by rw [ltOf_iff, decide_eq_true_iff]
theorem ltOf_f {x y : Ed} : ltOf cmpE x y = false ↔ ¬ ltE x y := by rw [ltOf_iff, decide_eq_false_iff_not]
theorem swoE : SWO (ltOf cmpE) where
  irrefl x := by rw [ltOf_f]; unfold ltE; omega
  trans x y z h1 h2 := by rw [ltOf_t] at *; unfold ltE at *; omega
  ntrans x y z h1 h2 := by rw [ltOf_f] at *; unfold ltE at *; omega
theorem totE (x y : Ed) (h1 : ltOf cmpE x y = false) (h2 : ltOf cmpE y x = false) : x = y := by
  rw [ltOf_f] at *; unfold ltE at *
  exact Prod.ext (by omega) (by omega)
def sortE (l : List Ed) : List Ed := l.mergeSort fun x y => !(ltOf cmpE) y x
theorem sortE_perm (l : List Ed) : (sortE l).Perm l := List.mergeSort_perm l _
theorem sortE_sorted (l : List Ed) : (sortE l).Pairwise fun x y => ¬ ltE y x := by
  have := List.pairwise_mergeSort (le := fun x y : Ed => !(ltOf cmpE) y x) (fun a b c h1 h2 => by
    simp only [Bool.not_eq_true', ltOf_f] at *; unfold ltE at *; omega) (fun a b => by
    simp only [Bool.or_eq_true, Bool.not_eq_true', ltOf_f]; unfold ltE; omega) l
  exact this.imp fun h => by simpa only [Bool.not_eq_true', ltOf_f] using h
open Classical in
noncomputable def sortF (l : Flat) : Flat := if h : ∃ E : List Ed, l = edges E then edges (sortE h.choose) else l
theorem sortF_edges (E : List Ed) : sortF (edges E) = edges (sortE E) := by
  have h : ∃ E' : List Ed, edges E = edges E' := ⟨E, rfl⟩
  unfold sortF
  rw [dif_pos h, ← edges_inj h.choose_spec]
end Go.Sh

set_option linter.unusedVariables false
set_option linter.unusedSimpArgs false
namespace Go.Sh
open Go.Proofs
/-! ### graph.Normal -/
theorem edges_set (l : List Ed) (i : Nat) (x : Ed) : (edges l).set i [.i .i64 x.1, .i .i64 x.2] = edges (l.set i x) := by simp [edges, List.map_set]
theorem take_spl {α : Type} (l m : List α) (i : Nat) (h : i + m.length ≤ l.length) : (splice l i m).take i = l.take i := by
  apply List.ext_getElem?
  intro j
  rw [List.getElem?_take, List.getElem?_take]
  split
  · rw [splice_get _ _ _ _ h, if_neg (by omega)]
  · rfl
end Go.Sh

set_option linter.unusedVariables false
set_option linter.unusedSimpArgs false
namespace Go.Sh
open Go.Proofs Go.Sort Go.Shelf Go.RowKit
/-! ### topo.Edges -/
theorem CloE_p [Fwd] : SoundP Try.prog 69 (conF (fun _ : Ed × Ed => True) (fun a => [edV a.1, edV a.2]) (fun a => .one (.s (.i .i64 (cmpE a.1 a.2))))) := by
  refine con_pure (X := { Γ := [(71, CompareC), (70, OrC)], T := T, nt := 17 }) cr_none hmix hT (sound_cons Compare_ok (sound_cons Or_ok sound_nil)) Try.func69 (by rfl) (by rfl) (by rfl) 4 ?_
  rintro ⟨⟨a, b⟩, ⟨c, d⟩⟩ -
  refine ⟨⟨Nat.le_of_ble_eq_true rfl, Nat.le_of_ble_eq_true rfl⟩, ?_⟩
  refine Call.by _ _ (CompareC_at _ _) ?_
  refine Call.by _ _ (CompareC_at _ _) ?_
  refine Call.by _ _ (OrC_at (l := [cmpI a c, cmpI b d]) (by simp)) ?_
  refine Seg.by (by kernel_rfl) ?_
  refine ⟨rfl, ?_⟩
  show _ = _
  rfl
theorem cloE_call (x y : Ed) (W : World) : Calls Try.prog 69 #[.agg (encE x).toArray, .agg (encE y).toArray] W fun e w' => e = .returned (.int .i64 (cmpE x y)) ∧ ∃ q os', w' = grow (W.drewN q) os' := by
  letI : Fwd := ⟨True⟩
  have hz : ∀ (q : Nat) (z : Sc), CellOk W noLab q (.s z) z.val := fun q z => ⟨⟨none, 0, fun _ => none, fun _ => 0⟩, rfl⟩
  have hF : conF (fun _ : Ed × Ed => True) (fun a => [edV a.1, edV a.2]) (fun a => V.one (C.s (.i .i64 (cmpE a.1 a.2)))) [edV x, edV y] = some (.one (.s (.i .i64 (cmpE x y))), []) := compareC_at x y
  refine (CloE_p _ _ _ hF W #[.agg (encE x).toArray, .agg (encE y).toArray] ⟨⟨_, rfl, hz _ _, hz _ _, trivial⟩, ⟨_, rfl, hz _ _, hz _ _, trivial⟩, trivial⟩).mono ?_
  rintro e w' ⟨u, lab, rfl, hf, _, hu⟩
  obtain ⟨p, hu⟩ := hu
  refine ⟨?_, frm_grow trivial hf⟩
  show Ending.returned u = _
  rw [show u = (Sc.i .i64 (cmpE x y)).val from hu]
  rfl
theorem SortE_row : RowFnCall Try.prog 68 69 2 (fun l => ∃ E : List Ed, l = edges E ∧ E.length ≤ 1000000) sortF := by
  refine ⟨⟨_, Try.func68, by decide, by simp [Try.f68]⟩, ?_, ?_⟩
  · rintro l ⟨E, rfl, _⟩
    rw [sortF_edges, edges_length, edges_length, (sortE_perm E).length_eq]
  · rintro l ⟨E, rfl, hE⟩ w own key A cap h hown
    rw [sortF_edges]
    rcases Nat.eq_zero_or_pos E.length with h0 | h0
    · have : E = [] := List.eq_nil_of_length_eq_zero h0
      subst this
      refine (AnyF.slices_SortFunc_none Try.laysSortF A cap _ w).mono ?_
      rintro e w' ⟨rfl, rfl⟩
      exact ⟨rfl, Frm.refl _ _, by simpa [sortE] using h⟩
    · have hlen : (edges (sortE E)).length = (edges E).length := by rw [edges_length, edges_length, (sortE_perm E).length_eq]
      obtain ⟨b, off, arr, T, hA, ho, hh, hs, hlay⟩ := h.lay (lo := 0) (S := edges (sortE E)) (by omega) (by rw [hlen, edges_length]; exact h0) (edges_even _)
      rw [Nat.zero_mul, Nat.add_zero] at hs hlay
      rw [splice_all hlen] at hlay
      have hH : HoldsK encE 2 w b off E.toArray := by
        unfold HoldsK
        rw [flatK_edges]
        exact holds_row h hA hh
      have eg : ∀ args w, (callFunc 69 args).run Try.prog w = .ok (.enter 69 args) w := enters_of Try.func69 (by kernel_rfl) rfl
      subst hA
      rw [edges_length]
      refine (AnyQ.slices_SortFunc_total Try.laysSortF 2 Try.isAgg77 Try.sizeOf77 encE (fun _ => rfl) (fun x v hv => by simp [encE] at hv; rcases hv with rfl | rfl <;> rfl) cmpE swoE 69 #[] b off cap E.toArray w eg (fun _ _ _ _ x y => cloE_call x y _) hH (hown b _ ho) (by simp; omega) totE).mono ?_
      rintro e w' ⟨rfl, q, os, hw⟩
      have hw2 : w' = grow (putRow id (Sort.ahead w q) b off (cellsR (edges (sortE E))).toArray) os := by rw [hw, sortWorldK, putRowK, ← flatK_edges]; rfl
      obtain ⟨h1, h2⟩ := put_row (q := q) (os := os) ho hh hs hlay hown hw2
      exact ⟨rfl, h1, h2⟩

theorem segsR_length (p : List Int) : (segsR p).length = p.length - 1 := by simp [segsR]
theorem segsR_take {p : List Int} {j : Nat} (h : j + 1 < p.length) : (segsR p).take (j + 1) = (segsR p).take j ++ [edN (p.getD j 0, p.getD (j + 1) 0)] := by
  have hl : j < (segsR p).length := by rw [segsR_length]; omega
  rw [List.take_succ_eq_append_getElem hl]
  congr 2
  simp [segsR]
theorem segs_snoc (L : List (List Int)) (p : List Int) : segs (L ++ [p]) = segs L ++ segsR p := by simp [segs]
theorem segs_length {m : Nat} : ∀ {L : List (List Int)}, (∀ p ∈ L, p.length ≤ m) → (segs L).length ≤ L.length * m
  | [], _ => by simp [segs]
  | p :: L, h => by
    have ih := segs_length (m := m) (L := L) fun x hx => h x (List.mem_cons_of_mem _ hx)
    have h1 := h p (by simp)
    have h2 := segsR_length p
    unfold segs at ih ⊢
    rw [List.flatMap_cons, List.length_append, List.length_cons, Nat.succ_mul]
    omega
noncomputable def EdgC : Con := conP 1 (fun a : Int × List Int × List (List Int) => fewL a.2.2) (fun a => [sbV false a.1 a.2.1 a.2.2]) (fun a => .one (.flat true 2 (edges (insAll (segs a.2.2)))))
theorem EdgC_at {k : Int} {Ts : List Int} {L : List (List Int)} (h : fewL L) : EdgC.F [sbV false k Ts L] = some (.one (.flat true 2 (edges (insAll (segs L)))), []) :=
  conP_at (a := (k, Ts, L)) (fun a b _ _ h => by
    obtain ⟨k, Ts, L⟩ := a
    obtain ⟨k', Ts', L'⟩ := b
    simp at h
    obtain ⟨rfl, rfl, rfl⟩ := sbV_inj h
    rfl) h
noncomputable def XEdg : Cx := { Γ := [], T := T, nt := 50, inl := [(72, inlF Try.f72)], ext := [68], base := rowFnCR 68 69 2 (fun l => ∃ E : List Ed, l = edges E ∧ E.length ≤ 1000000) sortF }
theorem XEdg_ok : CrOk Try.prog (callAt 1 XEdg) := callAt_ok hmix hT sound_nil (inl_cons Try.func72 (by rfl) (by rfl) (by rfl) inl_nil) (rowFn_ok SortE_row) 1
set_option maxHeartbeats 2000000 in
theorem Edg_ok : SoundC Try.prog T 34 EdgC := by
  refine sound_con (X := XEdg) (cr := callAt 1 XEdg) XEdg_ok hmix hT sound_nil Try.func34 (by rfl) (by rfl) (by rfl) (by rfl) 3 ?_
  rintro ⟨k, Ts, K⟩ ⟨hK, hKr⟩
  dsimp only at hK hKr ⊢
  refine ⟨⟨Nat.le_of_ble_eq_true rfl, Nat.le_of_ble_eq_true rfl⟩, ?_⟩
  refine LoopP.intro (α := Nat) (fun i => i ≤ K.length) (fun i => K.length - i) (fun i => [(1, .ptr 0 0), (3, .sl 3 none none), (8, .sl 2 none none), (9, .s (.i .i64 K.length)), (10, .s (.i .i64 i))])
    (fun i => [(0, some (.blk [.s (.i .i64 k), .sl 1 none none, .sl 2 none none])), (1, some (.flat false 1 (ints Ts))), (2, some (.nest false 1 (rowsI K) [] [])), (3, some (.flat true 2 (edges (segs (K.take i)))))]) 4 0 (by omega) (by refine Weak.by [(0, some _), (1, some _), (2, some _), (3, none)] (by ((repeat' first | exact rfl | exact trivial | refine And.intro ?_ ?_) <;> (repeat' first | exact rfl | exact trivial | refine And.intro ?_ ?_)); all_goals (exact sc_eq (by rw [rowsI_length]))) (by ((repeat' first | exact rfl | exact trivial | refine And.intro ?_ ?_) <;> (repeat' first | exact rfl | exact trivial | refine And.intro ?_ ?_)); all_goals (exact sc_eq (by rw [rowsI_length]))) (by rfl)) ?_
  rintro i hi
  have hsl : (segs (K.take i)).length ≤ 500000 := by
    have := segs_length (L := K.take i) (m := 5000) fun p hp => hKr p (List.mem_of_mem_take hp)
    rw [List.length_take] at this
    have : min i K.length ≤ 100 := by omega
    have := Nat.mul_le_mul_right 5000 this
    omega
  refine Pick.by (fun hc => ?_) (fun hc => ?_)
  · have hlt : i < K.length := by have := of_decide_eq_true hc; omega
    obtain ⟨p, hp⟩ : ∃ p, K[i] = p := ⟨_, rfl⟩
    have hpl := hKr _ (List.getElem_mem hlt)
    rw [hp] at hpl
    have hpg : (rowsI K)[i]? = some (ints p) := rowsI_get (by rw [List.getElem?_eq_getElem hlt, hp])
    refine Idx.by i rfl (by rw [rowsI_length]; exact hlt) ?_
    refine Pick.T (by simpa [rowsI_length] using hlt) ?_
    refine Look.by _ hpg ?_
    refine Pick.T (inI64_of (by rw [ints_length]; omega) (by rw [ints_length]; omega)) ?_
    refine LoopP.intro (α := Nat) (fun j => j ≤ p.length - 1) (fun j => p.length - j) (fun j => [(1, .ptr 0 0), (3, .sl 3 none none), (5, .sl 2 (some (i, 0)) none), (8, .sl 2 none none), (9, .s (.i .i64 K.length)), (10, .s (.i .i64 i)), (16, .s (.i .i64 ((p.length : Int) - 1))), (17, .s (.i .i64 j))])
      (fun j => [(0, some (.blk [.s (.i .i64 k), .sl 1 none none, .sl 2 none none])), (1, some (.flat false 1 (ints Ts))), (2, some (.nest false 1 (rowsI K) [] [])), (3, some (.flat true 2 (edges (segs (K.take i) ++ (segsR p).take j))))]) 4 0 (by omega) (by refine Weak.by [(0, some _), (1, some _), (2, some _), (3, some _)] (by ((repeat' first | exact rfl | exact trivial | refine And.intro ?_ ?_) <;> (repeat' first | exact rfl | exact trivial | refine And.intro ?_ ?_)); all_goals ((first | exact sc_eq (by rw [ints_length]) | (rw [List.take_zero, List.append_nil]; done) | (simp; done)))) (by ((repeat' first | exact rfl | exact trivial | refine And.intro ?_ ?_) <;> (repeat' first | exact rfl | exact trivial | refine And.intro ?_ ?_)); all_goals ((first | exact sc_eq (by rw [ints_length]) | (rw [List.take_zero, List.append_nil]; done) | (simp; done)))) (by rfl)) ?_
    rintro j hj
    refine Pick.by (fun hc2 => ?_) (fun hc2 => ?_)
    · have hjl : j + 1 < p.length := by have := of_decide_eq_true hc2; omega
      have g0 : p[j]? = some (p.getD j 0) := by rw [List.getD_eq_getElem?_getD, List.getElem?_eq_getElem (by omega)]; rfl
      have g1 : p[j + 1]? = some (p.getD (j + 1) 0) := by rw [List.getD_eq_getElem?_getD, List.getElem?_eq_getElem (by omega)]; rfl
      have hsr := segsR_length p
      have htl : ((segsR p).take j).length ≤ 5000 := by rw [List.length_take]; omega
      have e1 : ∀ {x : Int}, x = (j : Int) + 1 → x = ((j + 1 : Nat) : Int) := fun h => by omega
      refine Look.by _ hpg ?_
      refine Idx.by j rfl (by rw [ints_length]; omega) ?_
      refine Look.by _ hpg ?_
      refine Look.by _ (ints_get g0) ?_
      refine Pick.T (inI64_of (by omega) (by omega)) ?_
      refine Look.by _ hpg ?_
      refine Idx.by (j + 1) (by omega) (by rw [ints_length]; omega) ?_
      refine Look.by _ hpg ?_
      refine Look.by _ (ints_get g1) ?_
      refine Look.by _ hpg ?_
      refine Idx.by j rfl (by rw [ints_length]; omega) ?_
      refine Look.by _ hpg ?_
      refine Look.by _ (ints_get g0) ?_
      refine Pick.T (inI64_of (by omega) (by omega)) ?_
      refine Look.by _ hpg ?_
      refine Idx.by (j + 1) (by omega) (by rw [ints_length]; omega) ?_
      refine Look.by _ hpg ?_
      refine Look.by _ (ints_get g1) ?_
      refine Pick.T (by simp [cut, edges_length]; omega) ?_
      refine Seg.by (by kernel_rfl) ?_
      refine Pick.T (inI64_of (by omega) (by omega)) ?_
      refine Next.by (j + 1) (by omega) (by omega) (by refine Weak.by [(0, some _), (1, some _), (2, some _), (3, some _)] (by ((repeat' first | exact rfl | exact trivial | refine And.intro ?_ ?_) <;> (repeat' first | exact rfl | exact trivial | refine And.intro ?_ ?_)); all_goals ((first | (rw [segsR_take hjl, ← List.append_assoc, edges_snoc]; rfl) | (simp; done)))) (by ((repeat' first | exact rfl | exact trivial | refine And.intro ?_ ?_) <;> (repeat' first | exact rfl | exact trivial | refine And.intro ?_ ?_)); all_goals ((first | (rw [segsR_take hjl, ← List.append_assoc, edges_snoc]; rfl) | (simp; done)))) (by rfl))
    · have hjg : p.length - 1 ≤ j := by have := of_decide_eq_false hc2; omega
      have htk : (segsR p).take j = segsR p := List.take_of_length_le (by rw [segsR_length]; exact hjg)
      rw [htk]
      refine Pick.T (inI64_of (by omega) (by omega)) ?_
      refine Next.by (i + 1) (by omega) (by omega) (by refine Weak.by [(0, some _), (1, some _), (2, some _), (3, some _)] (by ((repeat' first | exact rfl | exact trivial | refine And.intro ?_ ?_) <;> (repeat' first | exact rfl | exact trivial | refine And.intro ?_ ?_)); all_goals ((rw [List.take_succ_eq_append_getElem hlt, hp, segs_snoc]))) (by ((repeat' first | exact rfl | exact trivial | refine And.intro ?_ ?_) <;> (repeat' first | exact rfl | exact trivial | refine And.intro ?_ ?_)); all_goals ((rw [List.take_succ_eq_append_getElem hlt, hp, segs_snoc]))) (by rfl))
  have hge : K.length ≤ i := by have := of_decide_eq_false hc; omega
  rw [List.take_of_length_le hge] at hsl ⊢
  refine ⟨rfl, rfl, _, rfl, ⟨_, rfl, by omega⟩, ?_⟩
  rw [sortF_edges]
  obtain ⟨L, hL⟩ : ∃ L, L = sortE (segs K) := ⟨_, rfl⟩
  have hLl : L.length ≤ 1000000 := by rw [hL, (sortE_perm _).length_eq]; omega
  have hLs : L.Pairwise fun x y => ¬ ltE y x := by rw [hL]; exact sortE_sorted _
  have hLm : ∀ M : List Ed, M.Pairwise ltE → (∀ x, x ∈ M ↔ x ∈ L) → M = insAll (segs K) := fun M h1 h2 => insAll_of h1 fun x => by rw [h2, hL, (sortE_perm _).mem_iff]
  rw [← hL]
  clear hL
  refine Pick.by (fun h6 => ?_) (fun h6 => ?_)
  · have h6 : L.length < 2 := by simp [edges_length] at h6; omega
    have hfin : L = insAll (segs K) := hLm L (by
      match L, h6 with
      | [], _ => exact List.Pairwise.nil
      | [a], _ => simp) (fun x => Iff.rfl)
    rw [hfin]
    exact ⟨rfl, rfl, rfl⟩
  have h6 : ¬ L.length < 2 := by simp [edges_length] at h6; omega
  refine LoopP.intro (α := Nat) (fun k => 1 ≤ k ∧ k ≤ L.length ∧ (L.take k).Pairwise ltE) (fun k => L.length - k) (fun k => [(0, .sl 0 none none), (3, .s (.i .i64 k))])
    (fun k => [(0, some (.flat true 2 (edges L)))]) 1 1 ⟨by omega, by omega, ?_⟩ (by refine Weak.by [(0, some _)] (by ((repeat' first | exact rfl | exact trivial | refine And.intro ?_ ?_) <;> (repeat' first | exact rfl | exact trivial | refine And.intro ?_ ?_))) (by ((repeat' first | exact rfl | exact trivial | refine And.intro ?_ ?_) <;> (repeat' first | exact rfl | exact trivial | refine And.intro ?_ ?_))) (by rfl)) ?_
  · rw [List.take_one]; cases L[0]? <;> simp
  rintro k ⟨hk1, hk, hp⟩
  refine Pick.by (fun h7 => ?_) (fun h7 => ?_)
  · have hkl : k < L.length := by simp [edges_length] at h7; omega
    refine Idx.by k rfl (by rw [edges_length]; exact hkl) ?_
    refine Look.by _ (edges_get (List.getElem?_eq_getElem hkl)) ?_
    refine Pick.T (inI64_of (by omega) (by omega)) ?_
    refine Idx.by (k - 1) (by omega) (by rw [edges_length]; omega) ?_
    refine Look.by _ (edges_get (List.getElem?_eq_getElem (show k - 1 < L.length by omega))) ?_
    refine Seg.by (by kernel_rfl) ?_
    have hsorted := List.pairwise_iff_getElem.1 hLs
    refine Pick.by (fun h8 => ?_) (fun h8 => ?_)
    · have h8 : L[k].1 = L[k - 1].1 ∧ L[k].2 = L[k - 1].2 := by simpa using h8
      have h8 : L[k] = L[k - 1] := Prod.ext h8.1 h8.2
      refine Rng.by k L.length rfl (by rw [edges_length]) (by omega) (by rw [edges_length]; omega) ?_
      refine LoopP.intro (α := Nat × Nat × List Ed) (fun p => 1 ≤ p.1 ∧ p.1 < k + p.2.1 ∧ 1 ≤ p.2.1 ∧ k + p.2.1 ≤ L.length ∧ p.2.2.length = L.length ∧ (p.2.2.take p.1).Pairwise ltE ∧ (∀ x, x ∈ p.2.2.take p.1 ↔ x ∈ L.take (k + p.2.1)) ∧ p.2.2[p.1 - 1]? = L[k + p.2.1 - 1]? ∧ ∀ j, k + p.2.1 - 1 ≤ j → p.2.2[j]? = L[j]?)
        (fun p => L.length - (k + p.2.1)) (fun p => [(0, .sl 0 none none), (3, .s (.i .i64 p.1)), (4, .sl 0 none (some (k, L.length - k))), (5, .s (.i .i64 p.2.1))])
        (fun p => [(0, some (.flat true 2 (edges p.2.2)))]) 1 (k, 1, L) ?_ (by refine Weak.by [(0, some _)] (by ((repeat' first | exact rfl | exact trivial | refine And.intro ?_ ?_) <;> (repeat' first | exact rfl | exact trivial | refine And.intro ?_ ?_))) (by ((repeat' first | exact rfl | exact trivial | refine And.intro ?_ ?_) <;> (repeat' first | exact rfl | exact trivial | refine And.intro ?_ ?_))) (by rfl)) ?_
      · refine ⟨hk1, by simp only; omega, by simp, by simp only; omega, rfl, hp, fun x => ?_, ?_, fun j _ => rfl⟩
        · show x ∈ L.take k ↔ x ∈ L.take (k + 1)
          rw [List.take_succ_eq_append_getElem hkl, List.mem_append]
          constructor
          · exact .inl
          · rintro (h | h)
            · exact h
            · simp at h
              rw [h, h8]
              exact List.mem_iff_getElem?.2 ⟨k - 1, by rw [List.getElem?_take, if_pos (by omega), List.getElem?_eq_getElem]⟩
        · show L[k - 1]? = L[k + 1 - 1]?
          rw [show k + 1 - 1 = k by omega, List.getElem?_eq_getElem hkl, List.getElem?_eq_getElem (by omega), h8]
      rintro ⟨kk, k2, M⟩ ⟨g1, g2, g3, g4, g5, g6, g7, g8, g9⟩
      dsimp only at g1 g2 g3 g4 g5 g6 g7 g8 g9
      refine Pick.by (fun h9 => ?_) (fun h9 => ?_)
      · have h9 : k + k2 < L.length := by simp at h9; omega
        have e1 : M[k + k2]? = some L[k + k2] := by rw [g9 _ (by omega)]; exact List.getElem?_eq_getElem h9
        have e2 : M[k + (k2 - 1)]? = some L[k + (k2 - 1)] := by rw [g9 _ (by omega)]; exact List.getElem?_eq_getElem (by omega)
        refine Idx.by k2 rfl (by omega) ?_
        refine Look.by _ (edges_get e1) ?_
        refine Pick.T (inI64_of (by dsimp only; omega) (by dsimp only; omega)) ?_
        refine Idx.by (k2 - 1) (by dsimp only; omega) (by omega) ?_
        refine Look.by _ (edges_get e2) ?_
        refine Seg.by (by kernel_rfl) ?_
        have e3 : L[k + (k2 - 1)] = L[k + k2 - 1] := by congr 1; omega
        refine Pick.by (fun h10 => ?_) (fun h10 => ?_)
        · have h10 : L[k + k2] ≠ L[k + (k2 - 1)] := fun h => by rw [h] at h10; simp at h10
          have hlt : ltE L[k + (k2 - 1)] L[k + k2] := by
            have h11 := hsorted (k + (k2 - 1)) (k + k2) (by omega) h9 (by omega)
            unfold ltE at h11 ⊢
            rcases Int.lt_trichotomy L[k + k2].1 L[k + (k2 - 1)].1 with h | h | h
            · omega
            · rcases Int.lt_trichotomy L[k + k2].2 L[k + (k2 - 1)].2 with h' | h' | h'
              · omega
              · exact absurd (Prod.ext h h') h10
              · omega
            · omega
          refine Idx.by k2 rfl (by omega) ?_
          refine Look.by _ (edges_get e1) ?_
          have hkM : kk < M.length := by omega
          refine Idx.by kk rfl (by rw [edges_length]; exact hkM) ?_
          refine Look.by _ (edges_get (List.getElem?_eq_getElem hkM)) ?_
          refine Pick.T (inI64_of (by dsimp only; omega) (by dsimp only; omega)) ?_
          refine Pick.T (inI64_of (by dsimp only; omega) (by dsimp only; omega)) ?_
          have hsp : (M.set kk L[k + k2]).take (kk + 1) = M.take kk ++ [L[k + k2]] := by
            rw [List.take_succ_eq_append_getElem (by rw [List.length_set]; exact hkM), List.getElem_set_self, List.take_set_of_le (Nat.le_refl _)]
          have hlast : M[kk - 1]? = some L[k + (k2 - 1)] := by rw [g8, show k + k2 - 1 = k + (k2 - 1) by omega]; exact List.getElem?_eq_getElem (by omega)
          refine Next.by (kk + 1, k2 + 1, M.set kk L[k + k2]) ⟨by dsimp only; omega, by dsimp only; omega, by dsimp only; omega, by dsimp only; omega, by simpa using g5, ?_, fun x => ?_, ?_, fun j hj => ?_⟩ (by dsimp only; omega) (by refine Weak.by [(0, some _)] (by ((repeat' first | exact rfl | exact trivial | refine And.intro ?_ ?_) <;> (repeat' first | exact rfl | exact trivial | refine And.intro ?_ ?_)); all_goals ((rw [← edges_set]; rfl))) (by ((repeat' first | exact rfl | exact trivial | refine And.intro ?_ ?_) <;> (repeat' first | exact rfl | exact trivial | refine And.intro ?_ ?_)); all_goals ((rw [← edges_set]; rfl))) (by rfl))
          · show ((M.set kk L[k + k2]).take (kk + 1)).Pairwise ltE
            rw [hsp, List.pairwise_append]
            refine ⟨g6, by simp, fun a ha b hb => ?_⟩
            simp at hb
            subst hb
            obtain ⟨j, hj, rfl⟩ := List.mem_iff_getElem.1 ha
            rw [List.length_take] at hj
            rcases Nat.lt_or_ge j (kk - 1) with h | h
            · have h12 := List.pairwise_iff_getElem.1 g6 j (kk - 1) (by rw [List.length_take]; omega) (by rw [List.length_take]; omega) h
              have h13 : (M.take kk)[kk - 1]'(by rw [List.length_take]; omega) = L[k + (k2 - 1)] := by
                have : (M.take kk)[kk - 1]? = some L[k + (k2 - 1)] := by rw [List.getElem?_take, if_pos (by omega)]; exact hlast
                rw [List.getElem?_eq_getElem (by rw [List.length_take]; omega)] at this
                injection this
              rw [h13] at h12
              exact h12.trans hlt
            · have hj' : j = kk - 1 := by omega
              subst hj'
              have h13 : (M.take kk)[kk - 1]'(by rw [List.length_take]; omega) = L[k + (k2 - 1)] := by
                have : (M.take kk)[kk - 1]? = some L[k + (k2 - 1)] := by rw [List.getElem?_take, if_pos (by omega)]; exact hlast
                rw [List.getElem?_eq_getElem (by rw [List.length_take]; omega)] at this
                injection this
              rw [h13]
              exact hlt
          · show x ∈ (M.set kk L[k + k2]).take (kk + 1) ↔ x ∈ L.take (k + (k2 + 1))
            rw [hsp, List.mem_append, g7, show k + (k2 + 1) = k + k2 + 1 by omega, List.take_succ_eq_append_getElem h9, List.mem_append]
          · show (M.set kk L[k + k2])[kk + 1 - 1]? = L[k + (k2 + 1) - 1]?
            rw [show kk + 1 - 1 = kk by omega, show k + (k2 + 1) - 1 = k + k2 by omega, List.getElem?_set_self hkM]
            exact (List.getElem?_eq_getElem h9).symm
          · show (M.set kk L[k + k2])[j]? = L[j]?
            have hj : k + (k2 + 1) - 1 ≤ j := hj
            rw [List.getElem?_set_ne (by omega)]
            exact g9 j (by omega)
        · have h10 : L[k + k2] = L[k + (k2 - 1)] := by
            have h10 : L[k + k2].1 = L[k + (k2 - 1)].1 ∧ L[k + k2].2 = L[k + (k2 - 1)].2 := by simpa using h10
            exact Prod.ext h10.1 h10.2
          refine Pick.T (inI64_of (by dsimp only; omega) (by dsimp only; omega)) ?_
          refine Next.by (kk, k2 + 1, M) ⟨g1, by dsimp only; omega, by dsimp only; omega, by dsimp only; omega, g5, g6, fun x => ?_, ?_, fun j hj => g9 j (by dsimp only at hj; omega)⟩ (by dsimp only; omega) (by refine Weak.by [(0, some _)] (by ((repeat' first | exact rfl | exact trivial | refine And.intro ?_ ?_) <;> (repeat' first | exact rfl | exact trivial | refine And.intro ?_ ?_))) (by ((repeat' first | exact rfl | exact trivial | refine And.intro ?_ ?_) <;> (repeat' first | exact rfl | exact trivial | refine And.intro ?_ ?_))) (by rfl))
          · show x ∈ M.take kk ↔ x ∈ L.take (k + (k2 + 1))
            rw [g7, show k + (k2 + 1) = k + k2 + 1 by omega, List.take_succ_eq_append_getElem h9, List.mem_append]
            constructor
            · exact .inl
            · rintro (h | h)
              · exact h
              · simp at h
                rw [h, h10]
                exact List.mem_iff_getElem?.2 ⟨k + (k2 - 1), by rw [List.getElem?_take, if_pos (by omega), List.getElem?_eq_getElem]⟩
          · show M[kk - 1]? = L[k + (k2 + 1) - 1]?
            rw [g8, show k + (k2 + 1) - 1 = k + k2 by omega, List.getElem?_eq_getElem h9, List.getElem?_eq_getElem (by omega), h10, e3]
      have h9 : L.length = k + k2 := by simp at h9; omega
      refine Rng.by kk L.length rfl (by dsimp only; rw [edges_length, g5]) (by omega) (by dsimp only; rw [edges_length]; omega) ?_
      have hkL : kk ≤ (edges M).length := by rw [edges_length]; omega
      have hc1 : (cut (subOf none 0 kk L.length) (edges M)).length = L.length - kk := by
        show (((edges M).drop kk).take (L.length - kk)).length = _
        rw [List.length_take, List.length_drop, edges_length]; omega
      refine Pick.T (decide_eq_true (by
        show kk + (cut (subOf none 0 kk L.length) (edges M)).length ≤ (edges M).length
        rw [hc1, edges_length]; omega)) ?_
      have hnrm : M.take kk = insAll (segs K) := hLm _ g6 fun x => by rw [g7, ← h9, List.take_length]
      have hkn : (insAll (segs K)).length = kk := by rw [← hnrm, List.length_take]; omega
      have hb : kk + (List.replicate (cut (subOf none 0 kk L.length) (edges M)).length [Sc.i .i64 0, Sc.i .i64 0]).length ≤ (edges M).length := by rw [List.length_replicate, hc1, edges_length]; omega
      have hfl : (splice (edges M) kk (List.replicate (cut (subOf none 0 kk L.length) (edges M)).length [Sc.i .i64 0, Sc.i .i64 0])).take kk = edges (insAll (segs K)) := by
        rw [take_spl _ _ _ hb, ← hnrm]
        simp [edges, List.map_take]
      have hsl := splice_length (edges M) kk _ hb
      refine Rng.by 0 kk rfl rfl (by omega) (by
        show kk ≤ (splice (edges M) kk (List.replicate (cut (subOf none 0 kk L.length) (edges M)).length [Sc.i .i64 0, Sc.i .i64 0])).length
        rw [hsl]; exact hkL) ?_
      exact ⟨rfl, rfl, hfl.symm⟩
    have h8 : L[k] ≠ L[k - 1] := fun h => by rw [h] at h8; simp at h8
    refine Pick.T (inI64_of (by omega) (by omega)) ?_
    refine Next.by (k + 1) ⟨by omega, by omega, pw_step hkl hp (fun _ => ?_)⟩ (by show L.length - (k + 1) < L.length - k; omega) (by refine Weak.by [(0, some _)] (by ((repeat' first | exact rfl | exact trivial | refine And.intro ?_ ?_) <;> (repeat' first | exact rfl | exact trivial | refine And.intro ?_ ?_))) (by ((repeat' first | exact rfl | exact trivial | refine And.intro ?_ ?_) <;> (repeat' first | exact rfl | exact trivial | refine And.intro ?_ ?_))) (by rfl))
    have h11 := hsorted (k - 1) k (by omega) hkl (by omega)
    unfold ltE at h11 ⊢
    rcases Int.lt_trichotomy L[k].1 L[k - 1].1 with h | h | h
    · omega
    · rcases Int.lt_trichotomy L[k].2 L[k - 1].2 with h' | h' | h'
      · omega
      · exact absurd (Prod.ext h h') h8
      · omega
    · omega
  have hkl : k = L.length := by simp [edges_length] at h7; omega
  subst hkl
  rw [List.take_length] at hp
  have hfin : L = insAll (segs K) := hLm L hp fun x => Iff.rfl
  rw [hfin]
  exact ⟨rfl, rfl, rfl⟩
end Go.Sh

set_option linter.unusedVariables false
set_option linter.unusedSimpArgs false
namespace Go.Sh
open Go.Proofs Go.Sort Go.Shelf Go.RowKit
/-! ### slices.SortFunc on rows of numbers -/
theorem put_heap {α : Type} [Inhabited α] (enc : α → Value) (w : World) (q b off : Nat) (d : Array α) (os : Array Obj) {x : Nat} (hx : x < w.heap.size) :
    (grow (putRow enc (Sort.ahead w q) b off d) os).heap[x]? = (w.heap[x]?).map fun o => if x = b then onCells (putCells enc off d) o else o := by
  show ((w.heap.modify b (onCells (putCells enc off d))) ++ os)[x]? = _
  rw [Array.getElem?_append_left (by simpa using hx), Array.getElem?_modify]
  by_cases e : b = x
  · simp [e]
  · have : ¬ x = b := fun h => e h.symm
    simp [e, this]
noncomputable def sortL (cf : List Int → List Int → Int) (L : List (List Int)) : List (List Int) := L.mergeSort fun x y => !(ltOf cf) y x
theorem sortL_perm (cf : List Int → List Int → Int) (L : List (List Int)) : (sortL cf L).Perm L := List.mergeSort_perm L _
open Classical in
noncomputable def sortN (cf : List Int → List Int → Int) (l : List Flat) : List Flat := if h : ∃ L : List (List Int), l = rowsI L then rowsI (sortL cf h.choose) else l
theorem sortN_rows (cf : List Int → List Int → Int) (L : List (List Int)) : sortN cf (rowsI L) = rowsI (sortL cf L) := by
  have h : ∃ L' : List (List Int), rowsI L = rowsI L' := ⟨L, rfl⟩
  unfold sortN
  rw [dif_pos h, ← rowsI_inj h.choose_spec]
def sortNP (good : List Int → Prop) (cf : List Int → List Int → Int) (l : List Flat) : Prop := ∃ L : List (List Int), l = rowsI L ∧ (∀ r ∈ L, good r) ∧ L.Pairwise (fun x y => ltOf cf x y = true ∨ ltOf cf y x = true) ∧ L.length ≤ 1000000
theorem nest_sort {P : Program} {ρ : Ren} (LS : SlLaysF.n6 P ρ) {f c : Nat} (hf : ρ.f 6 = f) (hfn : ∃ fn, P.funcs[f]? = some fn ∧ fn.name ≠ "runtime.NumGoroutine" ∧ fn.body ≠ none)
    (eg : ∀ args w, (callFunc c args).run P w = .ok (.enter c args) w) (good : List Int → Prop) (cf : List Int → List Int → Int) (hO : SWO (ltOf cf))
    (hC : ∀ (x y : List Int) (A B : Option Addr) (ca cb : Nat) (W : World), good x → good y → FlatOk W noLab none A ca 1 (ints x) → FlatOk W noLab none B cb 1 (ints y) →
      Calls P c #[.slice A x.length ca, .slice B y.length cb] W fun e w' => e = .returned (.int .i64 (cf x y)) ∧ ∃ q os', w' = grow (W.drewN q) os') :
    NestFnCall P f c 1 (sortNP good cf) (sortN cf) := by
  refine ⟨hfn, ?_⟩
  rintro l ⟨L, rfl, hg, hD, hl⟩ w own n A cap rb rc h hown
  rw [sortN_rows]
  subst hf
  rcases Nat.eq_zero_or_pos L.length with h0 | h0
  · have : L = [] := List.eq_nil_of_length_eq_zero h0
    subst this
    refine (AnyF.slices_SortFunc_none { LS with } A cap _ w).mono ?_
    rintro e w' ⟨rfl, rfl⟩
    refine ⟨rfl, Frm.refl _ _, id, id, fun i hi => ⟨hi, rfl⟩, fun i hi => ⟨hi, rfl⟩, by simp [sortL], fun i fl hi => ?_, fun i fl hi => ?_, ?_⟩
    · simp [sortL, rowsI] at hi
    · simp [sortL, rowsI] at hi
    · rcases h.room rfl with ⟨h1, _⟩ | h1
      · exact .inl ⟨h1, by simp [sortL, rowsI]⟩
      · exact .inr h1
  · obtain ⟨m, hm⟩ : ∃ m, L.length = m + 1 := ⟨L.length - 1, by omega⟩
    rcases h.room rfl with ⟨_, h1⟩ | ⟨b, off, arr, T', hA, ho, hh, hsz⟩
    · have : L = [] := by simpa [rowsI] using h1
      rw [this] at h0; simp at h0
    have hbl : b < w.heap.size := hown b _ ho
    let el : Fin (m + 1) → List Int := fun i => L[i.1]'(by omega)
    let enc : Fin (m + 1) → Value := fun i => .slice (rb i.1) (el i).length (rc i.1)
    let cf' : Fin (m + 1) → Fin (m + 1) → Int := fun i j => cf (el i) (el j)
    have hfits := h.fits
    rw [rowsI_length] at hfits
    have hrow : ∀ i : Fin (m + 1), (rowsI L)[i.1]? = some (ints (el i)) := fun i => rowsI_get (List.getElem?_eq_getElem (by omega))
    have hmem : ∀ i : Fin (m + 1), el i ∈ L := fun i => List.getElem_mem _
    have hlt : ∀ i j : Fin (m + 1), ltOf cf' i j = ltOf cf (el i) (el j) := fun i j => rfl
    have hO' : SWO (ltOf cf') := ⟨fun x => hO.irrefl _, fun x y z => hO.trans _ _ _, fun x y z => hO.ntrans _ _ _⟩
    have hT : ∀ x y, (ltOf cf') x y = false → (ltOf cf') y x = false → x = y := fun x y h1 h2 => by
      rw [List.pairwise_iff_getElem] at hD
      rcases Nat.lt_trichotomy x.1 y.1 with hxy | hxy | hxy
      · have := hD x.1 y.1 (by omega) (by omega) hxy
        rw [hlt] at h1 h2
        rcases this with k | k
        · rw [show ltOf cf L[x.1] L[y.1] = false from h1] at k; simp at k
        · rw [show ltOf cf L[y.1] L[x.1] = false from h2] at k; simp at k
      · exact Fin.ext hxy
      · have := hD y.1 x.1 (by omega) (by omega) hxy
        rw [hlt] at h1 h2
        rcases this with k | k
        · rw [show ltOf cf L[y.1] L[x.1] = false from h2] at k; simp at k
        · rw [show ltOf cf L[x.1] L[y.1] = false from h1] at k; simp at k
    have hd : ((List.finRange (m + 1)).toArray).size = m + 1 := by simp
    have hcell : ∀ i : Fin (m + 1), w.cell? ⟨b, off + i.1, none⟩ = some (enc i) := fun i => by
      obtain ⟨a, v, q1, q2, q3, q4⟩ := h.head i.1 _ (hrow i)
      rw [hA] at q1; injection q1 with q1; subst q1
      rw [Addr.add_plain] at q3
      rw [q3, q4 (by simp), ints_length]
    have hH : Holds enc w b off (List.finRange (m + 1)).toArray := fun j hj => by
      rw [hd] at hj
      refine ⟨?_, by simp [World.frozen?, hh]⟩
      rw [getElem!_pos _ j (by rw [hd]; exact hj)]
      have hj' : (List.finRange (m + 1)).toArray[j]'(by rw [hd]; exact hj) = ⟨j, hj⟩ := by simp
      rw [hj', hcell ⟨j, hj⟩]
    have hfl : ∀ (q : Nat) (os : Array Obj) (d' : Array (Fin (m + 1))) (i : Fin (m + 1)), FlatOk (sortWorld enc w b off q d' os) noLab none (rb i.1) (rc i.1) 1 (ints (el i)) := fun q os d' i => by
      have hr := h.row i.1 _ (hrow i) (by simp)
      refine ⟨hr.fits, hr.pos, hr.even, fun i' row j x hi hj => ?_, fun hs => by simp at hs⟩
      obtain ⟨a, k1, k2, k3⟩ := hr.cell i' row j x hi hj
      refine ⟨a, k1, rfl, ?_⟩
      have hab : a.block < w.heap.size := hown _ _ k2
      have hne : a.block ≠ b := fun e => by rw [e, ho] at k2; injection k2 with k2; injection k2 with _ k2; simp at k2
      rw [cell_of_block (w := w)]
      · exact k3
      · rw [Addr.add_block]
        show (grow (putRow enc (Sort.ahead w q) b off d') os).heap[a.block]? = _
        rw [put_heap enc w q b off d' os hab]
        simp [hne]
    have hcmp : CmpLays1 P c #[] enc cf' b off (List.finRange (m + 1)).toArray.size w := fun q os dk hs x y =>
      hC (el x) (el y) _ _ _ _ _ (hg _ (hmem x)) (hg _ (hmem y)) (hfl q os dk x) (hfl q os dk y)
    have hS := Any.slices_SortFunc_total LS enc (fun _ => rfl) cf' hO' c #[] b off cap (List.finRange (m + 1)).toArray w eg hcmp hH hbl (by rw [hd]; omega) hT
    rw [rowsI_length, hm, hA]
    rw [hd] at hS
    refine hS.mono ?_
    rintro e w' ⟨rfl, q, os, rfl⟩
    obtain ⟨M, hM⟩ : ∃ M, (List.finRange (m + 1)).mergeSort (fun x y => !(ltOf cf') y x) = M := ⟨_, rfl⟩
    simp only [hM]
    have hperm : M.Perm (List.finRange (m + 1)) := by rw [← hM]; exact List.mergeSort_perm _ _
    have hML : M.length = m + 1 := by rw [hperm.length_eq]; simp
    have hnd : M.Nodup := hperm.nodup_iff.2 (List.nodup_finRange _)
    have hall : ∀ i : Fin (m + 1), i ∈ M := fun i => hperm.mem_iff.2 (List.mem_finRange i)
    have hmap : sortL cf L = M.map el := by
      have hLm : L = (List.finRange (m + 1)).map el := by
        apply List.ext_getElem
        · simp [hm]
        · intro i h1 h2; simp [el]
      rw [← hM, List.map_mergeSort (r := fun x y => !(ltOf cf') y x) (s := fun x y => !(ltOf cf) y x) (f := el) (fun a _ b _ => rfl), ← hLm]
      rfl
    have hlen : (rowsI (sortL cf L)).length = m + 1 := by rw [hmap]; simp [rowsI, hML]
    let s : Nat → Nat := fun i => if h : i < M.length then (M[i]).1 else i
    let t : Nat → Nat := fun j => if h : j < m + 1 then M.idxOf ⟨j, h⟩ else j
    have hs : ∀ i, (hi : i < m + 1) → s i = (M[i]'(by omega)).1 := fun i hi => by simp only [s]; rw [dif_pos (by omega)]
    have hget : ∀ i fl, (rowsI (sortL cf L))[i]? = some fl → i < m + 1 ∧ ∃ hi : i < M.length, fl = ints (el M[i]) := fun i fl hi => by
      have hil := (List.getElem?_eq_some_iff.1 hi).1
      rw [hlen] at hil
      refine ⟨hil, by omega, ?_⟩
      rw [hmap] at hi
      simp only [rowsI, List.getElem?_map, List.getElem?_eq_getElem (show i < M.length by omega), Option.map_some, Option.some.injEq] at hi
      exact hi.symm
    refine ⟨trivial, ⟨rfl, .of rfl, rfl, ?_, fun x hx hn => ?_⟩, s, t, fun i hi => ⟨by rw [hs i hi]; exact (M[i]'(by omega)).2, ?_⟩, fun i hi => ?_, hlen, fun i fl hi => ?_, fun i fl hi => ?_, .inr ⟨b, off, putCells enc off M.toArray arr, T', rfl, ho, ?_, by simp [putCells]; omega⟩⟩
    · show w.heap.size ≤ ((w.heap.modify b _) ++ os).size
      simp
    · show (grow (putRow enc (Sort.ahead w q) b off M.toArray) os).heap[x]? = _
      rw [put_heap enc w q b off M.toArray os hx]
      have : x ≠ b := fun e => hn (by rw [e]; exact ho)
      simp [this]
    · have hsi := hs i hi
      simp only [t]
      rw [dif_pos (by rw [hsi]; exact (M[i]'(by omega)).2)]
      have : (⟨s i, by rw [hsi]; exact (M[i]'(by omega)).2⟩ : Fin (m + 1)) = M[i]'(by omega) := Fin.ext hsi
      rw [this]
      exact hnd.idxOf_getElem i (by omega)
    · have hti : t i = M.idxOf ⟨i, hi⟩ := by simp only [t]; rw [dif_pos hi]
      have hlt' : M.idxOf (⟨i, hi⟩ : Fin (m + 1)) < M.length := List.idxOf_lt_length_of_mem (hall _)
      refine ⟨by omega, ?_⟩
      rw [hti, hs _ (by omega), List.getElem_idxOf hlt']
    · obtain ⟨hi1, hi2, rfl⟩ := hget i fl hi
      rw [hs i hi1]
      exact hrow _
    · obtain ⟨hi1, hi2, rfl⟩ := hget i fl hi
      refine ⟨_, rfl, ?_⟩
      rw [Addr.add_plain, hs i hi1]
      show (grow (putRow enc (Sort.ahead w q) b off M.toArray) os).cell? _ = _
      simp only [World.cell?, put_heap enc w q b off M.toArray os hbl, hh, Option.map_some, if_true, onCells]
      show (putCells enc off M.toArray arr)[off + i]? = _
      unfold putCells
      rw [Array.getElem?_mapIdx, Array.getElem?_eq_getElem (by omega), Option.map_some, if_pos (by simp; omega), ints_length]
      rw [getElem!_pos _ _ (by simp; omega)]
      simp [enc]
    · show (grow (putRow enc (Sort.ahead w q) b off M.toArray) os).heap[b]? = _
      rw [put_heap enc w q b off M.toArray os hbl, hh]
      simp [onCells]
end Go.Sh

set_option linter.unusedVariables false
set_option linter.unusedSimpArgs false
namespace Go.Sh
open Go.Proofs
/-! ### what is read: a path followed from a top -/
/-- the next one behind a path whose last one has two neighbours -/
def nxtT (E : List Ed) (p : List Int) : Int := (nearL E (p.getLastD 0)).getD 0 0 + (nearL E (p.getLastD 0)).getD 1 0 - p.getD (p.length - 2) 0
def goT (E : List Ed) : Nat → List Int → List Int
  | 0, p => p
  | f + 1, p => if (nearL E (p.getLastD 0)).length = 2 then goT E f (p ++ [nxtT E p]) else p
structure FolT (n : Int) (E : List Ed) (t : Int) (p : List Int) : Prop where
  two : 2 ≤ p.length
  hd : p.getD 0 0 = t
  st : stepsE E p
  nd : p.dropLast.Nodup
  deg : ∀ i, 1 ≤ i → i + 1 < p.length → (nearL E (p.getD i 0)).length = 2
  ne : ∀ i, i + 2 < p.length → p.getD i 0 ≠ p.getD (i + 2) 0
theorem adj_ne {n : Int} {E : List Ed} (hR : RightP n E) {x y : Int} (h : adjE E x y) : x ≠ y := by
  rcases h with h | h <;> (have := hR.2.2.2.1 _ h; unfold okE at this; dsimp only at this; omega)
theorem near_nodup {n : Int} {E : List Ed} (hR : RightP n E) (v : Int) : (nearL E v).Nodup :=
  (near_sorted hR.2.2.2.1 hR.2.2.2.2).imp fun h => by omega
theorem lastD_get {p : List Int} (h : 0 < p.length) : p.getLastD 0 = p.getD (p.length - 1) 0 := by
  rw [List.getLastD_eq_getLast?, List.getLast?_eq_getElem?, List.getD_eq_getElem?_getD]
/-- of two neighbours: which they are -/
theorem two_near {n : Int} {E : List Ed} (hR : RightP n E) {v a : Int} (h : (nearL E v).length = 2) (ha : adjE E v a) :
    adjE E v ((nearL E v).getD 0 0 + (nearL E v).getD 1 0 - a) ∧ (nearL E v).getD 0 0 + (nearL E v).getD 1 0 - a ≠ a ∧ ∀ b, adjE E v b → b = a ∨ b = (nearL E v).getD 0 0 + (nearL E v).getD 1 0 - a := by
  have hm : a ∈ nearL E v := mem_nearL.2 ha
  have hnd := near_nodup hR v
  obtain ⟨c, d, hcd⟩ : ∃ c d, nearL E v = [c, d] := by
    match hq : nearL E v, h with
    | [c, d], _ => exact ⟨c, d, rfl⟩
  have hall : ∀ b, adjE E v b ↔ b = c ∨ b = d := fun b => by rw [← mem_nearL, hcd]; simp
  rw [hcd] at hm hnd ⊢
  have hne : c ≠ d := by simpa using hnd
  simp only [List.getD_cons_zero, List.getD_cons_succ]
  simp only [List.mem_cons, List.not_mem_nil, or_false] at hm
  rcases hm with rfl | rfl
  · rw [show a + d - a = d by omega]
    exact ⟨(hall d).2 (.inr rfl), Ne.symm hne, fun b hb => (hall b).1 hb⟩
  · rw [show c + a - a = c by omega]
    exact ⟨(hall c).2 (.inl rfl), hne, fun b hb => ((hall b).1 hb).symm⟩
theorem getD_snoc {p : List Int} {x : Int} {i : Nat} : (p ++ [x]).getD i 0 = if i < p.length then p.getD i 0 else if i = p.length then x else 0 := by
  simp only [List.getD_eq_getElem?_getD, List.getElem?_append]
  by_cases h : i < p.length
  · rw [if_pos h, if_pos h]
  · rw [if_neg h, if_neg h]
    by_cases h2 : i = p.length
    · subst h2; simp
    · rw [if_neg h2, List.getElem?_eq_none (by simp; omega)]; rfl
section
variable {n : Int} {E : List Ed} {t : Int} {p : List Int}
theorem FolT.last_new (h : FolT n E t p) (hR : RightP n E) (ht : (nearL E t).length ≠ 2) (h2 : (nearL E (p.getLastD 0)).length = 2) : p.Nodup := by
  have h0 := h.two
  have hne0 : p ≠ [] := by intro e; rw [e] at h0; simp at h0
  have hl := lastD_get (p := p) (by omega)
  rw [hl] at h2
  have hdl : ∀ i, i + 1 < p.length → p.dropLast[i]? = some (p.getD i 0) := fun i hi => by
    rw [List.getElem?_dropLast, if_pos (by omega), List.getElem?_eq_getElem (by omega), getD_at (by omega)]
  have hinj : ∀ i j, i + 1 < p.length → j + 1 < p.length → p.getD i 0 = p.getD j 0 → i = j := fun i j hi hj e => by
    have hi' : i < p.dropLast.length := by simp; omega
    exact (List.getElem?_inj hi' h.nd).1 (by rw [hdl i hi, hdl j hj, e])
  have hlast : ∀ j, j + 1 < p.length → p.getD (p.length - 1) 0 ≠ p.getD j 0 := fun j hj e => by
    rcases Nat.eq_zero_or_pos j with rfl | hj0
    · rw [e, h.hd] at h2; exact ht h2
    have hdj := h.deg j hj0 hj
    have s1 := h.st (j - 1) (by omega)
    rw [show j - 1 + 1 = j by omega] at s1
    have s2 := h.st j (by omega)
    have s3 := h.st (p.length - 2) (by omega)
    rw [show p.length - 2 + 1 = p.length - 1 by omega, e] at s3
    have hall := (two_near hR hdj s1.symm).2.2
    have hne := h.ne (j - 1) (by omega)
    rw [show j - 1 + 2 = j + 1 by omega] at hne
    have e2 := (hall _ s2).resolve_left (Ne.symm hne)
    rcases hall _ s3.symm with k | k
    · have := hinj _ _ (by omega) (by omega) k; omega
    · rw [← e2] at k
      rcases Nat.lt_or_ge (j + 2) p.length with hj2 | hj2
      · have := hinj _ _ (by omega) (by omega) k
        have hx := h.ne j (by omega)
        rw [show j + 2 = p.length - 1 by omega] at hx
        exact hx e.symm
      · have hj3 : j + 1 = p.length - 1 := by omega
        rw [hj3, e] at s2
        exact adj_ne hR s2 rfl
  have hsp : p = p.dropLast ++ [p.getLast hne0] := (List.dropLast_concat_getLast hne0).symm
  rw [hsp, List.nodup_append]
  refine ⟨h.nd, by simp, fun a ha b hb e => ?_⟩
  simp only [List.mem_singleton] at hb
  subst hb
  obtain ⟨j, hj, hja⟩ := List.mem_iff_getElem.1 ha
  rw [List.length_dropLast] at hj
  refine hlast j (by omega) ?_
  rw [getD_at (by omega), getD_at (by omega), ← List.getLast_eq_getElem hne0, ← e, ← hja]
  simp
theorem FolT.next (h : FolT n E t p) (hR : RightP n E) (ht : (nearL E t).length ≠ 2) (h2 : (nearL E (p.getLastD 0)).length = 2) : FolT n E t (p ++ [nxtT E p]) := by
  have h0 := h.two
  have hl := lastD_get (p := p) (by omega)
  have hnd := h.last_new hR ht h2
  have s3 := h.st (p.length - 2) (by omega)
  rw [show p.length - 2 + 1 = p.length - 1 by omega, ← hl] at s3
  obtain ⟨q1, q2, _⟩ := two_near hR h2 s3.symm
  refine ⟨by simp; omega, ?_, fun i hi => ?_, by simpa using hnd, fun i h1 hi => ?_, fun i hi => ?_⟩
  · rw [getD_snoc, if_pos (by omega)]; exact h.hd
  · simp at hi
    rw [getD_snoc, getD_snoc, if_pos (by omega)]
    by_cases hi2 : i + 1 < p.length
    · rw [if_pos hi2]; exact h.st i hi2
    · rw [if_neg hi2, if_pos (by omega), show i = p.length - 1 by omega, ← hl]
      exact q1
  · simp at hi
    rw [getD_snoc, if_pos (by omega)]
    by_cases hi2 : i + 1 < p.length
    · exact h.deg i h1 hi2
    · rw [show i = p.length - 1 by omega, ← hl]; exact h2
  · simp at hi
    rw [getD_snoc, getD_snoc, if_pos (by omega)]
    by_cases hi2 : i + 2 < p.length
    · rw [if_pos hi2]; exact h.ne i hi2
    · rw [if_neg hi2, if_pos (by omega), show i = p.length - 2 by omega]
      exact Ne.symm q2
theorem FolT.inN (h : FolT n E t p) (hR : RightP n E) : ∀ x ∈ p, 0 ≤ x ∧ x < n := fun x hx => by
  obtain ⟨i, hi, rfl⟩ := List.mem_iff_getElem.1 hx
  have h0 := h.two
  rw [← getD_at hi]
  by_cases h1 : i + 1 < p.length
  · exact (adj_in hR (h.st i h1)).1
  · have := (adj_in hR (h.st (i - 1) (by omega))).2
    rwa [show i - 1 + 1 = i by omega] at this
theorem FolT.len (h : FolT n E t p) (hR : RightP n E) : p.length ≤ n.toNat + 1 := by
  have := range_len h.nd fun x hx => h.inN hR x ((List.dropLast_sublist _).subset hx)
  simp at this; omega
theorem FolT.len2 (h : FolT n E t p) (hR : RightP n E) (ht : (nearL E t).length ≠ 2) (h2 : (nearL E (p.getLastD 0)).length = 2) : p.length ≤ n.toNat :=
  range_len (h.last_new hR ht h2) (h.inN hR)
theorem FolT.start {x : Int} (hx : x ∈ nearL E t) : FolT n E t [t, x] where
  two := by simp
  hd := rfl
  st i hi := by
    have hi : i + 1 < 2 := hi
    have : i = 0 := by omega
    subst this
    exact mem_nearL.1 hx
  nd := by simp
  deg i h1 hi := by
    have hi : i + 1 < 2 := hi
    omega
  ne i hi := by
    have hi : i + 2 < 2 := hi
    omega
end
theorem goT_stop {E : List Ed} {f : Nat} {p : List Int} (h : (nearL E (p.getLastD 0)).length ≠ 2) : goT E f p = p := by
  cases f with
  | zero => rfl
  | succ f => exact if_neg h
theorem goT_step {E : List Ed} {f : Nat} {p : List Int} (h : (nearL E (p.getLastD 0)).length = 2) : goT E (f + 1) p = goT E f (p ++ [nxtT E p]) := if_pos h
/-- what a path is that was followed to its end -/
theorem goT_fol {n : Int} {E : List Ed} {t : Int} (hR : RightP n E) (ht : (nearL E t).length ≠ 2) : ∀ (f : Nat) {p : List Int}, FolT n E t p → n.toNat + 2 ≤ f + p.length → FolT n E t (goT E f p) ∧ (nearL E ((goT E f p).getLastD 0)).length ≠ 2 ∧ ∃ r, goT E f p = p ++ r := by
  intro f
  induction f with
  | zero =>
    intro p h hf
    have := h.len hR
    omega
  | succ f ih =>
    intro p h hf
    by_cases h2 : (nearL E (p.getLastD 0)).length = 2
    · rw [goT_step h2]
      obtain ⟨q1, q2, r, q3⟩ := ih (h.next hR ht h2) (by simp; omega)
      exact ⟨q1, q2, nxtT E p :: r, by rw [q3]; simp⟩
    · rw [goT_stop h2]
      exact ⟨h, h2, [], by simp⟩
/-! ### what is read -/
def topsK (E : List Ed) (k : Nat) : List Int := ((List.range k).filter fun v => (nearL E (v : Nat)).length == 3).map fun (v : Nat) => (v : Int)
def degOk (E : List Ed) (v : Nat) : Prop := (nearL E (v : Nat)).length = 0 ∨ (nearL E (v : Nat)).length = 2 ∨ (nearL E (v : Nat)).length = 3
def degsOk (n : Int) (E : List Ed) : Prop := ∀ v : Nat, (v : Int) < n → degOk E v
def pathT (n : Int) (E : List Ed) (t x : Int) : List Int := goT E n.toNat [t, x]
def keepT (n : Int) (E : List Ed) (t : Int) (l : List Int) : List (List Int) := (l.map fun x => pathT n E t x).filter fun p => decide (t < p.getLastD 0)
def pathsT (n : Int) (E : List Ed) (T : List Int) : List (List Int) := T.flatMap fun t => keepT n E t (nearL E t)
def usedT (L : List (List Int)) : Nat := (L.map fun p => p.length - 1).sum
def cmpT (p q : List Int) : Int := orI [cmpI (p.headD 0) (q.headD 0), cmpI (p.getLastD 0) (q.getLastD 0), cmpI (p.getD 1 0) (q.getD 1 0)]
def ltT (p q : List Int) : Prop := p.headD 0 < q.headD 0 ∨ (p.headD 0 = q.headD 0 ∧ (p.getLastD 0 < q.getLastD 0 ∨ (p.getLastD 0 = q.getLastD 0 ∧ p.getD 1 0 < q.getD 1 0)))
theorem cmpT_lt (p q : List Int) : cmpT p q < 0 ↔ ltT p q := by
  unfold cmpT orI cmpI ltT
  repeat' split
  all_goals simp_all
  all_goals omega
theorem ltT_t {x y : List Int} : ltOf cmpT x y = true ↔ ltT x y := by unfold ltOf; rw [decide_eq_true_iff, cmpT_lt]
theorem ltT_f {x y : List Int} : ltOf cmpT x y = false ↔ ¬ ltT x y := by unfold ltOf; rw [decide_eq_false_iff_not, cmpT_lt]
theorem swoT : Go.Sort.SWO (ltOf cmpT) where
  irrefl x := by rw [ltT_f]; unfold ltT; omega
  trans x y z h1 h2 := by rw [ltT_t] at *; unfold ltT at *; omega
  ntrans x y z h1 h2 := by rw [ltT_f] at *; unfold ltT at *; omega
theorem parts_T {p q : List Int} (h : p.headD 0 ≠ q.headD 0 ∨ p.getD 1 0 ≠ q.getD 1 0) : ltOf cmpT p q = true ∨ ltOf cmpT q p = true := by
  rw [ltT_t, ltT_t]; unfold ltT; omega
def kindT (T : List Int) : Int := if T.length = 4 then 1 else if T.length = 2 then 2 else 0
def ReadP (n : Int) (E : List Ed) : Prop := RightP n E ∧ degsOk n E ∧ kindT (topsK E n.toNat) ≠ 0 ∧ usedT (pathsT n E (topsK E n.toNat)) = E.length ∧
  SubP n E (kindT (topsK E n.toNat)) (topsK E n.toNat) (sortL cmpT (pathsT n E (topsK E n.toNat)))
open Classical in
noncomputable def readF (n : Int) (E : List Ed) : (Int × List Int × List (List Int)) × Bool :=
  if ReadP n E then ((kindT (topsK E n.toNat), topsK E n.toNat, sortL cmpT (pathsT n E (topsK E n.toNat))), true) else ((0, [], []), false)
theorem readF_no {n : Int} {E : List Ed} (h : ¬ ReadP n E) : readF n E = ((0, [], []), false) := if_neg h
theorem readF_yes {n : Int} {E : List Ed} (h : ReadP n E) : readF n E = ((kindT (topsK E n.toNat), topsK E n.toNat, sortL cmpT (pathsT n E (topsK E n.toNat))), true) := if_pos h
theorem mem_topsK {E : List Ed} {k : Nat} {t : Int} : t ∈ topsK E k ↔ 0 ≤ t ∧ t < k ∧ (nearL E t).length = 3 := by
  unfold topsK
  rw [List.mem_map]
  constructor
  · rintro ⟨v, hv, rfl⟩
    rw [List.mem_filter, List.mem_range] at hv
    exact ⟨by omega, by omega, by simpa using hv.2⟩
  · rintro ⟨h0, h1, h2⟩
    exact ⟨t.toNat, by rw [List.mem_filter, List.mem_range, show ((t.toNat : Nat) : Int) = t by omega]; exact ⟨by omega, by simpa using h2⟩, by omega⟩
theorem topsK_sorted (E : List Ed) (k : Nat) : (topsK E k).Pairwise (· < ·) := by
  unfold topsK
  rw [List.pairwise_map]
  exact (List.pairwise_lt_range.filter _).imp fun h => by omega
theorem topsK_succ (E : List Ed) (k : Nat) : topsK E (k + 1) = topsK E k ++ (if (nearL E (k : Nat)).length = 3 then [(k : Int)] else []) := by
  unfold topsK
  rw [List.range_succ, List.filter_append, List.map_append]
  congr 1
  by_cases h : (nearL E (k : Nat)).length = 3 <;> simp [h]
theorem pathT_is {n : Int} {E : List Ed} (hR : RightP n E) {t x : Int} (ht : (nearL E t).length = 3) (hx : x ∈ nearL E t) :
    FolT n E t (pathT n E t x) ∧ (nearL E ((pathT n E t x).getLastD 0)).length ≠ 2 ∧ ∃ r, pathT n E t x = t :: x :: r := by
  obtain ⟨h1, h2, r, h3⟩ := goT_fol hR (by omega) n.toNat (FolT.start hx) (by simp)
  exact ⟨h1, h2, r, h3⟩
theorem mem_keepT {n : Int} {E : List Ed} {t : Int} {l : List Int} {p : List Int} : p ∈ keepT n E t l ↔ (∃ x ∈ l, p = pathT n E t x) ∧ t < p.getLastD 0 := by
  unfold keepT
  rw [List.mem_filter, List.mem_map, decide_eq_true_iff]
  exact and_congr_left fun _ => ⟨fun ⟨x, hx, e⟩ => ⟨x, hx, e.symm⟩, fun ⟨x, hx, e⟩ => ⟨x, hx, e.symm⟩⟩
theorem keepT_snoc (n : Int) (E : List Ed) (t : Int) (l : List Int) (x : Int) : keepT n E t (l ++ [x]) = keepT n E t l ++ (if t < (pathT n E t x).getLastD 0 then [pathT n E t x] else []) := by
  unfold keepT
  rw [List.map_append, List.filter_append]
  congr 1
  rw [List.map_cons, List.map_nil]
  by_cases h : t < (pathT n E t x).getLastD 0
  · rw [if_pos h, List.filter_cons, if_pos (decide_eq_true h)]; rfl
  · rw [if_neg h, List.filter_cons, if_neg (by rw [decide_eq_true_iff]; exact h)]; rfl
theorem paths_keys {n : Int} {E : List Ed} (hR : RightP n E) {T : List Int} (hT : ∀ t ∈ T, (nearL E t).length = 3) (hnd : T.Nodup) :
    (pathsT n E T).Pairwise (fun x y => ltOf cmpT x y = true ∨ ltOf cmpT y x = true) := by
  unfold pathsT
  rw [List.pairwise_flatMap]
  refine ⟨fun t ht => ?_, ?_⟩
  · unfold keepT
    refine List.Pairwise.filter _ ?_
    rw [List.pairwise_map]
    refine List.Pairwise.imp_of_mem ?_ (near_nodup hR t)
    intro x y hx hy hne
    obtain ⟨_, _, r, hr⟩ := pathT_is hR (hT t ht) hx
    obtain ⟨_, _, q, hq⟩ := pathT_is hR (hT t ht) hy
    rw [hr, hq]
    exact parts_T (.inr (by simpa using hne))
  · refine List.Pairwise.imp_of_mem ?_ hnd
    intro t u ht hu hne p hp q hq
    obtain ⟨⟨x, hx, rfl⟩, _⟩ := mem_keepT.1 hp
    obtain ⟨⟨y, hy, rfl⟩, _⟩ := mem_keepT.1 hq
    obtain ⟨_, _, r, hr⟩ := pathT_is hR (hT t ht) hx
    obtain ⟨_, _, q, hq⟩ := pathT_is hR (hT u hu) hy
    rw [hr, hq]
    exact parts_T (.inl (by simpa using hne))
end Go.Sh

set_option linter.unusedVariables false
set_option linter.unusedSimpArgs false
namespace Go.Sh
open Go.Proofs Go.Sort Go.Shelf Go.RowKit
/-! ### slices.SortFunc on paths -/
def goodT (x : List Int) : Prop := 2 ≤ x.length ∧ x.length ≤ 1000000
theorem hd_get {x : List Int} (h : 0 < x.length) : x[0]? = some (x.headD 0) := by cases x with | nil => simp at h | cons a l => rfl
theorem last_get {x : List Int} (h : 0 < x.length) : x[x.length - 1]? = some (x.getLastD 0) := by rw [List.getLastD_eq_getLast?, List.getLast?_eq_getElem?, List.getElem?_eq_getElem (by omega)]; rfl
theorem getD_get {x : List Int} {i : Nat} (h : i < x.length) : x[i]? = some (x.getD i 0) := by rw [List.getD_eq_getElem?_getD, List.getElem?_eq_getElem h]; rfl
theorem CloT_p [Fwd] : SoundP Try.prog 75 (conF (fun a : List Int × List Int => goodT a.1 ∧ goodT a.2) (fun a => [.one (.flat false 1 (ints a.1)), .one (.flat false 1 (ints a.2))]) (fun a => .one (.s (.i .i64 (cmpT a.1 a.2))))) := by
  refine con_pure (X := { Γ := [(71, CompareC), (70, OrC)], T := T, nt := 34 }) cr_none hmix hT (sound_cons Compare_ok (sound_cons Or_ok sound_nil)) Try.func75 (by rfl) (by rfl) (by rfl) 2 ?_
  rintro ⟨x, y⟩ ⟨⟨hx, hx2⟩, hy, hy2⟩
  dsimp only at hx hx2 hy hy2 ⊢
  refine ⟨⟨Nat.le_of_ble_eq_true rfl, Nat.le_of_ble_eq_true rfl⟩, ?_⟩
  refine Idx.by 0 rfl (by rw [ints_length]; omega) ?_
  refine Look.by _ (ints_get (hd_get (by omega))) ?_
  refine Idx.by 0 rfl (by rw [ints_length]; omega) ?_
  refine Look.by _ (ints_get (hd_get (by omega))) ?_
  refine Call.by _ _ (CompareC_at _ _) ?_
  refine Pick.T (inI64_of (by rw [ints_length]; omega) (by rw [ints_length]; omega)) ?_
  refine Idx.by (x.length - 1) (by rw [ints_length]; omega) (by rw [ints_length]; omega) ?_
  refine Look.by _ (ints_get (last_get (by omega))) ?_
  refine Pick.T (inI64_of (by rw [ints_length]; omega) (by rw [ints_length]; omega)) ?_
  refine Idx.by (y.length - 1) (by rw [ints_length]; omega) (by rw [ints_length]; omega) ?_
  refine Look.by _ (ints_get (last_get (by omega))) ?_
  refine Call.by _ _ (CompareC_at _ _) ?_
  refine Idx.by 1 rfl (by rw [ints_length]; omega) ?_
  refine Look.by _ (ints_get (getD_get (by omega))) ?_
  refine Idx.by 1 rfl (by rw [ints_length]; omega) ?_
  refine Look.by _ (ints_get (getD_get (by omega))) ?_
  refine Call.by _ _ (CompareC_at _ _) ?_
  refine Call.by _ _ (OrC_at (l := [cmpI (x.headD 0) (y.headD 0), cmpI (x.getLastD 0) (y.getLastD 0), cmpI (x.getD 1 0) (y.getD 1 0)]) (by simp)) ?_
  refine Seg.by (by kernel_rfl) ?_
  refine ⟨rfl, ?_⟩
  show _ = _
  rfl
theorem cloT_call (x y : List Int) (A B : Option Addr) (ca cb : Nat) (W : World) (hx : goodT x) (hy : goodT y) (h1 : FlatOk W noLab none A ca 1 (ints x)) (h2 : FlatOk W noLab none B cb 1 (ints y)) :
    Calls Try.prog 75 #[.slice A x.length ca, .slice B y.length cb] W fun e w' => e = .returned (.int .i64 (cmpT x y)) ∧ ∃ q os', w' = grow (W.drewN q) os' := by
  letI : Fwd := ⟨True⟩
  have hF : conF (fun a : List Int × List Int => goodT a.1 ∧ goodT a.2) (fun a => [V.one (.flat false 1 (ints a.1)), .one (.flat false 1 (ints a.2))]) (fun a => V.one (C.s (.i .i64 (cmpT a.1 a.2)))) [.one (.flat false 1 (ints x)), .one (.flat false 1 (ints y))] = some (.one (.s (.i .i64 (cmpT x y))), []) :=
    conF_at (a := (x, y)) (fun a b _ _ h => by simp at h; rw [ints_inj h.1, ints_inj h.2]) ⟨hx, hy⟩
  refine (CloT_p _ _ _ hF W #[.slice A x.length ca, .slice B y.length cb] ⟨⟨⟨A, ca, fun _ => none, fun _ => 0⟩, by rw [ints_length], h1⟩, ⟨⟨B, cb, fun _ => none, fun _ => 0⟩, by rw [ints_length], h2⟩, trivial⟩).mono ?_
  rintro e w' ⟨u, lab, rfl, hf, _, hu⟩
  obtain ⟨p, hu⟩ := hu
  refine ⟨?_, frm_grow trivial hf⟩
  show Ending.returned u = _
  rw [show u = (Sc.i .i64 (cmpT x y)).val from hu]
  rfl
theorem SortT_row : NestFnCall Try.prog 74 75 1 (sortNP goodT cmpT) (sortN cmpT) :=
  nest_sort Try.laysSortR rfl ⟨_, Try.func74, by decide, by simp [Try.f74]⟩
    (enters_of Try.func75 (by kernel_rfl) rfl) goodT cmpT swoT cloT_call
end Go.Sh

set_option linter.unusedVariables false
set_option linter.unusedSimpArgs false
namespace Go.Sh
open Go.Proofs
/-! ### topo.Read -/
noncomputable def ReadC : Con := conP 1 (fun a : Int × List Ed => a.2.length ≤ 1000000) (fun a => [grV a.1 a.2]) (fun a => .tup [sbV true (readF a.1 a.2).1.1 (readF a.1 a.2).1.2.1 (readF a.1 a.2).1.2.2, .one (.s (.b (readF a.1 a.2).2))])
theorem ReadC_at {n : Int} {E : List Ed} (h : E.length ≤ 1000000) : ReadC.F [grV n E] = some (.tup [sbV true (readF n E).1.1 (readF n E).1.2.1 (readF n E).1.2.2, .one (.s (.b (readF n E).2))], []) :=
  conP_at (a := (n, E)) (fun x y _ _ h => by
    obtain ⟨n, E⟩ := x
    obtain ⟨n', E'⟩ := y
    simp at h
    obtain ⟨rfl, rfl⟩ := grV_inj h
    rfl) h
def nbK (n : Nat) (E : List Ed) (k : Nat) : List (List Int) := ((List.range k).map fun (v : Nat) => nearL E (v : Int)) ++ List.replicate (n - k) []
theorem nbK_len {n : Nat} {E : List Ed} {k : Nat} (h : k ≤ n) : (nbK n E k).length = n := by simp [nbK]; omega
theorem nbK_end (n : Nat) (E : List Ed) : nbK n E n = nbrs n E := by simp [nbK, nbrs]
theorem nbK_zero (n : Nat) (E : List Ed) : nbK n E 0 = List.replicate n [] := by simp [nbK]
theorem nbK_set {n : Nat} {E : List Ed} {k : Nat} (h : k < n) : (nbK n E k).set k (nearL E (k : Int)) = nbK n E (k + 1) := by
  apply List.ext_getElem?
  intro i
  unfold nbK
  rw [List.getElem?_set]
  have hl : (((List.range k).map fun (v : Nat) => nearL E (v : Int)) ++ List.replicate (n - k) []).length = n := by simp; omega
  by_cases h1 : k = i
  · subst h1
    rw [if_pos rfl, if_pos (by rw [hl]; exact h), List.getElem?_append_left (by simp), List.getElem?_map, List.getElem?_range (by omega)]; rfl
  · rw [if_neg h1]
    by_cases h2 : i < k
    · rw [List.getElem?_append_left (by simpa using h2), List.getElem?_append_left (by simp; omega), List.getElem?_map, List.getElem?_map, List.getElem?_range h2, List.getElem?_range (by omega)]
    · rw [List.getElem?_append_right (by simp; omega), List.getElem?_append_right (by simp; omega), List.getElem?_replicate, List.getElem?_replicate]
      simp
      by_cases h3 : i < n
      · rw [if_pos (by omega), if_pos (by omega)]
      · rw [if_neg (by omega), if_neg (by omega)]
theorem nb_get {n : Nat} {E : List Ed} {v : Nat} (h : v < n) : (rowsI (nbrs n E))[v]? = some (ints (nearL E (v : Int))) := by
  refine rowsI_get ?_
  unfold nbrs
  rw [List.getElem?_map, List.getElem?_range h]; rfl
theorem keepT_len (n : Int) (E : List Ed) (t : Int) (l : List Int) : (keepT n E t l).length ≤ l.length := by
  unfold keepT
  exact Nat.le_trans (List.length_filter_le _ _) (by simp)
theorem pathsT_snoc (n : Int) (E : List Ed) (T : List Int) (t : Int) : pathsT n E (T ++ [t]) = pathsT n E T ++ keepT n E t (nearL E t) := by simp [pathsT]
theorem pathsT_len {n : Int} {E : List Ed} : ∀ {T : List Int}, (∀ t ∈ T, (nearL E t).length = 3) → (pathsT n E T).length ≤ 3 * T.length
  | [], _ => by simp [pathsT]
  | t :: T, h => by
    have ih := pathsT_len (n := n) (T := T) fun x hx => h x (List.mem_cons_of_mem _ hx)
    have h1 := keepT_len n E t (nearL E t)
    have h2 := h t (by simp)
    unfold pathsT at ih ⊢
    rw [List.flatMap_cons, List.length_append, List.length_cons]
    omega
theorem keepT_row {n : Int} {E : List Ed} (hR : RightP n E) {t : Int} (ht : (nearL E t).length = 3) {l : List Int} (hl : ∀ x ∈ l, x ∈ nearL E t) {p : List Int} (hp : p ∈ keepT n E t l) : 2 ≤ p.length ∧ p.length ≤ n.toNat + 1 := by
  obtain ⟨⟨x, hx, rfl⟩, _⟩ := mem_keepT.1 hp
  obtain ⟨h1, _, _⟩ := pathT_is hR ht (hl x hx)
  exact ⟨h1.two, h1.len hR⟩
theorem pathsT_row {n : Int} {E : List Ed} (hR : RightP n E) {T : List Int} (hT : ∀ t ∈ T, (nearL E t).length = 3) {p : List Int} (hp : p ∈ pathsT n E T) : 2 ≤ p.length ∧ p.length ≤ n.toNat + 1 := by
  obtain ⟨t, ht, hp⟩ := List.mem_flatMap.1 hp
  exact keepT_row hR (hT t ht) (fun x hx => hx) hp
theorem usedT_le {m : Nat} : ∀ {L : List (List Int)}, (∀ p ∈ L, p.length ≤ m + 1) → usedT L ≤ L.length * m
  | [], _ => by simp [usedT]
  | p :: L, h => by
    have ih := usedT_le (m := m) (L := L) fun x hx => h x (List.mem_cons_of_mem _ hx)
    have h1 := h p (by simp)
    simp only [usedT, List.map_cons, List.sum_cons, List.length_cons] at ih ⊢
    rw [Nat.succ_mul]
    omega
theorem usedT_snoc (L : List (List Int)) (p : List Int) : usedT (L ++ [p]) = usedT L + (p.length - 1) := by simp [usedT]
set_option maxHeartbeats 4000000 in
theorem Read_ok : SoundC Try.prog T 37 ReadC := by
  refine sound_con (X := { Γ := [(49, RightC), (73, NearGC), (29, SubC)], T := T, nt := 149, ext := [74] }) (nestFn_ok SortT_row) hmix hT (sound_cons RightG_ok (sound_cons Near_ok (sound_cons Sub_ok sound_nil))) Try.func37 (by rfl) (by rfl) (by rfl) (by rfl) 2 ?_
  rintro ⟨n, E⟩ hl
  dsimp only at hl ⊢
  refine ⟨⟨Nat.le_of_ble_eq_true rfl, Nat.le_of_ble_eq_true rfl⟩, ?_⟩
  refine Call.by _ _ (RightC_at n E) ?_
  refine Pick.by (fun h1 => ?_) (fun h1 => ?_)
  · have h1 : ¬ RightP n E := by simpa using h1
    have hv := readF_no (n := n) (E := E) (fun h => h1 h.1)
    dsimp only
    rw [hv]
    exact ⟨rfl, rfl, ⟨rfl, ⟨rfl, rfl⟩, ⟨rfl, rfl⟩, trivial⟩, rfl, trivial⟩
  have h1 : RightP n E := by simpa using h1
  obtain ⟨hn0, hn1, hE4, hokE, hsrt⟩ := id h1
  refine Pick.T (by simp) ?_
  refine Idx.by n.toNat (by omega) (by omega) ?_
  refine LoopP.intro (α := Nat) (fun k => k ≤ n.toNat) (fun k => n.toNat - k) (fun k => [(1, .ptr 0 0), (2, .ptr 2 0), (4, .ptr 3 0), (5, .sl 4 none none), (24, .s (.i .i64 n.toNat)), (25, .s (.i .i64 k))])
    (fun k => [(0, some (.blk [.s (.i .i64 n), .sl 1 none none])), (1, some (.flat false 2 (edges E))), (2, some (.blk [.s (.i .i64 0), .nils, .nils])), (3, some (.blk [.s (.i .i64 0), .nils, .nils])), (4, some (.nest true 1 (rowsI (nbK n.toNat E k)) [] []))]) 5 0 (by omega) (by refine Weak.by [(0, some _), (1, some _), (2, some _), (3, some _), (4, some _)] (by ((repeat' first | exact rfl | exact trivial | refine And.intro ?_ ?_) <;> (repeat' first | exact rfl | exact trivial | refine And.intro ?_ ?_)); all_goals ((first | exact sc_eq (by rw [List.length_replicate]) | (rw [nbK_zero]; simp [rowsI, ints]; done)))) (by ((repeat' first | exact rfl | exact trivial | refine And.intro ?_ ?_) <;> (repeat' first | exact rfl | exact trivial | refine And.intro ?_ ?_)); all_goals ((first | exact sc_eq (by rw [List.length_replicate]) | (rw [nbK_zero]; simp [rowsI, ints]; done)))) (by rfl)) ?_
  rintro k hk
  have hkl : (rowsI (nbK n.toNat E k)).length = n.toNat := by rw [rowsI_length, nbK_len hk]
  refine Pick.by (fun hc => ?_) (fun hc => ?_)
  · have hlt : k < n.toNat := by have := of_decide_eq_true hc; omega
    refine Call.by _ _ (NearGC_at (n := n) (E := E) (k : Int) hl) ?_
    refine Idx.by k rfl (by rw [hkl]; exact hlt) ?_
    refine Pick.T (by rw [hkl]; simpa using hlt) ?_
    refine Pick.T (inI64_of (by omega) (by omega)) ?_
    have hng : nearG n E (k : Int) = nearL E k := if_pos h1
    refine Next.by (k + 1) (by omega) (by omega) (by refine Weak.by [(0, some _), (1, some _), (2, some _), (3, some _), (4, some _)] (by ((repeat' first | exact rfl | exact trivial | refine And.intro ?_ ?_) <;> (repeat' first | exact rfl | exact trivial | refine And.intro ?_ ?_)); all_goals ((rw [← nbK_set hlt, rowsI_set, hng]))) (by ((repeat' first | exact rfl | exact trivial | refine And.intro ?_ ?_) <;> (repeat' first | exact rfl | exact trivial | refine And.intro ?_ ?_)); all_goals ((rw [← nbK_set hlt, rowsI_set, hng]))) (by rfl))
  have hge : k = n.toNat := by have := of_decide_eq_false hc; omega
  subst hge
  rw [nbK_end] at hkl ⊢
  refine LoopP.intro (α := Nat) (fun k => k ≤ n.toNat ∧ ∀ v : Nat, v < k → degOk E v) (fun k => n.toNat - k) (fun k => [(1, .ptr 0 0), (2, .ptr 2 0), (4, .ptr 3 0), (5, .sl 4 none none), (35, .sl 4 none none), (36, .s (.i .i64 n.toNat)), (37, .s (.i .i64 k))])
    (fun k => [(0, some (.blk [.s (.i .i64 n), .sl 1 none none])), (1, some (.flat false 2 (edges E))), (2, some (.blk [.s (.i .i64 0), .nils, .nils])), (3, some (.blk [.s (.i .i64 0), .sl 5 none none, .nils])), (4, some (.nest true 1 (rowsI (nbrs n.toNat E)) [] [])), (5, some (.flat true 1 (ints (topsK E k))))]) 6 0 ⟨by omega, fun v h => by omega⟩ (by refine Weak.by [(0, some _), (1, some _), (2, some _), (3, some _), (4, some _), (5, none)] (by ((repeat' first | exact rfl | exact trivial | refine And.intro ?_ ?_) <;> (repeat' first | exact rfl | exact trivial | refine And.intro ?_ ?_)); all_goals ((first | exact sc_eq (by rw [hkl]) | done))) (by ((repeat' first | exact rfl | exact trivial | refine And.intro ?_ ?_) <;> (repeat' first | exact rfl | exact trivial | refine And.intro ?_ ?_)); all_goals ((first | exact sc_eq (by rw [hkl]) | done))) (by rfl)) ?_
  rintro k ⟨hk, hdg⟩
  have htl : (topsK E k).length ≤ k := by unfold topsK; rw [List.length_map]; exact Nat.le_trans (List.length_filter_le _ _) (by simp)
  refine Pick.by (fun hc => ?_) (fun hc => ?_)
  · have hlt : k < n.toNat := by have := of_decide_eq_true hc; omega
    have hro := nb_get (E := E) hlt
    have hnl := nearL_length E k
    have hnx : degOk E k → ∀ v : Nat, v < k + 1 → degOk E v := fun h v hv => by
      rcases Nat.lt_or_ge v k with h2 | h2
      · exact hdg v h2
      · obtain rfl : v = k := by omega
        exact h
    have hst := topsK_succ E k
    refine Idx.by k rfl (by rw [hkl]; exact hlt) ?_
    refine Pick.T (by rw [hkl]; simpa using hlt) ?_
    refine Look.by _ hro ?_
    refine Pick.by (fun h3 => ?_) (fun h3 => ?_)
    · have h3 : (nearL E (k : Int)).length = 0 := by rw [ints_length] at h3; have := beq_iff_eq.1 h3; omega
      rw [if_neg (by omega), List.append_nil] at hst
      refine Pick.T (inI64_of (by omega) (by omega)) ?_
      refine Next.by (k + 1) ⟨by omega, hnx (.inl h3)⟩ (by omega) (by refine Weak.by [(0, some _), (1, some _), (2, some _), (3, some _), (4, some _), (5, some _)] (by ((repeat' first | exact rfl | exact trivial | refine And.intro ?_ ?_) <;> (repeat' first | exact rfl | exact trivial | refine And.intro ?_ ?_)); all_goals ((rw [hst]))) (by ((repeat' first | exact rfl | exact trivial | refine And.intro ?_ ?_) <;> (repeat' first | exact rfl | exact trivial | refine And.intro ?_ ?_)); all_goals ((rw [hst]))) (by rfl))
    refine Pick.by (fun h4 => ?_) (fun h4 => ?_)
    · have h4 : (nearL E (k : Int)).length = 2 := by rw [ints_length] at h4; have := beq_iff_eq.1 h4; omega
      rw [if_neg (by omega), List.append_nil] at hst
      refine Pick.T (inI64_of (by omega) (by omega)) ?_
      refine Next.by (k + 1) ⟨by omega, hnx (.inr (.inl h4))⟩ (by omega) (by refine Weak.by [(0, some _), (1, some _), (2, some _), (3, some _), (4, some _), (5, some _)] (by ((repeat' first | exact rfl | exact trivial | refine And.intro ?_ ?_) <;> (repeat' first | exact rfl | exact trivial | refine And.intro ?_ ?_)); all_goals ((rw [hst]))) (by ((repeat' first | exact rfl | exact trivial | refine And.intro ?_ ?_) <;> (repeat' first | exact rfl | exact trivial | refine And.intro ?_ ?_)); all_goals ((rw [hst]))) (by rfl))
    refine Pick.by (fun h5 => ?_) (fun h5 => ?_)
    · have h5 : (nearL E (k : Int)).length = 3 := by rw [ints_length] at h5; have := beq_iff_eq.1 h5; omega
      rw [if_pos h5] at hst
      refine Pick.T (by simp [cut, ints_length] at htl ⊢; omega) ?_
      refine Pick.T (inI64_of (by omega) (by omega)) ?_
      refine Next.by (k + 1) ⟨by omega, hnx (.inr (.inr h5))⟩ (by omega) (by refine Weak.by [(0, some _), (1, some _), (2, some _), (3, some _), (4, some _), (5, some _)] (by ((repeat' first | exact rfl | exact trivial | refine And.intro ?_ ?_) <;> (repeat' first | exact rfl | exact trivial | refine And.intro ?_ ?_)); all_goals ((rw [hst, ints_snoc]; rfl))) (by ((repeat' first | exact rfl | exact trivial | refine And.intro ?_ ?_) <;> (repeat' first | exact rfl | exact trivial | refine And.intro ?_ ?_)); all_goals ((rw [hst, ints_snoc]; rfl))) (by rfl))
    · have hno : ¬ degOk E k := by
        rw [ints_length] at h3 h4 h5
        have h3 := beq_eq_false_iff_ne.1 h3
        have h4 := beq_eq_false_iff_ne.1 h4
        have h5 := beq_eq_false_iff_ne.1 h5
        unfold degOk
        omega
      have hv := readF_no (n := n) (E := E) (fun h => hno (h.2.1 k (by omega)))
      dsimp only
      rw [hv]
      exact ⟨rfl, rfl, ⟨rfl, ⟨rfl, rfl⟩, ⟨rfl, rfl⟩, trivial⟩, rfl, trivial⟩
  have hge : k = n.toNat := by have := of_decide_eq_false hc; omega
  subst hge
  have hdegs : degsOk n E := fun v hv => hdg v (by omega)
  have hTs3 : ∀ t ∈ topsK E n.toNat, 0 ≤ t ∧ t < n ∧ (nearL E t).length = 3 := fun t ht => by
    have := mem_topsK.1 ht
    exact ⟨this.1, by omega, this.2.2⟩
  have hTsn : (topsK E n.toNat).Nodup := (topsK_sorted E n.toNat).imp fun h => by omega
  obtain ⟨Ts, hTs⟩ : ∃ Ts, topsK E n.toNat = Ts := ⟨_, rfl⟩
  rw [hTs] at hTs3 hTsn htl ⊢
  have hTd : ∀ t ∈ Ts, (nearL E t).length = 3 := fun t ht => (hTs3 t ht).2.2
  refine Pick.by (fun h4 => ?_) (fun h4 => ?_)
  · have h4 : Ts.length = 4 := by rw [ints_length] at h4; have := beq_iff_eq.1 h4; omega
    have hkd : kindT Ts = 1 := if_pos h4
    refine LoopP.intro (α := Nat) (fun i => i ≤ Ts.length) (fun i => Ts.length - i) (fun i => [(1, .ptr 0 0), (2, .ptr 2 0), (4, .ptr 3 0), (5, .sl 4 none none), (9, .s (.i .i64 (usedT (pathsT n E (Ts.take i)) : Nat))), (68, .sl 5 none none), (69, .s (.i .i64 Ts.length)), (70, .s (.i .i64 i))])
      (fun i => [(0, some (.blk [.s (.i .i64 n), .sl 1 none none])), (1, some (.flat false 2 (edges E))), (2, some (.blk [.s (.i .i64 0), .nils, .nils])), (3, some (.blk [.s (.i .i64 1), .sl 5 none none, .sl 6 none none])), (4, some (.nest true 1 (rowsI (nbrs n.toNat E)) [] [])), (5, some (.flat true 1 (ints Ts))), (6, some (.nest true 1 (rowsI (pathsT n E (Ts.take i))) [] []))]) 7 0 (by omega) (by refine Weak.by [(0, some _), (1, some _), (2, some _), (3, some _), (4, some _), (5, some _), (6, none)] (by ((repeat' first | exact rfl | exact trivial | refine And.intro ?_ ?_) <;> (repeat' first | exact rfl | exact trivial | refine And.intro ?_ ?_)); all_goals ((first | exact sc_eq (by rw [ints_length]) | done))) (by ((repeat' first | exact rfl | exact trivial | refine And.intro ?_ ?_) <;> (repeat' first | exact rfl | exact trivial | refine And.intro ?_ ?_)); all_goals ((first | exact sc_eq (by rw [ints_length]) | done))) (by rfl)) ?_
    rintro i hi
    refine Pick.by (fun hc => ?_) (fun hc => ?_)
    · have hlt : i < Ts.length := by have := of_decide_eq_true hc; omega
      obtain ⟨t, ht⟩ : ∃ t, Ts[i] = t := ⟨_, rfl⟩
      have htm : t ∈ Ts := by rw [← ht]; exact List.getElem_mem hlt
      have hti : Ts[i]? = some t := by rw [List.getElem?_eq_getElem hlt, ht]
      obtain ⟨t0, t1, t2⟩ := hTs3 t htm
      have htn := nb_get (n := n.toNat) (E := E) (v := t.toNat) (by omega)
      rw [Int.toNat_of_nonneg t0] at htn
      refine Idx.by i rfl (by rw [ints_length]; exact hlt) ?_
      refine Look.by _ (ints_get hti) ?_
      refine Idx.by t.toNat (by show t = _; omega) (by rw [hkl]; omega) ?_
      refine Pick.T (by rw [hkl]; simp; omega) ?_
      refine Look.by _ htn ?_
      have hk0 : pathsT n E (Ts.take i) ++ keepT n E t ((nearL E t).take 0) = pathsT n E (Ts.take i) := by rw [List.take_zero]; simp [keepT]
      refine LoopP.intro (α := Nat) (fun j => j ≤ (nearL E t).length) (fun j => (nearL E t).length - j) (fun j => [(1, .ptr 0 0), (2, .ptr 2 0), (4, .ptr 3 0), (5, .sl 4 none none), (9, .s (.i .i64 (usedT (pathsT n E (Ts.take i) ++ keepT n E t ((nearL E t).take j)) : Nat))), (11, .s (.i .i64 t)), (68, .sl 5 none none), (69, .s (.i .i64 Ts.length)), (70, .s (.i .i64 i)), (77, .sl 4 (some (t.toNat, 0)) none), (78, .s (.i .i64 (nearL E t).length)), (79, .s (.i .i64 j))])
        (fun j => [(0, some (.blk [.s (.i .i64 n), .sl 1 none none])), (1, some (.flat false 2 (edges E))), (2, some (.blk [.s (.i .i64 0), .nils, .nils])), (3, some (.blk [.s (.i .i64 1), .sl 5 none none, .sl 6 none none])), (4, some (.nest true 1 (rowsI (nbrs n.toNat E)) [] [])), (5, some (.flat true 1 (ints Ts))), (6, some (.nest true 1 (rowsI (pathsT n E (Ts.take i) ++ keepT n E t ((nearL E t).take j))) [] []))]) 7 0 (by omega) (by refine Weak.by [(0, some _), (1, some _), (2, some _), (3, some _), (4, some _), (5, some _), (6, some _)] (by ((repeat' first | exact rfl | exact trivial | refine And.intro ?_ ?_) <;> (repeat' first | exact rfl | exact trivial | refine And.intro ?_ ?_)); all_goals ((first | exact sc_eq (by rw [ints_length]) | exact sc_eq (by rw [hk0]) | (rw [hk0]; done) | (simp; done)))) (by ((repeat' first | exact rfl | exact trivial | refine And.intro ?_ ?_) <;> (repeat' first | exact rfl | exact trivial | refine And.intro ?_ ?_)); all_goals ((first | exact sc_eq (by rw [ints_length]) | exact sc_eq (by rw [hk0]) | (rw [hk0]; done) | (simp; done)))) (by rfl)) ?_
      rintro j hj
      refine Pick.by (fun hc2 => ?_) (fun hc2 => ?_)
      · have hjl : j < (nearL E t).length := by have := of_decide_eq_true hc2; omega
        obtain ⟨x0, hx0⟩ : ∃ x, (nearL E t)[j] = x := ⟨_, rfl⟩
        have hxm : x0 ∈ nearL E t := by rw [← hx0]; exact List.getElem_mem hjl
        have hxg : (nearL E t)[j]? = some x0 := by rw [List.getElem?_eq_getElem hjl, hx0]
        refine Look.by _ htn ?_
        refine Idx.by j rfl (by rw [ints_length]; exact hjl) ?_
        refine Look.by _ htn ?_
        refine Look.by _ (ints_get hxg) ?_
        refine LoopP.intro (α := List Int) (fun p => FolT n E t p ∧ ∃ f, n.toNat + 2 ≤ f + p.length ∧ goT E f p = pathT n E t x0) (fun p => n.toNat + 2 - p.length) (fun p => [(1, .ptr 0 0), (2, .ptr 2 0), (4, .ptr 3 0), (5, .sl 4 none none), (9, .s (.i .i64 (usedT (pathsT n E (Ts.take i) ++ keepT n E t ((nearL E t).take j)) : Nat))), (11, .s (.i .i64 t)), (13, .s (.i .i64 (p.getLastD 0))), (14, .sl 7 none none), (68, .sl 5 none none), (69, .s (.i .i64 Ts.length)), (70, .s (.i .i64 i)), (77, .sl 4 (some (t.toNat, 0)) none), (78, .s (.i .i64 (nearL E t).length)), (79, .s (.i .i64 j))])
          (fun p => [(0, some (.blk [.s (.i .i64 n), .sl 1 none none])), (1, some (.flat false 2 (edges E))), (2, some (.blk [.s (.i .i64 0), .nils, .nils])), (3, some (.blk [.s (.i .i64 1), .sl 5 none none, .sl 6 none none])), (4, some (.nest true 1 (rowsI (nbrs n.toNat E)) [] [])), (5, some (.flat true 1 (ints Ts))), (6, some (.nest true 1 (rowsI (pathsT n E (Ts.take i) ++ keepT n E t ((nearL E t).take j))) [] [])), (7, some (.flat true 1 (ints p)))]) 8 [t, x0] ⟨FolT.start hxm, n.toNat, by simp, rfl⟩ (by refine Weak.by [(0, some _), (1, some _), (2, some _), (3, some _), (4, some _), (5, some _), (6, some _), (7, some _)] (by ((repeat' first | exact rfl | exact trivial | refine And.intro ?_ ?_) <;> (repeat' first | exact rfl | exact trivial | refine And.intro ?_ ?_)); all_goals ((first | (simp; done)))) (by ((repeat' first | exact rfl | exact trivial | refine And.intro ?_ ?_) <;> (repeat' first | exact rfl | exact trivial | refine And.intro ?_ ?_)); all_goals ((first | (simp; done)))) (by rfl)) ?_
        rintro p ⟨hF, f, hf, hg⟩
        have hp2 := hF.two
        have hpn := hF.len h1
        obtain ⟨xl, hxl⟩ : ∃ x, p.getLastD 0 = x := ⟨_, rfl⟩
        have hxr : 0 ≤ xl ∧ xl < n := by rw [← hxl, lastD_get (by omega)]; exact hF.inN h1 _ (by rw [getD_at (by omega)]; exact List.getElem_mem _)
        have hxt := nb_get (n := n.toNat) (E := E) (v := xl.toNat) (by omega)
        rw [Int.toNat_of_nonneg hxr.1] at hxt
        rw [hxl]
        refine Idx.by xl.toNat (by show xl = _; omega) (by rw [hkl]; omega) ?_
        refine Pick.T (by rw [hkl]; simp; omega) ?_
        refine Look.by _ hxt ?_
        refine Pick.by (fun h2 => ?_) (fun h2 => ?_)
        · have h2 : (nearL E xl).length = 2 := by rw [ints_length] at h2; have := beq_iff_eq.1 h2; omega
          obtain ⟨c, hcc⟩ : ∃ c, (nearL E xl).getD 0 0 = c := ⟨_, rfl⟩
          obtain ⟨d, hdd⟩ : ∃ d, (nearL E xl).getD 1 0 = d := ⟨_, rfl⟩
          obtain ⟨q, hqq⟩ : ∃ q, p.getD (p.length - 2) 0 = q := ⟨_, rfl⟩
          have hcg : (nearL E xl)[0]? = some c := by rw [getD_get (by omega), hcc]
          have hdg2 : (nearL E xl)[1]? = some d := by rw [getD_get (by omega), hdd]
          have hqg : p[p.length - 2]? = some q := by rw [getD_get (by omega), hqq]
          have hcr := (adj_in h1 (mem_nearL.1 (List.mem_of_getElem? hcg))).2
          have hdr := (adj_in h1 (mem_nearL.1 (List.mem_of_getElem? hdg2))).2
          have hqr := hF.inN h1 q (List.mem_of_getElem? hqg)
          have hnx : nxtT E p = c + d - q := by unfold nxtT; rw [hxl, hcc, hdd, hqq]
          refine Idx.by xl.toNat (by show xl = _; omega) (by rw [hkl]; omega) ?_
          refine Pick.T (by rw [hkl]; simp; omega) ?_
          refine Look.by _ hxt ?_
          refine Idx.by 0 rfl (by rw [ints_length]; omega) ?_
          refine Look.by _ hxt ?_
          refine Look.by _ (ints_get hcg) ?_
          refine Idx.by xl.toNat (by show xl = _; omega) (by rw [hkl]; omega) ?_
          refine Pick.T (by rw [hkl]; simp; omega) ?_
          refine Look.by _ hxt ?_
          refine Idx.by 1 rfl (by rw [ints_length]; omega) ?_
          refine Look.by _ hxt ?_
          refine Look.by _ (ints_get hdg2) ?_
          refine Pick.T (inI64_of (by omega) (by omega)) ?_
          refine Pick.T (inI64_of (by rw [ints_length]; omega) (by rw [ints_length]; omega)) ?_
          refine Idx.by (p.length - 2) (by rw [ints_length]; omega) (by rw [ints_length]; omega) ?_
          refine Look.by _ (ints_get hqg) ?_
          refine Pick.T (inI64_of (by omega) (by omega)) ?_
          refine Seg.by (by kernel_rfl) ?_
          refine Pick.T (by simp [cut, ints_length]; omega) ?_
          have h2' : (nearL E (p.getLastD 0)).length = 2 := by rw [hxl]; exact h2
          have hlen := hF.len2 h1 (by omega) h2'
          obtain ⟨f', rfl⟩ : ∃ f', f = f' + 1 := ⟨f - 1, by omega⟩
          rw [goT_step h2'] at hg
          have hla : (p ++ [nxtT E p]).getLastD 0 = c + d - q := by rw [List.getLastD_concat, hnx]
          refine Next.by (p ++ [nxtT E p]) ⟨hF.next h1 (by omega) h2', f', by simp; omega, hg⟩ (by simp; omega) (by refine Weak.by [(0, some _), (1, some _), (2, some _), (3, some _), (4, some _), (5, some _), (6, some _), (7, some _)] (by ((repeat' first | exact rfl | exact trivial | refine And.intro ?_ ?_) <;> (repeat' first | exact rfl | exact trivial | refine And.intro ?_ ?_)); all_goals ((first | exact sc_eq hla | (rw [hnx, ints_snoc]; rfl) | (simp; done)))) (by ((repeat' first | exact rfl | exact trivial | refine And.intro ?_ ?_) <;> (repeat' first | exact rfl | exact trivial | refine And.intro ?_ ?_)); all_goals ((first | exact sc_eq hla | (rw [hnx, ints_snoc]; rfl) | (simp; done)))) (by rfl))
        · have h2 : (nearL E xl).length ≠ 2 := by rw [ints_length] at h2; have := beq_eq_false_iff_ne.1 h2; omega
          have hpp : p = pathT n E t x0 := by rw [← hg, goT_stop (by rw [hxl]; exact h2)]
          have hstk : keepT n E t ((nearL E t).take (j + 1)) = keepT n E t ((nearL E t).take j) ++ (if t < xl then [p] else []) := by
            rw [List.take_succ_eq_append_getElem hjl, hx0, keepT_snoc, ← hpp, hxl]
          have hkl2 := keepT_len n E t ((nearL E t).take j)
          have htk : ((nearL E t).take j).length ≤ 3 := by rw [List.length_take]; omega
          have hpl := pathsT_len (n := n) (T := Ts.take i) fun y hy => hTd y (List.mem_of_mem_take hy)
          have hti3 : (Ts.take i).length ≤ 4 := by rw [List.length_take]; omega
          have hall : ∀ r ∈ pathsT n E (Ts.take i) ++ keepT n E t ((nearL E t).take j), r.length ≤ n.toNat + 1 := fun r hr => by
            rcases List.mem_append.1 hr with hr | hr
            · exact (pathsT_row h1 (fun y hy => hTd y (List.mem_of_mem_take hy)) hr).2
            · exact (keepT_row h1 t2 (fun y hy => List.mem_of_mem_take hy) hr).2
          have hul := usedT_le hall
          have hll : (pathsT n E (Ts.take i) ++ keepT n E t ((nearL E t).take j)).length ≤ 15 := by rw [List.length_append]; omega
          have hub : usedT (pathsT n E (Ts.take i) ++ keepT n E t ((nearL E t).take j)) ≤ 15000 := Nat.le_trans hul (Nat.le_trans (Nat.mul_le_mul hll (show n.toNat ≤ 1000 by omega)) (by decide))
          refine Pick.by (fun h3 => ?_) (fun h3 => ?_)
          · have h3 : ¬ t < xl := by have := of_decide_eq_true h3; omega
            rw [if_neg h3, List.append_nil] at hstk
            refine Pick.T (inI64_of (by omega) (by omega)) ?_
            refine Next.by (j + 1) (by omega) (by omega) (by refine Weak.by [(0, some _), (1, some _), (2, some _), (3, some _), (4, some _), (5, some _), (6, some _)] (by ((repeat' first | exact rfl | exact trivial | refine And.intro ?_ ?_) <;> (repeat' first | exact rfl | exact trivial | refine And.intro ?_ ?_)); all_goals ((first | exact sc_eq (by rw [hstk]) | (rw [hstk]; done) | (rw [hstk]; rfl) | (simp; done)))) (by ((repeat' first | exact rfl | exact trivial | refine And.intro ?_ ?_) <;> (repeat' first | exact rfl | exact trivial | refine And.intro ?_ ?_)); all_goals ((first | exact sc_eq (by rw [hstk]) | (rw [hstk]; done) | (rw [hstk]; rfl) | (simp; done)))) (by rfl))
          · have h3 : t < xl := by have := of_decide_eq_false h3; omega
            rw [if_pos h3] at hstk
            refine Pick.T (decide_eq_true (by rw [rowsI_length]; simp only [List.length_cons, List.length_nil]; omega)) ?_
            have hus : usedT (pathsT n E (Ts.take i) ++ (keepT n E t ((nearL E t).take j) ++ [p])) = usedT (pathsT n E (Ts.take i) ++ keepT n E t ((nearL E t).take j)) + (p.length - 1) := by rw [← List.append_assoc, usedT_snoc]
            have hil : ((ints p).length : Int) = p.length := by rw [ints_length]
            refine Pick.T (inI64_of (by rw [hil]; omega) (by rw [hil]; omega)) ?_
            refine Pick.T (inI64_of (by rw [hil]; omega) (by rw [hil]; omega)) ?_
            refine Pick.T (inI64_of (by omega) (by omega)) ?_
            refine Next.by (j + 1) (by omega) (by omega) (by refine Weak.by [(0, some _), (1, some _), (2, some _), (3, some _), (4, some _), (5, some _), (6, some _)] (by ((repeat' first | exact rfl | exact trivial | refine And.intro ?_ ?_) <;> (repeat' first | exact rfl | exact trivial | refine And.intro ?_ ?_)); all_goals ((first | exact sc_eq (by rw [hstk, hus, hil]; omega) | (rw [hstk, ← List.append_assoc, rowsI_snoc]; done) | (rw [hstk, ← List.append_assoc, rowsI_snoc]; rfl) | (simp; done)))) (by ((repeat' first | exact rfl | exact trivial | refine And.intro ?_ ?_) <;> (repeat' first | exact rfl | exact trivial | refine And.intro ?_ ?_)); all_goals ((first | exact sc_eq (by rw [hstk, hus, hil]; omega) | (rw [hstk, ← List.append_assoc, rowsI_snoc]; done) | (rw [hstk, ← List.append_assoc, rowsI_snoc]; rfl) | (simp; done)))) (by rfl))
      · have hjg : (nearL E t).length ≤ j := by have := of_decide_eq_false hc2; omega
        rw [List.take_of_length_le hjg]
        refine Pick.T (inI64_of (by omega) (by omega)) ?_
        have hstp : pathsT n E (Ts.take (i + 1)) = pathsT n E (Ts.take i) ++ keepT n E t (nearL E t) := by rw [List.take_succ_eq_append_getElem hlt, ht, pathsT_snoc]
        refine Next.by (i + 1) (by omega) (by omega) (by refine Weak.by [(0, some _), (1, some _), (2, some _), (3, some _), (4, some _), (5, some _), (6, some _)] (by ((repeat' first | exact rfl | exact trivial | refine And.intro ?_ ?_) <;> (repeat' first | exact rfl | exact trivial | refine And.intro ?_ ?_)); all_goals ((first | exact sc_eq (by rw [hstp]) | (rw [hstp]; done) | (rw [hstp]; rfl)))) (by ((repeat' first | exact rfl | exact trivial | refine And.intro ?_ ?_) <;> (repeat' first | exact rfl | exact trivial | refine And.intro ?_ ?_)); all_goals ((first | exact sc_eq (by rw [hstp]) | (rw [hstp]; done) | (rw [hstp]; rfl)))) (by rfl))
    · have hge : Ts.length ≤ i := by have := of_decide_eq_false hc; omega
      rw [List.take_of_length_le hge]
      have hpl := pathsT_len (n := n) hTd
      have hsn : sortNP goodT cmpT (rowsI (pathsT n E Ts)) := ⟨_, rfl, fun r hr => by have := pathsT_row h1 hTd hr; exact ⟨this.1, by omega⟩, paths_keys h1 hTd hTsn, by omega⟩
      have hsp := sortL_perm cmpT (pathsT n E Ts)
      have hfew : fewL (sortL cmpT (pathsT n E Ts)) := ⟨by rw [hsp.length_eq]; omega, fun r hr => by have := pathsT_row h1 hTd (hsp.mem_iff.1 hr); omega⟩
      refine ⟨rfl, rfl, _, _, rfl, hsn, ?_⟩
      rw [sortN_rows]
      refine Pick.by (fun h6 => ?_) (fun h6 => ?_)
      · have h6 : usedT (pathsT n E Ts) ≠ E.length := by intro e; rw [edges_length, e] at h6; simp at h6
        have hv := readF_no (n := n) (E := E) (fun h => h6 (by rw [← hTs]; exact h.2.2.2.1))
        dsimp only
        rw [hv]
        exact ⟨rfl, rfl, ⟨rfl, ⟨rfl, rfl⟩, ⟨rfl, rfl⟩, trivial⟩, rfl, trivial⟩
      have h6 : usedT (pathsT n E Ts) = E.length := by
        have h6 : (!((usedT (pathsT n E Ts) : Int) == ((edges E).length : Nat))) = false := h6
        rw [edges_length] at h6
        have : (usedT (pathsT n E Ts) : Int) = (E.length : Nat) := by simpa only [Bool.not_eq_false', beq_iff_eq] using h6
        omega
      refine Call.by _ _ (SubC_at (n := n) (E := E) (k := 1) (Ts := Ts) hfew) ?_
      refine Pick.by (fun h7 => ?_) (fun h7 => ?_)
      · have h7 : ¬ SubP n E 1 Ts (sortL cmpT (pathsT n E Ts)) := by
          have h7 : (!subB n E 1 Ts (sortL cmpT (pathsT n E Ts))) = true := h7
          intro h; rw [subB_iff.2 h] at h7; cases h7
        have hv := readF_no (n := n) (E := E) (fun h => h7 (by have := h.2.2.2.2; rw [hTs, hkd] at this; exact this))
        dsimp only
        rw [hv]
        exact ⟨rfl, rfl, ⟨rfl, ⟨rfl, rfl⟩, ⟨rfl, rfl⟩, trivial⟩, rfl, trivial⟩
      · have h7 : SubP n E 1 Ts (sortL cmpT (pathsT n E Ts)) := by
          have h7 : (!subB n E 1 Ts (sortL cmpT (pathsT n E Ts))) = false := h7
          exact subB_iff.1 (by simpa using h7)
        have hv := readF_yes (n := n) (E := E) ⟨h1, hdegs, by rw [hTs, hkd]; decide, by rw [hTs]; exact h6, by rw [hTs, hkd]; exact h7⟩
        rw [hTs, hkd] at hv
        dsimp only
        rw [hv]
        exact ⟨rfl, rfl, ⟨rfl, ⟨rfl, rfl⟩, ⟨rfl, rfl⟩, trivial⟩, rfl, trivial⟩
  have h4 : Ts.length ≠ 4 := by rw [ints_length] at h4; have := beq_eq_false_iff_ne.1 h4; omega
  refine Pick.by (fun h5 => ?_) (fun h5 => ?_)
  · have h5 : Ts.length = 2 := by rw [ints_length] at h5; have := beq_iff_eq.1 h5; omega
    have hkd : kindT Ts = 2 := by unfold kindT; rw [if_neg h4, if_pos h5]
    refine LoopP.intro (α := Nat) (fun i => i ≤ Ts.length) (fun i => Ts.length - i) (fun i => [(1, .ptr 0 0), (2, .ptr 2 0), (4, .ptr 3 0), (5, .sl 4 none none), (9, .s (.i .i64 (usedT (pathsT n E (Ts.take i)) : Nat))), (68, .sl 5 none none), (69, .s (.i .i64 Ts.length)), (70, .s (.i .i64 i))])
      (fun i => [(0, some (.blk [.s (.i .i64 n), .sl 1 none none])), (1, some (.flat false 2 (edges E))), (2, some (.blk [.s (.i .i64 0), .nils, .nils])), (3, some (.blk [.s (.i .i64 2), .sl 5 none none, .sl 6 none none])), (4, some (.nest true 1 (rowsI (nbrs n.toNat E)) [] [])), (5, some (.flat true 1 (ints Ts))), (6, some (.nest true 1 (rowsI (pathsT n E (Ts.take i))) [] []))]) 7 0 (by omega) (by refine Weak.by [(0, some _), (1, some _), (2, some _), (3, some _), (4, some _), (5, some _), (6, none)] (by ((repeat' first | exact rfl | exact trivial | refine And.intro ?_ ?_) <;> (repeat' first | exact rfl | exact trivial | refine And.intro ?_ ?_)); all_goals ((first | exact sc_eq (by rw [ints_length]) | done))) (by ((repeat' first | exact rfl | exact trivial | refine And.intro ?_ ?_) <;> (repeat' first | exact rfl | exact trivial | refine And.intro ?_ ?_)); all_goals ((first | exact sc_eq (by rw [ints_length]) | done))) (by rfl)) ?_
    rintro i hi
    refine Pick.by (fun hc => ?_) (fun hc => ?_)
    · have hlt : i < Ts.length := by have := of_decide_eq_true hc; omega
      obtain ⟨t, ht⟩ : ∃ t, Ts[i] = t := ⟨_, rfl⟩
      have htm : t ∈ Ts := by rw [← ht]; exact List.getElem_mem hlt
      have hti : Ts[i]? = some t := by rw [List.getElem?_eq_getElem hlt, ht]
      obtain ⟨t0, t1, t2⟩ := hTs3 t htm
      have htn := nb_get (n := n.toNat) (E := E) (v := t.toNat) (by omega)
      rw [Int.toNat_of_nonneg t0] at htn
      refine Idx.by i rfl (by rw [ints_length]; exact hlt) ?_
      refine Look.by _ (ints_get hti) ?_
      refine Idx.by t.toNat (by show t = _; omega) (by rw [hkl]; omega) ?_
      refine Pick.T (by rw [hkl]; simp; omega) ?_
      refine Look.by _ htn ?_
      have hk0 : pathsT n E (Ts.take i) ++ keepT n E t ((nearL E t).take 0) = pathsT n E (Ts.take i) := by rw [List.take_zero]; simp [keepT]
      refine LoopP.intro (α := Nat) (fun j => j ≤ (nearL E t).length) (fun j => (nearL E t).length - j) (fun j => [(1, .ptr 0 0), (2, .ptr 2 0), (4, .ptr 3 0), (5, .sl 4 none none), (9, .s (.i .i64 (usedT (pathsT n E (Ts.take i) ++ keepT n E t ((nearL E t).take j)) : Nat))), (11, .s (.i .i64 t)), (68, .sl 5 none none), (69, .s (.i .i64 Ts.length)), (70, .s (.i .i64 i)), (77, .sl 4 (some (t.toNat, 0)) none), (78, .s (.i .i64 (nearL E t).length)), (79, .s (.i .i64 j))])
        (fun j => [(0, some (.blk [.s (.i .i64 n), .sl 1 none none])), (1, some (.flat false 2 (edges E))), (2, some (.blk [.s (.i .i64 0), .nils, .nils])), (3, some (.blk [.s (.i .i64 2), .sl 5 none none, .sl 6 none none])), (4, some (.nest true 1 (rowsI (nbrs n.toNat E)) [] [])), (5, some (.flat true 1 (ints Ts))), (6, some (.nest true 1 (rowsI (pathsT n E (Ts.take i) ++ keepT n E t ((nearL E t).take j))) [] []))]) 7 0 (by omega) (by refine Weak.by [(0, some _), (1, some _), (2, some _), (3, some _), (4, some _), (5, some _), (6, some _)] (by ((repeat' first | exact rfl | exact trivial | refine And.intro ?_ ?_) <;> (repeat' first | exact rfl | exact trivial | refine And.intro ?_ ?_)); all_goals ((first | exact sc_eq (by rw [ints_length]) | exact sc_eq (by rw [hk0]) | (rw [hk0]; done) | (simp; done)))) (by ((repeat' first | exact rfl | exact trivial | refine And.intro ?_ ?_) <;> (repeat' first | exact rfl | exact trivial | refine And.intro ?_ ?_)); all_goals ((first | exact sc_eq (by rw [ints_length]) | exact sc_eq (by rw [hk0]) | (rw [hk0]; done) | (simp; done)))) (by rfl)) ?_
      rintro j hj
      refine Pick.by (fun hc2 => ?_) (fun hc2 => ?_)
      · have hjl : j < (nearL E t).length := by have := of_decide_eq_true hc2; omega
        obtain ⟨x0, hx0⟩ : ∃ x, (nearL E t)[j] = x := ⟨_, rfl⟩
        have hxm : x0 ∈ nearL E t := by rw [← hx0]; exact List.getElem_mem hjl
        have hxg : (nearL E t)[j]? = some x0 := by rw [List.getElem?_eq_getElem hjl, hx0]
        refine Look.by _ htn ?_
        refine Idx.by j rfl (by rw [ints_length]; exact hjl) ?_
        refine Look.by _ htn ?_
        refine Look.by _ (ints_get hxg) ?_
        refine LoopP.intro (α := List Int) (fun p => FolT n E t p ∧ ∃ f, n.toNat + 2 ≤ f + p.length ∧ goT E f p = pathT n E t x0) (fun p => n.toNat + 2 - p.length) (fun p => [(1, .ptr 0 0), (2, .ptr 2 0), (4, .ptr 3 0), (5, .sl 4 none none), (9, .s (.i .i64 (usedT (pathsT n E (Ts.take i) ++ keepT n E t ((nearL E t).take j)) : Nat))), (11, .s (.i .i64 t)), (13, .s (.i .i64 (p.getLastD 0))), (14, .sl 7 none none), (68, .sl 5 none none), (69, .s (.i .i64 Ts.length)), (70, .s (.i .i64 i)), (77, .sl 4 (some (t.toNat, 0)) none), (78, .s (.i .i64 (nearL E t).length)), (79, .s (.i .i64 j))])
          (fun p => [(0, some (.blk [.s (.i .i64 n), .sl 1 none none])), (1, some (.flat false 2 (edges E))), (2, some (.blk [.s (.i .i64 0), .nils, .nils])), (3, some (.blk [.s (.i .i64 2), .sl 5 none none, .sl 6 none none])), (4, some (.nest true 1 (rowsI (nbrs n.toNat E)) [] [])), (5, some (.flat true 1 (ints Ts))), (6, some (.nest true 1 (rowsI (pathsT n E (Ts.take i) ++ keepT n E t ((nearL E t).take j))) [] [])), (7, some (.flat true 1 (ints p)))]) 8 [t, x0] ⟨FolT.start hxm, n.toNat, by simp, rfl⟩ (by refine Weak.by [(0, some _), (1, some _), (2, some _), (3, some _), (4, some _), (5, some _), (6, some _), (7, some _)] (by ((repeat' first | exact rfl | exact trivial | refine And.intro ?_ ?_) <;> (repeat' first | exact rfl | exact trivial | refine And.intro ?_ ?_)); all_goals ((first | (simp; done)))) (by ((repeat' first | exact rfl | exact trivial | refine And.intro ?_ ?_) <;> (repeat' first | exact rfl | exact trivial | refine And.intro ?_ ?_)); all_goals ((first | (simp; done)))) (by rfl)) ?_
        rintro p ⟨hF, f, hf, hg⟩
        have hp2 := hF.two
        have hpn := hF.len h1
        obtain ⟨xl, hxl⟩ : ∃ x, p.getLastD 0 = x := ⟨_, rfl⟩
        have hxr : 0 ≤ xl ∧ xl < n := by rw [← hxl, lastD_get (by omega)]; exact hF.inN h1 _ (by rw [getD_at (by omega)]; exact List.getElem_mem _)
        have hxt := nb_get (n := n.toNat) (E := E) (v := xl.toNat) (by omega)
        rw [Int.toNat_of_nonneg hxr.1] at hxt
        rw [hxl]
        refine Idx.by xl.toNat (by show xl = _; omega) (by rw [hkl]; omega) ?_
        refine Pick.T (by rw [hkl]; simp; omega) ?_
        refine Look.by _ hxt ?_
        refine Pick.by (fun h2 => ?_) (fun h2 => ?_)
        · have h2 : (nearL E xl).length = 2 := by rw [ints_length] at h2; have := beq_iff_eq.1 h2; omega
          obtain ⟨c, hcc⟩ : ∃ c, (nearL E xl).getD 0 0 = c := ⟨_, rfl⟩
          obtain ⟨d, hdd⟩ : ∃ d, (nearL E xl).getD 1 0 = d := ⟨_, rfl⟩
          obtain ⟨q, hqq⟩ : ∃ q, p.getD (p.length - 2) 0 = q := ⟨_, rfl⟩
          have hcg : (nearL E xl)[0]? = some c := by rw [getD_get (by omega), hcc]
          have hdg2 : (nearL E xl)[1]? = some d := by rw [getD_get (by omega), hdd]
          have hqg : p[p.length - 2]? = some q := by rw [getD_get (by omega), hqq]
          have hcr := (adj_in h1 (mem_nearL.1 (List.mem_of_getElem? hcg))).2
          have hdr := (adj_in h1 (mem_nearL.1 (List.mem_of_getElem? hdg2))).2
          have hqr := hF.inN h1 q (List.mem_of_getElem? hqg)
          have hnx : nxtT E p = c + d - q := by unfold nxtT; rw [hxl, hcc, hdd, hqq]
          refine Idx.by xl.toNat (by show xl = _; omega) (by rw [hkl]; omega) ?_
          refine Pick.T (by rw [hkl]; simp; omega) ?_
          refine Look.by _ hxt ?_
          refine Idx.by 0 rfl (by rw [ints_length]; omega) ?_
          refine Look.by _ hxt ?_
          refine Look.by _ (ints_get hcg) ?_
          refine Idx.by xl.toNat (by show xl = _; omega) (by rw [hkl]; omega) ?_
          refine Pick.T (by rw [hkl]; simp; omega) ?_
          refine Look.by _ hxt ?_
          refine Idx.by 1 rfl (by rw [ints_length]; omega) ?_
          refine Look.by _ hxt ?_
          refine Look.by _ (ints_get hdg2) ?_
          refine Pick.T (inI64_of (by omega) (by omega)) ?_
          refine Pick.T (inI64_of (by rw [ints_length]; omega) (by rw [ints_length]; omega)) ?_
          refine Idx.by (p.length - 2) (by rw [ints_length]; omega) (by rw [ints_length]; omega) ?_
          refine Look.by _ (ints_get hqg) ?_
          refine Pick.T (inI64_of (by omega) (by omega)) ?_
          refine Seg.by (by kernel_rfl) ?_
          refine Pick.T (by simp [cut, ints_length]; omega) ?_
          have h2' : (nearL E (p.getLastD 0)).length = 2 := by rw [hxl]; exact h2
          have hlen := hF.len2 h1 (by omega) h2'
          obtain ⟨f', rfl⟩ : ∃ f', f = f' + 1 := ⟨f - 1, by omega⟩
          rw [goT_step h2'] at hg
          have hla : (p ++ [nxtT E p]).getLastD 0 = c + d - q := by rw [List.getLastD_concat, hnx]
          refine Next.by (p ++ [nxtT E p]) ⟨hF.next h1 (by omega) h2', f', by simp; omega, hg⟩ (by simp; omega) (by refine Weak.by [(0, some _), (1, some _), (2, some _), (3, some _), (4, some _), (5, some _), (6, some _), (7, some _)] (by ((repeat' first | exact rfl | exact trivial | refine And.intro ?_ ?_) <;> (repeat' first | exact rfl | exact trivial | refine And.intro ?_ ?_)); all_goals ((first | exact sc_eq hla | (rw [hnx, ints_snoc]; rfl) | (simp; done)))) (by ((repeat' first | exact rfl | exact trivial | refine And.intro ?_ ?_) <;> (repeat' first | exact rfl | exact trivial | refine And.intro ?_ ?_)); all_goals ((first | exact sc_eq hla | (rw [hnx, ints_snoc]; rfl) | (simp; done)))) (by rfl))
        · have h2 : (nearL E xl).length ≠ 2 := by rw [ints_length] at h2; have := beq_eq_false_iff_ne.1 h2; omega
          have hpp : p = pathT n E t x0 := by rw [← hg, goT_stop (by rw [hxl]; exact h2)]
          have hstk : keepT n E t ((nearL E t).take (j + 1)) = keepT n E t ((nearL E t).take j) ++ (if t < xl then [p] else []) := by
            rw [List.take_succ_eq_append_getElem hjl, hx0, keepT_snoc, ← hpp, hxl]
          have hkl2 := keepT_len n E t ((nearL E t).take j)
          have htk : ((nearL E t).take j).length ≤ 3 := by rw [List.length_take]; omega
          have hpl := pathsT_len (n := n) (T := Ts.take i) fun y hy => hTd y (List.mem_of_mem_take hy)
          have hti3 : (Ts.take i).length ≤ 4 := by rw [List.length_take]; omega
          have hall : ∀ r ∈ pathsT n E (Ts.take i) ++ keepT n E t ((nearL E t).take j), r.length ≤ n.toNat + 1 := fun r hr => by
            rcases List.mem_append.1 hr with hr | hr
            · exact (pathsT_row h1 (fun y hy => hTd y (List.mem_of_mem_take hy)) hr).2
            · exact (keepT_row h1 t2 (fun y hy => List.mem_of_mem_take hy) hr).2
          have hul := usedT_le hall
          have hll : (pathsT n E (Ts.take i) ++ keepT n E t ((nearL E t).take j)).length ≤ 15 := by rw [List.length_append]; omega
          have hub : usedT (pathsT n E (Ts.take i) ++ keepT n E t ((nearL E t).take j)) ≤ 15000 := Nat.le_trans hul (Nat.le_trans (Nat.mul_le_mul hll (show n.toNat ≤ 1000 by omega)) (by decide))
          refine Pick.by (fun h3 => ?_) (fun h3 => ?_)
          · have h3 : ¬ t < xl := by have := of_decide_eq_true h3; omega
            rw [if_neg h3, List.append_nil] at hstk
            refine Pick.T (inI64_of (by omega) (by omega)) ?_
            refine Next.by (j + 1) (by omega) (by omega) (by refine Weak.by [(0, some _), (1, some _), (2, some _), (3, some _), (4, some _), (5, some _), (6, some _)] (by ((repeat' first | exact rfl | exact trivial | refine And.intro ?_ ?_) <;> (repeat' first | exact rfl | exact trivial | refine And.intro ?_ ?_)); all_goals ((first | exact sc_eq (by rw [hstk]) | (rw [hstk]; done) | (rw [hstk]; rfl) | (simp; done)))) (by ((repeat' first | exact rfl | exact trivial | refine And.intro ?_ ?_) <;> (repeat' first | exact rfl | exact trivial | refine And.intro ?_ ?_)); all_goals ((first | exact sc_eq (by rw [hstk]) | (rw [hstk]; done) | (rw [hstk]; rfl) | (simp; done)))) (by rfl))
          · have h3 : t < xl := by have := of_decide_eq_false h3; omega
            rw [if_pos h3] at hstk
            refine Pick.T (decide_eq_true (by rw [rowsI_length]; simp only [List.length_cons, List.length_nil]; omega)) ?_
            have hus : usedT (pathsT n E (Ts.take i) ++ (keepT n E t ((nearL E t).take j) ++ [p])) = usedT (pathsT n E (Ts.take i) ++ keepT n E t ((nearL E t).take j)) + (p.length - 1) := by rw [← List.append_assoc, usedT_snoc]
            have hil : ((ints p).length : Int) = p.length := by rw [ints_length]
            refine Pick.T (inI64_of (by rw [hil]; omega) (by rw [hil]; omega)) ?_
            refine Pick.T (inI64_of (by rw [hil]; omega) (by rw [hil]; omega)) ?_
            refine Pick.T (inI64_of (by omega) (by omega)) ?_
            refine Next.by (j + 1) (by omega) (by omega) (by refine Weak.by [(0, some _), (1, some _), (2, some _), (3, some _), (4, some _), (5, some _), (6, some _)] (by ((repeat' first | exact rfl | exact trivial | refine And.intro ?_ ?_) <;> (repeat' first | exact rfl | exact trivial | refine And.intro ?_ ?_)); all_goals ((first | exact sc_eq (by rw [hstk, hus, hil]; omega) | (rw [hstk, ← List.append_assoc, rowsI_snoc]; done) | (rw [hstk, ← List.append_assoc, rowsI_snoc]; rfl) | (simp; done)))) (by ((repeat' first | exact rfl | exact trivial | refine And.intro ?_ ?_) <;> (repeat' first | exact rfl | exact trivial | refine And.intro ?_ ?_)); all_goals ((first | exact sc_eq (by rw [hstk, hus, hil]; omega) | (rw [hstk, ← List.append_assoc, rowsI_snoc]; done) | (rw [hstk, ← List.append_assoc, rowsI_snoc]; rfl) | (simp; done)))) (by rfl))
      · have hjg : (nearL E t).length ≤ j := by have := of_decide_eq_false hc2; omega
        rw [List.take_of_length_le hjg]
        refine Pick.T (inI64_of (by omega) (by omega)) ?_
        have hstp : pathsT n E (Ts.take (i + 1)) = pathsT n E (Ts.take i) ++ keepT n E t (nearL E t) := by rw [List.take_succ_eq_append_getElem hlt, ht, pathsT_snoc]
        refine Next.by (i + 1) (by omega) (by omega) (by refine Weak.by [(0, some _), (1, some _), (2, some _), (3, some _), (4, some _), (5, some _), (6, some _)] (by ((repeat' first | exact rfl | exact trivial | refine And.intro ?_ ?_) <;> (repeat' first | exact rfl | exact trivial | refine And.intro ?_ ?_)); all_goals ((first | exact sc_eq (by rw [hstp]) | (rw [hstp]; done) | (rw [hstp]; rfl)))) (by ((repeat' first | exact rfl | exact trivial | refine And.intro ?_ ?_) <;> (repeat' first | exact rfl | exact trivial | refine And.intro ?_ ?_)); all_goals ((first | exact sc_eq (by rw [hstp]) | (rw [hstp]; done) | (rw [hstp]; rfl)))) (by rfl))
    · have hge : Ts.length ≤ i := by have := of_decide_eq_false hc; omega
      rw [List.take_of_length_le hge]
      have hpl := pathsT_len (n := n) hTd
      have hsn : sortNP goodT cmpT (rowsI (pathsT n E Ts)) := ⟨_, rfl, fun r hr => by have := pathsT_row h1 hTd hr; exact ⟨this.1, by omega⟩, paths_keys h1 hTd hTsn, by omega⟩
      have hsp := sortL_perm cmpT (pathsT n E Ts)
      have hfew : fewL (sortL cmpT (pathsT n E Ts)) := ⟨by rw [hsp.length_eq]; omega, fun r hr => by have := pathsT_row h1 hTd (hsp.mem_iff.1 hr); omega⟩
      refine ⟨rfl, rfl, _, _, rfl, hsn, ?_⟩
      rw [sortN_rows]
      refine Pick.by (fun h6 => ?_) (fun h6 => ?_)
      · have h6 : usedT (pathsT n E Ts) ≠ E.length := by intro e; rw [edges_length, e] at h6; simp at h6
        have hv := readF_no (n := n) (E := E) (fun h => h6 (by rw [← hTs]; exact h.2.2.2.1))
        dsimp only
        rw [hv]
        exact ⟨rfl, rfl, ⟨rfl, ⟨rfl, rfl⟩, ⟨rfl, rfl⟩, trivial⟩, rfl, trivial⟩
      have h6 : usedT (pathsT n E Ts) = E.length := by
        have h6 : (!((usedT (pathsT n E Ts) : Int) == ((edges E).length : Nat))) = false := h6
        rw [edges_length] at h6
        have : (usedT (pathsT n E Ts) : Int) = (E.length : Nat) := by simpa only [Bool.not_eq_false', beq_iff_eq] using h6
        omega
      refine Call.by _ _ (SubC_at (n := n) (E := E) (k := 2) (Ts := Ts) hfew) ?_
      refine Pick.by (fun h7 => ?_) (fun h7 => ?_)
      · have h7 : ¬ SubP n E 2 Ts (sortL cmpT (pathsT n E Ts)) := by
          have h7 : (!subB n E 2 Ts (sortL cmpT (pathsT n E Ts))) = true := h7
          intro h; rw [subB_iff.2 h] at h7; cases h7
        have hv := readF_no (n := n) (E := E) (fun h => h7 (by have := h.2.2.2.2; rw [hTs, hkd] at this; exact this))
        dsimp only
        rw [hv]
        exact ⟨rfl, rfl, ⟨rfl, ⟨rfl, rfl⟩, ⟨rfl, rfl⟩, trivial⟩, rfl, trivial⟩
      · have h7 : SubP n E 2 Ts (sortL cmpT (pathsT n E Ts)) := by
          have h7 : (!subB n E 2 Ts (sortL cmpT (pathsT n E Ts))) = false := h7
          exact subB_iff.1 (by simpa using h7)
        have hv := readF_yes (n := n) (E := E) ⟨h1, hdegs, by rw [hTs, hkd]; decide, by rw [hTs]; exact h6, by rw [hTs, hkd]; exact h7⟩
        rw [hTs, hkd] at hv
        dsimp only
        rw [hv]
        exact ⟨rfl, rfl, ⟨rfl, ⟨rfl, rfl⟩, ⟨rfl, rfl⟩, trivial⟩, rfl, trivial⟩
  · have h5 : Ts.length ≠ 2 := by rw [ints_length] at h5; have := beq_eq_false_iff_ne.1 h5; omega
    have hv := readF_no (n := n) (E := E) (fun h => h.2.2.1 (by rw [hTs]; unfold kindT; rw [if_neg h4, if_neg h5]))
    dsimp only
    rw [hv]
    exact ⟨rfl, rfl, ⟨rfl, ⟨rfl, rfl⟩, ⟨rfl, rfl⟩, trivial⟩, rfl, trivial⟩
end Go.Sh

set_option linter.unusedVariables false
set_option linter.unusedSimpArgs false
namespace Go.Sh
open Go.Proofs
/-! ### carcanetlaw09.small -/
def cutP (L : List (List Int)) : List (List Int) := (L.take 8).map fun x => x.take 20
theorem cutP_few (L : List (List Int)) : fewL (cutP L) := by
  unfold fewL cutP
  refine ⟨by simp; omega, fun l hl => ?_⟩
  obtain ⟨x, _, rfl⟩ := List.mem_map.1 hl
  simp; omega
abbrev Sb := Int × List Int × List (List Int)
noncomputable def Small9C : Con := conP 1 (fun _ : Sb => True) (fun a => [sbV false a.1 a.2.1 a.2.2]) (fun a => sbV true a.1 (a.2.1.take 6) (cutP a.2.2))
theorem Small9C_at (k : Int) (Ts : List Int) (L : List (List Int)) : Small9C.F [sbV false k Ts L] = some (sbV true k (Ts.take 6) (cutP L), []) :=
  conP_at (a := (k, Ts, L)) (fun a b _ _ h => by
    obtain ⟨k, Ts, L⟩ := a
    obtain ⟨k', Ts', L'⟩ := b
    simp at h
    obtain ⟨rfl, rfl, rfl⟩ := sbV_inj h
    rfl) trivial
set_option maxHeartbeats 1000000 in
theorem Small9_ok : SoundC Try.prog T 28 Small9C := by
  refine sound_con (X := { Γ := [], T := T, nt := 49 }) cr_none hmix hT sound_nil Try.func28 (by rfl) (by rfl) (by rfl) (by rfl) 3 ?_
  rintro ⟨kd, Ts, l⟩ -
  dsimp only
  refine ⟨⟨Nat.le_of_ble_eq_true rfl, Nat.le_of_ble_eq_true rfl⟩, ?_⟩
  have hcutT : cut (subOf none 0 0 (min Ts.length 6)) (ints Ts) = ints (Ts.take 6) := by
    simp only [subOf, cut, List.drop_zero, Nat.sub_zero, ints, List.map_take]
    rw [List.take_eq_take_iff]; simp; omega
  refine Rng.by 0 (min Ts.length 6) rfl ?_ (by omega) ?_ ?_
  · rw [ints_length]
    show (if (6 : Int) < (Ts.length : Int) then (6 : Int) else (Ts.length : Int)) = _
    split <;> omega
  · rw [ints_length]; omega
  refine Pick.T (by rw [hcutT]; simp [ints_length]; omega) ?_
  refine Seg.by (by kernel_rfl) ?_
  refine LoopP.intro (α := Nat) (fun k => k ≤ l.length ∧ k ≤ 8) (fun k => l.length - k) (fun k => [(1, .ptr 0 0), (2, .ptr 3 0), (3, .ptr 4 0), (4, .s (.i .i64 k))])
    (fun k => [(0, some (.blk [.s (.i .i64 kd), .sl 1 none none, .sl 2 none none])), (1, some (.flat false 1 (ints Ts))), (2, some (.nest false 1 (rowsI l) [] [])), (3, some (.blk [.s (.i .i64 0), .nils, .nils])), (4, some (.blk [.s (.i .i64 kd), .sl 5 none none, .sl 6 none none])), (5, some (.flat true 1 (ints (Ts.take 6)))), (6, some (.nest true 1 (rowsI ((l.take k).map fun x => x.take 20)) [] []))]) 7 0 (by simp) (by refine Weak.by [(0, some _), (1, some _), (2, some _), (3, some _), (4, some _), (5, some _), (6, none)] (by ((repeat' first | exact rfl | exact trivial | refine And.intro ?_ ?_) <;> (repeat' first | exact rfl | exact trivial | refine And.intro ?_ ?_)); all_goals ((first | (rw [← hcutT]; rfl) | (simp [rowsI]; done)))) (by ((repeat' first | exact rfl | exact trivial | refine And.intro ?_ ?_) <;> (repeat' first | exact rfl | exact trivial | refine And.intro ?_ ?_)); all_goals ((first | (rw [← hcutT]; rfl) | (simp [rowsI]; done)))) (by rfl)) ?_
  rintro k ⟨hk, hk6⟩
  have endd : k = l.length ∨ k = 8 → rowsI (cutP l) = rowsI ((l.take k).map fun x => x.take 20) := fun h => by
    unfold cutP
    rcases h with h | h
    · rw [List.take_of_length_le (by omega : l.length ≤ k), List.take_of_length_le (by omega : l.length ≤ 8)]
    · rw [h]
  refine Pick.by (fun hc => ?_) (fun hc => ?_)
  · have hlt : k < l.length := by simpa [rowsI_length] using hc
    refine Pick.by (fun h6 => ?_) (fun h6 => ?_)
    · have h6 : k < 8 := by simp at h6; omega
      have hstep : rowsI ((l.take (k + 1)).map fun x => x.take 20) = rowsI ((l.take k).map fun x => x.take 20) ++ [ints (l[k].take 20)] := by
        rw [← rowsI_snoc, take_snoc _ hlt]
      have hroom : (rowsI ((l.take k).map fun x => x.take 20)).length = k := by rw [rowsI_length]; simp; omega
      refine Idx.by k rfl ?_ ?_
      · rw [rowsI_length]; exact hlt
      refine Pick.T (by simpa [rowsI_length] using hlt) ?_
      refine Idx.by k rfl ?_ ?_
      · rw [rowsI_length]; exact hlt
      refine Pick.T (by simpa [rowsI_length] using hlt) ?_
      refine Look.by _ (rowsI_get (List.getElem?_eq_getElem hlt)) ?_
      refine Look.by _ (rowsI_get (List.getElem?_eq_getElem hlt)) ?_
      refine Rng.by 0 (min l[k].length 20) rfl ?_ (by omega) ?_ ?_
      · rw [ints_length]
        show (if (20 : Int) < (l[k].length : Int) then (20 : Int) else (l[k].length : Int)) = _
        split <;> omega
      · rw [ints_length]; omega
      have hcut : cut (subOf none 0 0 (min l[k].length 20)) (ints l[k]) = ints (l[k].take 20) := by
        simp only [subOf, cut, List.drop_zero, Nat.sub_zero, ints, List.map_take]
        rw [List.take_eq_take_iff]; simp; omega
      refine Look.by _ (rowsI_get (List.getElem?_eq_getElem hlt)) ?_
      refine Pick.T (by rw [hcut]; simp [ints_length, cut]; omega) ?_
      refine Pick.T (by rw [hroom]; simp; omega) ?_
      refine Seg.by (by kernel_rfl) ?_
      refine Pick.T (inI64_of (by omega) (by omega)) ?_
      refine Next.by (k + 1) ⟨by omega, by omega⟩ (by omega) (by refine Weak.by [(0, some _), (1, some _), (2, some _), (3, some _), (4, some _), (5, some _), (6, some _)] (by ((repeat' first | exact rfl | exact trivial | refine And.intro ?_ ?_) <;> (repeat' first | exact rfl | exact trivial | refine And.intro ?_ ?_)); all_goals (rw [hstep, ← hcut]; rfl)) (by ((repeat' first | exact rfl | exact trivial | refine And.intro ?_ ?_) <;> (repeat' first | exact rfl | exact trivial | refine And.intro ?_ ?_)); all_goals (rw [hstep, ← hcut]; rfl)) (by rfl))
    · have h6 : ¬ k < 8 := by simp at h6; omega
      exact ⟨rfl, rfl, ⟨rfl, rfl⟩, ⟨rfl, endd (.inr (by omega))⟩, trivial⟩
  · have hge : l.length ≤ k := by simpa [rowsI_length] using hc
    exact ⟨rfl, rfl, ⟨rfl, rfl⟩, ⟨rfl, endd (.inl (by omega))⟩, trivial⟩
end Go.Sh

set_option linter.unusedVariables false
set_option linter.unusedSimpArgs false
namespace Go.Sh
open Go.Proofs
/-! ### carcanetlaw09.shown -/
def E9 : List Ed := [(0, 1), (0, 2), (0, 3), (1, 2), (1, 4), (2, 3), (3, 4)]
def L9 : List (List Int) := [[0, 1], [0, 2], [0, 3], [1, 2], [1, 4, 3], [2, 3]]
theorem right9 : RightP 5 E9 := by unfold RightP E9 okE; decide
instance (E : List Ed) (a b : Int) : Decidable (adjE E a b) := by unfold adjE; exact inferInstance
theorem path9 {p : List Int} (h : (p ≠ [] ∧ (0 ≤ p.headD 0 ∧ p.headD 0 < 5) ∧ p.Nodup) ∧ ∀ i, i < p.length → i + 1 < p.length → adjE E9 (p.getD i 0) (p.getD (i + 1) 0)) : PathP 5 E9 p :=
  ⟨right9, h.1.1, h.1.2.1, h.1.2.2, fun i hi => h.2 i (by omega) hi⟩
theorem sub9 : SubP 5 E9 1 [0, 1, 2, 3] L9 := by
  refine ⟨.inl ⟨rfl, rfl, rfl⟩, fun i p hp => ?_, by unfold ApartP; decide⟩
  have hi : i < 6 := (List.getElem?_eq_some_iff.1 hp).1
  match i, hi, hp with
  | 0, _, hp => cases hp; exact ⟨path9 (by decide), by decide, by decide, by decide⟩
  | 1, _, hp => cases hp; exact ⟨path9 (by decide), by decide, by decide, by decide⟩
  | 2, _, hp => cases hp; exact ⟨path9 (by decide), by decide, by decide, by decide⟩
  | 3, _, hp => cases hp; exact ⟨path9 (by decide), by decide, by decide, by decide⟩
  | 4, _, hp => cases hp; exact ⟨path9 (by decide), by decide, by decide, by decide⟩
  | 5, _, hp => cases hp; exact ⟨path9 (by decide), by decide, by decide, by decide⟩
theorem tops9 : topsK E9 5 = [0, 1, 2, 3] := by decide
theorem paths9 : pathsT 5 E9 [0, 1, 2, 3] = L9 := by decide
theorem sort9 : sortL cmpT L9 = L9 := by
  unfold sortL
  exact List.mergeSort_of_pairwise (by decide)
theorem read_E9 : readF 5 E9 = ((1, [0, 1, 2, 3], L9), true) := by
  have hP : ReadP 5 E9 := by
    refine ⟨right9, fun v hv => ?_, ?_, ?_, ?_⟩
    · have hv : v < 5 := by omega
      have h : ∀ v : Nat, v < 5 → (nearL E9 (v : Int)).length = 0 ∨ (nearL E9 (v : Int)).length = 2 ∨ (nearL E9 (v : Int)).length = 3 := by decide
      exact h v hv
    · show kindT (topsK E9 5) ≠ 0
      rw [tops9]; decide
    · show usedT (pathsT 5 E9 (topsK E9 5)) = _
      rw [tops9, paths9]; decide
    · show SubP 5 E9 (kindT (topsK E9 5)) (topsK E9 5) (sortL cmpT (pathsT 5 E9 (topsK E9 5)))
      rw [tops9, paths9, sort9]; exact sub9
  rw [readF_yes hP]
  show ((kindT (topsK E9 5), topsK E9 5, sortL cmpT (pathsT 5 E9 (topsK E9 5))), true) = _
  rw [tops9, paths9, sort9]; rfl
theorem read_30 : readF 3 [] = ((0, [], []), false) := readF_no fun h => h.2.2.1 (by decide)
theorem mod9 : modF 1 [0, 1, 2, 3] L9 = (1, [[0], [1, 4], [2], [3]]) := by decide
theorem segs9 : insAll (segs L9) = E9 := by decide
theorem sub_no : ¬ SubP 5 E9 0 [] [] := fun h => by rcases h.1 with h | h <;> exact absurd h.1 (by decide)
noncomputable def Shown9C : Con := conP 0 (fun _ : Unit => True) (fun _ => []) (fun _ => .one (.s (.b true)))
theorem Shown9C_at : Shown9C.F [] = some (.one (.s (.b true)), []) := conP_at (a := ()) (fun a b _ _ h => rfl) trivial
theorem few9 : fewL L9 := by unfold fewL; decide
set_option maxHeartbeats 1000000 in
theorem Shown9_ok : SoundC Try.prog T 27 Shown9C := by
  refine sound_con (X := { Γ := [(37, ReadC), (31, ModC), (34, EdgC), (29, SubC)], T := T, nt := 98 }) cr_none hmix hT (sound_cons Read_ok (sound_cons Mod_ok (sound_cons Edg_ok (sound_cons Sub_ok sound_nil)))) Try.func27 (by rfl) (by rfl) (by rfl) (by rfl) 0 ?_
  rintro ⟨⟩ -
  refine ⟨⟨Nat.le_of_ble_eq_true rfl, Nat.le_of_ble_eq_true rfl⟩, ?_⟩
  have h1 := ReadC_at (n := 5) (E := E9) (by decide)
  rw [read_E9] at h1
  refine Call.by _ _ h1 ?_
  have h2 := ModC_at (k := 1) (Ts := [0, 1, 2, 3]) few9
  rw [mod9] at h2
  refine Call.by _ _ h2 ?_
  have h3 := EdgC_at (k := 1) (Ts := [0, 1, 2, 3]) few9
  rw [segs9] at h3
  refine Call.by _ _ h3 ?_
  have h4 := ReadC_at (n := 3) (E := []) (by decide)
  rw [read_30] at h4
  refine Call.by _ _ h4 ?_
  refine Idx.by 3 rfl (by decide) ?_
  refine Look.by [.i .i64 3] rfl ?_
  refine Idx.by 4 rfl (by decide) ?_
  refine Look.by (ints [1, 4, 3]) rfl ?_
  have h5 := SubC_at (n := 5) (E := E9) (k := 1) (Ts := [0, 1, 2, 3]) few9
  rw [subB_iff.2 sub9] at h5
  refine Call.by _ _ h5 ?_
  have h6 := SubC_at (n := 5) (E := E9) (k := 0) (Ts := []) (L := []) (by unfold fewL; decide)
  rw [subB_no sub_no] at h6
  refine Call.by _ _ h6 ?_
  refine Idx.by 1 rfl (by decide) ?_
  refine Look.by (ints [1, 4]) rfl ?_
  exact ⟨rfl, rfl⟩
end Go.Sh

set_option linter.unusedVariables false
set_option linter.unusedSimpArgs false
namespace Go.Sh
/-! ### graphs as rows of bits: what one comes to by deletions and contractions -/
def up1 (v i : Nat) : Nat := if i < v then i else i + 1
def lessX (x v : Nat) : Nat := (x &&& (2 ^ v - 1)) ||| ((x >>> (v + 1)) <<< v)
theorem lessX_bit (x v i : Nat) : (lessX x v).testBit i = x.testBit (up1 v i) := by
  unfold lessX up1
  rw [Nat.testBit_or, Nat.testBit_and, Nat.testBit_two_pow_sub_one, Nat.testBit_shiftLeft, Nat.testBit_shiftRight]
  by_cases h : i < v
  · rw [if_pos h]
    have : ¬ i ≥ v := by omega
    simp [h, this]
  · rw [if_neg h]
    have : i ≥ v := by omega
    simp [h, this]
    congr 1
    omega
def lessL (r : List Nat) (v : Nat) : List Nat := (r.eraseIdx v).map (lessX · v)
def offX (x y : Nat) : Nat := x ^^^ (x &&& y)
def mergeX (r : List Nat) (a b i x : Nat) : Nat := if i = a then offX (r.getD a 0 ||| r.getD b 0) (2 ^ a ||| 2 ^ b) else if x.testBit b then x ||| 2 ^ a else x
def mergeL (r : List Nat) (a b : Nat) : List Nat := (List.range r.length).map fun i => mergeX r a b i (r.getD i 0)
def mergedL (r : List Nat) (a b : Nat) : List Nat := lessL (mergeL r a b) b
def bitL (r : List Nat) (a b : Nat) : Bool := (r.getD a 0).testBit b
def isB (r : List Nat) (p q : Nat) : Bool := (r.getD p 0 &&& offX 31 (2 ^ p ||| 2 ^ q) == offX 31 (2 ^ p ||| 2 ^ q)) && (r.getD q 0 &&& offX 31 (2 ^ p ||| 2 ^ q) == offX 31 (2 ^ p ||| 2 ^ q))
def isL (r : List Nat) (k : Int) : Bool :=
  if k = 1 then (r.getD 0 0 ||| 1 == 15) && (r.getD 1 0 ||| 2 == 15) && (r.getD 2 0 ||| 4 == 15) && (r.getD 3 0 ||| 8 == 15)
  else (List.range 5).any fun p => (List.range p).any fun q => isB r p q
def sizeN (k : Int) : Nat := (patG k).1.toNat
def comesL : Nat → List Nat → Int → Bool
  | 0, r, k => decide (r.length = sizeN k) && isL r k
  | f + 1, r, k => if r.length ≤ sizeN k then decide (r.length = sizeN k) && isL r k else
    ((List.range r.length).any fun a => (List.range r.length).any fun b => decide (a < b) && (bitL r a b && comesL f (mergedL r a b) k)) || (List.range r.length).any fun v => comesL f (lessL r v) k
def hasL (r : List Nat) (k : Int) : Bool := comesL r.length r k
theorem lessL_length {r : List Nat} {v : Nat} (h : v < r.length) : (lessL r v).length = r.length - 1 := by
  unfold lessL
  rw [List.length_map, List.length_eraseIdx_of_lt h]
theorem mergeL_length (r : List Nat) (a b : Nat) : (mergeL r a b).length = r.length := by simp [mergeL]
theorem mergedL_length {r : List Nat} {a b : Nat} (h : b < r.length) : (mergedL r a b).length = r.length - 1 := by
  unfold mergedL
  rw [lessL_length (by rw [mergeL_length]; exact h), mergeL_length]
theorem up1_ne (v i : Nat) : up1 v i ≠ v := by unfold up1; split <;> omega
theorem up1_lt {v i n : Nat} (h : i < n - 1) : up1 v i < n := by unfold up1; split <;> omega
def dn1 (v i : Nat) : Nat := if i < v then i else i - 1
theorem up_dn {v i : Nat} (h : i ≠ v) : up1 v (dn1 v i) = i := by
  unfold up1 dn1
  by_cases h1 : i < v
  · rw [if_pos h1, if_pos h1]
  · rw [if_neg h1, if_neg (by omega)]; omega
theorem dn_lt {v i n : Nat} (h : i ≠ v) (hv : v < n) (hi : i < n) : dn1 v i < n - 1 := by unfold dn1; split <;> omega
theorem up_inj {v i j : Nat} (h : up1 v i = up1 v j) : i = j := by unfold up1 at h; split at h <;> split at h <;> omega
theorem lessL_getD (r : List Nat) (v i : Nat) : (lessL r v).getD i 0 = lessX (r.getD (up1 v i) 0) v := by
  have z : lessX 0 v = 0 := by simp [lessX]
  unfold lessL up1
  rw [List.getD_eq_getElem?_getD, List.getElem?_map, List.getElem?_eraseIdx, List.getD_eq_getElem?_getD]
  split
  · cases r[i]? with
    | none => simp [z]
    | some x => simp
  · cases r[i + 1]? with
    | none => simp [z]
    | some x => simp
theorem bit_less (r : List Nat) (v i j : Nat) : bitL (lessL r v) i j = bitL r (up1 v i) (up1 v j) := by
  unfold bitL
  rw [lessL_getD, lessX_bit]
/-- rows of bits of a graph -/
structure Sq (r : List Nat) : Prop where
  bnd : ∀ a b, bitL r a b = true → b < r.length
  sym : ∀ a b, bitL r a b = true → bitL r b a = true
  irr : ∀ a, bitL r a a = false
theorem Sq.lt {r : List Nat} (h : Sq r) {a b : Nat} (hb : bitL r a b = true) : a < r.length := h.bnd _ _ (h.sym _ _ hb)
theorem off_bit (x y j : Nat) : (offX x y).testBit j = (x.testBit j && !y.testBit j) := by
  unfold offX
  rw [Nat.testBit_xor, Nat.testBit_and]
  cases x.testBit j <;> cases y.testBit j <;> rfl
theorem off2_bit (x a b j : Nat) : (offX x (2 ^ a ||| 2 ^ b)).testBit j = true ↔ x.testBit j = true ∧ j ≠ a ∧ j ≠ b := by
  rw [off_bit, Nat.testBit_or, Nat.testBit_two_pow, Nat.testBit_two_pow]
  simp only [Bool.and_eq_true, Bool.not_eq_true', Bool.or_eq_false_iff, decide_eq_false_iff_not]
  constructor
  · rintro ⟨h1, h2, h3⟩; exact ⟨h1, fun e => h2 e.symm, fun e => h3 e.symm⟩
  · rintro ⟨h1, h2, h3⟩; exact ⟨h1, fun e => h2 e.symm, fun e => h3 e.symm⟩
theorem mergeL_getD (r : List Nat) (a b i : Nat) (h : i < r.length) : (mergeL r a b).getD i 0 = mergeX r a b i (r.getD i 0) := by
  unfold mergeL
  rw [List.getD_eq_getElem?_getD, List.getElem?_map, List.getElem?_range h]; rfl
theorem getD_out {r : List Nat} {i : Nat} (h : ¬ i < r.length) : r.getD i 0 = 0 := by
  rw [List.getD_eq_getElem?_getD, List.getElem?_eq_none (by omega)]; rfl
theorem bit_merge {r : List Nat} {a b i j : Nat} (h : i < r.length) : bitL (mergeL r a b) i j = true ↔ (i = a ∧ (bitL r a j = true ∨ bitL r b j = true) ∧ j ≠ a ∧ j ≠ b) ∨ (i ≠ a ∧ (bitL r i j = true ∨ (bitL r i b = true ∧ j = a))) := by
  unfold bitL
  rw [mergeL_getD _ _ _ _ h]
  unfold mergeX
  by_cases ha : i = a
  · rw [if_pos ha, off2_bit, Nat.testBit_or]
    simp [ha]
  · rw [if_neg ha]
    split
    · rename_i hb
      rw [Nat.testBit_or, Nat.testBit_two_pow]
      simp only [Bool.or_eq_true, decide_eq_true_eq, ha, false_and, false_or, not_false_eq_true, true_and, hb, ne_eq]
      constructor
      · rintro (h | h)
        · exact .inl h
        · exact .inr h.symm
      · rintro (h | h)
        · exact .inl h
        · exact .inr h.symm
    · rename_i hb
      constructor
      · intro h2; exact .inr ⟨ha, .inl h2⟩
      · rintro (⟨h2, _⟩ | ⟨_, h2 | ⟨h2, _⟩⟩)
        · exact absurd h2 ha
        · exact h2
        · exact absurd h2 hb
/-- neighbours, when b has become a -/
def mAdj (r : List Nat) (a b x y : Nat) : Prop := (x = a ∧ (bitL r a y = true ∨ bitL r b y = true) ∧ y ≠ a ∧ y ≠ b) ∨ (x ≠ a ∧ (bitL r x y = true ∨ (bitL r x b = true ∧ y = a)))
theorem bit_merged {r : List Nat} {a b i j : Nat} (h : i < r.length - 1) : bitL (mergedL r a b) i j = true ↔ mAdj r a b (up1 b i) (up1 b j) := by
  unfold mergedL
  rw [bit_less, bit_merge (up1_lt h)]; rfl
theorem bit_len {r : List Nat} {a b : Nat} (h : bitL r a b = true) : a < r.length := by
  apply Classical.byContradiction
  intro hn
  unfold bitL at h
  rw [getD_out hn] at h
  simp at h
theorem Sq.less {r : List Nat} (h : Sq r) {v : Nat} (hv : v < r.length) : Sq (lessL r v) := by
  refine ⟨fun a b hb => ?_, fun a b hb => ?_, fun a => ?_⟩
  · rw [bit_less] at hb
    have := h.bnd _ _ hb
    rw [lessL_length hv]
    unfold up1 at this
    split at this <;> omega
  · rw [bit_less] at hb ⊢; exact h.sym _ _ hb
  · rw [bit_less]; exact h.irr _
theorem Sq.merged {r : List Nat} (h : Sq r) {a b : Nat} (ha : a < b) (hb : b < r.length) : Sq (mergedL r a b) := by
  have hl := mergedL_length (a := a) hb
  have key : ∀ i j, bitL (mergedL r a b) i j = true → i < r.length - 1 ∧ mAdj r a b (up1 b i) (up1 b j) := fun i j hij => by
    have hi := bit_len hij
    rw [hl] at hi
    exact ⟨hi, (bit_merged hi).1 hij⟩
  have sm : ∀ x y, x ≠ b → y ≠ b → mAdj r a b x y → mAdj r a b y x := fun x y hx hy hm => by
    rcases hm with ⟨rfl, h1, h2, h3⟩ | ⟨h1, h2⟩
    · refine .inr ⟨h2, ?_⟩
      rcases h1 with h1 | h1
      · exact .inl (h.sym _ _ h1)
      · exact .inr ⟨h.sym _ _ h1, rfl⟩
    · by_cases e : y = a
      · subst e
        refine .inl ⟨rfl, ?_, h1, hx⟩
        rcases h2 with h2 | ⟨h2, _⟩
        · exact .inl (h.sym _ _ h2)
        · exact .inr (h.sym _ _ h2)
      · refine .inr ⟨e, .inl ?_⟩
        rcases h2 with h2 | ⟨_, h2⟩
        · exact h.sym _ _ h2
        · exact absurd h2 e
  have bd : ∀ i j, mAdj r a b (up1 b i) (up1 b j) → j < r.length - 1 := fun i j hm => by
    have : up1 b j < r.length := by
      rcases hm with ⟨_, h1 | h1, _⟩ | ⟨_, h1 | ⟨_, h1⟩⟩
      · exact h.bnd _ _ h1
      · exact h.bnd _ _ h1
      · exact h.bnd _ _ h1
      · omega
    unfold up1 at this
    split at this <;> omega
  refine ⟨fun i j hij => ?_, fun i j hij => ?_, fun i => ?_⟩
  · rw [hl]; exact bd _ _ (key _ _ hij).2
  · obtain ⟨hi, hm⟩ := key _ _ hij
    exact (bit_merged (bd _ _ hm)).2 (sm _ _ (up1_ne _ _) (up1_ne _ _) hm)
  · cases hc : bitL (mergedL r a b) i i with
    | false => rfl
    | true =>
      obtain ⟨hi, hm⟩ := key _ _ hc
      rcases hm with ⟨h1, _, h2, _⟩ | ⟨h1, h2 | ⟨_, h2⟩⟩
      · exact absurd h1 h2
      · rw [h.irr] at h2; cases h2
      · exact absurd h2 h1
/-- a model, as colours of the vertices: each colour below m is there, hangs together, and those of the pattern's pairs touch -/
structure Mod (r : List Nat) (m : Nat) (pat : List (Nat × Nat)) (c : Nat → Nat) : Prop where
  some : ∀ i, i < m → ∃ x, x < r.length ∧ c x = i
  conn : ∀ i, i < m → ∀ P : Nat → Prop, (∃ x, x < r.length ∧ c x = i ∧ P x) → (∀ x y, c x = i → c y = i → bitL r x y = true → P x → P y) → ∀ x, x < r.length → c x = i → P x
  meet : ∀ q ∈ pat, ∃ x y, bitL r x y = true ∧ c x = q.1 ∧ c y = q.2
theorem Mod.less {r : List Nat} {m : Nat} {pat : List (Nat × Nat)} {c : Nat → Nat} (h : Mod r m pat c) (hp : ∀ q ∈ pat, q.1 < m ∧ q.2 < m ∧ q.1 ≠ q.2) {v : Nat} (hv : v < r.length) (hc : m ≤ c v) : Mod (lessL r v) m pat fun i => c (up1 v i) := by
  have hl := lessL_length hv
  refine ⟨fun i hi => ?_, fun i hi P hP hcl x hx hcx => ?_, fun q hq => ?_⟩
  · obtain ⟨x, h1, h2⟩ := h.some i hi
    have hx : x ≠ v := fun e => by subst e; omega
    exact ⟨dn1 v x, by rw [hl]; exact dn_lt hx hv h1, by rw [up_dn hx]; exact h2⟩
  · have := h.conn i hi (fun x => ∃ y, up1 v y = x ∧ P y) ?_ ?_ (up1 v x) (by rw [hl] at hx; exact up1_lt hx) hcx
    · obtain ⟨y, h1, h2⟩ := this
      rw [← up_inj h1]; exact h2
    · obtain ⟨x, h1, h2, h3⟩ := hP
      exact ⟨up1 v x, by rw [hl] at h1; exact up1_lt h1, h2, x, rfl, h3⟩
    · rintro x y cx cy hb ⟨x', rfl, hPx⟩
      have hy : y ≠ v := fun e => by subst e; omega
      refine ⟨dn1 v y, up_dn hy, hcl x' _ cx (by rw [up_dn hy]; exact cy) ?_ hPx⟩
      rw [bit_less, up_dn hy]; exact hb
  · obtain ⟨x, y, h1, h2, h3⟩ := h.meet q hq
    have hx : x ≠ v := fun e => by subst e; have := hp q hq; omega
    have hy : y ≠ v := fun e => by subst e; have := hp q hq; omega
    exact ⟨dn1 v x, dn1 v y, by rw [bit_less, up_dn hx, up_dn hy]; exact h1, by rw [up_dn hx]; exact h2, by rw [up_dn hy]; exact h3⟩
/-- where a vertex goes, when b becomes a -/
def toM (a b x : Nat) : Nat := if x = b then a else dn1 b x
theorem Mod.merged {r : List Nat} {m : Nat} {pat : List (Nat × Nat)} {c : Nat → Nat} (hs : Sq r) (h : Mod r m pat c) (hp : ∀ q ∈ pat, q.1 < m ∧ q.2 < m ∧ q.1 ≠ q.2) {a b : Nat} (ha : a < b) (hb : b < r.length) (hc : c a = c b) : Mod (mergedL r a b) m pat fun i => c (up1 b i) := by
  have hl := mergedL_length (a := a) hb
  have up_a : up1 b a = a := by unfold up1; rw [if_pos ha]
  have cT : ∀ x, c (up1 b (toM a b x)) = c x := fun x => by
    unfold toM
    split
    · rename_i e; rw [up_a, e, hc]
    · rename_i e; rw [up_dn e]
  have lT : ∀ x, x < r.length → toM a b x < r.length - 1 := fun x hx => by
    unfold toM
    split
    · omega
    · rename_i e; exact dn_lt e hb hx
  have uT : ∀ x, toM a b (up1 b x) = x := fun x => by
    unfold toM
    rw [if_neg (up1_ne _ _)]
    exact up_inj (up_dn (up1_ne _ _))
  have bT : ∀ x y, bitL r x y = true → toM a b x = toM a b y ∨ bitL (mergedL r a b) (toM a b x) (toM a b y) = true := fun x y hxy => by
    by_cases e : toM a b x = toM a b y
    · exact .inl e
    refine .inr ((bit_merged (lT x (hs.lt hxy))).2 ?_)
    by_cases hx : x = b
    · subst hx
      have ex : up1 x (toM a x x) = a := by unfold toM; rw [if_pos rfl, up_a]
      have hy : y ≠ x := fun h => e (by rw [h])
      have ey : up1 x (toM a x y) = y := by unfold toM; rw [if_neg hy, up_dn hy]
      rw [ex, ey]
      refine .inl ⟨rfl, .inr hxy, fun h => e ?_, hy⟩
      have : up1 x (toM a x x) = up1 x (toM a x y) := by rw [ex, ey, h]
      exact up_inj this
    · have ex : up1 b (toM a b x) = x := by unfold toM; rw [if_neg hx, up_dn hx]
      by_cases hy : y = b
      · subst hy
        have ey : up1 y (toM a y y) = a := by unfold toM; rw [if_pos rfl, up_a]
        rw [ex, ey]
        refine .inr ⟨fun h => e ?_, .inr ⟨hxy, rfl⟩⟩
        have : up1 y (toM a y x) = up1 y (toM a y y) := by rw [ex, ey, h]
        exact up_inj this
      · have ey : up1 b (toM a b y) = y := by unfold toM; rw [if_neg hy, up_dn hy]
        rw [ex, ey]
        by_cases hxa : x = a
        · subst hxa
          refine .inl ⟨rfl, .inl hxy, fun h => ?_, hy⟩
          rw [h, hs.irr] at hxy; cases hxy
        · exact .inr ⟨hxa, .inl hxy⟩
  refine ⟨fun i hi => ?_, fun i hi P hP hcl x hx hcx => ?_, fun q hq => ?_⟩
  · obtain ⟨x, h1, h2⟩ := h.some i hi
    exact ⟨toM a b x, by rw [hl]; exact lT x h1, by rw [cT]; exact h2⟩
  · have := h.conn i hi (fun x => P (toM a b x)) ?_ ?_ (up1 b x) (by rw [hl] at hx; exact up1_lt hx) hcx
    · rwa [uT] at this
    · obtain ⟨x, h1, h2, h3⟩ := hP
      exact ⟨up1 b x, by rw [hl] at h1; exact up1_lt h1, h2, by rw [uT]; exact h3⟩
    · intro x y cx cy hxy hPx
      rcases bT x y hxy with e | e
      · rw [← e]; exact hPx
      · exact hcl _ _ (by rw [cT]; exact cx) (by rw [cT]; exact cy) e hPx
  · obtain ⟨x, y, h1, h2, h3⟩ := h.meet q hq
    rcases bT x y h1 with e | e
    · exfalso
      have := cT x
      rw [e, cT, h2, h3] at this
      exact (hp q hq).2.2 this.symm
    · exact ⟨_, _, e, by rw [cT]; exact h2, by rw [cT]; exact h3⟩
/-- of m colours on n vertices: m at most; if just m, each vertex has one of its own -/
theorem color_cover {n m : Nat} {c : Nat → Nat} (h : ∀ i, i < m → ∃ x, x < n ∧ c x = i) : m ≤ n ∧ (m = n → ∀ x, x < n → c x < n ∧ ∀ y, y < n → c x = c y → x = y) := by
  obtain ⟨s, hs⟩ : ∃ s : Nat → Nat, ∀ i, i < m → s i < n ∧ c (s i) = i := ⟨fun i => if hi : i < m then Classical.choose (h i hi) else 0, fun i hi => by
    dsimp only
    rw [dif_pos hi]; exact Classical.choose_spec (h i hi)⟩
  have nd : ((List.range m).map s).Nodup := by
    refine List.pairwise_map.2 ((List.nodup_range (n := m)).imp_of_mem ?_)
    intro a b ha hb hne he
    refine hne ?_
    rw [← (hs a (List.mem_range.1 ha)).2, he, (hs b (List.mem_range.1 hb)).2]
  have sub : ∀ x ∈ (List.range m).map s, x ∈ List.range n := fun x hx => by
    obtain ⟨i, hi, rfl⟩ := List.mem_map.1 hx
    exact List.mem_range.2 (hs i (List.mem_range.1 hi)).1
  have hle := nodup_lenG nd sub
  rw [List.length_map, List.length_range, List.length_range] at hle
  refine ⟨hle, fun e x hx => ?_⟩
  have cov : ∀ x, x < n → ∃ i, i < m ∧ s i = x := fun x hx => Classical.byContradiction fun hn => by
    have : (x :: (List.range m).map s).Nodup := List.nodup_cons.2 ⟨fun hm => by
      obtain ⟨i, hi, e⟩ := List.mem_map.1 hm
      exact hn ⟨i, List.mem_range.1 hi, e⟩, nd⟩
    have := nodup_lenG this (fun y hy => by
      rcases List.mem_cons.1 hy with rfl | hy
      · exact List.mem_range.2 hx
      · exact sub y hy)
    simp at this
    omega
  obtain ⟨i, hi, rfl⟩ := cov x hx
  refine ⟨by rw [(hs i hi).2]; omega, fun y hy he => ?_⟩
  obtain ⟨j, hj, rfl⟩ := cov y hy
  rw [(hs i hi).2, (hs j hj).2] at he
  rw [he]
def patN (k : Int) : List (Nat × Nat) := (patG k).2.map fun q => (q.1.toNat, q.2.toNat)
theorem patN_one : sizeN 1 = 4 ∧ patN 1 = [(0, 1), (0, 2), (0, 3), (1, 2), (1, 3), (2, 3)] := by decide
theorem patN_two : sizeN 2 = 5 ∧ patN 2 = [(0, 2), (0, 3), (0, 4), (1, 2), (1, 3), (1, 4)] := by decide
theorem bit_or {r : List Nat} (hs : Sq r) {n i : Nat} (hl : r.length = n) (hi : i < n) (h : ∀ j, j < n → j ≠ i → bitL r i j = true) : r.getD i 0 ||| 2 ^ i = 2 ^ n - 1 := by
  apply Nat.eq_of_testBit_eq
  intro j
  rw [Nat.testBit_or, Nat.testBit_two_pow, Nat.testBit_two_pow_sub_one]
  by_cases hj : j < n
  · by_cases e : i = j
    · simp [e, hj]
    · have := h j hj (fun e2 => e e2.symm)
      unfold bitL at this
      rw [this]; simp [hj]
  · have : (r.getD i 0).testBit j = false := by
      cases hc : (r.getD i 0).testBit j with
      | false => rfl
      | true => exact absurd (hs.bnd i j hc) (by omega)
    rw [this]
    have : i ≠ j := by omega
    simp [this, hj]
theorem isB_of {r : List Nat} {p q : Nat} (h : ∀ j, j < 5 → j ≠ p → j ≠ q → bitL r p j = true ∧ bitL r q j = true) : isB r p q = true := by
  have key : ∀ x : Nat, (∀ j, j < 5 → j ≠ p → j ≠ q → x.testBit j = true) → x &&& offX 31 (2 ^ p ||| 2 ^ q) = offX 31 (2 ^ p ||| 2 ^ q) := fun x hx => by
    apply Nat.eq_of_testBit_eq
    intro j
    rw [Nat.testBit_and]
    cases hc : (offX 31 (2 ^ p ||| 2 ^ q)).testBit j with
    | false => simp
    | true =>
      obtain ⟨h1, h2, h3⟩ := (off2_bit _ _ _ _).1 hc
      have : j < 5 := by
        apply Classical.byContradiction
        intro hn
        have : (31 : Nat).testBit j = false := Nat.testBit_lt_two_pow (Nat.lt_of_lt_of_le (show 31 < 2 ^ 5 by omega) (Nat.pow_le_pow_right (by omega) (by omega)))
        rw [this] at h1; cases h1
      rw [hx j this h2 h3]; rfl
  unfold isB
  rw [key _ fun j h1 h2 h3 => (h j h1 h2 h3).1, key _ fun j h1 h2 h3 => (h j h1 h2 h3).2]
  simp
theorem mod_is {r : List Nat} {k : Int} {c : Nat → Nat} (hk : k = 1 ∨ k = 2) (hs : Sq r) (h : Mod r (sizeN k) (patN k) c) (hn : r.length = sizeN k) : isL r k = true := by
  obtain ⟨_, hcov0⟩ := color_cover (n := r.length) h.some
  have hcov := hcov0 hn.symm
  clear hcov0
  have pair : ∀ x y, x < r.length → y < r.length → (c x, c y) ∈ patN k ∨ (c y, c x) ∈ patN k → bitL r x y = true := fun x y hx hy hp => by
    rcases hp with hp | hp
    · obtain ⟨x', y', h1, h2, h3⟩ := h.meet _ hp
      rw [(hcov x hx).2 x' (hs.lt h1) h2.symm, (hcov y hy).2 y' (hs.bnd _ _ h1) h3.symm]; exact h1
    · obtain ⟨y', x', h1, h2, h3⟩ := h.meet _ hp
      rw [(hcov x hx).2 x' (hs.bnd _ _ h1) h3.symm, (hcov y hy).2 y' (hs.lt h1) h2.symm]; exact hs.sym _ _ h1
  rcases hk with rfl | rfl
  · obtain ⟨e1, e2⟩ := patN_one
    rw [e1] at hn
    rw [e2] at pair
    have adj : ∀ x y, x < 4 → y < 4 → y ≠ x → bitL r x y = true := fun x y hx hy hne => by
      refine pair x y (by omega) (by omega) ?_
      have a1 := (hcov x (by omega)).1
      have a2 := (hcov y (by omega)).1
      have a3 : c x ≠ c y := fun e => hne ((hcov x (by omega)).2 y (by omega) e).symm
      rw [hn] at a1 a2
      generalize c x = u at *
      generalize c y = v at *
      have : ∀ u : Fin 4, ∀ v : Fin 4, u.val ≠ v.val → (u.val, v.val) ∈ [(0, 1), (0, 2), (0, 3), (1, 2), (1, 3), (2, 3)] ∨ (v.val, u.val) ∈ [(0, 1), (0, 2), (0, 3), (1, 2), (1, 3), (2, 3)] := by decide
      exact this ⟨u, a1⟩ ⟨v, a2⟩ a3
    have b0 := bit_or hs hn (show 0 < 4 by omega) fun j hj hne => adj 0 j (by omega) hj hne
    have b1 := bit_or hs hn (show 1 < 4 by omega) fun j hj hne => adj 1 j (by omega) hj hne
    have b2 := bit_or hs hn (show 2 < 4 by omega) fun j hj hne => adj 2 j (by omega) hj hne
    have b3 := bit_or hs hn (show 3 < 4 by omega) fun j hj hne => adj 3 j (by omega) hj hne
    unfold isL
    rw [if_pos rfl]
    simp only [Nat.reducePow, Nat.reduceSub] at b0 b1 b2 b3
    rw [b0, b1, b2, b3]; rfl
  · obtain ⟨e1, e2⟩ := patN_two
    rw [e1] at hn
    rw [e2] at pair
    obtain ⟨p, hp, cp⟩ := h.some 0 (by rw [e1]; omega)
    obtain ⟨q, hq, cq⟩ := h.some 1 (by rw [e1]; omega)
    have hpq : p ≠ q := fun e => by rw [e, cq] at cp; cases cp
    have adj : ∀ j, j < 5 → j ≠ p → j ≠ q → bitL r p j = true ∧ bitL r q j = true := fun j hj h1 h2 => by
      have a1 := (hcov j (by omega)).1
      have a2 : c j ≠ 0 := fun e => h1 ((hcov j (by omega)).2 p hp (by rw [e, cp]))
      have a3 : c j ≠ 1 := fun e => h2 ((hcov j (by omega)).2 q hq (by rw [e, cq]))
      rw [hn] at a1
      have : ∀ u : Fin 5, u.val ≠ 0 → u.val ≠ 1 → (0, u.val) ∈ [(0, 2), (0, 3), (0, 4), (1, 2), (1, 3), (1, 4)] ∧ (1, u.val) ∈ [(0, 2), (0, 3), (0, 4), (1, 2), (1, 3), (1, 4)] := by decide
      obtain ⟨m1, m2⟩ := this ⟨c j, a1⟩ a2 a3
      exact ⟨pair p j hp (by omega) (.inl (by rw [cp]; exact m1)), pair q j hq (by omega) (.inl (by rw [cq]; exact m2))⟩
    unfold isL
    rw [if_neg (by decide), List.any_eq_true]
    by_cases hlt : q < p
    · refine ⟨p, List.mem_range.2 (by omega), List.any_eq_true.2 ⟨q, List.mem_range.2 hlt, isB_of adj⟩⟩
    · refine ⟨q, List.mem_range.2 (by omega), List.any_eq_true.2 ⟨p, List.mem_range.2 (by omega), isB_of fun j h1 h2 h3 => ⟨(adj j h1 h3 h2).2, (adj j h1 h3 h2).1⟩⟩⟩
theorem patN_ok {k : Int} (hk : k = 1 ∨ k = 2) : ∀ q ∈ patN k, q.1 < sizeN k ∧ q.2 < sizeN k ∧ q.1 ≠ q.2 := by
  rcases hk with rfl | rfl <;> decide
theorem comes_end {f : Nat} {r : List Nat} {k : Int} (h : r.length ≤ sizeN k) : comesL f r k = (decide (r.length = sizeN k) && isL r k) := by
  cases f with
  | zero => rfl
  | succ f => exact if_pos h
theorem two_same {n m : Nat} {c : Nat → Nat} (h : ∀ x, x < n → c x < m) (hn : m < n) : ∃ x y, x < n ∧ y < n ∧ x ≠ y ∧ c x = c y := Classical.byContradiction fun hc => by
  have nd : ((List.range n).map c).Nodup := by
    refine List.pairwise_map.2 ((List.nodup_range (n := n)).imp_of_mem ?_)
    intro a b ha hb hne he
    exact hc ⟨a, b, List.mem_range.1 ha, List.mem_range.1 hb, hne, he⟩
  have := nodup_lenG (m := List.range m) nd fun x hx => by
    obtain ⟨i, hi, rfl⟩ := List.mem_map.1 hx
    exact List.mem_range.2 (h i (List.mem_range.1 hi))
  simp at this
  omega
/-- where there is a model, one comes to the pattern -/
theorem mod_comes {k : Int} (hk : k = 1 ∨ k = 2) : ∀ (f : Nat) (r : List Nat) (c : Nat → Nat), r.length = f → Sq r → Mod r (sizeN k) (patN k) c → comesL f r k = true := by
  intro f
  induction f with
  | zero =>
    intro r c hl hs h
    have := (color_cover (n := r.length) h.some).1
    have hz : 0 < sizeN k := by rcases hk with rfl | rfl <;> decide
    omega
  | succ f ih =>
    intro r c hl hs h
    have hle := (color_cover (n := r.length) h.some).1
    by_cases hn : r.length ≤ sizeN k
    · rw [comes_end hn, mod_is hk hs h (by omega)]
      simp; omega
    show (if r.length ≤ sizeN k then _ else _) = true
    rw [if_neg hn, Bool.or_eq_true]
    by_cases hd : ∃ v, v < r.length ∧ sizeN k ≤ c v
    · obtain ⟨v, hv, hc⟩ := hd
      refine .inr (List.any_eq_true.2 ⟨v, List.mem_range.2 hv, ?_⟩)
      exact ih _ _ (by rw [lessL_length hv]; omega) (hs.less hv) (h.less (patN_ok hk) hv hc)
    · have hall : ∀ x, x < r.length → c x < sizeN k := fun x hx => Classical.byContradiction fun hn => hd ⟨x, hx, by omega⟩
      obtain ⟨x, y, hx, hy, hne, he⟩ := two_same hall (by omega)
      have edge : ∃ a b, c a = c b ∧ bitL r a b = true := Classical.byContradiction fun hno => by
        have := h.conn (c x) (hall x hx) (· = x) ⟨x, hx, rfl, rfl⟩ (fun u v hu hv huv _ => absurd ⟨u, v, by rw [hu, hv], huv⟩ hno) y hy he.symm
        exact hne this.symm
      obtain ⟨a, b, hab, hb⟩ := edge
      have go : ∀ a b, a < b → c a = c b → bitL r a b = true → (List.range r.length).any (fun a => (List.range r.length).any fun b => decide (a < b) && (bitL r a b && comesL f (mergedL r a b) k)) = true := fun a b hlt hc hb => by
        have h2 := hs.bnd _ _ hb
        refine List.any_eq_true.2 ⟨a, List.mem_range.2 (hs.lt hb), List.any_eq_true.2 ⟨b, List.mem_range.2 h2, ?_⟩⟩
        rw [hb, ih _ _ (by rw [mergedL_length h2]; omega) (hs.merged hlt h2) (h.merged hs (patN_ok hk) hlt h2 hc)]
        simp [hlt]
      have : a ≠ b := fun e => by rw [e, hs.irr] at hb; cases hb
      rcases Nat.lt_or_gt_of_ne this with hlt | hlt
      · exact .inl (go a b hlt hab hb)
      · exact .inl (go b a hlt hab.symm (hs.sym _ _ hb))
/-! #### rows of a graph -/
def rowStep (r : List Nat) (x : Ed) : List Nat := (r.set x.1.toNat (r.getD x.1.toNat 0 ||| 2 ^ x.2.toNat)).set x.2.toNat ((r.set x.1.toNat (r.getD x.1.toNat 0 ||| 2 ^ x.2.toNat)).getD x.2.toNat 0 ||| 2 ^ x.1.toNat)
def rowsL (n : Int) (E : List Ed) : List Nat := E.foldl rowStep (List.replicate n.toNat 0)
theorem rowStep_length (r : List Nat) (x : Ed) : (rowStep r x).length = r.length := by simp [rowStep]
theorem set_bit {r : List Nat} {i : Nat} (hi : i < r.length) (j a b : Nat) : bitL (r.set i (r.getD i 0 ||| 2 ^ j)) a b = (bitL r a b || (decide (a = i) && decide (b = j))) := by
  unfold bitL
  rw [List.getD_eq_getElem?_getD, List.getElem?_set]
  by_cases e : i = a
  · subst e
    rw [if_pos rfl, if_pos hi]
    show ((r.getD i 0 ||| 2 ^ j).testBit b) = _
    rw [Nat.testBit_or, Nat.testBit_two_pow, decide_eq_true rfl, Bool.true_and, decide_eq_decide.2 (show j = b ↔ b = j from ⟨Eq.symm, Eq.symm⟩)]
  · rw [if_neg e]
    have : ¬ a = i := fun h => e h.symm
    simp [this]
theorem rowStep_bit {r : List Nat} {x : Ed} {n : Int} (hl : r.length = n.toNat) (hx : okE n x) (a b : Nat) : bitL (rowStep r x) a b = (bitL r a b || (decide (a = x.1.toNat) && decide (b = x.2.toNat)) || (decide (a = x.2.toNat) && decide (b = x.1.toNat))) := by
  obtain ⟨h1, h2, h3⟩ := hx
  unfold rowStep
  rw [set_bit (by rw [List.length_set]; omega), set_bit (by omega)]
theorem rows_bit {n : Int} : ∀ (E : List Ed) (r : List Nat), r.length = n.toNat → (∀ x ∈ E, okE n x) → (E.foldl rowStep r).length = n.toNat ∧ ∀ a b : Nat, bitL (E.foldl rowStep r) a b = true ↔ bitL r a b = true ∨ adjE E a b := by
  intro E
  induction E with
  | nil => intro r hl _; exact ⟨hl, fun a b => by simp [adjE]⟩
  | cons x E ih =>
    intro r hl hE
    have hx := hE x (by simp)
    obtain ⟨i1, i2⟩ := ih (rowStep r x) (by rw [rowStep_length]; exact hl) fun y hy => hE y (by simp [hy])
    refine ⟨i1, fun a b => ?_⟩
    rw [List.foldl_cons, i2, rowStep_bit hl hx]
    obtain ⟨h1, h2, h3⟩ := hx
    obtain ⟨u, v⟩ := x
    dsimp only at h1 h2 h3
    simp only [Bool.or_eq_true, Bool.and_eq_true, decide_eq_true_eq, adjE, List.mem_cons, Prod.mk.injEq]
    constructor
    · rintro ((( h | ⟨e1, e2⟩) | ⟨e1, e2⟩) | h)
      · exact .inl h
      · exact .inr (.inl (.inl ⟨by omega, by omega⟩))
      · exact .inr (.inr (.inl ⟨by omega, by omega⟩))
      · rcases h with h | h
        · exact .inr (.inl (.inr h))
        · exact .inr (.inr (.inr h))
    · rintro (h | (⟨e1, e2⟩ | h) | (⟨e1, e2⟩ | h))
      · exact .inl (.inl (.inl h))
      · exact .inl (.inl (.inr ⟨by omega, by omega⟩))
      · exact .inr (.inl h)
      · exact .inl (.inr ⟨by omega, by omega⟩)
      · exact .inr (.inr h)
theorem rowsL_length {n : Int} {E : List Ed} (h : ∀ x ∈ E, okE n x) : (rowsL n E).length = n.toNat := (rows_bit E _ (by simp) h).1
theorem rowsL_bit {n : Int} {E : List Ed} (h : ∀ x ∈ E, okE n x) (a b : Nat) : bitL (rowsL n E) a b = true ↔ adjE E a b := by
  unfold rowsL
  rw [(rows_bit E _ (by simp) h).2]
  constructor
  · rintro (h | h)
    · exfalso
      unfold bitL at h
      rw [List.getD_eq_getElem?_getD, List.getElem?_replicate] at h
      split at h <;> simp at h
    · exact h
  · exact .inr
theorem adjE_range {n : Int} {E : List Ed} (h : ∀ x ∈ E, okE n x) {a b : Int} (ha : adjE E a b) : 0 ≤ a ∧ a < n ∧ 0 ≤ b ∧ b < n ∧ a ≠ b := by
  rcases ha with ha | ha
  · obtain ⟨h1, h2, h3⟩ := h _ ha
    dsimp only at h1 h2 h3; omega
  · obtain ⟨h1, h2, h3⟩ := h _ ha
    dsimp only at h1 h2 h3; omega
theorem rowsL_sq {n : Int} {E : List Ed} (h : ∀ x ∈ E, okE n x) : Sq (rowsL n E) := by
  refine ⟨fun a b hb => ?_, fun a b hb => ?_, fun a => ?_⟩
  · rw [rowsL_bit h] at hb
    have := adjE_range h hb
    rw [rowsL_length h]; omega
  · rw [rowsL_bit h] at hb ⊢
    exact hb.symm
  · cases hc : bitL (rowsL n E) a a with
    | false => rfl
    | true =>
      rw [rowsL_bit h] at hc
      have := adjE_range h hc
      omega
theorem rch_back {E : List Ed} {l : List Int} {P : Int → Prop} {s : Int} (hs : s ∈ l) (hc : ∀ u v, u ∈ l → v ∈ l → adjE E u v → P u → P v) : ∀ {v : Int}, Rch E l s v → v ∈ l ∧ (P v → P s) := by
  intro v hr
  induction hr with
  | base => exact ⟨hs, id⟩
  | @step u v hr ha hv ih => exact ⟨hv, fun hp => ih.2 (hc v u hv ih.1 ha.symm hp)⟩
theorem rch_forw {E : List Ed} {l : List Int} {P : Int → Prop} {s : Int} (hs : s ∈ l) (hp : P s) (hc : ∀ u v, u ∈ l → v ∈ l → adjE E u v → P u → P v) : ∀ {v : Int}, Rch E l s v → v ∈ l ∧ P v := by
  intro v hr
  induction hr with
  | base => exact ⟨hs, hp⟩
  | @step u v hr ha hv ih => exact ⟨hv, hc u v ih.1 hv ha ih.2⟩
theorem chk_mod {n : Int} {E : List Ed} {k : Int} {S : List (List Int)} (h : CheckP n E k S) : Mod (rowsL n E) (sizeN k) (patN k) fun x => S.findIdx fun l => l.elem (x : Int) := by
  obtain ⟨hR, hk0, hl, hW, hnd, hT⟩ := h
  have hE : ∀ x ∈ E, okE n x := fun x hx => hR.2.2.2.1 x hx
  have hb := rowsL_bit hE
  have hlen := rowsL_length hE
  have hSl : S.length = sizeN k := by unfold sizeN; omega
  have cx : ∀ (x : Nat) (i : Nat) (hi : i < S.length), (S.findIdx fun l => l.elem (x : Int)) = i ↔ (x : Int) ∈ S[i] := fun x i hi => by
    constructor
    · intro e
      have := List.findIdx_getElem (xs := S) (p := fun l => l.elem (x : Int)) (w := by omega)
      simp only [e] at this
      simpa using this
    · intro hm
      have hlt : (S.findIdx fun l => l.elem (x : Int)) < S.length := List.findIdx_lt_length_of_exists ⟨S[i], List.getElem_mem hi, by simpa using hm⟩
      have := List.findIdx_getElem (xs := S) (p := fun l => l.elem (x : Int)) (w := hlt)
      exact disj_at hnd (List.getElem?_eq_getElem hlt) (List.getElem?_eq_getElem hi) (by simpa using this) hm
  refine ⟨fun i hi => ?_, fun i hi P hP hcl x hx hcx => ?_, fun q hq => ?_⟩
  · have hi : i < S.length := by omega
    have hw := hW _ (List.getElem_mem hi)
    obtain ⟨v, hv⟩ := List.exists_mem_of_ne_nil _ hw.2.1
    have hvr := hw.2.2.2.1 v hv
    refine ⟨v.toNat, by rw [hlen]; omega, (cx _ i hi).2 ?_⟩
    rw [Int.toNat_of_nonneg hvr.1]; exact hv
  · have hi : i < S.length := by omega
    have hw := hW _ (List.getElem_mem hi)
    have hin : S[i].headD 0 ∈ S[i] := by
      cases hS : S[i] with
      | nil => exact absurd hS hw.2.1
      | cons a l => simp
    have hr0 := hw.2.2.2.1
    have hcl2 : ∀ u v, u ∈ S[i] → v ∈ S[i] → adjE E u v → P u.toNat → P v.toNat := fun u v hu hv ha hp => by
      have r1 := hr0 u hu
      have r2 := hr0 v hv
      have e1 := Int.toNat_of_nonneg r1.1
      have e2 := Int.toNat_of_nonneg r2.1
      refine hcl u.toNat v.toNat ((cx _ i hi).2 (by rw [e1]; exact hu)) ((cx _ i hi).2 (by rw [e2]; exact hv)) ((hb _ _).2 (by rw [e1, e2]; exact ha)) hp
    obtain ⟨y, hy, hcy, hPy⟩ := hP
    have hyS := (cx y i hi).1 hcy
    have hxS := (cx x i hi).1 hcx
    have hs := (rch_back (P := fun v => P v.toNat) hin hcl2 (hw.2.2.2.2 _ hyS)).2 (by simpa using hPy)
    have := (rch_forw (P := fun v => P v.toNat) hin hs hcl2 (hw.2.2.2.2 _ hxS)).2
    simpa using this
  · obtain ⟨p, hp, rfl⟩ := List.mem_map.1 hq
    have := hT p hp
    obtain ⟨_, _, _, h4⟩ := patG_ok k
    obtain ⟨q0, q1, q2⟩ := h4 p hp
    have i1 : p.1.toNat < S.length := by omega
    have i2 : p.2.toNat < S.length := by omega
    have s1 : setAt S p.1 = S[p.1.toNat] := by unfold setAt; rw [List.getD_eq_getElem?_getD, List.getElem?_eq_getElem i1]; rfl
    have s2 : setAt S p.2 = S[p.2.toNat] := by unfold setAt; rw [List.getD_eq_getElem?_getD, List.getElem?_eq_getElem i2]; rfl
    rw [s1, s2] at this
    obtain ⟨x, hx, ht⟩ := List.any_eq_true.1 this
    have e1 := Int.toNat_of_nonneg (hE x hx).1
    have e2 := Int.toNat_of_nonneg (show 0 ≤ x.2 by have := hE x hx; obtain ⟨a1, a2, a3⟩ := this; omega)
    simp only [Bool.or_eq_true, Bool.and_eq_true] at ht
    rcases ht with ⟨t1, t2⟩ | ⟨t1, t2⟩
    · refine ⟨x.1.toNat, x.2.toNat, (hb _ _).2 (by rw [e1, e2]; exact .inl hx), (cx _ _ i1).2 (by rw [e1]; simpa using t1), (cx _ _ i2).2 (by rw [e2]; simpa using t2)⟩
    · refine ⟨x.2.toNat, x.1.toNat, (hb _ _).2 (by rw [e1, e2]; exact .inr hx), (cx _ _ i1).2 (by rw [e2]; simpa using t2), (cx _ _ i2).2 (by rw [e1]; simpa using t1)⟩
/-- where there is a model, one comes to the pattern -/
theorem chk_has {n : Int} {E : List Ed} {k : Int} {S : List (List Int)} (h : CheckP n E k S) : hasL (rowsL n E) k = true := by
  have hk : k = 1 ∨ k = 2 := by
    rcases patG_cases k with ⟨h1, _⟩ | ⟨h1, _⟩ | ⟨_, _, e⟩
    · exact .inl h1
    · exact .inr h1
    · exact absurd (by rw [e]) h.2.1
  exact mod_comes hk _ _ _ rfl (rowsL_sq fun x hx => h.1.2.2.2.1 x hx) (chk_mod h)
end Go.Sh

set_option linter.unusedVariables false
set_option linter.unusedSimpArgs false
namespace Go.Sh
open Go.Proofs
/-! ### bits, as numbers -/
def borI (a b : Int) : Int := IntKind.wrap .i64 ((BitVec.ofInt (IntKind.bits .i64) a ||| BitVec.ofInt (IntKind.bits .i64) b).toNat : Int)
def boffI (a b : Int) : Int := IntKind.wrap .i64 ((BitVec.ofInt (IntKind.bits .i64) a &&& ~~~ BitVec.ofInt (IntKind.bits .i64) b).toNat : Int)
theorem wrap_nat {m : Nat} (h : m < 2 ^ 63) : IntKind.wrap .i64 (m : Int) = m := by
  have e : (m : Int) % 2 ^ 64 = m := by omega
  simp only [IntKind.wrap, IntKind.bits, IntKind.signed]
  refine (if_neg fun h => ?_).trans e
  simp at h
  omega
theorem ofInt_nat {m : Nat} (h : m < 2 ^ 63) : (BitVec.ofInt (IntKind.bits .i64) (m : Int)).toNat = m := by
  show (BitVec.ofInt 64 (m : Int)).toNat = m
  rw [BitVec.ofInt_natCast, BitVec.toNat_ofNat, Nat.mod_eq_of_lt (by omega)]
theorem and_nat {x y : Nat} (hx : x < 2 ^ 63) (hy : y < 2 ^ 63) : andI (x : Int) (y : Int) = ((x &&& y : Nat) : Int) := by
  unfold andI
  rw [BitVec.toNat_and, ofInt_nat hx, ofInt_nat hy, wrap_nat (Nat.lt_of_le_of_lt Nat.and_le_left hx)]
theorem or_nat {x y : Nat} (hx : x < 2 ^ 63) (hy : y < 2 ^ 63) : borI (x : Int) (y : Int) = ((x ||| y : Nat) : Int) := by
  unfold borI
  rw [BitVec.toNat_or, ofInt_nat hx, ofInt_nat hy, wrap_nat (Nat.or_lt_two_pow hx hy)]
theorem off_nat {x y : Nat} (hx : x < 2 ^ 63) (hy : y < 2 ^ 63) : boffI (x : Int) (y : Int) = ((offX x y : Nat) : Int) := by
  unfold boffI
  have e : (BitVec.ofInt (IntKind.bits .i64) (x : Int) &&& ~~~ BitVec.ofInt (IntKind.bits .i64) (y : Int)).toNat = offX x y := by
    apply Nat.eq_of_testBit_eq
    intro j
    rw [off_bit, BitVec.testBit_toNat, BitVec.getLsbD_and, BitVec.getLsbD_not, ← BitVec.testBit_toNat, ← BitVec.testBit_toNat, ofInt_nat hx, ofInt_nat hy]
    by_cases hj : j < 64
    · have : j < IntKind.bits .i64 := hj
      simp [this]
    · have : x.testBit j = false := Nat.testBit_lt_two_pow (Nat.lt_of_lt_of_le hx (Nat.pow_le_pow_right (by omega) (by omega)))
      rw [this]; simp
  rw [e, wrap_nat (Nat.lt_of_le_of_lt ?_ hx)]
  unfold offX
  apply Nat.le_of_testBit
  intro j hj
  rw [Nat.testBit_xor, Nat.testBit_and] at hj
  cases hc : x.testBit j with
  | true => rfl
  | false => rw [hc] at hj; simp at hj
theorem pow7 {v : Nat} (h : v ≤ 7) : 2 ^ v ≤ 128 := Nat.pow_le_pow_right (n := 2) (by omega) h
theorem powI (v : Nat) : (1 : Int) * 2 ^ ((v : Int)).toNat = ((2 ^ v : Nat) : Int) := by simp
theorem shrI (x v : Nat) : (x : Int).fdiv (2 ^ ((v : Int)).toNat) = ((x >>> v : Nat) : Int) := by
  rw [Int.toNat_natCast, Nat.shiftRight_eq_div_pow, Int.fdiv_eq_ediv_of_nonneg _ (by exact Int.le_of_lt (Int.pow_pos (by omega)))]
  simp
theorem shr_lt {x v : Nat} (h : x < 256) : x >>> v < 256 := by
  rw [Nat.shiftRight_eq_div_pow]
  exact Nat.lt_of_le_of_lt (Nat.div_le_self _ _) h
theorem inK_u64 {a : Int} (h0 : 0 ≤ a) (h : a < 9223372036854775808) : inK .u64 a = true := by
  rw [inK_iff]
  simp only [IntKind.wrap, IntKind.bits, IntKind.signed]
  simp
  omega
theorem bitI (x v : Nat) (h : x < 256) : (andI ((x : Int).fdiv (2 ^ ((v : Int)).toNat)) 1 == 1) = x.testBit v := by
  have := shr_lt (v := v) h
  rw [shrI, show (1 : Int) = ((1 : Nat) : Int) from rfl, and_nat (by omega) (by omega), Nat.testBit, Nat.and_comm]
  rcases Nat.mod_two_eq_zero_or_one (x >>> v) with e | e
  · rw [Nat.one_and_eq_mod_two, e]; rfl
  · rw [Nat.one_and_eq_mod_two, e]; rfl
def natL (r : List Nat) : List Int := List.map (fun n : Nat => (n : Int)) r
abbrev nats (r : List Nat) : Flat := ints (natL r)
theorem natL_inj {r s : List Nat} (h : natL r = natL s) : r = s := (List.map_inj_right fun a b e => by omega).1 h
theorem natL_length (r : List Nat) : (natL r).length = r.length := by simp [natL]
theorem nats_length (r : List Nat) : (nats r).length = r.length := by rw [ints_length, natL_length]
theorem nats_get {r : List Nat} {i : Nat} (h : i < r.length) : (nats r)[i]? = some [.i .i64 ((r.getD i 0 : Nat) : Int)] := by
  refine ints_get ?_
  simp [natL, List.getElem?_eq_getElem h]
theorem nats_snoc (r : List Nat) (x : Nat) : nats (r ++ [x]) = nats r ++ [[.i .i64 (x : Int)]] := by simp [nats, natL, ints]
theorem nats_set (r : List Nat) (i x : Nat) : nats (r.set i x) = (nats r).set i [.i .i64 (x : Int)] := by simp [nats, natL, ints, List.map_set]
theorem getD_lt {r : List Nat} {m : Nat} (h : ∀ x ∈ r, x < m) (hm : 0 < m) (i : Nat) : r.getD i 0 < m := by
  by_cases hi : i < r.length
  · rw [List.getD_eq_getElem?_getD, List.getElem?_eq_getElem hi]; exact h _ (List.getElem_mem hi)
  · rw [getD_out hi]; exact hm
/-- small rows of bits -/
def Byt (r : List Nat) : Prop := r.length ≤ 8 ∧ ∀ x ∈ r, x < 256
theorem lessX_lt {x v : Nat} (h : x < 256) : lessX x v < 256 := by
  apply Nat.lt_pow_two_of_testBit (n := 8)
  intro i hi
  rw [lessX_bit]
  exact Nat.testBit_lt_two_pow (Nat.lt_of_lt_of_le (show x < 2 ^ 8 by omega) (Nat.pow_le_pow_right (by omega) (by unfold up1; split <;> omega)))
theorem mergeX_lt {r : List Nat} (h : Byt r) {a b i x : Nat} (ha : a < 8) (hx : x < 256) : mergeX r a b i x < 256 := by
  have h1 := getD_lt h.2 (by omega) a
  have h2 := getD_lt h.2 (by omega) b
  unfold mergeX
  split
  · apply Nat.lt_pow_two_of_testBit (n := 8)
    intro i hi
    rw [off_bit, Nat.testBit_lt_two_pow (Nat.lt_of_lt_of_le (Nat.or_lt_two_pow (n := 8) h1 h2) (Nat.pow_le_pow_right (by omega) hi))]
    rfl
  · split
    · exact Nat.or_lt_two_pow (n := 8) hx (Nat.pow_lt_pow_right (by omega) ha)
    · exact hx
theorem Byt.less {r : List Nat} (h : Byt r) {v : Nat} (hv : v < r.length) : Byt (lessL r v) := by
  refine ⟨by have := lessL_length hv; have := h.1; omega, fun x hx => ?_⟩
  obtain ⟨y, hy, rfl⟩ := List.mem_map.1 hx
  exact lessX_lt (h.2 y (List.mem_of_mem_eraseIdx hy))
theorem Byt.merge {r : List Nat} (h : Byt r) {a b : Nat} (ha : a < r.length) : Byt (mergeL r a b) := by
  refine ⟨by rw [mergeL_length]; exact h.1, fun x hx => ?_⟩
  obtain ⟨i, hi, rfl⟩ := List.mem_map.1 hx
  exact mergeX_lt h (by have := h.1; omega) (getD_lt h.2 (by omega) i)
theorem Byt.merged {r : List Nat} (h : Byt r) {a b : Nat} (ha : a < r.length) (hb : b < r.length) : Byt (mergedL r a b) := (h.merge ha).less (by rw [mergeL_length]; exact hb)
/-! ### carcanetref08.less -/
noncomputable def Less8C : Con := conP 2 (fun a : List Nat × Nat => Byt a.1 ∧ a.2 < a.1.length) (fun a => [.one (.flat false 1 (nats a.1)), .one (.s (.i .i64 (a.2 : Nat)))]) (fun a => .one (.flat true 1 (nats (lessL a.1 a.2))))
theorem Less8C_at {r : List Nat} {v : Nat} (h : Byt r ∧ v < r.length) : Less8C.F [.one (.flat false 1 (nats r)), .one (.s (.i .i64 (v : Nat)))] = some (.one (.flat true 1 (nats (lessL r v))), []) :=
  conP_at (a := (r, v)) (fun a b _ _ h => by
    obtain ⟨r, v⟩ := a
    obtain ⟨r', v'⟩ := b
    simp at h
    obtain ⟨h1, h2⟩ := h
    rw [natL_inj (ints_inj h1), show v = v' by omega]) h
theorem lessI {x v : Nat} (hx : x < 256) (hv : v < 8) : borI (andI (x : Int) (1 * 2 ^ ((v : Int)).toNat - 1)) ((x : Int).fdiv (2 ^ ((v : Int) + 1).toNat) * 2 ^ ((v : Int)).toNat) = ((lessX x v : Nat) : Int) := by
  have h1 := pow7 (show v ≤ 7 by omega)
  have h2 := Nat.pow_pos (n := v) (show 0 < 2 by omega)
  have h3 := shr_lt (v := v + 1) hx
  have e1 : (1 * 2 ^ ((v : Int)).toNat - 1 : Int) = ((2 ^ v - 1 : Nat) : Int) := by rw [powI]; omega
  have e2 : (x : Int).fdiv (2 ^ ((v : Int) + 1).toNat) = ((x >>> (v + 1) : Nat) : Int) := shrI x (v + 1)
  have e3 : ((x >>> (v + 1) : Nat) : Int) * 2 ^ ((v : Int)).toNat = (((x >>> (v + 1)) <<< v : Nat) : Int) := by rw [Nat.shiftLeft_eq]; simp
  have h4 : (x >>> (v + 1)) <<< v < 2 ^ 63 := by
    rw [Nat.shiftLeft_eq]
    exact Nat.lt_of_le_of_lt (Nat.mul_le_mul (Nat.le_of_lt h3) h1) (by decide)
  rw [e1, e2, e3, and_nat (by omega) (by omega), or_nat (Nat.lt_of_le_of_lt Nat.and_le_left (by omega)) h4]
  rfl
theorem less_take {r : List Nat} {v k : Nat} (hk : k < r.length) : ((r.take (k + 1)).eraseIdx v).map (lessX · v) = ((r.take k).eraseIdx v).map (lessX · v) ++ (if k = v then [] else [lessX (r.getD k 0) v]) := by
  rw [List.take_succ_eq_append_getElem hk]
  have hg : r.getD k 0 = r[k] := by rw [List.getD_eq_getElem?_getD, List.getElem?_eq_getElem hk]; rfl
  have hl : (r.take k).length = k := by rw [List.length_take]; omega
  by_cases h : v < k
  · rw [List.eraseIdx_append_of_lt_length (by omega), if_neg (by omega), hg]; simp
  · rw [List.eraseIdx_append_of_length_le (by omega), hl]
    have e : (r.take k).eraseIdx v = r.take k := List.eraseIdx_of_length_le (by omega)
    rw [e]
    by_cases h2 : k = v
    · subst h2; simp
    · rw [if_neg h2, hg]
      have : v - k = (v - k - 1) + 1 := by omega
      rw [this, List.eraseIdx_cons_succ, List.eraseIdx_nil, List.map_append]; rfl
set_option maxHeartbeats 1000000 in
theorem Less8_ok : SoundC Try.prog T 105 Less8C := by
  refine sound_con (X := { Γ := [], T := T, nt := 44 }) cr_none hmix hT sound_nil Try.func105 (by rfl) (by rfl) (by rfl) (by rfl) 2 ?_
  rintro ⟨r, v⟩ ⟨⟨hl, hb⟩, hv⟩
  dsimp only at hl hb hv ⊢
  refine ⟨⟨Nat.le_of_ble_eq_true rfl, Nat.le_of_ble_eq_true rfl⟩, ?_⟩
  have hP := pow7 (show v ≤ 7 by omega)
  have hP0 := Nat.pow_pos (n := v) (show 0 < 2 by omega)
  refine LoopP.intro (α := Nat) (fun k => k ≤ r.length) (fun k => r.length - k) (fun k => [(0, .sl 0 none none), (1, .s (.i .i64 (v : Nat))), (5, .sl 1 none none), (6, .s (.i .i64 k))])
    (fun k => [(0, some (.flat false 1 (nats r))), (1, some (.flat true 1 (nats (((r.take k).eraseIdx v).map (lessX · v)))))]) 2 0 (by omega) (by refine Weak.by [(0, some _), (1, some _)] (by ((repeat' first | exact rfl | exact trivial | refine And.intro ?_ ?_) <;> (repeat' first | exact rfl | exact trivial | refine And.intro ?_ ?_)); all_goals ((rw [show (r.take 0).eraseIdx v = [] by simp]; rfl))) (by ((repeat' first | exact rfl | exact trivial | refine And.intro ?_ ?_) <;> (repeat' first | exact rfl | exact trivial | refine And.intro ?_ ?_)); all_goals ((rw [show (r.take 0).eraseIdx v = [] by simp]; rfl))) (by rfl)) ?_
  rintro k hk
  refine Pick.by (fun hc => ?_) (fun hc => ?_)
  · have hlt : k < r.length := by rw [nats_length] at hc; simpa using hc
    have hx := getD_lt hb (by omega) k
    have hst := less_take (v := v) hlt
    refine Pick.by (fun h1 => ?_) (fun h1 => ?_)
    · have h1 : k ≠ v := by simp at h1; omega
      rw [if_neg h1] at hst
      refine Idx.by k rfl (by rw [nats_length]; exact hlt) ?_
      refine Look.by _ (nats_get hlt) ?_
      refine Pick.T (inK_u64 (by omega) (by omega)) ?_
      refine Pick.T (by simp; omega) ?_
      refine Pick.T (by rw [powI]; exact inI64_of (by omega) (by omega)) ?_
      refine Pick.T (by rw [powI]; exact inI64_of (by omega) (by omega)) ?_
      refine Idx.by k rfl (by rw [nats_length]; exact hlt) ?_
      refine Look.by _ (nats_get hlt) ?_
      refine Pick.T (inI64_of (by omega) (by omega)) ?_
      refine Pick.T (inK_u64 (by omega) (by omega)) ?_
      refine Pick.T (by simp; omega) ?_
      refine Pick.T (inK_u64 (by omega) (by omega)) ?_
      refine Pick.T (by simp; omega) ?_
      refine Pick.T (by
        rw [show ((r.getD k 0 : Nat) : Int).fdiv (2 ^ ((v : Int) + 1).toNat) = ((r.getD k 0 >>> (v + 1) : Nat) : Int) from shrI _ (v + 1)]
        have h3 := shr_lt (v := v + 1) hx
        have : (((r.getD k 0 >>> (v + 1) : Nat) : Int)) * 2 ^ ((v : Int)).toNat = (((r.getD k 0 >>> (v + 1)) * 2 ^ v : Nat) : Int) := by simp
        rw [this]
        have := Nat.mul_le_mul (Nat.le_of_lt h3) hP
        exact inI64_of (by omega) (by omega)) ?_
      refine Pick.T (by simp [cut, ints_length, natL_length, List.length_eraseIdx]; split <;> omega) ?_
      refine Pick.T (inI64_of (by omega) (by omega)) ?_
      refine Next.by (k + 1) (by omega) (by omega) (by refine Weak.by [(0, some _), (1, some _)] (by ((repeat' first | exact rfl | exact trivial | refine And.intro ?_ ?_) <;> (repeat' first | exact rfl | exact trivial | refine And.intro ?_ ?_)); all_goals ((rw [hst, nats_snoc, ← lessI hx (show v < 8 by omega)]; rfl))) (by ((repeat' first | exact rfl | exact trivial | refine And.intro ?_ ?_) <;> (repeat' first | exact rfl | exact trivial | refine And.intro ?_ ?_)); all_goals ((rw [hst, nats_snoc, ← lessI hx (show v < 8 by omega)]; rfl))) (by rfl))
    · have h1 : k = v := by simp at h1; omega
      rw [if_pos h1, List.append_nil] at hst
      refine Pick.T (inI64_of (by omega) (by omega)) ?_
      refine Next.by (k + 1) (by omega) (by omega) (by refine Weak.by [(0, some _), (1, some _)] (by ((repeat' first | exact rfl | exact trivial | refine And.intro ?_ ?_) <;> (repeat' first | exact rfl | exact trivial | refine And.intro ?_ ?_)); all_goals ((rw [hst]))) (by ((repeat' first | exact rfl | exact trivial | refine And.intro ?_ ?_) <;> (repeat' first | exact rfl | exact trivial | refine And.intro ?_ ?_)); all_goals ((rw [hst]))) (by rfl))
  · have hge : r.length ≤ k := by rw [nats_length] at hc; simpa using hc
    rw [List.take_of_length_le hge]
    exact ⟨rfl, rfl, rfl⟩
/-! ### carcanetref08.merged -/
noncomputable def Merged8C : Con := conP 3 (fun a : List Nat × Nat × Nat => Byt a.1 ∧ a.2.1 < a.1.length ∧ a.2.2 < a.1.length) (fun a => [.one (.flat false 1 (nats a.1)), .one (.s (.i .i64 (a.2.1 : Nat))), .one (.s (.i .i64 (a.2.2 : Nat)))]) (fun a => .one (.flat true 1 (nats (mergedL a.1 a.2.1 a.2.2))))
theorem Merged8C_at {r : List Nat} {a b : Nat} (h : Byt r ∧ a < r.length ∧ b < r.length) : Merged8C.F [.one (.flat false 1 (nats r)), .one (.s (.i .i64 (a : Nat))), .one (.s (.i .i64 (b : Nat)))] = some (.one (.flat true 1 (nats (mergedL r a b))), []) :=
  conP_at (a := (r, a, b)) (fun x y _ _ h => by
    obtain ⟨r, a, b⟩ := x
    obtain ⟨r', a', b'⟩ := y
    simp at h
    obtain ⟨h1, h2, h3⟩ := h
    rw [natL_inj (ints_inj h1), show a = a' by omega, show b = b' by omega]) h
def mrgK (r : List Nat) (a b k : Nat) : List Nat := (List.range r.length).map fun i => if i = a ∨ i < k then mergeX r a b i (r.getD i 0) else r.getD i 0
theorem mrgK_length (r : List Nat) (a b k : Nat) : (mrgK r a b k).length = r.length := by simp [mrgK]
theorem mrgK_get {r : List Nat} {a b k i : Nat} (h : i < r.length) : (mrgK r a b k)[i]? = some (if i = a ∨ i < k then mergeX r a b i (r.getD i 0) else r.getD i 0) := by
  unfold mrgK
  rw [List.getElem?_map, List.getElem?_range h]; rfl
theorem mrgK_all (r : List Nat) (a b : Nat) {k : Nat} (h : r.length ≤ k) : mrgK r a b k = mergeL r a b := by
  unfold mrgK mergeL
  refine List.map_congr_left fun i hi => ?_
  rw [if_pos (.inr (by have := List.mem_range.1 hi; omega))]
theorem mrgK_zero {r : List Nat} {a b : Nat} (ha : a < r.length) : mrgK r a b 0 = r.set a (offX (r.getD a 0 ||| r.getD b 0) (2 ^ a ||| 2 ^ b)) := by
  apply List.ext_getElem?
  intro i
  rw [List.getElem?_set]
  by_cases hi : i < r.length
  · rw [mrgK_get hi]
    by_cases e : a = i
    · subst e
      rw [if_pos (.inl rfl), if_pos rfl, if_pos hi]
      unfold mergeX
      rw [if_pos rfl]
    · rw [if_neg (by omega), if_neg e, List.getD_eq_getElem?_getD, List.getElem?_eq_getElem hi]; rfl
  · rw [List.getElem?_eq_none (by rw [mrgK_length]; omega), if_neg (by omega), List.getElem?_eq_none (by omega)]
theorem mrgK_put {r : List Nat} {a b k : Nat} (hk : k < r.length) (ha : k ≠ a) (hb : (r.getD k 0).testBit b = true) : mrgK r a b (k + 1) = (mrgK r a b k).set k (r.getD k 0 ||| 2 ^ a) := by
  apply List.ext_getElem?
  intro i
  rw [List.getElem?_set]
  by_cases hi : i < r.length
  · rw [mrgK_get hi]
    by_cases e : k = i
    · subst e
      rw [if_pos (.inr (by omega)), if_pos rfl, if_pos (by rw [mrgK_length]; exact hi)]
      unfold mergeX
      rw [if_neg ha, if_pos hb]
    · rw [if_neg e, mrgK_get hi]
      by_cases h2 : i = a ∨ i < k
      · rw [if_pos h2, if_pos (by omega)]
      · rw [if_neg h2, if_neg (by omega)]
  · rw [List.getElem?_eq_none (by rw [mrgK_length]; omega), if_neg (by omega), List.getElem?_eq_none (by rw [mrgK_length]; omega)]
theorem mrgK_keep {r : List Nat} {a b k : Nat} (h : k = a ∨ (r.getD k 0).testBit b = false) : mrgK r a b (k + 1) = mrgK r a b k := by
  unfold mrgK
  refine List.map_congr_left fun i hi => ?_
  by_cases h2 : i = a ∨ i < k
  · rw [if_pos h2, if_pos (by omega)]
  · rw [if_neg h2]
    by_cases e : i = k
    · subst e
      rw [if_pos (.inr (by omega))]
      have h1 : i ≠ a := by omega
      have h2 : (r.getD i 0).testBit b = false := by rcases h with h | h; · exact absurd h h1
                                                     · exact h
      unfold mergeX
      rw [if_neg h1, if_neg (by rw [h2]; simp)]
    · rw [if_neg (by omega)]
theorem mrgK_getD {r : List Nat} {a b k : Nat} (hk : k < r.length) (ha : k ≠ a) : (mrgK r a b k).getD k 0 = r.getD k 0 := by
  rw [List.getD_eq_getElem?_getD, mrgK_get hk, if_neg (by omega)]; rfl
theorem one_shl {v : Nat} (h : v < 8) : inI64 (1 * 2 ^ ((v : Int)).toNat) = true := by
  have := pow7 (show v ≤ 7 by omega)
  rw [powI]
  generalize 2 ^ v = m at *
  exact inI64_of (by omega) (by omega)
theorem or2_lt {a b : Nat} (ha : a < 8) (hb : b < 8) : (2 ^ a ||| 2 ^ b : Nat) < 256 := Nat.or_lt_two_pow (n := 8) (Nat.pow_lt_pow_right (by omega) ha) (Nat.pow_lt_pow_right (by omega) hb)
theorem headI {x y a b : Nat} (hx : x < 256) (hy : y < 256) (ha : a < 8) (hb : b < 8) : boffI (borI (x : Int) (y : Int)) (borI (1 * 2 ^ ((a : Int)).toNat) (1 * 2 ^ ((b : Int)).toNat)) = ((offX (x ||| y) (2 ^ a ||| 2 ^ b) : Nat) : Int) := by
  have h1 := pow7 (show a ≤ 7 by omega)
  have h2 := pow7 (show b ≤ 7 by omega)
  have h3 := or2_lt ha hb
  have h4 : (x ||| y : Nat) < 256 := Nat.or_lt_two_pow (n := 8) hx hy
  rw [powI, powI, or_nat (by omega) (by omega), or_nat (by omega) (by omega), off_nat (by omega) (by omega)]
theorem orbI {x a : Nat} (hx : x < 256) (ha : a < 8) : borI (x : Int) (1 * 2 ^ ((a : Int)).toNat) = ((x ||| 2 ^ a : Nat) : Int) := by
  have h1 := pow7 (show a ≤ 7 by omega)
  rw [powI, or_nat (by omega) (by omega)]
set_option maxHeartbeats 1000000 in
theorem Merged8_ok : SoundC Try.prog T 104 Merged8C := by
  refine sound_con (X := { Γ := [(105, Less8C)], T := T, nt := 66 }) cr_none hmix hT (sound_cons Less8_ok sound_nil) Try.func104 (by rfl) (by rfl) (by rfl) (by rfl) 3 ?_
  rintro ⟨r, a, b⟩ ⟨hB, ha, hb⟩
  dsimp only at hB ha hb ⊢
  have hl := hB.1
  have hra := getD_lt hB.2 (show 0 < 256 by omega) a
  have hrb := getD_lt hB.2 (show 0 < 256 by omega) b
  refine ⟨⟨Nat.le_of_ble_eq_true rfl, Nat.le_of_ble_eq_true rfl⟩, ?_⟩
  refine Pick.T (by simp [cut, ints_length, natL_length]; omega) ?_
  refine Idx.by a rfl (by rw [nats_length]; exact ha) ?_
  refine Look.by _ (nats_get ha) ?_
  refine Idx.by b rfl (by rw [nats_length]; exact hb) ?_
  refine Look.by _ (nats_get hb) ?_
  refine Pick.T (inK_u64 (by omega) (by omega)) ?_
  refine Pick.T (by simp; omega) ?_
  refine Pick.T (one_shl (by omega)) ?_
  refine Pick.T (inK_u64 (by omega) (by omega)) ?_
  refine Pick.T (by simp; omega) ?_
  refine Pick.T (one_shl (by omega)) ?_
  refine Idx.by a rfl (by simp [cut, ints_length, natL_length]; omega) ?_
  refine Look.by _ (by show (nats r)[a]? = _; exact nats_get ha) ?_
  refine Seg.by (by kernel_rfl) ?_
  refine LoopP.intro (α := Nat) (fun k => k ≤ r.length) (fun k => r.length - k) (fun k => [(0, .sl 0 none none), (1, .s (.i .i64 (a : Nat))), (2, .s (.i .i64 (b : Nat))), (7, .sl 1 none none), (8, .s (.i .i64 k))])
    (fun k => [(0, some (.flat false 1 (nats r))), (1, some (.flat true 1 (nats (mrgK r a b k))))]) 2 0 (by omega) (by refine Weak.by [(0, some _), (1, some _)] (by ((repeat' first | exact rfl | exact trivial | refine And.intro ?_ ?_) <;> (repeat' first | exact rfl | exact trivial | refine And.intro ?_ ?_)); all_goals ((rw [mrgK_zero ha, nats_set, ← headI hra hrb (by omega) (by omega)]; rfl))) (by ((repeat' first | exact rfl | exact trivial | refine And.intro ?_ ?_) <;> (repeat' first | exact rfl | exact trivial | refine And.intro ?_ ?_)); all_goals ((rw [mrgK_zero ha, nats_set, ← headI hra hrb (by omega) (by omega)]; rfl))) (by rfl)) ?_
  rintro k hk
  refine Pick.by (fun hc => ?_) (fun hc => ?_)
  · have hlt : k < r.length := by rw [nats_length] at hc; simpa using hc
    have hx := getD_lt hB.2 (show 0 < 256 by omega) k
    have skip : k = a ∨ (r.getD k 0).testBit b = false → mrgK r a b (k + 1) = mrgK r a b k := mrgK_keep
    refine Pick.by (fun h1 => ?_) (fun h1 => ?_)
    · have h1 : k ≠ a := by simp at h1; omega
      refine Idx.by k rfl (by rw [nats_length]; exact hlt) ?_
      refine Look.by _ (nats_get hlt) ?_
      refine Pick.T (inK_u64 (by omega) (by omega)) ?_
      refine Pick.T (by simp; omega) ?_
      refine Pick.by (fun h2 => ?_) (fun h2 => ?_)
      · have h2 : (r.getD k 0).testBit b = true := by rw [← bitI _ _ hx]; exact h2
        refine Idx.by k rfl (by rw [nats_length, mrgK_length]; exact hlt) ?_
        refine Look.by _ (nats_get (by rw [mrgK_length]; exact hlt)) ?_
        refine Pick.T (inK_u64 (by omega) (by omega)) ?_
        refine Pick.T (by simp; omega) ?_
        refine Pick.T (one_shl (by omega)) ?_
        refine Idx.by k rfl (by rw [nats_length, mrgK_length]; exact hlt) ?_
        refine Look.by _ (nats_get (by rw [mrgK_length]; exact hlt)) ?_
        refine Pick.T (inI64_of (by omega) (by omega)) ?_
        refine Next.by (k + 1) (by omega) (by omega) (by refine Weak.by [(0, some _), (1, some _)] (by ((repeat' first | exact rfl | exact trivial | refine And.intro ?_ ?_) <;> (repeat' first | exact rfl | exact trivial | refine And.intro ?_ ?_)); all_goals ((rw [mrgK_put hlt h1 h2, nats_set, ← orbI hx (show a < 8 by omega), ← mrgK_getD (a := a) (b := b) (k := k) hlt h1]; rfl))) (by ((repeat' first | exact rfl | exact trivial | refine And.intro ?_ ?_) <;> (repeat' first | exact rfl | exact trivial | refine And.intro ?_ ?_)); all_goals ((rw [mrgK_put hlt h1 h2, nats_set, ← orbI hx (show a < 8 by omega), ← mrgK_getD (a := a) (b := b) (k := k) hlt h1]; rfl))) (by rfl))
      · have h2 : (r.getD k 0).testBit b = false := by rw [← bitI _ _ hx]; exact h2
        refine Pick.T (inI64_of (by omega) (by omega)) ?_
        refine Next.by (k + 1) (by omega) (by omega) (by refine Weak.by [(0, some _), (1, some _)] (by ((repeat' first | exact rfl | exact trivial | refine And.intro ?_ ?_) <;> (repeat' first | exact rfl | exact trivial | refine And.intro ?_ ?_)); all_goals ((rw [skip (.inr h2)]))) (by ((repeat' first | exact rfl | exact trivial | refine And.intro ?_ ?_) <;> (repeat' first | exact rfl | exact trivial | refine And.intro ?_ ?_)); all_goals ((rw [skip (.inr h2)]))) (by rfl))
    · have h1 : k = a := by simp at h1; omega
      refine Pick.T (inI64_of (by omega) (by omega)) ?_
      refine Next.by (k + 1) (by omega) (by omega) (by refine Weak.by [(0, some _), (1, some _)] (by ((repeat' first | exact rfl | exact trivial | refine And.intro ?_ ?_) <;> (repeat' first | exact rfl | exact trivial | refine And.intro ?_ ?_)); all_goals ((rw [skip (.inl h1)]))) (by ((repeat' first | exact rfl | exact trivial | refine And.intro ?_ ?_) <;> (repeat' first | exact rfl | exact trivial | refine And.intro ?_ ?_)); all_goals ((rw [skip (.inl h1)]))) (by rfl))
  · have hge : r.length ≤ k := by rw [nats_length] at hc; simpa using hc
    rw [mrgK_all r a b hge]
    refine Call.by _ _ (Less8C_at ⟨hB.merge ha, by rw [mergeL_length]; exact hb⟩) ?_
    exact ⟨rfl, rfl, rfl⟩
/-! ### carcanetref08.is -/
noncomputable def Is8C : Con := conP 2 (fun a : List Nat × Int => Byt a.1 ∧ (a.2 = 1 ∧ a.1.length = 4 ∨ a.2 = 2 ∧ a.1.length = 5)) (fun a => [.one (.flat false 1 (nats a.1)), .one (.s (.i .i64 a.2))]) (fun a => .one (.s (.b (isL a.1 a.2))))
theorem Is8C_at {r : List Nat} {k : Int} (h : Byt r ∧ (k = 1 ∧ r.length = 4 ∨ k = 2 ∧ r.length = 5)) : Is8C.F [.one (.flat false 1 (nats r)), .one (.s (.i .i64 k))] = some (.one (.s (.b (isL r k))), []) :=
  conP_at (a := (r, k)) (fun x y _ _ h => by
    obtain ⟨r, a⟩ := x
    obtain ⟨r', a'⟩ := y
    simp at h
    obtain ⟨h1, h2⟩ := h
    rw [natL_inj (ints_inj h1), h2]) h
theorem eqI {x y : Nat} : ((x : Int) == (y : Int)) = (x == y) := by
  rw [Bool.eq_iff_iff]
  simp
  omega
theorem or15 {x c : Nat} (hx : x < 256) (hc : c < 256) : (borI (x : Int) (c : Int) == 15) = ((x ||| c) == 15) := by
  rw [or_nat (by omega) (by omega)]
  exact eqI (y := 15)
theorem bothI {p q : Nat} (hp : p < 8) (hq : q < 8) : boffI 31 (borI (1 * 2 ^ ((p : Int)).toNat) (1 * 2 ^ ((q : Int)).toNat)) = ((offX 31 (2 ^ p ||| 2 ^ q) : Nat) : Int) := by
  have h3 := or2_lt hp hq
  have h1 := pow7 (show p ≤ 7 by omega)
  have h2 := pow7 (show q ≤ 7 by omega)
  rw [powI, powI, or_nat (by omega) (by omega)]
  exact off_nat (x := 31) (by omega) (by omega)
theorem off31_lt (m : Nat) : offX 31 m < 32 := by
  apply Nat.lt_pow_two_of_testBit (n := 5)
  intro i hi
  rw [off_bit, Nat.testBit_lt_two_pow (Nat.lt_of_lt_of_le (show 31 < 2 ^ 5 by omega) (Nat.pow_le_pow_right (by omega) hi))]
  rfl
theorem maskI {x p q : Nat} (hx : x < 256) (hp : p < 8) (hq : q < 8) : (andI (x : Int) (boffI 31 (borI (1 * 2 ^ ((p : Int)).toNat) (1 * 2 ^ ((q : Int)).toNat))) == boffI 31 (borI (1 * 2 ^ ((p : Int)).toNat) (1 * 2 ^ ((q : Int)).toNat))) = ((x &&& offX 31 (2 ^ p ||| 2 ^ q)) == offX 31 (2 ^ p ||| 2 ^ q)) := by
  have := off31_lt (2 ^ p ||| 2 ^ q)
  rw [bothI hp hq, and_nat (by omega) (by omega)]
  exact eqI
set_option maxHeartbeats 1000000 in
theorem Is8_ok : SoundC Try.prog T 103 Is8C := by
  refine sound_con (X := { Γ := [], T := T, nt := 71 }) cr_none hmix hT sound_nil Try.func103 (by rfl) (by rfl) (by rfl) (by rfl) 2 ?_
  rintro ⟨r, k⟩ ⟨hB, hk⟩
  dsimp only at hB hk ⊢
  have hx : ∀ i, r.getD i 0 < 256 := fun i => getD_lt hB.2 (show 0 < 256 by omega) i
  refine ⟨⟨Nat.le_of_ble_eq_true rfl, Nat.le_of_ble_eq_true rfl⟩, ?_⟩
  refine Pick.by (fun h1 => ?_) (fun h1 => ?_)
  · have h1 : k = 1 := by simpa using h1
    have hl : r.length = 4 := by omega
    subst h1
    have e : isL r 1 = ((r.getD 0 0 ||| 1 == 15) && (r.getD 1 0 ||| 2 == 15) && (r.getD 2 0 ||| 4 == 15) && (r.getD 3 0 ||| 8 == 15)) := if_pos rfl
    rw [e]
    have o0 := or15 (c := 1) (hx 0) (by omega)
    have o1 := or15 (c := 2) (hx 1) (by omega)
    have o2 := or15 (c := 4) (hx 2) (by omega)
    have o3 := or15 (c := 8) (hx 3) (by omega)
    rw [← o0, ← o1, ← o2, ← o3]
    refine Idx.by 0 rfl (by rw [nats_length]; omega) ?_
    refine Look.by _ (nats_get (by omega)) ?_
    refine Pick.by (fun h0 => ?_) (fun h0 => ?_)
    · refine Idx.by 1 rfl (by rw [nats_length]; omega) ?_
      refine Look.by _ (nats_get (by omega)) ?_
      have h0' : (borI ((r.getD 0 0 : Nat) : Int) ((1 : Nat) : Int) == 15) = true := h0
      rw [h0']
      refine Pick.by (fun h1 => ?_) (fun h1 => ?_)
      · refine Idx.by 2 rfl (by rw [nats_length]; omega) ?_
        refine Look.by _ (nats_get (by omega)) ?_
        have h1' : (borI ((r.getD 1 0 : Nat) : Int) ((2 : Nat) : Int) == 15) = true := h1
        rw [h1']
        refine Pick.by (fun h2 => ?_) (fun h2 => ?_)
        · refine Idx.by 3 rfl (by rw [nats_length]; omega) ?_
          refine Look.by _ (nats_get (by omega)) ?_
          have h2' : (borI ((r.getD 2 0 : Nat) : Int) ((4 : Nat) : Int) == 15) = true := h2
          rw [h2']
          exact ⟨rfl, rfl⟩
        · have h2' : (borI ((r.getD 2 0 : Nat) : Int) ((4 : Nat) : Int) == 15) = false := h2
          rw [h2']
          exact ⟨rfl, rfl⟩
      · have h1' : (borI ((r.getD 1 0 : Nat) : Int) ((2 : Nat) : Int) == 15) = false := h1
        rw [h1']
        exact ⟨rfl, rfl⟩
    · have h0' : (borI ((r.getD 0 0 : Nat) : Int) ((1 : Nat) : Int) == 15) = false := h0
      rw [h0']
      exact ⟨rfl, rfl⟩
  have h1 : ¬ k = 1 := by simpa using h1
  have hk2 : k = 2 := by omega
  have hl : r.length = 5 := by omega
  have e : isL r k = (List.range 5).any fun p => (List.range p).any fun q => isB r p q := if_neg h1
  have yes : ∀ p q, p < 5 → q < p → isB r p q = true → isL r k = true := fun p q hp hq h => by
    rw [e]
    exact List.any_eq_true.2 ⟨p, List.mem_range.2 hp, List.any_eq_true.2 ⟨q, List.mem_range.2 hq, h⟩⟩
  refine LoopP.intro (α := Nat) (fun p => p ≤ 5 ∧ ∀ p' q', p' < p → q' < p' → isB r p' q' = false) (fun p => 5 - p) (fun p => [(0, .sl 0 none none), (5, .s (.i .i64 p))])
    (fun p => [(0, some (.flat false 1 (nats r)))]) 1 0 ⟨by omega, by intros; omega⟩ (by refine Weak.by [(0, some _)] (by ((repeat' first | exact rfl | exact trivial | refine And.intro ?_ ?_) <;> (repeat' first | exact rfl | exact trivial | refine And.intro ?_ ?_))) (by ((repeat' first | exact rfl | exact trivial | refine And.intro ?_ ?_) <;> (repeat' first | exact rfl | exact trivial | refine And.intro ?_ ?_))) (by rfl)) ?_
  rintro p ⟨hp, hno⟩
  refine Pick.by (fun hc => ?_) (fun hc => ?_)
  · have hp5 : p < 5 := by simp at hc; omega
    refine LoopP.intro (α := Nat) (fun q => q ≤ p ∧ ∀ q', q' < q → isB r p q' = false) (fun q => p - q) (fun q => [(0, .sl 0 none none), (5, .s (.i .i64 p)), (6, .s (.i .i64 q))])
      (fun q => [(0, some (.flat false 1 (nats r)))]) 1 0 ⟨by omega, by intros; omega⟩ (by refine Weak.by [(0, some _)] (by ((repeat' first | exact rfl | exact trivial | refine And.intro ?_ ?_) <;> (repeat' first | exact rfl | exact trivial | refine And.intro ?_ ?_))) (by ((repeat' first | exact rfl | exact trivial | refine And.intro ?_ ?_) <;> (repeat' first | exact rfl | exact trivial | refine And.intro ?_ ?_))) (by rfl)) ?_
    rintro q ⟨hq, hno2⟩
    refine Pick.by (fun hc2 => ?_) (fun hc2 => ?_)
    · have hqp : q < p := by simp at hc2; omega
      refine Pick.T (inK_u64 (by omega) (by omega)) ?_
      refine Pick.T (by simp; omega) ?_
      refine Pick.T (one_shl (by omega)) ?_
      refine Pick.T (inK_u64 (by omega) (by omega)) ?_
      refine Pick.T (by simp; omega) ?_
      refine Pick.T (one_shl (by omega)) ?_
      refine Idx.by p rfl (by rw [nats_length]; omega) ?_
      refine Look.by _ (nats_get (by omega)) ?_
      have m1 := maskI (p := p) (q := q) (hx p) (by omega) (by omega)
      have m2 := maskI (p := p) (q := q) (hx q) (by omega) (by omega)
      have hB2 : isB r p q = (((r.getD p 0 &&& offX 31 (2 ^ p ||| 2 ^ q)) == offX 31 (2 ^ p ||| 2 ^ q)) && ((r.getD q 0 &&& offX 31 (2 ^ p ||| 2 ^ q)) == offX 31 (2 ^ p ||| 2 ^ q))) := rfl
      have next : isB r p q = false → ∀ q', q' < q + 1 → isB r p q' = false := fun h q' hq' => by
        by_cases e : q' = q
        · rw [e]; exact h
        · exact hno2 q' (by omega)
      refine Pick.by (fun h3 => ?_) (fun h3 => ?_)
      · rw [m1.symm.trans h3] at hB2
        refine Idx.by q rfl (by rw [nats_length]; omega) ?_
        refine Look.by _ (nats_get (by omega)) ?_
        refine Pick.by (fun h4 => ?_) (fun h4 => ?_)
        · rw [m2.symm.trans h4] at hB2
          refine ⟨rfl, ?_⟩
          show Sc.b true = Sc.b (isL r k)
          rw [yes p q hp5 hqp hB2]
        · rw [m2.symm.trans h4] at hB2
          refine Pick.T (inI64_of (by omega) (by omega)) ?_
          refine Next.by (q + 1) ⟨by omega, next hB2⟩ (by omega) (by refine Weak.by [(0, some _)] (by ((repeat' first | exact rfl | exact trivial | refine And.intro ?_ ?_) <;> (repeat' first | exact rfl | exact trivial | refine And.intro ?_ ?_))) (by ((repeat' first | exact rfl | exact trivial | refine And.intro ?_ ?_) <;> (repeat' first | exact rfl | exact trivial | refine And.intro ?_ ?_))) (by rfl))
      · rw [m1.symm.trans h3] at hB2
        refine Pick.T (inI64_of (by omega) (by omega)) ?_
        refine Next.by (q + 1) ⟨by omega, next hB2⟩ (by omega) (by refine Weak.by [(0, some _)] (by ((repeat' first | exact rfl | exact trivial | refine And.intro ?_ ?_) <;> (repeat' first | exact rfl | exact trivial | refine And.intro ?_ ?_))) (by ((repeat' first | exact rfl | exact trivial | refine And.intro ?_ ?_) <;> (repeat' first | exact rfl | exact trivial | refine And.intro ?_ ?_))) (by rfl))
    · have hqp : p ≤ q := by simp at hc2; omega
      refine Pick.T (inI64_of (by omega) (by omega)) ?_
      refine Next.by (p + 1) ⟨by omega, fun p' q' h1 h2 => ?_⟩ (by omega) (by refine Weak.by [(0, some _)] (by ((repeat' first | exact rfl | exact trivial | refine And.intro ?_ ?_) <;> (repeat' first | exact rfl | exact trivial | refine And.intro ?_ ?_))) (by ((repeat' first | exact rfl | exact trivial | refine And.intro ?_ ?_) <;> (repeat' first | exact rfl | exact trivial | refine And.intro ?_ ?_))) (by rfl))
      by_cases e : p' = p
      · subst e; exact hno2 q' (by omega)
      · exact hno p' q' (by omega) h2
  · have hp5 : 5 ≤ p := by simp at hc; omega
    refine ⟨rfl, ?_⟩
    show Sc.b false = Sc.b (isL r k)
    congr 1
    rw [e]
    symm
    rw [List.any_eq_false]
    intro p' hp'
    rw [Bool.not_eq_true, List.any_eq_false]
    intro q' hq'
    rw [hno p' q' (by have := List.mem_range.1 hp'; omega) (List.mem_range.1 hq')]
    simp
end Go.Sh

set_option linter.unusedVariables false
set_option linter.unusedSimpArgs false
namespace Go.Sh
open Go.Proofs
/-! ### carcanetref08.Rows -/
noncomputable def Rows8C : Con := conP 2 (fun a : Int × List Ed => RightP a.1 a.2 ∧ a.1 ≤ 8) (fun a => [grV a.1 a.2]) (fun a => .one (.flat true 1 (nats (rowsL a.1 a.2))))
theorem Rows8C_at {n : Int} {E : List Ed} (h : RightP n E ∧ n ≤ 8) : Rows8C.F [grV n E] = some (.one (.flat true 1 (nats (rowsL n E))), []) :=
  conP_at (a := (n, E)) (fun x y _ _ h => by
    obtain ⟨n, E⟩ := x
    obtain ⟨n', E'⟩ := y
    simp at h
    obtain ⟨rfl, rfl⟩ := grV_inj h
    rfl) h
theorem rows_byt {n : Int} {E : List Ed} (hR : RightP n E) (h8 : n ≤ 8) : Byt (rowsL n E) := by
  have hE : ∀ x ∈ E, okE n x := fun x hx => hR.2.2.2.1 x hx
  have hl := rowsL_length hE
  have hs := rowsL_sq hE
  refine ⟨by omega, fun x hx => ?_⟩
  obtain ⟨i, hi, rfl⟩ := List.mem_iff_getElem.1 hx
  apply Nat.lt_pow_two_of_testBit (n := 8)
  intro j hj
  cases hc : (rowsL n E)[i].testBit j with
  | false => rfl
  | true =>
    have : bitL (rowsL n E) i j = true := by
      unfold bitL
      rw [List.getD_eq_getElem?_getD, List.getElem?_eq_getElem hi]; exact hc
    have := hs.bnd _ _ this
    omega
theorem rows_take_byt {n : Int} {E : List Ed} (hR : RightP n E) (h8 : n ≤ 8) (k : Nat) : Byt ((E.take k).foldl rowStep (List.replicate n.toNat 0)) := rows_byt (right_take hR k) h8
set_option maxHeartbeats 1000000 in
theorem Rows8_ok : SoundC Try.prog T 81 Rows8C := by
  refine sound_con (X := { Γ := [], T := T, nt := 52 }) cr_none hmix hT sound_nil Try.func81 (by rfl) (by rfl) (by rfl) (by rfl) 2 ?_
  rintro ⟨n, E⟩ ⟨hR, h8⟩
  dsimp only at hR h8 ⊢
  have hn0 := hR.1
  have hE4 := hR.2.2.1
  refine ⟨⟨Nat.le_of_ble_eq_true rfl, Nat.le_of_ble_eq_true rfl⟩, ?_⟩
  refine Pick.T (by simp) ?_
  refine Idx.by n.toNat (by omega) (by omega) ?_
  refine LoopP.intro (α := Nat) (fun k => k ≤ E.length) (fun k => E.length - k) (fun k => [(1, .ptr 0 0), (3, .sl 2 none none), (4, .s (.i .i64 k))])
    (fun k => [(0, some (.blk [.s (.i .i64 n), .sl 1 none none])), (1, some (.flat false 2 (edges E))), (2, some (.flat true 1 (nats ((E.take k).foldl rowStep (List.replicate n.toNat 0)))))]) 3 0 (by omega) (by refine Weak.by [(0, some _), (1, some _), (2, some _)] (by ((repeat' first | exact rfl | exact trivial | refine And.intro ?_ ?_) <;> (repeat' first | exact rfl | exact trivial | refine And.intro ?_ ?_)); all_goals ((rw [List.take_zero, List.foldl_nil, show nats (List.replicate n.toNat 0) = List.replicate n.toNat [.i .i64 0] by simp [nats, natL, ints]]))) (by ((repeat' first | exact rfl | exact trivial | refine And.intro ?_ ?_) <;> (repeat' first | exact rfl | exact trivial | refine And.intro ?_ ?_)); all_goals ((rw [List.take_zero, List.foldl_nil, show nats (List.replicate n.toNat 0) = List.replicate n.toNat [.i .i64 0] by simp [nats, natL, ints]]))) (by rfl)) ?_
  rintro k hk
  have hB := rows_take_byt hR h8 k
  have hlen : ((E.take k).foldl rowStep (List.replicate n.toNat 0)).length = n.toNat := (rows_bit _ _ (by simp) fun x hx => hR.2.2.2.1 x (List.mem_of_mem_take hx)).1
  refine Pick.by (fun hc => ?_) (fun hc => ?_)
  · have hlt : k < E.length := by simpa [edges_length] using hc
    have hst : (E.take (k + 1)).foldl rowStep (List.replicate n.toNat 0) = rowStep ((E.take k).foldl rowStep (List.replicate n.toNat 0)) E[k] := by rw [List.take_succ_eq_append_getElem hlt, List.foldl_append]; rfl
    obtain ⟨o1, o2, o3⟩ := hR.2.2.2.1 _ (List.getElem_mem hlt)
    have hget := edges_get (List.getElem?_eq_getElem hlt)
    obtain ⟨a, ha⟩ : ∃ a : Nat, E[k].1 = a := ⟨E[k].1.toNat, by omega⟩
    obtain ⟨b, hb⟩ : ∃ b : Nat, E[k].2 = b := ⟨E[k].2.toNat, by omega⟩
    rw [ha, hb] at hget
    have hst2 : rowStep ((E.take k).foldl rowStep (List.replicate n.toNat 0)) E[k] = (((E.take k).foldl rowStep (List.replicate n.toNat 0)).set a (((E.take k).foldl rowStep (List.replicate n.toNat 0)).getD a 0 ||| 2 ^ b)).set b ((((E.take k).foldl rowStep (List.replicate n.toNat 0)).set a (((E.take k).foldl rowStep (List.replicate n.toNat 0)).getD a 0 ||| 2 ^ b)).getD b 0 ||| 2 ^ a) := by
      unfold rowStep; rw [ha, hb]; rfl
    rw [hst2] at hst
    generalize (E.take k).foldl rowStep (List.replicate n.toNat 0) = r at *
    have hx := getD_lt hB.2 (show 0 < 256 by omega) a
    have hs256 : (r.getD a 0 ||| 2 ^ b : Nat) < 256 := Nat.or_lt_two_pow (n := 8) hx (Nat.pow_lt_pow_right (by omega) (by omega))
    have hy : (r.set a (r.getD a 0 ||| 2 ^ b)).getD b 0 < 256 := getD_lt (fun x hx => by
      rcases List.mem_or_eq_of_mem_set hx with h | h
      · exact hB.2 x h
      · rw [h]; exact hs256) (by omega) b
    have hset : nats (r.set a (r.getD a 0 ||| 2 ^ b)) = (nats r).set a [.i .i64 (borI ((r.getD a 0 : Nat) : Int) (1 * 2 ^ ((b : Int)).toNat))] := by
      rw [nats_set, orbI hx (by omega)]
    refine Idx.by k rfl (by rw [edges_length]; exact hlt) ?_
    refine Look.by _ hget ?_
    refine Idx.by k rfl (by rw [edges_length]; exact hlt) ?_
    refine Look.by _ hget ?_
    refine Idx.by a rfl (by rw [nats_length]; omega) ?_
    refine Look.by _ (nats_get (by omega)) ?_
    refine Pick.T (inK_u64 (by omega) (by omega)) ?_
    refine Pick.T (by simp; omega) ?_
    refine Pick.T (one_shl (by omega)) ?_
    refine Idx.by a rfl (by rw [nats_length]; omega) ?_
    refine Look.by _ (nats_get (by omega)) ?_
    refine Idx.by b rfl (by simp [ints_length, natL_length]; omega) ?_
    refine Look.by _ (by show ((nats r).set a [.i .i64 (borI ((r.getD a 0 : Nat) : Int) (1 * 2 ^ ((b : Int)).toNat))])[b]? = _; rw [← hset]; exact nats_get (by rw [List.length_set]; omega)) ?_
    refine Pick.T (inK_u64 (by omega) (by omega)) ?_
    refine Pick.T (by simp; omega) ?_
    refine Pick.T (one_shl (by omega)) ?_
    refine Idx.by b rfl (by simp [ints_length, natL_length]; omega) ?_
    refine Look.by _ (by show ((nats r).set a [.i .i64 (borI ((r.getD a 0 : Nat) : Int) (1 * 2 ^ ((b : Int)).toNat))])[b]? = _; rw [← hset]; exact nats_get (by rw [List.length_set]; omega)) ?_
    refine Pick.T (inI64_of (by omega) (by omega)) ?_
    refine Next.by (k + 1) (by omega) (by omega) (by refine Weak.by [(0, some _), (1, some _), (2, some _)] (by ((repeat' first | exact rfl | exact trivial | refine And.intro ?_ ?_) <;> (repeat' first | exact rfl | exact trivial | refine And.intro ?_ ?_)); all_goals ((rw [hst, nats_set, hset, ← orbI hy (show a < 8 by omega)]; rfl))) (by ((repeat' first | exact rfl | exact trivial | refine And.intro ?_ ?_) <;> (repeat' first | exact rfl | exact trivial | refine And.intro ?_ ?_)); all_goals ((rw [hst, nats_set, hset, ← orbI hy (show a < 8 by omega)]; rfl))) (by rfl))
  · have hge : E.length ≤ k := by simpa [edges_length] using hc
    rw [List.take_of_length_le hge]
    exact ⟨rfl, rfl, rfl⟩
/-! ### carcanetref08.comes -/
theorem size_pos {k : Int} (hk : k = 1 ∨ k = 2) : ((sizeN k : Nat) : Int) = (patG k).1 := by rcases hk with rfl | rfl <;> decide
noncomputable def Comes8C (m : Nat) : Con := conP 2 (fun a : List Nat × Int => Byt a.1 ∧ a.1.length ≤ m ∧ (a.2 = 1 ∨ a.2 = 2)) (fun a => [.one (.flat false 1 (nats a.1)), .one (.s (.i .i64 a.2))]) (fun a => .one (.s (.b (hasL a.1 a.2))))
theorem Comes8C_at {m : Nat} {r : List Nat} {k : Int} (h : Byt r ∧ r.length ≤ m ∧ (k = 1 ∨ k = 2)) : (Comes8C m).F [.one (.flat false 1 (nats r)), .one (.s (.i .i64 k))] = some (.one (.s (.b (hasL r k))), []) :=
  conP_at (a := (r, k)) (fun x y _ _ h => by
    obtain ⟨r, a⟩ := x
    obtain ⟨r', a'⟩ := y
    simp at h
    obtain ⟨h1, h2⟩ := h
    rw [natL_inj (ints_inj h1), h2]) h
theorem has_small {r : List Nat} {k : Int} (h : r.length ≤ sizeN k) : hasL r k = (decide (r.length = sizeN k) && isL r k) := comes_end h
theorem has_step {r : List Nat} {k : Int} (h : sizeN k < r.length) : hasL r k = (((List.range r.length).any fun a => (List.range r.length).any fun b => decide (a < b) && (bitL r a b && hasL (mergedL r a b) k)) || (List.range r.length).any fun v => hasL (lessL r v) k) := by
  obtain ⟨f, hf⟩ : ∃ f, r.length = f + 1 := ⟨r.length - 1, by omega⟩
  have e : hasL r k = (((List.range r.length).any fun a => (List.range r.length).any fun b => decide (a < b) && (bitL r a b && comesL f (mergedL r a b) k)) || (List.range r.length).any fun v => comesL f (lessL r v) k) := by
    unfold hasL
    rw [hf]
    show (if r.length ≤ sizeN k then _ else _) = _
    rw [if_neg (by omega), hf]
  rw [e]
  congr 1
  · rw [Bool.eq_iff_iff, List.any_eq_true, List.any_eq_true]
    have : ∀ a, (∃ b ∈ List.range r.length, (decide (a < b) && (bitL r a b && comesL f (mergedL r a b) k)) = true) ↔ (∃ b ∈ List.range r.length, (decide (a < b) && (bitL r a b && hasL (mergedL r a b) k)) = true) := fun a => by
      refine exists_congr fun b => and_congr_right fun hb => ?_
      rw [hasL, mergedL_length (List.mem_range.1 hb), hf]; rfl
    refine exists_congr fun a => and_congr_right fun ha => ?_
    rw [List.any_eq_true, List.any_eq_true]
    exact this a
  · rw [Bool.eq_iff_iff, List.any_eq_true, List.any_eq_true]
    refine exists_congr fun v => and_congr_right fun hv => ?_
    rw [hasL, lessL_length (List.mem_range.1 hv), hf]; rfl
set_option maxHeartbeats 2000000 in
theorem Comes8_ok : ∀ m : Nat, SoundC Try.prog T 80 (Comes8C m) := by
  intro m
  induction m with
  | zero =>
    refine sound_con (X := { Γ := [(76, SizeC)], T := T, nt := 63 }) cr_none hmix hT (sound_cons Size_ok sound_nil) Try.func80 (by rfl) (by rfl) (by rfl) (by rfl) 2 ?_
    rintro ⟨r, k⟩ ⟨hB, hm, hk⟩
    dsimp only at hB hm hk ⊢
    have hz := size_pos hk
    have hz0 : 0 < sizeN k := by rcases hk with rfl | rfl <;> decide
    refine ⟨⟨Nat.le_of_ble_eq_true rfl, Nat.le_of_ble_eq_true rfl⟩, ?_⟩
    refine Call.by _ _ (SizeC_at k) ?_
    refine Pick.T (by simp [ints_length, natL_length]; omega) ?_
    refine Call.by _ _ (SizeC_at k) ?_
    refine Pick.F (by simp [ints_length, natL_length]; omega) ?_
    refine ⟨rfl, ?_⟩
    show Sc.b false = Sc.b (hasL r k)
    rw [has_small (by omega), decide_eq_false (by omega)]; rfl
  | succ m ih =>
    refine sound_con (X := { Γ := [(76, SizeC), (103, Is8C), (104, Merged8C), (105, Less8C), (80, Comes8C m)], T := T, nt := 63 }) cr_none hmix hT (sound_cons Size_ok (sound_cons Is8_ok (sound_cons Merged8_ok (sound_cons Less8_ok (sound_cons ih sound_nil))))) Try.func80 (by rfl) (by rfl) (by rfl) (by rfl) 2 ?_
    rintro ⟨r, k⟩ ⟨hB, hm, hk⟩
    dsimp only at hB hm hk ⊢
    have hz := size_pos hk
    have hl8 := hB.1
    refine ⟨⟨Nat.le_of_ble_eq_true rfl, Nat.le_of_ble_eq_true rfl⟩, ?_⟩
    refine Call.by _ _ (SizeC_at k) ?_
    refine Pick.by (fun hc => ?_) (fun hc => ?_)
    · have hle : r.length ≤ sizeN k := by rw [nats_length] at hc; have hc : decide ((r.length : Int) ≤ (patG k).1) = true := hc; have := of_decide_eq_true hc; omega
      rw [has_small hle]
      refine Call.by _ _ (SizeC_at k) ?_
      refine Pick.by (fun h2 => ?_) (fun h2 => ?_)
      · have h2 : r.length = sizeN k := by rw [nats_length] at h2; have h2 : ((r.length : Int) == (patG k).1) = true := h2; have := eq_of_beq h2; omega
        refine Call.by _ _ (Is8C_at ⟨hB, hk.elim (fun e => .inl ⟨e, by rw [h2, e]; decide⟩) fun e => .inr ⟨e, by rw [h2, e]; decide⟩⟩) ?_
        refine ⟨rfl, ?_⟩
        show Sc.b (isL r k) = Sc.b _
        rw [decide_eq_true h2, Bool.true_and]
      · have h2 : ¬ r.length = sizeN k := by rw [nats_length] at h2; have h2 : ((r.length : Int) == (patG k).1) = false := h2; intro e; simp at h2; omega
        refine ⟨rfl, ?_⟩
        show Sc.b false = Sc.b _
        rw [decide_eq_false h2, Bool.false_and]
    have hgt : sizeN k < r.length := by rw [nats_length] at hc; have hc : decide ((r.length : Int) ≤ (patG k).1) = false := hc; have := of_decide_eq_false hc; omega
    have hst := has_step hgt
    have yes1 : ∀ a b, a < b → b < r.length → bitL r a b = true → hasL (mergedL r a b) k = true → Sc.b true = Sc.b (hasL r k) := fun a b h1 h2 h3 h4 => by
      rw [hst]
      have : (List.range r.length).any (fun a => (List.range r.length).any fun b => decide (a < b) && (bitL r a b && hasL (mergedL r a b) k)) = true := List.any_eq_true.2 ⟨a, List.mem_range.2 (by omega), List.any_eq_true.2 ⟨b, List.mem_range.2 h2, by rw [h3, h4]; simp [h1]⟩⟩
      rw [this]; rfl
    have yes2 : ∀ v, v < r.length → hasL (lessL r v) k = true → Sc.b true = Sc.b (hasL r k) := fun v h1 h2 => by
      rw [hst]
      have : (List.range r.length).any (fun v => hasL (lessL r v) k) = true := List.any_eq_true.2 ⟨v, List.mem_range.2 h1, h2⟩
      rw [this, Bool.or_true]
    refine LoopP.intro (α := Nat) (fun a => a ≤ r.length ∧ ∀ a' b', a' < a → a' < b' → b' < r.length → bitL r a' b' = true → hasL (mergedL r a' b') k = false) (fun a => r.length - a) (fun a => [(0, .sl 0 none none), (1, .s (.i .i64 k)), (5, .s (.i .i64 (nats r).length)), (6, .s (.i .i64 a))])
      (fun a => [(0, some (.flat false 1 (nats r)))]) 1 0 ⟨by omega, by intros; omega⟩ (by refine Weak.by [(0, some _)] (by ((repeat' first | exact rfl | exact trivial | refine And.intro ?_ ?_) <;> (repeat' first | exact rfl | exact trivial | refine And.intro ?_ ?_))) (by ((repeat' first | exact rfl | exact trivial | refine And.intro ?_ ?_) <;> (repeat' first | exact rfl | exact trivial | refine And.intro ?_ ?_))) (by rfl)) ?_
    rintro a ⟨ha, hno⟩
    refine Pick.by (fun hc => ?_) (fun hc => ?_)
    · have hlt : a < r.length := by rw [nats_length] at hc; simpa using hc
      refine Pick.T (inI64_of (by omega) (by omega)) ?_
      refine LoopP.intro (α := Nat) (fun b => a < b ∧ b ≤ r.length ∧ ∀ b', a < b' → b' < b → bitL r a b' = true → hasL (mergedL r a b') k = false) (fun b => r.length - b) (fun b => [(0, .sl 0 none none), (1, .s (.i .i64 k)), (5, .s (.i .i64 (nats r).length)), (6, .s (.i .i64 a)), (7, .s (.i .i64 b))])
        (fun b => [(0, some (.flat false 1 (nats r)))]) 1 (a + 1) ⟨by omega, by omega, by intros; omega⟩ (by refine Weak.by [(0, some _)] (by ((repeat' first | exact rfl | exact trivial | refine And.intro ?_ ?_) <;> (repeat' first | exact rfl | exact trivial | refine And.intro ?_ ?_))) (by ((repeat' first | exact rfl | exact trivial | refine And.intro ?_ ?_) <;> (repeat' first | exact rfl | exact trivial | refine And.intro ?_ ?_))) (by rfl)) ?_
      rintro b ⟨hab, hb, hno2⟩
      refine Pick.by (fun hc2 => ?_) (fun hc2 => ?_)
      · have hblt : b < r.length := by rw [nats_length] at hc2; simpa using hc2
        have hx := getD_lt hB.2 (show 0 < 256 by omega) a
        have next : (bitL r a b = true → hasL (mergedL r a b) k = false) → ∀ b', a < b' → b' < b + 1 → bitL r a b' = true → hasL (mergedL r a b') k = false := fun h b' h1 h2 => by
          by_cases e : b' = b
          · rw [e]; exact h
          · exact hno2 b' h1 (by omega)
        refine Idx.by a rfl (by rw [nats_length]; exact hlt) ?_
        refine Look.by _ (nats_get hlt) ?_
        refine Pick.T (inK_u64 (by omega) (by omega)) ?_
        refine Pick.T (by simp; omega) ?_
        have hbit := bitI (r.getD a 0) b hx
        refine Pick.by (fun h3 => ?_) (fun h3 => ?_)
        · have h3 : bitL r a b = true := hbit.symm.trans h3
          refine Call.by _ _ (Merged8C_at ⟨hB, hlt, hblt⟩) ?_
          refine Call.by _ _ (Comes8C_at ⟨hB.merged hlt hblt, by rw [mergedL_length hblt]; omega, hk⟩) ?_
          refine Pick.by (fun h4 => ?_) (fun h4 => ?_)
          · exact ⟨rfl, yes1 a b hab hblt h3 h4⟩
          · have h4 : hasL (mergedL r a b) k = false := h4
            refine Pick.T (inI64_of (by omega) (by omega)) ?_
            refine Next.by (b + 1) ⟨by omega, by omega, next fun _ => h4⟩ (by omega) (by refine Weak.by [(0, some _)] (by ((repeat' first | exact rfl | exact trivial | refine And.intro ?_ ?_) <;> (repeat' first | exact rfl | exact trivial | refine And.intro ?_ ?_))) (by ((repeat' first | exact rfl | exact trivial | refine And.intro ?_ ?_) <;> (repeat' first | exact rfl | exact trivial | refine And.intro ?_ ?_))) (by rfl))
        · have h3 : bitL r a b = false := hbit.symm.trans h3
          refine Pick.T (inI64_of (by omega) (by omega)) ?_
          refine Next.by (b + 1) ⟨by omega, by omega, next fun h => by rw [h3] at h; cases h⟩ (by omega) (by refine Weak.by [(0, some _)] (by ((repeat' first | exact rfl | exact trivial | refine And.intro ?_ ?_) <;> (repeat' first | exact rfl | exact trivial | refine And.intro ?_ ?_))) (by ((repeat' first | exact rfl | exact trivial | refine And.intro ?_ ?_) <;> (repeat' first | exact rfl | exact trivial | refine And.intro ?_ ?_))) (by rfl))
      · have hbge : r.length ≤ b := by rw [nats_length] at hc2; simpa using hc2
        refine Pick.T (inI64_of (by omega) (by omega)) ?_
        refine Next.by (a + 1) ⟨by omega, fun a' b' h1 h2 h3 => ?_⟩ (by omega) (by refine Weak.by [(0, some _)] (by ((repeat' first | exact rfl | exact trivial | refine And.intro ?_ ?_) <;> (repeat' first | exact rfl | exact trivial | refine And.intro ?_ ?_))) (by ((repeat' first | exact rfl | exact trivial | refine And.intro ?_ ?_) <;> (repeat' first | exact rfl | exact trivial | refine And.intro ?_ ?_))) (by rfl))
        by_cases e : a' = a
        · subst e; exact hno2 b' h2 (by omega)
        · exact hno a' b' (by omega) h2 h3
    · have hge : r.length ≤ a := by rw [nats_length] at hc; simpa using hc
      refine LoopP.intro (α := Nat) (fun v => v ≤ r.length ∧ ∀ v', v' < v → hasL (lessL r v') k = false) (fun v => r.length - v) (fun v => [(0, .sl 0 none none), (1, .s (.i .i64 k)), (5, .s (.i .i64 (nats r).length)), (8, .s (.i .i64 v))])
        (fun v => [(0, some (.flat false 1 (nats r)))]) 1 0 ⟨by omega, by intros; omega⟩ (by refine Weak.by [(0, some _)] (by ((repeat' first | exact rfl | exact trivial | refine And.intro ?_ ?_) <;> (repeat' first | exact rfl | exact trivial | refine And.intro ?_ ?_))) (by ((repeat' first | exact rfl | exact trivial | refine And.intro ?_ ?_) <;> (repeat' first | exact rfl | exact trivial | refine And.intro ?_ ?_))) (by rfl)) ?_
      rintro v ⟨hv, hno2⟩
      refine Pick.by (fun hc2 => ?_) (fun hc2 => ?_)
      · have hvlt : v < r.length := by rw [nats_length] at hc2; simpa using hc2
        refine Call.by _ _ (Less8C_at ⟨hB, hvlt⟩) ?_
        refine Call.by _ _ (Comes8C_at ⟨hB.less hvlt, by rw [lessL_length hvlt]; omega, hk⟩) ?_
        refine Pick.by (fun h4 => ?_) (fun h4 => ?_)
        · exact ⟨rfl, yes2 v hvlt h4⟩
        · have h4 : hasL (lessL r v) k = false := h4
          refine Pick.T (inI64_of (by omega) (by omega)) ?_
          refine Next.by (v + 1) ⟨by omega, fun v' h1 => ?_⟩ (by omega) (by refine Weak.by [(0, some _)] (by ((repeat' first | exact rfl | exact trivial | refine And.intro ?_ ?_) <;> (repeat' first | exact rfl | exact trivial | refine And.intro ?_ ?_))) (by ((repeat' first | exact rfl | exact trivial | refine And.intro ?_ ?_) <;> (repeat' first | exact rfl | exact trivial | refine And.intro ?_ ?_))) (by rfl))
          by_cases e : v' = v
          · rw [e]; exact h4
          · exact hno2 v' (by omega)
      · have hvge : r.length ≤ v := by rw [nats_length] at hc2; simpa using hc2
        refine ⟨rfl, ?_⟩
        show Sc.b false = Sc.b (hasL r k)
        congr 1
        rw [hst]
        symm
        rw [Bool.or_eq_false_iff, List.any_eq_false, List.any_eq_false]
        refine ⟨fun a' ha' => ?_, fun v' hv' => ?_⟩
        · rw [Bool.not_eq_true, List.any_eq_false]
          intro b' hb'
          by_cases h1 : a' < b'
          · cases h2 : bitL r a' b' with
            | false => simp
            | true => rw [hno a' b' (by have := List.mem_range.1 ha'; omega) h1 (List.mem_range.1 hb') h2]; simp
          · simp [h1]
        · rw [hno2 v' (by have := List.mem_range.1 hv'; omega)]; simp
end Go.Sh

set_option linter.unusedVariables false
set_option linter.unusedSimpArgs false
namespace Go.Sh
open Go.Proofs
/-! ### carcanetref08.Has -/
noncomputable def hasB (n : Int) (E : List Ed) (k : Int) : Bool := decide (RightP n E) && (decide (n ≤ 8) && (decide ((patG k).1 ≠ 0) && hasL (rowsL n E) k))
noncomputable def Has8C : Con := conP 3 (fun _ : (Int × List Ed) × Int => True) (fun a => [grV a.1.1 a.1.2, .one (.s (.i .i64 a.2))]) (fun a => .one (.s (.b (hasB a.1.1 a.1.2 a.2))))
theorem Has8C_at (n : Int) (E : List Ed) (k : Int) : Has8C.F [grV n E, .one (.s (.i .i64 k))] = some (.one (.s (.b (hasB n E k))), []) :=
  conP_at (a := ((n, E), k)) (fun a b _ _ h => by
    obtain ⟨⟨n, E⟩, v⟩ := a
    obtain ⟨⟨n', E'⟩, v'⟩ := b
    simp at h
    obtain ⟨h1, h2⟩ := h
    obtain ⟨rfl, rfl⟩ := grV_inj h1
    subst h2
    rfl) trivial
theorem pat_kind {k : Int} (h : (patG k).1 ≠ 0) : k = 1 ∨ k = 2 := by
  rcases patG_cases k with ⟨h1, _⟩ | ⟨h1, _⟩ | ⟨_, _, e⟩
  · exact .inl h1
  · exact .inr h1
  · exact absurd (by rw [e]) h
theorem Has8_ok : SoundC Try.prog T 41 Has8C := by
  refine sound_con (X := { Γ := [(79, RightC), (76, SizeC), (81, Rows8C), (80, Comes8C 8)], T := T, nt := 22 }) cr_none hmix hT (sound_cons Right3_ok (sound_cons Size_ok (sound_cons Rows8_ok (sound_cons (Comes8_ok 8) sound_nil)))) Try.func41 (by rfl) (by rfl) (by rfl) (by rfl) 3 ?_
  rintro ⟨⟨n, E⟩, k⟩ -
  refine ⟨⟨Nat.le_of_ble_eq_true rfl, Nat.le_of_ble_eq_true rfl⟩, ?_⟩
  refine Call.by _ _ (RightC_at n E) ?_
  refine Pick.by (fun h1 => ?_) (fun h1 => ?_)
  · have h1 : ¬ RightP n E := by have h1 : (!decide (RightP n E)) = true := h1; simpa using h1
    refine ⟨rfl, ?_⟩
    show Sc.b false = Sc.b (hasB n E k)
    unfold hasB
    rw [decide_eq_false h1]; rfl
  have h1 : RightP n E := by have h1 : (!decide (RightP n E)) = false := h1; simpa using h1
  refine Pick.by (fun h2 => ?_) (fun h2 => ?_)
  · have h2 : ¬ n ≤ 8 := by simp at h2; omega
    refine ⟨rfl, ?_⟩
    show Sc.b false = Sc.b (hasB n E k)
    unfold hasB
    rw [decide_eq_false h2, Bool.false_and, Bool.and_false]
  have h2 : n ≤ 8 := by simp at h2; omega
  refine Call.by _ _ (SizeC_at k) ?_
  refine Pick.by (fun h3 => ?_) (fun h3 => ?_)
  · have h3 : (patG k).1 = 0 := by simpa using h3
    refine ⟨rfl, ?_⟩
    show Sc.b false = Sc.b (hasB n E k)
    unfold hasB
    rw [decide_eq_false (not_not_intro h3), Bool.false_and, Bool.and_false, Bool.and_false]
  have h3 : (patG k).1 ≠ 0 := by simpa using h3
  refine Call.by _ _ (Rows8C_at ⟨h1, h2⟩) ?_
  have hB := rows_byt h1 h2
  refine Call.by _ _ (Comes8C_at ⟨hB, hB.1, pat_kind h3⟩) ?_
  refine ⟨rfl, ?_⟩
  show Sc.b (hasL (rowsL n E) k) = Sc.b (hasB n E k)
  unfold hasB
  rw [decide_eq_true h1, decide_eq_true h2, decide_eq_true h3]; rfl
/-! ### carcanetlaw08.MinorTrue -/
/-! ### carcanetref08.Pattern -/
end Go.Sh

set_option linter.unusedVariables false
set_option linter.unusedSimpArgs false
namespace Go.Proofs
open Go.RowKit Go.Shelf Go.Sh

attribute [local go_sem] Oper.semAt_some
/-- the edges that are left of some under new numbers -/
def Try.renE (f : Int → Int) (E : List Ed) : List Ed := E.filterMap fun p => if f p.1 ≥ 0 ∧ f p.2 ≥ 0 then some (f p.1, f p.2) else none
/-- what sub.Contract's closure tells -/
def Try.conF (hi lo x : Int) : Int := if x = hi then lo else if x > hi then x - 1 else x
end Go.Proofs

set_option linter.unusedVariables false
set_option linter.unusedSimpArgs false
namespace Go.Proofs
open Go.RowKit Go.Shelf Go.Sh

attribute [local go_sem] Oper.semAt_some
theorem Try.wide_fn (f : Nat) : Fence.wide.fn f = True := rfl
attribute [local go_sem] Try.wide_fn
end Go.Proofs

set_option linter.unusedVariables false
set_option linter.unusedSimpArgs false
namespace Go.Proofs
open Go.RowKit Go.Shelf Go.Sh

attribute [local go_sem] Oper.semAt_some
theorem Try.wide_fn2 (f : Nat) : Fence.wide.fn f = True := rfl
attribute [local go_sem] Try.wide_fn2
end Go.Proofs

set_option linter.unusedVariables false
set_option linter.unusedSimpArgs false
namespace Go.Sh
open Go.Proofs Go.RowKit Go.Shelf
/-! ### sub.Delete, sub.Contract: contracts -/
end Go.Sh

set_option linter.unusedVariables false
set_option linter.unusedSimpArgs false
namespace Go.Sh
open Go.Proofs
/-! ### models of what came of a graph are models of the graph -/
/-! ### what came of a deletion, of a contraction -/
end Go.Sh

set_option linter.unusedVariables false
set_option linter.unusedSimpArgs false
namespace Go.Sh
open Go.Proofs
/-! ### MinorDrop, MinorLift -/
end Go.Sh

set_option linter.unusedVariables false
set_option linter.unusedSimpArgs false
namespace Go.Sh
open Go.Proofs Go.RowKit
/-! ### slices.Clone of steps -/
attribute [local go_sem] Oper.semAt_some
/-! ### graph.Add -/
/-! ### slices.Index on edges -/
end Go.Sh

set_option linter.unusedVariables false
set_option linter.unusedSimpArgs false
namespace Go.Sh
open Go.Proofs
/-! ### MinorGrows -/
end Go.Sh

set_option linter.unusedVariables false
set_option linter.unusedSimpArgs false
namespace Go.Sh
open Go.Proofs
/-! ### carcanetlaw09.TopoModel, TopoTrue, TopoGrows -/
noncomputable def TTrueF := conF (fun _ : (Int × List Ed) × Sb => True) (fun a => [grV a.1.1 a.1.2, sbV false a.2.1 a.2.2.1 a.2.2.2]) (fun _ => .one (.s (.b true)))
theorem TTrue_ok : SoundP Try.prog 11 TTrueF := by
  refine con_pure (X := { Γ := [(27, Shown9C), (15, OfC), (28, Small9C), (29, SubC), (41, Has8C)], T := T, nt := 26 }) cr_none hmix hT (sound_cons Shown9_ok (sound_cons Of_ok (sound_cons Small9_ok (sound_cons Sub_ok (sound_cons Has8_ok sound_nil))))) Try.func11 (by rfl) (by rfl) (by rfl) 5 ?_
  rintro ⟨⟨n, E⟩, k, Ts, L⟩ -
  dsimp only
  refine ⟨⟨Nat.le_of_ble_eq_true rfl, Nat.le_of_ble_eq_true rfl⟩, ?_⟩
  refine Call.by _ _ Shown9C_at ?_
  refine Call.by _ _ (OfC_at n E (most := 7) (by omega)) ?_
  have hR := any_right (n := n) (l := E) (most := 7) (by omega) (by omega)
  have hn := (anyN_range (n := n) (most := 7) (by omega)).2
  obtain ⟨m, hm⟩ : ∃ m, anyN n 7 = m := ⟨_, rfl⟩
  obtain ⟨F, hF⟩ : ∃ F, anyE n E 7 = F := ⟨_, rfl⟩
  rw [hm, hF] at hR ⊢
  rw [hm] at hn
  refine Call.by _ _ (Small9C_at k Ts L) ?_
  have hfw := cutP_few L
  refine Call.by _ _ (SubC_at (n := m) (E := F) (k := k) (Ts := Ts.take 6) hfw) ?_
  refine Pick.by (fun h1 => ?_) (fun h1 => ?_)
  · exact ⟨rfl, rfl⟩
  · have h1 : SubP m F k (Ts.take 6) (cutP L) := by have h1 : (!subB m F k (Ts.take 6) (cutP L)) = false := h1; exact subB_iff.1 (by simpa using h1)
    obtain ⟨hc, hk⟩ := sub_model h1
    refine Call.by _ _ (Has8C_at m F k) ?_
    refine ⟨rfl, ?_⟩
    show Sc.b (hasB m F k) = Sc.b true
    unfold hasB
    rw [decide_eq_true hR, decide_eq_true (show m ≤ 8 by omega), decide_eq_true hc.2.1, chk_has hc]; rfl
end Go.Sh

set_option linter.unusedVariables false
set_option linter.unusedSimpArgs false
namespace Go.Sh
open Go.Proofs
/-! ### carcanetlaw08.MinorMoves -/
def i64 (x : Int) : Prop := -9223372036854775808 ≤ x ∧ x ≤ 9223372036854775807
def rows64 (S : List (List Int)) : Prop := ∀ l ∈ S, ∀ x ∈ l, i64 x
def clI (x : Int) : Int := mnI x 4611686018427387904
def clP (j : Nat) (row : List Int) : List Int := (row.take j).map clI ++ row.drop j
theorem clP_all (row : List Int) (j : Nat) (h : row.length ≤ j) : clP j row = row.map clI := by
  unfold clP
  rw [List.take_of_length_le h, List.drop_eq_nil_of_le h, List.append_nil]
theorem clP_zero (row : List Int) : clP 0 row = row := by simp [clP]
def ClI (S : List (List Int)) (i j : Nat) (R : List (List Int)) : Prop := R.length = S.length ∧ ∀ r row, S[r]? = some row → R[r]? = some (if r < i then row.map clI else if r = i then clP j row else row)
theorem ClI.at {S R : List (List Int)} {i j : Nat} (h : ClI S i j R) {row : List Int} (hi : S[i]? = some row) : R[i]? = some (clP j row) := by
  have := h.2 i row hi
  rwa [if_neg (by omega), if_pos rfl] at this
theorem ClI.step {S R : List (List Int)} {i j : Nat} (h : ClI S i j R) {row : List Int} (hi : S[i]? = some row) : ClI S i (j + 1) (R.set i (clP (j + 1) row)) := by
  refine ⟨by rw [List.length_set]; exact h.1, fun r w hr => ?_⟩
  rw [List.getElem?_set]
  by_cases e : i = r
  · subst e
    rw [hi] at hr
    injection hr with hr
    subst hr
    rw [if_pos rfl, if_pos (by rw [h.1]; exact (List.getElem?_eq_some_iff.1 hi).1), if_neg (by omega), if_pos rfl]
  · rw [if_neg e, h.2 r w hr, if_neg (show ¬ r = i by omega), if_neg (show ¬ r = i by omega)]
theorem ClI.next {S R : List (List Int)} {i j : Nat} (h : ClI S i j R) {row : List Int} (hi : S[i]? = some row) (hj : row.length ≤ j) : ClI S (i + 1) 0 R := by
  refine ⟨h.1, fun r w hr => ?_⟩
  rw [h.2 r w hr]
  by_cases e : r < i
  · rw [if_pos e, if_pos (by omega)]
  · by_cases e2 : r = i
    · subst e2
      rw [hi] at hr
      injection hr with hr
      subst hr
      rw [if_neg e, if_pos rfl, if_pos (by omega), clP_all _ _ hj]
    · rw [if_neg e, if_neg e2, if_neg (by omega)]
      split
      · rw [clP_zero]
      · rfl
theorem ClI.done {S R : List (List Int)} {i : Nat} (h : ClI S i 0 R) (hi : S.length ≤ i) : R = S.map fun l => l.map clI := by
  apply List.ext_getElem?
  intro r
  by_cases hr : r < S.length
  · rw [h.2 r _ (List.getElem?_eq_getElem hr), if_pos (by omega)]
    simp [hr]
  · rw [List.getElem?_eq_none (by rw [h.1]; omega), List.getElem?_eq_none (by simp; omega)]
theorem ClI.zero (S : List (List Int)) : ClI S 0 0 S := ⟨rfl, fun r row h => by
  rw [if_neg (by omega), clP_zero]
  split <;> exact h⟩
end Go.Sh

set_option linter.unusedVariables false
set_option linter.unusedSimpArgs false
namespace Go.Sh
open Go.Proofs
/-! ### what is handed in, as data -/
theorem VTy.struct {T : Tab} {t : Nat} {ti : TI} {fs : List (Nat × Nat)} {v : V} (ht : lk T t = some ti) (hk : ti.kind = .struct fs) (h : VTy T t v) : ∃ cs, v = .agg cs ∧ All2 (fun (f : Nat × Nat) c => CTy T f.2 c) fs cs := by
  unfold VTy at h
  rw [ht] at h
  simp only at h
  rw [hk] at h
  exact h
theorem VTy.cell {T : Tab} {t : Nat} {ti : TI} {v : V} (ht : lk T t = some ti) (hk : ∀ fs, ti.kind ≠ .struct fs ∧ ∀ n e, ti.kind ≠ .array n e) (h : VTy T t v) : ∃ c, v = .one c ∧ CTy T t c := by
  unfold VTy at h
  rw [ht] at h
  simp only at h
  cases hq : ti.kind with
  | struct fs => exact absurd hq (hk fs).1
  | array n e => exact absurd hq ((hk []).2 n e)
  | _ => rw [hq] at h; exact h
theorem VTy.array {T : Tab} {t : Nat} {ti : TI} {n e : Nat} {v : V} (ht : lk T t = some ti) (hk : ti.kind = .array n e) (h : VTy T t v) : ∃ cs, v = .agg cs ∧ cs.length = n ∧ ∀ c ∈ cs, CTy T e c := by
  unfold VTy at h
  rw [ht] at h
  simp only at h
  rw [hk] at h
  exact h
theorem ScTy.int {T : Tab} {t : Nat} {ti : TI} {k : IntKind} {x : Sc} (ht : lk T t = some ti) (hk : ti.kind = .int k) (h : ScTy T t x) : ∃ n, x = .i k n ∧ (Lit.int k n).wf = true := by
  unfold ScTy at h
  rw [ht] at h
  simp only at h
  rw [hk] at h
  cases x with
  | i k' n => obtain ⟨rfl, h⟩ := h; exact ⟨n, rfl, h⟩
  | b _ => exact h.elim
theorem CTy.sc {T : Tab} {t : Nat} {c : C} (hs : sliceE T t = none) (h : CTy T t c) : ∃ x, c = .s x ∧ ScTy T t x := by
  unfold CTy at h
  rw [hs] at h
  exact h
theorem CTy.flat {T : Tab} {t e : Nat} {c : C} (hs : sliceE T t = some e) (hs2 : sliceE T e = none) (h : CTy T t c) : ∃ rows, c = .flat false (sizeT T e) rows ∧ FlatTy T e rows := by
  unfold CTy at h
  rw [hs] at h
  simp only at h
  rw [hs2] at h
  exact h
theorem CTy.nest {T : Tab} {t e e2 : Nat} {c : C} (hs : sliceE T t = some e) (hs2 : sliceE T e = some e2) (h : CTy T t c) : ∃ rows, c = .nest false (sizeT T e2) rows ∧ rows.length ≤ maxLen ∧ ∀ fl ∈ rows, FlatTy T e2 fl := by
  unfold CTy at h
  rw [hs] at h
  simp only at h
  rw [hs2] at h
  exact h
theorem i64_wf {n : Int} (h : (Lit.int .i64 n).wf = true) : i64 n := by
  simp [Lit.wf, IntKind.min, IntKind.max, IntKind.signed, IntKind.bits] at h
  exact h
theorem list_ex {α β : Type} {P : α → β → Prop} : ∀ {l : List α}, (∀ x ∈ l, ∃ y, P x y) → ∃ m : List β, All2 P l m := by
  intro l
  induction l with
  | nil => intro _; exact ⟨[], All2.nil⟩
  | cons x l ih =>
    intro h
    obtain ⟨y, hy⟩ := h x (by simp)
    obtain ⟨m, hm⟩ := ih fun x hx => h x (by simp [hx])
    exact ⟨y :: m, All2.cons' hy hm⟩
theorem All2.map_eq {α β : Type} {f : β → α} {l : List α} {m : List β} (h : All2 (fun x y => x = f y) l m) : l = m.map f := by
  apply List.ext_getElem?
  intro i
  rw [List.getElem?_map]
  by_cases hi : i < l.length
  · have him : i < m.length := by rw [← h.1]; exact hi
    rw [List.getElem?_eq_getElem hi, List.getElem?_eq_getElem him, Option.map_some, h.2 i _ _ (List.getElem?_eq_getElem hi) (List.getElem?_eq_getElem him)]
  · rw [List.getElem?_eq_none (by omega), List.getElem?_eq_none (by rw [← h.1]; omega)]; rfl
theorem All2.mem {α β : Type} {R : α → β → Prop} {l : List α} {m : List β} (h : All2 R l m) {y : β} (hy : y ∈ m) : ∃ x ∈ l, R x y := by
  obtain ⟨i, hi⟩ := List.mem_iff_getElem?.1 hy
  have hl := (List.getElem?_eq_some_iff.1 hi).1
  rw [← h.1] at hl
  exact ⟨_, List.getElem_mem hl, h.2 i _ y (List.getElem?_eq_getElem hl) hi⟩
/-! #### at this program's types -/
theorem row_int {row : Row} (h : RowTy T 3 row) : ∃ n, row = [.i .i64 n] ∧ i64 n := by
  obtain ⟨x, rfl, hx⟩ := h
  obtain ⟨n, rfl, hw⟩ := ScTy.int (t := 3) rfl rfl hx
  exact ⟨n, rfl, i64_wf hw⟩
theorem ints_of {fl : Flat} (h : FlatTy T 3 fl) : ∃ l : List Int, fl = ints l ∧ l.length ≤ maxLen ∧ ∀ x ∈ l, i64 x := by
  obtain ⟨m, hm⟩ := list_ex (P := fun row n => row = [Sc.i .i64 n] ∧ i64 n) fun row hr => row_int (h.2 row hr)
  refine ⟨m, All2.map_eq (f := fun n => [Sc.i .i64 n]) (hm.imp fun _ _ _ k => k.1), by rw [← hm.1]; exact h.1, fun x hx => ?_⟩
  obtain ⟨_, _, k⟩ := hm.mem hx
  exact k.2
theorem rows_of {rows : List Flat} (h : ∀ fl ∈ rows, FlatTy T 3 fl) : ∃ S : List (List Int), rows = rowsI S ∧ rows64 S ∧ ∀ l ∈ S, l.length ≤ maxLen := by
  obtain ⟨m, hm⟩ := list_ex (P := fun (fl : Flat) l => fl = ints l ∧ l.length ≤ maxLen ∧ ∀ x ∈ l, i64 x) fun fl hf => ints_of (h fl hf)
  refine ⟨m, All2.map_eq (hm.imp fun _ _ _ k => k.1), fun l hl => ?_, fun l hl => ?_⟩
  · obtain ⟨_, _, k⟩ := hm.mem hl; exact k.2.2
  · obtain ⟨_, _, k⟩ := hm.mem hl; exact k.2.1
theorem All2.two {α β : Type} {R : α → β → Prop} {a b : α} {m : List β} (h : All2 R [a, b] m) : ∃ x y, m = [x, y] ∧ R a x ∧ R b y := by
  obtain ⟨h1, h2⟩ := h
  match m, h1, h2 with
  | [x, y], _, h2 => exact ⟨x, y, rfl, h2 0 a x rfl rfl, h2 1 b y rfl rfl⟩
theorem All2.one {α β : Type} {R : α → β → Prop} {a : α} {m : List β} (h : All2 R [a] m) : ∃ x, m = [x] ∧ R a x := by
  obtain ⟨h1, h2⟩ := h
  match m, h1, h2 with
  | [x], _, h2 => exact ⟨x, rfl, h2 0 a x rfl rfl⟩
theorem All2.three {α β : Type} {R : α → β → Prop} {a b c : α} {m : List β} (h : All2 R [a, b, c] m) : ∃ x y z, m = [x, y, z] ∧ R a x ∧ R b y ∧ R c z := by
  obtain ⟨h1, h2⟩ := h
  match m, h1, h2 with
  | [x, y, z], _, h2 => exact ⟨x, y, z, rfl, h2 0 a x rfl rfl, h2 1 b y rfl rfl, h2 2 c z rfl rfl⟩
theorem row_edge {row : Row} (h : RowTy T 77 row) : ∃ p : Ed, row = [.i .i64 p.1, .i .i64 p.2] ∧ i64 p.1 ∧ i64 p.2 := by
  obtain ⟨_, h⟩ := h
  obtain ⟨x, y, rfl, hx, hy⟩ := All2.two h
  obtain ⟨n, rfl, hn⟩ := ScTy.int (t := 3) rfl rfl hx
  obtain ⟨m, rfl, hm⟩ := ScTy.int (t := 3) rfl rfl hy
  exact ⟨(n, m), rfl, i64_wf hn, i64_wf hm⟩
theorem edges_of {fl : Flat} (h : FlatTy T 77 fl) : ∃ E : List Ed, fl = edges E ∧ E.length ≤ maxLen ∧ ∀ p ∈ E, i64 p.1 ∧ i64 p.2 := by
  obtain ⟨m, hm⟩ := list_ex (P := fun row (p : Ed) => row = [Sc.i .i64 p.1, Sc.i .i64 p.2] ∧ i64 p.1 ∧ i64 p.2) fun row hr => row_edge (h.2 row hr)
  refine ⟨m, All2.map_eq (f := fun p : Ed => [Sc.i .i64 p.1, Sc.i .i64 p.2]) (hm.imp fun _ _ _ k => k.1), by rw [← hm.1]; exact h.1, fun x hx => ?_⟩
  obtain ⟨_, _, k⟩ := hm.mem hx
  exact k.2
theorem net_of {v : V} (h : VTy T 24 v) : ∃ n E, v = grV n E ∧ i64 n ∧ ∀ p ∈ E, i64 p.1 ∧ i64 p.2 := by
  obtain ⟨cs, rfl, hcs⟩ := VTy.struct (t := 24) rfl rfl h
  obtain ⟨x, y, rfl, hx, hy⟩ := All2.two hcs
  obtain ⟨z, rfl, hz⟩ := CTy.sc (t := 3) rfl hx
  obtain ⟨n, rfl, hw⟩ := ScTy.int (t := 3) rfl rfl hz
  obtain ⟨rows, rfl, hr⟩ := CTy.flat (t := 22) (e := 77) rfl rfl hy
  obtain ⟨E, rfl, _, hE⟩ := edges_of hr
  exact ⟨n, E, rfl, i64_wf hw, hE⟩
end Go.Sh

set_option linter.unusedVariables false
namespace Go.Sh
open Go.Proofs
theorem own : ownKnob Try.prog.godebug = none := by kernel_rfl
theorem laidOut : laidOutB Try.prog = true := by kernel_rfl
set_option maxRecDepth 100000 in
/-- A law whose function answers true, whatever comes. -/
theorem law_row {s : ChangeSpec} {f : FuncId} {fn : Func} {conds : List PathCond} {apart fresh handsOn : Bool} {ts : List TypeId} {F : List V → Option (V × List V)} (hf : Try.prog.funcs[f]? = some fn) (hin : Try.prog.inits.idxOf? f = none) (hv : s.vars = [])
    (hts : fn.params.toList = ts) (ha : ts.all (argB T) = true) (hr : ts.all (fun t => Try.prog.readableRec t && Nat.blt t Try.prog.types.size) = true) (hres : fn.resultTypes = #[4])
    (hsp : ∀ (H : Type) (ds : List (DataW H)), ds.length = ts.length → (s.fn H ds).results = [.lit (.bool true)] ∧ (s.fn H ds).args = ds ∧ (s.fn H ds).vars = [])
    (hS : SoundP Try.prog f F) (hF : LawV T ts F) (os : Os) (started : os.Started) (H : Type) (enc : TypeId × Value → H) (a : Assume)
    (hw : ∃ (w : World) (tape : Tape) (i : Input), w.os = os ∧ (w.forCall tape i).Shaped Try.checked.prog ∧ i.vars = [] ∧ Input.okWide Try.checked.prog (w.forCall tape i) .any w.heap.size f i ∧
      s.pre6 enc Try.checked.prog fn conds apart (w.forCall tape i).memory i.args ∧ a.holds Try.checked.prog (lone (Frame.enter Try.checked.prog f i.args .normal) [] (w.forCall tape i))) :
    ReturnsInHanded a Try.checked os f .any (s.pre6 enc Try.checked.prog fn conds apart) (s.post enc Try.checked.prog fn apart fresh handsOn false) := by
  refine returnsInHanded_of_change (C := Try.checked) own started hin hf hw ?_
  intro W base args ds gs before hval hW _ _
  refine law_contract (P := Try.prog) (conds := conds) hT laidOut hv hts ha (fun t ht => ?_) hres Try.underlying4 (hsp H) hS hF hval hW
  have := List.all_eq_true.1 hr t ht
  simp only [Bool.and_eq_true] at this
  exact ⟨this.1, Nat.le_of_ble_eq_true this.2⟩
end Go.Sh

set_option linter.unusedVariables false
namespace Go.Sh
open Go.Proofs
/-! ### more of what is handed in, as data: subdivisions -/
theorem sub_of {v : V} (h : VTy T 40 v) : ∃ k Ts L, v = sbV false k Ts L ∧ i64 k := by
  obtain ⟨cs, rfl, hcs⟩ := VTy.struct (t := 40) rfl rfl h
  obtain ⟨x, y, z, rfl, hx, hy, hz⟩ := All2.three hcs
  obtain ⟨q, rfl, hq⟩ := CTy.sc (t := 3) rfl hx
  obtain ⟨n, rfl, hw⟩ := ScTy.int (t := 3) rfl rfl hq
  obtain ⟨rows, rfl, hr⟩ := CTy.flat (t := 30) (e := 3) rfl rfl hy
  obtain ⟨U, rfl, _, _⟩ := ints_of hr
  obtain ⟨rows, rfl, _, hr⟩ := CTy.nest (t := 38) (e := 30) (e2 := 3) rfl rfl hz
  obtain ⟨S, rfl, hS, _⟩ := rows_of hr
  exact ⟨n, U, S, rfl, i64_wf hw⟩
end Go.Sh
