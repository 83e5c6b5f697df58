/- What the functions answer that the statement reaches. No condition. -/
import Derived.Test.YtcihmgopaadpfaaFn2
import Derived.Shelf.Sort.Plain
import Derived.Shelf.Slices.In.SortNone
import Derived.Shelf.Slices.CompactI
import Derived.Ground.NamesProg
import Derived.Ground.Names2Prog
import Derived.Sort.OwnSorted
import Derived.Shelf.SlIterI.Sorted
import Derived.Test.YtcihmgopaadpfaaRows
set_option linter.unusedVariables false
set_option linter.unusedSimpArgs false
namespace Go.Sh
open Go.Proofs Go.RowKit
/-! ### slices.Clone of steps -/
attribute [local go_sem] Oper.semAt_some
theorem tS : Try.prog.underlying 67 = some (TypeDesc.slice 73) := by kernel_rfl
theorem iS : (Try.prog.info? 73).map (fun i => (i.zero, i.size, i.bytes)) = some (some (.agg #[.int .i64 0, .int .i64 0, .int .i64 0, .bool false]), 4, 32) := by kernel_rfl
set_option maxRecDepth 100000 in
set_option maxHeartbeats 2000000 in
theorem clone_empty (A : Option Addr) (c : Nat) (w : World) : Calls Try.prog 87 #[.slice A 0 c] w fun e w' => ∃ B c', e = .returned (.slice B 0 c') ∧ Frm (fun _ => False) w w' ∧ ((B = none ∧ c' = 0) ∨ ∃ gb cur T, B = some ⟨gb, 0, none⟩ ∧ w.heap.size ≤ gb ∧ w'.heap[gb]? = some (.cells cur T (0, 0)) ∧ c' * 4 ≤ cur.size ∧ c' ≤ 9223372036854775807) := by
  have t22 := tS
  obtain ⟨i0, hi, hz0, hz1, hz2⟩ := info_parts iS
  have q22 : ∀ (w : World) (a : Option Addr) (n c n' c' : Nat), (binOp .eql 67 (.slice a n c) (.slice none n' c')).run Try.prog w = .ok (.bool a.isNone) w := fun w a n c n' c' => Lib.run_eql_slice_nil w _ _ a n c n' c' tS
  have u22 : ∀ w, Sem.run Try.prog (underlying 67) w = .ok (TypeDesc.slice 73) w := run_underlying t22
  refine (callsIn_wide (n := 6)).1 ?_
  refine callsIn_of_wp Try.func87 rfl trivial ?_ rfl
  simp only [Try.ntmps87, List.size_toArray, List.length_cons, List.length_nil, Nat.reduceAdd, Nat.reduceSub, Array.replicate_succ, Array.replicate_zero, List.push_toArray, List.append_toArray, List.nil_append, List.cons_append]
  cases A with
  | none =>
    gi_wp2
    go_ret
    exact ⟨_, _, rfl, Frm.refl _ _, .inl ⟨rfl, rfl⟩⟩
  | some a =>
    gi_wp2_with (gi_at_builtin; refine wpListIn_append_own _ rfl _ _ 67 rfl w.heap.size 73 i0 _ 4 32 t22 hi hz0 hz1 hz2 rfl (by decide) _ _ _ rfl (World.ownsRow_made w #[] 0 (Nat.le_refl _) (Nat.zero_le _) rfl) a 0 c [] rfl rfl (by intro j u hj; simp at hj) (by intro u hu; cases hu) (by unfold maxLen; omega) (by omega) (by simp) ?_)
    intro v' w1 hown hgrow hnil
    gi_wp2
    go_ret
    have hb : Below w.heap.size w w1 := ((Below.refl _ w).alloc (Nat.le_refl _) _).grown hgrow (by simp) (by intro k hk; simp [Value.ownBlock] at hk; omega)
    have hf : Frm (fun _ => False) w w1 := ⟨hb.os, .of hb.tape, hb.output, hb.size, fun b h _ => hb.block b h⟩
    rcases hown.2 with ⟨rfl, _⟩ | ⟨gb, cap', cur, rfl, hbase, hgb, r1, r2, r3, r4⟩
    · exact ⟨_, _, rfl, hf, .inl ⟨rfl, rfl⟩⟩
    · refine ⟨_, _, rfl, hf, .inr ⟨gb, cur, _, rfl, hbase, hgb, ?_, ?_⟩⟩
      · omega
      · unfold maxLen at *; omega
noncomputable def CloneC : Con := conP 1 (fun l : List Stp => l.length ≤ 1000000) (fun l => [.one (.flat false 4 (stps l))]) (fun l => .one (.flat true 4 (stps l)))
theorem stps_inj {l m : List Stp} (h : stps l = stps m) : l = m := by
  refine (List.map_inj_right fun a b e => ?_).1 h
  obtain ⟨a1, a2, a3, a4⟩ := a
  obtain ⟨b1, b2, b3, b4⟩ := b
  simp at e
  obtain ⟨rfl, rfl, rfl, rfl⟩ := e
  rfl
theorem CloneC_at {l : List Stp} (h : l.length ≤ 1000000) : CloneC.F [.one (.flat false 4 (stps l))] = some (.one (.flat true 4 (stps l)), []) :=
  conP_at (a := l) (fun a b _ _ h => by simp at h; rw [stps_inj h]) h
theorem Clone_ok : SoundC Try.prog T 87 CloneC := by
  refine sound_pure Try.func87 (by rfl) (by rfl) (by simp [CloneC, conP]) ?_
  have hfull : SoundP Try.prog 87 (conF (fun l : List Stp => l.length ≤ 1000000 ∧ l ≠ []) (fun l => [.one (.flat false 4 (stps l))]) (fun l => .one (.flat true 4 (stps l)))) := by
    refine con_pure (X := { Γ := [], T := T, nt := 8 }) cr_none hmix hT sound_nil Try.func87 (by rfl) (by rfl) (by rfl) 1 ?_
    rintro l ⟨hl, hne⟩
    refine ⟨⟨Nat.le_of_ble_eq_true rfl, Nat.le_of_ble_eq_true rfl⟩, ?_⟩
    have hpos : 0 < l.length := List.length_pos_iff.2 hne
    refine Pick.T (by rw [stps_length]; simpa using hpos) ?_
    refine Pick.T (by simp [cut, stps_length]; omega) ?_
    exact ⟨rfl, rfl, rfl⟩
  intro vs r outs hF w us hus
  obtain ⟨l, hl, rfl, rfl⟩ := conF_inv (pre := fun l : List Stp => l.length ≤ 1000000) (enc := fun l => [.one (.flat false 4 (stps l))]) (val := fun l => .one (.flat true 4 (stps l))) hF
  by_cases hne : l = []
  · subst hne
    obtain ⟨u, hu, x, hx, hFl⟩ : ∃ u, us = #[u] ∧ CellOk w noLab 0 (.flat false 4 (stps [])) u := by
      obtain ⟨us⟩ := us
      match us, hus with
      | [u], hus => exact ⟨u, rfl, hus.1⟩
      | [], hus => exact hus.elim
      | _ :: _ :: _, hus => exact hus.2.elim
    subst hu
    subst hx
    refine (clone_empty x.A x.c w).mono ?_
    rintro e w' ⟨B, c', rfl, hf, hB⟩
    rcases hB with ⟨rfl, rfl⟩ | ⟨gb, cur, T', rfl, h1, h2, h3, h4⟩
    · exact ⟨_, noLab, rfl, hf, fun b k h => by simp [noLab] at h, ⟨⟨none, 0, fun _ => none, fun _ => 0⟩, rfl, FlatOk.nil (by omega)⟩⟩
    · have hlt : gb < w'.heap.size := by
        rcases Nat.lt_or_ge gb w'.heap.size with h | h
        · exact h
        · simp [Array.getElem?_eq_none h] at h2
      refine ⟨_, fun b => if b = gb then some (0, none) else none, rfl, hf, fun b k h => ?_, ⟨⟨some ⟨gb, 0, none⟩, c', fun _ => none, fun _ => 0⟩, rfl, ?_⟩⟩
      · dsimp only at h
        split at h
        · rename_i e; subst e; exact ⟨h1, hlt⟩
        · simp at h
      · exact { fits := Nat.zero_le _, pos := by omega, even := fun i row h => by simp [stps] at h, cell := fun i row j x h => by simp [stps] at h, room := fun _ => .inr ⟨gb, 0, cur, T', rfl, if_pos rfl, h2, by dsimp only; omega, h4⟩ }
  · exact hfull _ _ _ (conF_at (fun a b _ _ h => by simp at h; rw [stps_inj h]) ⟨hl, hne⟩) w us hus
/-! ### reduce.Narrow -/
open Classical in
noncomputable def narrowB (n : Int) (E : List Ed) : Bool := decide (RightP n E) && decide ((runO n E).2.1 = [])
noncomputable def NarrowC : Con := conP 2 (fun _ : Int × List Ed => True) (fun a => [grV a.1 a.2]) (fun a => .one (.s (.b (narrowB a.1 a.2))))
theorem NarrowC_at (n : Int) (E : List Ed) : NarrowC.F [grV n E] = some (.one (.s (.b (narrowB n E))), []) :=
  conP_at (a := (n, E)) (fun x y _ _ h => by
    obtain ⟨n, E⟩ := x
    obtain ⟨n', E'⟩ := y
    simp at h
    obtain ⟨rfl, rfl⟩ := grV_inj h
    rfl) trivial
theorem Narrow_ok : SoundC Try.prog T 25 NarrowC := by
  refine sound_con (X := { Γ := [(39, RightC), (40, RunC)], T := T, nt := 12 }) cr_none hmix hT (sound_cons RightG_ok (sound_cons Run_ok sound_nil)) Try.func25 (by rfl) (by rfl) (by rfl) (by rfl) 2 ?_
  rintro ⟨n, E⟩ -
  refine ⟨⟨Nat.le_of_ble_eq_true rfl, Nat.le_of_ble_eq_true rfl⟩, ?_⟩
  refine Call.by _ _ (RightC_at n E) ?_
  refine Pick.by (fun h1 => ?_) (fun h1 => ?_)
  · have h1 : RightP n E := by have h1 : decide (RightP n E) = true := h1; simpa using h1
    refine Call.by _ _ (RunC_at n E) ?_
    refine ⟨rfl, ?_⟩
    show Sc.b ((((ints (runO n E).2.1).length : Nat) : Int) == 0) = Sc.b (narrowB n E)
    unfold narrowB
    rw [decide_eq_true h1, Bool.true_and, ints_length]
    congr 1
    rw [Bool.eq_iff_iff]
    simp
  · have h1 : ¬ RightP n E := by have h1 : decide (RightP n E) = false := h1; simpa using h1
    refine ⟨rfl, ?_⟩
    show Sc.b false = Sc.b (narrowB n E)
    unfold narrowB
    rw [decide_eq_false h1, Bool.false_and]
/-! ### reduce.Replay -/
def mayStp (N : List (List Int)) (G : List Bool) (s : Stp) : Bool := mayB N G s.1 && decide (stepF N s.1 = s)
def replS : List Stp → List (List Int) → List Bool → List Stp × Bool × List (List Int) × List Bool
  | [], N, G => ([], true, N, G)
  | s :: r, N, G => if mayStp N G s then (s :: (replS r (doN N s) (doG G s)).1, (replS r (doN N s) (doG G s)).2) else ([], false, N, G)
def replR (n : Int) (E : List Ed) (l : List Stp) : List Stp × Bool × List (List Int) × List Bool := replS l (nbrs n.toNat E) (List.replicate n.toNat false)
open Classical in
noncomputable def replO (n : Int) (E : List Ed) (l : List Stp) : (List Stp × List Int × List Ed) × Bool := if RightP n E then (((replR n E l).1, leftF (replR n E l).2.2.2, edgesF (replR n E l).2.2.1 (replR n E l).2.2.2), (replR n E l).2.1) else (([], [], []), false)
noncomputable def ReplC : Con := conP 3 (fun a : (Int × List Ed) × List Stp => a.2.length ≤ 1000000) (fun a => [grV a.1.1 a.1.2, .one (.flat false 4 (stps a.2))]) (fun a => .tup [logV true (replO a.1.1 a.1.2 a.2).1.1 (replO a.1.1 a.1.2 a.2).1.2.1 (replO a.1.1 a.1.2 a.2).1.2.2, .one (.s (.b (replO a.1.1 a.1.2 a.2).2))])
theorem ReplC_at {n : Int} {E : List Ed} {l : List Stp} (h : l.length ≤ 1000000) : ReplC.F [grV n E, .one (.flat false 4 (stps l))] = some (.tup [logV true (replO n E l).1.1 (replO n E l).1.2.1 (replO n E l).1.2.2, .one (.s (.b (replO n E l).2))], []) :=
  conP_at (a := ((n, E), l)) (fun a b _ _ h => by
    obtain ⟨⟨n, E⟩, l⟩ := a
    obtain ⟨⟨n', E'⟩, l'⟩ := b
    simp at h
    obtain ⟨h1, h2⟩ := h
    obtain ⟨rfl, rfl⟩ := grV_inj h1
    rw [stps_inj h2]) h
noncomputable def XRepl : Cx := { Γ := [(39, RightC), (70, BeginC), (71, MayC), (74, StepC), (87, CloneC), (98, turnC (fun l _ => l.Pairwise (· ≤ ·) ∧ l.length ≤ 1000000) (fun l x => l.erase x)), (99, turnC (fun l _ => l.Pairwise (· ≤ ·) ∧ l.length ≤ 1000000) insAt)], T := T, nt := 49, inl := [(75, inlF Try.f75), (76, inlF Try.f76)], jc := [70031] }
theorem XRepl_sound : Sound Try.prog T XRepl.Γ := sound_cons RightG_ok (sound_cons Begin_ok (sound_cons May_ok (sound_cons Step_ok (sound_cons Clone_ok (sound_cons (turn_sound Without_call) (sound_cons (turn_sound With_call) sound_nil))))))
theorem XRepl_ok : CrOk Try.prog (callAt 1 XRepl) := callAt_ok hmix hT XRepl_sound (inl_cons Try.func75 (by rfl) (by rfl) (by rfl) (inl_cons Try.func76 (by rfl) (by rfl) (by rfl) inl_nil)) cr_none 1
theorem eqStp (a b : Stp) : (a.1 == b.1 && (a.2.1 == b.2.1 && (a.2.2.1 == b.2.2.1 && (a.2.2.2 == b.2.2.2 && true)))) = decide (a = b) := by
  obtain ⟨a1, a2, a3, a4⟩ := a
  obtain ⟨b1, b2, b3, b4⟩ := b
  rw [Bool.eq_iff_iff]
  simp
theorem replS_go {l : List Stp} {N : List (List Int)} {G : List Bool} {s : Stp} (h : mayStp N G s = true) : replS (s :: l) N G = (s :: (replS l (doN N s) (doG G s)).1, (replS l (doN N s) (doG G s)).2) := if_pos h
theorem replS_no {l : List Stp} {N : List (List Int)} {G : List Bool} {s : Stp} (h : mayStp N G s = false) : replS (s :: l) N G = ([], false, N, G) := if_neg (by rw [h]; simp)
set_option maxHeartbeats 4000000 in
theorem Repl_ok : SoundC Try.prog T 53 ReplC := by
  refine sound_con (X := XRepl) (cr := callAt 1 XRepl) XRepl_ok hmix hT XRepl_sound Try.func53 (by rfl) (by rfl) (by rfl) (by rfl) 3 ?_
  rintro ⟨⟨n, E⟩, L⟩ hL
  dsimp only at hL ⊢
  refine ⟨⟨Nat.le_of_ble_eq_true rfl, Nat.le_of_ble_eq_true rfl⟩, ?_⟩
  refine Call.by _ _ (RightC_at n E) ?_
  refine Pick.by (fun h1 => ?_) (fun h1 => ?_)
  · have h1 : ¬ RightP n E := by have h1 : (!decide (RightP n E)) = true := h1; simpa using h1
    have hv : replO n E L = (([], [], []), false) := if_neg h1
    rw [hv]
    refine ⟨rfl, ?_⟩
    (repeat' first | exact rfl | exact trivial | refine And.intro ?_ ?_)
  have hR : RightP n E := by have h1 : (!decide (RightP n E)) = false := h1; simpa using h1
  have hv : replO n E L = (((replR n E L).1, leftF (replR n E L).2.2.2, edgesF (replR n E L).2.2.1 (replR n E L).2.2.2), (replR n E L).2.1) := if_pos hR
  rw [hv]
  refine Call.by _ _ (BeginC_at hR) ?_
  have hW := begin_wf hR
  have hNl := nbrs_length n.toNat E
  have hrep : replR n E L = ([] ++ (replS (L.drop 0) (nbrs n.toNat E) (List.replicate n.toNat false)).1, (replS (L.drop 0) (nbrs n.toNat E) (List.replicate n.toNat false)).2) := rfl
  generalize nbrs n.toNat E = N at *
  generalize List.replicate n.toNat false = G at *
  refine LoopP.intro (α := Nat × List (List Int) × List Bool) (fun a => a.1 ≤ L.length ∧ Wf a.2.1 a.2.2 ∧ replR n E L = (L.take a.1 ++ (replS (L.drop a.1) a.2.1 a.2.2).1, (replS (L.drop a.1) a.2.1 a.2.2).2)) (fun a => L.length - a.1) (fun a => [(1, .sl 4 none none), (4, .ptr 0 0), (6, .ptr 1 0), (15, .sl 4 none none), (16, .s (.i .i64 L.length)), (17, .s (.i .i64 a.1))])
    (fun a => [(0, some (.blk [.nils, .nils, .nils])), (1, some (.blk [.sl 2 none none, .sl 3 none none])), (2, some (.nest true 1 (rowsI a.2.1) [] [])), (3, some (.flat true 1 (bools a.2.2))), (4, some (.flat false 4 (stps L)))]) 5 (0, N, G) ⟨by omega, hW, hrep⟩ (by refine Weak.by [(0, some _), (1, some _), (2, some _), (3, some _), (4, some _)] (by ((repeat' first | exact rfl | exact trivial | refine And.intro ?_ ?_) <;> (repeat' first | exact rfl | exact trivial | refine And.intro ?_ ?_)); all_goals ((rw [stps_length]; rfl))) (by ((repeat' first | exact rfl | exact trivial | refine And.intro ?_ ?_) <;> (repeat' first | exact rfl | exact trivial | refine And.intro ?_ ?_)); all_goals ((rw [stps_length]; rfl))) (by rfl)) ?_
  clear hW hrep hNl
  rintro ⟨i, N, G⟩ ⟨hi, hW, hrep⟩
  dsimp only at hi hW hrep ⊢
  have hGN := hW.len
  refine Pick.by (fun hc => ?_) (fun hc => ?_)
  · have hlt : i < L.length := by simpa using hc
    obtain ⟨s, hs⟩ : ∃ s, L[i]? = some s := ⟨_, List.getElem?_eq_getElem hlt⟩
    have hse : L[i] = s := by rw [List.getElem?_eq_getElem hlt] at hs; injection hs
    have hrow : (stps L)[i]? = some [.i .i64 s.1, .i .i64 s.2.1, .i .i64 s.2.2.1, .b s.2.2.2] := by unfold stps; rw [List.getElem?_map, hs]; rfl
    have hdrop : L.drop i = s :: L.drop (i + 1) := by rw [List.drop_eq_getElem_cons hlt, hse]
    rw [hdrop] at hrep
    refine Idx.by i rfl (by rw [stps_length]; exact hlt) ?_
    refine Look.by _ hrow ?_
    refine Call.by _ _ (MayC_at s.1 hGN) ?_
    have hcS : cut (subOf none 0 0 i) (stps L) = stps (L.take i) := by
      simp only [subOf, cut, List.drop_zero, Nat.sub_zero, stps, List.map_take]
    have hcl := CloneC_at (l := L.take i) (by rw [List.length_take]; omega)
    rw [← hcS] at hcl
    refine Pick.by (fun hmy => ?_) (fun hmy => ?_)
    · have hmy : mayB N G s.1 = false := by have hmy : (!mayB N G s.1) = true := hmy; simpa using hmy
      rw [replS_no (by unfold mayStp; rw [hmy]; rfl), List.append_nil] at hrep
      rw [hrep]
      refine Seg.by (by kernel_rfl) ?_
      refine Rng.by 0 i rfl rfl (by omega) (by rw [stps_length]; omega) ?_
      refine Call.by _ _ hcl ?_
      refine Bar.by (by kernel_rfl) (by kernel_rfl) ?_
      have hGN := hW.len
      have hmo := hW.most
      have hNL := rowsI_length N
      refine LoopP.intro (α := Nat) (fun j => j ≤ N.length) (fun j => N.length - j) (fun j => [(2, .ptr 2 0), (4, .ptr 1 0), (5, .ptr 3 0), (13, .sl 4 none none), (14, .s (.i .i64 N.length)), (15, .s (.i .i64 j)), (1000004, .ptr 0 0)])
        (fun j => [(0, some (.blk [.nils, .nils, .nils])), (1, some (.blk [.nils, .nils, .nils])), (2, some (.blk [.sl 4 none none, .sl 5 none none])), (3, some (.blk [.sl 6 none none, .sl 7 none none, .sl 8 none none])), (4, some (.nest true 1 (rowsI N) [] [])), (5, some (.flat true 1 (bools G))), (6, some (.flat true 4 (stps (L.take i)))), (7, some (.flat true 1 (ints (leftK G j)))), (8, some (.flat true 2 (edges (edgesK N G j))))]) 9 0 (by omega) (by refine Weak.by [(0, some _), (1, some _), (2, some _), (3, some _), (4, some _), (5, some _), (6, some _), (7, none), (8, none)] (by ((repeat' first | exact rfl | exact trivial | refine And.intro ?_ ?_) <;> (repeat' first | exact rfl | exact trivial | refine And.intro ?_ ?_)); all_goals ((first | (rw [hNL]; rfl) | (exact hcS.symm)))) (by ((repeat' first | exact rfl | exact trivial | refine And.intro ?_ ?_) <;> (repeat' first | exact rfl | exact trivial | refine And.intro ?_ ?_)); all_goals ((first | (rw [hNL]; rfl) | (exact hcS.symm)))) (by rfl)) ?_
      rintro j hj
      have hlk := leftK_len G j
      have hek := edgesK_len hW j
      refine Pick.by (fun hd1 => ?_) (fun hd1 => ?_)
      · have hjl : j < N.length := by simpa using hd1
        have hgj : (bools G)[j]? = some [.b (G.getD j false)] := by
          refine bools_get ?_
          rw [List.getD_eq_getElem?_getD, List.getElem?_eq_getElem (by omega)]; rfl
        have hrj : (rowsI N)[j]? = some (ints (rowAt N j)) := by
          have := (rowAt_mem (N := N) (v := (j : Int)) (by omega) (by omega)).2
          exact rowsI_get this
        have hrl := hW.row_len (j : Int)
        refine Idx.by j rfl (by omega) ?_
        refine Pick.T (by rw [hNL]; simp; omega) ?_
        refine Idx.by j rfl (by rw [bools_length]; omega) ?_
        refine Look.by _ hgj ?_
        refine Pick.by (fun hd2 => ?_) (fun hd2 => ?_)
        · have hd2 : G.getD j false = true := hd2
          refine Pick.T (inI64_of (by omega) (by omega)) ?_
          refine Next.by (j + 1) (by omega) (by omega) (by refine Weak.by [(0, some _), (1, some _), (2, some _), (3, some _), (4, some _), (5, some _), (6, some _), (7, some _), (8, some _)] (by ((repeat' first | exact rfl | exact trivial | refine And.intro ?_ ?_) <;> (repeat' first | exact rfl | exact trivial | refine And.intro ?_ ?_)); all_goals ((first | (rw [leftK_succ, if_pos hd2, List.append_nil]) | (rw [edgesK_succ, if_pos hd2, List.append_nil])))) (by ((repeat' first | exact rfl | exact trivial | refine And.intro ?_ ?_) <;> (repeat' first | exact rfl | exact trivial | refine And.intro ?_ ?_)); all_goals ((first | (rw [leftK_succ, if_pos hd2, List.append_nil]) | (rw [edgesK_succ, if_pos hd2, List.append_nil])))) (by rfl))
        have hd2 : G.getD j false = false := hd2
        have hl1 : leftK G (j + 1) = leftK G j ++ [(j : Int)] := by rw [leftK_succ, if_neg (by rw [hd2]; simp)]
        have he1 : edgesK N G (j + 1) = edgesK N G j ++ outE N j := by rw [edgesK_succ, if_neg (by rw [hd2]; simp)]
        refine Pick.T (by simp [cut, ints_length]; omega) ?_
        refine Look.by _ hrj ?_
        refine LoopP.intro (α := Nat) (fun k => k ≤ (rowAt N j).length) (fun k => (rowAt N j).length - k) (fun k => [(2, .ptr 2 0), (4, .ptr 1 0), (5, .ptr 3 0), (6, .s (.i .i64 j)), (13, .sl 4 none none), (14, .s (.i .i64 N.length)), (15, .s (.i .i64 j)), (31, .sl 4 (some (j, 0)) none), (32, .s (.i .i64 (rowAt N j).length)), (33, .s (.i .i64 k)), (1000004, .ptr 0 0)])
          (fun k => [(0, some (.blk [.nils, .nils, .nils])), (1, some (.blk [.nils, .nils, .nils])), (2, some (.blk [.sl 4 none none, .sl 5 none none])), (3, some (.blk [.sl 6 none none, .sl 7 none none, .sl 8 none none])), (4, some (.nest true 1 (rowsI N) [] [])), (5, some (.flat true 1 (bools G))), (6, some (.flat true 4 (stps (L.take i)))), (7, some (.flat true 1 (ints (leftK G (j + 1))))), (8, some (.flat true 2 (edges (edgesK N G j ++ (((rowAt N j).take k).filter fun x => decide (x > (j : Int))).map fun x => ((j : Int), x)))))]) 9 0 (by omega) (by refine Weak.by [(0, some _), (1, some _), (2, some _), (3, some _), (4, some _), (5, some _), (6, some _), (7, some _), (8, some _)] (by ((repeat' first | exact rfl | exact trivial | refine And.intro ?_ ?_) <;> (repeat' first | exact rfl | exact trivial | refine And.intro ?_ ?_)); all_goals ((first | (rw [hl1, ints_snoc]; rfl) | (rw [List.take_zero]; simp; done) | (rw [ints_length]; rfl) | (simp; done)))) (by ((repeat' first | exact rfl | exact trivial | refine And.intro ?_ ?_) <;> (repeat' first | exact rfl | exact trivial | refine And.intro ?_ ?_)); all_goals ((first | (rw [hl1, ints_snoc]; rfl) | (rw [List.take_zero]; simp; done) | (rw [ints_length]; rfl) | (simp; done)))) (by rfl)) ?_
        rintro k hk
        have hpl : ((((rowAt N j).take k).filter fun x => decide (x > (j : Int))).map fun x => ((j : Int), x)).length ≤ 1000 := by
          rw [List.length_map]
          refine Nat.le_trans (List.length_filter_le _ _) ?_
          rw [List.length_take]; omega
        refine Pick.by (fun hd3 => ?_) (fun hd3 => ?_)
        · have hkl : k < (rowAt N j).length := by simpa using hd3
          obtain ⟨x, hx⟩ : ∃ x, (rowAt N j)[k]? = some x := ⟨_, List.getElem?_eq_getElem hkl⟩
          have hxe : (rowAt N j)[k] = x := by rw [List.getElem?_eq_getElem hkl] at hx; injection hx
          refine Look.by _ hrj ?_
          refine Idx.by k rfl (by rw [ints_length]; exact hkl) ?_
          refine Look.by _ hrj ?_
          refine Look.by _ (ints_get hx) ?_
          refine Pick.by (fun hd4 => ?_) (fun hd4 => ?_)
          · have hd4 : x > (j : Int) := by simpa using hd4
            refine Pick.T (by simp [cut, edges_length] at hpl ⊢; omega) ?_
            refine Pick.T (inI64_of (by omega) (by omega)) ?_
            refine Next.by (k + 1) (by omega) (by omega) (by refine Weak.by [(0, some _), (1, some _), (2, some _), (3, some _), (4, some _), (5, some _), (6, some _), (7, some _), (8, some _)] (by ((repeat' first | exact rfl | exact trivial | refine And.intro ?_ ?_) <;> (repeat' first | exact rfl | exact trivial | refine And.intro ?_ ?_)); all_goals ((first | (rw [List.take_succ_eq_append_getElem hkl, hxe, List.filter_append, List.map_append, List.filter_cons, if_pos (by simpa using hd4), List.filter_nil, ← List.append_assoc]; exact edges_snoc _ _) | (simp; done)))) (by ((repeat' first | exact rfl | exact trivial | refine And.intro ?_ ?_) <;> (repeat' first | exact rfl | exact trivial | refine And.intro ?_ ?_)); all_goals ((first | (rw [List.take_succ_eq_append_getElem hkl, hxe, List.filter_append, List.map_append, List.filter_cons, if_pos (by simpa using hd4), List.filter_nil, ← List.append_assoc]; exact edges_snoc _ _) | (simp; done)))) (by rfl))
          · have hd4 : ¬ x > (j : Int) := by simpa using hd4
            refine Pick.T (inI64_of (by omega) (by omega)) ?_
            refine Next.by (k + 1) (by omega) (by omega) (by refine Weak.by [(0, some _), (1, some _), (2, some _), (3, some _), (4, some _), (5, some _), (6, some _), (7, some _), (8, some _)] (by ((repeat' first | exact rfl | exact trivial | refine And.intro ?_ ?_) <;> (repeat' first | exact rfl | exact trivial | refine And.intro ?_ ?_)); all_goals ((first | (rw [List.take_succ_eq_append_getElem hkl, hxe, List.filter_append, List.map_append, List.filter_cons, if_neg (by simpa using hd4), List.filter_nil, List.map_nil, List.append_nil]) | (simp; done)))) (by ((repeat' first | exact rfl | exact trivial | refine And.intro ?_ ?_) <;> (repeat' first | exact rfl | exact trivial | refine And.intro ?_ ?_)); all_goals ((first | (rw [List.take_succ_eq_append_getElem hkl, hxe, List.filter_append, List.map_append, List.filter_cons, if_neg (by simpa using hd4), List.filter_nil, List.map_nil, List.append_nil]) | (simp; done)))) (by rfl))
        · have hkl : k = (rowAt N j).length := by simp at hd3; omega
          have hfull : edgesK N G (j + 1) = edgesK N G j ++ (((rowAt N j).take k).filter fun x => decide (x > (j : Int))).map fun x => ((j : Int), x) := by rw [he1, hkl, List.take_length]; rfl
          refine Pick.T (inI64_of (by omega) (by omega)) ?_
          refine Next.by (j + 1) (by omega) (by omega) (by refine Weak.by [(0, some _), (1, some _), (2, some _), (3, some _), (4, some _), (5, some _), (6, some _), (7, some _), (8, some _)] (by ((repeat' first | exact rfl | exact trivial | refine And.intro ?_ ?_) <;> (repeat' first | exact rfl | exact trivial | refine And.intro ?_ ?_)); all_goals ((rw [hfull]))) (by ((repeat' first | exact rfl | exact trivial | refine And.intro ?_ ?_) <;> (repeat' first | exact rfl | exact trivial | refine And.intro ?_ ?_)); all_goals ((rw [hfull]))) (by rfl))
      have hjl : j = N.length := by simp at hd1; omega
      subst hjl
      have e1 : leftF G = leftK G N.length := by unfold leftF leftK; rw [hGN]
      have e2 : edgesF N G = edgesK N G N.length := by unfold edgesF edgesK; rw [e1]
      refine Seg.by (by kernel_rfl) ?_
      refine ⟨rfl, ?_⟩
      (repeat' first | exact rfl | exact trivial | refine And.intro ?_ ?_)
      all_goals (first | exact congrArg ints e1 | exact congrArg edges e2)
    have hmy : mayB N G s.1 = true := by have hmy : (!mayB N G s.1) = false := hmy; simpa using hmy
    have hmp := mayB_iff.1 hmy
    refine Call.by _ _ (StepC_at ⟨hW, hmp.lo, hmp.hi⟩) ?_
    refine Seg.by (by kernel_rfl) ?_
    refine Pick.by (fun hne => ?_) (fun hne => ?_)
    · have hne : ¬ stepF N s.1 = s := by
        have hne2 : (!decide (stepF N s.1 = s)) = true := by rw [← eqStp]; exact hne
        simpa using hne2
      rw [replS_no (by unfold mayStp; rw [hmy, decide_eq_false hne]; rfl), List.append_nil] at hrep
      rw [hrep]
      refine Rng.by 0 i rfl rfl (by omega) (by rw [stps_length]; omega) ?_
      refine Call.by _ _ hcl ?_
      refine Bar.by (by kernel_rfl) (by kernel_rfl) ?_
      have hGN := hW.len
      have hmo := hW.most
      have hNL := rowsI_length N
      refine LoopP.intro (α := Nat) (fun j => j ≤ N.length) (fun j => N.length - j) (fun j => [(2, .ptr 2 0), (4, .ptr 1 0), (5, .ptr 3 0), (13, .sl 4 none none), (14, .s (.i .i64 N.length)), (15, .s (.i .i64 j)), (1000004, .ptr 0 0)])
        (fun j => [(0, some (.blk [.nils, .nils, .nils])), (1, some (.blk [.nils, .nils, .nils])), (2, some (.blk [.sl 4 none none, .sl 5 none none])), (3, some (.blk [.sl 6 none none, .sl 7 none none, .sl 8 none none])), (4, some (.nest true 1 (rowsI N) [] [])), (5, some (.flat true 1 (bools G))), (6, some (.flat true 4 (stps (L.take i)))), (7, some (.flat true 1 (ints (leftK G j)))), (8, some (.flat true 2 (edges (edgesK N G j))))]) 9 0 (by omega) (by refine Weak.by [(0, some _), (1, some _), (2, some _), (3, some _), (4, some _), (5, some _), (6, some _), (7, none), (8, none)] (by ((repeat' first | exact rfl | exact trivial | refine And.intro ?_ ?_) <;> (repeat' first | exact rfl | exact trivial | refine And.intro ?_ ?_)); all_goals ((first | (rw [hNL]; rfl) | (exact hcS.symm)))) (by ((repeat' first | exact rfl | exact trivial | refine And.intro ?_ ?_) <;> (repeat' first | exact rfl | exact trivial | refine And.intro ?_ ?_)); all_goals ((first | (rw [hNL]; rfl) | (exact hcS.symm)))) (by rfl)) ?_
      rintro j hj
      have hlk := leftK_len G j
      have hek := edgesK_len hW j
      refine Pick.by (fun hd1 => ?_) (fun hd1 => ?_)
      · have hjl : j < N.length := by simpa using hd1
        have hgj : (bools G)[j]? = some [.b (G.getD j false)] := by
          refine bools_get ?_
          rw [List.getD_eq_getElem?_getD, List.getElem?_eq_getElem (by omega)]; rfl
        have hrj : (rowsI N)[j]? = some (ints (rowAt N j)) := by
          have := (rowAt_mem (N := N) (v := (j : Int)) (by omega) (by omega)).2
          exact rowsI_get this
        have hrl := hW.row_len (j : Int)
        refine Idx.by j rfl (by omega) ?_
        refine Pick.T (by rw [hNL]; simp; omega) ?_
        refine Idx.by j rfl (by rw [bools_length]; omega) ?_
        refine Look.by _ hgj ?_
        refine Pick.by (fun hd2 => ?_) (fun hd2 => ?_)
        · have hd2 : G.getD j false = true := hd2
          refine Pick.T (inI64_of (by omega) (by omega)) ?_
          refine Next.by (j + 1) (by omega) (by omega) (by refine Weak.by [(0, some _), (1, some _), (2, some _), (3, some _), (4, some _), (5, some _), (6, some _), (7, some _), (8, some _)] (by ((repeat' first | exact rfl | exact trivial | refine And.intro ?_ ?_) <;> (repeat' first | exact rfl | exact trivial | refine And.intro ?_ ?_)); all_goals ((first | (rw [leftK_succ, if_pos hd2, List.append_nil]) | (rw [edgesK_succ, if_pos hd2, List.append_nil])))) (by ((repeat' first | exact rfl | exact trivial | refine And.intro ?_ ?_) <;> (repeat' first | exact rfl | exact trivial | refine And.intro ?_ ?_)); all_goals ((first | (rw [leftK_succ, if_pos hd2, List.append_nil]) | (rw [edgesK_succ, if_pos hd2, List.append_nil])))) (by rfl))
        have hd2 : G.getD j false = false := hd2
        have hl1 : leftK G (j + 1) = leftK G j ++ [(j : Int)] := by rw [leftK_succ, if_neg (by rw [hd2]; simp)]
        have he1 : edgesK N G (j + 1) = edgesK N G j ++ outE N j := by rw [edgesK_succ, if_neg (by rw [hd2]; simp)]
        refine Pick.T (by simp [cut, ints_length]; omega) ?_
        refine Look.by _ hrj ?_
        refine LoopP.intro (α := Nat) (fun k => k ≤ (rowAt N j).length) (fun k => (rowAt N j).length - k) (fun k => [(2, .ptr 2 0), (4, .ptr 1 0), (5, .ptr 3 0), (6, .s (.i .i64 j)), (13, .sl 4 none none), (14, .s (.i .i64 N.length)), (15, .s (.i .i64 j)), (31, .sl 4 (some (j, 0)) none), (32, .s (.i .i64 (rowAt N j).length)), (33, .s (.i .i64 k)), (1000004, .ptr 0 0)])
          (fun k => [(0, some (.blk [.nils, .nils, .nils])), (1, some (.blk [.nils, .nils, .nils])), (2, some (.blk [.sl 4 none none, .sl 5 none none])), (3, some (.blk [.sl 6 none none, .sl 7 none none, .sl 8 none none])), (4, some (.nest true 1 (rowsI N) [] [])), (5, some (.flat true 1 (bools G))), (6, some (.flat true 4 (stps (L.take i)))), (7, some (.flat true 1 (ints (leftK G (j + 1))))), (8, some (.flat true 2 (edges (edgesK N G j ++ (((rowAt N j).take k).filter fun x => decide (x > (j : Int))).map fun x => ((j : Int), x)))))]) 9 0 (by omega) (by refine Weak.by [(0, some _), (1, some _), (2, some _), (3, some _), (4, some _), (5, some _), (6, some _), (7, some _), (8, some _)] (by ((repeat' first | exact rfl | exact trivial | refine And.intro ?_ ?_) <;> (repeat' first | exact rfl | exact trivial | refine And.intro ?_ ?_)); all_goals ((first | (rw [hl1, ints_snoc]; rfl) | (rw [List.take_zero]; simp; done) | (rw [ints_length]; rfl) | (simp; done)))) (by ((repeat' first | exact rfl | exact trivial | refine And.intro ?_ ?_) <;> (repeat' first | exact rfl | exact trivial | refine And.intro ?_ ?_)); all_goals ((first | (rw [hl1, ints_snoc]; rfl) | (rw [List.take_zero]; simp; done) | (rw [ints_length]; rfl) | (simp; done)))) (by rfl)) ?_
        rintro k hk
        have hpl : ((((rowAt N j).take k).filter fun x => decide (x > (j : Int))).map fun x => ((j : Int), x)).length ≤ 1000 := by
          rw [List.length_map]
          refine Nat.le_trans (List.length_filter_le _ _) ?_
          rw [List.length_take]; omega
        refine Pick.by (fun hd3 => ?_) (fun hd3 => ?_)
        · have hkl : k < (rowAt N j).length := by simpa using hd3
          obtain ⟨x, hx⟩ : ∃ x, (rowAt N j)[k]? = some x := ⟨_, List.getElem?_eq_getElem hkl⟩
          have hxe : (rowAt N j)[k] = x := by rw [List.getElem?_eq_getElem hkl] at hx; injection hx
          refine Look.by _ hrj ?_
          refine Idx.by k rfl (by rw [ints_length]; exact hkl) ?_
          refine Look.by _ hrj ?_
          refine Look.by _ (ints_get hx) ?_
          refine Pick.by (fun hd4 => ?_) (fun hd4 => ?_)
          · have hd4 : x > (j : Int) := by simpa using hd4
            refine Pick.T (by simp [cut, edges_length] at hpl ⊢; omega) ?_
            refine Pick.T (inI64_of (by omega) (by omega)) ?_
            refine Next.by (k + 1) (by omega) (by omega) (by refine Weak.by [(0, some _), (1, some _), (2, some _), (3, some _), (4, some _), (5, some _), (6, some _), (7, some _), (8, some _)] (by ((repeat' first | exact rfl | exact trivial | refine And.intro ?_ ?_) <;> (repeat' first | exact rfl | exact trivial | refine And.intro ?_ ?_)); all_goals ((first | (rw [List.take_succ_eq_append_getElem hkl, hxe, List.filter_append, List.map_append, List.filter_cons, if_pos (by simpa using hd4), List.filter_nil, ← List.append_assoc]; exact edges_snoc _ _) | (simp; done)))) (by ((repeat' first | exact rfl | exact trivial | refine And.intro ?_ ?_) <;> (repeat' first | exact rfl | exact trivial | refine And.intro ?_ ?_)); all_goals ((first | (rw [List.take_succ_eq_append_getElem hkl, hxe, List.filter_append, List.map_append, List.filter_cons, if_pos (by simpa using hd4), List.filter_nil, ← List.append_assoc]; exact edges_snoc _ _) | (simp; done)))) (by rfl))
          · have hd4 : ¬ x > (j : Int) := by simpa using hd4
            refine Pick.T (inI64_of (by omega) (by omega)) ?_
            refine Next.by (k + 1) (by omega) (by omega) (by refine Weak.by [(0, some _), (1, some _), (2, some _), (3, some _), (4, some _), (5, some _), (6, some _), (7, some _), (8, some _)] (by ((repeat' first | exact rfl | exact trivial | refine And.intro ?_ ?_) <;> (repeat' first | exact rfl | exact trivial | refine And.intro ?_ ?_)); all_goals ((first | (rw [List.take_succ_eq_append_getElem hkl, hxe, List.filter_append, List.map_append, List.filter_cons, if_neg (by simpa using hd4), List.filter_nil, List.map_nil, List.append_nil]) | (simp; done)))) (by ((repeat' first | exact rfl | exact trivial | refine And.intro ?_ ?_) <;> (repeat' first | exact rfl | exact trivial | refine And.intro ?_ ?_)); all_goals ((first | (rw [List.take_succ_eq_append_getElem hkl, hxe, List.filter_append, List.map_append, List.filter_cons, if_neg (by simpa using hd4), List.filter_nil, List.map_nil, List.append_nil]) | (simp; done)))) (by rfl))
        · have hkl : k = (rowAt N j).length := by simp at hd3; omega
          have hfull : edgesK N G (j + 1) = edgesK N G j ++ (((rowAt N j).take k).filter fun x => decide (x > (j : Int))).map fun x => ((j : Int), x) := by rw [he1, hkl, List.take_length]; rfl
          refine Pick.T (inI64_of (by omega) (by omega)) ?_
          refine Next.by (j + 1) (by omega) (by omega) (by refine Weak.by [(0, some _), (1, some _), (2, some _), (3, some _), (4, some _), (5, some _), (6, some _), (7, some _), (8, some _)] (by ((repeat' first | exact rfl | exact trivial | refine And.intro ?_ ?_) <;> (repeat' first | exact rfl | exact trivial | refine And.intro ?_ ?_)); all_goals ((rw [hfull]))) (by ((repeat' first | exact rfl | exact trivial | refine And.intro ?_ ?_) <;> (repeat' first | exact rfl | exact trivial | refine And.intro ?_ ?_)); all_goals ((rw [hfull]))) (by rfl))
      have hjl : j = N.length := by simp at hd1; omega
      subst hjl
      have e1 : leftF G = leftK G N.length := by unfold leftF leftK; rw [hGN]
      have e2 : edgesF N G = edgesK N G N.length := by unfold edgesF edgesK; rw [e1]
      refine Seg.by (by kernel_rfl) ?_
      refine ⟨rfl, ?_⟩
      (repeat' first | exact rfl | exact trivial | refine And.intro ?_ ?_)
      all_goals (first | exact congrArg ints e1 | exact congrArg edges e2)
    have hne : stepF N s.1 = s := by
      have hne2 : (!decide (stepF N s.1 = s)) = false := by rw [← eqStp]; exact hne
      simpa using hne2
    rw [replS_go (by unfold mayStp; rw [hmy, decide_eq_true hne]; rfl)] at hrep
    obtain ⟨V, hV⟩ : ∃ V, s.1 = V := ⟨_, rfl⟩
    rw [hV] at hmp hne hmy
    subst hne
    obtain ⟨hs1, hs2⟩ := step_two hW hmp rfl
    have hlo := hmp.lo
    have hhi := hmp.hi
    have hrv := hW.rows V
    have hnd : (rowAt N V).Nodup := hrv.1.imp fun hab => by omega
    have hNL := rowsI_length N
    have hmo := hW.most
    have hrl := hW.row_len V
    have hgv : (rowsI N)[(V).toNat]? = some (ints (rowAt N V)) := rowsI_get (rowAt_mem hlo hhi).2
    have hvv : V ∉ rowAt N V := hW.irr V hlo
    have hpart : ∀ (di : Nat) (u : Int), 0 ≤ u → rowAt (((rowAt N V).take di).foldl (cutF V) N) u = if u ∈ (rowAt N V).take di then (rowAt N u).erase V else rowAt N u := fun di u hu => cuts_row (hnd.sublist (List.take_sublist _ _)) (fun x hx => hrv.2 x (List.mem_of_mem_take hx)) hu
    have hplen : ∀ di : Nat, (rowsI (((rowAt N V).take di).foldl (cutF V) N)).length = N.length := fun di => by rw [rowsI_length, cuts_length]
    have hpget : ∀ (di : Nat) (u : Int), 0 ≤ u → u < N.length → (rowsI (((rowAt N V).take di).foldl (cutF V) N))[u.toNat]? = some (ints (rowAt (((rowAt N V).take di).foldl (cutF V) N) u)) := fun di u h0 h1 => rowsI_get (rowAt_mem h0 (by rw [cuts_length]; exact h1)).2
    refine Idx.by (V).toNat (by show (V : Int) = _; omega) (by omega) ?_
    refine Pick.T (by rw [hNL]; simp; omega) ?_
    refine Look.by _ hgv ?_
    refine LoopP.intro (α := Nat) (fun di => di ≤ (rowAt N V).length) (fun di => (rowAt N V).length - di) (fun di => [(2, .ptr 8 0), (3, .ptr 9 0), (11, .sl 2 (some ((V).toNat, 0)) none), (12, .s (.i .i64 (rowAt N V).length)), (13, .s (.i .i64 di)), (1000001, .sl 4 none none), (1000004, .ptr 0 0), (1000006, .ptr 1 0), (1000015, .sl 4 none none), (1000016, .s (.i .i64 L.length)), (1000017, .s (.i .i64 i))])
      (fun di => [(0, some (.blk [.nils, .nils, .nils])), (1, some (.blk [.sl 2 none none, .sl 3 none none])), (4, some (.flat false 4 (stps L))), (2, some (.nest true 1 (rowsI (((rowAt N V).take di).foldl (cutF V) N)) [] [])), (3, some (.flat true 1 (bools G))), (8, some (.blk [.sl 2 none none, .sl 3 none none])), (9, some (.blk [.s (.i .i64 (stepF N V).1), .s (.i .i64 (stepF N V).2.1), .s (.i .i64 (stepF N V).2.2.1), .s (.b (stepF N V).2.2.2)]))]) 10 0 (by omega) (by refine Weak.by [(0, some _), (1, some _), (2, some _), (3, some _), (4, some _), (8, some _), (9, some _)] (by ((repeat' first | exact rfl | exact trivial | refine And.intro ?_ ?_) <;> (repeat' first | exact rfl | exact trivial | refine And.intro ?_ ?_)); all_goals ((first | (rw [ints_length]; rfl) | (simp; done)))) (by ((repeat' first | exact rfl | exact trivial | refine And.intro ?_ ?_) <;> (repeat' first | exact rfl | exact trivial | refine And.intro ?_ ?_)); all_goals ((first | (rw [ints_length]; rfl) | (simp; done)))) (by rfl)) ?_
    rintro di hi
    refine Pick.by (fun hc1 => ?_) (fun hc1 => ?_)
    · have hil : di < (rowAt N V).length := by simpa using hc1
      obtain ⟨x, hx⟩ : ∃ x, (rowAt N V)[di]? = some x := ⟨_, List.getElem?_eq_getElem hil⟩
      have hxm := List.mem_of_getElem? hx
      have hxr := hrv.2 x hxm
      have hxv : x ≠ V := fun e => hvv (e ▸ hxm)
      have hgi : (rowsI (((rowAt N V).take di).foldl (cutF V) N))[(V).toNat]? = some (ints (rowAt N V)) := by
        rw [hpget di V hlo hhi, hpart di V hlo, if_neg fun h => hvv (List.mem_of_mem_take h)]
      have hrx := hpget di x hxr.1 hxr.2
      have hstp : ((rowAt N V).take (di + 1)).foldl (cutF V) N = cutF V (((rowAt N V).take di).foldl (cutF V) N) x := by
        rw [List.take_succ_eq_append_getElem hil, List.foldl_append]
        have : (rowAt N V)[di] = x := by rw [List.getElem?_eq_getElem hil] at hx; injection hx
        rw [this]; rfl
      have hwx : (rowAt (((rowAt N V).take di).foldl (cutF V) N) x).Pairwise (· ≤ ·) ∧ (rowAt (((rowAt N V).take di).foldl (cutF V) N) x).length ≤ 1000000 := by
        have h1 := hW.rows x
        have h2 := hW.row_len x
        rw [hpart di x hxr.1]
        split
        · have h3 := List.length_erase_le (l := rowAt N x) (a := V)
          exact ⟨(erase_sorted h1.1).imp fun h => by omega, by omega⟩
        · exact ⟨h1.1.imp fun h => by omega, by omega⟩
      have hpl := hplen di
      refine Look.by _ hgi ?_
      refine Idx.by di rfl (by rw [ints_length]; exact hil) ?_
      refine Look.by _ hgi ?_
      refine Look.by _ (ints_get hx) ?_
      refine Idx.by x.toNat (by omega) (by omega) ?_
      refine Pick.T (by rw [hpl]; simp; omega) ?_
      refine Look.by _ hrx ?_
      refine Call.by _ _ (turnC_at hwx) ?_
      refine Idx.by x.toNat (by omega) (by omega) ?_
      refine Pick.T (by rw [hpl]; simp; omega) ?_
      refine Pick.T (by simp) ?_
      refine Seg.by (by kernel_rfl) ?_
      refine Pick.T (inI64_of (by omega) (by omega)) ?_
      refine Next.by (di + 1) (by omega) (by omega) (by refine Weak.by [(0, some _), (1, some _), (2, some _), (3, some _), (4, some _), (8, some _), (9, some _)] (by ((repeat' first | exact rfl | exact trivial | refine And.intro ?_ ?_) <;> (repeat' first | exact rfl | exact trivial | refine And.intro ?_ ?_)); all_goals ((first | (rw [hstp]; unfold cutF; rw [rowsI_set]; rfl) | (simp; done) | (simp; omega)))) (by ((repeat' first | exact rfl | exact trivial | refine And.intro ?_ ?_) <;> (repeat' first | exact rfl | exact trivial | refine And.intro ?_ ?_)); all_goals ((first | (rw [hstp]; unfold cutF; rw [rowsI_set]; rfl) | (simp; done) | (simp; omega)))) (by rfl))
    have hil : di = (rowAt N V).length := by simp at hc1; omega
    subst hil
    rw [List.take_length]
    have hN1 : ∀ u : Int, 0 ≤ u → rowAt ((rowAt N V).foldl (cutF V) N) u = (rowAt N u).erase V := fun u hu => by
      rw [cuts_row hnd hrv.2 hu]
      split
      · rfl
      · rename_i hno
        rw [List.erase_of_not_mem]
        exact fun h => hno (hW.sym u V hu hlo h)
    have hl1 : (rowsI ((rowAt N V).foldl (cutF V) N)).length = N.length := by rw [rowsI_length, cuts_length]
    refine JoinP.intro (α := Unit) (fun _ => True) (fun _ => [(2, .ptr 8 0), (3, .ptr 9 0), (1000001, .sl 4 none none), (1000004, .ptr 0 0), (1000006, .ptr 1 0), (1000015, .sl 4 none none), (1000016, .s (.i .i64 L.length)), (1000017, .s (.i .i64 i))])
      (fun _ => [(0, some (.blk [.nils, .nils, .nils])), (1, some (.blk [.sl 2 none none, .sl 3 none none])), (4, some (.flat false 4 (stps L))), (2, some (.nest true 1 (rowsI (if (stepF N V).2.2.2 then joinF (joinF ((rowAt N V).foldl (cutF V) N) (stepF N V).2.1 (stepF N V).2.2.1) (stepF N V).2.2.1 (stepF N V).2.1 else (rowAt N V).foldl (cutF V) N)) [] [])), (3, some (.flat true 1 (bools G))), (8, some (.blk [.sl 2 none none, .sl 3 none none])), (9, some (.blk [.s (.i .i64 (stepF N V).1), .s (.i .i64 (stepF N V).2.1), .s (.i .i64 (stepF N V).2.2.1), .s (.b (stepF N V).2.2.2)]))]) 10 ?_ ?_
    rotate_left
    · rintro ⟨⟩ -
      have hl2 : (rowsI (if (stepF N V).2.2.2 then joinF (joinF ((rowAt N V).foldl (cutF V) N) (stepF N V).2.1 (stepF N V).2.2.1) (stepF N V).2.2.1 (stepF N V).2.1 else (rowAt N V).foldl (cutF V) N)).length = N.length := by
        rw [rowsI_length]
        split
        · rw [joinF_length, joinF_length, cuts_length]
        · rw [cuts_length]
      have hdo : (rowsI (if (stepF N V).2.2.2 then joinF (joinF ((rowAt N V).foldl (cutF V) N) (stepF N V).2.1 (stepF N V).2.2.1) (stepF N V).2.2.1 (stepF N V).2.1 else (rowAt N V).foldl (cutF V) N)).set (V).toNat [] = rowsI (doN N (stepF N V)) := by
        unfold doN
        rw [rowsI_set]; rfl
      have hdg : (bools G).set (V).toNat [.b true] = bools (doG G (stepF N V)) := by
        unfold doG bools
        rw [List.map_set]; rfl
      generalize rowsI (if (stepF N V).2.2.2 then joinF (joinF ((rowAt N V).foldl (cutF V) N) (stepF N V).2.1 (stepF N V).2.2.1) (stepF N V).2.2.1 (stepF N V).2.1 else (rowAt N V).foldl (cutF V) N) = RR at hl2 hdo ⊢
      refine Idx.by (V).toNat (by show (V : Int) = _; omega) (by omega) ?_
      refine Pick.T (by rw [hl2]; simp; omega) ?_
      refine Idx.by (V).toNat (by show (V : Int) = _; omega) (by rw [bools_length, hW.len]; omega) ?_
      refine Look.by _ (bools_get (goneAt_get hW.len hlo hhi)) ?_
      refine Seg.by (by kernel_rfl) ?_
      refine Pick.T (inI64_of (by omega) (by omega)) ?_
      refine Next.by (i + 1, doN N (stepF N V), doG G (stepF N V)) ⟨by dsimp only; omega, do_wf hW hmp, ?_⟩ (by dsimp only; omega) (by refine Weak.by [(0, some _), (1, some _), (2, some _), (3, some _), (4, some _)] (by ((repeat' first | exact rfl | exact trivial | refine And.intro ?_ ?_) <;> (repeat' first | exact rfl | exact trivial | refine And.intro ?_ ?_)); all_goals ((first | (exact hdo.symm) | (exact hdg.symm)))) (by ((repeat' first | exact rfl | exact trivial | refine And.intro ?_ ?_) <;> (repeat' first | exact rfl | exact trivial | refine And.intro ?_ ?_)); all_goals ((first | (exact hdo.symm) | (exact hdg.symm)))) (by rfl))
      dsimp only
      rw [hrep, List.take_succ_eq_append_getElem hlt, hse, List.append_assoc]; rfl
    refine Pick.by (fun had => ?_) (fun had => ?_)
    · have had : (stepF N V).2.2.2 = true := had
      rw [if_pos had]
      rcases hs2 with ⟨_, _, _, e⟩ | ⟨_, _, _, _, e⟩ | ⟨a, b, hlv, hab, ea, eb, ec⟩
      · rw [had] at e; cases e
      · rw [had] at e; cases e
      have har := hrv.2 a (by rw [hlv]; simp)
      have hbr := hrv.2 b (by rw [hlv]; simp)
      have hra : (rowsI ((rowAt N V).foldl (cutF V) N))[a.toNat]? = some (ints ((rowAt N a).erase V)) := by
        have h1 := rowsI_get (rowAt_mem (N := (rowAt N V).foldl (cutF V) N) har.1 (by rw [cuts_length]; exact har.2)).2
        rw [hN1 a har.1] at h1
        exact h1
      have hrb : (rowsI ((rowAt N V).foldl (cutF V) N))[b.toNat]? = some (ints ((rowAt N b).erase V)) := by
        have h1 := rowsI_get (rowAt_mem (N := (rowAt N V).foldl (cutF V) N) hbr.1 (by rw [cuts_length]; exact hbr.2)).2
        rw [hN1 b hbr.1] at h1
        exact h1
      have hok : ∀ u, ((rowAt N u).erase V).Pairwise (· ≤ ·) ∧ ((rowAt N u).erase V).length ≤ 1000000 := fun u => by
        have h1 := hW.rows u
        have h2 := hW.row_len u
        have h3 := List.length_erase_le (l := rowAt N u) (a := V)
        exact ⟨(erase_sorted h1.1).imp fun h => by omega, by omega⟩
      rw [ea, eb]
      have hj : rowsI (joinF (joinF ((rowAt N V).foldl (cutF V) N) a b) b a) = ((rowsI ((rowAt N V).foldl (cutF V) N)).set a.toNat (ints (insAt ((rowAt N a).erase V) b))).set b.toNat (ints (insAt ((rowAt N b).erase V) a)) := by
        have e1 : rowAt (joinF ((rowAt N V).foldl (cutF V) N) a b) b = (rowAt N b).erase V := by
          unfold joinF
          rw [rowAt_set har.1 (by rw [cuts_length]; exact har.2) hbr.1, if_neg (by omega), hN1 b hbr.1]
        show rowsI ((joinF ((rowAt N V).foldl (cutF V) N) a b).set b.toNat (insAt (rowAt (joinF ((rowAt N V).foldl (cutF V) N) a b) b) a)) = _
        rw [e1, rowsI_set]
        unfold joinF
        rw [rowsI_set, hN1 a har.1]
      have hma : (rowsI ((rowAt N V).foldl (cutF V) N)).set a.toNat (ints (insAt ((rowAt N a).erase V) b)) ≠ [] ∨ True := .inr trivial
      have hl3 : ((rowsI ((rowAt N V).foldl (cutF V) N)).set a.toNat (ints (insAt ((rowAt N a).erase V) b))).length = N.length := by rw [List.length_set, hl1]
      have hrb2 : ((rowsI ((rowAt N V).foldl (cutF V) N)).set a.toNat (ints (insAt ((rowAt N a).erase V) b)))[b.toNat]? = some (ints ((rowAt N b).erase V)) := by rw [List.getElem?_set_ne (by omega)]; exact hrb
      refine Idx.by a.toNat (by omega) (by omega) ?_
      refine Pick.T (by rw [hl1]; simp; omega) ?_
      refine Look.by _ hra ?_
      refine Call.by _ _ (turnC_at (hok a)) ?_
      refine Idx.by a.toNat (by omega) (by omega) ?_
      refine Pick.T (by rw [hl1]; simp; omega) ?_
      refine Pick.T (by simp) ?_
      refine Seg.by (by kernel_rfl) ?_
      refine Idx.by b.toNat (by omega) (by omega) ?_
      refine Pick.T (by rw [hl3]; simp; omega) ?_
      refine Look.by _ hrb2 ?_
      refine Call.by _ _ (turnC_at (hok b)) ?_
      refine Idx.by b.toNat (by omega) (by omega) ?_
      refine Pick.T (by rw [hl3]; simp; omega) ?_
      refine Pick.T (by simp) ?_
      refine Seg.by (by kernel_rfl) ?_
      exact ⟨(), trivial, by refine Weak.by [(0, some _), (1, some _), (2, some _), (3, some _), (4, some _), (8, some _), (9, some _)] (by ((repeat' first | exact rfl | exact trivial | refine And.intro ?_ ?_) <;> (repeat' first | exact rfl | exact trivial | refine And.intro ?_ ?_)); all_goals ((exact hj))) (by ((repeat' first | exact rfl | exact trivial | refine And.intro ?_ ?_) <;> (repeat' first | exact rfl | exact trivial | refine And.intro ?_ ?_)); all_goals ((exact hj))) (by rfl)⟩
    · have had : (stepF N V).2.2.2 = false := had
      rw [if_neg (by rw [had]; simp)]
      exact ⟨(), trivial, by refine Weak.by [(0, some _), (1, some _), (2, some _), (3, some _), (4, some _), (8, some _), (9, some _)] (by ((repeat' first | exact rfl | exact trivial | refine And.intro ?_ ?_) <;> (repeat' first | exact rfl | exact trivial | refine And.intro ?_ ?_))) (by ((repeat' first | exact rfl | exact trivial | refine And.intro ?_ ?_) <;> (repeat' first | exact rfl | exact trivial | refine And.intro ?_ ?_))) (by rfl)⟩
  · have hge : i = L.length := by simp at hc; omega
    subst hge
    have hcl := CloneC_at (l := L) hL
    have hend : replS (L.drop L.length) N G = ([], true, N, G) := by rw [List.drop_length]; rfl
    rw [hend, List.take_length, List.append_nil] at hrep
    rw [hrep]
    refine Call.by _ _ hcl ?_
    refine Bar.by (by kernel_rfl) (by kernel_rfl) ?_
    have hGN := hW.len
    have hmo := hW.most
    have hNL := rowsI_length N
    refine LoopP.intro (α := Nat) (fun j => j ≤ N.length) (fun j => N.length - j) (fun j => [(2, .ptr 2 0), (4, .ptr 1 0), (5, .ptr 3 0), (13, .sl 4 none none), (14, .s (.i .i64 N.length)), (15, .s (.i .i64 j)), (1000004, .ptr 0 0)])
      (fun j => [(0, some (.blk [.nils, .nils, .nils])), (1, some (.blk [.nils, .nils, .nils])), (2, some (.blk [.sl 4 none none, .sl 5 none none])), (3, some (.blk [.sl 6 none none, .sl 7 none none, .sl 8 none none])), (4, some (.nest true 1 (rowsI N) [] [])), (5, some (.flat true 1 (bools G))), (6, some (.flat true 4 (stps L))), (7, some (.flat true 1 (ints (leftK G j)))), (8, some (.flat true 2 (edges (edgesK N G j))))]) 9 0 (by omega) (by refine Weak.by [(0, some _), (1, some _), (2, some _), (3, some _), (4, some _), (5, some _), (6, some _), (7, none), (8, none)] (by ((repeat' first | exact rfl | exact trivial | refine And.intro ?_ ?_) <;> (repeat' first | exact rfl | exact trivial | refine And.intro ?_ ?_)); all_goals ((first | (rw [hNL]; rfl) | done))) (by ((repeat' first | exact rfl | exact trivial | refine And.intro ?_ ?_) <;> (repeat' first | exact rfl | exact trivial | refine And.intro ?_ ?_)); all_goals ((first | (rw [hNL]; rfl) | done))) (by rfl)) ?_
    rintro j hj
    have hlk := leftK_len G j
    have hek := edgesK_len hW j
    refine Pick.by (fun hd1 => ?_) (fun hd1 => ?_)
    · have hjl : j < N.length := by simpa using hd1
      have hgj : (bools G)[j]? = some [.b (G.getD j false)] := by
        refine bools_get ?_
        rw [List.getD_eq_getElem?_getD, List.getElem?_eq_getElem (by omega)]; rfl
      have hrj : (rowsI N)[j]? = some (ints (rowAt N j)) := by
        have := (rowAt_mem (N := N) (v := (j : Int)) (by omega) (by omega)).2
        exact rowsI_get this
      have hrl := hW.row_len (j : Int)
      refine Idx.by j rfl (by omega) ?_
      refine Pick.T (by rw [hNL]; simp; omega) ?_
      refine Idx.by j rfl (by rw [bools_length]; omega) ?_
      refine Look.by _ hgj ?_
      refine Pick.by (fun hd2 => ?_) (fun hd2 => ?_)
      · have hd2 : G.getD j false = true := hd2
        refine Pick.T (inI64_of (by omega) (by omega)) ?_
        refine Next.by (j + 1) (by omega) (by omega) (by refine Weak.by [(0, some _), (1, some _), (2, some _), (3, some _), (4, some _), (5, some _), (6, some _), (7, some _), (8, some _)] (by ((repeat' first | exact rfl | exact trivial | refine And.intro ?_ ?_) <;> (repeat' first | exact rfl | exact trivial | refine And.intro ?_ ?_)); all_goals ((first | (rw [leftK_succ, if_pos hd2, List.append_nil]) | (rw [edgesK_succ, if_pos hd2, List.append_nil])))) (by ((repeat' first | exact rfl | exact trivial | refine And.intro ?_ ?_) <;> (repeat' first | exact rfl | exact trivial | refine And.intro ?_ ?_)); all_goals ((first | (rw [leftK_succ, if_pos hd2, List.append_nil]) | (rw [edgesK_succ, if_pos hd2, List.append_nil])))) (by rfl))
      have hd2 : G.getD j false = false := hd2
      have hl1 : leftK G (j + 1) = leftK G j ++ [(j : Int)] := by rw [leftK_succ, if_neg (by rw [hd2]; simp)]
      have he1 : edgesK N G (j + 1) = edgesK N G j ++ outE N j := by rw [edgesK_succ, if_neg (by rw [hd2]; simp)]
      refine Pick.T (by simp [cut, ints_length]; omega) ?_
      refine Look.by _ hrj ?_
      refine LoopP.intro (α := Nat) (fun k => k ≤ (rowAt N j).length) (fun k => (rowAt N j).length - k) (fun k => [(2, .ptr 2 0), (4, .ptr 1 0), (5, .ptr 3 0), (6, .s (.i .i64 j)), (13, .sl 4 none none), (14, .s (.i .i64 N.length)), (15, .s (.i .i64 j)), (31, .sl 4 (some (j, 0)) none), (32, .s (.i .i64 (rowAt N j).length)), (33, .s (.i .i64 k)), (1000004, .ptr 0 0)])
        (fun k => [(0, some (.blk [.nils, .nils, .nils])), (1, some (.blk [.nils, .nils, .nils])), (2, some (.blk [.sl 4 none none, .sl 5 none none])), (3, some (.blk [.sl 6 none none, .sl 7 none none, .sl 8 none none])), (4, some (.nest true 1 (rowsI N) [] [])), (5, some (.flat true 1 (bools G))), (6, some (.flat true 4 (stps L))), (7, some (.flat true 1 (ints (leftK G (j + 1))))), (8, some (.flat true 2 (edges (edgesK N G j ++ (((rowAt N j).take k).filter fun x => decide (x > (j : Int))).map fun x => ((j : Int), x)))))]) 9 0 (by omega) (by refine Weak.by [(0, some _), (1, some _), (2, some _), (3, some _), (4, some _), (5, some _), (6, some _), (7, some _), (8, some _)] (by ((repeat' first | exact rfl | exact trivial | refine And.intro ?_ ?_) <;> (repeat' first | exact rfl | exact trivial | refine And.intro ?_ ?_)); all_goals ((first | (rw [hl1, ints_snoc]; rfl) | (rw [List.take_zero]; simp; done) | (rw [ints_length]; rfl) | (simp; done)))) (by ((repeat' first | exact rfl | exact trivial | refine And.intro ?_ ?_) <;> (repeat' first | exact rfl | exact trivial | refine And.intro ?_ ?_)); all_goals ((first | (rw [hl1, ints_snoc]; rfl) | (rw [List.take_zero]; simp; done) | (rw [ints_length]; rfl) | (simp; done)))) (by rfl)) ?_
      rintro k hk
      have hpl : ((((rowAt N j).take k).filter fun x => decide (x > (j : Int))).map fun x => ((j : Int), x)).length ≤ 1000 := by
        rw [List.length_map]
        refine Nat.le_trans (List.length_filter_le _ _) ?_
        rw [List.length_take]; omega
      refine Pick.by (fun hd3 => ?_) (fun hd3 => ?_)
      · have hkl : k < (rowAt N j).length := by simpa using hd3
        obtain ⟨x, hx⟩ : ∃ x, (rowAt N j)[k]? = some x := ⟨_, List.getElem?_eq_getElem hkl⟩
        have hxe : (rowAt N j)[k] = x := by rw [List.getElem?_eq_getElem hkl] at hx; injection hx
        refine Look.by _ hrj ?_
        refine Idx.by k rfl (by rw [ints_length]; exact hkl) ?_
        refine Look.by _ hrj ?_
        refine Look.by _ (ints_get hx) ?_
        refine Pick.by (fun hd4 => ?_) (fun hd4 => ?_)
        · have hd4 : x > (j : Int) := by simpa using hd4
          refine Pick.T (by simp [cut, edges_length] at hpl ⊢; omega) ?_
          refine Pick.T (inI64_of (by omega) (by omega)) ?_
          refine Next.by (k + 1) (by omega) (by omega) (by refine Weak.by [(0, some _), (1, some _), (2, some _), (3, some _), (4, some _), (5, some _), (6, some _), (7, some _), (8, some _)] (by ((repeat' first | exact rfl | exact trivial | refine And.intro ?_ ?_) <;> (repeat' first | exact rfl | exact trivial | refine And.intro ?_ ?_)); all_goals ((first | (rw [List.take_succ_eq_append_getElem hkl, hxe, List.filter_append, List.map_append, List.filter_cons, if_pos (by simpa using hd4), List.filter_nil, ← List.append_assoc]; exact edges_snoc _ _) | (simp; done)))) (by ((repeat' first | exact rfl | exact trivial | refine And.intro ?_ ?_) <;> (repeat' first | exact rfl | exact trivial | refine And.intro ?_ ?_)); all_goals ((first | (rw [List.take_succ_eq_append_getElem hkl, hxe, List.filter_append, List.map_append, List.filter_cons, if_pos (by simpa using hd4), List.filter_nil, ← List.append_assoc]; exact edges_snoc _ _) | (simp; done)))) (by rfl))
        · have hd4 : ¬ x > (j : Int) := by simpa using hd4
          refine Pick.T (inI64_of (by omega) (by omega)) ?_
          refine Next.by (k + 1) (by omega) (by omega) (by refine Weak.by [(0, some _), (1, some _), (2, some _), (3, some _), (4, some _), (5, some _), (6, some _), (7, some _), (8, some _)] (by ((repeat' first | exact rfl | exact trivial | refine And.intro ?_ ?_) <;> (repeat' first | exact rfl | exact trivial | refine And.intro ?_ ?_)); all_goals ((first | (rw [List.take_succ_eq_append_getElem hkl, hxe, List.filter_append, List.map_append, List.filter_cons, if_neg (by simpa using hd4), List.filter_nil, List.map_nil, List.append_nil]) | (simp; done)))) (by ((repeat' first | exact rfl | exact trivial | refine And.intro ?_ ?_) <;> (repeat' first | exact rfl | exact trivial | refine And.intro ?_ ?_)); all_goals ((first | (rw [List.take_succ_eq_append_getElem hkl, hxe, List.filter_append, List.map_append, List.filter_cons, if_neg (by simpa using hd4), List.filter_nil, List.map_nil, List.append_nil]) | (simp; done)))) (by rfl))
      · have hkl : k = (rowAt N j).length := by simp at hd3; omega
        have hfull : edgesK N G (j + 1) = edgesK N G j ++ (((rowAt N j).take k).filter fun x => decide (x > (j : Int))).map fun x => ((j : Int), x) := by rw [he1, hkl, List.take_length]; rfl
        refine Pick.T (inI64_of (by omega) (by omega)) ?_
        refine Next.by (j + 1) (by omega) (by omega) (by refine Weak.by [(0, some _), (1, some _), (2, some _), (3, some _), (4, some _), (5, some _), (6, some _), (7, some _), (8, some _)] (by ((repeat' first | exact rfl | exact trivial | refine And.intro ?_ ?_) <;> (repeat' first | exact rfl | exact trivial | refine And.intro ?_ ?_)); all_goals ((rw [hfull]))) (by ((repeat' first | exact rfl | exact trivial | refine And.intro ?_ ?_) <;> (repeat' first | exact rfl | exact trivial | refine And.intro ?_ ?_)); all_goals ((rw [hfull]))) (by rfl))
    have hjl : j = N.length := by simp at hd1; omega
    subst hjl
    have e1 : leftF G = leftK G N.length := by unfold leftF leftK; rw [hGN]
    have e2 : edgesF N G = edgesK N G N.length := by unfold edgesF edgesK; rw [e1]
    refine Seg.by (by kernel_rfl) ?_
    refine ⟨rfl, ?_⟩
    (repeat' first | exact rfl | exact trivial | refine And.intro ?_ ?_)
    all_goals (first | exact congrArg ints e1 | exact congrArg edges e2)
end Go.Sh

set_option linter.unusedVariables false
set_option linter.unusedSimpArgs false
namespace Go.Sh
/-! ### reduction by a table -/
def inAt (I : List Bool) (v : Nat) : Bool := I.getD v false
def matAt (M : List (List Bool)) (u v : Nat) : Bool := (M.getD u []).getD v false
def setM (M : List (List Bool)) (u v : Nat) : List (List Bool) := M.set u ((M.getD u []).set v true)
def nearM (I : List Bool) (M : List (List Bool)) (v : Nat) : List Int := ((List.range I.length).filter fun x => inAt I x && matAt M v x).map fun (x : Nat) => (x : Int)
structure Sqr (n : Nat) (M : List (List Bool)) : Prop where
  len : M.length = n
  row : ∀ r ∈ M, r.length = n
theorem Sqr.at_ {n : Nat} {M : List (List Bool)} (h : Sqr n M) {u : Nat} (hu : u < n) : M[u]? = some (M.getD u []) ∧ (M.getD u []).length = n := by
  have hlt : u < M.length := by rw [h.len]; exact hu
  rw [List.getD_eq_getElem?_getD, List.getElem?_eq_getElem hlt]
  exact ⟨rfl, h.row _ (List.getElem_mem hlt)⟩
theorem Sqr.set {n : Nat} {M : List (List Bool)} (h : Sqr n M) {u v : Nat} (hu : u < n) : Sqr n (setM M u v) := by
  refine ⟨by rw [setM, List.length_set]; exact h.len, fun r hr => ?_⟩
  rcases List.mem_or_eq_of_mem_set hr with hr | rfl
  · exact h.row r hr
  · rw [List.length_set]; exact (h.at_ hu).2
theorem setM_at {n : Nat} {M : List (List Bool)} (h : Sqr n M) {u v : Nat} (hu : u < n) (hv : v < n) (a b : Nat) : matAt (setM M u v) a b = (matAt M a b || (decide (a = u) && decide (b = v))) := by
  unfold matAt setM
  have hl := (h.at_ hu).2
  rw [List.getD_eq_getElem?_getD (l := M.set u _), List.getElem?_set]
  by_cases e : u = a
  · subst e
    rw [if_pos rfl, if_pos (by rw [h.len]; exact hu)]
    simp only [Option.getD_some]
    rw [List.getD_eq_getElem?_getD, List.getElem?_set]
    by_cases e2 : v = b
    · subst e2
      rw [if_pos rfl, if_pos (by rw [hl]; exact hv)]; simp
    · rw [if_neg e2, ← List.getD_eq_getElem?_getD]
      have : ¬ b = v := fun h => e2 h.symm
      simp [this]
  · rw [if_neg e]
    have : ¬ a = u := fun h => e h.symm
    simp [this, List.getD_eq_getElem?_getD]
/-- the table tells what the rows tell -/
structure Sim (n : Nat) (N : List (List Int)) (G I : List Bool) (M : List (List Bool)) : Prop where
  wf : Wf N G
  len : N.length = n
  il : I.length = n
  sq : Sqr n M
  inn : ∀ v, v < n → inAt I v = !goneAt G v
  adj : ∀ u v, u < n → v < n → inAt I u = true → inAt I v = true → (matAt M u v = true ↔ (v : Int) ∈ rowAt N u)
theorem sorted_eq : ∀ {l m : List Int}, l.Pairwise (· < ·) → m.Pairwise (· < ·) → (∀ x, x ∈ l ↔ x ∈ m) → l = m := by
  intro l
  induction l with
  | nil =>
    intro m _ _ h
    cases m with
    | nil => rfl
    | cons b m => have := (h b).2 (by simp); simp at this
  | cons a l ih =>
    intro m hl hm h
    cases m with
    | nil => have := (h a).1 (by simp); simp at this
    | cons b m =>
      rw [List.pairwise_cons] at hl hm
      have hab : a = b := by
        rcases List.mem_cons.1 ((h a).1 (by simp)) with e | e
        · exact e
        · rcases List.mem_cons.1 ((h b).2 (by simp)) with e2 | e2
          · exact e2.symm
          · have := hl.1 b e2; have := hm.1 a e; omega
      subst hab
      rw [ih hl.2 hm.2 fun x => ?_]
      have := h x
      simp only [List.mem_cons] at this
      constructor
      · intro hx
        rcases this.1 (.inr hx) with e | e
        · have := hl.1 x hx; omega
        · exact e
      · intro hx
        rcases this.2 (.inr hx) with e | e
        · have := hm.1 x hx; omega
        · exact e
theorem range_cast_sorted {p : Nat → Bool} (n : Nat) : (((List.range n).filter p).map fun (x : Nat) => (x : Int)).Pairwise (· < ·) := by
  rw [List.pairwise_map]
  exact (List.Pairwise.sublist List.filter_sublist List.pairwise_lt_range).imp fun h => by omega
theorem mem_range_cast {p : Nat → Bool} {n : Nat} {x : Int} : x ∈ ((List.range n).filter p).map (fun (x : Nat) => (x : Int)) ↔ ∃ k : Nat, k < n ∧ p k = true ∧ x = k := by
  rw [List.mem_map]
  constructor
  · rintro ⟨k, hk, rfl⟩
    rw [List.mem_filter, List.mem_range] at hk
    exact ⟨k, hk.1, hk.2, rfl⟩
  · rintro ⟨k, h1, h2, rfl⟩
    exact ⟨k, by rw [List.mem_filter, List.mem_range]; exact ⟨h1, h2⟩, rfl⟩
section
variable {n : Nat} {N : List (List Int)} {G I : List Bool} {M : List (List Bool)}
theorem Sim.inRow (h : Sim n N G I M) {u : Nat} {x : Int} (hx : x ∈ rowAt N u) : 0 ≤ x ∧ x < n ∧ inAt I x.toNat = true := by
  have hr := (h.wf.rows u).2 x hx
  rw [h.len] at hr
  refine ⟨hr.1, hr.2, ?_⟩
  rw [h.inn _ (by omega), Int.toNat_of_nonneg hr.1]
  cases hg : goneAt G x with
  | false => rfl
  | true =>
    have h1 := h.wf.gone x hr.1 hg
    have h2 := h.wf.sym u x (by omega) hr.1 hx
    rw [h1] at h2; simp at h2
theorem Sim.near (h : Sim n N G I M) {v : Nat} (hv : v < n) (hi : inAt I v = true) : nearM I M v = rowAt N v := by
  refine sorted_eq (range_cast_sorted _) (h.wf.rows v).1 fun x => ?_
  unfold nearM
  rw [mem_range_cast, h.il]
  constructor
  · rintro ⟨k, h1, h2, rfl⟩
    rw [Bool.and_eq_true] at h2
    exact (h.adj v k hv h1 hi h2.1).1 h2.2
  · intro hx
    obtain ⟨h0, h1, h2⟩ := h.inRow hx
    refine ⟨x.toNat, by omega, ?_, by omega⟩
    rw [h2, Bool.true_and]
    exact (h.adj v x.toNat hv (by omega) hi h2).2 (by rw [Int.toNat_of_nonneg h0]; exact hx)
theorem Sim.may (h : Sim n N G I M) (v : Nat) (hv : v < n) : mayB N G v = (inAt I v && decide ((nearM I M v).length ≤ 2)) := by
  unfold mayB
  rw [decide_eq_true (show (0 : Int) ≤ (v : Int) by omega), decide_eq_true (show (v : Int) < (N.length : Int) by rw [h.len]; omega), Bool.true_and, Bool.true_and, ← h.inn v hv]
  cases hi : inAt I v with
  | false => rfl
  | true => rw [h.near hv hi]
/-- the step that the table tells -/
theorem Sim.step (h : Sim n N G I M) {v : Nat} (hv : v < n) (hi : inAt I v = true) {a b : Int} (hl : rowAt N v = [a, b]) : (stepF N v).2.2.2 = !matAt M a.toNat b.toNat := by
  have ha := h.inRow (u := v) (x := a) (by rw [hl]; simp)
  have hb := h.inRow (u := v) (x := b) (by rw [hl]; simp)
  have key := h.adj a.toNat b.toNat (by omega) (by omega) ha.2.2 hb.2.2
  rw [Int.toNat_of_nonneg hb.1, Int.toNat_of_nonneg ha.1] at key
  show (decide (1 < (rowAt N v).length) && !(rowAt N ((rowAt N v).getD 0 (-1))).elem ((rowAt N v).getD 1 (-1))) = _
  rw [hl]
  show (decide (1 < 2) && !(rowAt N a).elem b) = _
  rw [show decide (1 < 2) = true from rfl, Bool.true_and]
  congr 1
  rw [Bool.eq_iff_iff, key]
  simp
def goM (N : List (List Int)) (M : List (List Bool)) (v : Nat) : List (List Bool) := match rowAt N v with
  | [a, b] => setM (setM M a.toNat b.toNat) b.toNat a.toNat
  | _ => M
theorem Sim.go (h : Sim n N G I M) {v : Nat} (hv : v < n) (hm : MayP N G v) : Sim n (doN N (stepF N v)) (doG G (stepF N v)) (I.set v false) (goM N M v) := by
  have hi : inAt I v = true := by rw [h.inn v hv, hm.there]; rfl
  obtain ⟨_, hc⟩ := step_two h.wf hm rfl
  have hset : ∀ u, inAt (I.set v false) u = (inAt I u && decide (u ≠ v)) := fun u => by
    unfold inAt
    rw [List.getD_eq_getElem?_getD, List.getElem?_set]
    by_cases e : v = u
    · subst e
      rw [if_pos rfl, if_pos (by rw [h.il]; exact hv)]; simp
    · rw [if_neg e, ← List.getD_eq_getElem?_getD]
      have : u ≠ v := fun h => e h.symm
      simp [this]
  have hsq : Sqr n (goM N M v) := by
    unfold goM
    split
    · rename_i a b hl
      have ha := h.inRow (u := v) (x := a) (by rw [hl]; simp)
      have hb := h.inRow (u := v) (x := b) (by rw [hl]; simp)
      exact (h.sq.set (by omega)).set (by omega)
    · exact h.sq
  refine ⟨do_wf h.wf hm, by rw [doN_length]; exact h.len, by rw [List.length_set]; exact h.il, hsq, fun u hu => ?_, fun u w hu hw hiu hiw => ?_⟩
  · rw [hset, do_gone h.wf hm (by omega), h.inn u hu]
    by_cases e : u = v
    · subst e; simp
    · rw [if_neg (by omega)]; simp [e]
  · rw [hset] at hiu hiw
    simp only [Bool.and_eq_true, decide_eq_true_eq] at hiu hiw
    obtain ⟨_, hrow⟩ := do_row h.wf hm (show (0 : Int) ≤ (u : Int) by omega)
    rw [hrow]
    have hadj := h.adj u w hu hw hiu.1 hiw.1
    have hne1 : (u : Int) ≠ (v : Int) := by have := hiu.2; omega
    have hne2 : (w : Int) ≠ (v : Int) := by have := hiw.2; omega
    rcases hc with ⟨hl, _, _, hd⟩ | ⟨a, hl, _, _, hd⟩ | ⟨a, b, hl, hab, ea, eb, ed⟩
    · unfold goM
      rw [hl, hd]
      dsimp only
      rw [hadj]
      simp [hne1, hne2]
    · unfold goM
      rw [hl, hd]
      dsimp only
      rw [hadj]
      simp [hne1, hne2]
    · have ha := h.inRow (u := v) (x := a) (by rw [hl]; simp)
      have hb := h.inRow (u := v) (x := b) (by rw [hl]; simp)
      unfold goM
      rw [hl]
      dsimp only
      rw [setM_at (h.sq.set (by omega)) (by omega) (by omega), setM_at h.sq (by omega) (by omega), ea, eb]
      simp only [Bool.or_eq_true, Bool.and_eq_true, decide_eq_true_eq]
      rw [hadj]
      have e1 : (u : Int) = a ↔ u = a.toNat := by omega
      have e2 : (w : Int) = b ↔ w = b.toNat := by omega
      have e3 : (u : Int) = b ↔ u = b.toNat := by omega
      have e4 : (w : Int) = a ↔ w = a.toNat := by omega
      cases hd : (stepF N v).2.2.2 with
      | true =>
        rw [e1, e2, e3, e4]
        constructor
        · rintro ((h1 | h1) | h1)
          · exact ⟨hne1, .inl ⟨h1, hne2⟩⟩
          · exact ⟨hne1, .inr ⟨rfl, .inl h1⟩⟩
          · exact ⟨hne1, .inr ⟨rfl, .inr h1⟩⟩
        · rintro ⟨_, ⟨h1, _⟩ | ⟨_, h1 | h1⟩⟩
          · exact .inl (.inl h1)
          · exact .inl (.inr h1)
          · exact .inr h1
      | false =>
        rw [hd] at ed
        have hba : b ∈ rowAt N a := by
          cases hx : (rowAt N a).elem b with
          | false => rw [hx] at ed; cases ed
          | true => simpa using hx
        have hab2 : a ∈ rowAt N b := h.wf.sym a b ha.1 hb.1 hba
        constructor
        · rintro ((h1 | h1) | h1)
          · exact ⟨hne1, .inl ⟨h1, hne2⟩⟩
          · refine ⟨hne1, .inl ⟨?_, hne2⟩⟩
            rw [e1.2 h1.1, e2.2 h1.2]; exact hba
          · refine ⟨hne1, .inl ⟨?_, hne2⟩⟩
            rw [e3.2 h1.1, e4.2 h1.2]; exact hab2
        · rintro ⟨_, ⟨h1, _⟩ | ⟨h1, _⟩⟩
          · exact .inl (.inl h1)
          · cases h1
end
end Go.Sh

set_option linter.unusedVariables false
set_option linter.unusedSimpArgs false
namespace Go.Sh
open Go.Proofs
/-! ### a table, as it lies in memory -/
section
variable {n : Nat} {N : List (List Int)} {G I : List Bool} {M : List (List Bool)}
end
end Go.Sh

set_option linter.unusedVariables false
set_option linter.unusedSimpArgs false
namespace Go.Sh
open Go.Proofs
end Go.Sh

set_option linter.unusedVariables false
set_option linter.unusedSimpArgs false
namespace Go.Sh
open Go.Proofs
/-! ### carcanetlaw10.shown -/
def E4 : List Ed := [(0, 1), (0, 3), (1, 2), (2, 3)]
def K4E : List Ed := [(0, 1), (0, 2), (0, 3), (1, 2), (1, 3), (2, 3)]
theorem RE4 : RightP 4 E4 := by decide
theorem RK4 : RightP 4 K4E := by decide
theorem run_E4 : runO 4 E4 = ([(0, 1, 3, true), (1, 2, 3, false), (2, 3, -1, false), (3, -1, -1, false)], [], []) := by
  unfold runO
  rw [if_pos RE4]
  decide +kernel
theorem run_K4 : runO 4 K4E = ([], [0, 1, 2, 3], K4E) := by
  unfold runO
  rw [if_pos RK4]
  decide +kernel
theorem repl_E4 : replO 4 E4 [(1, 0, 2, true), (3, 0, 1, false)] = (([(1, 0, 2, true)], [0, 2, 3], [(0, 2), (0, 3), (2, 3)]), false) := by
  unfold replO
  rw [if_pos RE4]
  refine Prod.ext (Prod.ext ?_ (Prod.ext ?_ ?_)) ?_ <;> decide +kernel
theorem nar_E4 : narrowB 4 E4 = true := by
  unfold narrowB
  rw [run_E4, decide_eq_true RE4]; rfl
theorem nar_K4 : narrowB 4 K4E = false := by
  unfold narrowB
  rw [run_K4, decide_eq_true RK4]; rfl
noncomputable def Shown10C : Con := conP 0 (fun _ : Unit => True) (fun _ => []) (fun _ => .one (.s (.b true)))
theorem Shown10C_at : Shown10C.F [] = some (.one (.s (.b true)), []) := conP_at (a := ()) (fun a b _ _ h => rfl) trivial
set_option maxRecDepth 100000 in
set_option maxHeartbeats 1000000 in
theorem Shown10_ok : SoundC Try.prog T 26 Shown10C := by
  refine sound_con (X := { Γ := [(40, RunC), (53, ReplC), (25, NarrowC)], T := T, nt := 96 }) cr_none hmix hT (sound_cons Run_ok (sound_cons Repl_ok (sound_cons Narrow_ok sound_nil))) Try.func26 (by rfl) (by rfl) (by rfl) (by rfl) 0 ?_
  rintro ⟨⟩ -
  refine ⟨⟨Nat.le_of_ble_eq_true rfl, Nat.le_of_ble_eq_true rfl⟩, ?_⟩
  have hE := RunC_at 4 E4
  rw [run_E4] at hE
  have hK := RunC_at 4 K4E
  rw [run_K4] at hK
  have hR := ReplC_at (n := 4) (E := E4) (l := [(1, 0, 2, true), (3, 0, 1, false)]) (by decide)
  rw [repl_E4] at hR
  have hN := NarrowC_at 4 E4
  rw [nar_E4] at hN
  have hM := NarrowC_at 4 K4E
  rw [nar_K4] at hM
  refine Call.by _ _ hE ?_
  refine Call.by _ _ hK ?_
  refine Call.by _ _ hR ?_
  refine Idx.by 0 rfl (by decide) ?_
  refine Look.by _ rfl ?_
  refine Idx.by 3 rfl (by decide) ?_
  refine Look.by _ rfl ?_
  refine Call.by _ _ hN ?_
  refine Call.by _ _ hM ?_
  exact ⟨rfl, rfl⟩
/-! ### carcanetlaw10.ReduceWrong -/
end Go.Sh

set_option linter.unusedVariables false
set_option linter.unusedSimpArgs false
namespace Go.Sh
open Go.Proofs
/-! ### how much is left -/
theorem firstMay_may {N : List (List Int)} {G : List Bool} {v : Nat} (h : firstMay N G = some v) : mayB N G v = true := by
  have := List.find?_some h
  simpa using this
theorem runS_wf : ∀ (f : Nat) {N : List (List Int)} {G : List Bool}, Wf N G → Wf (runS f N G).2.1 (runS f N G).2.2 ∧ (runS f N G).2.1.length = N.length ∧ (runS f N G).1.length ≤ f := by
  intro f
  induction f with
  | zero => intro N G h; exact ⟨h, rfl, by simp [runS]⟩
  | succ f ih =>
    intro N G h
    cases hf : firstMay N G with
    | none => rw [runS_end hf]; exact ⟨h, rfl, by simp⟩
    | some v =>
      rw [runS_go hf]
      obtain ⟨h1, h2, h3⟩ := ih (do_wf h (mayB_iff.1 (firstMay_may hf)))
      exact ⟨h1, by rw [h2, doN_length], by simp; omega⟩
/-! ### carcanetref10.Narrow -/
/-! ### carcanetref10.Same -/
/-! ### carcanetlaw10.ours -/
/-! ### carcanetlaw10.theirs -/
end Go.Sh

set_option linter.unusedVariables false
set_option linter.unusedSimpArgs false
namespace Go.Sh
/-! ### what is left, as a graph -/
theorem mem_leftF {G : List Bool} {v : Int} : v ∈ leftF G ↔ 0 ≤ v ∧ v < G.length ∧ goneAt G v = false := by
  unfold leftF
  rw [mem_range_cast]
  constructor
  · rintro ⟨k, h1, h2, rfl⟩
    refine ⟨by omega, by omega, ?_⟩
    rw [goneAt_nat]
    simpa using h2
  · rintro ⟨h1, h2, h3⟩
    refine ⟨v.toNat, by omega, ?_, by omega⟩
    unfold goneAt at h3
    rw [h3]; rfl
/-! ### runs -/
def live (G : List Bool) : Nat := G.countP (!·)
theorem first_no {N : List (List Int)} {G : List Bool} (h : firstMay N G = none) (u : Int) : mayB N G u = false := by
  cases hu : mayB N G u with
  | false => rfl
  | true =>
    have hm := mayB_iff.1 hu
    unfold firstMay at h
    rw [List.find?_eq_none] at h
    have h0 := hm.lo
    have h1 := hm.hi
    have := h u.toNat (by rw [List.mem_range]; omega)
    rw [Int.toNat_of_nonneg h0] at this
    exact absurd hu this
theorem live_pos {N : List (List Int)} {G : List Bool} (hW : Wf N G) {v : Int} (hm : mayB N G v = true) : 1 ≤ live G := by
  have := live_step hW (mayB_iff.1 hm)
  unfold live; omega
theorem run_end {N : List (List Int)} {G : List Bool} : ∀ {f : Nat}, Wf N G → live G ≤ f → ∀ u, mayB (runS f N G).2.1 (runS f N G).2.2 u = false := by
  intro f
  induction f generalizing N G with
  | zero =>
    intro h hf u
    cases hu : mayB N G u with
    | false => exact hu
    | true => have := live_pos h hu; omega
  | succ f ih =>
    intro h hf u
    cases hm : firstMay N G with
    | none => rw [runS_end hm]; exact first_no hm u
    | some v =>
      rw [runS_go hm]
      have hv := mayB_iff.1 (firstMay_may hm)
      have := live_step h hv
      exact ih (do_wf h hv) (by unfold live at hf ⊢; omega) u
theorem run_count {f : Nat} : ∀ {N : List (List Int)} {G : List Bool}, Wf N G → (runS f N G).1.length + live (runS f N G).2.2 = live G := by
  induction f with
  | zero => intro N G _; simp [runS]
  | succ f ih =>
    intro N G h
    cases hm : firstMay N G with
    | none => rw [runS_end hm]; simp
    | some v =>
      rw [runS_go hm]
      have hv := mayB_iff.1 (firstMay_may hm)
      have h1 := live_step h hv
      have h2 := ih (do_wf h hv)
      unfold live at *
      simp only [List.length_cons]
      omega
theorem live_zero (n : Nat) : live (List.replicate n false) = n := by unfold live; simp [List.countP_replicate]
end Go.Sh

set_option linter.unusedVariables false
set_option linter.unusedSimpArgs false
namespace Go.Sh
open Go.Proofs
/-! ### graph.Degrees -/
end Go.Sh

namespace Go.Proofs
open Go.RowKit Go.Shelf Go.Maps Go.Sort

attribute [local go_sem] Oper.semAt_some
end Go.Proofs

namespace Go.Proofs
open Go.RowKit Go.Shelf Go.Maps Go.Sort

end Go.Proofs


set_option linter.unusedVariables false
namespace Go.Sh
open Go.Proofs
/-! ### walk.unlike -/
end Go.Sh

set_option linter.unusedVariables false
set_option linter.unusedSimpArgs false
namespace Go.Sh
open Go.Proofs
/-! ### carcanetref08.Size, joined, touch -/
/-! ### carcanetref08.Check -/
end Go.Sh

set_option linter.unusedVariables false
set_option linter.unusedSimpArgs false
namespace Go.Sh
/-! ### few edges, few vertices -/
theorem nodup_lenG {α : Type} [DecidableEq α] {l : List α} : ∀ {m : List α}, l.Nodup → (∀ x ∈ l, x ∈ m) → l.length ≤ m.length := by
  induction l with
  | nil => intro m _ _; simp
  | cons x l ih =>
    intro m h s
    rw [List.nodup_cons] at h
    have hx := s x (by simp)
    have := ih (m := m.erase x) h.2 fun y hy => (List.mem_erase_of_ne (fun (e : y = x) => h.1 (by rw [← e]; exact hy))).2 (s y (by simp [hy]))
    rw [List.length_erase_of_mem hx] at this
    have := List.length_pos_of_mem hx
    simp; omega
end Go.Sh

set_option linter.unusedVariables false
set_option linter.unusedSimpArgs false
namespace Go.Sh
/-! ### a vertex of two neighbours goes: models stay, and come back -/
theorem MdL.mono {vs : List Nat} {A A' : Nat → Nat → Prop} {c : Nat → Nat} (h : MdL vs A c) (hs : ∀ x y, x ∈ vs → y ∈ vs → A x y → A' x y) : MdL vs A' c :=
  ⟨h.some, fun i hi P hP hcl => h.conn i hi P hP fun x y hx hy ex ey k => hcl x y hx hy ex ey (hs x y hx hy k), fun i j hij hj => by
    obtain ⟨x, y, hx, hy, k, e⟩ := h.meet i j hij hj
    exact ⟨x, y, hx, hy, hs x y hx hy k, e⟩⟩
/-- but for a vertex that is in no set -/
theorem MdL.off {vs vs' : List Nat} {A A' : Nat → Nat → Prop} {c : Nat → Nat} {v : Nat} (h : MdL vs A c) (hc : 4 ≤ c v) (hv : ∀ x, x ≠ v → (x ∈ vs ↔ x ∈ vs')) (hs : ∀ x y, x ≠ v → y ≠ v → A x y → A' x y) : MdL vs' A' c := by
  have ne : ∀ x i, i < 4 → c x = i → x ≠ v := fun x i hi e k => by rw [k] at e; omega
  refine ⟨fun i hi => ?_, fun i hi P hP hcl x hx ex => ?_, fun i j hij hj => ?_⟩
  · obtain ⟨x, hx, e⟩ := h.some i hi
    exact ⟨x, (hv x (ne x i hi e)).1 hx, e⟩
  · obtain ⟨y, hy, ey, hPy⟩ := hP
    exact h.conn i hi P ⟨y, (hv y (ne y i hi ey)).2 hy, ey, hPy⟩ (fun a b ha hb ea eb k => hcl a b ((hv a (ne a i hi ea)).1 ha) ((hv b (ne b i hi eb)).1 hb) ea eb (hs a b (ne a i hi ea) (ne b i hi eb) k)) x ((hv x (ne x i hi ex)).2 hx) ex
  · obtain ⟨x, y, hx, hy, k, ex, ey⟩ := h.meet i j hij hj
    have nx := ne x i (by omega) ex
    have ny := ne y j hj ey
    exact ⟨x, y, (hv x nx).1 hx, (hv y ny).1 hy, hs x y nx ny k, ex, ey⟩
open Classical in
theorem MdL.down {vs vs' : List Nat} {A : Nat → Nat → Prop} (hA : Sm A) {v w : Nat} (hv : v ∈ vs) (hw : w ∈ vs) (hvw : A v w) (hvs : ∀ x, x ∈ vs' ↔ x ∈ vs ∧ x ≠ v) {c : Nat → Nat} (h : MdL vs A c) (hc : c v = c w) : MdL vs' (ctr A v w) c := by
  have hne : w ≠ v := (hA.ne hvw).symm
  have hw' := (hvs w).2 ⟨hw, hne⟩
  refine ⟨fun i hi => ?_, fun i hi P hP hcl x hx ex => ?_, fun i j hij hj => ?_⟩
  · obtain ⟨x, hx, e⟩ := h.some i hi
    by_cases k : x = v
    · subst k; exact ⟨w, hw', by rw [← hc]; exact e⟩
    · exact ⟨x, (hvs x).2 ⟨hx, k⟩, e⟩
  · obtain ⟨hx0, hxv⟩ := (hvs x).1 hx
    obtain ⟨y, hy, ey, hPy⟩ := hP
    obtain ⟨hy0, hyv⟩ := (hvs y).1 hy
    have := h.conn i hi (fun z => if z = v then P w else P z) ⟨y, hy0, ey, by rw [if_neg hyv]; exact hPy⟩ (fun a b ha hb ea eb k hPa => by
      try dsimp only at hPa ⊢
      by_cases e1 : a = v
      · subst e1
        rw [if_pos rfl] at hPa
        have nb : b ≠ a := (hA.ne k).symm
        rw [if_neg nb]
        by_cases e2 : b = w
        · rw [e2]; exact hPa
        · exact hcl w b hw' ((hvs b).2 ⟨hb, nb⟩) (by rw [← hc]; exact ea) eb (.inr (.inl ⟨rfl, k, e2⟩)) hPa
      · rw [if_neg e1] at hPa
        have ha' := (hvs a).2 ⟨ha, e1⟩
        by_cases e2 : b = v
        · subst e2
          rw [if_pos rfl]
          by_cases e3 : a = w
          · rw [← e3]; exact hPa
          · exact hcl a w ha' hw' ea (by rw [← hc]; exact eb) (.inr (.inr ⟨rfl, hA.sym _ _ k, e3⟩)) hPa
        · rw [if_neg e2]
          exact hcl a b ha' ((hvs b).2 ⟨hb, e2⟩) ea eb (.inl k) hPa) x hx0 ex
    try dsimp only at this
    rw [if_neg hxv] at this
    exact this
  · obtain ⟨x, y, hx, hy, k, ex, ey⟩ := h.meet i j hij hj
    by_cases e1 : x = v
    · subst e1
      have ny : y ≠ x := (hA.ne k).symm
      have nw : y ≠ w := fun e => by rw [e] at ey; omega
      exact ⟨w, y, hw', (hvs y).2 ⟨hy, ny⟩, .inr (.inl ⟨rfl, k, nw⟩), by rw [← hc]; exact ex, ey⟩
    · by_cases e2 : y = v
      · subst e2
        have nw : x ≠ w := fun e => by rw [e] at ex; omega
        exact ⟨x, w, (hvs x).2 ⟨hx, e1⟩, hw', .inr (.inr ⟨rfl, hA.sym _ _ k, nw⟩), ex, by rw [← hc]; exact ey⟩
      · exact ⟨x, y, (hvs x).2 ⟨hx, e1⟩, (hvs y).2 ⟨hy, e2⟩, .inl k, ex, ey⟩
structure Red (A A' : Nat → Nat → Prop) (v a b : Nat) (Q : Prop) : Prop where
  nb : ∀ y, A v y → y = a ∨ y = b
  iff : ∀ x y, A' x y ↔ x ≠ v ∧ y ≠ v ∧ (A x y ∨ (Q ∧ ((x = a ∧ y = b) ∨ (x = b ∧ y = a))))
  q1 : Q → A v a ∧ A v b ∧ a ≠ b
  q2 : A v a → A v b → a ≠ b → A a b ∨ Q
theorem Red.swap {A A' : Nat → Nat → Prop} (hA : Sm A) {v a b : Nat} {Q : Prop} (h : Red A A' v a b Q) : Red A A' v b a Q :=
  ⟨fun y k => (h.nb y k).symm, fun x y => (h.iff x y).trans ⟨fun ⟨k1, k2, k3⟩ => ⟨k1, k2, k3.imp id fun ⟨q, k⟩ => ⟨q, k.symm⟩⟩, fun ⟨k1, k2, k3⟩ => ⟨k1, k2, k3.imp id fun ⟨q, k⟩ => ⟨q, k.symm⟩⟩⟩, fun q => ⟨(h.q1 q).2.1, (h.q1 q).1, (h.q1 q).2.2.symm⟩, fun k1 k2 k3 => (h.q2 k2 k1 k3.symm).imp (hA.sym _ _) id⟩
section
variable {vs : List Nat} {A A' : Nat → Nat → Prop} {v a b : Nat} {Q : Prop}
theorem erase_mem (hn : vs.Nodup) (v : Nat) : ∀ x, x ∈ vs.erase v ↔ x ∈ vs ∧ x ≠ v := fun x => by rw [hn.mem_erase_iff]; exact And.comm
theorem Red.back (hA : Sm A) (hn : vs.Nodup) (hv : v ∈ vs) (ha : a ∈ vs) (h : Red A A' v a b Q) {c : Nat → Nat} (hc : MdL vs A' c) : ∃ c, MdL vs A c := by
  have iso : 4 ≤ c v := by
    rcases Nat.lt_or_ge (c v) 4 with hlt | hge
    · exfalso
      have only : ∀ x, x ∈ vs → c x = c v → x = v := hc.conn (c v) hlt (fun x => x = v) ⟨v, hv, rfl, rfl⟩ fun x y _ _ _ _ k e => absurd e ((h.iff x y).1 k).1
      have two : ∀ i j, i < j → j < 4 → i ≠ c v ∧ j ≠ c v := fun i j hij hj => by
        obtain ⟨x, y, hx, hy, k, ex, ey⟩ := hc.meet i j hij hj
        obtain ⟨n1, n2, _⟩ := (h.iff x y).1 k
        exact ⟨fun e => n1 (only x hx (ex.trans e)), fun e => n2 (only y hy (ey.trans e))⟩
      have t1 := two 0 1 (by omega) (by omega)
      have t2 := two 2 3 (by omega) (by omega)
      omega
    · exact hge
  by_cases hQ : Q
  · obtain ⟨k1, k2, k3⟩ := h.q1 hQ
    have h1 : MdL (vs.erase v) (ctr A v a) c := hc.off iso (fun x hx => by rw [erase_mem hn]; exact ⟨fun k => ⟨k, hx⟩, fun k => k.1⟩) fun x y _ _ k => by
      obtain ⟨_, _, k | ⟨_, ⟨e1, e2⟩ | ⟨e1, e2⟩⟩⟩ := (h.iff x y).1 k
      · exact .inl k
      · exact .inr (.inl ⟨e1, by rw [e2]; exact k2, by rw [e2]; exact k3.symm⟩)
      · exact .inr (.inr ⟨e2, by rw [e1]; exact k2, by rw [e1]; exact k3.symm⟩)
    exact ⟨_, h1.lift hA hv ha k1 (erase_mem hn v)⟩
  · exact ⟨c, hc.mono fun x y _ _ k => by
      obtain ⟨_, _, k | ⟨q, _⟩⟩ := (h.iff x y).1 k
      · exact k
      · exact absurd q hQ⟩
theorem Red.go (hA : Sm A) (hn : vs.Nodup) (hv : v ∈ vs) (hin : ∀ x y, A x y → x ∈ vs) (h : Red A A' v a b Q) {c : Nat → Nat} (hc : MdL vs A c) : ∃ c, MdL vs A' c := by
  rcases Nat.lt_or_ge (c v) 4 with hlt | hge
  · have main : ∀ {a b : Nat}, Red A A' v a b Q → A v a → c v = c a → ∃ c, MdL vs A' c := by
      intro a b h kva hca
      have h1 := hc.down hA hv (hin _ _ (hA.sym _ _ kva)) kva (erase_mem hn v) hca
      have h2 : MdL (vs.erase v) A' c := h1.mono fun x y hx hy k => by
        obtain ⟨_, nx⟩ := (erase_mem hn v x).1 hx
        obtain ⟨_, ny⟩ := (erase_mem hn v y).1 hy
        rcases k with k | ⟨e1, k, n⟩ | ⟨e1, k, n⟩
        · exact (h.iff x y).2 ⟨nx, ny, .inl k⟩
        · subst e1
          rcases h.nb y k with e | e
          · exact absurd e n
          · subst e
            refine (h.iff x y).2 ⟨nx, ny, ?_⟩
            rcases h.q2 kva k n.symm with k2 | q
            · exact .inl k2
            · exact .inr ⟨q, .inl ⟨rfl, rfl⟩⟩
        · subst e1
          rcases h.nb x k with e | e
          · exact absurd e n
          · subst e
            refine (h.iff x y).2 ⟨nx, ny, ?_⟩
            rcases h.q2 kva k n.symm with k2 | q
            · exact .inl (hA.sym _ _ k2)
            · exact .inr ⟨q, .inr ⟨rfl, rfl⟩⟩
      exact ⟨_, h2.induced fun x hx => ((erase_mem hn v x).1 hx).1⟩
    by_cases hex : ∃ w, A v w ∧ c v = c w
    · obtain ⟨w, kw, ew⟩ := hex
      rcases h.nb w kw with e | e
      · subst e; exact main h kw ew
      · subst e; exact main (h.swap hA) kw ew
    · exfalso
      have only : ∀ x, x ∈ vs → c x = c v → x = v := hc.conn (c v) hlt (fun x => x = v) ⟨v, hv, rfl, rfl⟩ fun x y _ _ _ ey k e => by
        subst e; exact absurd ⟨y, k, ey.symm⟩ hex
      have nbr : ∀ j, j < 4 → j ≠ c v → ∃ y, A v y ∧ c y = j := fun j hj hne => by
        rcases Nat.lt_or_gt_of_ne hne with hlt2 | hgt
        · obtain ⟨x, y, hx, hy, k, ex, ey⟩ := hc.meet j (c v) hlt2 hlt
          rw [only y hy ey] at k
          exact ⟨x, hA.sym _ _ k, ex⟩
        · obtain ⟨x, y, hx, hy, k, ex, ey⟩ := hc.meet (c v) j hgt hj
          rw [only x hx ex] at k
          exact ⟨y, k, ey⟩
      have col : ∀ j, j < 4 → j ≠ c v → c a = j ∨ c b = j := fun j hj hne => by
        obtain ⟨y, k, e⟩ := nbr j hj hne
        rcases h.nb y k with e2 | e2
        · left; rw [← e2]; exact e
        · right; rw [← e2]; exact e
      by_cases e0 : c v = 0
      · have := col 1 (by omega) (by omega); have := col 2 (by omega) (by omega); have := col 3 (by omega) (by omega); omega
      by_cases e1 : c v = 1
      · have := col 0 (by omega) (by omega); have := col 2 (by omega) (by omega); have := col 3 (by omega) (by omega); omega
      by_cases e2 : c v = 2
      · have := col 0 (by omega) (by omega); have := col 1 (by omega) (by omega); have := col 3 (by omega) (by omega); omega
      · have := col 0 (by omega) (by omega); have := col 1 (by omega) (by omega); have := col 2 (by omega) (by omega); omega
  · exact ⟨c, hc.off hge (fun x _ => Iff.rfl) fun x y nx ny k => (h.iff x y).2 ⟨nx, ny, .inl k⟩⟩
end
/-! #### rows -/
def adjN (N : List (List Int)) (x y : Nat) : Prop := (y : Int) ∈ rowAt N x
def K4 (N : List (List Int)) : Prop := ∃ c, MdL (List.range N.length) (adjN N) c
theorem adjN_sm {N : List (List Int)} {G : List Bool} (h : Wf N G) : Sm (adjN N) := ⟨fun x y k => h.sym x y (by omega) (by omega) k, fun x k => h.irr x (by omega) k⟩
theorem adjN_in {N : List (List Int)} {G : List Bool} (h : Wf N G) (x y : Nat) (k : adjN N x y) : x ∈ List.range N.length := by
  have := (h.rows y).2 x (h.sym x y (by omega) (by omega) k)
  rw [List.mem_range]; omega
theorem step_red {N : List (List Int)} {G : List Bool} (h : Wf N G) {v : Nat} (hm : MayP N G v) : ∃ a b Q, a < N.length ∧ Red (adjN N) (adjN (doN N (stepF N v))) v a b Q := by
  obtain ⟨_, hc⟩ := step_two h hm rfl
  have hrow : ∀ x y : Nat, adjN (doN N (stepF N v)) x y ↔ (x : Int) ≠ v ∧ (((y : Int) ∈ rowAt N x ∧ (y : Int) ≠ v) ∨ ((stepF N v).2.2.2 = true ∧ (((x : Int) = (stepF N v).2.1 ∧ (y : Int) = (stepF N v).2.2.1) ∨ ((x : Int) = (stepF N v).2.2.1 ∧ (y : Int) = (stepF N v).2.1)))) := fun x y => (do_row h hm (by omega)).2 y
  have hv0 := hm.hi
  rcases hc with ⟨hl, _, _, hd⟩ | ⟨a, hl, _, _, hd⟩ | ⟨a, b, hl, hab, ea, eb, hd⟩
  · refine ⟨v, v, False, by omega, ⟨fun y k => ?_, fun x y => ?_, fun q => q.elim, fun k => ?_⟩⟩
    · unfold adjN at k; rw [hl] at k; simp at k
    · rw [hrow, hd]
      unfold adjN
      constructor
      · rintro ⟨n1, ⟨k, n2⟩ | ⟨e, _⟩⟩
        · exact ⟨by omega, by omega, .inl k⟩
        · cases e
      · rintro ⟨n1, n2, k | ⟨q, _⟩⟩
        · exact ⟨by omega, .inl ⟨k, by omega⟩⟩
        · exact q.elim
    · unfold adjN at k; rw [hl] at k; simp at k
  · have har := (h.rows v).2 a (by rw [hl]; simp)
    obtain ⟨a, rfl⟩ : ∃ c : Nat, a = c := ⟨a.toNat, by omega⟩
    refine ⟨a, a, False, by omega, ⟨fun y k => ?_, fun x y => ?_, fun q => q.elim, fun _ _ n => absurd rfl n⟩⟩
    · unfold adjN at k; rw [hl] at k; simp at k; omega
    · rw [hrow, hd]
      unfold adjN
      constructor
      · rintro ⟨n1, ⟨k, n2⟩ | ⟨e, _⟩⟩
        · exact ⟨by omega, by omega, .inl k⟩
        · cases e
      · rintro ⟨n1, n2, k | ⟨q, _⟩⟩
        · exact ⟨by omega, .inl ⟨k, by omega⟩⟩
        · exact q.elim
  · have har := (h.rows v).2 a (by rw [hl]; simp)
    have hbr := (h.rows v).2 b (by rw [hl]; simp)
    have hav : a ≠ v := fun e => h.irr v hm.lo (by rw [hl]; simp [e])
    have hbv : b ≠ v := fun e => h.irr v hm.lo (by rw [hl]; simp [e])
    obtain ⟨a, rfl⟩ : ∃ c : Nat, a = c := ⟨a.toNat, by omega⟩
    obtain ⟨b, rfl⟩ : ∃ c : Nat, b = c := ⟨b.toNat, by omega⟩
    refine ⟨a, b, (stepF N v).2.2.2 = true, by omega, ⟨fun y k => ?_, fun x y => ?_, fun q => ?_, fun _ _ _ => ?_⟩⟩
    · unfold adjN at k; rw [hl] at k; simp at k; omega
    · rw [hrow, ea, eb]
      unfold adjN
      constructor
      · rintro ⟨n1, ⟨k, n2⟩ | ⟨e, ⟨k1, k2⟩ | ⟨k1, k2⟩⟩⟩
        · exact ⟨by omega, by omega, .inl k⟩
        · exact ⟨by omega, by omega, .inr ⟨e, .inl ⟨by omega, by omega⟩⟩⟩
        · exact ⟨by omega, by omega, .inr ⟨e, .inr ⟨by omega, by omega⟩⟩⟩
      · rintro ⟨n1, n2, k | ⟨e, ⟨k1, k2⟩ | ⟨k1, k2⟩⟩⟩
        · exact ⟨by omega, .inl ⟨k, by omega⟩⟩
        · exact ⟨by omega, .inr ⟨e, .inl ⟨by omega, by omega⟩⟩⟩
        · exact ⟨by omega, .inr ⟨e, .inr ⟨by omega, by omega⟩⟩⟩
    · unfold adjN
      rw [hl]
      exact ⟨by simp, by simp, by omega⟩
    · unfold adjN
      rw [hd]
      cases he : (rowAt N a).elem (b : Int) with
      | true => left; simpa using he
      | false => right; rfl
theorem K4_step {N : List (List Int)} {G : List Bool} (h : Wf N G) {v : Int} (hm : MayP N G v) : K4 (doN N (stepF N v)) ↔ K4 N := by
  have h0 := hm.lo
  have h1 := hm.hi
  obtain ⟨v, rfl⟩ : ∃ c : Nat, v = c := ⟨v.toNat, by omega⟩
  obtain ⟨a, b, Q, ha, hr⟩ := step_red h hm
  have hv : v ∈ List.range N.length := List.mem_range.2 (by omega)
  unfold K4
  rw [doN_length]
  exact ⟨fun ⟨c, hc⟩ => hr.back (adjN_sm h) List.nodup_range hv (List.mem_range.2 ha) hc, fun ⟨c, hc⟩ => hr.go (adjN_sm h) List.nodup_range hv (adjN_in h) hc⟩
theorem K4_run {f : Nat} : ∀ {N : List (List Int)} {G : List Bool}, Wf N G → (K4 (runS f N G).2.1 ↔ K4 N) := by
  induction f with
  | zero => intro N G _; exact Iff.rfl
  | succ f ih =>
    intro N G h
    cases hm : firstMay N G with
    | none => rw [runS_end hm]
    | some v =>
      rw [runS_go hm]
      have hp := mayB_iff.1 (firstMay_may hm)
      exact (ih (do_wf h hp)).trans (K4_step h hp)
end Go.Sh

set_option linter.unusedVariables false
set_option linter.unusedSimpArgs false
namespace Go.Sh
open Go.Proofs
/-! ### carcanetlaw10.ReduceCore -/
theorem near_there {N : List (List Int)} {G : List Bool} (h : Wf N G) {v x : Int} (hv : 0 ≤ v) (hx : x ∈ rowAt N v) : 0 ≤ x ∧ x < N.length ∧ goneAt G x = false := by
  have hr := (h.rows v).2 x hx
  refine ⟨hr.1, hr.2, ?_⟩
  cases hg : goneAt G x with
  | false => rfl
  | true =>
    have h2 := h.sym v x hv hr.1 hx
    rw [h.gone x hr.1 hg] at h2; simp at h2
theorem leftF_length (G : List Bool) : (leftF G).length = live G := by
  unfold leftF live
  rw [List.length_map, ← List.countP_eq_length_filter]
  have e : G = (List.range G.length).map fun v => G.getD v false := by
    apply List.ext_getElem?
    intro i
    rw [List.getElem?_map]
    by_cases hi : i < G.length
    · rw [List.getElem?_range hi, Option.map_some, List.getD_eq_getElem?_getD, List.getElem?_eq_getElem hi]; rfl
    · rw [List.getElem?_eq_none (by omega), List.getElem?_eq_none (by simp; omega)]; rfl
  conv => rhs; rw [e]
  rw [List.countP_map]; rfl
/-- what is left at the end -/
structure Core (N : List (List Int)) (G : List Bool) : Prop where
  wf : Wf N G
  no : ∀ u, mayB N G u = false
theorem Core.three {N : List (List Int)} {G : List Bool} (h : Core N G) {v : Int} (h0 : 0 ≤ v) (h1 : v < N.length) (hg : goneAt G v = false) : 3 ≤ (rowAt N v).length := by
  have := h.no v
  by_cases hl : (rowAt N v).length ≤ 2
  · rw [mayB_iff.2 ⟨h0, h1, hg, hl⟩] at this; cases this
  · omega
theorem Core.four {N : List (List Int)} {G : List Bool} (h : Core N G) (hl : leftF G ≠ []) : 4 ≤ (leftF G).length := by
  obtain ⟨v, hv⟩ := List.exists_mem_of_ne_nil _ hl
  obtain ⟨h0, h1, hg⟩ := mem_leftF.1 hv
  rw [h.wf.len] at h1
  have h3 := h.three h0 h1 hg
  have hnd : (v :: rowAt N v).Nodup := List.nodup_cons.2 ⟨h.wf.irr v h0, (h.wf.rows v).1.imp fun hab => by omega⟩
  have := nodup_lenG (m := leftF G) hnd fun x hx => by
    rcases List.mem_cons.1 hx with e | hx
    · rw [e]; exact hv
    · obtain ⟨x0, x1, xg⟩ := near_there h.wf h0 hx
      exact mem_leftF.2 ⟨x0, by rw [h.wf.len]; exact x1, xg⟩
  simp only [List.length_cons] at this
  omega
theorem core_run {n : Int} {E : List Ed} (hR : RightP n E) : Core (runR n E).2.1 (runR n E).2.2 ∧ (runR n E).2.1.length = n.toNat ∧ (runR n E).1.length + (leftF (runR n E).2.2).length = n.toNat := by
  have hW := begin_wf hR
  have hl : live (List.replicate n.toNat false) ≤ n.toNat := by rw [live_zero]; omega
  obtain ⟨h1, h2, h3⟩ := runS_wf n.toNat hW
  have hc := run_count (f := n.toNat) hW
  rw [live_zero] at hc
  exact ⟨⟨h1, run_end hW hl⟩, by rw [show (runR n E).2.1.length = _ from h2, nbrs_length], by rw [leftF_length]; exact hc⟩
end Go.Sh

set_option linter.unusedVariables false
set_option linter.unusedSimpArgs false
namespace Go.Sh
/-! ### graphs as rows of bits: what one comes to by deletions and contractions -/
def up1 (v i : Nat) : Nat := if i < v then i else i + 1
def lessX (x v : Nat) : Nat := (x &&& (2 ^ v - 1)) ||| ((x >>> (v + 1)) <<< v)
theorem lessX_bit (x v i : Nat) : (lessX x v).testBit i = x.testBit (up1 v i) := by
  unfold lessX up1
  rw [Nat.testBit_or, Nat.testBit_and, Nat.testBit_two_pow_sub_one, Nat.testBit_shiftLeft, Nat.testBit_shiftRight]
  by_cases h : i < v
  · rw [if_pos h]
    have : ¬ i ≥ v := by omega
    simp [h, this]
  · rw [if_neg h]
    have : i ≥ v := by omega
    simp [h, this]
    congr 1
    omega
def lessL (r : List Nat) (v : Nat) : List Nat := (r.eraseIdx v).map (lessX · v)
def bitL (r : List Nat) (a b : Nat) : Bool := (r.getD a 0).testBit b
theorem lessL_length {r : List Nat} {v : Nat} (h : v < r.length) : (lessL r v).length = r.length - 1 := by
  unfold lessL
  rw [List.length_map, List.length_eraseIdx_of_lt h]
theorem up1_ne (v i : Nat) : up1 v i ≠ v := by unfold up1; split <;> omega
theorem up1_lt {v i n : Nat} (h : i < n - 1) : up1 v i < n := by unfold up1; split <;> omega
def dn1 (v i : Nat) : Nat := if i < v then i else i - 1
theorem up_dn {v i : Nat} (h : i ≠ v) : up1 v (dn1 v i) = i := by
  unfold up1 dn1
  by_cases h1 : i < v
  · rw [if_pos h1, if_pos h1]
  · rw [if_neg h1, if_neg (by omega)]; omega
theorem dn_lt {v i n : Nat} (h : i ≠ v) (hv : v < n) (hi : i < n) : dn1 v i < n - 1 := by unfold dn1; split <;> omega
theorem up_inj {v i j : Nat} (h : up1 v i = up1 v j) : i = j := by unfold up1 at h; split at h <;> split at h <;> omega
theorem lessL_getD (r : List Nat) (v i : Nat) : (lessL r v).getD i 0 = lessX (r.getD (up1 v i) 0) v := by
  have z : lessX 0 v = 0 := by simp [lessX]
  unfold lessL up1
  rw [List.getD_eq_getElem?_getD, List.getElem?_map, List.getElem?_eraseIdx, List.getD_eq_getElem?_getD]
  split
  · cases r[i]? with
    | none => simp [z]
    | some x => simp
  · cases r[i + 1]? with
    | none => simp [z]
    | some x => simp
theorem bit_less (r : List Nat) (v i j : Nat) : bitL (lessL r v) i j = bitL r (up1 v i) (up1 v j) := by
  unfold bitL
  rw [lessL_getD, lessX_bit]
/-- rows of bits of a graph -/
structure Sq (r : List Nat) : Prop where
  bnd : ∀ a b, bitL r a b = true → b < r.length
  sym : ∀ a b, bitL r a b = true → bitL r b a = true
  irr : ∀ a, bitL r a a = false
theorem Sq.lt {r : List Nat} (h : Sq r) {a b : Nat} (hb : bitL r a b = true) : a < r.length := h.bnd _ _ (h.sym _ _ hb)
theorem Sq.less {r : List Nat} (h : Sq r) {v : Nat} (hv : v < r.length) : Sq (lessL r v) := by
  refine ⟨fun a b hb => ?_, fun a b hb => ?_, fun a => ?_⟩
  · rw [bit_less] at hb
    have := h.bnd _ _ hb
    rw [lessL_length hv]
    unfold up1 at this
    split at this <;> omega
  · rw [bit_less] at hb ⊢; exact h.sym _ _ hb
  · rw [bit_less]; exact h.irr _
/-- a model, as colours of the vertices: each colour below m is there, hangs together, and those of the pattern's pairs touch -/
structure Mod (r : List Nat) (m : Nat) (pat : List (Nat × Nat)) (c : Nat → Nat) : Prop where
  some : ∀ i, i < m → ∃ x, x < r.length ∧ c x = i
  conn : ∀ i, i < m → ∀ P : Nat → Prop, (∃ x, x < r.length ∧ c x = i ∧ P x) → (∀ x y, c x = i → c y = i → bitL r x y = true → P x → P y) → ∀ x, x < r.length → c x = i → P x
  meet : ∀ q ∈ pat, ∃ x y, bitL r x y = true ∧ c x = q.1 ∧ c y = q.2
theorem Mod.less {r : List Nat} {m : Nat} {pat : List (Nat × Nat)} {c : Nat → Nat} (h : Mod r m pat c) (hp : ∀ q ∈ pat, q.1 < m ∧ q.2 < m ∧ q.1 ≠ q.2) {v : Nat} (hv : v < r.length) (hc : m ≤ c v) : Mod (lessL r v) m pat fun i => c (up1 v i) := by
  have hl := lessL_length hv
  refine ⟨fun i hi => ?_, fun i hi P hP hcl x hx hcx => ?_, fun q hq => ?_⟩
  · obtain ⟨x, h1, h2⟩ := h.some i hi
    have hx : x ≠ v := fun e => by subst e; omega
    exact ⟨dn1 v x, by rw [hl]; exact dn_lt hx hv h1, by rw [up_dn hx]; exact h2⟩
  · have := h.conn i hi (fun x => ∃ y, up1 v y = x ∧ P y) ?_ ?_ (up1 v x) (by rw [hl] at hx; exact up1_lt hx) hcx
    · obtain ⟨y, h1, h2⟩ := this
      rw [← up_inj h1]; exact h2
    · obtain ⟨x, h1, h2, h3⟩ := hP
      exact ⟨up1 v x, by rw [hl] at h1; exact up1_lt h1, h2, x, rfl, h3⟩
    · rintro x y cx cy hb ⟨x', rfl, hPx⟩
      have hy : y ≠ v := fun e => by subst e; omega
      refine ⟨dn1 v y, up_dn hy, hcl x' _ cx (by rw [up_dn hy]; exact cy) ?_ hPx⟩
      rw [bit_less, up_dn hy]; exact hb
  · obtain ⟨x, y, h1, h2, h3⟩ := h.meet q hq
    have hx : x ≠ v := fun e => by subst e; have := hp q hq; omega
    have hy : y ≠ v := fun e => by subst e; have := hp q hq; omega
    exact ⟨dn1 v x, dn1 v y, by rw [bit_less, up_dn hx, up_dn hy]; exact h1, by rw [up_dn hx]; exact h2, by rw [up_dn hy]; exact h3⟩
/-! #### rows of a graph -/
theorem adjE_range {n : Int} {E : List Ed} (h : ∀ x ∈ E, okE n x) {a b : Int} (ha : adjE E a b) : 0 ≤ a ∧ a < n ∧ 0 ≤ b ∧ b < n ∧ a ≠ b := by
  rcases ha with ha | ha
  · obtain ⟨h1, h2, h3⟩ := h _ ha
    dsimp only at h1 h2 h3; omega
  · obtain ⟨h1, h2, h3⟩ := h _ ha
    dsimp only at h1 h2 h3; omega
end Go.Sh

set_option linter.unusedVariables false
set_option linter.unusedSimpArgs false
namespace Go.Sh
/-! ### narrow: there is no model of the complete graph of four -/
theorem Core.K4 {N : List (List Int)} {G : List Bool} (h : Core N G) : K4 N ↔ leftF G ≠ [] := by
  constructor
  · rintro ⟨c, hc⟩ e
    obtain ⟨x, y, hx, hy, k, _⟩ := hc.meet 0 1 (by omega) (by omega)
    rw [List.mem_range] at hx
    have : (x : Int) ∈ leftF G := mem_leftF.2 ⟨by omega, by rw [h.wf.len]; omega, by
      cases hg : goneAt G (x : Int) with
      | false => rfl
      | true => unfold adjN at k; rw [h.wf.gone x (by omega) hg] at k; simp at k⟩
    rw [e] at this; simp at this
  · intro hne
    let vs := (List.range N.length).filter fun (x : Nat) => !goneAt G (x : Int)
    have hvs : ∀ x, x ∈ vs ↔ x < N.length ∧ goneAt G (x : Int) = false := fun x => by
      rw [List.mem_filter, List.mem_range]; simp
    have h0 : vs ≠ [] := by
      obtain ⟨v, hv⟩ := List.exists_mem_of_ne_nil _ hne
      obtain ⟨a0, a1, a2⟩ := mem_leftF.1 hv
      intro e
      have : v.toNat ∈ vs := (hvs _).2 ⟨by rw [h.wf.len] at a1; omega, by rw [Int.toNat_of_nonneg a0]; exact a2⟩
      rw [e] at this; simp at this
    have hd : ∀ x, x ∈ vs → D3 vs (adjN N) x := fun x hx => by
      obtain ⟨x1, x2⟩ := (hvs x).1 hx
      have h3 := h.three (v := (x : Int)) (by omega) (by omega) x2
      have hs := (h.wf.rows (x : Int)).1
      have hin : ∀ y, y ∈ rowAt N x → y.toNat ∈ vs ∧ adjN N x y.toNat := fun y hy => by
        obtain ⟨y0, y1, y2⟩ := near_there h.wf (by omega) hy
        exact ⟨(hvs _).2 ⟨by omega, by rw [Int.toNat_of_nonneg y0]; exact y2⟩, by unfold adjN; rw [Int.toNat_of_nonneg y0]; exact hy⟩
      have hr0 := fun y hy => (near_there h.wf (show (0 : Int) ≤ x by omega) (x := y) hy).1
      match hrow : rowAt N x, h3 with
      | a :: b :: c :: l, _ =>
        rw [hrow] at hs hin hr0
        simp only [List.pairwise_cons] at hs
        have ab := hs.1 b (by simp)
        have ac := hs.1 c (by simp)
        have bc := hs.2.1 c (by simp)
        have a0 := hr0 a (by simp)
        obtain ⟨m1, k1⟩ := hin a (by simp)
        obtain ⟨m2, k2⟩ := hin b (by simp)
        obtain ⟨m3, k3⟩ := hin c (by simp)
        exact ⟨_, _, _, m1, m2, m3, by omega, by omega, by omega, k1, k2, k3⟩
      | [], h3 => simp at h3
      | [_], h3 => simp at h3
      | [_, _], h3 => simp at h3
    obtain ⟨c, hc⟩ := dirac (adjN_sm h.wf) (List.nodup_range.sublist List.filter_sublist) hd h0
    exact ⟨_, hc.induced fun x hx => List.mem_range.2 ((hvs x).1 hx).1⟩
theorem narrow_K4 {n : Int} {E : List Ed} (hR : RightP n E) : narrowB n E = true ↔ ¬ K4 (nbrs n.toNat E) := by
  obtain ⟨hC, _, _⟩ := core_run hR
  have h1 : K4 (runR n E).2.1 ↔ K4 (nbrs n.toNat E) := K4_run (begin_wf hR)
  have hrun : runO n E = ((runR n E).1, leftF (runR n E).2.2, edgesF (runR n E).2.1 (runR n E).2.2) := if_pos hR
  unfold narrowB
  rw [decide_eq_true hR, Bool.true_and, decide_eq_true_eq, hrun, ← h1, hC.K4]
  simp
/-! #### models of sets, and rows of bits -/
theorem nbrs_adj {n : Int} {E : List Ed} (hR : RightP n E) (x y : Nat) : adjN (nbrs n.toNat E) x y ↔ adjE E x y := by
  unfold adjN
  by_cases hx : (x : Int) < n.toNat
  · rw [nbrs_row (by omega) hx, mem_nearL]
  · rw [rowAt_out (by rw [nbrs_length]; omega)]
    constructor
    · intro h; simp at h
    · intro h
      have := adjE_range (fun p hp => hR.2.2.2.1 p hp) h
      omega
theorem MdL.reindex {m v : Nat} (hv : v < m) {A A' : Nat → Nat → Prop} {c : Nat → Nat} (h : MdL (List.range (m - 1)) A' c) (hA : ∀ i j, i < m - 1 → j < m - 1 → A' i j → A (up1 v i) (up1 v j)) : MdL ((List.range m).erase v) A fun x => c (dn1 v x) := by
  have rg : ∀ x, x ∈ (List.range m).erase v ↔ x < m ∧ x ≠ v := fun x => by rw [erase_mem List.nodup_range, List.mem_range]
  have du : ∀ i, dn1 v (up1 v i) = i := fun i => up_inj (v := v) (up_dn (up1_ne v i))
  have upr : ∀ i, i < m - 1 → up1 v i ∈ (List.range m).erase v := fun i hi => (rg _).2 ⟨up1_lt hi, up1_ne v i⟩
  refine ⟨fun i hi => ?_, fun i hi P ⟨x, hx, e, hP⟩ hcl y hy ey => ?_, fun i j hij hj => ?_⟩
  · obtain ⟨x, hx, e⟩ := h.some i hi
    exact ⟨up1 v x, upr x (List.mem_range.1 hx), by rw [du]; exact e⟩
  · obtain ⟨x1, x2⟩ := (rg x).1 hx
    obtain ⟨y1, y2⟩ := (rg y).1 hy
    have := h.conn i hi (fun k => P (up1 v k)) ⟨dn1 v x, List.mem_range.2 (dn_lt x2 hv x1), e, by rw [up_dn x2]; exact hP⟩ (fun a b ha hb ea eb k hp => hcl _ _ (upr a (List.mem_range.1 ha)) (upr b (List.mem_range.1 hb)) (by rw [du]; exact ea) (by rw [du]; exact eb) (hA a b (List.mem_range.1 ha) (List.mem_range.1 hb) k) hp) (dn1 v y) (List.mem_range.2 (dn_lt y2 hv y1)) ey
    rw [up_dn y2] at this
    exact this
  · obtain ⟨x, y, hx, hy, k, ex, ey⟩ := h.meet i j hij hj
    exact ⟨up1 v x, up1 v y, upr x (List.mem_range.1 hx), upr y (List.mem_range.1 hy), hA x y (List.mem_range.1 hx) (List.mem_range.1 hy) k, by rw [du]; exact ex, by rw [du]; exact ey⟩
end Go.Sh

set_option linter.unusedVariables false
set_option linter.unusedSimpArgs false
namespace Go.Sh
open Go.Proofs
/-! ### carcanetlaw08.MinorCheck, MinorNone -/
end Go.Sh

set_option linter.unusedVariables false
set_option linter.unusedSimpArgs false
namespace Go.Sh
open Go.Proofs
/-! ### carcanetlaw10.ReduceModel -/
end Go.Sh

set_option linter.unusedVariables false
set_option linter.unusedSimpArgs false
namespace Go.Sh
open Go.Proofs
/-! ### models of what came of a graph are models of the graph -/
/-! ### what came of a deletion, of a contraction -/
theorem adj_ren {f : Int → Int} {E : List Ed} {a b : Int} (h : adjE (normE (Try.renE f E)) a b) : a ≠ b ∧ 0 ≤ a ∧ 0 ≤ b ∧ ∃ x y, adjE E x y ∧ f x = a ∧ f y = b := by
  have key : ∀ a b : Int, (a, b) ∈ normE (Try.renE f E) → a ≠ b ∧ 0 ≤ a ∧ 0 ≤ b ∧ ∃ x y, adjE E x y ∧ f x = a ∧ f y = b := by
    intro a b h
    obtain ⟨q, hq, hne, he⟩ := mem_normE.1 h
    unfold Try.renE at hq
    obtain ⟨p, hp, hpq⟩ := List.mem_filterMap.1 hq
    split at hpq
    · rename_i hpos
      injection hpq with hpq
      subst hpq
      dsimp only at hne
      unfold edN mnI mxI at he
      dsimp only at he
      by_cases hlt : f p.2 < f p.1
      · rw [if_pos hlt, if_neg (by omega)] at he
        injection he with e1 e2
        exact ⟨by omega, by omega, by omega, p.2, p.1, .inr hp, e1.symm, e2.symm⟩
      · rw [if_neg hlt, if_pos (by omega)] at he
        injection he with e1 e2
        exact ⟨by omega, by omega, by omega, p.1, p.2, .inl hp, e1.symm, e2.symm⟩
    · cases hpq
  rcases h with h | h
  · exact key a b h
  · obtain ⟨h1, h2, h3, x, y, h4, h5, h6⟩ := key b a h
    exact ⟨fun e => h1 e.symm, h3, h2, y, x, h4.symm, h6, h5⟩
theorem adj_okE {n : Int} {E : List Ed} (hR : RightP n E) {x y : Int} (h : adjE E x y) : 0 ≤ x ∧ x < n ∧ 0 ≤ y ∧ y < n ∧ x ≠ y := by
  rcases h with h | h
  · have := hR.2.2.2.1 _ h; unfold okE at this; dsimp only at this; omega
  · have := hR.2.2.2.1 _ h; unfold okE at this; dsimp only at this; omega
theorem ren_right {n m : Int} {f : Int → Int} {E : List Ed} (hR : RightP n E) (h0 : 0 ≤ m) (hm : m ≤ 1000) (hf : ∀ x, 0 ≤ x → x < n → f x < m) : normF m (Try.renE f E) = ((m, normE (Try.renE f E)), 0) ∧ RightP m (normE (Try.renE f E)) := by
  have hin : ∀ p ∈ Try.renE f E, inR m p := by
    intro q hq
    unfold Try.renE at hq
    obtain ⟨p, hp, hpq⟩ := List.mem_filterMap.1 hq
    have hok := hR.2.2.2.1 p hp
    unfold okE at hok
    split at hpq
    · rename_i hpos
      injection hpq with hpq
      subst hpq
      have := hf p.1 (by omega) (by omega)
      have := hf p.2 (by omega) (by omega)
      unfold inR; dsimp only; omega
    · cases hpq
  have hl : (normE (Try.renE f E)).length ≤ 4000 := Nat.le_trans (normE_length _) (Nat.le_trans (Try.renE_length f E) hR.2.2.1)
  refine ⟨?_, h0, hm, hl, normE_ok (fun p hp => by have := hin p hp; unfold inR at this; exact this), normE_sorted _⟩
  unfold normF
  rw [if_neg (by omega), if_neg (by omega), if_pos hin, if_neg (by omega)]
theorem del_val {n v : Int} {E : List Ed} (hR : RightP n E) (h0 : 0 ≤ v) (hv : v < n) : Try.delG n E v = ((n - 1, normE (Try.renE (Try.delF v) E)), 0) ∧ RightP (n - 1) (normE (Try.renE (Try.delF v) E)) := by
  have h := ren_right (m := n - 1) (f := Try.delF v) hR (by omega) (by have := hR.2.1; omega) (fun x h1 h2 => by unfold Try.delF; (split <;> first | omega | (split <;> omega)))
  refine ⟨?_, h.2⟩
  unfold Try.delG
  rw [if_pos hR, if_neg (by omega), h.1]
theorem con_val {n a b : Int} {E : List Ed} (hR : RightP n E) (h : (a, b) ∈ E) : Try.conG n E a b = ((n - 1, normE (Try.renE (Try.conF b a) E)), 0) ∧ RightP (n - 1) (normE (Try.renE (Try.conF b a) E)) := by
  have hok := hR.2.2.2.1 _ h
  unfold okE at hok
  dsimp only at hok
  have hm : mnI a b = a := by unfold mnI; rw [if_neg (by omega)]
  have hx : mxI a b = b := by unfold mxI; rw [if_pos (by omega)]
  have h1 := ren_right (m := n - 1) (f := Try.conF b a) hR (by omega) (by have := hR.2.1; omega) (fun x h1 h2 => by unfold Try.conF; (split <;> first | omega | (split <;> omega)))
  refine ⟨?_, h1.2⟩
  unfold Try.conG
  have hh : hasG n E a b = true := by
    unfold hasG
    rw [Bool.and_eq_true]
    exact ⟨decide_eq_true hR, by rw [List.elem_eq_mem, decide_eq_true_iff, mem_nearL]; exact .inl h⟩
  rw [if_pos hR, hm, hx, if_neg (by omega), if_pos hh, h1.1]
end Go.Sh

set_option linter.unusedVariables false
set_option linter.unusedSimpArgs false
namespace Go.Sh
open Go.Proofs
/-! ### what is narrow stays so -/
theorem K4_sub {n : Int} {E E' : List Ed} (hR : RightP n E) (hR' : RightP n E') (hs : ∀ a b, adjE E' a b → adjE E a b) (h : K4 (nbrs n.toNat E')) : K4 (nbrs n.toNat E) := by
  obtain ⟨c, hc⟩ := h
  rw [nbrs_length] at hc
  exact ⟨c, by rw [nbrs_length]; exact hc.mono fun x y _ _ k => (nbrs_adj hR x y).2 (hs _ _ ((nbrs_adj hR' x y).1 k))⟩
theorem K4_del {n v : Int} {E : List Ed} (hR : RightP n E) (h0 : 0 ≤ v) (hv : v < n) (h : K4 (nbrs (n - 1).toNat (normE (Try.renE (Try.delF v) E)))) : K4 (nbrs n.toNat E) := by
  have hR' := (del_val hR h0 hv).2
  obtain ⟨c, hc⟩ := h
  rw [nbrs_length, show (n - 1).toNat = n.toNat - 1 by omega] at hc
  have hr := hc.reindex (v := v.toNat) (A := adjN (nbrs n.toNat E)) (by omega) (fun i j hi hj k => by
    have k := (nbrs_adj hR' i j).1 (by rw [show (n - 1).toNat = n.toNat - 1 by omega]; exact k)
    obtain ⟨_, _, _, x, y, hxy, hx, hy⟩ := adj_ren k
    have hup : ∀ (z : Int) (q : Nat), Try.delF v z = q → z = (up1 v.toNat q : Nat) := fun z q hz => by
      unfold Try.delF at hz
      unfold up1
      split at hz
      · omega
      · split at hz <;> split <;> omega
    refine (nbrs_adj hR _ _).2 ?_
    rw [← hup x i hx, ← hup y j hy]
    exact hxy)
  exact ⟨_, by rw [nbrs_length]; exact hr.induced fun x hx => List.mem_of_mem_erase hx⟩
theorem K4_con {n a b : Int} {E : List Ed} (hR : RightP n E) (hab : (a, b) ∈ E) (h : K4 (nbrs (n - 1).toNat (normE (Try.renE (Try.conF b a) E)))) : K4 (nbrs n.toNat E) := by
  have hok := hR.2.2.2.1 _ hab
  unfold okE at hok
  dsimp only at hok
  have hR' := (con_val hR hab).2
  obtain ⟨c, hc⟩ := h
  rw [nbrs_length, show (n - 1).toNat = n.toNat - 1 by omega] at hc
  have hsm : Sm (adjN (nbrs n.toNat E)) := ⟨fun x y k => (nbrs_adj hR _ _).2 ((nbrs_adj hR _ _).1 k).symm, fun x k => (adj_okE hR ((nbrs_adj hR _ _).1 k)).2.2.2.2 rfl⟩
  have ea : ((a.toNat : Nat) : Int) = a := by omega
  have eb : ((b.toNat : Nat) : Int) = b := by omega
  have hr := hc.reindex (v := b.toNat) (A := ctr (adjN (nbrs n.toNat E)) b.toNat a.toNat) (by omega) (fun i j hi hj k => by
    have k := (nbrs_adj hR' i j).1 (by rw [show (n - 1).toNat = n.toNat - 1 by omega]; exact k)
    obtain ⟨hne, _, _, x, y, hxy, hx, hy⟩ := adj_ren k
    have hup : ∀ (z : Int) (q : Nat), Try.conF b a z = q → (z = b ∧ (q : Int) = a ∧ up1 b.toNat q = a.toNat) ∨ (z ≠ b ∧ z = (up1 b.toNat q : Nat)) := fun z q hz => by
      unfold Try.conF at hz
      unfold up1
      split at hz
      · left
        refine ⟨by assumption, by omega, ?_⟩
        split <;> omega
      · right
        refine ⟨by assumption, ?_⟩
        split at hz <;> split <;> omega
    rcases hup x i hx with ⟨rfl, h1, h2⟩ | ⟨h1, h2⟩
    · rcases hup y j hy with ⟨rfl, h3, h4⟩ | ⟨h3, h4⟩
      · exact absurd (h1.trans h3.symm) hne
      · refine .inr (.inl ⟨h2, (nbrs_adj hR _ _).2 ?_, fun e => ?_⟩)
        · rw [eb, ← h4]; exact hxy
        · have : y = a := by rw [h4, e]; exact ea
          have hcy : Try.conF x a y = a := by unfold Try.conF; rw [this, if_neg (by omega), if_neg (by omega)]
          rw [hcy] at hy
          exact hne (h1.trans hy)
    · rcases hup y j hy with ⟨rfl, h3, h4⟩ | ⟨h3, h4⟩
      · refine .inr (.inr ⟨h4, (nbrs_adj hR _ _).2 ?_, fun e => ?_⟩)
        · rw [eb, ← h2]; exact hxy.symm
        · have : x = a := by rw [h2, e]; exact ea
          have hcx : Try.conF y a x = a := by unfold Try.conF; rw [this, if_neg (by omega), if_neg (by omega)]
          rw [hcx] at hx
          exact hne (hx.symm.trans h3.symm)
      · refine .inl ((nbrs_adj hR _ _).2 ?_)
        rw [← h2, ← h4]; exact hxy)
  have hl := MdL.lift hsm (v := b.toNat) (u := a.toNat) (vs := List.range n.toNat) (List.mem_range.2 (by omega)) (List.mem_range.2 (by omega)) ((nbrs_adj hR _ _).2 (by rw [ea, eb]; exact .inr hab)) (fun x => erase_mem List.nodup_range _ x) hr
  exact ⟨_, by rw [nbrs_length]; exact hl⟩
end Go.Sh

set_option linter.unusedVariables false
set_option linter.unusedSimpArgs false
namespace Go.Sh
open Go.Proofs
/-! ### carcanetlaw10.ReduceLess -/
theorem narrow_wo {n : Int} {E E' : List Ed} (hR : RightP n E) (hR' : RightP n E') (hs : ∀ p ∈ E', p ∈ E) (h : narrowB n E = true) : narrowB n E' = true :=
  (narrow_K4 hR').2 fun k => (narrow_K4 hR).1 h (K4_sub hR hR' (fun a b => Or.imp (hs _) (hs _)) k)
theorem narrow_del {n v : Int} {E : List Ed} (hR : RightP n E) (h0 : 0 ≤ v) (hv : v < n) (h : narrowB n E = true) : narrowB (n - 1) (normE (Try.renE (Try.delF v) E)) = true :=
  (narrow_K4 (del_val hR h0 hv).2).2 fun k => (narrow_K4 hR).1 h (K4_del hR h0 hv k)
theorem narrow_con {n a b : Int} {E : List Ed} (hR : RightP n E) (hm : (a, b) ∈ E) (h : narrowB n E = true) : narrowB (n - 1) (normE (Try.renE (Try.conF b a) E)) = true :=
  (narrow_K4 (con_val hR hm).2).2 fun k => (narrow_K4 hR).1 h (K4_con hR hm k)
noncomputable def RLessF := conF (fun _ : (Int × List Ed) × Int => True) (fun a => [grV a.1.1 a.1.2, .one (.s (.i .i64 a.2))]) (fun _ => .one (.s (.b true)))
set_option maxHeartbeats 1000000 in
theorem RLess_ok : SoundP Try.prog 13 RLessF := by
  refine con_pure (X := { Γ := [(26, Shown10C), (16, OfC), (25, NarrowC), (35, WoC), (31, DelC), (33, ConC)], T := T, nt := Try.f13.ntmps }) cr_none hmix hT (sound_cons Shown10_ok (sound_cons Of_ok (sound_cons Narrow_ok (sound_cons Wo_ok (sound_cons Del_ok (sound_cons Con_ok sound_nil)))))) Try.func13 (by rfl) (by rfl) (by rfl) 3 ?_
  rintro ⟨⟨n, E⟩, v⟩ -
  dsimp only
  refine ⟨⟨Nat.le_of_ble_eq_true rfl, Nat.le_of_ble_eq_true rfl⟩, ?_⟩
  refine Call.by _ _ Shown10C_at ?_
  refine Call.by _ _ (OfC_at n E (most := 30) (by omega)) ?_
  have hR := any_right (n := n) (l := E) (most := 30) (by omega) (by omega)
  obtain ⟨m, hm⟩ : ∃ m, anyN n 30 = m := ⟨_, rfl⟩
  obtain ⟨F, hF⟩ : ∃ F, anyE n E 30 = F := ⟨_, rfl⟩
  rw [hm, hF] at hR ⊢
  have hFl := hR.2.2.1
  refine Call.by _ _ (NarrowC_at m F) ?_
  refine Pick.by (fun h0 => ?_) (fun h0 => ?_)
  · exact ⟨rfl, rfl⟩
  have h0 : narrowB m F = true := by
    have h0 : (!narrowB m F) = false := h0
    simpa using h0
  refine Pick.by (fun h1 => ?_) (fun h1 => ?_)
  · exact ⟨rfl, rfl⟩
  have h1 : 0 < F.length := by
    have h1 : ¬ (F.length : Int) = 0 := by simpa [edges_length] using h1
    omega
  refine Pick.F (beq_eq_false_iff_ne.2 (by rw [edges_length]; omega)) ?_
  have hr := tmod_range (low_range v).1 (show 0 < (F.length : Int) by omega)
  obtain ⟨i, hi⟩ : ∃ i : Nat, (low v).tmod (F.length : Int) = i := ⟨((low v).tmod (F.length : Int)).toNat, by omega⟩
  have hil : i < F.length := by omega
  refine Idx.by i (by rw [← hi, edges_length]; rfl) (by rw [edges_length]; exact hil) ?_
  refine Look.by _ (edges_get (List.getElem?_eq_getElem hil)) ?_
  obtain ⟨⟨a, b⟩, hab⟩ : ∃ e, F[i] = e := ⟨_, rfl⟩
  have hmem : (a, b) ∈ F := by rw [← hab]; exact List.getElem_mem hil
  have hok := hR.2.2.2.1 _ hmem
  unfold okE at hok
  dsimp only at hok
  simp only [hab]
  refine Seg.by (by kernel_rfl) ?_
  have hed : edN (a, b) = (a, b) := by unfold edN mnI mxI; dsimp only; rw [if_neg (by omega), if_pos (by omega)]
  obtain ⟨E', hw, hR', hs⟩ := wo_val (n := m) (a := a) (b := b) hR (by rw [hed]; exact hmem)
  have hW := WoC_at (n := m) (E := F) a b (by omega)
  rw [hw] at hW
  refine Call.by _ _ hW ?_
  have hD := DelC_at (n := m) (E := F) a (by omega)
  rw [(del_val hR hok.1 (by omega)).1] at hD
  refine Call.by _ _ hD ?_
  have hC := ConC_at (n := m) (E := F) a b (by omega)
  rw [(con_val hR hmem).1] at hC
  refine Call.by _ _ hC ?_
  have n1 := NarrowC_at m E'
  rw [narrow_wo hR hR' hs h0] at n1
  refine Call.by _ _ n1 ?_
  have n2 := NarrowC_at (m - 1) (normE (Try.renE (Try.delF a) F))
  rw [narrow_del hR hok.1 (by omega) h0] at n2
  refine Call.by _ _ n2 ?_
  have n3 := NarrowC_at (m - 1) (normE (Try.renE (Try.conF b a) F))
  rw [narrow_con hR hmem h0] at n3
  refine Call.by _ _ n3 ?_
  exact ⟨rfl, rfl⟩
end Go.Sh

set_option linter.unusedVariables false
set_option linter.unusedSimpArgs false
namespace Go.Sh
open Go.Proofs
/-! ### carcanetlaw08.MinorMoves -/
def i64 (x : Int) : Prop := -9223372036854775808 ≤ x ∧ x ≤ 9223372036854775807
def clI (x : Int) : Int := mnI x 4611686018427387904
def clP (j : Nat) (row : List Int) : List Int := (row.take j).map clI ++ row.drop j
theorem clP_all (row : List Int) (j : Nat) (h : row.length ≤ j) : clP j row = row.map clI := by
  unfold clP
  rw [List.take_of_length_le h, List.drop_eq_nil_of_le h, List.append_nil]
theorem clP_zero (row : List Int) : clP 0 row = row := by simp [clP]
def ClI (S : List (List Int)) (i j : Nat) (R : List (List Int)) : Prop := R.length = S.length ∧ ∀ r row, S[r]? = some row → R[r]? = some (if r < i then row.map clI else if r = i then clP j row else row)
theorem ClI.at {S R : List (List Int)} {i j : Nat} (h : ClI S i j R) {row : List Int} (hi : S[i]? = some row) : R[i]? = some (clP j row) := by
  have := h.2 i row hi
  rwa [if_neg (by omega), if_pos rfl] at this
theorem ClI.step {S R : List (List Int)} {i j : Nat} (h : ClI S i j R) {row : List Int} (hi : S[i]? = some row) : ClI S i (j + 1) (R.set i (clP (j + 1) row)) := by
  refine ⟨by rw [List.length_set]; exact h.1, fun r w hr => ?_⟩
  rw [List.getElem?_set]
  by_cases e : i = r
  · subst e
    rw [hi] at hr
    injection hr with hr
    subst hr
    rw [if_pos rfl, if_pos (by rw [h.1]; exact (List.getElem?_eq_some_iff.1 hi).1), if_neg (by omega), if_pos rfl]
  · rw [if_neg e, h.2 r w hr, if_neg (show ¬ r = i by omega), if_neg (show ¬ r = i by omega)]
theorem ClI.next {S R : List (List Int)} {i j : Nat} (h : ClI S i j R) {row : List Int} (hi : S[i]? = some row) (hj : row.length ≤ j) : ClI S (i + 1) 0 R := by
  refine ⟨h.1, fun r w hr => ?_⟩
  rw [h.2 r w hr]
  by_cases e : r < i
  · rw [if_pos e, if_pos (by omega)]
  · by_cases e2 : r = i
    · subst e2
      rw [hi] at hr
      injection hr with hr
      subst hr
      rw [if_neg e, if_pos rfl, if_pos (by omega), clP_all _ _ hj]
    · rw [if_neg e, if_neg e2, if_neg (by omega)]
      split
      · rw [clP_zero]
      · rfl
theorem ClI.done {S R : List (List Int)} {i : Nat} (h : ClI S i 0 R) (hi : S.length ≤ i) : R = S.map fun l => l.map clI := by
  apply List.ext_getElem?
  intro r
  by_cases hr : r < S.length
  · rw [h.2 r _ (List.getElem?_eq_getElem hr), if_pos (by omega)]
    simp [hr]
  · rw [List.getElem?_eq_none (by rw [h.1]; omega), List.getElem?_eq_none (by simp; omega)]
theorem ClI.zero (S : List (List Int)) : ClI S 0 0 S := ⟨rfl, fun r row h => by
  rw [if_neg (by omega), clP_zero]
  split <;> exact h⟩
end Go.Sh

set_option linter.unusedVariables false
set_option linter.unusedSimpArgs false
namespace Go.Sh
open Go.Proofs
/-! ### what is handed in, as data -/
theorem VTy.struct {T : Tab} {t : Nat} {ti : TI} {fs : List (Nat × Nat)} {v : V} (ht : lk T t = some ti) (hk : ti.kind = .struct fs) (h : VTy T t v) : ∃ cs, v = .agg cs ∧ All2 (fun (f : Nat × Nat) c => CTy T f.2 c) fs cs := by
  unfold VTy at h
  rw [ht] at h
  simp only at h
  rw [hk] at h
  exact h
theorem VTy.cell {T : Tab} {t : Nat} {ti : TI} {v : V} (ht : lk T t = some ti) (hk : ∀ fs, ti.kind ≠ .struct fs ∧ ∀ n e, ti.kind ≠ .array n e) (h : VTy T t v) : ∃ c, v = .one c ∧ CTy T t c := by
  unfold VTy at h
  rw [ht] at h
  simp only at h
  cases hq : ti.kind with
  | struct fs => exact absurd hq (hk fs).1
  | array n e => exact absurd hq ((hk []).2 n e)
  | _ => rw [hq] at h; exact h
theorem VTy.array {T : Tab} {t : Nat} {ti : TI} {n e : Nat} {v : V} (ht : lk T t = some ti) (hk : ti.kind = .array n e) (h : VTy T t v) : ∃ cs, v = .agg cs ∧ cs.length = n ∧ ∀ c ∈ cs, CTy T e c := by
  unfold VTy at h
  rw [ht] at h
  simp only at h
  rw [hk] at h
  exact h
theorem ScTy.int {T : Tab} {t : Nat} {ti : TI} {k : IntKind} {x : Sc} (ht : lk T t = some ti) (hk : ti.kind = .int k) (h : ScTy T t x) : ∃ n, x = .i k n ∧ (Lit.int k n).wf = true := by
  unfold ScTy at h
  rw [ht] at h
  simp only at h
  rw [hk] at h
  cases x with
  | i k' n => obtain ⟨rfl, h⟩ := h; exact ⟨n, rfl, h⟩
  | b _ => exact h.elim
theorem CTy.sc {T : Tab} {t : Nat} {c : C} (hs : sliceE T t = none) (h : CTy T t c) : ∃ x, c = .s x ∧ ScTy T t x := by
  unfold CTy at h
  rw [hs] at h
  exact h
theorem CTy.flat {T : Tab} {t e : Nat} {c : C} (hs : sliceE T t = some e) (hs2 : sliceE T e = none) (h : CTy T t c) : ∃ rows, c = .flat false (sizeT T e) rows ∧ FlatTy T e rows := by
  unfold CTy at h
  rw [hs] at h
  simp only at h
  rw [hs2] at h
  exact h
theorem CTy.nest {T : Tab} {t e e2 : Nat} {c : C} (hs : sliceE T t = some e) (hs2 : sliceE T e = some e2) (h : CTy T t c) : ∃ rows, c = .nest false (sizeT T e2) rows ∧ rows.length ≤ maxLen ∧ ∀ fl ∈ rows, FlatTy T e2 fl := by
  unfold CTy at h
  rw [hs] at h
  simp only at h
  rw [hs2] at h
  exact h
theorem i64_wf {n : Int} (h : (Lit.int .i64 n).wf = true) : i64 n := by
  simp [Lit.wf, IntKind.min, IntKind.max, IntKind.signed, IntKind.bits] at h
  exact h
theorem list_ex {α β : Type} {P : α → β → Prop} : ∀ {l : List α}, (∀ x ∈ l, ∃ y, P x y) → ∃ m : List β, All2 P l m := by
  intro l
  induction l with
  | nil => intro _; exact ⟨[], All2.nil⟩
  | cons x l ih =>
    intro h
    obtain ⟨y, hy⟩ := h x (by simp)
    obtain ⟨m, hm⟩ := ih fun x hx => h x (by simp [hx])
    exact ⟨y :: m, All2.cons' hy hm⟩
theorem All2.map_eq {α β : Type} {f : β → α} {l : List α} {m : List β} (h : All2 (fun x y => x = f y) l m) : l = m.map f := by
  apply List.ext_getElem?
  intro i
  rw [List.getElem?_map]
  by_cases hi : i < l.length
  · have him : i < m.length := by rw [← h.1]; exact hi
    rw [List.getElem?_eq_getElem hi, List.getElem?_eq_getElem him, Option.map_some, h.2 i _ _ (List.getElem?_eq_getElem hi) (List.getElem?_eq_getElem him)]
  · rw [List.getElem?_eq_none (by omega), List.getElem?_eq_none (by rw [← h.1]; omega)]; rfl
theorem All2.mem {α β : Type} {R : α → β → Prop} {l : List α} {m : List β} (h : All2 R l m) {y : β} (hy : y ∈ m) : ∃ x ∈ l, R x y := by
  obtain ⟨i, hi⟩ := List.mem_iff_getElem?.1 hy
  have hl := (List.getElem?_eq_some_iff.1 hi).1
  rw [← h.1] at hl
  exact ⟨_, List.getElem_mem hl, h.2 i _ y (List.getElem?_eq_getElem hl) hi⟩
/-! #### at this program's types -/
theorem All2.two {α β : Type} {R : α → β → Prop} {a b : α} {m : List β} (h : All2 R [a, b] m) : ∃ x y, m = [x, y] ∧ R a x ∧ R b y := by
  obtain ⟨h1, h2⟩ := h
  match m, h1, h2 with
  | [x, y], _, h2 => exact ⟨x, y, rfl, h2 0 a x rfl rfl, h2 1 b y rfl rfl⟩
theorem All2.one {α β : Type} {R : α → β → Prop} {a : α} {m : List β} (h : All2 R [a] m) : ∃ x, m = [x] ∧ R a x := by
  obtain ⟨h1, h2⟩ := h
  match m, h1, h2 with
  | [x], _, h2 => exact ⟨x, rfl, h2 0 a x rfl rfl⟩
theorem All2.three {α β : Type} {R : α → β → Prop} {a b c : α} {m : List β} (h : All2 R [a, b, c] m) : ∃ x y z, m = [x, y, z] ∧ R a x ∧ R b y ∧ R c z := by
  obtain ⟨h1, h2⟩ := h
  match m, h1, h2 with
  | [x, y, z], _, h2 => exact ⟨x, y, z, rfl, h2 0 a x rfl rfl, h2 1 b y rfl rfl, h2 2 c z rfl rfl⟩
theorem row_edge {row : Row} (h : RowTy T 60 row) : ∃ p : Ed, row = [.i .i64 p.1, .i .i64 p.2] ∧ i64 p.1 ∧ i64 p.2 := by
  obtain ⟨_, h⟩ := h
  obtain ⟨x, y, rfl, hx, hy⟩ := All2.two h
  obtain ⟨n, rfl, hn⟩ := ScTy.int (t := 3) rfl rfl hx
  obtain ⟨m, rfl, hm⟩ := ScTy.int (t := 3) rfl rfl hy
  exact ⟨(n, m), rfl, i64_wf hn, i64_wf hm⟩
theorem edges_of {fl : Flat} (h : FlatTy T 60 fl) : ∃ E : List Ed, fl = edges E ∧ E.length ≤ maxLen ∧ ∀ p ∈ E, i64 p.1 ∧ i64 p.2 := by
  obtain ⟨m, hm⟩ := list_ex (P := fun row (p : Ed) => row = [Sc.i .i64 p.1, Sc.i .i64 p.2] ∧ i64 p.1 ∧ i64 p.2) fun row hr => row_edge (h.2 row hr)
  refine ⟨m, All2.map_eq (f := fun p : Ed => [Sc.i .i64 p.1, Sc.i .i64 p.2]) (hm.imp fun _ _ _ k => k.1), by rw [← hm.1]; exact h.1, fun x hx => ?_⟩
  obtain ⟨_, _, k⟩ := hm.mem hx
  exact k.2
theorem int_of {v : V} (h : VTy T 3 v) : ∃ n, v = .one (.s (.i .i64 n)) ∧ i64 n := by
  obtain ⟨c, rfl, hc⟩ := VTy.cell (ti := { kind := .int .i64, size := _, bytes := _, zero := _, eqs := _, cells := _ }) rfl (fun fs => by simp) h
  obtain ⟨x, rfl, hx⟩ := CTy.sc rfl hc
  obtain ⟨n, rfl, hw⟩ := ScTy.int (t := 3) rfl rfl hx
  exact ⟨n, rfl, i64_wf hw⟩
theorem net_of {v : V} (h : VTy T 24 v) : ∃ n E, v = grV n E ∧ i64 n ∧ ∀ p ∈ E, i64 p.1 ∧ i64 p.2 := by
  obtain ⟨cs, rfl, hcs⟩ := VTy.struct (t := 24) rfl rfl h
  obtain ⟨x, y, rfl, hx, hy⟩ := All2.two hcs
  obtain ⟨z, rfl, hz⟩ := CTy.sc (t := 3) rfl hx
  obtain ⟨n, rfl, hw⟩ := ScTy.int (t := 3) rfl rfl hz
  obtain ⟨rows, rfl, hr⟩ := CTy.flat (t := 22) (e := 60) rfl rfl hy
  obtain ⟨E, rfl, _, hE⟩ := edges_of hr
  exact ⟨n, E, rfl, i64_wf hw, hE⟩
end Go.Sh

set_option linter.unusedVariables false
namespace Go.Sh
open Go.Proofs
theorem own : ownKnob Try.prog.godebug = none := by kernel_rfl
theorem laidOut : laidOutB Try.prog = true := by kernel_rfl
set_option maxRecDepth 100000 in
/-- A law whose function answers true, whatever comes. -/
theorem law_row {s : ChangeSpec} {f : FuncId} {fn : Func} {conds : List PathCond} {apart fresh handsOn : Bool} {ts : List TypeId} {F : List V → Option (V × List V)} (hf : Try.prog.funcs[f]? = some fn) (hin : Try.prog.inits.idxOf? f = none) (hv : s.vars = [])
    (hts : fn.params.toList = ts) (ha : ts.all (argB T) = true) (hr : ts.all (fun t => Try.prog.readableRec t && Nat.blt t Try.prog.types.size) = true) (hres : fn.resultTypes = #[4])
    (hsp : ∀ (H : Type) (ds : List (DataW H)), ds.length = ts.length → (s.fn H ds).results = [.lit (.bool true)] ∧ (s.fn H ds).args = ds ∧ (s.fn H ds).vars = [])
    (hS : SoundP Try.prog f F) (hF : LawV T ts F) (os : Os) (started : os.Started) (H : Type) (enc : TypeId × Value → H) (a : Assume)
    (hw : ∃ (w : World) (tape : Tape) (i : Input), w.os = os ∧ (w.forCall tape i).Shaped Try.checked.prog ∧ i.vars = [] ∧ Input.okWide Try.checked.prog (w.forCall tape i) .any w.heap.size f i ∧
      s.pre6 enc Try.checked.prog fn conds apart (w.forCall tape i).memory i.args ∧ a.holds Try.checked.prog (lone (Frame.enter Try.checked.prog f i.args .normal) [] (w.forCall tape i))) :
    ReturnsInHanded a Try.checked os f .any (s.pre6 enc Try.checked.prog fn conds apart) (s.post enc Try.checked.prog fn apart fresh handsOn false) := by
  refine returnsInHanded_of_change (C := Try.checked) own started hin hf hw ?_
  intro W base args ds gs before hval hW _ _
  refine law_contract (P := Try.prog) (conds := conds) hT laidOut hv hts ha (fun t ht => ?_) hres Try.underlying4 (hsp H) hS hF hval hW
  have := List.all_eq_true.1 hr t ht
  simp only [Bool.and_eq_true] at this
  exact ⟨this.1, Nat.le_of_ble_eq_true this.2⟩
end Go.Sh
