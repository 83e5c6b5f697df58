/- What the functions answer that the statement reaches. No condition. -/
import Derived.Test.YtlffbpdecjjpfaaFn1
import Derived.Test.YtlffbpdecjjpfaaRows
set_option linter.unusedVariables false
set_option linter.unusedSimpArgs false
namespace Go.Sh
open Go.Proofs Go.RowKit
/-! ### slices.Clone of steps -/
attribute [local go_sem] Oper.semAt_some
theorem tS : Try.prog.underlying 33 = some (TypeDesc.slice 57) := by kernel_rfl
theorem iS : (Try.prog.info? 57).map (fun i => (i.zero, i.size, i.bytes)) = some (some (.agg #[.int .i64 0, .int .i64 0, .int .i64 0, .bool false]), 4, 32) := by kernel_rfl
set_option maxRecDepth 100000 in
set_option maxHeartbeats 2000000 in
theorem clone_empty (A : Option Addr) (c : Nat) (w : World) : Calls Try.prog 54 #[.slice A 0 c] w fun e w' => ∃ B c', e = .returned (.slice B 0 c') ∧ Frm (fun _ => False) w w' ∧ ((B = none ∧ c' = 0) ∨ ∃ gb cur T, B = some ⟨gb, 0, none⟩ ∧ w.heap.size ≤ gb ∧ w'.heap[gb]? = some (.cells cur T (0, 0)) ∧ c' * 4 ≤ cur.size ∧ c' ≤ 9223372036854775807) := by
  have t22 := tS
  obtain ⟨i0, hi, hz0, hz1, hz2⟩ := info_parts iS
  have q22 : ∀ (w : World) (a : Option Addr) (n c n' c' : Nat), (binOp .eql 33 (.slice a n c) (.slice none n' c')).run Try.prog w = .ok (.bool a.isNone) w := fun w a n c n' c' => Lib.run_eql_slice_nil w _ _ a n c n' c' tS
  have u22 : ∀ w, Sem.run Try.prog (underlying 33) w = .ok (TypeDesc.slice 57) w := run_underlying t22
  refine (callsIn_wide (n := 6)).1 ?_
  refine callsIn_of_wp Try.func54 rfl trivial ?_ rfl
  simp only [Try.ntmps54, List.size_toArray, List.length_cons, List.length_nil, Nat.reduceAdd, Nat.reduceSub, Array.replicate_succ, Array.replicate_zero, List.push_toArray, List.append_toArray, List.nil_append, List.cons_append]
  cases A with
  | none =>
    gi_wp2
    go_ret
    exact ⟨_, _, rfl, Frm.refl _ _, .inl ⟨rfl, rfl⟩⟩
  | some a =>
    gi_wp2_with (gi_at_builtin; refine wpListIn_append_own _ rfl _ _ 33 rfl w.heap.size 57 i0 _ 4 32 t22 hi hz0 hz1 hz2 rfl (by decide) _ _ _ rfl (World.ownsRow_made w #[] 0 (Nat.le_refl _) (Nat.zero_le _) rfl) a 0 c [] rfl rfl (by intro j u hj; simp at hj) (by intro u hu; cases hu) (by unfold maxLen; omega) (by omega) (by simp) ?_)
    intro v' w1 hown hgrow hnil
    gi_wp2
    go_ret
    have hb : Below w.heap.size w w1 := ((Below.refl _ w).alloc (Nat.le_refl _) _).grown hgrow (by simp) (by intro k hk; simp [Value.ownBlock] at hk; omega)
    have hf : Frm (fun _ => False) w w1 := ⟨hb.os, .of hb.tape, hb.output, hb.size, fun b h _ => hb.block b h⟩
    rcases hown.2 with ⟨rfl, _⟩ | ⟨gb, cap', cur, rfl, hbase, hgb, r1, r2, r3, r4⟩
    · exact ⟨_, _, rfl, hf, .inl ⟨rfl, rfl⟩⟩
    · refine ⟨_, _, rfl, hf, .inr ⟨gb, cur, _, rfl, hbase, hgb, ?_, ?_⟩⟩
      · omega
      · unfold maxLen at *; omega
noncomputable def CloneC : Con := conP 1 (fun l : List Stp => l.length ≤ 1000000) (fun l => [.one (.flat false 4 (stps l))]) (fun l => .one (.flat true 4 (stps l)))
theorem stps_inj {l m : List Stp} (h : stps l = stps m) : l = m := by
  refine (List.map_inj_right fun a b e => ?_).1 h
  obtain ⟨a1, a2, a3, a4⟩ := a
  obtain ⟨b1, b2, b3, b4⟩ := b
  simp at e
  obtain ⟨rfl, rfl, rfl, rfl⟩ := e
  rfl
theorem CloneC_at {l : List Stp} (h : l.length ≤ 1000000) : CloneC.F [.one (.flat false 4 (stps l))] = some (.one (.flat true 4 (stps l)), []) :=
  conP_at (a := l) (fun a b _ _ h => by simp at h; rw [stps_inj h]) h
theorem Clone_ok : SoundC Try.prog T 54 CloneC := by
  refine sound_pure Try.func54 (by rfl) (by rfl) (by simp [CloneC, conP]) ?_
  have hfull : SoundP Try.prog 54 (conF (fun l : List Stp => l.length ≤ 1000000 ∧ l ≠ []) (fun l => [.one (.flat false 4 (stps l))]) (fun l => .one (.flat true 4 (stps l)))) := by
    refine con_pure (X := { Γ := [], T := T, nt := 8 }) cr_none hmix hT sound_nil Try.func54 (by rfl) (by rfl) (by rfl) 1 ?_
    rintro l ⟨hl, hne⟩
    refine ⟨⟨Nat.le_of_ble_eq_true rfl, Nat.le_of_ble_eq_true rfl⟩, ?_⟩
    have hpos : 0 < l.length := List.length_pos_iff.2 hne
    refine Pick.T (by rw [stps_length]; simpa using hpos) ?_
    refine Pick.T (by simp [cut, stps_length]; omega) ?_
    exact ⟨rfl, rfl, rfl⟩
  intro vs r outs hF w us hus
  obtain ⟨l, hl, rfl, rfl⟩ := conF_inv (pre := fun l : List Stp => l.length ≤ 1000000) (enc := fun l => [.one (.flat false 4 (stps l))]) (val := fun l => .one (.flat true 4 (stps l))) hF
  by_cases hne : l = []
  · subst hne
    obtain ⟨u, hu, x, hx, hFl⟩ : ∃ u, us = #[u] ∧ CellOk w noLab 0 (.flat false 4 (stps [])) u := by
      obtain ⟨us⟩ := us
      match us, hus with
      | [u], hus => exact ⟨u, rfl, hus.1⟩
      | [], hus => exact hus.elim
      | _ :: _ :: _, hus => exact hus.2.elim
    subst hu
    subst hx
    refine (clone_empty x.A x.c w).mono ?_
    rintro e w' ⟨B, c', rfl, hf, hB⟩
    rcases hB with ⟨rfl, rfl⟩ | ⟨gb, cur, T', rfl, h1, h2, h3, h4⟩
    · exact ⟨_, noLab, rfl, hf, fun b k h => by simp [noLab] at h, ⟨⟨none, 0, fun _ => none, fun _ => 0⟩, rfl, FlatOk.nil (by omega)⟩⟩
    · have hlt : gb < w'.heap.size := by
        rcases Nat.lt_or_ge gb w'.heap.size with h | h
        · exact h
        · simp [Array.getElem?_eq_none h] at h2
      refine ⟨_, fun b => if b = gb then some (0, none) else none, rfl, hf, fun b k h => ?_, ⟨⟨some ⟨gb, 0, none⟩, c', fun _ => none, fun _ => 0⟩, rfl, ?_⟩⟩
      · dsimp only at h
        split at h
        · rename_i e; subst e; exact ⟨h1, hlt⟩
        · simp at h
      · exact { fits := Nat.zero_le _, pos := by omega, even := fun i row h => by simp [stps] at h, cell := fun i row j x h => by simp [stps] at h, room := fun _ => .inr ⟨gb, 0, cur, T', rfl, if_pos rfl, h2, by dsimp only; omega, h4⟩ }
  · exact hfull _ _ _ (conF_at (fun a b _ _ h => by simp at h; rw [stps_inj h]) ⟨hl, hne⟩) w us hus
/-! ### reduce.Narrow -/
/-! ### reduce.Replay -/
def mayStp (N : List (List Int)) (G : List Bool) (s : Stp) : Bool := mayB N G s.1 && decide (stepF N s.1 = s)
def replS : List Stp → List (List Int) → List Bool → List Stp × Bool × List (List Int) × List Bool
  | [], N, G => ([], true, N, G)
  | s :: r, N, G => if mayStp N G s then (s :: (replS r (doN N s) (doG G s)).1, (replS r (doN N s) (doG G s)).2) else ([], false, N, G)
def replR (n : Int) (E : List Ed) (l : List Stp) : List Stp × Bool × List (List Int) × List Bool := replS l (nbrs n.toNat E) (List.replicate n.toNat false)
open Classical in
noncomputable def replO (n : Int) (E : List Ed) (l : List Stp) : (List Stp × List Int × List Ed) × Bool := if RightP n E then (((replR n E l).1, leftF (replR n E l).2.2.2, edgesF (replR n E l).2.2.1 (replR n E l).2.2.2), (replR n E l).2.1) else (([], [], []), false)
noncomputable def ReplC : Con := conP 3 (fun a : (Int × List Ed) × List Stp => a.2.length ≤ 1000000) (fun a => [grV a.1.1 a.1.2, .one (.flat false 4 (stps a.2))]) (fun a => .tup [logV true (replO a.1.1 a.1.2 a.2).1.1 (replO a.1.1 a.1.2 a.2).1.2.1 (replO a.1.1 a.1.2 a.2).1.2.2, .one (.s (.b (replO a.1.1 a.1.2 a.2).2))])
theorem ReplC_at {n : Int} {E : List Ed} {l : List Stp} (h : l.length ≤ 1000000) : ReplC.F [grV n E, .one (.flat false 4 (stps l))] = some (.tup [logV true (replO n E l).1.1 (replO n E l).1.2.1 (replO n E l).1.2.2, .one (.s (.b (replO n E l).2))], []) :=
  conP_at (a := ((n, E), l)) (fun a b _ _ h => by
    obtain ⟨⟨n, E⟩, l⟩ := a
    obtain ⟨⟨n', E'⟩, l'⟩ := b
    simp at h
    obtain ⟨h1, h2⟩ := h
    obtain ⟨rfl, rfl⟩ := grV_inj h1
    rw [stps_inj h2]) h
noncomputable def XRepl : Cx := { Γ := [(42, RightC), (50, BeginC), (51, MayC), (52, StepC), (54, CloneC), (84, turnC (fun l _ => l.Pairwise (· ≤ ·) ∧ l.length ≤ 1000000) (fun l x => l.erase x)), (85, turnC (fun l _ => l.Pairwise (· ≤ ·) ∧ l.length ≤ 1000000) insAt)], T := T, nt := 49, inl := [(55, inlF Try.f55), (53, inlF Try.f53)], jc := [70031] }
theorem XRepl_sound : Sound Try.prog T XRepl.Γ := sound_cons RightG_ok (sound_cons Begin_ok (sound_cons May_ok (sound_cons Step_ok (sound_cons Clone_ok (sound_cons (turn_sound Without_call) (sound_cons (turn_sound With_call) sound_nil))))))
theorem XRepl_ok : CrOk Try.prog (callAt 1 XRepl) := callAt_ok hmix hT XRepl_sound (inl_cons Try.func55 (by rfl) (by rfl) (by rfl) (inl_cons Try.func53 (by rfl) (by rfl) (by rfl) inl_nil)) cr_none 1
theorem eqStp (a b : Stp) : (a.1 == b.1 && (a.2.1 == b.2.1 && (a.2.2.1 == b.2.2.1 && (a.2.2.2 == b.2.2.2 && true)))) = decide (a = b) := by
  obtain ⟨a1, a2, a3, a4⟩ := a
  obtain ⟨b1, b2, b3, b4⟩ := b
  rw [Bool.eq_iff_iff]
  simp
theorem replS_go {l : List Stp} {N : List (List Int)} {G : List Bool} {s : Stp} (h : mayStp N G s = true) : replS (s :: l) N G = (s :: (replS l (doN N s) (doG G s)).1, (replS l (doN N s) (doG G s)).2) := if_pos h
theorem replS_no {l : List Stp} {N : List (List Int)} {G : List Bool} {s : Stp} (h : mayStp N G s = false) : replS (s :: l) N G = ([], false, N, G) := if_neg (by rw [h]; simp)
set_option maxHeartbeats 4000000 in
theorem Repl_ok : SoundC Try.prog T 25 ReplC := by
  refine sound_con (X := XRepl) (cr := callAt 1 XRepl) XRepl_ok hmix hT XRepl_sound Try.func25 (by rfl) (by rfl) (by rfl) (by rfl) 3 ?_
  rintro ⟨⟨n, E⟩, L⟩ hL
  dsimp only at hL ⊢
  refine ⟨⟨Nat.le_of_ble_eq_true rfl, Nat.le_of_ble_eq_true rfl⟩, ?_⟩
  refine Call.by _ _ (RightC_at n E) ?_
  refine Pick.by (fun h1 => ?_) (fun h1 => ?_)
  · have h1 : ¬ RightP n E := by have h1 : (!decide (RightP n E)) = true := h1; simpa using h1
    have hv : replO n E L = (([], [], []), false) := if_neg h1
    rw [hv]
    refine ⟨rfl, ?_⟩
    (repeat' first | exact rfl | exact trivial | refine And.intro ?_ ?_)
  have hR : RightP n E := by have h1 : (!decide (RightP n E)) = false := h1; simpa using h1
  have hv : replO n E L = (((replR n E L).1, leftF (replR n E L).2.2.2, edgesF (replR n E L).2.2.1 (replR n E L).2.2.2), (replR n E L).2.1) := if_pos hR
  rw [hv]
  refine Call.by _ _ (BeginC_at hR) ?_
  have hW := begin_wf hR
  have hNl := nbrs_length n.toNat E
  have hrep : replR n E L = ([] ++ (replS (L.drop 0) (nbrs n.toNat E) (List.replicate n.toNat false)).1, (replS (L.drop 0) (nbrs n.toNat E) (List.replicate n.toNat false)).2) := rfl
  generalize nbrs n.toNat E = N at *
  generalize List.replicate n.toNat false = G at *
  refine LoopP.intro (α := Nat × List (List Int) × List Bool) (fun a => a.1 ≤ L.length ∧ Wf a.2.1 a.2.2 ∧ replR n E L = (L.take a.1 ++ (replS (L.drop a.1) a.2.1 a.2.2).1, (replS (L.drop a.1) a.2.1 a.2.2).2)) (fun a => L.length - a.1) (fun a => [(1, .sl 4 none none), (4, .ptr 0 0), (6, .ptr 1 0), (15, .sl 4 none none), (16, .s (.i .i64 L.length)), (17, .s (.i .i64 a.1))])
    (fun a => [(0, some (.blk [.nils, .nils, .nils])), (1, some (.blk [.sl 2 none none, .sl 3 none none])), (2, some (.nest true 1 (rowsI a.2.1) [] [])), (3, some (.flat true 1 (bools a.2.2))), (4, some (.flat false 4 (stps L)))]) 5 (0, N, G) ⟨by omega, hW, hrep⟩ (by refine Weak.by [(0, some _), (1, some _), (2, some _), (3, some _), (4, some _)] (by ((repeat' first | exact rfl | exact trivial | refine And.intro ?_ ?_) <;> (repeat' first | exact rfl | exact trivial | refine And.intro ?_ ?_)); all_goals ((rw [stps_length]; rfl))) (by ((repeat' first | exact rfl | exact trivial | refine And.intro ?_ ?_) <;> (repeat' first | exact rfl | exact trivial | refine And.intro ?_ ?_)); all_goals ((rw [stps_length]; rfl))) (by rfl)) ?_
  clear hW hrep hNl
  rintro ⟨i, N, G⟩ ⟨hi, hW, hrep⟩
  dsimp only at hi hW hrep ⊢
  have hGN := hW.len
  refine Pick.by (fun hc => ?_) (fun hc => ?_)
  · have hlt : i < L.length := by simpa using hc
    obtain ⟨s, hs⟩ : ∃ s, L[i]? = some s := ⟨_, List.getElem?_eq_getElem hlt⟩
    have hse : L[i] = s := by rw [List.getElem?_eq_getElem hlt] at hs; injection hs
    have hrow : (stps L)[i]? = some [.i .i64 s.1, .i .i64 s.2.1, .i .i64 s.2.2.1, .b s.2.2.2] := by unfold stps; rw [List.getElem?_map, hs]; rfl
    have hdrop : L.drop i = s :: L.drop (i + 1) := by rw [List.drop_eq_getElem_cons hlt, hse]
    rw [hdrop] at hrep
    refine Idx.by i rfl (by rw [stps_length]; exact hlt) ?_
    refine Look.by _ hrow ?_
    refine Call.by _ _ (MayC_at s.1 hGN) ?_
    have hcS : cut (subOf none 0 0 i) (stps L) = stps (L.take i) := by
      simp only [subOf, cut, List.drop_zero, Nat.sub_zero, stps, List.map_take]
    have hcl := CloneC_at (l := L.take i) (by rw [List.length_take]; omega)
    rw [← hcS] at hcl
    refine Pick.by (fun hmy => ?_) (fun hmy => ?_)
    · have hmy : mayB N G s.1 = false := by have hmy : (!mayB N G s.1) = true := hmy; simpa using hmy
      rw [replS_no (by unfold mayStp; rw [hmy]; rfl), List.append_nil] at hrep
      rw [hrep]
      refine Seg.by (by kernel_rfl) ?_
      refine Rng.by 0 i rfl rfl (by omega) (by rw [stps_length]; omega) ?_
      refine Call.by _ _ hcl ?_
      refine Bar.by (by kernel_rfl) (by kernel_rfl) ?_
      have hGN := hW.len
      have hmo := hW.most
      have hNL := rowsI_length N
      refine LoopP.intro (α := Nat) (fun j => j ≤ N.length) (fun j => N.length - j) (fun j => [(2, .ptr 2 0), (4, .ptr 1 0), (5, .ptr 3 0), (13, .sl 4 none none), (14, .s (.i .i64 N.length)), (15, .s (.i .i64 j)), (1000004, .ptr 0 0)])
        (fun j => [(0, some (.blk [.nils, .nils, .nils])), (1, some (.blk [.nils, .nils, .nils])), (2, some (.blk [.sl 4 none none, .sl 5 none none])), (3, some (.blk [.sl 6 none none, .sl 7 none none, .sl 8 none none])), (4, some (.nest true 1 (rowsI N) [] [])), (5, some (.flat true 1 (bools G))), (6, some (.flat true 4 (stps (L.take i)))), (7, some (.flat true 1 (ints (leftK G j)))), (8, some (.flat true 2 (edges (edgesK N G j))))]) 9 0 (by omega) (by refine Weak.by [(0, some _), (1, some _), (2, some _), (3, some _), (4, some _), (5, some _), (6, some _), (7, none), (8, none)] (by ((repeat' first | exact rfl | exact trivial | refine And.intro ?_ ?_) <;> (repeat' first | exact rfl | exact trivial | refine And.intro ?_ ?_)); all_goals ((first | (rw [hNL]; rfl) | (exact hcS.symm)))) (by ((repeat' first | exact rfl | exact trivial | refine And.intro ?_ ?_) <;> (repeat' first | exact rfl | exact trivial | refine And.intro ?_ ?_)); all_goals ((first | (rw [hNL]; rfl) | (exact hcS.symm)))) (by rfl)) ?_
      rintro j hj
      have hlk := leftK_len G j
      have hek := edgesK_len hW j
      refine Pick.by (fun hd1 => ?_) (fun hd1 => ?_)
      · have hjl : j < N.length := by simpa using hd1
        have hgj : (bools G)[j]? = some [.b (G.getD j false)] := by
          refine bools_get ?_
          rw [List.getD_eq_getElem?_getD, List.getElem?_eq_getElem (by omega)]; rfl
        have hrj : (rowsI N)[j]? = some (ints (rowAt N j)) := by
          have := (rowAt_mem (N := N) (v := (j : Int)) (by omega) (by omega)).2
          exact rowsI_get this
        have hrl := hW.row_len (j : Int)
        refine Idx.by j rfl (by omega) ?_
        refine Pick.T (by rw [hNL]; simp; omega) ?_
        refine Idx.by j rfl (by rw [bools_length]; omega) ?_
        refine Look.by _ hgj ?_
        refine Pick.by (fun hd2 => ?_) (fun hd2 => ?_)
        · have hd2 : G.getD j false = true := hd2
          refine Pick.T (inI64_of (by omega) (by omega)) ?_
          refine Next.by (j + 1) (by omega) (by omega) (by refine Weak.by [(0, some _), (1, some _), (2, some _), (3, some _), (4, some _), (5, some _), (6, some _), (7, some _), (8, some _)] (by ((repeat' first | exact rfl | exact trivial | refine And.intro ?_ ?_) <;> (repeat' first | exact rfl | exact trivial | refine And.intro ?_ ?_)); all_goals ((first | (rw [leftK_succ, if_pos hd2, List.append_nil]) | (rw [edgesK_succ, if_pos hd2, List.append_nil])))) (by ((repeat' first | exact rfl | exact trivial | refine And.intro ?_ ?_) <;> (repeat' first | exact rfl | exact trivial | refine And.intro ?_ ?_)); all_goals ((first | (rw [leftK_succ, if_pos hd2, List.append_nil]) | (rw [edgesK_succ, if_pos hd2, List.append_nil])))) (by rfl))
        have hd2 : G.getD j false = false := hd2
        have hl1 : leftK G (j + 1) = leftK G j ++ [(j : Int)] := by rw [leftK_succ, if_neg (by rw [hd2]; simp)]
        have he1 : edgesK N G (j + 1) = edgesK N G j ++ outE N j := by rw [edgesK_succ, if_neg (by rw [hd2]; simp)]
        refine Pick.T (by simp [cut, ints_length]; omega) ?_
        refine Look.by _ hrj ?_
        refine LoopP.intro (α := Nat) (fun k => k ≤ (rowAt N j).length) (fun k => (rowAt N j).length - k) (fun k => [(2, .ptr 2 0), (4, .ptr 1 0), (5, .ptr 3 0), (6, .s (.i .i64 j)), (13, .sl 4 none none), (14, .s (.i .i64 N.length)), (15, .s (.i .i64 j)), (31, .sl 4 (some (j, 0)) none), (32, .s (.i .i64 (rowAt N j).length)), (33, .s (.i .i64 k)), (1000004, .ptr 0 0)])
          (fun k => [(0, some (.blk [.nils, .nils, .nils])), (1, some (.blk [.nils, .nils, .nils])), (2, some (.blk [.sl 4 none none, .sl 5 none none])), (3, some (.blk [.sl 6 none none, .sl 7 none none, .sl 8 none none])), (4, some (.nest true 1 (rowsI N) [] [])), (5, some (.flat true 1 (bools G))), (6, some (.flat true 4 (stps (L.take i)))), (7, some (.flat true 1 (ints (leftK G (j + 1))))), (8, some (.flat true 2 (edges (edgesK N G j ++ (((rowAt N j).take k).filter fun x => decide (x > (j : Int))).map fun x => ((j : Int), x)))))]) 9 0 (by omega) (by refine Weak.by [(0, some _), (1, some _), (2, some _), (3, some _), (4, some _), (5, some _), (6, some _), (7, some _), (8, some _)] (by ((repeat' first | exact rfl | exact trivial | refine And.intro ?_ ?_) <;> (repeat' first | exact rfl | exact trivial | refine And.intro ?_ ?_)); all_goals ((first | (rw [hl1, ints_snoc]; rfl) | (rw [List.take_zero]; simp; done) | (rw [ints_length]; rfl) | (simp; done)))) (by ((repeat' first | exact rfl | exact trivial | refine And.intro ?_ ?_) <;> (repeat' first | exact rfl | exact trivial | refine And.intro ?_ ?_)); all_goals ((first | (rw [hl1, ints_snoc]; rfl) | (rw [List.take_zero]; simp; done) | (rw [ints_length]; rfl) | (simp; done)))) (by rfl)) ?_
        rintro k hk
        have hpl : ((((rowAt N j).take k).filter fun x => decide (x > (j : Int))).map fun x => ((j : Int), x)).length ≤ 1000 := by
          rw [List.length_map]
          refine Nat.le_trans (List.length_filter_le _ _) ?_
          rw [List.length_take]; omega
        refine Pick.by (fun hd3 => ?_) (fun hd3 => ?_)
        · have hkl : k < (rowAt N j).length := by simpa using hd3
          obtain ⟨x, hx⟩ : ∃ x, (rowAt N j)[k]? = some x := ⟨_, List.getElem?_eq_getElem hkl⟩
          have hxe : (rowAt N j)[k] = x := by rw [List.getElem?_eq_getElem hkl] at hx; injection hx
          refine Look.by _ hrj ?_
          refine Idx.by k rfl (by rw [ints_length]; exact hkl) ?_
          refine Look.by _ hrj ?_
          refine Look.by _ (ints_get hx) ?_
          refine Pick.by (fun hd4 => ?_) (fun hd4 => ?_)
          · have hd4 : x > (j : Int) := by simpa using hd4
            refine Pick.T (by simp [cut, edges_length] at hpl ⊢; omega) ?_
            refine Pick.T (inI64_of (by omega) (by omega)) ?_
            refine Next.by (k + 1) (by omega) (by omega) (by refine Weak.by [(0, some _), (1, some _), (2, some _), (3, some _), (4, some _), (5, some _), (6, some _), (7, some _), (8, some _)] (by ((repeat' first | exact rfl | exact trivial | refine And.intro ?_ ?_) <;> (repeat' first | exact rfl | exact trivial | refine And.intro ?_ ?_)); all_goals ((first | (rw [List.take_succ_eq_append_getElem hkl, hxe, List.filter_append, List.map_append, List.filter_cons, if_pos (by simpa using hd4), List.filter_nil, ← List.append_assoc]; exact edges_snoc _ _) | (simp; done)))) (by ((repeat' first | exact rfl | exact trivial | refine And.intro ?_ ?_) <;> (repeat' first | exact rfl | exact trivial | refine And.intro ?_ ?_)); all_goals ((first | (rw [List.take_succ_eq_append_getElem hkl, hxe, List.filter_append, List.map_append, List.filter_cons, if_pos (by simpa using hd4), List.filter_nil, ← List.append_assoc]; exact edges_snoc _ _) | (simp; done)))) (by rfl))
          · have hd4 : ¬ x > (j : Int) := by simpa using hd4
            refine Pick.T (inI64_of (by omega) (by omega)) ?_
            refine Next.by (k + 1) (by omega) (by omega) (by refine Weak.by [(0, some _), (1, some _), (2, some _), (3, some _), (4, some _), (5, some _), (6, some _), (7, some _), (8, some _)] (by ((repeat' first | exact rfl | exact trivial | refine And.intro ?_ ?_) <;> (repeat' first | exact rfl | exact trivial | refine And.intro ?_ ?_)); all_goals ((first | (rw [List.take_succ_eq_append_getElem hkl, hxe, List.filter_append, List.map_append, List.filter_cons, if_neg (by simpa using hd4), List.filter_nil, List.map_nil, List.append_nil]) | (simp; done)))) (by ((repeat' first | exact rfl | exact trivial | refine And.intro ?_ ?_) <;> (repeat' first | exact rfl | exact trivial | refine And.intro ?_ ?_)); all_goals ((first | (rw [List.take_succ_eq_append_getElem hkl, hxe, List.filter_append, List.map_append, List.filter_cons, if_neg (by simpa using hd4), List.filter_nil, List.map_nil, List.append_nil]) | (simp; done)))) (by rfl))
        · have hkl : k = (rowAt N j).length := by simp at hd3; omega
          have hfull : edgesK N G (j + 1) = edgesK N G j ++ (((rowAt N j).take k).filter fun x => decide (x > (j : Int))).map fun x => ((j : Int), x) := by rw [he1, hkl, List.take_length]; rfl
          refine Pick.T (inI64_of (by omega) (by omega)) ?_
          refine Next.by (j + 1) (by omega) (by omega) (by refine Weak.by [(0, some _), (1, some _), (2, some _), (3, some _), (4, some _), (5, some _), (6, some _), (7, some _), (8, some _)] (by ((repeat' first | exact rfl | exact trivial | refine And.intro ?_ ?_) <;> (repeat' first | exact rfl | exact trivial | refine And.intro ?_ ?_)); all_goals ((rw [hfull]))) (by ((repeat' first | exact rfl | exact trivial | refine And.intro ?_ ?_) <;> (repeat' first | exact rfl | exact trivial | refine And.intro ?_ ?_)); all_goals ((rw [hfull]))) (by rfl))
      have hjl : j = N.length := by simp at hd1; omega
      subst hjl
      have e1 : leftF G = leftK G N.length := by unfold leftF leftK; rw [hGN]
      have e2 : edgesF N G = edgesK N G N.length := by unfold edgesF edgesK; rw [e1]
      refine Seg.by (by kernel_rfl) ?_
      refine ⟨rfl, ?_⟩
      (repeat' first | exact rfl | exact trivial | refine And.intro ?_ ?_)
      all_goals (first | exact congrArg ints e1 | exact congrArg edges e2)
    have hmy : mayB N G s.1 = true := by have hmy : (!mayB N G s.1) = false := hmy; simpa using hmy
    have hmp := mayB_iff.1 hmy
    refine Call.by _ _ (StepC_at ⟨hW, hmp.lo, hmp.hi⟩) ?_
    refine Seg.by (by kernel_rfl) ?_
    refine Pick.by (fun hne => ?_) (fun hne => ?_)
    · have hne : ¬ stepF N s.1 = s := by
        have hne2 : (!decide (stepF N s.1 = s)) = true := by rw [← eqStp]; exact hne
        simpa using hne2
      rw [replS_no (by unfold mayStp; rw [hmy, decide_eq_false hne]; rfl), List.append_nil] at hrep
      rw [hrep]
      refine Rng.by 0 i rfl rfl (by omega) (by rw [stps_length]; omega) ?_
      refine Call.by _ _ hcl ?_
      refine Bar.by (by kernel_rfl) (by kernel_rfl) ?_
      have hGN := hW.len
      have hmo := hW.most
      have hNL := rowsI_length N
      refine LoopP.intro (α := Nat) (fun j => j ≤ N.length) (fun j => N.length - j) (fun j => [(2, .ptr 2 0), (4, .ptr 1 0), (5, .ptr 3 0), (13, .sl 4 none none), (14, .s (.i .i64 N.length)), (15, .s (.i .i64 j)), (1000004, .ptr 0 0)])
        (fun j => [(0, some (.blk [.nils, .nils, .nils])), (1, some (.blk [.nils, .nils, .nils])), (2, some (.blk [.sl 4 none none, .sl 5 none none])), (3, some (.blk [.sl 6 none none, .sl 7 none none, .sl 8 none none])), (4, some (.nest true 1 (rowsI N) [] [])), (5, some (.flat true 1 (bools G))), (6, some (.flat true 4 (stps (L.take i)))), (7, some (.flat true 1 (ints (leftK G j)))), (8, some (.flat true 2 (edges (edgesK N G j))))]) 9 0 (by omega) (by refine Weak.by [(0, some _), (1, some _), (2, some _), (3, some _), (4, some _), (5, some _), (6, some _), (7, none), (8, none)] (by ((repeat' first | exact rfl | exact trivial | refine And.intro ?_ ?_) <;> (repeat' first | exact rfl | exact trivial | refine And.intro ?_ ?_)); all_goals ((first | (rw [hNL]; rfl) | (exact hcS.symm)))) (by ((repeat' first | exact rfl | exact trivial | refine And.intro ?_ ?_) <;> (repeat' first | exact rfl | exact trivial | refine And.intro ?_ ?_)); all_goals ((first | (rw [hNL]; rfl) | (exact hcS.symm)))) (by rfl)) ?_
      rintro j hj
      have hlk := leftK_len G j
      have hek := edgesK_len hW j
      refine Pick.by (fun hd1 => ?_) (fun hd1 => ?_)
      · have hjl : j < N.length := by simpa using hd1
        have hgj : (bools G)[j]? = some [.b (G.getD j false)] := by
          refine bools_get ?_
          rw [List.getD_eq_getElem?_getD, List.getElem?_eq_getElem (by omega)]; rfl
        have hrj : (rowsI N)[j]? = some (ints (rowAt N j)) := by
          have := (rowAt_mem (N := N) (v := (j : Int)) (by omega) (by omega)).2
          exact rowsI_get this
        have hrl := hW.row_len (j : Int)
        refine Idx.by j rfl (by omega) ?_
        refine Pick.T (by rw [hNL]; simp; omega) ?_
        refine Idx.by j rfl (by rw [bools_length]; omega) ?_
        refine Look.by _ hgj ?_
        refine Pick.by (fun hd2 => ?_) (fun hd2 => ?_)
        · have hd2 : G.getD j false = true := hd2
          refine Pick.T (inI64_of (by omega) (by omega)) ?_
          refine Next.by (j + 1) (by omega) (by omega) (by refine Weak.by [(0, some _), (1, some _), (2, some _), (3, some _), (4, some _), (5, some _), (6, some _), (7, some _), (8, some _)] (by ((repeat' first | exact rfl | exact trivial | refine And.intro ?_ ?_) <;> (repeat' first | exact rfl | exact trivial | refine And.intro ?_ ?_)); all_goals ((first | (rw [leftK_succ, if_pos hd2, List.append_nil]) | (rw [edgesK_succ, if_pos hd2, List.append_nil])))) (by ((repeat' first | exact rfl | exact trivial | refine And.intro ?_ ?_) <;> (repeat' first | exact rfl | exact trivial | refine And.intro ?_ ?_)); all_goals ((first | (rw [leftK_succ, if_pos hd2, List.append_nil]) | (rw [edgesK_succ, if_pos hd2, List.append_nil])))) (by rfl))
        have hd2 : G.getD j false = false := hd2
        have hl1 : leftK G (j + 1) = leftK G j ++ [(j : Int)] := by rw [leftK_succ, if_neg (by rw [hd2]; simp)]
        have he1 : edgesK N G (j + 1) = edgesK N G j ++ outE N j := by rw [edgesK_succ, if_neg (by rw [hd2]; simp)]
        refine Pick.T (by simp [cut, ints_length]; omega) ?_
        refine Look.by _ hrj ?_
        refine LoopP.intro (α := Nat) (fun k => k ≤ (rowAt N j).length) (fun k => (rowAt N j).length - k) (fun k => [(2, .ptr 2 0), (4, .ptr 1 0), (5, .ptr 3 0), (6, .s (.i .i64 j)), (13, .sl 4 none none), (14, .s (.i .i64 N.length)), (15, .s (.i .i64 j)), (31, .sl 4 (some (j, 0)) none), (32, .s (.i .i64 (rowAt N j).length)), (33, .s (.i .i64 k)), (1000004, .ptr 0 0)])
          (fun k => [(0, some (.blk [.nils, .nils, .nils])), (1, some (.blk [.nils, .nils, .nils])), (2, some (.blk [.sl 4 none none, .sl 5 none none])), (3, some (.blk [.sl 6 none none, .sl 7 none none, .sl 8 none none])), (4, some (.nest true 1 (rowsI N) [] [])), (5, some (.flat true 1 (bools G))), (6, some (.flat true 4 (stps (L.take i)))), (7, some (.flat true 1 (ints (leftK G (j + 1))))), (8, some (.flat true 2 (edges (edgesK N G j ++ (((rowAt N j).take k).filter fun x => decide (x > (j : Int))).map fun x => ((j : Int), x)))))]) 9 0 (by omega) (by refine Weak.by [(0, some _), (1, some _), (2, some _), (3, some _), (4, some _), (5, some _), (6, some _), (7, some _), (8, some _)] (by ((repeat' first | exact rfl | exact trivial | refine And.intro ?_ ?_) <;> (repeat' first | exact rfl | exact trivial | refine And.intro ?_ ?_)); all_goals ((first | (rw [hl1, ints_snoc]; rfl) | (rw [List.take_zero]; simp; done) | (rw [ints_length]; rfl) | (simp; done)))) (by ((repeat' first | exact rfl | exact trivial | refine And.intro ?_ ?_) <;> (repeat' first | exact rfl | exact trivial | refine And.intro ?_ ?_)); all_goals ((first | (rw [hl1, ints_snoc]; rfl) | (rw [List.take_zero]; simp; done) | (rw [ints_length]; rfl) | (simp; done)))) (by rfl)) ?_
        rintro k hk
        have hpl : ((((rowAt N j).take k).filter fun x => decide (x > (j : Int))).map fun x => ((j : Int), x)).length ≤ 1000 := by
          rw [List.length_map]
          refine Nat.le_trans (List.length_filter_le _ _) ?_
          rw [List.length_take]; omega
        refine Pick.by (fun hd3 => ?_) (fun hd3 => ?_)
        · have hkl : k < (rowAt N j).length := by simpa using hd3
          obtain ⟨x, hx⟩ : ∃ x, (rowAt N j)[k]? = some x := ⟨_, List.getElem?_eq_getElem hkl⟩
          have hxe : (rowAt N j)[k] = x := by rw [List.getElem?_eq_getElem hkl] at hx; injection hx
          refine Look.by _ hrj ?_
          refine Idx.by k rfl (by rw [ints_length]; exact hkl) ?_
          refine Look.by _ hrj ?_
          refine Look.by _ (ints_get hx) ?_
          refine Pick.by (fun hd4 => ?_) (fun hd4 => ?_)
          · have hd4 : x > (j : Int) := by simpa using hd4
            refine Pick.T (by simp [cut, edges_length] at hpl ⊢; omega) ?_
            refine Pick.T (inI64_of (by omega) (by omega)) ?_
            refine Next.by (k + 1) (by omega) (by omega) (by refine Weak.by [(0, some _), (1, some _), (2, some _), (3, some _), (4, some _), (5, some _), (6, some _), (7, some _), (8, some _)] (by ((repeat' first | exact rfl | exact trivial | refine And.intro ?_ ?_) <;> (repeat' first | exact rfl | exact trivial | refine And.intro ?_ ?_)); all_goals ((first | (rw [List.take_succ_eq_append_getElem hkl, hxe, List.filter_append, List.map_append, List.filter_cons, if_pos (by simpa using hd4), List.filter_nil, ← List.append_assoc]; exact edges_snoc _ _) | (simp; done)))) (by ((repeat' first | exact rfl | exact trivial | refine And.intro ?_ ?_) <;> (repeat' first | exact rfl | exact trivial | refine And.intro ?_ ?_)); all_goals ((first | (rw [List.take_succ_eq_append_getElem hkl, hxe, List.filter_append, List.map_append, List.filter_cons, if_pos (by simpa using hd4), List.filter_nil, ← List.append_assoc]; exact edges_snoc _ _) | (simp; done)))) (by rfl))
          · have hd4 : ¬ x > (j : Int) := by simpa using hd4
            refine Pick.T (inI64_of (by omega) (by omega)) ?_
            refine Next.by (k + 1) (by omega) (by omega) (by refine Weak.by [(0, some _), (1, some _), (2, some _), (3, some _), (4, some _), (5, some _), (6, some _), (7, some _), (8, some _)] (by ((repeat' first | exact rfl | exact trivial | refine And.intro ?_ ?_) <;> (repeat' first | exact rfl | exact trivial | refine And.intro ?_ ?_)); all_goals ((first | (rw [List.take_succ_eq_append_getElem hkl, hxe, List.filter_append, List.map_append, List.filter_cons, if_neg (by simpa using hd4), List.filter_nil, List.map_nil, List.append_nil]) | (simp; done)))) (by ((repeat' first | exact rfl | exact trivial | refine And.intro ?_ ?_) <;> (repeat' first | exact rfl | exact trivial | refine And.intro ?_ ?_)); all_goals ((first | (rw [List.take_succ_eq_append_getElem hkl, hxe, List.filter_append, List.map_append, List.filter_cons, if_neg (by simpa using hd4), List.filter_nil, List.map_nil, List.append_nil]) | (simp; done)))) (by rfl))
        · have hkl : k = (rowAt N j).length := by simp at hd3; omega
          have hfull : edgesK N G (j + 1) = edgesK N G j ++ (((rowAt N j).take k).filter fun x => decide (x > (j : Int))).map fun x => ((j : Int), x) := by rw [he1, hkl, List.take_length]; rfl
          refine Pick.T (inI64_of (by omega) (by omega)) ?_
          refine Next.by (j + 1) (by omega) (by omega) (by refine Weak.by [(0, some _), (1, some _), (2, some _), (3, some _), (4, some _), (5, some _), (6, some _), (7, some _), (8, some _)] (by ((repeat' first | exact rfl | exact trivial | refine And.intro ?_ ?_) <;> (repeat' first | exact rfl | exact trivial | refine And.intro ?_ ?_)); all_goals ((rw [hfull]))) (by ((repeat' first | exact rfl | exact trivial | refine And.intro ?_ ?_) <;> (repeat' first | exact rfl | exact trivial | refine And.intro ?_ ?_)); all_goals ((rw [hfull]))) (by rfl))
      have hjl : j = N.length := by simp at hd1; omega
      subst hjl
      have e1 : leftF G = leftK G N.length := by unfold leftF leftK; rw [hGN]
      have e2 : edgesF N G = edgesK N G N.length := by unfold edgesF edgesK; rw [e1]
      refine Seg.by (by kernel_rfl) ?_
      refine ⟨rfl, ?_⟩
      (repeat' first | exact rfl | exact trivial | refine And.intro ?_ ?_)
      all_goals (first | exact congrArg ints e1 | exact congrArg edges e2)
    have hne : stepF N s.1 = s := by
      have hne2 : (!decide (stepF N s.1 = s)) = false := by rw [← eqStp]; exact hne
      simpa using hne2
    rw [replS_go (by unfold mayStp; rw [hmy, decide_eq_true hne]; rfl)] at hrep
    obtain ⟨V, hV⟩ : ∃ V, s.1 = V := ⟨_, rfl⟩
    rw [hV] at hmp hne hmy
    subst hne
    obtain ⟨hs1, hs2⟩ := step_two hW hmp rfl
    have hlo := hmp.lo
    have hhi := hmp.hi
    have hrv := hW.rows V
    have hnd : (rowAt N V).Nodup := hrv.1.imp fun hab => by omega
    have hNL := rowsI_length N
    have hmo := hW.most
    have hrl := hW.row_len V
    have hgv : (rowsI N)[(V).toNat]? = some (ints (rowAt N V)) := rowsI_get (rowAt_mem hlo hhi).2
    have hvv : V ∉ rowAt N V := hW.irr V hlo
    have hpart : ∀ (di : Nat) (u : Int), 0 ≤ u → rowAt (((rowAt N V).take di).foldl (cutF V) N) u = if u ∈ (rowAt N V).take di then (rowAt N u).erase V else rowAt N u := fun di u hu => cuts_row (hnd.sublist (List.take_sublist _ _)) (fun x hx => hrv.2 x (List.mem_of_mem_take hx)) hu
    have hplen : ∀ di : Nat, (rowsI (((rowAt N V).take di).foldl (cutF V) N)).length = N.length := fun di => by rw [rowsI_length, cuts_length]
    have hpget : ∀ (di : Nat) (u : Int), 0 ≤ u → u < N.length → (rowsI (((rowAt N V).take di).foldl (cutF V) N))[u.toNat]? = some (ints (rowAt (((rowAt N V).take di).foldl (cutF V) N) u)) := fun di u h0 h1 => rowsI_get (rowAt_mem h0 (by rw [cuts_length]; exact h1)).2
    refine Idx.by (V).toNat (by show (V : Int) = _; omega) (by omega) ?_
    refine Pick.T (by rw [hNL]; simp; omega) ?_
    refine Look.by _ hgv ?_
    refine LoopP.intro (α := Nat) (fun di => di ≤ (rowAt N V).length) (fun di => (rowAt N V).length - di) (fun di => [(2, .ptr 8 0), (3, .ptr 9 0), (11, .sl 2 (some ((V).toNat, 0)) none), (12, .s (.i .i64 (rowAt N V).length)), (13, .s (.i .i64 di)), (1000001, .sl 4 none none), (1000004, .ptr 0 0), (1000006, .ptr 1 0), (1000015, .sl 4 none none), (1000016, .s (.i .i64 L.length)), (1000017, .s (.i .i64 i))])
      (fun di => [(0, some (.blk [.nils, .nils, .nils])), (1, some (.blk [.sl 2 none none, .sl 3 none none])), (4, some (.flat false 4 (stps L))), (2, some (.nest true 1 (rowsI (((rowAt N V).take di).foldl (cutF V) N)) [] [])), (3, some (.flat true 1 (bools G))), (8, some (.blk [.sl 2 none none, .sl 3 none none])), (9, some (.blk [.s (.i .i64 (stepF N V).1), .s (.i .i64 (stepF N V).2.1), .s (.i .i64 (stepF N V).2.2.1), .s (.b (stepF N V).2.2.2)]))]) 10 0 (by omega) (by refine Weak.by [(0, some _), (1, some _), (2, some _), (3, some _), (4, some _), (8, some _), (9, some _)] (by ((repeat' first | exact rfl | exact trivial | refine And.intro ?_ ?_) <;> (repeat' first | exact rfl | exact trivial | refine And.intro ?_ ?_)); all_goals ((first | (rw [ints_length]; rfl) | (simp; done)))) (by ((repeat' first | exact rfl | exact trivial | refine And.intro ?_ ?_) <;> (repeat' first | exact rfl | exact trivial | refine And.intro ?_ ?_)); all_goals ((first | (rw [ints_length]; rfl) | (simp; done)))) (by rfl)) ?_
    rintro di hi
    refine Pick.by (fun hc1 => ?_) (fun hc1 => ?_)
    · have hil : di < (rowAt N V).length := by simpa using hc1
      obtain ⟨x, hx⟩ : ∃ x, (rowAt N V)[di]? = some x := ⟨_, List.getElem?_eq_getElem hil⟩
      have hxm := List.mem_of_getElem? hx
      have hxr := hrv.2 x hxm
      have hxv : x ≠ V := fun e => hvv (e ▸ hxm)
      have hgi : (rowsI (((rowAt N V).take di).foldl (cutF V) N))[(V).toNat]? = some (ints (rowAt N V)) := by
        rw [hpget di V hlo hhi, hpart di V hlo, if_neg fun h => hvv (List.mem_of_mem_take h)]
      have hrx := hpget di x hxr.1 hxr.2
      have hstp : ((rowAt N V).take (di + 1)).foldl (cutF V) N = cutF V (((rowAt N V).take di).foldl (cutF V) N) x := by
        rw [List.take_succ_eq_append_getElem hil, List.foldl_append]
        have : (rowAt N V)[di] = x := by rw [List.getElem?_eq_getElem hil] at hx; injection hx
        rw [this]; rfl
      have hwx : (rowAt (((rowAt N V).take di).foldl (cutF V) N) x).Pairwise (· ≤ ·) ∧ (rowAt (((rowAt N V).take di).foldl (cutF V) N) x).length ≤ 1000000 := by
        have h1 := hW.rows x
        have h2 := hW.row_len x
        rw [hpart di x hxr.1]
        split
        · have h3 := List.length_erase_le (l := rowAt N x) (a := V)
          exact ⟨(erase_sorted h1.1).imp fun h => by omega, by omega⟩
        · exact ⟨h1.1.imp fun h => by omega, by omega⟩
      have hpl := hplen di
      refine Look.by _ hgi ?_
      refine Idx.by di rfl (by rw [ints_length]; exact hil) ?_
      refine Look.by _ hgi ?_
      refine Look.by _ (ints_get hx) ?_
      refine Idx.by x.toNat (by omega) (by omega) ?_
      refine Pick.T (by rw [hpl]; simp; omega) ?_
      refine Look.by _ hrx ?_
      refine Call.by _ _ (turnC_at hwx) ?_
      refine Idx.by x.toNat (by omega) (by omega) ?_
      refine Pick.T (by rw [hpl]; simp; omega) ?_
      refine Pick.T (by simp) ?_
      refine Seg.by (by kernel_rfl) ?_
      refine Pick.T (inI64_of (by omega) (by omega)) ?_
      refine Next.by (di + 1) (by omega) (by omega) (by refine Weak.by [(0, some _), (1, some _), (2, some _), (3, some _), (4, some _), (8, some _), (9, some _)] (by ((repeat' first | exact rfl | exact trivial | refine And.intro ?_ ?_) <;> (repeat' first | exact rfl | exact trivial | refine And.intro ?_ ?_)); all_goals ((first | (rw [hstp]; unfold cutF; rw [rowsI_set]; rfl) | (simp; done) | (simp; omega)))) (by ((repeat' first | exact rfl | exact trivial | refine And.intro ?_ ?_) <;> (repeat' first | exact rfl | exact trivial | refine And.intro ?_ ?_)); all_goals ((first | (rw [hstp]; unfold cutF; rw [rowsI_set]; rfl) | (simp; done) | (simp; omega)))) (by rfl))
    have hil : di = (rowAt N V).length := by simp at hc1; omega
    subst hil
    rw [List.take_length]
    have hN1 : ∀ u : Int, 0 ≤ u → rowAt ((rowAt N V).foldl (cutF V) N) u = (rowAt N u).erase V := fun u hu => by
      rw [cuts_row hnd hrv.2 hu]
      split
      · rfl
      · rename_i hno
        rw [List.erase_of_not_mem]
        exact fun h => hno (hW.sym u V hu hlo h)
    have hl1 : (rowsI ((rowAt N V).foldl (cutF V) N)).length = N.length := by rw [rowsI_length, cuts_length]
    refine JoinP.intro (α := Unit) (fun _ => True) (fun _ => [(2, .ptr 8 0), (3, .ptr 9 0), (1000001, .sl 4 none none), (1000004, .ptr 0 0), (1000006, .ptr 1 0), (1000015, .sl 4 none none), (1000016, .s (.i .i64 L.length)), (1000017, .s (.i .i64 i))])
      (fun _ => [(0, some (.blk [.nils, .nils, .nils])), (1, some (.blk [.sl 2 none none, .sl 3 none none])), (4, some (.flat false 4 (stps L))), (2, some (.nest true 1 (rowsI (if (stepF N V).2.2.2 then joinF (joinF ((rowAt N V).foldl (cutF V) N) (stepF N V).2.1 (stepF N V).2.2.1) (stepF N V).2.2.1 (stepF N V).2.1 else (rowAt N V).foldl (cutF V) N)) [] [])), (3, some (.flat true 1 (bools G))), (8, some (.blk [.sl 2 none none, .sl 3 none none])), (9, some (.blk [.s (.i .i64 (stepF N V).1), .s (.i .i64 (stepF N V).2.1), .s (.i .i64 (stepF N V).2.2.1), .s (.b (stepF N V).2.2.2)]))]) 10 ?_ ?_
    rotate_left
    · rintro ⟨⟩ -
      have hl2 : (rowsI (if (stepF N V).2.2.2 then joinF (joinF ((rowAt N V).foldl (cutF V) N) (stepF N V).2.1 (stepF N V).2.2.1) (stepF N V).2.2.1 (stepF N V).2.1 else (rowAt N V).foldl (cutF V) N)).length = N.length := by
        rw [rowsI_length]
        split
        · rw [joinF_length, joinF_length, cuts_length]
        · rw [cuts_length]
      have hdo : (rowsI (if (stepF N V).2.2.2 then joinF (joinF ((rowAt N V).foldl (cutF V) N) (stepF N V).2.1 (stepF N V).2.2.1) (stepF N V).2.2.1 (stepF N V).2.1 else (rowAt N V).foldl (cutF V) N)).set (V).toNat [] = rowsI (doN N (stepF N V)) := by
        unfold doN
        rw [rowsI_set]; rfl
      have hdg : (bools G).set (V).toNat [.b true] = bools (doG G (stepF N V)) := by
        unfold doG bools
        rw [List.map_set]; rfl
      generalize rowsI (if (stepF N V).2.2.2 then joinF (joinF ((rowAt N V).foldl (cutF V) N) (stepF N V).2.1 (stepF N V).2.2.1) (stepF N V).2.2.1 (stepF N V).2.1 else (rowAt N V).foldl (cutF V) N) = RR at hl2 hdo ⊢
      refine Idx.by (V).toNat (by show (V : Int) = _; omega) (by omega) ?_
      refine Pick.T (by rw [hl2]; simp; omega) ?_
      refine Idx.by (V).toNat (by show (V : Int) = _; omega) (by rw [bools_length, hW.len]; omega) ?_
      refine Look.by _ (bools_get (goneAt_get hW.len hlo hhi)) ?_
      refine Seg.by (by kernel_rfl) ?_
      refine Pick.T (inI64_of (by omega) (by omega)) ?_
      refine Next.by (i + 1, doN N (stepF N V), doG G (stepF N V)) ⟨by dsimp only; omega, do_wf hW hmp, ?_⟩ (by dsimp only; omega) (by refine Weak.by [(0, some _), (1, some _), (2, some _), (3, some _), (4, some _)] (by ((repeat' first | exact rfl | exact trivial | refine And.intro ?_ ?_) <;> (repeat' first | exact rfl | exact trivial | refine And.intro ?_ ?_)); all_goals ((first | (exact hdo.symm) | (exact hdg.symm)))) (by ((repeat' first | exact rfl | exact trivial | refine And.intro ?_ ?_) <;> (repeat' first | exact rfl | exact trivial | refine And.intro ?_ ?_)); all_goals ((first | (exact hdo.symm) | (exact hdg.symm)))) (by rfl))
      dsimp only
      rw [hrep, List.take_succ_eq_append_getElem hlt, hse, List.append_assoc]; rfl
    refine Pick.by (fun had => ?_) (fun had => ?_)
    · have had : (stepF N V).2.2.2 = true := had
      rw [if_pos had]
      rcases hs2 with ⟨_, _, _, e⟩ | ⟨_, _, _, _, e⟩ | ⟨a, b, hlv, hab, ea, eb, ec⟩
      · rw [had] at e; cases e
      · rw [had] at e; cases e
      have har := hrv.2 a (by rw [hlv]; simp)
      have hbr := hrv.2 b (by rw [hlv]; simp)
      have hra : (rowsI ((rowAt N V).foldl (cutF V) N))[a.toNat]? = some (ints ((rowAt N a).erase V)) := by
        have h1 := rowsI_get (rowAt_mem (N := (rowAt N V).foldl (cutF V) N) har.1 (by rw [cuts_length]; exact har.2)).2
        rw [hN1 a har.1] at h1
        exact h1
      have hrb : (rowsI ((rowAt N V).foldl (cutF V) N))[b.toNat]? = some (ints ((rowAt N b).erase V)) := by
        have h1 := rowsI_get (rowAt_mem (N := (rowAt N V).foldl (cutF V) N) hbr.1 (by rw [cuts_length]; exact hbr.2)).2
        rw [hN1 b hbr.1] at h1
        exact h1
      have hok : ∀ u, ((rowAt N u).erase V).Pairwise (· ≤ ·) ∧ ((rowAt N u).erase V).length ≤ 1000000 := fun u => by
        have h1 := hW.rows u
        have h2 := hW.row_len u
        have h3 := List.length_erase_le (l := rowAt N u) (a := V)
        exact ⟨(erase_sorted h1.1).imp fun h => by omega, by omega⟩
      rw [ea, eb]
      have hj : rowsI (joinF (joinF ((rowAt N V).foldl (cutF V) N) a b) b a) = ((rowsI ((rowAt N V).foldl (cutF V) N)).set a.toNat (ints (insAt ((rowAt N a).erase V) b))).set b.toNat (ints (insAt ((rowAt N b).erase V) a)) := by
        have e1 : rowAt (joinF ((rowAt N V).foldl (cutF V) N) a b) b = (rowAt N b).erase V := by
          unfold joinF
          rw [rowAt_set har.1 (by rw [cuts_length]; exact har.2) hbr.1, if_neg (by omega), hN1 b hbr.1]
        show rowsI ((joinF ((rowAt N V).foldl (cutF V) N) a b).set b.toNat (insAt (rowAt (joinF ((rowAt N V).foldl (cutF V) N) a b) b) a)) = _
        rw [e1, rowsI_set]
        unfold joinF
        rw [rowsI_set, hN1 a har.1]
      have hma : (rowsI ((rowAt N V).foldl (cutF V) N)).set a.toNat (ints (insAt ((rowAt N a).erase V) b)) ≠ [] ∨ True := .inr trivial
      have hl3 : ((rowsI ((rowAt N V).foldl (cutF V) N)).set a.toNat (ints (insAt ((rowAt N a).erase V) b))).length = N.length := by rw [List.length_set, hl1]
      have hrb2 : ((rowsI ((rowAt N V).foldl (cutF V) N)).set a.toNat (ints (insAt ((rowAt N a).erase V) b)))[b.toNat]? = some (ints ((rowAt N b).erase V)) := by rw [List.getElem?_set_ne (by omega)]; exact hrb
      refine Idx.by a.toNat (by omega) (by omega) ?_
      refine Pick.T (by rw [hl1]; simp; omega) ?_
      refine Look.by _ hra ?_
      refine Call.by _ _ (turnC_at (hok a)) ?_
      refine Idx.by a.toNat (by omega) (by omega) ?_
      refine Pick.T (by rw [hl1]; simp; omega) ?_
      refine Pick.T (by simp) ?_
      refine Seg.by (by kernel_rfl) ?_
      refine Idx.by b.toNat (by omega) (by omega) ?_
      refine Pick.T (by rw [hl3]; simp; omega) ?_
      refine Look.by _ hrb2 ?_
      refine Call.by _ _ (turnC_at (hok b)) ?_
      refine Idx.by b.toNat (by omega) (by omega) ?_
      refine Pick.T (by rw [hl3]; simp; omega) ?_
      refine Pick.T (by simp) ?_
      refine Seg.by (by kernel_rfl) ?_
      exact ⟨(), trivial, by refine Weak.by [(0, some _), (1, some _), (2, some _), (3, some _), (4, some _), (8, some _), (9, some _)] (by ((repeat' first | exact rfl | exact trivial | refine And.intro ?_ ?_) <;> (repeat' first | exact rfl | exact trivial | refine And.intro ?_ ?_)); all_goals ((exact hj))) (by ((repeat' first | exact rfl | exact trivial | refine And.intro ?_ ?_) <;> (repeat' first | exact rfl | exact trivial | refine And.intro ?_ ?_)); all_goals ((exact hj))) (by rfl)⟩
    · have had : (stepF N V).2.2.2 = false := had
      rw [if_neg (by rw [had]; simp)]
      exact ⟨(), trivial, by refine Weak.by [(0, some _), (1, some _), (2, some _), (3, some _), (4, some _), (8, some _), (9, some _)] (by ((repeat' first | exact rfl | exact trivial | refine And.intro ?_ ?_) <;> (repeat' first | exact rfl | exact trivial | refine And.intro ?_ ?_))) (by ((repeat' first | exact rfl | exact trivial | refine And.intro ?_ ?_) <;> (repeat' first | exact rfl | exact trivial | refine And.intro ?_ ?_))) (by rfl)⟩
  · have hge : i = L.length := by simp at hc; omega
    subst hge
    have hcl := CloneC_at (l := L) hL
    have hend : replS (L.drop L.length) N G = ([], true, N, G) := by rw [List.drop_length]; rfl
    rw [hend, List.take_length, List.append_nil] at hrep
    rw [hrep]
    refine Call.by _ _ hcl ?_
    refine Bar.by (by kernel_rfl) (by kernel_rfl) ?_
    have hGN := hW.len
    have hmo := hW.most
    have hNL := rowsI_length N
    refine LoopP.intro (α := Nat) (fun j => j ≤ N.length) (fun j => N.length - j) (fun j => [(2, .ptr 2 0), (4, .ptr 1 0), (5, .ptr 3 0), (13, .sl 4 none none), (14, .s (.i .i64 N.length)), (15, .s (.i .i64 j)), (1000004, .ptr 0 0)])
      (fun j => [(0, some (.blk [.nils, .nils, .nils])), (1, some (.blk [.nils, .nils, .nils])), (2, some (.blk [.sl 4 none none, .sl 5 none none])), (3, some (.blk [.sl 6 none none, .sl 7 none none, .sl 8 none none])), (4, some (.nest true 1 (rowsI N) [] [])), (5, some (.flat true 1 (bools G))), (6, some (.flat true 4 (stps L))), (7, some (.flat true 1 (ints (leftK G j)))), (8, some (.flat true 2 (edges (edgesK N G j))))]) 9 0 (by omega) (by refine Weak.by [(0, some _), (1, some _), (2, some _), (3, some _), (4, some _), (5, some _), (6, some _), (7, none), (8, none)] (by ((repeat' first | exact rfl | exact trivial | refine And.intro ?_ ?_) <;> (repeat' first | exact rfl | exact trivial | refine And.intro ?_ ?_)); all_goals ((first | (rw [hNL]; rfl) | done))) (by ((repeat' first | exact rfl | exact trivial | refine And.intro ?_ ?_) <;> (repeat' first | exact rfl | exact trivial | refine And.intro ?_ ?_)); all_goals ((first | (rw [hNL]; rfl) | done))) (by rfl)) ?_
    rintro j hj
    have hlk := leftK_len G j
    have hek := edgesK_len hW j
    refine Pick.by (fun hd1 => ?_) (fun hd1 => ?_)
    · have hjl : j < N.length := by simpa using hd1
      have hgj : (bools G)[j]? = some [.b (G.getD j false)] := by
        refine bools_get ?_
        rw [List.getD_eq_getElem?_getD, List.getElem?_eq_getElem (by omega)]; rfl
      have hrj : (rowsI N)[j]? = some (ints (rowAt N j)) := by
        have := (rowAt_mem (N := N) (v := (j : Int)) (by omega) (by omega)).2
        exact rowsI_get this
      have hrl := hW.row_len (j : Int)
      refine Idx.by j rfl (by omega) ?_
      refine Pick.T (by rw [hNL]; simp; omega) ?_
      refine Idx.by j rfl (by rw [bools_length]; omega) ?_
      refine Look.by _ hgj ?_
      refine Pick.by (fun hd2 => ?_) (fun hd2 => ?_)
      · have hd2 : G.getD j false = true := hd2
        refine Pick.T (inI64_of (by omega) (by omega)) ?_
        refine Next.by (j + 1) (by omega) (by omega) (by refine Weak.by [(0, some _), (1, some _), (2, some _), (3, some _), (4, some _), (5, some _), (6, some _), (7, some _), (8, some _)] (by ((repeat' first | exact rfl | exact trivial | refine And.intro ?_ ?_) <;> (repeat' first | exact rfl | exact trivial | refine And.intro ?_ ?_)); all_goals ((first | (rw [leftK_succ, if_pos hd2, List.append_nil]) | (rw [edgesK_succ, if_pos hd2, List.append_nil])))) (by ((repeat' first | exact rfl | exact trivial | refine And.intro ?_ ?_) <;> (repeat' first | exact rfl | exact trivial | refine And.intro ?_ ?_)); all_goals ((first | (rw [leftK_succ, if_pos hd2, List.append_nil]) | (rw [edgesK_succ, if_pos hd2, List.append_nil])))) (by rfl))
      have hd2 : G.getD j false = false := hd2
      have hl1 : leftK G (j + 1) = leftK G j ++ [(j : Int)] := by rw [leftK_succ, if_neg (by rw [hd2]; simp)]
      have he1 : edgesK N G (j + 1) = edgesK N G j ++ outE N j := by rw [edgesK_succ, if_neg (by rw [hd2]; simp)]
      refine Pick.T (by simp [cut, ints_length]; omega) ?_
      refine Look.by _ hrj ?_
      refine LoopP.intro (α := Nat) (fun k => k ≤ (rowAt N j).length) (fun k => (rowAt N j).length - k) (fun k => [(2, .ptr 2 0), (4, .ptr 1 0), (5, .ptr 3 0), (6, .s (.i .i64 j)), (13, .sl 4 none none), (14, .s (.i .i64 N.length)), (15, .s (.i .i64 j)), (31, .sl 4 (some (j, 0)) none), (32, .s (.i .i64 (rowAt N j).length)), (33, .s (.i .i64 k)), (1000004, .ptr 0 0)])
        (fun k => [(0, some (.blk [.nils, .nils, .nils])), (1, some (.blk [.nils, .nils, .nils])), (2, some (.blk [.sl 4 none none, .sl 5 none none])), (3, some (.blk [.sl 6 none none, .sl 7 none none, .sl 8 none none])), (4, some (.nest true 1 (rowsI N) [] [])), (5, some (.flat true 1 (bools G))), (6, some (.flat true 4 (stps L))), (7, some (.flat true 1 (ints (leftK G (j + 1))))), (8, some (.flat true 2 (edges (edgesK N G j ++ (((rowAt N j).take k).filter fun x => decide (x > (j : Int))).map fun x => ((j : Int), x)))))]) 9 0 (by omega) (by refine Weak.by [(0, some _), (1, some _), (2, some _), (3, some _), (4, some _), (5, some _), (6, some _), (7, some _), (8, some _)] (by ((repeat' first | exact rfl | exact trivial | refine And.intro ?_ ?_) <;> (repeat' first | exact rfl | exact trivial | refine And.intro ?_ ?_)); all_goals ((first | (rw [hl1, ints_snoc]; rfl) | (rw [List.take_zero]; simp; done) | (rw [ints_length]; rfl) | (simp; done)))) (by ((repeat' first | exact rfl | exact trivial | refine And.intro ?_ ?_) <;> (repeat' first | exact rfl | exact trivial | refine And.intro ?_ ?_)); all_goals ((first | (rw [hl1, ints_snoc]; rfl) | (rw [List.take_zero]; simp; done) | (rw [ints_length]; rfl) | (simp; done)))) (by rfl)) ?_
      rintro k hk
      have hpl : ((((rowAt N j).take k).filter fun x => decide (x > (j : Int))).map fun x => ((j : Int), x)).length ≤ 1000 := by
        rw [List.length_map]
        refine Nat.le_trans (List.length_filter_le _ _) ?_
        rw [List.length_take]; omega
      refine Pick.by (fun hd3 => ?_) (fun hd3 => ?_)
      · have hkl : k < (rowAt N j).length := by simpa using hd3
        obtain ⟨x, hx⟩ : ∃ x, (rowAt N j)[k]? = some x := ⟨_, List.getElem?_eq_getElem hkl⟩
        have hxe : (rowAt N j)[k] = x := by rw [List.getElem?_eq_getElem hkl] at hx; injection hx
        refine Look.by _ hrj ?_
        refine Idx.by k rfl (by rw [ints_length]; exact hkl) ?_
        refine Look.by _ hrj ?_
        refine Look.by _ (ints_get hx) ?_
        refine Pick.by (fun hd4 => ?_) (fun hd4 => ?_)
        · have hd4 : x > (j : Int) := by simpa using hd4
          refine Pick.T (by simp [cut, edges_length] at hpl ⊢; omega) ?_
          refine Pick.T (inI64_of (by omega) (by omega)) ?_
          refine Next.by (k + 1) (by omega) (by omega) (by refine Weak.by [(0, some _), (1, some _), (2, some _), (3, some _), (4, some _), (5, some _), (6, some _), (7, some _), (8, some _)] (by ((repeat' first | exact rfl | exact trivial | refine And.intro ?_ ?_) <;> (repeat' first | exact rfl | exact trivial | refine And.intro ?_ ?_)); all_goals ((first | (rw [List.take_succ_eq_append_getElem hkl, hxe, List.filter_append, List.map_append, List.filter_cons, if_pos (by simpa using hd4), List.filter_nil, ← List.append_assoc]; exact edges_snoc _ _) | (simp; done)))) (by ((repeat' first | exact rfl | exact trivial | refine And.intro ?_ ?_) <;> (repeat' first | exact rfl | exact trivial | refine And.intro ?_ ?_)); all_goals ((first | (rw [List.take_succ_eq_append_getElem hkl, hxe, List.filter_append, List.map_append, List.filter_cons, if_pos (by simpa using hd4), List.filter_nil, ← List.append_assoc]; exact edges_snoc _ _) | (simp; done)))) (by rfl))
        · have hd4 : ¬ x > (j : Int) := by simpa using hd4
          refine Pick.T (inI64_of (by omega) (by omega)) ?_
          refine Next.by (k + 1) (by omega) (by omega) (by refine Weak.by [(0, some _), (1, some _), (2, some _), (3, some _), (4, some _), (5, some _), (6, some _), (7, some _), (8, some _)] (by ((repeat' first | exact rfl | exact trivial | refine And.intro ?_ ?_) <;> (repeat' first | exact rfl | exact trivial | refine And.intro ?_ ?_)); all_goals ((first | (rw [List.take_succ_eq_append_getElem hkl, hxe, List.filter_append, List.map_append, List.filter_cons, if_neg (by simpa using hd4), List.filter_nil, List.map_nil, List.append_nil]) | (simp; done)))) (by ((repeat' first | exact rfl | exact trivial | refine And.intro ?_ ?_) <;> (repeat' first | exact rfl | exact trivial | refine And.intro ?_ ?_)); all_goals ((first | (rw [List.take_succ_eq_append_getElem hkl, hxe, List.filter_append, List.map_append, List.filter_cons, if_neg (by simpa using hd4), List.filter_nil, List.map_nil, List.append_nil]) | (simp; done)))) (by rfl))
      · have hkl : k = (rowAt N j).length := by simp at hd3; omega
        have hfull : edgesK N G (j + 1) = edgesK N G j ++ (((rowAt N j).take k).filter fun x => decide (x > (j : Int))).map fun x => ((j : Int), x) := by rw [he1, hkl, List.take_length]; rfl
        refine Pick.T (inI64_of (by omega) (by omega)) ?_
        refine Next.by (j + 1) (by omega) (by omega) (by refine Weak.by [(0, some _), (1, some _), (2, some _), (3, some _), (4, some _), (5, some _), (6, some _), (7, some _), (8, some _)] (by ((repeat' first | exact rfl | exact trivial | refine And.intro ?_ ?_) <;> (repeat' first | exact rfl | exact trivial | refine And.intro ?_ ?_)); all_goals ((rw [hfull]))) (by ((repeat' first | exact rfl | exact trivial | refine And.intro ?_ ?_) <;> (repeat' first | exact rfl | exact trivial | refine And.intro ?_ ?_)); all_goals ((rw [hfull]))) (by rfl))
    have hjl : j = N.length := by simp at hd1; omega
    subst hjl
    have e1 : leftF G = leftK G N.length := by unfold leftF leftK; rw [hGN]
    have e2 : edgesF N G = edgesK N G N.length := by unfold edgesF edgesK; rw [e1]
    refine Seg.by (by kernel_rfl) ?_
    refine ⟨rfl, ?_⟩
    (repeat' first | exact rfl | exact trivial | refine And.intro ?_ ?_)
    all_goals (first | exact congrArg ints e1 | exact congrArg edges e2)
end Go.Sh

set_option linter.unusedVariables false
set_option linter.unusedSimpArgs false
namespace Go.Sh
/-! ### reduction by a table -/
def inAt (I : List Bool) (v : Nat) : Bool := I.getD v false
def matAt (M : List (List Bool)) (u v : Nat) : Bool := (M.getD u []).getD v false
def setM (M : List (List Bool)) (u v : Nat) : List (List Bool) := M.set u ((M.getD u []).set v true)
def nearM (I : List Bool) (M : List (List Bool)) (v : Nat) : List Int := ((List.range I.length).filter fun x => inAt I x && matAt M v x).map fun (x : Nat) => (x : Int)
structure Sqr (n : Nat) (M : List (List Bool)) : Prop where
  len : M.length = n
  row : ∀ r ∈ M, r.length = n
theorem Sqr.at_ {n : Nat} {M : List (List Bool)} (h : Sqr n M) {u : Nat} (hu : u < n) : M[u]? = some (M.getD u []) ∧ (M.getD u []).length = n := by
  have hlt : u < M.length := by rw [h.len]; exact hu
  rw [List.getD_eq_getElem?_getD, List.getElem?_eq_getElem hlt]
  exact ⟨rfl, h.row _ (List.getElem_mem hlt)⟩
theorem Sqr.set {n : Nat} {M : List (List Bool)} (h : Sqr n M) {u v : Nat} (hu : u < n) : Sqr n (setM M u v) := by
  refine ⟨by rw [setM, List.length_set]; exact h.len, fun r hr => ?_⟩
  rcases List.mem_or_eq_of_mem_set hr with hr | rfl
  · exact h.row r hr
  · rw [List.length_set]; exact (h.at_ hu).2
theorem setM_at {n : Nat} {M : List (List Bool)} (h : Sqr n M) {u v : Nat} (hu : u < n) (hv : v < n) (a b : Nat) : matAt (setM M u v) a b = (matAt M a b || (decide (a = u) && decide (b = v))) := by
  unfold matAt setM
  have hl := (h.at_ hu).2
  rw [List.getD_eq_getElem?_getD (l := M.set u _), List.getElem?_set]
  by_cases e : u = a
  · subst e
    rw [if_pos rfl, if_pos (by rw [h.len]; exact hu)]
    simp only [Option.getD_some]
    rw [List.getD_eq_getElem?_getD, List.getElem?_set]
    by_cases e2 : v = b
    · subst e2
      rw [if_pos rfl, if_pos (by rw [hl]; exact hv)]; simp
    · rw [if_neg e2, ← List.getD_eq_getElem?_getD]
      have : ¬ b = v := fun h => e2 h.symm
      simp [this]
  · rw [if_neg e]
    have : ¬ a = u := fun h => e h.symm
    simp [this, List.getD_eq_getElem?_getD]
/-- the table tells what the rows tell -/
structure Sim (n : Nat) (N : List (List Int)) (G I : List Bool) (M : List (List Bool)) : Prop where
  wf : Wf N G
  len : N.length = n
  il : I.length = n
  sq : Sqr n M
  inn : ∀ v, v < n → inAt I v = !goneAt G v
  adj : ∀ u v, u < n → v < n → inAt I u = true → inAt I v = true → (matAt M u v = true ↔ (v : Int) ∈ rowAt N u)
theorem sorted_eq : ∀ {l m : List Int}, l.Pairwise (· < ·) → m.Pairwise (· < ·) → (∀ x, x ∈ l ↔ x ∈ m) → l = m := by
  intro l
  induction l with
  | nil =>
    intro m _ _ h
    cases m with
    | nil => rfl
    | cons b m => have := (h b).2 (by simp); simp at this
  | cons a l ih =>
    intro m hl hm h
    cases m with
    | nil => have := (h a).1 (by simp); simp at this
    | cons b m =>
      rw [List.pairwise_cons] at hl hm
      have hab : a = b := by
        rcases List.mem_cons.1 ((h a).1 (by simp)) with e | e
        · exact e
        · rcases List.mem_cons.1 ((h b).2 (by simp)) with e2 | e2
          · exact e2.symm
          · have := hl.1 b e2; have := hm.1 a e; omega
      subst hab
      rw [ih hl.2 hm.2 fun x => ?_]
      have := h x
      simp only [List.mem_cons] at this
      constructor
      · intro hx
        rcases this.1 (.inr hx) with e | e
        · have := hl.1 x hx; omega
        · exact e
      · intro hx
        rcases this.2 (.inr hx) with e | e
        · have := hm.1 x hx; omega
        · exact e
theorem range_cast_sorted {p : Nat → Bool} (n : Nat) : (((List.range n).filter p).map fun (x : Nat) => (x : Int)).Pairwise (· < ·) := by
  rw [List.pairwise_map]
  exact (List.Pairwise.sublist List.filter_sublist List.pairwise_lt_range).imp fun h => by omega
theorem mem_range_cast {p : Nat → Bool} {n : Nat} {x : Int} : x ∈ ((List.range n).filter p).map (fun (x : Nat) => (x : Int)) ↔ ∃ k : Nat, k < n ∧ p k = true ∧ x = k := by
  rw [List.mem_map]
  constructor
  · rintro ⟨k, hk, rfl⟩
    rw [List.mem_filter, List.mem_range] at hk
    exact ⟨k, hk.1, hk.2, rfl⟩
  · rintro ⟨k, h1, h2, rfl⟩
    exact ⟨k, by rw [List.mem_filter, List.mem_range]; exact ⟨h1, h2⟩, rfl⟩
section
variable {n : Nat} {N : List (List Int)} {G I : List Bool} {M : List (List Bool)}
theorem Sim.inRow (h : Sim n N G I M) {u : Nat} {x : Int} (hx : x ∈ rowAt N u) : 0 ≤ x ∧ x < n ∧ inAt I x.toNat = true := by
  have hr := (h.wf.rows u).2 x hx
  rw [h.len] at hr
  refine ⟨hr.1, hr.2, ?_⟩
  rw [h.inn _ (by omega), Int.toNat_of_nonneg hr.1]
  cases hg : goneAt G x with
  | false => rfl
  | true =>
    have h1 := h.wf.gone x hr.1 hg
    have h2 := h.wf.sym u x (by omega) hr.1 hx
    rw [h1] at h2; simp at h2
theorem Sim.near (h : Sim n N G I M) {v : Nat} (hv : v < n) (hi : inAt I v = true) : nearM I M v = rowAt N v := by
  refine sorted_eq (range_cast_sorted _) (h.wf.rows v).1 fun x => ?_
  unfold nearM
  rw [mem_range_cast, h.il]
  constructor
  · rintro ⟨k, h1, h2, rfl⟩
    rw [Bool.and_eq_true] at h2
    exact (h.adj v k hv h1 hi h2.1).1 h2.2
  · intro hx
    obtain ⟨h0, h1, h2⟩ := h.inRow hx
    refine ⟨x.toNat, by omega, ?_, by omega⟩
    rw [h2, Bool.true_and]
    exact (h.adj v x.toNat hv (by omega) hi h2).2 (by rw [Int.toNat_of_nonneg h0]; exact hx)
theorem Sim.may (h : Sim n N G I M) (v : Nat) (hv : v < n) : mayB N G v = (inAt I v && decide ((nearM I M v).length ≤ 2)) := by
  unfold mayB
  rw [decide_eq_true (show (0 : Int) ≤ (v : Int) by omega), decide_eq_true (show (v : Int) < (N.length : Int) by rw [h.len]; omega), Bool.true_and, Bool.true_and, ← h.inn v hv]
  cases hi : inAt I v with
  | false => rfl
  | true => rw [h.near hv hi]
/-- the step that the table tells -/
theorem Sim.step (h : Sim n N G I M) {v : Nat} (hv : v < n) (hi : inAt I v = true) {a b : Int} (hl : rowAt N v = [a, b]) : (stepF N v).2.2.2 = !matAt M a.toNat b.toNat := by
  have ha := h.inRow (u := v) (x := a) (by rw [hl]; simp)
  have hb := h.inRow (u := v) (x := b) (by rw [hl]; simp)
  have key := h.adj a.toNat b.toNat (by omega) (by omega) ha.2.2 hb.2.2
  rw [Int.toNat_of_nonneg hb.1, Int.toNat_of_nonneg ha.1] at key
  show (decide (1 < (rowAt N v).length) && !(rowAt N ((rowAt N v).getD 0 (-1))).elem ((rowAt N v).getD 1 (-1))) = _
  rw [hl]
  show (decide (1 < 2) && !(rowAt N a).elem b) = _
  rw [show decide (1 < 2) = true from rfl, Bool.true_and]
  congr 1
  rw [Bool.eq_iff_iff, key]
  simp
def goM (N : List (List Int)) (M : List (List Bool)) (v : Nat) : List (List Bool) := match rowAt N v with
  | [a, b] => setM (setM M a.toNat b.toNat) b.toNat a.toNat
  | _ => M
theorem Sim.go (h : Sim n N G I M) {v : Nat} (hv : v < n) (hm : MayP N G v) : Sim n (doN N (stepF N v)) (doG G (stepF N v)) (I.set v false) (goM N M v) := by
  have hi : inAt I v = true := by rw [h.inn v hv, hm.there]; rfl
  obtain ⟨_, hc⟩ := step_two h.wf hm rfl
  have hset : ∀ u, inAt (I.set v false) u = (inAt I u && decide (u ≠ v)) := fun u => by
    unfold inAt
    rw [List.getD_eq_getElem?_getD, List.getElem?_set]
    by_cases e : v = u
    · subst e
      rw [if_pos rfl, if_pos (by rw [h.il]; exact hv)]; simp
    · rw [if_neg e, ← List.getD_eq_getElem?_getD]
      have : u ≠ v := fun h => e h.symm
      simp [this]
  have hsq : Sqr n (goM N M v) := by
    unfold goM
    split
    · rename_i a b hl
      have ha := h.inRow (u := v) (x := a) (by rw [hl]; simp)
      have hb := h.inRow (u := v) (x := b) (by rw [hl]; simp)
      exact (h.sq.set (by omega)).set (by omega)
    · exact h.sq
  refine ⟨do_wf h.wf hm, by rw [doN_length]; exact h.len, by rw [List.length_set]; exact h.il, hsq, fun u hu => ?_, fun u w hu hw hiu hiw => ?_⟩
  · rw [hset, do_gone h.wf hm (by omega), h.inn u hu]
    by_cases e : u = v
    · subst e; simp
    · rw [if_neg (by omega)]; simp [e]
  · rw [hset] at hiu hiw
    simp only [Bool.and_eq_true, decide_eq_true_eq] at hiu hiw
    obtain ⟨_, hrow⟩ := do_row h.wf hm (show (0 : Int) ≤ (u : Int) by omega)
    rw [hrow]
    have hadj := h.adj u w hu hw hiu.1 hiw.1
    have hne1 : (u : Int) ≠ (v : Int) := by have := hiu.2; omega
    have hne2 : (w : Int) ≠ (v : Int) := by have := hiw.2; omega
    rcases hc with ⟨hl, _, _, hd⟩ | ⟨a, hl, _, _, hd⟩ | ⟨a, b, hl, hab, ea, eb, ed⟩
    · unfold goM
      rw [hl, hd]
      dsimp only
      rw [hadj]
      simp [hne1, hne2]
    · unfold goM
      rw [hl, hd]
      dsimp only
      rw [hadj]
      simp [hne1, hne2]
    · have ha := h.inRow (u := v) (x := a) (by rw [hl]; simp)
      have hb := h.inRow (u := v) (x := b) (by rw [hl]; simp)
      unfold goM
      rw [hl]
      dsimp only
      rw [setM_at (h.sq.set (by omega)) (by omega) (by omega), setM_at h.sq (by omega) (by omega), ea, eb]
      simp only [Bool.or_eq_true, Bool.and_eq_true, decide_eq_true_eq]
      rw [hadj]
      have e1 : (u : Int) = a ↔ u = a.toNat := by omega
      have e2 : (w : Int) = b ↔ w = b.toNat := by omega
      have e3 : (u : Int) = b ↔ u = b.toNat := by omega
      have e4 : (w : Int) = a ↔ w = a.toNat := by omega
      cases hd : (stepF N v).2.2.2 with
      | true =>
        rw [e1, e2, e3, e4]
        constructor
        · rintro ((h1 | h1) | h1)
          · exact ⟨hne1, .inl ⟨h1, hne2⟩⟩
          · exact ⟨hne1, .inr ⟨rfl, .inl h1⟩⟩
          · exact ⟨hne1, .inr ⟨rfl, .inr h1⟩⟩
        · rintro ⟨_, ⟨h1, _⟩ | ⟨_, h1 | h1⟩⟩
          · exact .inl (.inl h1)
          · exact .inl (.inr h1)
          · exact .inr h1
      | false =>
        rw [hd] at ed
        have hba : b ∈ rowAt N a := by
          cases hx : (rowAt N a).elem b with
          | false => rw [hx] at ed; cases ed
          | true => simpa using hx
        have hab2 : a ∈ rowAt N b := h.wf.sym a b ha.1 hb.1 hba
        constructor
        · rintro ((h1 | h1) | h1)
          · exact ⟨hne1, .inl ⟨h1, hne2⟩⟩
          · refine ⟨hne1, .inl ⟨?_, hne2⟩⟩
            rw [e1.2 h1.1, e2.2 h1.2]; exact hba
          · refine ⟨hne1, .inl ⟨?_, hne2⟩⟩
            rw [e3.2 h1.1, e4.2 h1.2]; exact hab2
        · rintro ⟨_, ⟨h1, _⟩ | ⟨h1, _⟩⟩
          · exact .inl (.inl h1)
          · cases h1
end
end Go.Sh

set_option linter.unusedVariables false
set_option linter.unusedSimpArgs false
namespace Go.Sh
open Go.Proofs
/-! ### a table, as it lies in memory -/
section
variable {n : Nat} {N : List (List Int)} {G I : List Bool} {M : List (List Bool)}
end
end Go.Sh

set_option linter.unusedVariables false
set_option linter.unusedSimpArgs false
namespace Go.Sh
open Go.Proofs
end Go.Sh

set_option linter.unusedVariables false
set_option linter.unusedSimpArgs false
namespace Go.Sh
open Go.Proofs
/-! ### carcanetlaw10.shown -/
/-! ### carcanetlaw10.ReduceWrong -/
end Go.Sh

set_option linter.unusedVariables false
set_option linter.unusedSimpArgs false
namespace Go.Sh
open Go.Proofs
/-! ### how much is left -/
/-! ### carcanetref10.Narrow -/
/-! ### carcanetref10.Same -/
/-! ### carcanetlaw10.ours -/
/-! ### carcanetlaw10.theirs -/
end Go.Sh

set_option linter.unusedVariables false
set_option linter.unusedSimpArgs false
namespace Go.Sh
/-! ### what is left, as a graph -/
/-! ### runs -/
end Go.Sh

set_option linter.unusedVariables false
set_option linter.unusedSimpArgs false
namespace Go.Sh
/-! ### the added edges of steps that were done -/
def addStep (r : List Add) (s : Stp) : List Add := if s.2.2.2 = true then (s.2.1, s.2.2.1, s.1) :: r else r
def addsL (l : List Stp) : List Add := l.foldl addStep []
def putStep (m : List (List Int × Int)) (s : Stp) : List (List Int × Int) := if s.2.2.2 = true then mapPut m [s.2.1, s.2.2.1] s.1 else m
structure ExpI (E : List Ed) (N : List (List Int)) (G : List Bool) (r : List Add) : Prop where
  wf : Wf N G
  val : Val r
  rng : ∀ e ∈ r, (0 ≤ e.1 ∧ e.1 < N.length) ∧ (0 ≤ e.2.1 ∧ e.2.1 < N.length) ∧ (0 ≤ e.2.2 ∧ e.2.2 < N.length)
  gone : ∀ v ∈ vsL r, goneAt G v = true
  cur : ∀ a b, 0 ≤ a → b ∈ rowAt N a → adjE E a b ∨ inKeys r a b
  key : ∀ e ∈ r, goneAt G e.1 = true ∨ goneAt G e.2.1 = true ∨ e.2.1 ∈ rowAt N e.1
  org : ∀ p ∈ E, goneAt G p.1 = true ∨ goneAt G p.2 = true ∨ p.2 ∈ rowAt N p.1
  exc : ∀ e ∈ r, (e.1, e.2.1) ∉ E
  ends : ∀ p ∈ E, 0 ≤ p.1 ∧ p.1 < p.2 ∧ p.2 < N.length
theorem goneAt_do {N : List (List Int)} {G : List Bool} (h : Wf N G) {s : Stp} (hm : MayP N G s.1) {u : Int} (hu : 0 ≤ u) : goneAt (doG G s) u = if u = s.1 then true else goneAt G u := by
  unfold doG
  exact goneAt_set hm.lo (by rw [h.len]; exact hm.hi) hu
theorem keep_do {N : List (List Int)} {G : List Bool} (h : Wf N G) {s : Stp} (hm : MayP N G s.1) (hs : stepF N s.1 = s) {a b : Int} (ha : 0 ≤ a) (hb : 0 ≤ b) (hk : goneAt G a = true ∨ goneAt G b = true ∨ b ∈ rowAt N a) :
    goneAt (doG G s) a = true ∨ goneAt (doG G s) b = true ∨ b ∈ rowAt (doN N s) a := by
  rw [goneAt_do h hm ha, goneAt_do h hm hb]
  by_cases h1 : a = s.1
  · exact .inl (if_pos h1)
  by_cases h2 : b = s.1
  · exact .inr (.inl (if_pos h2))
  rw [if_neg h1, if_neg h2]
  rcases hk with h3 | h3 | h3
  · exact .inl h3
  · exact .inr (.inl h3)
  · have := (do_row h hm ha).2 b
    rw [hs] at this
    exact .inr (.inr (this.2 ⟨h1, .inl ⟨h3, h2⟩⟩))
/-- What is known of a step that adds an edge. -/
theorem added_fact {E : List Ed} {N : List (List Int)} {G : List Bool} {r : List Add} (h : ExpI E N G r) {s : Stp} (hm : mayStp N G s = true) (ha : s.2.2.2 = true) :
    rowAt N s.1 = [s.2.1, s.2.2.1] ∧ s.2.1 < s.2.2.1 ∧ AddOk (s.2.1, s.2.2.1, s.1) r ∧ (0 ≤ s.2.1 ∧ s.2.1 < N.length) ∧ (0 ≤ s.2.2.1 ∧ s.2.2.1 < N.length) ∧ (0 ≤ s.1 ∧ s.1 < N.length) ∧ ¬ adjE E s.2.1 s.2.2.1 ∧ (adjE E s.2.1 s.1 ∨ inKeys r s.2.1 s.1) ∧ (adjE E s.1 s.2.2.1 ∨ inKeys r s.1 s.2.2.1) := by
  unfold mayStp at hm
  simp only [Bool.and_eq_true, decide_eq_true_eq] at hm
  have hp := mayB_iff.1 hm.1
  obtain ⟨_, hc⟩ := step_two h.wf hp hm.2.symm
  rcases hc with ⟨_, _, _, e⟩ | ⟨_, _, _, _, e⟩ | ⟨a, b, hl, hab, ea, eb, ec⟩
  · rw [ha] at e; cases e
  · rw [ha] at e; cases e
  rw [ha] at ec
  have hnb : b ∉ rowAt N a := fun hin => by
    have : (rowAt N a).elem b = true := by simpa using hin
    rw [this] at ec; cases ec
  have hrv := h.wf.rows s.1
  have hra := hrv.2 a (by rw [hl]; simp)
  have hrb := hrv.2 b (by rw [hl]; simp)
  have hva : s.1 ≠ a := fun e => h.wf.irr s.1 hp.lo (by rw [hl, ← e]; simp)
  have hvb : s.1 ≠ b := fun e => h.wf.irr s.1 hp.lo (by rw [hl, ← e]; simp)
  have sa := h.wf.sym s.1 a hp.lo hra.1 (by rw [hl]; simp)
  have sb := h.wf.sym s.1 b hp.lo hrb.1 (by rw [hl]; simp)
  have ga : goneAt G a ≠ true := fun k => by rw [h.wf.gone a hra.1 k] at sa; simp at sa
  have gb : goneAt G b ≠ true := fun k => by rw [h.wf.gone b hrb.1 k] at sb; simp at sb
  have gv : goneAt G s.1 ≠ true := by rw [hp.there]; simp
  rw [ea, eb]
  have hno : ∀ e ∈ r, ¬ keyP a b e := fun e he k => by
    have hlt := h.val.lt e he
    unfold keyP at k
    have e1 : a = e.1 ∧ b = e.2.1 := by omega
    have := h.key e he
    rw [← e1.1, ← e1.2] at this
    rcases this with k | k | k
    · exact ga k
    · exact gb k
    · exact hnb k
  have hnE : ¬ adjE E a b := fun k => by
    rcases k with k | k
    · rcases h.org _ k with k | k | k
      · exact ga k
      · exact gb k
      · exact hnb k
    · have := h.ends _ k; dsimp only at this; omega
  refine ⟨hl, hab, ⟨hab, hva, hvb, fun k => ga (h.gone _ k), fun k => gb (h.gone _ k), fun k => gv (h.gone _ k), fun ⟨e, he, k⟩ => hno e he k⟩, hra, hrb, ⟨hp.lo, hp.hi⟩, hnE, h.cur a s.1 hra.1 sa, h.cur s.1 b hp.lo (by rw [hl]; simp)⟩
theorem ExpI.step {E : List Ed} {N : List (List Int)} {G : List Bool} {r : List Add} (h : ExpI E N G r) {s : Stp} (hm : mayStp N G s = true) : ExpI E (doN N s) (doG G s) (addStep r s) := by
  have hm' := hm
  unfold mayStp at hm'
  simp only [Bool.and_eq_true, decide_eq_true_eq] at hm'
  have hp := mayB_iff.1 hm'.1
  have hs := hm'.2
  have hwf := do_wf h.wf hp
  rw [hs] at hwf
  have hlen := doN_length N s
  have row : ∀ u, 0 ≤ u → ∀ y, y ∈ rowAt (doN N s) u ↔ u ≠ s.1 ∧ ((y ∈ rowAt N u ∧ y ≠ s.1) ∨ (s.2.2.2 = true ∧ ((u = s.2.1 ∧ y = s.2.2.1) ∨ (u = s.2.2.1 ∧ y = s.2.1)))) := fun u hu y => by
    have := (do_row h.wf hp hu).2 y
    rw [hs] at this
    exact this
  have gone0 : ∀ v ∈ vsL r, goneAt (doG G s) v = true := fun v hv => by
    obtain ⟨e, he, rfl⟩ := List.mem_map.1 hv
    rw [goneAt_do h.wf hp (h.rng e he).2.2.1]
    split
    · rfl
    · exact h.gone _ hv
  have key0 : ∀ e ∈ r, goneAt (doG G s) e.1 = true ∨ goneAt (doG G s) e.2.1 = true ∨ e.2.1 ∈ rowAt (doN N s) e.1 := fun e he => keep_do h.wf hp hs (h.rng e he).1.1 (h.rng e he).2.1.1 (h.key e he)
  have org0 : ∀ p ∈ E, goneAt (doG G s) p.1 = true ∨ goneAt (doG G s) p.2 = true ∨ p.2 ∈ rowAt (doN N s) p.1 := fun p hp' => by
    have := h.ends p hp'
    exact keep_do h.wf hp hs this.1 (by omega) (h.org p hp')
  by_cases ha : s.2.2.2 = true
  · obtain ⟨hl, hab, hok, r1, r2, r3, hnE, _, _⟩ := added_fact h hm ha
    have e0 : addStep r s = (s.2.1, s.2.2.1, s.1) :: r := if_pos ha
    rw [e0]
    refine ⟨hwf, ⟨hok, h.val⟩, fun e he => ?_, fun v hv => ?_, fun a b h0 hb => ?_, fun e he => ?_, org0, fun e he => ?_, by rw [hlen]; exact h.ends⟩
    · rw [hlen]
      rcases List.mem_cons.1 he with rfl | he
      · exact ⟨r1, r2, r3⟩
      · exact h.rng e he
    · rcases List.mem_cons.1 hv with rfl | hv
      · rw [goneAt_do h.wf hp r3.1, if_pos rfl]
      · exact gone0 v hv
    · rcases (row a h0 b).1 hb with ⟨_, ⟨k, _⟩ | ⟨_, k⟩⟩
      · exact (h.cur a b h0 k).imp id fun ⟨e, he, k⟩ => ⟨e, List.mem_cons_of_mem _ he, k⟩
      · exact .inr ⟨_, List.mem_cons_self, k⟩
    · rcases List.mem_cons.1 he with rfl | he
      · exact .inr (.inr ((row _ r1.1 _).2 ⟨hok.2.1.symm, .inr ⟨ha, .inl ⟨rfl, rfl⟩⟩⟩))
      · exact key0 e he
    · rcases List.mem_cons.1 he with rfl | he
      · exact fun k => hnE (.inl k)
      · exact h.exc e he
  · have e0 : addStep r s = r := if_neg ha
    rw [e0]
    refine ⟨hwf, h.val, by rw [hlen]; exact h.rng, gone0, fun a b h0 hb => ?_, key0, org0, h.exc, by rw [hlen]; exact h.ends⟩
    rcases (row a h0 b).1 hb with ⟨_, ⟨k, _⟩ | ⟨k, _⟩⟩
    · exact h.cur a b h0 k
    · exact absurd k ha
theorem expI_zero {n : Int} {E : List Ed} (hR : RightP n E) : ExpI E (nbrs n.toNat E) (List.replicate n.toNat false) [] := by
  have hl := nbrs_length n.toNat E
  have hok := hR.2.2.2.1
  have h0 := hR.1
  refine ⟨begin_wf hR, trivial, fun e h => by simp at h, fun v h => by simp [vsL] at h, fun a b h0 hb => ?_, fun e h => by simp at h, fun p hp => ?_, fun e h => by simp at h, fun p hp => ?_⟩
  · by_cases ha : a < n.toNat
    · rw [nbrs_row h0 ha] at hb
      exact .inl (mem_nearL.1 hb)
    · rw [rowAt_out (by rw [hl]; omega)] at hb; simp at hb
  · have := hok p hp
    unfold okE at this
    refine .inr (.inr ?_)
    rw [nbrs_row (by omega) (by omega)]
    exact mem_nearL.2 (.inl hp)
  · have := hok p hp
    unfold okE at this
    rw [hl]; omega
/-- So many of the steps were done, and the others can be. -/
def RunsP (E : List Ed) (l : List Stp) (n i : Nat) : Prop := ∃ N G, N.length = n ∧ ExpI E N G (addsL (l.take i)) ∧ (replS (l.drop i) N G).2.1 = true
theorem addsL_snoc (l : List Stp) (s : Stp) : addsL (l ++ [s]) = addStep (addsL l) s := by simp [addsL]
theorem runs_zero {n : Int} {E : List Ed} {l : List Stp} (h : (replO n E l).2 = true) : RightP n E ∧ RunsP E l n.toNat 0 := by
  unfold replO at h
  split at h
  · rename_i hR
    exact ⟨hR, nbrs n.toNat E, List.replicate n.toNat false, nbrs_length _ _, expI_zero hR, h⟩
  · simp at h
theorem runs_may {E : List Ed} {l : List Stp} {n i : Nat} (hi : i < l.length) (h : RunsP E l n i) : ∃ N G, N.length = n ∧ ExpI E N G (addsL (l.take i)) ∧ mayStp N G l[i] = true ∧ (replS (l.drop (i + 1)) (doN N l[i]) (doG G l[i])).2.1 = true := by
  obtain ⟨N, G, hn, h1, h2⟩ := h
  rw [List.drop_eq_getElem_cons hi] at h2
  cases hm : mayStp N G l[i] with
  | false => rw [replS_no hm] at h2; simp at h2
  | true => rw [replS_go hm] at h2; exact ⟨N, G, hn, h1, hm, h2⟩
theorem runs_next {E : List Ed} {l : List Stp} {n i : Nat} (hi : i < l.length) (h : RunsP E l n i) : RunsP E l n (i + 1) := by
  obtain ⟨N, G, hn, h1, h2, h3⟩ := runs_may hi h
  refine ⟨_, _, by rw [doN_length]; exact hn, ?_, h3⟩
  rw [List.take_succ_eq_append_getElem hi, addsL_snoc]
  exact h1.step h2
theorem runs_all {E : List Ed} {l : List Stp} {n : Nat} (h : RunsP E l n 0) : ∀ i, i ≤ l.length → RunsP E l n i := by
  intro i
  induction i with
  | zero => intro _; exact h
  | succ i ih => intro hi; exact runs_next (by omega) (ih (by omega))
theorem runs_end {n : Int} {E : List Ed} {l : List Stp} (h : (replO n E l).2 = true) : RightP n E ∧ ∃ N G, N.length = n.toNat ∧ ExpI E N G (addsL l) := by
  obtain ⟨hR, h0⟩ := runs_zero h
  obtain ⟨N, G, h1, h2, _⟩ := runs_all h0 l.length (Nat.le_refl _)
  rw [List.take_length] at h2
  exact ⟨hR, N, G, h1, h2⟩
theorem addsL_len (l : List Stp) : (addsL l).length ≤ l.length := by
  have : ∀ (l : List Stp) (r : List Add), (l.foldl addStep r).length ≤ l.length + r.length := by
    intro l
    induction l with
    | nil => intro r; simp
    | cons s l ih =>
      intro r
      rw [List.foldl_cons]
      have := ih (addStep r s)
      have h2 : (addStep r s).length ≤ r.length + 1 := by unfold addStep; split <;> simp
      simp only [List.length_cons]
      omega
  have := this l []
  unfold addsL
  simpa using this
theorem put_by {r : List Add} {s : Stp} (h : s.2.2.2 = true → ¬ inKeys r s.2.1 s.2.2.1) : putStep (byL r) s = byL (addStep r s) := by
  unfold putStep addStep
  by_cases ha : s.2.2.2 = true
  · rw [if_pos ha, if_pos ha, byL_cons]
    refine mapPut_len _ _ _ fun hm => ?_
    have := (mapHas_iff _ _).2 hm
    obtain ⟨e, he, h1, h2⟩ := byL_has.1 this
    exact h ha ⟨e, he, .inl ⟨h1.symm, h2.symm⟩⟩
  · rw [if_neg ha, if_neg ha]

/-! ### what an edge stands for -/
open Classical in
noncomputable def expF (n : Int) (E : List Ed) (l : List Stp) (a b : Int) : Option (List Int) :=
  if (replO n E l).2 = true ∧ (adjE E a b ∨ inKeys (addsL l) a b) then some (a :: pth (addsL l) a b ++ [b]) else none
end Go.Sh

set_option linter.unusedVariables false
set_option linter.unusedSimpArgs false
namespace Go.Sh
open Go.Proofs
/-! ### carcanetref11.find -/
end Go.Sh

set_option linter.unusedVariables false
set_option linter.unusedSimpArgs false
namespace Go.Sh
open Go.Proofs Go.Shelf Go.RowKit
/-! ### slices.Grow of nil, slices.Concat -/
noncomputable def growN : Sc → Option (Option (Nat × Flat)) := fun x => match x with
  | .i .i64 n => if 0 ≤ n ∧ n ≤ 1000000000 then some (some (1, [])) else none
  | _ => none
theorem Grow_call : NilCall Try.prog 99 growN := by
  refine ⟨⟨_, Try.func99, by decide, by simp [Try.f99]⟩, ?_⟩
  intro x r hx w
  obtain ⟨n, rfl, h0, h1, rfl⟩ : ∃ n : Int, x = .i .i64 n ∧ 0 ≤ n ∧ n ≤ 1000000000 ∧ r = some (1, []) := by
    unfold growN at hx
    split at hx
    · split at hx
      · rename_i h
        injection hx with hx
        exact ⟨_, rfl, h.1, h.2, hx.symm⟩
      · simp at hx
    · simp at hx
  obtain ⟨k, rfl⟩ : ∃ k : Nat, n = k := ⟨n.toNat, by omega⟩
  rcases Nat.eq_zero_or_pos k with rfl | hk
  · refine (Any8.slices_Grow_room Try.laysGrow none 0 0 0 w (by omega) (by omega) (by omega) (by omega)).mono ?_
    rintro e w' ⟨rfl, rfl⟩
    exact ⟨_, rfl, Frm.refl _ _, none, 0, rfl, fun key => FlatOk.nil (by omega)⟩
  · obtain ⟨i0, hi, hz0, hz1, hz2⟩ := info_parts iSI
    refine (Any8.slices_Grow_grow Try.laysGrow i0 _ hi hz0 (by omega) none 0 0 k [] w (by omega) (by omega) (by rw [hz2]; omega) (by omega) (by simp) (fun _ => rfl) (fun a h => by simp at h)).mono ?_
    rintro e w' ⟨rfl, rfl⟩
    have hsz : (#[] ++ Builtin.zeroCells (Value.int .i64 0).cells (0 + k - 0) ++ Builtin.zeroCells (Value.int .i64 0).cells (grownCap w (0 + k) 0 3 - (0 + k)) : Array Value).size = grownCap w (0 + k) 0 3 := by
      have hG : 0 + k ≤ grownCap w (0 + k) 0 3 := grownCap_ge w _ _ _
      generalize grownCap w (0 + k) 0 3 = G at hG ⊢
      simp [Builtin.zeroCells, Value.cells]
      omega
    have hle := grownCap_le_maxLen w (0 + k) 0 3 (by unfold maxLen; omega)
    refine ⟨_, rfl, ⟨rfl, ⟨rfl, fun _ => Nat.le_succ _⟩, rfl, by simp, fun b hb _ => heap_alloc_lt w.drew _ hb⟩, _, _, rfl, fun key => ?_⟩
    refine { fits := Nat.zero_le _, pos := by omega, even := fun i row h => by simp at h, cell := fun i row j x h => by simp at h, room := fun _ => .inr ⟨w.heap.size, 0, _, _, rfl, ?_, heap_alloc_at w.drew _, ?_, ?_⟩ }
    · rw [if_pos ⟨Nat.le_refl _, by simp⟩]
    · show 0 + grownCap w (0 + k) 0 3 * 1 ≤ _
      refine Nat.le_trans ?_ (Nat.le_of_eq hsz.symm)
      omega
    · show grownCap w (0 + k) 0 3 ≤ _
      unfold maxLen at hle; omega
noncomputable def XCat : Cx := { Γ := [], T := T, nt := 36, ext := [99], base := nilCR 99 growN }
theorem XCat_ok : CrOk Try.prog (callAt 1 XCat) := callAt_ok hmix hT sound_nil inl_nil (nil_ok Grow_call) 1
noncomputable def ConcatC : Con := conP 1 (fun L : List (List Int) => L.length ≤ 1000 ∧ L.flatten.length ≤ 100000000) (fun L => [.one (.nest false 1 (rowsI L))]) (fun L => .one (.flat true 1 (ints L.flatten)))
theorem ConcatC_at {L : List (List Int)} (h : L.length ≤ 1000 ∧ L.flatten.length ≤ 100000000) : ConcatC.F [.one (.nest false 1 (rowsI L))] = some (.one (.flat true 1 (ints L.flatten)), []) :=
  conP_at (a := L) (fun a b _ _ h => by simp at h; rw [rowsI_inj h]) h
theorem flat_take {L : List (List Int)} {i : Nat} (h : i < L.length) : (L.take (i + 1)).flatten = (L.take i).flatten ++ L[i] := by
  rw [List.take_succ_eq_append_getElem h, List.flatten_append]; simp
theorem flat_le (L : List (List Int)) (i : Nat) : (L.take i).flatten.length ≤ L.flatten.length := by
  conv => rhs; rw [← List.take_append_drop i L, List.flatten_append, List.length_append]
  omega
set_option maxHeartbeats 1000000 in
theorem Concat_ok : SoundC Try.prog T 81 ConcatC := by
  refine sound_con (X := XCat) (cr := callAt 1 XCat) XCat_ok hmix hT sound_nil Try.func81 (by rfl) (by rfl) (by rfl) (by rfl) 1 ?_
  rintro L ⟨hL, hF⟩
  refine ⟨⟨Nat.le_of_ble_eq_true rfl, Nat.le_of_ble_eq_true rfl⟩, ?_⟩
  refine LoopP.intro (α := Nat) (fun i => i ≤ L.length) (fun i => L.length - i) (fun i => [(0, .sl 0 none none), (3, .s (.i .i64 ((L.take i).flatten.length : Nat))), (9, .sl 0 none none), (10, .s (.i .i64 L.length)), (11, .s (.i .i64 i))])
    (fun i => [(0, some (.nest false 1 (rowsI L) [] []))]) 1 0 (by omega) (by refine Weak.by [(0, some _)] (by ((repeat' first | exact rfl | exact trivial | refine And.intro ?_ ?_) <;> (repeat' first | exact rfl | exact trivial | refine And.intro ?_ ?_)); all_goals (exact sc_eq (by rw [rowsI_length]))) (by ((repeat' first | exact rfl | exact trivial | refine And.intro ?_ ?_) <;> (repeat' first | exact rfl | exact trivial | refine And.intro ?_ ?_)); all_goals (exact sc_eq (by rw [rowsI_length]))) (by rfl)) ?_
  rintro i hi
  have hfi := flat_le L i
  refine Pick.by (fun hc => ?_) (fun hc => ?_)
  · have hlt : i < L.length := by have := of_decide_eq_true hc; omega
    have hpg : (rowsI L)[i]? = some (ints L[i]) := rowsI_get (List.getElem?_eq_getElem hlt)
    have hft := flat_take hlt
    have hfi2 := flat_le L (i + 1)
    rw [hft, List.length_append] at hfi2
    refine Idx.by i rfl (by rw [rowsI_length]; exact hlt) ?_
    refine Pick.T (by simpa [rowsI_length] using hlt) ?_
    refine Look.by _ hpg ?_
    refine Pick.T (inI64_of (by rw [ints_length]; omega) (by rw [ints_length]; omega)) ?_
    refine Pick.T (inI64_of (by omega) (by omega)) ?_
    refine Next.by (i + 1) (by omega) (by omega) (by refine Weak.by [(0, some _)] (by ((repeat' first | exact rfl | exact trivial | refine And.intro ?_ ?_) <;> (repeat' first | exact rfl | exact trivial | refine And.intro ?_ ?_)); all_goals (exact sc_eq (by rw [hft, List.length_append, ints_length]; omega))) (by ((repeat' first | exact rfl | exact trivial | refine And.intro ?_ ?_) <;> (repeat' first | exact rfl | exact trivial | refine And.intro ?_ ?_)); all_goals (exact sc_eq (by rw [hft, List.length_append, ints_length]; omega))) (by rfl))
  have hil : i = L.length := by have := of_decide_eq_false hc; omega
  subst hil
  rw [List.take_length]
  refine ⟨rfl, .i .i64 ((L.flatten.length : Nat) : Int), some (1, []), rfl, if_pos ⟨by omega, by omega⟩, ?_⟩
  refine LoopP.intro (α := Nat) (fun i => i ≤ L.length) (fun i => L.length - i) (fun i => [(6, .sl 1 none none), (25, .sl 0 none none), (26, .s (.i .i64 L.length)), (27, .s (.i .i64 i))])
    (fun i => [(0, some (.nest false 1 (rowsI L) [] [])), (1, some (.flat true 1 (ints (L.take i).flatten)))]) 2 0 (by omega) (by refine Weak.by [(0, some _), (1, some _)] (by ((repeat' first | exact rfl | exact trivial | refine And.intro ?_ ?_) <;> (repeat' first | exact rfl | exact trivial | refine And.intro ?_ ?_)); all_goals ((first | exact sc_eq (by rw [rowsI_length]) | rfl))) (by ((repeat' first | exact rfl | exact trivial | refine And.intro ?_ ?_) <;> (repeat' first | exact rfl | exact trivial | refine And.intro ?_ ?_)); all_goals ((first | exact sc_eq (by rw [rowsI_length]) | rfl))) (by rfl)) ?_
  rintro i hi
  have hfi := flat_le L i
  refine Pick.by (fun hc => ?_) (fun hc => ?_)
  · have hlt : i < L.length := by have := of_decide_eq_true hc; omega
    have hpg : (rowsI L)[i]? = some (ints L[i]) := rowsI_get (List.getElem?_eq_getElem hlt)
    have hft := flat_take hlt
    have hfi2 := flat_le L (i + 1)
    rw [hft, List.length_append] at hfi2
    refine Idx.by i rfl (by rw [rowsI_length]; exact hlt) ?_
    refine Pick.T (by simpa [rowsI_length] using hlt) ?_
    refine Look.by _ hpg ?_
    refine Pick.T (decide_eq_true (by rw [ints_length, show (cut none (ints L[i])).length = L[i].length from ints_length _]; omega)) ?_
    refine Pick.T (inI64_of (by omega) (by omega)) ?_
    refine Next.by (i + 1) (by omega) (by omega) (by refine Weak.by [(0, some _), (1, some _)] (by ((repeat' first | exact rfl | exact trivial | refine And.intro ?_ ?_) <;> (repeat' first | exact rfl | exact trivial | refine And.intro ?_ ?_)); all_goals ((rw [hft, ints_append]; rfl))) (by ((repeat' first | exact rfl | exact trivial | refine And.intro ?_ ?_) <;> (repeat' first | exact rfl | exact trivial | refine And.intro ?_ ?_)); all_goals ((rw [hft, ints_append]; rfl))) (by rfl))
  have hil : i = L.length := by have := of_decide_eq_false hc; omega
  subst hil
  rw [List.take_length]
  exact ⟨rfl, rfl, rfl⟩
end Go.Sh

set_option linter.unusedVariables false
set_option linter.unusedSimpArgs false
namespace Go.Sh
open Go.Proofs
/-! ### expander$2: what lies between two ends -/
noncomputable def XInn (d : Nat) : Cx := { Γ := [(81, ConcatC), (80, recC 80 (innerD d))], T := T, nt := 35, pt := [23, 29] }
theorem min_in {x y : Int} (hx : inI64 x = true) (hy : inI64 y = true) : inI64 (if y < x then y else x) = true := by split <;> assumption
theorem max_in {x y : Int} (hx : inI64 x = true) (hy : inI64 y = true) : inI64 (if y > x then y else x) = true := by split <;> assumption
set_option maxRecDepth 20000 in
set_option maxHeartbeats 1000000 in
theorem inner_run (d : Nat) (ih : RecCall Try.prog 80 (innerD d)) : RecCall Try.prog 80 (innerD (d + 1)) := by
  have hΓ : Sound Try.prog T (XInn d).Γ := sound_cons Concat_ok (sound_cons (rec_sound ih) sound_nil)
  refine rec_call (X := XInn d) (cr := callAt 1 (XInn d)) (c := body Try.f80) (callAt_ok hmix hT hΓ inl_nil cr_none 1) hmix hT hΓ Try.func80 (by rfl) (by rfl) (by rfl) (by rfl) (by rfl) ?_
  intro l x y r h
  have h : (if inI64 x = true ∧ inI64 y = true then (if mapHas l (key2 x y) = true then (match innerD d l x (mapGet l (key2 x y)), innerD d l (mapGet l (key2 x y)) y with
      | some p, some q => if p.length + q.length ≤ 1000000 then some (p ++ mapGet l (key2 x y) :: q) else none
      | _, _ => none) else some []) else none) = some r := h
  by_cases hr : inI64 x = true ∧ inI64 y = true
  rotate_left
  · rw [if_neg hr] at h; simp at h
  rw [if_pos hr] at h
  refine Pick.T (min_in hr.1 hr.2) ?_
  refine Pick.T (max_in hr.1 hr.2) ?_
  refine Pick.by (fun hc => ?_) (fun hc => ?_)
  · have hc : ¬ mapHas l (key2 x y) = true := by
      have hc : (!mapHas l (key2 x y)) = true := hc
      simpa using hc
    rw [if_neg hc] at h
    injection h with h
    subst h
    exact ⟨rfl, rfl, rfl⟩
  have hc : mapHas l (key2 x y) = true := by
    have hc : (!mapHas l (key2 x y)) = false := hc
    simpa using hc
  rw [if_pos hc] at h
  cases h1 : innerD d l x (mapGet l (key2 x y)) with
  | none => rw [h1] at h; simp at h
  | some rx =>
    cases h2 : innerD d l (mapGet l (key2 x y)) y with
    | none => rw [h1, h2] at h; simp at h
    | some ry =>
      rw [h1, h2] at h
      dsimp only at h
      by_cases hl : rx.length + ry.length ≤ 1000000
      rotate_left
      · rw [if_neg hl] at h; simp at h
      rw [if_pos hl] at h
      injection h with h
      subst h

      refine Call.by _ _ (recC_at h1) ?_
      refine Call.by _ _ (recC_at h2) ?_
      refine Call.by _ _ (ConcatC_at (L := [rx, [mapGet l (key2 x y)], ry]) ⟨by simp, by simp; omega⟩) ?_
      refine Seg.by (by kernel_rfl) ?_
      refine ⟨rfl, rfl, ?_⟩
      show _ = ints _
      simp
theorem inner_call : ∀ d, RecCall Try.prog 80 (innerD d)
  | 0 => ⟨⟨_, Try.func80, by decide, by simp [Try.f80]⟩, fun l x y r h => by simp [innerD] at h⟩
  | d + 1 => inner_run d (inner_call d)
end Go.Sh

set_option linter.unusedVariables false
set_option linter.unusedSimpArgs false
namespace Go.Sh
open Go.Proofs
/-! ### expand.Edge -/
theorem runs_addok {E : List Ed} {l : List Stp} {n i : Nat} (hi : i < l.length) (h : RunsP E l n i) (ha : l[i].2.2.2 = true) :
    (0 ≤ l[i].2.1 ∧ l[i].2.1 < n) ∧ (0 ≤ l[i].2.2.1 ∧ l[i].2.2.1 < n) ∧ (0 ≤ l[i].1 ∧ l[i].1 < n) ∧ AddOk (l[i].2.1, l[i].2.2.1, l[i].1) (addsL (l.take i)) ∧ Val (addsL (l.take i)) ∧ (adjE E l[i].2.1 l[i].1 ∨ inKeys (addsL (l.take i)) l[i].2.1 l[i].1) ∧ (adjE E l[i].1 l[i].2.2.1 ∨ inKeys (addsL (l.take i)) l[i].1 l[i].2.2.1) := by
  obtain ⟨N, G, hn, h1, h2, _⟩ := runs_may hi h
  obtain ⟨_, _, h3, h4, h5, h6, _, h7, h8⟩ := added_fact h1 h2 ha
  rw [hn] at h4 h5 h6
  exact ⟨h4, h5, h6, h3, h1.val, h7, h8⟩
theorem runs_put {E : List Ed} {l : List Stp} {n i : Nat} (hi : i < l.length) (h : RunsP E l n i) : putStep (byL (addsL (l.take i))) l[i] = byL (addsL (l.take (i + 1))) := by
  rw [List.take_succ_eq_append_getElem hi, addsL_snoc]
  exact put_by fun ha => (runs_addok hi h ha).2.2.2.1.2.2.2.2.2.2
noncomputable def EdgeC : Con := conP 4 (fun a : ((Int × List Ed) × List Stp) × Int × Int => a.1.2.length ≤ 1000 ∧ i64 a.2.1 ∧ i64 a.2.2) (fun a => [grV a.1.1.1 a.1.1.2, .one (.flat false 4 (stps a.1.2)), .one (.s (.i .i64 a.2.1)), .one (.s (.i .i64 a.2.2))])
  (fun a => .tup [.one (.flat true 1 (ints ((expF a.1.1.1 a.1.1.2 a.1.2 a.2.1 a.2.2).getD []))), .one (.s (.b (expF a.1.1.1 a.1.1.2 a.1.2 a.2.1 a.2.2).isSome))])
theorem EdgeC_at {n : Int} {E : List Ed} {l : List Stp} {a b : Int} (h : l.length ≤ 1000 ∧ i64 a ∧ i64 b) : EdgeC.F [grV n E, .one (.flat false 4 (stps l)), .one (.s (.i .i64 a)), .one (.s (.i .i64 b))] = some (.tup [.one (.flat true 1 (ints ((expF n E l a b).getD []))), .one (.s (.b (expF n E l a b).isSome))], []) :=
  conP_at (a := (((n, E), l), a, b)) (fun x y _ _ h => by
    obtain ⟨⟨⟨n, E⟩, l⟩, a, b⟩ := x
    obtain ⟨⟨⟨n', E'⟩, l'⟩, a', b'⟩ := y
    simp at h
    obtain ⟨h1, h2, rfl, rfl⟩ := h
    obtain ⟨rfl, rfl⟩ := grV_inj h1
    rw [stps_inj h2]) h
noncomputable def XEx : Cx := { Γ := [(25, ReplC), (27, HasGC), (81, ConcatC), (80, recC 80 (innerD 1002))], T := T, nt := 18, pt := [34], inl := [(45, inlF Try.f45), (79, inlF Try.f79), (82, inlF Try.f82)] }
theorem XEx_sound : Sound Try.prog T XEx.Γ := sound_cons Repl_ok (sound_cons Has_ok (sound_cons Concat_ok (sound_cons (rec_sound (inner_call 1002)) sound_nil)))
theorem XEx_ok : CrOk Try.prog (callAt 1 XEx) := callAt_ok hmix hT XEx_sound (inl_cons Try.func45 (by rfl) (by rfl) (by rfl) (inl_cons Try.func79 (by rfl) (by rfl) (by rfl) (inl_cons Try.func82 (by rfl) (by rfl) (by rfl) inl_nil))) cr_none 1
set_option maxHeartbeats 2000000 in
set_option maxRecDepth 20000 in
theorem Edge_ok : SoundC Try.prog T 17 EdgeC := by
  refine sound_con (X := XEx) (cr := callAt 1 XEx) XEx_ok hmix hT XEx_sound Try.func17 (by rfl) (by rfl) (by rfl) (by rfl) 5 ?_
  rintro ⟨⟨⟨n, E⟩, L⟩, a, b⟩ ⟨hL, ha, hb⟩
  dsimp only at hL ha hb ⊢
  refine ⟨⟨Nat.le_of_ble_eq_true rfl, Nat.le_of_ble_eq_true rfl⟩, ?_⟩
  refine Call.by _ _ (ReplC_at (l := L) (by omega)) ?_
  refine Pick.by (fun h1 => ?_) (fun h1 => ?_)
  · have h1 : ¬ (replO n E L).2 = true := by have h1 : (!(replO n E L).2) = true := h1; simpa using h1
    have hv : expF n E L a b = none := if_neg fun h => h1 h.1
    rw [hv]
    refine ⟨rfl, ?_⟩
    (repeat' first | exact rfl | exact trivial | refine And.intro ?_ ?_)
  have h1 : (replO n E L).2 = true := by have h1 : (!(replO n E L).2) = false := h1; simpa using h1
  obtain ⟨hR, hruns⟩ := runs_zero h1
  have hruns := runs_all hruns
  obtain ⟨_, N, G, hN, hX⟩ := runs_end h1
  have hn0 := hR.1
  have hn1 := hR.2.1
  refine LoopP.intro (α := Nat) (fun i => i ≤ L.length) (fun i => L.length - i) (fun i => [(1, .sl 2 none none), (2, .ptr 0 0), (7, .ptr 3 0), (20, .sl 2 none none), (21, .s (.i .i64 L.length)), (22, .s (.i .i64 i)), (1000002, .s (.i .i64 a)), (1000003, .s (.i .i64 b))])
    (fun i => [(0, some (.blk [.s (.i .i64 n), .sl 1 none none])), (1, some (.flat false 2 (edges E))), (2, some (.flat false 4 (stps L))), (3, some (.blk [.mp 4])), (4, some (.map true 2 (byL (addsL (L.take i)))))]) 5 0 (by omega) (by refine Weak.by [(0, some _), (1, some _), (2, some _), (3, some _), (4, some _)] (by ((repeat' first | exact rfl | exact trivial | refine And.intro ?_ ?_) <;> (repeat' first | exact rfl | exact trivial | refine And.intro ?_ ?_)); all_goals (exact sc_eq (by rw [stps_length]))) (by ((repeat' first | exact rfl | exact trivial | refine And.intro ?_ ?_) <;> (repeat' first | exact rfl | exact trivial | refine And.intro ?_ ?_)); all_goals (exact sc_eq (by rw [stps_length]))) (by rfl)) ?_
  rintro i hi
  refine Pick.by (fun hc => ?_) (fun hc => ?_)
  · have hlt : i < L.length := by have := of_decide_eq_true hc; omega
    obtain ⟨s, hs⟩ : ∃ s, L[i] = s := ⟨_, rfl⟩
    have hrow : (stps L)[i]? = some [.i .i64 s.1, .i .i64 s.2.1, .i .i64 s.2.2.1, .b s.2.2.2] := by unfold stps; rw [List.getElem?_map, List.getElem?_eq_getElem hlt, hs]; rfl
    have hput := runs_put hlt (hruns i (by omega))
    rw [hs] at hput
    refine Idx.by i rfl (by rw [stps_length]; exact hlt) ?_
    refine Look.by _ hrow ?_
    refine Pick.by (fun h2 => ?_) (fun h2 => ?_)
    · have h2 : s.2.2.2 = true := h2
      have hok := runs_addok hlt (hruns i (by omega)) (by rw [hs]; exact h2)
      rw [hs] at hok
      obtain ⟨r1, r2, r3, _⟩ := hok
      have hput : mapPut (byL (addsL (L.take i))) [s.2.1, s.2.2.1] s.1 = byL (addsL (L.take (i + 1))) := by rw [← hput]; unfold putStep; rw [if_pos h2]
      refine Pick.T (inI64_of (by omega) (by omega)) ?_
      refine Pick.T (inI64_of (by omega) (by omega)) ?_
      refine Pick.T (inI64_of (by omega) (by omega)) ?_
      refine Next.by (i + 1) (by omega) (by omega) (by refine Weak.by [(0, some _), (1, some _), (2, some _), (3, some _), (4, some _)] (by ((repeat' first | exact rfl | exact trivial | refine And.intro ?_ ?_) <;> (repeat' first | exact rfl | exact trivial | refine And.intro ?_ ?_)); all_goals (rw [← hput])) (by ((repeat' first | exact rfl | exact trivial | refine And.intro ?_ ?_) <;> (repeat' first | exact rfl | exact trivial | refine And.intro ?_ ?_)); all_goals (rw [← hput])) (by rfl))
    · have h2 : ¬ s.2.2.2 = true := by have h2 : s.2.2.2 = false := h2; rw [h2]; simp
      have hput : byL (addsL (L.take i)) = byL (addsL (L.take (i + 1))) := by rw [← hput]; unfold putStep; rw [if_neg h2]
      refine Pick.T (inI64_of (by omega) (by omega)) ?_
      rw [hput]
      refine Next.by (i + 1) (by omega) (by omega) (by refine Weak.by [(0, some _), (1, some _), (2, some _), (3, some _), (4, some _)] (by ((repeat' first | exact rfl | exact trivial | refine And.intro ?_ ?_) <;> (repeat' first | exact rfl | exact trivial | refine And.intro ?_ ?_))) (by ((repeat' first | exact rfl | exact trivial | refine And.intro ?_ ?_) <;> (repeat' first | exact rfl | exact trivial | refine And.intro ?_ ?_))) (by rfl))
  have hil : i = L.length := by have := of_decide_eq_false hc; rw [] at this; omega
  subst hil
  rw [List.take_length]
  have hval := hX.val
  have hlen := addsL_len L
  have hrng : ∀ e ∈ addsL L, i64 e.1 ∧ i64 e.2.1 ∧ i64 e.2.2 := fun e he => by
    have := hX.rng e he
    rw [hN] at this
    unfold i64
    omega
  refine Pick.T (min_in (inI64_iff.2 ha) (inI64_iff.2 hb)) ?_
  refine Pick.T (max_in (inI64_iff.2 ha) (inI64_iff.2 hb)) ?_
  have hin : innerD 1002 (byL (addsL L)) a b = some (pth (addsL L) a b) := inner_pth (r := addsL L) (pre := []) hval hrng (by omega) ha hb (by simp) (by omega)
  have hpl := pth_len (a := a) (b := b) hval
  have hkey : mapHas (byL (addsL L)) (key2 a b) = true ↔ inKeys (addsL L) a b := key2_has hval.lt
  refine Pick.by (fun hc1 => ?_) (fun hc1 => ?_)
  · have hk : ¬ inKeys (addsL L) a b := fun k => by
      have hc1 : (!mapHas (byL (addsL L)) (key2 a b)) = true := hc1
      rw [hkey.2 k] at hc1; simp at hc1
    refine Call.by _ _ (HasGC_at _ _ (by have := hR.2.2.1; omega)) ?_
    refine Pick.by (fun hc2 => ?_) (fun hc2 => ?_)
    · have hc2 : hasG n E a b = false := by have hc2 : (!hasG n E a b) = true := hc2; simpa using hc2
      have hE : ¬ adjE E a b := fun k => by
        have : hasG n E a b = true := by unfold hasG; simp [hR, mem_nearL.2 k]
        rw [this] at hc2; simp at hc2
      have hv : expF n E L a b = none := if_neg fun h => h.2.elim hE hk
      rw [hv]
      refine ⟨rfl, ?_⟩
      (repeat' first | exact rfl | exact trivial | refine And.intro ?_ ?_)
    · have hc2 : hasG n E a b = true := by have hc2 : (!hasG n E a b) = false := hc2; simpa using hc2
      have hE : adjE E a b := by unfold hasG at hc2; simp at hc2; exact mem_nearL.1 hc2.2
      have hv : expF n E L a b = some [[a], pth (addsL L) a b, [b]].flatten := (if_pos ⟨h1, .inl hE⟩ : expF n E L a b = some (a :: pth (addsL L) a b ++ [b])).trans (by simp)
      rw [hv]
      refine Call.by _ _ (recC_at hin) ?_
      refine Call.by _ _ (ConcatC_at (L := [[a], pth (addsL L) a b, [b]]) ⟨by simp, by simp; omega⟩) ?_
      refine ⟨rfl, ?_⟩
      (repeat' first | exact rfl | exact trivial | refine And.intro ?_ ?_)
  · have hk : inKeys (addsL L) a b := hkey.1 (by
      have hc1 : (!mapHas (byL (addsL L)) (key2 a b)) = false := hc1
      simpa using hc1)
    have hv : expF n E L a b = some [[a], pth (addsL L) a b, [b]].flatten := (if_pos ⟨h1, .inr hk⟩ : expF n E L a b = some (a :: pth (addsL L) a b ++ [b])).trans (by simp)
    rw [hv]
    refine Call.by _ _ (recC_at hin) ?_
    refine Call.by _ _ (ConcatC_at (L := [[a], pth (addsL L) a b, [b]]) ⟨by simp, by simp; omega⟩) ?_
    refine ⟨rfl, ?_⟩
    (repeat' first | exact rfl | exact trivial | refine And.intro ?_ ?_)
end Go.Sh

set_option linter.unusedVariables false
set_option linter.unusedSimpArgs false
namespace Go.Sh
/-! ### what is lifted, on lists -/
def liftA (f : Int → Int → Option (List Int)) (p : List Int) : Nat → Option (List Int)
  | 0 => some (p.take 1)
  | j + 1 => match liftA f p j with
    | some q => match f (p.getD j 0) (p.getD (j + 1) 0) with
      | some m => some (q ++ m.tail)
      | none => none
    | none => none
def liftF (f : Int → Int → Option (List Int)) (p : List Int) : Option (List Int) := liftA f p (p.length - 1)
def liftN (f : Int → Int → Option (List Int)) (L : List (List Int)) : Nat → Option (List (List Int))
  | 0 => some []
  | i + 1 => match liftN f L i with
    | some K => match liftF f (L.getD i []) with
      | some q => some (K ++ [q])
      | none => none
    | none => none
theorem liftA_go {f : Int → Int → Option (List Int)} {p q m : List Int} {j : Nat} (h : liftA f p j = some q) (k : f (p.getD j 0) (p.getD (j + 1) 0) = some m) : liftA f p (j + 1) = some (q ++ m.tail) := by simp only [liftA, h, k]
theorem liftA_no {f : Int → Int → Option (List Int)} {p : List Int} {j : Nat} (k : f (p.getD j 0) (p.getD (j + 1) 0) = none) : liftA f p (j + 1) = none := by
  simp only [liftA, k]
  split <;> rfl
theorem liftA_stay {f : Int → Int → Option (List Int)} {p : List Int} {j : Nat} (h : liftA f p j = none) : ∀ k, liftA f p (j + k) = none := by
  intro k
  induction k with
  | zero => exact h
  | succ k ih => rw [← Nat.add_assoc]; simp only [liftA, ih]
theorem liftF_no {f : Int → Int → Option (List Int)} {p : List Int} {j : Nat} (hj : j + 1 < p.length) (k : f (p.getD j 0) (p.getD (j + 1) 0) = none) : liftF f p = none := by
  have := liftA_stay (liftA_no k) (p.length - 1 - (j + 1))
  unfold liftF
  rw [show p.length - 1 = j + 1 + (p.length - 1 - (j + 1)) by omega]
  exact this
theorem liftN_go {f : Int → Int → Option (List Int)} {L K : List (List Int)} {q : List Int} {i : Nat} (hi : i < L.length) (h : liftN f L i = some K) (k : liftF f L[i] = some q) : liftN f L (i + 1) = some (K ++ [q]) := by
  have : L.getD i [] = L[i] := by rw [List.getD_eq_getElem?_getD, List.getElem?_eq_getElem hi]; rfl
  simp only [liftN, h, this, k]
theorem liftN_stay {f : Int → Int → Option (List Int)} {L : List (List Int)} {i : Nat} (h : liftN f L i = none) : ∀ k, liftN f L (i + k) = none := by
  intro k
  induction k with
  | zero => exact h
  | succ k ih => rw [← Nat.add_assoc]; simp only [liftN, ih]
theorem liftN_no {f : Int → Int → Option (List Int)} {L : List (List Int)} {i : Nat} (hi : i < L.length) (k : liftF f L[i] = none) : liftN f L L.length = none := by
  have e : L.getD i [] = L[i] := by rw [List.getD_eq_getElem?_getD, List.getElem?_eq_getElem hi]; rfl
  have : liftN f L (i + 1) = none := by
    simp only [liftN, e, k]
    split <;> rfl
  have := liftN_stay this (L.length - (i + 1))
  rw [show L.length = i + 1 + (L.length - (i + 1)) by omega]
  exact this
theorem liftN_len {f : Int → Int → Option (List Int)} {L : List (List Int)} : ∀ {i : Nat} {K : List (List Int)}, liftN f L i = some K → K.length = i := by
  intro i
  induction i with
  | zero => intro K h; simp [liftN] at h; rw [h]; rfl
  | succ i ih =>
    intro K h
    simp only [liftN] at h
    split at h
    · rename_i K' hK
      split at h
      · injection h with h
        rw [← h, List.length_append, ih hK]; rfl
      · simp at h
    · simp at h
theorem liftA_len {f : Int → Int → Option (List Int)} {p : List Int} {c : Nat} (hf : ∀ x y m, f x y = some m → m.length ≤ c) : ∀ {j : Nat} {q : List Int}, liftA f p j = some q → q.length ≤ 1 + j * c := by
  intro j
  induction j with
  | zero => intro q h; simp [liftA] at h; rw [← h, List.length_take]; omega
  | succ j ih =>
    intro q h
    simp only [liftA] at h
    split at h
    · rename_i q' hq
      split at h
      · rename_i m hm
        injection h with h
        have := ih hq
        have := hf _ _ _ hm
        rw [← h, List.length_append, List.length_tail, Nat.succ_mul]
        omega
      · simp at h
    · simp at h
theorem expF_len {n : Int} {E : List Ed} {l : List Stp} {a b : Int} {m : List Int} (hl : l.length ≤ 1000) (h : expF n E l a b = some m) : m.length ≤ 1002 ∧ 2 ≤ m.length := by
  unfold expF at h
  split at h
  · rename_i hc
    obtain ⟨_, N, G, _, hX⟩ := runs_end hc.1
    have := pth_len (a := a) (b := b) hX.val
    have := addsL_len l
    injection h with h
    rw [← h]
    simp
    omega
  · simp at h
open Classical in
noncomputable def liftO (n : Int) (E : List Ed) (l : List Stp) (L : List (List Int)) : Option (List (List Int)) := if (replO n E l).2 = true then liftN (expF n E l) L L.length else none
noncomputable def liftV (n : Int) (E : List Ed) (l : List Stp) (k : Int) (Ts : List Int) (L : List (List Int)) : V := match liftO n E l L with
  | some K => .tup [sbV true k Ts K, .one (.s (.b true))]
  | none => .tup [sbV true 0 [] [], .one (.s (.b false))]
def smallNums (L : List (List Int)) : Prop := ∀ p ∈ L, ∀ x ∈ p, i64 x
end Go.Sh

set_option linter.unusedVariables false
set_option linter.unusedSimpArgs false
namespace Go.Sh
open Go.Proofs
/-! ### expand.Lift -/
noncomputable def LiftC : Con := conP 3 (fun a : ((Int × List Ed) × List Stp) × Int × List Int × List (List Int) => a.1.2.length ≤ 1000 ∧ a.2.2.1.length ≤ 1000000 ∧ fewL a.2.2.2 ∧ smallNums a.2.2.2) (fun a => [grV a.1.1.1 a.1.1.2, .one (.flat false 4 (stps a.1.2)), sbV false a.2.1 a.2.2.1 a.2.2.2])
  (fun a => liftV a.1.1.1 a.1.1.2 a.1.2 a.2.1 a.2.2.1 a.2.2.2)
theorem LiftC_at {n : Int} {E : List Ed} {l : List Stp} {k : Int} {Ts : List Int} {L : List (List Int)} (h : l.length ≤ 1000 ∧ Ts.length ≤ 1000000 ∧ fewL L ∧ smallNums L) : LiftC.F [grV n E, .one (.flat false 4 (stps l)), sbV false k Ts L] = some (liftV n E l k Ts L, []) :=
  conP_at (a := (((n, E), l), k, Ts, L)) (fun x y _ _ h => by
    obtain ⟨⟨⟨n, E⟩, l⟩, k, Ts, L⟩ := x
    obtain ⟨⟨⟨n', E'⟩, l'⟩, k', Ts', L'⟩ := y
    simp at h
    obtain ⟨h1, h2, h3⟩ := h
    obtain ⟨rfl, rfl⟩ := grV_inj h1
    obtain ⟨rfl, rfl, rfl⟩ := sbV_inj h3
    rw [stps_inj h2]) h
noncomputable def XLi : Cx := { Γ := [(25, ReplC), (27, HasGC), (81, ConcatC), (48, CloneCI), (80, recC 80 (innerD 1002))], T := T, nt := 85, pt := [34], inl := [(45, inlF Try.f45), (79, inlF Try.f79), (82, inlF Try.f82)] }
theorem XLi_sound : Sound Try.prog T XLi.Γ := sound_cons Repl_ok (sound_cons Has_ok (sound_cons Concat_ok (sound_cons Clone_okI (sound_cons (rec_sound (inner_call 1002)) sound_nil))))
theorem XLi_ok : CrOk Try.prog (callAt 1 XLi) := callAt_ok hmix hT XLi_sound (inl_cons Try.func45 (by rfl) (by rfl) (by rfl) (inl_cons Try.func79 (by rfl) (by rfl) (by rfl) (inl_cons Try.func82 (by rfl) (by rfl) (by rfl) inl_nil))) cr_none 1
theorem one_cut (p : List Int) : cut (some (0, min 1 p.length)) (ints p) = ints (p.take 1) := by
  show ((ints p).drop 0).take (min 1 p.length) = _
  unfold ints
  rw [List.drop_zero, ← List.map_take]
  cases p <;> simp
theorem tail_cut (m : List Int) : cut (subOf none 0 1 m.length) (ints m) = ints m.tail := by
  show ((ints m).drop 1).take (m.length - 1) = _
  unfold ints
  rw [← List.map_drop, ← List.map_take, List.drop_one, List.take_of_length_le (by rw [List.length_tail]; omega)]
set_option maxHeartbeats 8000000 in
set_option maxRecDepth 20000 in
theorem Lift_ok : SoundC Try.prog T 22 LiftC := by
  refine sound_con (X := XLi) (cr := callAt 1 XLi) XLi_ok hmix hT XLi_sound Try.func22 (by rfl) (by rfl) (by rfl) (by rfl) 6 ?_
  rintro ⟨⟨⟨n, E⟩, L⟩, k, Ts, S⟩ ⟨hL, hTs, hS, hnum⟩
  dsimp only at hL hTs hS hnum ⊢
  refine ⟨⟨Nat.le_of_ble_eq_true rfl, Nat.le_of_ble_eq_true rfl⟩, ?_⟩
  refine Call.by _ _ (ReplC_at (l := L) (by omega)) ?_
  refine Pick.by (fun h1 => ?_) (fun h1 => ?_)
  · have h1 : ¬ (replO n E L).2 = true := by have h1 : (!(replO n E L).2) = true := h1; simpa using h1
    have hv : liftV n E L k Ts S = .tup [sbV true 0 [] [], .one (.s (.b false))] := by
      unfold liftV
      rw [show liftO n E L S = none from if_neg h1]
    rw [hv]
    refine ⟨rfl, ?_⟩
    (repeat' first | exact rfl | exact trivial | refine And.intro ?_ ?_)
  have h1 : (replO n E L).2 = true := by have h1 : (!(replO n E L).2) = false := h1; simpa using h1
  have hlo : liftO n E L S = liftN (expF n E L) S S.length := if_pos h1
  obtain ⟨hR, hruns⟩ := runs_zero h1
  have hruns := runs_all hruns
  obtain ⟨_, N, G, hN, hX⟩ := runs_end h1
  have hn0 := hR.1
  have hn1 := hR.2.1
  refine Call.by _ _ (ReplC_at (l := L) (by omega)) ?_
  refine Pick.F (by show (!(replO n E L).2) = false; rw [h1]; rfl) ?_
  refine LoopP.intro (α := Nat) (fun i => i ≤ L.length) (fun i => L.length - i) (fun i => [(1, .sl 2 none none), (2, .ptr 0 0), (7, .ptr 3 0), (20, .sl 2 none none), (21, .s (.i .i64 L.length)), (22, .s (.i .i64 i)), (1000005, .ptr 5 0), (1000006, .ptr 8 0)])
    (fun i => [(0, some (.blk [.s (.i .i64 n), .sl 1 none none])), (1, some (.flat false 2 (edges E))), (2, some (.flat false 4 (stps L))), (3, some (.blk [.mp 4])), (4, some (.map true 2 (byL (addsL (L.take i))))), (5, some (.blk [.s (.i .i64 k), .sl 6 none none, .sl 7 none none])), (6, some (.flat false 1 (ints Ts))), (7, some (.nest false 1 (rowsI S) [] [])), (8, some (.blk [.s (.i .i64 0), .nils, .nils]))]) 9 0 (by omega) (by refine Weak.by [(0, some _), (1, some _), (2, some _), (3, some _), (4, some _), (5, some _), (6, some _), (7, some _), (8, some _)] (by ((repeat' first | exact rfl | exact trivial | refine And.intro ?_ ?_) <;> (repeat' first | exact rfl | exact trivial | refine And.intro ?_ ?_)); all_goals (exact sc_eq (by rw [stps_length]))) (by ((repeat' first | exact rfl | exact trivial | refine And.intro ?_ ?_) <;> (repeat' first | exact rfl | exact trivial | refine And.intro ?_ ?_)); all_goals (exact sc_eq (by rw [stps_length]))) (by rfl)) ?_
  rintro i hi
  refine Pick.by (fun hc => ?_) (fun hc => ?_)
  · have hlt : i < L.length := by have := of_decide_eq_true hc; omega
    obtain ⟨s, hs⟩ : ∃ s, L[i] = s := ⟨_, rfl⟩
    have hrow : (stps L)[i]? = some [.i .i64 s.1, .i .i64 s.2.1, .i .i64 s.2.2.1, .b s.2.2.2] := by unfold stps; rw [List.getElem?_map, List.getElem?_eq_getElem hlt, hs]; rfl
    have hput := runs_put hlt (hruns i (by omega))
    rw [hs] at hput
    refine Idx.by i rfl (by rw [stps_length]; exact hlt) ?_
    refine Look.by _ hrow ?_
    refine Pick.by (fun h2 => ?_) (fun h2 => ?_)
    · have h2 : s.2.2.2 = true := h2
      have hok := runs_addok hlt (hruns i (by omega)) (by rw [hs]; exact h2)
      rw [hs] at hok
      obtain ⟨r1, r2, r3, _⟩ := hok
      have hput : mapPut (byL (addsL (L.take i))) [s.2.1, s.2.2.1] s.1 = byL (addsL (L.take (i + 1))) := by rw [← hput]; unfold putStep; rw [if_pos h2]
      refine Pick.T (inI64_of (by omega) (by omega)) ?_
      refine Pick.T (inI64_of (by omega) (by omega)) ?_
      refine Pick.T (inI64_of (by omega) (by omega)) ?_
      refine Next.by (i + 1) (by omega) (by omega) (by refine Weak.by [(0, some _), (1, some _), (2, some _), (3, some _), (4, some _), (5, some _), (6, some _), (7, some _), (8, some _)] (by ((repeat' first | exact rfl | exact trivial | refine And.intro ?_ ?_) <;> (repeat' first | exact rfl | exact trivial | refine And.intro ?_ ?_)); all_goals (rw [← hput])) (by ((repeat' first | exact rfl | exact trivial | refine And.intro ?_ ?_) <;> (repeat' first | exact rfl | exact trivial | refine And.intro ?_ ?_)); all_goals (rw [← hput])) (by rfl))
    · have h2 : ¬ s.2.2.2 = true := by have h2 : s.2.2.2 = false := h2; rw [h2]; simp
      have hput : byL (addsL (L.take i)) = byL (addsL (L.take (i + 1))) := by rw [← hput]; unfold putStep; rw [if_neg h2]
      refine Pick.T (inI64_of (by omega) (by omega)) ?_
      rw [hput]
      refine Next.by (i + 1) (by omega) (by omega) (by refine Weak.by [(0, some _), (1, some _), (2, some _), (3, some _), (4, some _), (5, some _), (6, some _), (7, some _), (8, some _)] (by ((repeat' first | exact rfl | exact trivial | refine And.intro ?_ ?_) <;> (repeat' first | exact rfl | exact trivial | refine And.intro ?_ ?_))) (by ((repeat' first | exact rfl | exact trivial | refine And.intro ?_ ?_) <;> (repeat' first | exact rfl | exact trivial | refine And.intro ?_ ?_))) (by rfl))
  have hil : i = L.length := by have := of_decide_eq_false hc; rw [] at this; omega
  subst hil
  rw [List.take_length]
  have hval := hX.val
  have hlen := addsL_len L
  have hrng : ∀ e ∈ addsL L, i64 e.1 ∧ i64 e.2.1 ∧ i64 e.2.2 := fun e he => by
    have := hX.rng e he
    rw [hN] at this
    unfold i64
    omega
  have hkey : ∀ a b, mapHas (byL (addsL L)) (key2 a b) = true ↔ inKeys (addsL L) a b := fun a b => key2_has hval.lt
  have hin : ∀ {a b : Int}, i64 a → i64 b → innerD 1002 (byL (addsL L)) a b = some (pth (addsL L) a b) := fun ha hb => inner_pth (r := addsL L) (pre := []) hval hrng (by omega) ha hb (by simp) (by omega)
  refine Call.by _ _ (CloneC_atI hTs) ?_
  refine Seg.by (by kernel_rfl) ?_
  obtain ⟨hS1, hS2⟩ := hS
  refine LoopP.intro (α := Nat × List (List Int)) (fun a => a.1 ≤ S.length ∧ liftN (expF n E L) S a.1 = some a.2) (fun a => S.length - a.1) (fun a => [(6, .ptr 6 0), (10, .fn 82 [.ptr 2 0, .ptr 0 0, .ptr 4 0]), (11, .ptr 7 0), (37, .sl 5 none none), (38, .s (.i .i64 S.length)), (39, .s (.i .i64 a.1))])
    (fun a => [(0, some (.blk [.s (.i .i64 n), .sl 1 none none])), (1, some (.flat false 2 (edges E))), (2, some (.blk [.mp 3])), (3, some (.map true 2 (byL (addsL L)))), (4, some (.fnb true 80 [.ptr 2 0, .ptr 4 0])), (5, some (.nest false 1 (rowsI S) [] [])), (6, some (.blk [.s (.i .i64 0), .nils, .nils])), (7, some (.blk [.s (.i .i64 k), .sl 8 none none, .sl 9 none none])), (8, some (.flat true 1 (ints Ts))), (9, some (.nest true 1 (rowsI a.2) [] []))]) 10 (0, []) ⟨by omega, rfl⟩ (by refine Weak.by [(0, some _), (1, some _), (2, some _), (3, some _), (4, some _), (5, some _), (6, some _), (7, some _), (8, some _), (9, none)] (by ((repeat' first | exact rfl | exact trivial | refine And.intro ?_ ?_) <;> (repeat' first | exact rfl | exact trivial | refine And.intro ?_ ?_)); all_goals (exact sc_eq (by rw [rowsI_length]))) (by ((repeat' first | exact rfl | exact trivial | refine And.intro ?_ ?_) <;> (repeat' first | exact rfl | exact trivial | refine And.intro ?_ ?_)); all_goals (exact sc_eq (by rw [rowsI_length]))) (by rfl)) ?_
  rintro ⟨i, K⟩ ⟨hi, hK⟩
  dsimp only at hi hK ⊢
  have hKl := liftN_len hK
  refine Pick.by (fun hc => ?_) (fun hc => ?_)
  rotate_left
  · have hil : i = S.length := by have := of_decide_eq_false hc; omega
    have hv : liftV n E L k Ts S = .tup [sbV true k Ts K, .one (.s (.b true))] := by
      unfold liftV
      rw [hlo, ← hil, hK]
    rw [hv]
    refine ⟨rfl, ?_⟩
    (repeat' first | exact rfl | exact trivial | refine And.intro ?_ ?_)
  have hlt : i < S.length := by have := of_decide_eq_true hc; omega
  obtain ⟨p, hpe⟩ : ∃ p, S[i] = p := ⟨_, rfl⟩
  have hpl := hS2 _ (List.getElem_mem hlt)
  have hpn := hnum _ (List.getElem_mem hlt)
  rw [hpe] at hpl hpn
  have hpg : (rowsI S)[i]? = some (ints p) := rowsI_get (by rw [List.getElem?_eq_getElem hlt, hpe])
  refine Idx.by i rfl (by rw [rowsI_length]; exact hlt) ?_
  refine Pick.T (by simpa [rowsI_length] using hlt) ?_
  refine Look.by _ hpg ?_
  refine Look.by _ hpg ?_
  refine Rng.by 0 (min 1 p.length) rfl (by rw [ints_length]; show (if (p.length : Int) < 1 then (p.length : Int) else 1) = _; split <;> omega) (by omega) (by rw [ints_length]; omega) ?_
  refine Look.by _ hpg ?_
  have hcl := CloneC_atI (l := p.take 1) (by rw [List.length_take]; omega)
  rw [← one_cut] at hcl
  refine Call.by _ _ hcl ?_
  rw [one_cut]
  refine Look.by _ hpg ?_
  refine Pick.T (inI64_of (by rw [ints_length]; omega) (by rw [ints_length]; omega)) ?_
  refine LoopP.intro (α := Nat × List Int) (fun a => a.1 ≤ p.length - 1 ∧ liftA (expF n E L) p a.1 = some a.2) (fun a => p.length - a.1) (fun a => [(6, .ptr 6 0), (10, .fn 82 [.ptr 2 0, .ptr 0 0, .ptr 4 0]), (11, .ptr 7 0), (13, .sl 5 (some (i, 0)) none), (14, .sl 10 none none), (37, .sl 5 none none), (38, .s (.i .i64 S.length)), (39, .s (.i .i64 i)), (51, .s (.i .i64 ((p.length : Int) - 1))), (52, .s (.i .i64 a.1))])
    (fun a => [(0, some (.blk [.s (.i .i64 n), .sl 1 none none])), (1, some (.flat false 2 (edges E))), (2, some (.blk [.mp 3])), (3, some (.map true 2 (byL (addsL L)))), (4, some (.fnb true 80 [.ptr 2 0, .ptr 4 0])), (5, some (.nest false 1 (rowsI S) [] [])), (6, some (.blk [.s (.i .i64 0), .nils, .nils])), (7, some (.blk [.s (.i .i64 k), .sl 8 none none, .sl 9 none none])), (8, some (.flat true 1 (ints Ts))), (9, some (.nest true 1 (rowsI K) [] [])), (10, some (.flat true 1 (ints a.2)))]) 11 (0, p.take 1) ⟨by omega, rfl⟩ (by refine Weak.by [(0, some _), (1, some _), (2, some _), (3, some _), (4, some _), (5, some _), (6, some _), (7, some _), (8, some _), (9, some _), (10, some _)] (by ((repeat' first | exact rfl | exact trivial | refine And.intro ?_ ?_) <;> (repeat' first | exact rfl | exact trivial | refine And.intro ?_ ?_)); all_goals (first | exact sc_eq (by rw [ints_length]) | (simp; done))) (by ((repeat' first | exact rfl | exact trivial | refine And.intro ?_ ?_) <;> (repeat' first | exact rfl | exact trivial | refine And.intro ?_ ?_)); all_goals (first | exact sc_eq (by rw [ints_length]) | (simp; done))) (by rfl)) ?_
  rintro ⟨j, q⟩ ⟨hj, hq⟩
  dsimp only at hj hq ⊢
  have hql := liftA_len (c := 1002) (fun x y m h => (expF_len hL h).1) hq
  have hql2 : j * 1002 ≤ 5000 * 1002 := Nat.mul_le_mul_right _ (by omega)
  refine Pick.by (fun hc2 => ?_) (fun hc2 => ?_)
  rotate_left
  · have hje : j = p.length - 1 := by have := of_decide_eq_false hc2; omega
    have hlf : liftF (expF n E L) S[i] = some q := by rw [hpe]; unfold liftF; rw [← hje]; exact hq
    have hst := liftN_go hlt hK hlf
    refine Pick.T (decide_eq_true (by rw [rowsI_length, hKl]; simp only [List.length_cons, List.length_nil]; omega)) ?_
    refine Pick.T (inI64_of (by omega) (by omega)) ?_
    refine Next.by (i + 1, K ++ [q]) ⟨by dsimp only; omega, hst⟩ (by dsimp only; omega) (by refine Weak.by [(0, some _), (1, some _), (2, some _), (3, some _), (4, some _), (5, some _), (6, some _), (7, some _), (8, some _), (9, some _)] (by ((repeat' first | exact rfl | exact trivial | refine And.intro ?_ ?_) <;> (repeat' first | exact rfl | exact trivial | refine And.intro ?_ ?_)); all_goals ((first | (rw [rowsI_snoc]; done) | (rw [rowsI_snoc]; rfl) | (simp; done)))) (by ((repeat' first | exact rfl | exact trivial | refine And.intro ?_ ?_) <;> (repeat' first | exact rfl | exact trivial | refine And.intro ?_ ?_)); all_goals ((first | (rw [rowsI_snoc]; done) | (rw [rowsI_snoc]; rfl) | (simp; done)))) (by rfl))
  have hjl : j + 1 < p.length := by have := of_decide_eq_true hc2; omega
  have g0 : p[j]? = some (p.getD j 0) := by rw [List.getD_eq_getElem?_getD, List.getElem?_eq_getElem (by omega)]; rfl
  have g1 : p[j + 1]? = some (p.getD (j + 1) 0) := by rw [List.getD_eq_getElem?_getD, List.getElem?_eq_getElem (by omega)]; rfl
  have ha : i64 (p.getD j 0) := hpn _ (List.mem_of_getElem? g0)
  have hb : i64 (p.getD (j + 1) 0) := hpn _ (List.mem_of_getElem? g1)
  have hin := hin ha hb
  have hkey := hkey (p.getD j 0) (p.getD (j + 1) 0)
  obtain ⟨a, hae⟩ : ∃ a, p.getD j 0 = a := ⟨_, rfl⟩
  obtain ⟨b, hbe⟩ : ∃ b, p.getD (j + 1) 0 = b := ⟨_, rfl⟩
  have hno : expF n E L a b = none → liftV n E L k Ts S = .tup [sbV true 0 [] [], .one (.s (.b false))] := fun h => by
    rw [← hae, ← hbe] at h
    have := liftN_no (f := expF n E L) hlt (by rw [hpe]; exact liftF_no hjl h)
    unfold liftV
    rw [hlo, this]
  have hyes : ∀ m, expF n E L a b = some m → liftA (expF n E L) p (j + 1) = some (q ++ m.tail) := fun m h => by
    rw [← hae, ← hbe] at h
    exact liftA_go hq h
  rw [hae, hbe] at hkey hin
  rw [hae] at g0 ha
  rw [hbe] at g1 hb
  clear hae hbe
  refine Look.by _ hpg ?_
  refine Idx.by j rfl (by rw [ints_length]; omega) ?_
  refine Look.by _ hpg ?_
  refine Look.by _ (ints_get g0) ?_
  refine Pick.T (inI64_of (by omega) (by omega)) ?_
  refine Look.by _ hpg ?_
  refine Idx.by (j + 1) (by omega) (by rw [ints_length]; omega) ?_
  refine Look.by _ hpg ?_
  refine Look.by _ (ints_get g1) ?_
  refine Bar.by (by kernel_rfl) (by kernel_rfl) ?_
  refine Pick.T (min_in (inI64_iff.2 ha) (inI64_iff.2 hb)) ?_
  refine Pick.T (max_in (inI64_iff.2 ha) (inI64_iff.2 hb)) ?_
  refine Pick.by (fun hc1 => ?_) (fun hc1 => ?_)
  · have hk : ¬ inKeys (addsL L) a b := fun k => by
      have hc1 : (!mapHas (byL (addsL L)) (key2 a b)) = true := hc1
      rw [hkey.2 k] at hc1; simp at hc1
    refine Call.by _ _ (HasGC_at _ _ (by have := hR.2.2.1; omega)) ?_
    refine Pick.by (fun hc2 => ?_) (fun hc2 => ?_)
    · have hc2 : hasG n E a b = false := by have hc2 : (!hasG n E a b) = true := hc2; simpa using hc2
      have hE : ¬ adjE E a b := fun k => by
        have : hasG n E a b = true := by unfold hasG; simp [hR, mem_nearL.2 k]
        rw [this] at hc2; simp at hc2
      have hv := hno (if_neg fun h => h.2.elim hE hk)
      rw [hv]
      refine Seg.by (by kernel_rfl) ?_
      refine ⟨rfl, ?_⟩
      (repeat' first | exact rfl | exact trivial | refine And.intro ?_ ?_)
    · have hc2 : hasG n E a b = true := by have hc2 : (!hasG n E a b) = false := hc2; simpa using hc2
      have hE : adjE E a b := by unfold hasG at hc2; simp at hc2; exact mem_nearL.1 hc2.2
      obtain ⟨m, hm, hmv⟩ : ∃ m, expF n E L a b = some m ∧ m = [[a], pth (addsL L) a b, [b]].flatten := ⟨_, if_pos ⟨h1, .inl hE⟩, by simp⟩
      have hml := expF_len hL hm
      refine Call.by _ _ (recC_at hin) ?_
      refine Call.by _ _ (ConcatC_at (L := [[a], pth (addsL L) a b, [b]]) ⟨by simp, by rw [← hmv]; omega⟩) ?_
      rw [← hmv]
      refine Seg.by (by kernel_rfl) ?_
      refine Rng.by 1 m.length rfl (by rw [ints_length]) (by omega) (by rw [ints_length]; omega) ?_
      refine Pick.T (decide_eq_true (by rw [tail_cut, ints_length, ints_length, List.length_tail]; omega)) ?_
      refine Pick.T (inI64_of (by omega) (by omega)) ?_
      refine Next.by (j + 1, q ++ m.tail) ⟨by dsimp only; omega, hyes m hm⟩ (by dsimp only; omega) (by refine Weak.by [(0, some _), (1, some _), (2, some _), (3, some _), (4, some _), (5, some _), (6, some _), (7, some _), (8, some _), (9, some _), (10, some _)] (by ((repeat' first | exact rfl | exact trivial | refine And.intro ?_ ?_) <;> (repeat' first | exact rfl | exact trivial | refine And.intro ?_ ?_)); all_goals (first | (rw [ints_append, ← tail_cut]; rfl) | (simp; done))) (by ((repeat' first | exact rfl | exact trivial | refine And.intro ?_ ?_) <;> (repeat' first | exact rfl | exact trivial | refine And.intro ?_ ?_)); all_goals (first | (rw [ints_append, ← tail_cut]; rfl) | (simp; done))) (by rfl))
  · have hk : inKeys (addsL L) a b := hkey.1 (by
      have hc1 : (!mapHas (byL (addsL L)) (key2 a b)) = false := hc1
      simpa using hc1)
    obtain ⟨m, hm, hmv⟩ : ∃ m, expF n E L a b = some m ∧ m = [[a], pth (addsL L) a b, [b]].flatten := ⟨_, if_pos ⟨h1, .inr hk⟩, by simp⟩
    have hml := expF_len hL hm
    refine Call.by _ _ (recC_at hin) ?_
    refine Call.by _ _ (ConcatC_at (L := [[a], pth (addsL L) a b, [b]]) ⟨by simp, by rw [← hmv]; omega⟩) ?_
    rw [← hmv]
    refine Seg.by (by kernel_rfl) ?_
    refine Rng.by 1 m.length rfl (by rw [ints_length]) (by omega) (by rw [ints_length]; omega) ?_
    refine Pick.T (decide_eq_true (by rw [tail_cut, ints_length, ints_length, List.length_tail]; omega)) ?_
    refine Pick.T (inI64_of (by omega) (by omega)) ?_
    refine Next.by (j + 1, q ++ m.tail) ⟨by dsimp only; omega, hyes m hm⟩ (by dsimp only; omega) (by refine Weak.by [(0, some _), (1, some _), (2, some _), (3, some _), (4, some _), (5, some _), (6, some _), (7, some _), (8, some _), (9, some _), (10, some _)] (by ((repeat' first | exact rfl | exact trivial | refine And.intro ?_ ?_) <;> (repeat' first | exact rfl | exact trivial | refine And.intro ?_ ?_)); all_goals (first | (rw [ints_append, ← tail_cut]; rfl) | (simp; done))) (by ((repeat' first | exact rfl | exact trivial | refine And.intro ?_ ?_) <;> (repeat' first | exact rfl | exact trivial | refine And.intro ?_ ?_)); all_goals (first | (rw [ints_append, ← tail_cut]; rfl) | (simp; done))) (by rfl))
end Go.Sh

set_option linter.unusedVariables false
set_option linter.unusedSimpArgs false
namespace Go.Sh
open Go.Proofs
/-! ### carcanetref11.paths -/
end Go.Sh

set_option linter.unusedVariables false
set_option linter.unusedSimpArgs false
namespace Go.Sh
open Go.Proofs
/-! ### carcanetref11.Edge, carcanetref11.Lift -/
end Go.Sh

set_option linter.unusedVariables false
set_option linter.unusedSimpArgs false
namespace Go.Sh
open Go.Proofs
/-! ### carcanetlaw11.small, ours -/
noncomputable def Ours11C : Con := conP 1 (fun _ : List Stp => True) (fun l => [.one (.flat false 4 (stps l))]) (fun l => .one (.flat true 4 (stps (l.take 60))))
theorem Ours11C_at (l : List Stp) : Ours11C.F [.one (.flat false 4 (stps l))] = some (.one (.flat true 4 (stps (l.take 60))), []) :=
  conP_at (a := l) (fun x y _ _ h => by simp at h; rw [stps_inj h]) trivial
theorem Ours11_ok : SoundC Try.prog T 18 Ours11C := by
  refine sound_con (X := { Γ := [], T := T, nt := 23 }) cr_none hmix hT sound_nil Try.func18 (by rfl) (by rfl) (by rfl) (by rfl) 1 ?_
  rintro l -
  refine ⟨⟨Nat.le_of_ble_eq_true rfl, Nat.le_of_ble_eq_true rfl⟩, ?_⟩
  refine LoopP.intro (α := Nat) (fun k => k ≤ l.length ∧ k ≤ 60) (fun k => 60 - k) (fun k => [(0, .sl 0 none none), (3, .sl 1 none none), (4, .s (.i .i64 k))]) (fun k => [(0, some (.flat false 4 (stps l))), (1, some (.flat true 4 (stps (l.take k))))]) 2 0 ⟨by omega, by omega⟩ (by refine Weak.by [(0, some _), (1, none)] (by ((repeat' first | exact rfl | exact trivial | refine And.intro ?_ ?_) <;> (repeat' first | exact rfl | exact trivial | refine And.intro ?_ ?_))) (by ((repeat' first | exact rfl | exact trivial | refine And.intro ?_ ?_) <;> (repeat' first | exact rfl | exact trivial | refine And.intro ?_ ?_))) (by rfl)) ?_
  rintro k ⟨hk, hk2⟩
  have hrow : ∀ x : Stp, l[k]? = some x → (stps l)[k]? = some [.i .i64 x.1, .i .i64 x.2.1, .i .i64 x.2.2.1, .b x.2.2.2] := fun x hs => by unfold stps; rw [List.getElem?_map, hs]; rfl
  have htl : (l.take k).length = k := by rw [List.length_take]; omega
  refine Pick.by (fun hc => ?_) (fun hc => ?_)
  · have hlt : k < l.length := by rw [stps_length] at hc; simpa using hc
    refine Pick.by (fun hc2 => ?_) (fun hc2 => ?_)
    · have hlt2 : k < 60 := by simp at hc2; omega
      refine Idx.by k rfl (by rw [stps_length]; exact hlt) ?_
      refine Look.by _ (hrow _ (List.getElem?_eq_getElem hlt)) ?_
      refine Pick.T (by simp [cut, stps_length]; omega) ?_
      refine Pick.T (inI64_of (by omega) (by omega)) ?_
      refine Next.by (k + 1) ⟨by omega, by omega⟩ (by omega) (by refine Weak.by [(0, some _), (1, some _)] (by ((repeat' first | exact rfl | exact trivial | refine And.intro ?_ ?_) <;> (repeat' first | exact rfl | exact trivial | refine And.intro ?_ ?_)); all_goals ((rw [List.take_succ_eq_append_getElem hlt, stps_snoc]; rfl))) (by ((repeat' first | exact rfl | exact trivial | refine And.intro ?_ ?_) <;> (repeat' first | exact rfl | exact trivial | refine And.intro ?_ ?_)); all_goals ((rw [List.take_succ_eq_append_getElem hlt, stps_snoc]; rfl))) (by rfl))
    · have hge : k = 60 := by simp at hc2; omega
      exact ⟨rfl, by (repeat' first | exact rfl | exact trivial | refine And.intro ?_ ?_); all_goals (rw [hge]; rfl)⟩
  · have hge : k = l.length := by rw [stps_length] at hc; simp at hc; omega
    have e : stps (l.take 60) = stps (l.take k) := by rw [List.take_of_length_le (by omega), List.take_of_length_le (by omega)]
    exact ⟨rfl, by (repeat' first | exact rfl | exact trivial | refine And.intro ?_ ?_); all_goals exact e⟩
/-! ### carcanetref09.Same -/
/-! ### carcanetlaw11.shown -/
def E11 : List Ed := [(0, 1), (0, 3), (1, 2), (2, 3)]
def l11 : List Stp := [(0, 1, 3, true)]
theorem right11 : RightP 4 E11 := by unfold RightP E11 okE; decide
theorem repl11 : (replO 4 E11 l11).2 = true := by unfold replO; rw [if_pos right11]; decide
theorem exp_a : expF 4 E11 l11 3 1 = some [3, 0, 1] := (if_pos ⟨repl11, .inr (by decide)⟩ : _ = some (3 :: pth (addsL l11) 3 1 ++ [1])).trans (by decide)
theorem exp_b : expF 4 E11 l11 2 1 = some [2, 1] := (if_pos ⟨repl11, .inl (by unfold adjE; decide)⟩ : _ = some (2 :: pth (addsL l11) 2 1 ++ [1])).trans (by decide)
theorem exp_c : expF 4 E11 l11 1 3 = some [1, 0, 3] := (if_pos ⟨repl11, .inr (by decide)⟩ : _ = some (1 :: pth (addsL l11) 1 3 ++ [3])).trans (by decide)
theorem exp_n : expF 4 E11 [] 3 1 = none := if_neg fun h => h.2.elim (by unfold adjE; decide) (by decide)
theorem lift11 : liftV 4 E11 l11 7 [] [[2, 1, 3]] = .tup [sbV true 7 [] [[2, 1, 0, 3]], .one (.s (.b true))] := by
  have : liftO 4 E11 l11 [[2, 1, 3]] = some [[2, 1, 0, 3]] := by
    unfold liftO
    rw [if_pos repl11]
    simp [liftN, liftF, liftA, exp_b, exp_c]
  unfold liftV
  rw [this]
noncomputable def Shown11C : Con := conP 0 (fun _ : Unit => True) (fun _ => []) (fun _ => .one (.s (.b true)))
theorem Shown11C_at : Shown11C.F [] = some (.one (.s (.b true)), []) := conP_at (a := ()) (fun a b _ _ h => rfl) trivial
set_option maxHeartbeats 1000000 in
theorem Shown11_ok : SoundC Try.prog T 15 Shown11C := by
  refine sound_con (X := { Γ := [(17, EdgeC), (22, LiftC)], T := T, nt := 90 }) cr_none hmix hT (sound_cons Edge_ok (sound_cons Lift_ok sound_nil)) Try.func15 (by rfl) (by rfl) (by rfl) (by rfl) 0 ?_
  rintro ⟨⟩ -
  refine ⟨⟨Nat.le_of_ble_eq_true rfl, Nat.le_of_ble_eq_true rfl⟩, ?_⟩
  have h1 := EdgeC_at (n := 4) (E := E11) (l := l11) (a := 3) (b := 1) ⟨by decide, by unfold i64; omega, by unfold i64; omega⟩
  rw [exp_a] at h1
  refine Call.by _ _ h1 ?_
  have h2 := EdgeC_at (n := 4) (E := E11) (l := []) (a := 3) (b := 1) ⟨by decide, by unfold i64; omega, by unfold i64; omega⟩
  rw [exp_n] at h2
  refine Call.by _ _ h2 ?_
  have h3 := LiftC_at (n := 4) (E := E11) (l := l11) (k := 7) (Ts := []) (L := [[2, 1, 3]]) ⟨by decide, by decide, by unfold fewL; decide, fun p hp x hx => by
    simp only [List.mem_singleton] at hp
    subst hp
    simp only [List.mem_cons, List.not_mem_nil, or_false] at hx
    unfold i64
    omega⟩
  rw [lift11] at h3
  refine Call.by _ _ h3 ?_
  refine Idx.by 0 rfl (by decide) ?_
  refine Look.by [.i .i64 3] rfl ?_
  refine Idx.by 1 rfl (by decide) ?_
  refine Look.by [.i .i64 0] rfl ?_
  refine Idx.by 0 rfl (by decide) ?_
  refine Look.by (ints [2, 1, 0, 3]) rfl ?_
  refine Idx.by 0 rfl (by decide) ?_
  refine Look.by (ints [2, 1, 0, 3]) rfl ?_
  refine Idx.by 2 rfl (by decide) ?_
  refine Look.by (ints [2, 1, 0, 3]) rfl ?_
  refine Look.by [.i .i64 0] rfl ?_
  exact ⟨rfl, rfl⟩
end Go.Sh

set_option linter.unusedVariables false
set_option linter.unusedSimpArgs false
namespace Go.Sh
open Go.Proofs
/-! ### ExpandTells, ExpandLifts, ExpandWrong, ExpandOwn -/
/-! #### what is lifted -/
noncomputable def XWrongF := conF (fun a : (Int × List Ed) × List Stp × (Int × Int) => i64 a.2.2.1 ∧ i64 a.2.2.2) (fun a => [grV a.1.1 a.1.2, .one (.flat false 4 (stps a.2.1)), .agg [.s (.i .i64 a.2.2.1), .s (.i .i64 a.2.2.2)]]) (fun _ => .one (.s (.b true)))
set_option maxRecDepth 20000 in
set_option maxHeartbeats 2000000 in
theorem XWrong_ok : SoundP Try.prog 5 XWrongF := by
  refine con_pure (X := { Γ := [(15, Shown11C), (16, OfC), (18, Ours11C), (25, ReplC), (17, EdgeC), (22, LiftC)], T := T, nt := 125 }) cr_none hmix hT (sound_cons Shown11_ok (sound_cons Of_ok (sound_cons Ours11_ok (sound_cons Repl_ok (sound_cons Edge_ok (sound_cons Lift_ok sound_nil)))))) Try.func5 (by rfl) (by rfl) (by rfl) 5 ?_
  rintro ⟨⟨n, E⟩, l, a, b⟩ ⟨ha, hb⟩
  dsimp only at ha hb ⊢
  refine ⟨⟨Nat.le_of_ble_eq_true rfl, Nat.le_of_ble_eq_true rfl⟩, ?_⟩
  refine Call.by _ _ Shown11C_at ?_
  refine Call.by _ _ (OfC_at n E (most := 20) (by omega)) ?_
  obtain ⟨m, hm⟩ : ∃ m, anyN n 20 = m := ⟨_, rfl⟩
  obtain ⟨F, hF⟩ : ∃ F, anyE n E 20 = F := ⟨_, rfl⟩
  rw [hm, hF]
  refine Call.by _ _ (Ours11C_at l) ?_
  have hl60 : (l.take 60).length ≤ 60 := by rw [List.length_take]; omega
  obtain ⟨L, hLe⟩ : ∃ L, l.take 60 = L := ⟨_, rfl⟩
  rw [hLe] at hl60 ⊢
  refine Call.by _ _ (ReplC_at (l := L) (by omega)) ?_
  refine Idx.by 0 rfl (by decide) ?_
  refine Idx.by 1 rfl (by decide) ?_
  refine Call.by _ _ (EdgeC_at (n := m) (E := F) (l := L) (a := a) (b := b) ⟨by omega, ha, hb⟩) ?_
  refine Idx.by 0 rfl (by decide) ?_
  refine Idx.by 0 rfl (by decide) ?_
  have hL := LiftC_at (n := m) (E := F) (l := L) (k := 5) (Ts := [a]) (L := [[a], []]) ⟨by omega, by simp, by unfold fewL; simp, fun p hp x hx => by
    simp only [List.mem_cons, List.not_mem_nil, or_false] at hp
    rcases hp with rfl | rfl
    · simp only [List.mem_singleton] at hx; rw [hx]; exact ha
    · simp at hx⟩
  by_cases h1 : (replO m F L).2 = true
  · have hv : liftV m F L 5 [a] [[a], []] = .tup [sbV true 5 [a] [[a], []], .one (.s (.b true))] := by
      have : liftO m F L [[a], []] = some [[a], []] := by
        unfold liftO
        rw [if_pos h1]
        simp [liftN, liftF, liftA]
      unfold liftV
      rw [this]
    rw [hv] at hL
    refine Call.by _ _ hL ?_
    rw [h1]
    refine Idx.by 0 rfl (by rw [rowsI_length]; simp) ?_
    refine Look.by (ints [a]) rfl ?_
    refine Idx.by 1 rfl (by rw [rowsI_length]; simp) ?_
    refine Look.by (ints []) rfl ?_
    obtain h2 | ⟨q, h2⟩ : expF m F L a b = none ∨ ∃ q, expF m F L a b = some q := by cases expF m F L a b <;> simp
    · rw [h2]
      exact ⟨rfl, rfl⟩
    · have hq := (expF_len (by omega) h2).2
      rw [h2]
      refine ⟨rfl, ?_⟩
      show Sc.b (true == decide (((ints q).length : Int) > 0)) = Sc.b true
      rw [ints_length, decide_eq_true (by omega)]
      rfl
  · have hv : liftV m F L 5 [a] [[a], []] = .tup [sbV true 0 [] [], .one (.s (.b false))] := by
      unfold liftV
      rw [show liftO m F L [[a], []] = none from if_neg h1]
    rw [hv] at hL
    refine Call.by _ _ hL ?_
    have h1 : (replO m F L).2 = false := by simpa using h1
    have he : expF m F L a b = none := if_neg fun h => by rw [h1] at h; simp at h
    rw [h1, he]
    refine Pick.T (inI64_of (by simp [ints, rowsI]) (by simp [ints, rowsI])) ?_
    exact ⟨rfl, rfl⟩
end Go.Sh

set_option linter.unusedVariables false
set_option linter.unusedSimpArgs false
namespace Go.Sh
open Go.Proofs
/-! ### what is handed in, as data -/
theorem VTy.struct {T : Tab} {t : Nat} {ti : TI} {fs : List (Nat × Nat)} {v : V} (ht : lk T t = some ti) (hk : ti.kind = .struct fs) (h : VTy T t v) : ∃ cs, v = .agg cs ∧ All2 (fun (f : Nat × Nat) c => CTy T f.2 c) fs cs := by
  unfold VTy at h
  rw [ht] at h
  simp only at h
  rw [hk] at h
  exact h
theorem VTy.cell {T : Tab} {t : Nat} {ti : TI} {v : V} (ht : lk T t = some ti) (hk : ∀ fs, ti.kind ≠ .struct fs ∧ ∀ n e, ti.kind ≠ .array n e) (h : VTy T t v) : ∃ c, v = .one c ∧ CTy T t c := by
  unfold VTy at h
  rw [ht] at h
  simp only at h
  cases hq : ti.kind with
  | struct fs => exact absurd hq (hk fs).1
  | array n e => exact absurd hq ((hk []).2 n e)
  | _ => rw [hq] at h; exact h
theorem VTy.array {T : Tab} {t : Nat} {ti : TI} {n e : Nat} {v : V} (ht : lk T t = some ti) (hk : ti.kind = .array n e) (h : VTy T t v) : ∃ cs, v = .agg cs ∧ cs.length = n ∧ ∀ c ∈ cs, CTy T e c := by
  unfold VTy at h
  rw [ht] at h
  simp only at h
  rw [hk] at h
  exact h
theorem ScTy.int {T : Tab} {t : Nat} {ti : TI} {k : IntKind} {x : Sc} (ht : lk T t = some ti) (hk : ti.kind = .int k) (h : ScTy T t x) : ∃ n, x = .i k n ∧ (Lit.int k n).wf = true := by
  unfold ScTy at h
  rw [ht] at h
  simp only at h
  rw [hk] at h
  cases x with
  | i k' n => obtain ⟨rfl, h⟩ := h; exact ⟨n, rfl, h⟩
  | b _ => exact h.elim
theorem CTy.sc {T : Tab} {t : Nat} {c : C} (hs : sliceE T t = none) (h : CTy T t c) : ∃ x, c = .s x ∧ ScTy T t x := by
  unfold CTy at h
  rw [hs] at h
  exact h
theorem CTy.flat {T : Tab} {t e : Nat} {c : C} (hs : sliceE T t = some e) (hs2 : sliceE T e = none) (h : CTy T t c) : ∃ rows, c = .flat false (sizeT T e) rows ∧ FlatTy T e rows := by
  unfold CTy at h
  rw [hs] at h
  simp only at h
  rw [hs2] at h
  exact h
theorem CTy.nest {T : Tab} {t e e2 : Nat} {c : C} (hs : sliceE T t = some e) (hs2 : sliceE T e = some e2) (h : CTy T t c) : ∃ rows, c = .nest false (sizeT T e2) rows ∧ rows.length ≤ maxLen ∧ ∀ fl ∈ rows, FlatTy T e2 fl := by
  unfold CTy at h
  rw [hs] at h
  simp only at h
  rw [hs2] at h
  exact h
theorem i64_wf {n : Int} (h : (Lit.int .i64 n).wf = true) : i64 n := by
  simp [Lit.wf, IntKind.min, IntKind.max, IntKind.signed, IntKind.bits] at h
  exact h
theorem list_ex {α β : Type} {P : α → β → Prop} : ∀ {l : List α}, (∀ x ∈ l, ∃ y, P x y) → ∃ m : List β, All2 P l m := by
  intro l
  induction l with
  | nil => intro _; exact ⟨[], All2.nil⟩
  | cons x l ih =>
    intro h
    obtain ⟨y, hy⟩ := h x (by simp)
    obtain ⟨m, hm⟩ := ih fun x hx => h x (by simp [hx])
    exact ⟨y :: m, All2.cons' hy hm⟩
theorem All2.map_eq {α β : Type} {f : β → α} {l : List α} {m : List β} (h : All2 (fun x y => x = f y) l m) : l = m.map f := by
  apply List.ext_getElem?
  intro i
  rw [List.getElem?_map]
  by_cases hi : i < l.length
  · have him : i < m.length := by rw [← h.1]; exact hi
    rw [List.getElem?_eq_getElem hi, List.getElem?_eq_getElem him, Option.map_some, h.2 i _ _ (List.getElem?_eq_getElem hi) (List.getElem?_eq_getElem him)]
  · rw [List.getElem?_eq_none (by omega), List.getElem?_eq_none (by rw [← h.1]; omega)]; rfl
theorem All2.mem {α β : Type} {R : α → β → Prop} {l : List α} {m : List β} (h : All2 R l m) {y : β} (hy : y ∈ m) : ∃ x ∈ l, R x y := by
  obtain ⟨i, hi⟩ := List.mem_iff_getElem?.1 hy
  have hl := (List.getElem?_eq_some_iff.1 hi).1
  rw [← h.1] at hl
  exact ⟨_, List.getElem_mem hl, h.2 i _ y (List.getElem?_eq_getElem hl) hi⟩
/-! #### at this program's types -/
theorem All2.two {α β : Type} {R : α → β → Prop} {a b : α} {m : List β} (h : All2 R [a, b] m) : ∃ x y, m = [x, y] ∧ R a x ∧ R b y := by
  obtain ⟨h1, h2⟩ := h
  match m, h1, h2 with
  | [x, y], _, h2 => exact ⟨x, y, rfl, h2 0 a x rfl rfl, h2 1 b y rfl rfl⟩
theorem All2.one {α β : Type} {R : α → β → Prop} {a : α} {m : List β} (h : All2 R [a] m) : ∃ x, m = [x] ∧ R a x := by
  obtain ⟨h1, h2⟩ := h
  match m, h1, h2 with
  | [x], _, h2 => exact ⟨x, rfl, h2 0 a x rfl rfl⟩
theorem All2.three {α β : Type} {R : α → β → Prop} {a b c : α} {m : List β} (h : All2 R [a, b, c] m) : ∃ x y z, m = [x, y, z] ∧ R a x ∧ R b y ∧ R c z := by
  obtain ⟨h1, h2⟩ := h
  match m, h1, h2 with
  | [x, y, z], _, h2 => exact ⟨x, y, z, rfl, h2 0 a x rfl rfl, h2 1 b y rfl rfl, h2 2 c z rfl rfl⟩
theorem row_edge {row : Row} (h : RowTy T 59 row) : ∃ p : Ed, row = [.i .i64 p.1, .i .i64 p.2] ∧ i64 p.1 ∧ i64 p.2 := by
  obtain ⟨_, h⟩ := h
  obtain ⟨x, y, rfl, hx, hy⟩ := All2.two h
  obtain ⟨n, rfl, hn⟩ := ScTy.int (t := 3) rfl rfl hx
  obtain ⟨m, rfl, hm⟩ := ScTy.int (t := 3) rfl rfl hy
  exact ⟨(n, m), rfl, i64_wf hn, i64_wf hm⟩
theorem edges_of {fl : Flat} (h : FlatTy T 59 fl) : ∃ E : List Ed, fl = edges E ∧ E.length ≤ maxLen ∧ ∀ p ∈ E, i64 p.1 ∧ i64 p.2 := by
  obtain ⟨m, hm⟩ := list_ex (P := fun row (p : Ed) => row = [Sc.i .i64 p.1, Sc.i .i64 p.2] ∧ i64 p.1 ∧ i64 p.2) fun row hr => row_edge (h.2 row hr)
  refine ⟨m, All2.map_eq (f := fun p : Ed => [Sc.i .i64 p.1, Sc.i .i64 p.2]) (hm.imp fun _ _ _ k => k.1), by rw [← hm.1]; exact h.1, fun x hx => ?_⟩
  obtain ⟨_, _, k⟩ := hm.mem hx
  exact k.2
theorem net_of {v : V} (h : VTy T 24 v) : ∃ n E, v = grV n E ∧ i64 n ∧ ∀ p ∈ E, i64 p.1 ∧ i64 p.2 := by
  obtain ⟨cs, rfl, hcs⟩ := VTy.struct (t := 24) rfl rfl h
  obtain ⟨x, y, rfl, hx, hy⟩ := All2.two hcs
  obtain ⟨z, rfl, hz⟩ := CTy.sc (t := 3) rfl hx
  obtain ⟨n, rfl, hw⟩ := ScTy.int (t := 3) rfl rfl hz
  obtain ⟨rows, rfl, hr⟩ := CTy.flat (t := 22) (e := 59) rfl rfl hy
  obtain ⟨E, rfl, _, hE⟩ := edges_of hr
  exact ⟨n, E, rfl, i64_wf hw, hE⟩
end Go.Sh

set_option linter.unusedVariables false
namespace Go.Sh
open Go.Proofs
theorem own : ownKnob Try.prog.godebug = none := by kernel_rfl
theorem laidOut : laidOutB Try.prog = true := by kernel_rfl
set_option maxRecDepth 100000 in
/-- A law whose function answers true, whatever comes. -/
theorem law_row {s : ChangeSpec} {f : FuncId} {fn : Func} {conds : List PathCond} {apart fresh handsOn : Bool} {ts : List TypeId} {F : List V → Option (V × List V)} (hf : Try.prog.funcs[f]? = some fn) (hin : Try.prog.inits.idxOf? f = none) (hv : s.vars = [])
    (hts : fn.params.toList = ts) (ha : ts.all (argB T) = true) (hr : ts.all (fun t => Try.prog.readableRec t && Nat.blt t Try.prog.types.size) = true) (hres : fn.resultTypes = #[4])
    (hsp : ∀ (H : Type) (ds : List (DataW H)), ds.length = ts.length → (s.fn H ds).results = [.lit (.bool true)] ∧ (s.fn H ds).args = ds ∧ (s.fn H ds).vars = [])
    (hS : SoundP Try.prog f F) (hF : LawV T ts F) (os : Os) (started : os.Started) (H : Type) (enc : TypeId × Value → H) (a : Assume)
    (hw : ∃ (w : World) (tape : Tape) (i : Input), w.os = os ∧ (w.forCall tape i).Shaped Try.checked.prog ∧ i.vars = [] ∧ Input.okWide Try.checked.prog (w.forCall tape i) .any w.heap.size f i ∧
      s.pre6 enc Try.checked.prog fn conds apart (w.forCall tape i).memory i.args ∧ a.holds Try.checked.prog (lone (Frame.enter Try.checked.prog f i.args .normal) [] (w.forCall tape i))) :
    ReturnsInHanded a Try.checked os f .any (s.pre6 enc Try.checked.prog fn conds apart) (s.post enc Try.checked.prog fn apart fresh handsOn false) := by
  refine returnsInHanded_of_change (C := Try.checked) own started hin hf hw ?_
  intro W base args ds gs before hval hW _ _
  refine law_contract (P := Try.prog) (conds := conds) hT laidOut hv hts ha (fun t ht => ?_) hres Try.underlying4 (hsp H) hS hF hval hW
  have := List.all_eq_true.1 hr t ht
  simp only [Bool.and_eq_true] at this
  exact ⟨this.1, Nat.le_of_ble_eq_true this.2⟩
end Go.Sh

set_option linter.unusedVariables false
namespace Go.Sh
open Go.Proofs
/-! ### more of what is handed in, as data -/
theorem ScTy.bool {T : Tab} {t : Nat} {ti : TI} {x : Sc} (ht : lk T t = some ti) (hk : ti.kind = .bool) (h : ScTy T t x) : ∃ b, x = .b b := by
  unfold ScTy at h
  rw [ht] at h
  simp only at h
  rw [hk] at h
  cases x with
  | i k' n => exact h.elim
  | b b => exact ⟨b, rfl⟩
theorem All2.four {α β : Type} {R : α → β → Prop} {a b c d : α} {m : List β} (h : All2 R [a, b, c, d] m) : ∃ x y z t, m = [x, y, z, t] ∧ R a x ∧ R b y ∧ R c z ∧ R d t := by
  obtain ⟨h1, h2⟩ := h
  match m, h1, h2 with
  | [x, y, z, t], _, h2 => exact ⟨x, y, z, t, rfl, h2 0 a x rfl rfl, h2 1 b y rfl rfl, h2 2 c z rfl rfl, h2 3 d t rfl rfl⟩
theorem row_stp {row : Row} (h : RowTy T 86 row) : ∃ p : Stp, row = [.i .i64 p.1, .i .i64 p.2.1, .i .i64 p.2.2.1, .b p.2.2.2] := by
  obtain ⟨_, h⟩ := h
  obtain ⟨x, y, z, t, rfl, hx, hy, hz, ht⟩ := All2.four h
  obtain ⟨n, rfl, hn⟩ := ScTy.int (t := 3) rfl rfl hx
  obtain ⟨m, rfl, hm⟩ := ScTy.int (t := 3) rfl rfl hy
  obtain ⟨k, rfl, hk⟩ := ScTy.int (t := 3) rfl rfl hz
  obtain ⟨b, rfl⟩ := ScTy.bool (t := 4) rfl rfl ht
  exact ⟨(n, m, k, b), rfl⟩
theorem steps_of {v : V} (h : VTy T 25 v) : ∃ l : List Stp, v = .one (.flat false 4 (stps l)) ∧ l.length ≤ maxLen := by
  obtain ⟨c, rfl, hc⟩ := VTy.cell (ti := { kind := .slice 86, size := _, bytes := _, zero := _, eqs := _, cells := _ }) rfl (fun fs => by simp) h
  obtain ⟨rows, rfl, hr⟩ := CTy.flat (t := 25) (e := 86) rfl rfl hc
  obtain ⟨m, hm⟩ := list_ex (P := fun row (p : Stp) => row = [Sc.i .i64 p.1, Sc.i .i64 p.2.1, Sc.i .i64 p.2.2.1, Sc.b p.2.2.2]) fun row hq => row_stp (hr.2 row hq)
  have e := All2.map_eq (f := fun p : Stp => [Sc.i .i64 p.1, Sc.i .i64 p.2.1, Sc.i .i64 p.2.2.1, Sc.b p.2.2.2]) hm
  exact ⟨m, by rw [e]; rfl, by rw [← hm.1]; exact hr.1⟩
end Go.Sh

set_option linter.unusedVariables false
set_option linter.unusedSimpArgs false
namespace Go.Sh
open Go.Proofs
/-! ### slices.Index, slices.Contains -/
/-! ### bags.rising -/
end Go.Sh

set_option linter.unusedVariables false
set_option linter.unusedSimpArgs false
namespace Go.Sh
open Go.Proofs
/-! ### bags: what they are -/
end Go.Sh

set_option linter.unusedVariables false
namespace Go.Sh
open Go.Proofs
/-! ### more of what is handed in, as data: bags -/
end Go.Sh

set_option linter.unusedVariables false
namespace Go.Sh
open Go.Proofs
/-! ### two numbers in an array -/
theorem two_of {v : V} (h : VTy T 26 v) : ∃ a b : Int, v = .agg [.s (.i .i64 a), .s (.i .i64 b)] ∧ i64 a ∧ i64 b := by
  obtain ⟨cs, rfl, hl, hc⟩ := VTy.array (t := 26) (n := 2) (e := 3) rfl rfl h
  match cs, hl, hc with
  | [x, y], _, hc =>
    obtain ⟨p, rfl, hp⟩ := CTy.sc (t := 3) rfl (hc x (by simp))
    obtain ⟨a, rfl, ha⟩ := ScTy.int (t := 3) rfl rfl hp
    obtain ⟨q, rfl, hq⟩ := CTy.sc (t := 3) rfl (hc y (by simp))
    obtain ⟨b, rfl, hb⟩ := ScTy.int (t := 3) rfl rfl hq
    exact ⟨a, b, rfl, i64_wf ha, i64_wf hb⟩
end Go.Sh
