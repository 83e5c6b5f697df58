/- What the functions answer that the statement reaches. No condition. -/
import Derived.Test.YtlffbpdecjjpfaaFn2
import Derived.Test.YtlffbpdecjjpfaaRows
set_option linter.unusedVariables false
set_option linter.unusedSimpArgs false
namespace Go.Sh
open Go.Proofs
/-! ### carcanetref11.Edge, carcanetref11.Lift -/
theorem find_exp {n : Int} {E : List Ed} {l : List Stp} (h : (replO n E l).2 = true) (hl : l.length ≤ 1000) : ((allP E (addsL l)).length ≤ 100000 ∧ ∀ p ∈ allP E (addsL l), p ≠ [] ∧ p.length ≤ 100000) ∧ ∀ a b, findL (allP E (addsL l)) a b = (expF n E l a b).getD [] := by
  obtain ⟨hR, hruns⟩ := runs_zero h
  obtain ⟨_, N, G, _, hX⟩ := runs_end h
  have h2 := (runs_find (Nat.le_refl _) (runs_all hruns l.length (Nat.le_refl _)) hl hR.2.2.1).1
  rw [List.take_length] at h2
  refine ⟨h2, fun a b => ?_⟩
  rw [find_all (fun p hp => (hX.ends p hp).2.1) hX.val hX.exc]
  unfold expF
  by_cases hc : adjE E a b ∨ inKeys (addsL l) a b
  · rw [if_pos hc, if_pos ⟨h, hc⟩]; rfl
  · rw [if_neg hc, if_neg (fun k => hc k.2)]; rfl
set_option maxHeartbeats 4000000 in
theorem Lift11_ok : SoundC Try.prog T 23 LiftC := by
  refine sound_con (X := { Γ := [(46, PathsC), (47, FindC)], T := T, nt := 85 }) cr_none hmix hT (sound_cons Paths_ok (sound_cons Find_ok sound_nil)) Try.func23 (by rfl) (by rfl) (by rfl) (by rfl) 6 ?_
  rintro ⟨⟨⟨n, E⟩, L⟩, k, Ts, S⟩ ⟨hL, hTs, hS, hnum⟩
  dsimp only at hL hTs hS hnum ⊢
  refine ⟨⟨Nat.le_of_ble_eq_true rfl, Nat.le_of_ble_eq_true rfl⟩, ?_⟩
  refine Call.by _ _ (PathsC_at hL) ?_
  by_cases h1 : (replO n E L).2 = true
  rotate_left
  · have hv : pathsO n E L = ([], false) := if_neg h1
    have hv2 : liftV n E L k Ts S = .tup [sbV true 0 [] [], .one (.s (.b false))] := by
      unfold liftV
      rw [show liftO n E L S = none from if_neg h1]
    rw [hv, hv2]
    refine ⟨rfl, ?_⟩
    (repeat' first | exact rfl | exact trivial | refine And.intro ?_ ?_)
  have hv : pathsO n E L = (allP E (addsL L), true) := if_pos h1
  have hlo : liftO n E L S = liftN (expF n E L) S S.length := if_pos h1
  obtain ⟨hf1, hf2⟩ := find_exp h1 hL
  rw [hv]
  generalize allP E (addsL L) = all at hf1 hf2
  refine Pick.T (decide_eq_true (by simp only [List.length_nil]; show 0 + (cut none (ints Ts)).length ≤ _; rw [show (cut none (ints Ts)).length = Ts.length from ints_length _]; omega)) ?_
  refine Seg.by (by kernel_rfl) ?_
  obtain ⟨hS1, hS2⟩ := hS
  refine LoopP.intro (α := Nat × List (List Int)) (fun a => a.1 ≤ S.length ∧ liftN (expF n E L) S a.1 = some a.2) (fun a => S.length - a.1) (fun a => [(5, .ptr 0 0), (6, .ptr 3 0), (8, .sl 4 none none), (10, .ptr 5 0), (11, .s (.i .i64 a.1))])
    (fun a => [(0, some (.blk [.s (.i .i64 k), .sl 1 none none, .sl 2 none none])), (1, some (.flat false 1 (ints Ts))), (2, some (.nest false 1 (rowsI S) [] [])), (3, some (.blk [.s (.i .i64 0), .nils, .nils])), (4, some (.nest true 1 (rowsI all) [] [])), (5, some (.blk [.s (.i .i64 k), .sl 6 none none, .sl 7 none none])), (6, some (.flat true 1 (ints Ts))), (7, some (.nest true 1 (rowsI a.2) [] []))]) 8 (0, []) ⟨by omega, rfl⟩ (by refine Weak.by [(0, some _), (1, some _), (2, some _), (3, some _), (4, some _), (5, some _), (6, some _), (7, none)] (by ((repeat' first | exact rfl | exact trivial | refine And.intro ?_ ?_) <;> (repeat' first | exact rfl | exact trivial | refine And.intro ?_ ?_))) (by ((repeat' first | exact rfl | exact trivial | refine And.intro ?_ ?_) <;> (repeat' first | exact rfl | exact trivial | refine And.intro ?_ ?_))) (by rfl)) ?_
  rintro ⟨i, K⟩ ⟨hi, hK⟩
  dsimp only at hi hK ⊢
  have hKl := liftN_len hK
  refine Pick.by (fun hc => ?_) (fun hc => ?_)
  rotate_left
  · have hil : i = S.length := by have := of_decide_eq_false hc; rw [rowsI_length] at this; omega
    have hv : liftV n E L k Ts S = .tup [sbV true k Ts K, .one (.s (.b true))] := by
      unfold liftV
      rw [hlo, ← hil, hK]
    rw [hv]
    refine ⟨rfl, ?_⟩
    (repeat' first | exact rfl | exact trivial | refine And.intro ?_ ?_)
  have hlt : i < S.length := by have := of_decide_eq_true hc; rw [rowsI_length] at this; omega
  obtain ⟨p, hpe⟩ : ∃ p, S[i] = p := ⟨_, rfl⟩
  have hpl := hS2 _ (List.getElem_mem hlt)
  rw [hpe] at hpl
  have hpg : (rowsI S)[i]? = some (ints p) := rowsI_get (by rw [List.getElem?_eq_getElem hlt, hpe])
  refine Idx.by i rfl (by rw [rowsI_length]; exact hlt) ?_
  refine Pick.T (by simpa [rowsI_length] using hlt) ?_
  refine LoopP.intro (α := Nat × List Int) (fun a => a.1 ≤ p.length ∧ ((a.1 = 0 ∧ a.2 = []) ∨ (1 ≤ a.1 ∧ liftA (expF n E L) p (a.1 - 1) = some a.2))) (fun a => p.length - a.1) (fun a => [(5, .ptr 0 0), (6, .ptr 3 0), (8, .sl 4 none none), (10, .ptr 5 0), (11, .s (.i .i64 i)), (12, .sl 2 (some (i, 0)) none), (13, .sl 8 none none), (14, .s (.i .i64 a.1))])
    (fun a => [(0, some (.blk [.s (.i .i64 k), .sl 1 none none, .sl 2 none none])), (1, some (.flat false 1 (ints Ts))), (2, some (.nest false 1 (rowsI S) [] [])), (3, some (.blk [.s (.i .i64 0), .nils, .nils])), (4, some (.nest true 1 (rowsI all) [] [])), (5, some (.blk [.s (.i .i64 k), .sl 6 none none, .sl 7 none none])), (6, some (.flat true 1 (ints Ts))), (7, some (.nest true 1 (rowsI K) [] [])), (8, some (.flat true 1 (ints a.2)))]) 9 (0, []) ⟨by omega, .inl ⟨rfl, rfl⟩⟩ (by refine Weak.by [(0, some _), (1, some _), (2, some _), (3, some _), (4, some _), (5, some _), (6, some _), (7, some _), (8, some _)] (by ((repeat' first | exact rfl | exact trivial | refine And.intro ?_ ?_) <;> (repeat' first | exact rfl | exact trivial | refine And.intro ?_ ?_)); all_goals (first | rfl | (simp; done))) (by ((repeat' first | exact rfl | exact trivial | refine And.intro ?_ ?_) <;> (repeat' first | exact rfl | exact trivial | refine And.intro ?_ ?_)); all_goals (first | rfl | (simp; done))) (by rfl)) ?_
  rintro ⟨j, q⟩ ⟨hj, hq⟩
  dsimp only at hj hq ⊢
  refine Look.by _ hpg ?_
  refine Pick.by (fun hc2 => ?_) (fun hc2 => ?_)
  rotate_left
  · have hje : j = p.length := by have := of_decide_eq_false hc2; rw [ints_length] at this; omega
    have hlf : liftF (expF n E L) S[i] = some q := by
      rw [hpe]
      unfold liftF
      rcases hq with ⟨h0, rfl⟩ | ⟨_, hq⟩
      · have : p = [] := List.eq_nil_of_length_eq_zero (by omega)
        rw [this]; rfl
      · rw [← hje]; exact hq
    have hst := liftN_go hlt hK hlf
    refine Pick.T (decide_eq_true (by rw [rowsI_length, hKl]; simp only [List.length_cons, List.length_nil]; omega)) ?_
    refine Pick.T (inI64_of (by omega) (by omega)) ?_
    refine Next.by (i + 1, K ++ [q]) ⟨by dsimp only; omega, hst⟩ (by dsimp only; omega) (by refine Weak.by [(0, some _), (1, some _), (2, some _), (3, some _), (4, some _), (5, some _), (6, some _), (7, some _)] (by ((repeat' first | exact rfl | exact trivial | refine And.intro ?_ ?_) <;> (repeat' first | exact rfl | exact trivial | refine And.intro ?_ ?_)); all_goals ((first | (rw [rowsI_snoc]; done) | (rw [rowsI_snoc]; rfl) | (simp; done)))) (by ((repeat' first | exact rfl | exact trivial | refine And.intro ?_ ?_) <;> (repeat' first | exact rfl | exact trivial | refine And.intro ?_ ?_)); all_goals ((first | (rw [rowsI_snoc]; done) | (rw [rowsI_snoc]; rfl) | (simp; done)))) (by rfl))
  have hjl : j < p.length := by have := of_decide_eq_true hc2; rw [ints_length] at this; omega
  have g1 : p[j]? = some (p.getD j 0) := by rw [List.getD_eq_getElem?_getD, List.getElem?_eq_getElem (by omega)]; rfl
  refine Pick.by (fun hc3 => ?_) (fun hc3 => ?_)
  · have hj0 : j = 0 := by have hc3 : ((j : Int) == 0) = true := hc3; simpa using hc3
    subst hj0
    rcases hq with ⟨_, rfl⟩ | ⟨h, _⟩
    rotate_left
    · omega
    refine Look.by _ hpg ?_
    refine Idx.by 0 rfl (by rw [ints_length]; omega) ?_
    refine Look.by _ hpg ?_
    refine Look.by _ (ints_get g1) ?_
    refine Pick.T (inI64_of (by omega) (by omega)) ?_
    have ht1 : p.take 1 = [p.getD 0 0] := by
      cases p with
      | nil => simp at hjl
      | cons x p => rfl
    refine Next.by (1, [p.getD 0 0]) ⟨by dsimp only; omega, .inr ⟨Nat.le_refl _, by show some (p.take 1) = _; rw [ht1]⟩⟩ (by dsimp only; omega) (by refine Weak.by [(0, some _), (1, some _), (2, some _), (3, some _), (4, some _), (5, some _), (6, some _), (7, some _), (8, some _)] (by ((repeat' first | exact rfl | exact trivial | refine And.intro ?_ ?_) <;> (repeat' first | exact rfl | exact trivial | refine And.intro ?_ ?_)); all_goals (first | rfl | (simp; done))) (by ((repeat' first | exact rfl | exact trivial | refine And.intro ?_ ?_) <;> (repeat' first | exact rfl | exact trivial | refine And.intro ?_ ?_)); all_goals (first | rfl | (simp; done))) (by rfl))
  have hj1 : 1 ≤ j := by have hc3 : ((j : Int) == 0) = false := hc3; simp at hc3; omega
  rcases hq with ⟨h, _⟩ | ⟨_, hq⟩
  · omega
  have hql := liftA_len (c := 1002) (fun x y m h => (expF_len hL h).1) hq
  have hql2 : (j - 1) * 1002 ≤ 5000 * 1002 := Nat.mul_le_mul_right _ (by omega)
  have g0 : p[j - 1]? = some (p.getD (j - 1) 0) := by rw [List.getD_eq_getElem?_getD, List.getElem?_eq_getElem (by omega)]; rfl
  have hjj : j - 1 + 1 = j := by omega
  obtain ⟨a, hae⟩ : ∃ a, p.getD (j - 1) 0 = a := ⟨_, rfl⟩
  obtain ⟨b, hbe⟩ : ∃ b, p.getD j 0 = b := ⟨_, rfl⟩
  have hno : expF n E L a b = none → liftV n E L k Ts S = .tup [sbV true 0 [] [], .one (.s (.b false))] := fun h => by
    rw [← hae, ← hbe] at h
    have := liftN_no (f := expF n E L) hlt (by rw [hpe]; exact liftF_no (j := j - 1) (by omega) (by rw [hjj]; exact h))
    unfold liftV
    rw [hlo, this]
  have hyes : ∀ m, expF n E L a b = some m → liftA (expF n E L) p (j + 1 - 1) = some (q ++ m.tail) := fun m h => by
    rw [← hae, ← hbe] at h
    rw [show j + 1 - 1 = j - 1 + 1 by omega]
    exact liftA_go hq (by rw [hjj]; exact h)
  rw [hae] at g0
  rw [hbe] at g1
  clear hae hbe
  refine Pick.T (inI64_of (by omega) (by omega)) ?_
  refine Look.by _ hpg ?_
  refine Idx.by (j - 1) (by omega) (by rw [ints_length]; omega) ?_
  refine Look.by _ hpg ?_
  refine Look.by _ (ints_get g0) ?_
  refine Look.by _ hpg ?_
  refine Idx.by j rfl (by rw [ints_length]; omega) ?_
  refine Look.by _ hpg ?_
  refine Look.by _ (ints_get g1) ?_
  refine Call.by _ _ (FindC_at hf1) ?_
  rw [hf2]
  refine Seg.by (by kernel_rfl) ?_
  obtain h2 | ⟨m, h2⟩ : expF n E L a b = none ∨ ∃ m, expF n E L a b = some m := by cases expF n E L a b <;> simp
  · rw [h2]
    have hv := hno h2
    rw [hv]
    dsimp only
    refine ⟨rfl, ?_⟩
    (repeat' first | exact rfl | exact trivial | refine And.intro ?_ ?_)
  · have hml := expF_len hL h2
    have hm0 : m ≠ [] := fun e => by rw [e] at hml; simp at hml
    rw [h2]
    refine Pick.F (by show (((ints m).length : Int) == 0) = false; rw [ints_length]; simpa using hm0) ?_
    refine Rng.by 1 m.length rfl (by show ((ints m).length : Int) = _; rw [ints_length]) (by omega) (by show m.length ≤ (ints m).length; rw [ints_length]; omega) ?_
    refine Pick.T (decide_eq_true (by show (ints q).length + (cut (subOf none 0 1 m.length) (ints m)).length ≤ _; rw [tail_cut, ints_length, ints_length, List.length_tail]; omega)) ?_
    refine Pick.T (inI64_of (by omega) (by omega)) ?_
    refine Next.by (j + 1, q ++ m.tail) ⟨by dsimp only; omega, .inr ⟨by dsimp only; omega, hyes m h2⟩⟩ (by dsimp only; omega) (by refine Weak.by [(0, some _), (1, some _), (2, some _), (3, some _), (4, some _), (5, some _), (6, some _), (7, some _), (8, some _)] (by ((repeat' first | exact rfl | exact trivial | refine And.intro ?_ ?_) <;> (repeat' first | exact rfl | exact trivial | refine And.intro ?_ ?_)); all_goals (first | (rw [ints_append, ← tail_cut]; rfl) | (simp; done))) (by ((repeat' first | exact rfl | exact trivial | refine And.intro ?_ ?_) <;> (repeat' first | exact rfl | exact trivial | refine And.intro ?_ ?_)); all_goals (first | (rw [ints_append, ← tail_cut]; rfl) | (simp; done))) (by rfl))
end Go.Sh

set_option linter.unusedVariables false
set_option linter.unusedSimpArgs false
namespace Go.Sh
open Go.Proofs
/-! ### carcanetlaw11.small, ours -/
set_option maxHeartbeats 1000000 in
theorem Small11_ok : SoundC Try.prog T 21 Small9C := by
  refine sound_con (X := { Γ := [], T := T, nt := 49 }) cr_none hmix hT sound_nil Try.func21 (by rfl) (by rfl) (by rfl) (by rfl) 3 ?_
  rintro ⟨kd, Ts, l⟩ -
  dsimp only
  refine ⟨⟨Nat.le_of_ble_eq_true rfl, Nat.le_of_ble_eq_true rfl⟩, ?_⟩
  have hcutT : cut (subOf none 0 0 (min Ts.length 6)) (ints Ts) = ints (Ts.take 6) := by
    simp only [subOf, cut, List.drop_zero, Nat.sub_zero, ints, List.map_take]
    rw [List.take_eq_take_iff]; simp; omega
  refine Rng.by 0 (min Ts.length 6) rfl ?_ (by omega) ?_ ?_
  · rw [ints_length]
    show (if (6 : Int) < (Ts.length : Int) then (6 : Int) else (Ts.length : Int)) = _
    split <;> omega
  · rw [ints_length]; omega
  refine Pick.T (by rw [hcutT]; simp [ints_length]; omega) ?_
  refine Seg.by (by kernel_rfl) ?_
  refine LoopP.intro (α := Nat) (fun k => k ≤ l.length ∧ k ≤ 8) (fun k => l.length - k) (fun k => [(1, .ptr 0 0), (2, .ptr 3 0), (3, .ptr 4 0), (4, .s (.i .i64 k))])
    (fun k => [(0, some (.blk [.s (.i .i64 kd), .sl 1 none none, .sl 2 none none])), (1, some (.flat false 1 (ints Ts))), (2, some (.nest false 1 (rowsI l) [] [])), (3, some (.blk [.s (.i .i64 0), .nils, .nils])), (4, some (.blk [.s (.i .i64 kd), .sl 5 none none, .sl 6 none none])), (5, some (.flat true 1 (ints (Ts.take 6)))), (6, some (.nest true 1 (rowsI ((l.take k).map fun x => x.take 20)) [] []))]) 7 0 (by simp) (by refine Weak.by [(0, some _), (1, some _), (2, some _), (3, some _), (4, some _), (5, some _), (6, none)] (by ((repeat' first | exact rfl | exact trivial | refine And.intro ?_ ?_) <;> (repeat' first | exact rfl | exact trivial | refine And.intro ?_ ?_)); all_goals ((first | (rw [← hcutT]; rfl) | (simp [rowsI]; done)))) (by ((repeat' first | exact rfl | exact trivial | refine And.intro ?_ ?_) <;> (repeat' first | exact rfl | exact trivial | refine And.intro ?_ ?_)); all_goals ((first | (rw [← hcutT]; rfl) | (simp [rowsI]; done)))) (by rfl)) ?_
  rintro k ⟨hk, hk6⟩
  have endd : k = l.length ∨ k = 8 → rowsI (cutP l) = rowsI ((l.take k).map fun x => x.take 20) := fun h => by
    unfold cutP
    rcases h with h | h
    · rw [List.take_of_length_le (by omega : l.length ≤ k), List.take_of_length_le (by omega : l.length ≤ 8)]
    · rw [h]
  refine Pick.by (fun hc => ?_) (fun hc => ?_)
  · have hlt : k < l.length := by simpa [rowsI_length] using hc
    refine Pick.by (fun h6 => ?_) (fun h6 => ?_)
    · have h6 : k < 8 := by simp at h6; omega
      have hstep : rowsI ((l.take (k + 1)).map fun x => x.take 20) = rowsI ((l.take k).map fun x => x.take 20) ++ [ints (l[k].take 20)] := by
        rw [← rowsI_snoc, take_snoc _ hlt]
      have hroom : (rowsI ((l.take k).map fun x => x.take 20)).length = k := by rw [rowsI_length]; simp; omega
      refine Idx.by k rfl ?_ ?_
      · rw [rowsI_length]; exact hlt
      refine Pick.T (by simpa [rowsI_length] using hlt) ?_
      refine Idx.by k rfl ?_ ?_
      · rw [rowsI_length]; exact hlt
      refine Pick.T (by simpa [rowsI_length] using hlt) ?_
      refine Look.by _ (rowsI_get (List.getElem?_eq_getElem hlt)) ?_
      refine Look.by _ (rowsI_get (List.getElem?_eq_getElem hlt)) ?_
      refine Rng.by 0 (min l[k].length 20) rfl ?_ (by omega) ?_ ?_
      · rw [ints_length]
        show (if (20 : Int) < (l[k].length : Int) then (20 : Int) else (l[k].length : Int)) = _
        split <;> omega
      · rw [ints_length]; omega
      have hcut : cut (subOf none 0 0 (min l[k].length 20)) (ints l[k]) = ints (l[k].take 20) := by
        simp only [subOf, cut, List.drop_zero, Nat.sub_zero, ints, List.map_take]
        rw [List.take_eq_take_iff]; simp; omega
      refine Look.by _ (rowsI_get (List.getElem?_eq_getElem hlt)) ?_
      refine Pick.T (by rw [hcut]; simp [ints_length, cut]; omega) ?_
      refine Pick.T (by rw [hroom]; simp; omega) ?_
      refine Seg.by (by kernel_rfl) ?_
      refine Pick.T (inI64_of (by omega) (by omega)) ?_
      refine Next.by (k + 1) ⟨by omega, by omega⟩ (by omega) (by refine Weak.by [(0, some _), (1, some _), (2, some _), (3, some _), (4, some _), (5, some _), (6, some _)] (by ((repeat' first | exact rfl | exact trivial | refine And.intro ?_ ?_) <;> (repeat' first | exact rfl | exact trivial | refine And.intro ?_ ?_)); all_goals (rw [hstep, ← hcut]; rfl)) (by ((repeat' first | exact rfl | exact trivial | refine And.intro ?_ ?_) <;> (repeat' first | exact rfl | exact trivial | refine And.intro ?_ ?_)); all_goals (rw [hstep, ← hcut]; rfl)) (by rfl))
    · have h6 : ¬ k < 8 := by simp at h6; omega
      exact ⟨rfl, rfl, ⟨rfl, rfl⟩, ⟨rfl, endd (.inr (by omega))⟩, trivial⟩
  · have hge : l.length ≤ k := by simpa [rowsI_length] using hc
    exact ⟨rfl, rfl, ⟨rfl, rfl⟩, ⟨rfl, endd (.inl (by omega))⟩, trivial⟩
noncomputable def Ours11C : Con := conP 1 (fun _ : List Stp => True) (fun l => [.one (.flat false 4 (stps l))]) (fun l => .one (.flat true 4 (stps (l.take 60))))
theorem Ours11C_at (l : List Stp) : Ours11C.F [.one (.flat false 4 (stps l))] = some (.one (.flat true 4 (stps (l.take 60))), []) :=
  conP_at (a := l) (fun x y _ _ h => by simp at h; rw [stps_inj h]) trivial
theorem Ours11_ok : SoundC Try.prog T 18 Ours11C := by
  refine sound_con (X := { Γ := [], T := T, nt := 23 }) cr_none hmix hT sound_nil Try.func18 (by rfl) (by rfl) (by rfl) (by rfl) 1 ?_
  rintro l -
  refine ⟨⟨Nat.le_of_ble_eq_true rfl, Nat.le_of_ble_eq_true rfl⟩, ?_⟩
  refine LoopP.intro (α := Nat) (fun k => k ≤ l.length ∧ k ≤ 60) (fun k => 60 - k) (fun k => [(0, .sl 0 none none), (3, .sl 1 none none), (4, .s (.i .i64 k))]) (fun k => [(0, some (.flat false 4 (stps l))), (1, some (.flat true 4 (stps (l.take k))))]) 2 0 ⟨by omega, by omega⟩ (by refine Weak.by [(0, some _), (1, none)] (by ((repeat' first | exact rfl | exact trivial | refine And.intro ?_ ?_) <;> (repeat' first | exact rfl | exact trivial | refine And.intro ?_ ?_))) (by ((repeat' first | exact rfl | exact trivial | refine And.intro ?_ ?_) <;> (repeat' first | exact rfl | exact trivial | refine And.intro ?_ ?_))) (by rfl)) ?_
  rintro k ⟨hk, hk2⟩
  have hrow : ∀ x : Stp, l[k]? = some x → (stps l)[k]? = some [.i .i64 x.1, .i .i64 x.2.1, .i .i64 x.2.2.1, .b x.2.2.2] := fun x hs => by unfold stps; rw [List.getElem?_map, hs]; rfl
  have htl : (l.take k).length = k := by rw [List.length_take]; omega
  refine Pick.by (fun hc => ?_) (fun hc => ?_)
  · have hlt : k < l.length := by rw [stps_length] at hc; simpa using hc
    refine Pick.by (fun hc2 => ?_) (fun hc2 => ?_)
    · have hlt2 : k < 60 := by simp at hc2; omega
      refine Idx.by k rfl (by rw [stps_length]; exact hlt) ?_
      refine Look.by _ (hrow _ (List.getElem?_eq_getElem hlt)) ?_
      refine Pick.T (by simp [cut, stps_length]; omega) ?_
      refine Pick.T (inI64_of (by omega) (by omega)) ?_
      refine Next.by (k + 1) ⟨by omega, by omega⟩ (by omega) (by refine Weak.by [(0, some _), (1, some _)] (by ((repeat' first | exact rfl | exact trivial | refine And.intro ?_ ?_) <;> (repeat' first | exact rfl | exact trivial | refine And.intro ?_ ?_)); all_goals ((rw [List.take_succ_eq_append_getElem hlt, stps_snoc]; rfl))) (by ((repeat' first | exact rfl | exact trivial | refine And.intro ?_ ?_) <;> (repeat' first | exact rfl | exact trivial | refine And.intro ?_ ?_)); all_goals ((rw [List.take_succ_eq_append_getElem hlt, stps_snoc]; rfl))) (by rfl))
    · have hge : k = 60 := by simp at hc2; omega
      exact ⟨rfl, by (repeat' first | exact rfl | exact trivial | refine And.intro ?_ ?_); all_goals (rw [hge]; rfl)⟩
  · have hge : k = l.length := by rw [stps_length] at hc; simp at hc; omega
    have e : stps (l.take 60) = stps (l.take k) := by rw [List.take_of_length_le (by omega), List.take_of_length_le (by omega)]
    exact ⟨rfl, by (repeat' first | exact rfl | exact trivial | refine And.intro ?_ ?_); all_goals exact e⟩
/-! ### carcanetref09.Same -/
def sbOk (a : Sb) : Prop := a.2.1.length ≤ 1000000 ∧ Go.Sh.small a.2.2
noncomputable def Same9C : Con := conP 2 (fun a : Sb × Sb => sbOk a.1 ∧ sbOk a.2) (fun a => [sbV false a.1.1 a.1.2.1 a.1.2.2, sbV false a.2.1 a.2.2.1 a.2.2.2]) (fun a => .one (.s (.b (decide (a.1 = a.2)))))
theorem Same9C_at {a b : Sb} (h : sbOk a ∧ sbOk b) : Same9C.F [sbV false a.1 a.2.1 a.2.2, sbV false b.1 b.2.1 b.2.2] = some (.one (.s (.b (decide (a = b)))), []) :=
  conP_at (a := (a, b)) (fun x y _ _ h => by
    obtain ⟨⟨k, Ts, L⟩, ⟨k2, Ts2, L2⟩⟩ := x
    obtain ⟨⟨k', Ts', L'⟩, ⟨k2', Ts2', L2'⟩⟩ := y
    simp at h
    obtain ⟨rfl, rfl, rfl⟩ := sbV_inj h.1
    obtain ⟨rfl, rfl, rfl⟩ := sbV_inj h.2
    rfl) h
theorem Same9_ok : SoundC Try.prog T 24 Same9C := by
  refine sound_con (X := { Γ := [(20, SameC), (49, SameRowsC)], T := T, nt := 24 }) cr_none hmix hT (sound_cons Same_ok (sound_cons SameRows_ok sound_nil)) Try.func24 (by rfl) (by rfl) (by rfl) (by rfl) 6 ?_
  rintro ⟨⟨k, Ts, L⟩, ⟨k', Ts', L'⟩⟩ ⟨⟨h1, h2⟩, ⟨h3, h4⟩⟩
  dsimp only at h1 h2 h3 h4 ⊢
  refine ⟨⟨Nat.le_of_ble_eq_true rfl, Nat.le_of_ble_eq_true rfl⟩, ?_⟩
  have hv : decide ((k, Ts, L) = (k', Ts', L')) = (decide (k = k') && (decide (Ts = Ts') && decide (L = L'))) := by
    rw [Bool.eq_iff_iff]; simp
  refine Pick.by (fun h => ?_) (fun h => ?_)
  · have h : k = k' := by simpa using h
    refine Call.by _ _ (SameC_at Ts Ts' (by omega) (by omega)) ?_
    refine Pick.by (fun h5 => ?_) (fun h5 => ?_)
    · have h5 : decide (Ts = Ts') = true := h5
      refine Call.by _ _ (SameRowsC_at h2 h4) ?_
      refine ⟨rfl, ?_⟩
      show Sc.b (decide (L = L')) = Sc.b (decide ((k, Ts, L) = (k', Ts', L')))
      rw [hv, h5, decide_eq_true h]; rfl
    · have h5 : decide (Ts = Ts') = false := h5
      refine ⟨rfl, ?_⟩
      show Sc.b false = Sc.b (decide ((k, Ts, L) = (k', Ts', L')))
      rw [hv, h5, Bool.false_and, Bool.and_false]
  · have h : ¬ k = k' := by simpa using h
    refine ⟨rfl, ?_⟩
    show Sc.b false = Sc.b (decide ((k, Ts, L) = (k', Ts', L')))
    rw [hv, decide_eq_false h, Bool.false_and]
/-! ### carcanetlaw11.shown -/
def E11 : List Ed := [(0, 1), (0, 3), (1, 2), (2, 3)]
def l11 : List Stp := [(0, 1, 3, true)]
theorem right11 : RightP 4 E11 := by unfold RightP E11 okE; decide
theorem repl11 : (replO 4 E11 l11).2 = true := by unfold replO; rw [if_pos right11]; decide
theorem exp_a : expF 4 E11 l11 3 1 = some [3, 0, 1] := (if_pos ⟨repl11, .inr (by decide)⟩ : _ = some (3 :: pth (addsL l11) 3 1 ++ [1])).trans (by decide)
theorem exp_b : expF 4 E11 l11 2 1 = some [2, 1] := (if_pos ⟨repl11, .inl (by unfold adjE; decide)⟩ : _ = some (2 :: pth (addsL l11) 2 1 ++ [1])).trans (by decide)
theorem exp_c : expF 4 E11 l11 1 3 = some [1, 0, 3] := (if_pos ⟨repl11, .inr (by decide)⟩ : _ = some (1 :: pth (addsL l11) 1 3 ++ [3])).trans (by decide)
theorem exp_n : expF 4 E11 [] 3 1 = none := if_neg fun h => h.2.elim (by unfold adjE; decide) (by decide)
theorem lift11 : liftV 4 E11 l11 7 [] [[2, 1, 3]] = .tup [sbV true 7 [] [[2, 1, 0, 3]], .one (.s (.b true))] := by
  have : liftO 4 E11 l11 [[2, 1, 3]] = some [[2, 1, 0, 3]] := by
    unfold liftO
    rw [if_pos repl11]
    simp [liftN, liftF, liftA, exp_b, exp_c]
  unfold liftV
  rw [this]
noncomputable def Shown11C : Con := conP 0 (fun _ : Unit => True) (fun _ => []) (fun _ => .one (.s (.b true)))
theorem Shown11C_at : Shown11C.F [] = some (.one (.s (.b true)), []) := conP_at (a := ()) (fun a b _ _ h => rfl) trivial
set_option maxHeartbeats 1000000 in
theorem Shown11_ok : SoundC Try.prog T 15 Shown11C := by
  refine sound_con (X := { Γ := [(17, EdgeC), (22, LiftC)], T := T, nt := 90 }) cr_none hmix hT (sound_cons Edge_ok (sound_cons Lift_ok sound_nil)) Try.func15 (by rfl) (by rfl) (by rfl) (by rfl) 0 ?_
  rintro ⟨⟩ -
  refine ⟨⟨Nat.le_of_ble_eq_true rfl, Nat.le_of_ble_eq_true rfl⟩, ?_⟩
  have h1 := EdgeC_at (n := 4) (E := E11) (l := l11) (a := 3) (b := 1) ⟨by decide, by unfold i64; omega, by unfold i64; omega⟩
  rw [exp_a] at h1
  refine Call.by _ _ h1 ?_
  have h2 := EdgeC_at (n := 4) (E := E11) (l := []) (a := 3) (b := 1) ⟨by decide, by unfold i64; omega, by unfold i64; omega⟩
  rw [exp_n] at h2
  refine Call.by _ _ h2 ?_
  have h3 := LiftC_at (n := 4) (E := E11) (l := l11) (k := 7) (Ts := []) (L := [[2, 1, 3]]) ⟨by decide, by decide, by unfold fewL; decide, fun p hp x hx => by
    simp only [List.mem_singleton] at hp
    subst hp
    simp only [List.mem_cons, List.not_mem_nil, or_false] at hx
    unfold i64
    omega⟩
  rw [lift11] at h3
  refine Call.by _ _ h3 ?_
  refine Idx.by 0 rfl (by decide) ?_
  refine Look.by [.i .i64 3] rfl ?_
  refine Idx.by 1 rfl (by decide) ?_
  refine Look.by [.i .i64 0] rfl ?_
  refine Idx.by 0 rfl (by decide) ?_
  refine Look.by (ints [2, 1, 0, 3]) rfl ?_
  refine Idx.by 0 rfl (by decide) ?_
  refine Look.by (ints [2, 1, 0, 3]) rfl ?_
  refine Idx.by 2 rfl (by decide) ?_
  refine Look.by (ints [2, 1, 0, 3]) rfl ?_
  refine Look.by [.i .i64 0] rfl ?_
  exact ⟨rfl, rfl⟩
end Go.Sh

set_option linter.unusedVariables false
set_option linter.unusedSimpArgs false
namespace Go.Sh
open Go.Proofs
/-! ### ExpandTells, ExpandLifts, ExpandWrong, ExpandOwn -/
theorem cut60 (l : List Stp) : cut (subOf none 0 0 (min l.length 60)) (stps l) = stps (l.take 60) := by
  simp only [subOf, cut, List.drop_zero, Nat.sub_zero, stps, List.map_take]
  rw [List.take_eq_take_iff]; simp; omega
theorem min60 (l : List Stp) : (if (60 : Int) < ((stps l).length : Int) then (60 : Int) else ((stps l).length : Int)) = ((min l.length 60 : Nat) : Int) := by
  rw [stps_length]
  split <;> omega
theorem ours_cut (l : List Stp) : Ours11C.F [.one (.flat false 4 (cut (subOf none 0 0 (min l.length 60)) (stps l)))] = some (.one (.flat true 4 (stps (l.take 60))), []) := by
  rw [cut60, Ours11C_at]; simp [List.take_take]
/-! #### what is lifted -/
theorem liftN_rows {f : Int → Int → Option (List Int)} {L : List (List Int)} {c d : Nat} (hf : ∀ x y m, f x y = some m → m.length ≤ c) (hL : ∀ p ∈ L, p.length ≤ d) : ∀ {i : Nat} {K : List (List Int)}, i ≤ L.length → liftN f L i = some K → ∀ p ∈ K, p.length ≤ 1 + d * c := by
  intro i
  induction i with
  | zero => intro K _ h; simp [liftN] at h; rw [h]; simp
  | succ i ih =>
    intro K hi h
    simp only [liftN] at h
    split at h
    · rename_i K' hK
      split at h
      · rename_i q hq
        injection h with h
        rw [← h]
        intro p hp
        rcases List.mem_append.1 hp with hp | hp
        · exact ih (by omega) hK p hp
        · simp only [List.mem_singleton] at hp
          rw [hp]
          have h1 := liftA_len hf hq
          have h2 : (L.getD i []).length ≤ d := by
            rw [List.getD_eq_getElem?_getD, List.getElem?_eq_getElem (by omega)]
            exact hL _ (List.getElem_mem _)
          have := Nat.mul_le_mul_right c (show (L.getD i []).length - 1 ≤ d by omega)
          omega
      · simp at h
    · simp at h
theorem liftV_at {n : Int} {E : List Ed} {l : List Stp} {k : Int} {Ts : List Int} {L : List (List Int)} (hl : l.length ≤ 1000) (hT : Ts.length ≤ 1000000) (hL : L.length ≤ 100) (hp : ∀ p ∈ L, p.length ≤ 900) : ∃ k' Ts' K ok, liftV n E l k Ts L = .tup [sbV true k' Ts' K, .one (.s (.b ok))] ∧ sbOk (k', Ts', K) := by
  unfold liftV
  cases h : liftO n E l L with
  | none => exact ⟨0, [], [], false, rfl, by simp, by simp, by simp⟩
  | some K =>
    refine ⟨k, Ts, K, true, rfl, hT, ?_⟩
    unfold liftO at h
    split at h
    · have h1 := liftN_len h
      have h2 := liftN_rows (c := 1002) (d := 900) (fun x y m h => (expF_len hl h).1) hp (Nat.le_refl _) h
      exact ⟨by dsimp only; omega, fun p hp => by have := h2 p hp; omega⟩
    · simp at h
theorem cutP_nums {S : List (List Int)} (h : smallNums S) : smallNums (cutP S) := by
  intro p hp x hx
  unfold cutP at hp
  obtain ⟨q, hq, rfl⟩ := List.mem_map.1 hp
  exact h q (List.mem_of_mem_take hq) x (List.mem_of_mem_take hx)
theorem cutP_rows (S : List (List Int)) : (cutP S).length ≤ 8 ∧ ∀ p ∈ cutP S, p.length ≤ 20 := by
  unfold cutP
  refine ⟨by simp; omega, fun p hp => ?_⟩
  obtain ⟨q, _, rfl⟩ := List.mem_map.1 hp
  simp; omega
noncomputable def XLiftsF := conF (fun a : (Int × List Ed) × List Stp × Sb => smallNums a.2.2.2.2) (fun a => [grV a.1.1 a.1.2, .one (.flat false 4 (stps a.2.1)), sbV false a.2.2.1 a.2.2.2.1 a.2.2.2.2]) (fun _ => .one (.s (.b true)))
set_option maxHeartbeats 1000000 in
theorem XLifts_ok : SoundP Try.prog 4 XLiftsF := by
  refine con_pure (X := { Γ := [(15, Shown11C), (16, OfC), (21, Small9C), (18, Ours11C), (22, LiftC), (23, LiftC), (24, Same9C)], T := T, nt := 49 }) cr_none hmix hT (sound_cons Shown11_ok (sound_cons Of_ok (sound_cons Small11_ok (sound_cons Ours11_ok (sound_cons Lift_ok (sound_cons Lift11_ok (sound_cons Same9_ok sound_nil))))))) Try.func4 (by rfl) (by rfl) (by rfl) 6 ?_
  rintro ⟨⟨n, E⟩, l, k, Ts, S⟩ hnum
  dsimp only at hnum ⊢
  refine ⟨⟨Nat.le_of_ble_eq_true rfl, Nat.le_of_ble_eq_true rfl⟩, ?_⟩
  refine Call.by _ _ Shown11C_at ?_
  refine Call.by _ _ (OfC_at n E (most := 20) (by omega)) ?_
  obtain ⟨m, hm⟩ : ∃ m, anyN n 20 = m := ⟨_, rfl⟩
  obtain ⟨F, hF⟩ : ∃ F, anyE n E 20 = F := ⟨_, rfl⟩
  rw [hm, hF]
  refine Rng.by 0 (min l.length 60) rfl (min60 l) (by omega) (by rw [stps_length]; omega) ?_
  refine Call.by _ _ (Small9C_at k Ts S) ?_
  refine Call.by _ _ (ours_cut l) ?_
  have hl60 : (l.take 60).length ≤ 60 := by rw [List.length_take]; omega
  have hT6 : (Ts.take 6).length ≤ 6 := by rw [List.length_take]; omega
  obtain ⟨hS1, hS2⟩ := cutP_rows S
  have hL := LiftC_at (n := m) (E := F) (l := l.take 60) (k := k) (Ts := Ts.take 6) (L := cutP S) ⟨by omega, by omega, cutP_few S, cutP_nums hnum⟩
  obtain ⟨k', Ts', K, ok, hv, hsz⟩ := liftV_at (n := m) (E := F) (l := l.take 60) (k := k) (Ts := Ts.take 6) (L := cutP S) (by omega) (by omega) (by omega) (fun p hp => by have := hS2 p hp; omega)
  rw [hv] at hL
  refine Call.by _ _ hL ?_
  refine Seg.by (by kernel_rfl) ?_
  have hL2 := hL
  rw [← cut60] at hL2
  refine Call.by _ _ hL2 ?_
  refine Pick.T (by rw [beq_self_eq_true]) ?_
  refine Call.by _ _ (Same9C_at (a := (k', Ts', K)) (b := (k', Ts', K)) ⟨hsz, hsz⟩) ?_
  refine ⟨rfl, ?_⟩
  show Sc.b (decide (_ = _)) = Sc.b true
  rw [decide_eq_true rfl]
end Go.Sh

set_option linter.unusedVariables false
set_option linter.unusedSimpArgs false
namespace Go.Sh
open Go.Proofs
/-! ### what is handed in, as data -/
theorem VTy.struct {T : Tab} {t : Nat} {ti : TI} {fs : List (Nat × Nat)} {v : V} (ht : lk T t = some ti) (hk : ti.kind = .struct fs) (h : VTy T t v) : ∃ cs, v = .agg cs ∧ All2 (fun (f : Nat × Nat) c => CTy T f.2 c) fs cs := by
  unfold VTy at h
  rw [ht] at h
  simp only at h
  rw [hk] at h
  exact h
theorem VTy.cell {T : Tab} {t : Nat} {ti : TI} {v : V} (ht : lk T t = some ti) (hk : ∀ fs, ti.kind ≠ .struct fs ∧ ∀ n e, ti.kind ≠ .array n e) (h : VTy T t v) : ∃ c, v = .one c ∧ CTy T t c := by
  unfold VTy at h
  rw [ht] at h
  simp only at h
  cases hq : ti.kind with
  | struct fs => exact absurd hq (hk fs).1
  | array n e => exact absurd hq ((hk []).2 n e)
  | _ => rw [hq] at h; exact h
theorem VTy.array {T : Tab} {t : Nat} {ti : TI} {n e : Nat} {v : V} (ht : lk T t = some ti) (hk : ti.kind = .array n e) (h : VTy T t v) : ∃ cs, v = .agg cs ∧ cs.length = n ∧ ∀ c ∈ cs, CTy T e c := by
  unfold VTy at h
  rw [ht] at h
  simp only at h
  rw [hk] at h
  exact h
theorem ScTy.int {T : Tab} {t : Nat} {ti : TI} {k : IntKind} {x : Sc} (ht : lk T t = some ti) (hk : ti.kind = .int k) (h : ScTy T t x) : ∃ n, x = .i k n ∧ (Lit.int k n).wf = true := by
  unfold ScTy at h
  rw [ht] at h
  simp only at h
  rw [hk] at h
  cases x with
  | i k' n => obtain ⟨rfl, h⟩ := h; exact ⟨n, rfl, h⟩
  | b _ => exact h.elim
theorem CTy.sc {T : Tab} {t : Nat} {c : C} (hs : sliceE T t = none) (h : CTy T t c) : ∃ x, c = .s x ∧ ScTy T t x := by
  unfold CTy at h
  rw [hs] at h
  exact h
theorem CTy.flat {T : Tab} {t e : Nat} {c : C} (hs : sliceE T t = some e) (hs2 : sliceE T e = none) (h : CTy T t c) : ∃ rows, c = .flat false (sizeT T e) rows ∧ FlatTy T e rows := by
  unfold CTy at h
  rw [hs] at h
  simp only at h
  rw [hs2] at h
  exact h
theorem CTy.nest {T : Tab} {t e e2 : Nat} {c : C} (hs : sliceE T t = some e) (hs2 : sliceE T e = some e2) (h : CTy T t c) : ∃ rows, c = .nest false (sizeT T e2) rows ∧ rows.length ≤ maxLen ∧ ∀ fl ∈ rows, FlatTy T e2 fl := by
  unfold CTy at h
  rw [hs] at h
  simp only at h
  rw [hs2] at h
  exact h
theorem i64_wf {n : Int} (h : (Lit.int .i64 n).wf = true) : i64 n := by
  simp [Lit.wf, IntKind.min, IntKind.max, IntKind.signed, IntKind.bits] at h
  exact h
theorem list_ex {α β : Type} {P : α → β → Prop} : ∀ {l : List α}, (∀ x ∈ l, ∃ y, P x y) → ∃ m : List β, All2 P l m := by
  intro l
  induction l with
  | nil => intro _; exact ⟨[], All2.nil⟩
  | cons x l ih =>
    intro h
    obtain ⟨y, hy⟩ := h x (by simp)
    obtain ⟨m, hm⟩ := ih fun x hx => h x (by simp [hx])
    exact ⟨y :: m, All2.cons' hy hm⟩
theorem All2.map_eq {α β : Type} {f : β → α} {l : List α} {m : List β} (h : All2 (fun x y => x = f y) l m) : l = m.map f := by
  apply List.ext_getElem?
  intro i
  rw [List.getElem?_map]
  by_cases hi : i < l.length
  · have him : i < m.length := by rw [← h.1]; exact hi
    rw [List.getElem?_eq_getElem hi, List.getElem?_eq_getElem him, Option.map_some, h.2 i _ _ (List.getElem?_eq_getElem hi) (List.getElem?_eq_getElem him)]
  · rw [List.getElem?_eq_none (by omega), List.getElem?_eq_none (by rw [← h.1]; omega)]; rfl
theorem All2.mem {α β : Type} {R : α → β → Prop} {l : List α} {m : List β} (h : All2 R l m) {y : β} (hy : y ∈ m) : ∃ x ∈ l, R x y := by
  obtain ⟨i, hi⟩ := List.mem_iff_getElem?.1 hy
  have hl := (List.getElem?_eq_some_iff.1 hi).1
  rw [← h.1] at hl
  exact ⟨_, List.getElem_mem hl, h.2 i _ y (List.getElem?_eq_getElem hl) hi⟩
/-! #### at this program's types -/
theorem row_int {row : Row} (h : RowTy T 3 row) : ∃ n, row = [.i .i64 n] ∧ i64 n := by
  obtain ⟨x, rfl, hx⟩ := h
  obtain ⟨n, rfl, hw⟩ := ScTy.int (t := 3) rfl rfl hx
  exact ⟨n, rfl, i64_wf hw⟩
theorem ints_of {fl : Flat} (h : FlatTy T 3 fl) : ∃ l : List Int, fl = ints l ∧ l.length ≤ maxLen ∧ ∀ x ∈ l, i64 x := by
  obtain ⟨m, hm⟩ := list_ex (P := fun row n => row = [Sc.i .i64 n] ∧ i64 n) fun row hr => row_int (h.2 row hr)
  refine ⟨m, All2.map_eq (f := fun n => [Sc.i .i64 n]) (hm.imp fun _ _ _ k => k.1), by rw [← hm.1]; exact h.1, fun x hx => ?_⟩
  obtain ⟨_, _, k⟩ := hm.mem hx
  exact k.2
theorem rows_of {rows : List Flat} (h : ∀ fl ∈ rows, FlatTy T 3 fl) : ∃ S : List (List Int), rows = rowsI S ∧ rows64 S ∧ ∀ l ∈ S, l.length ≤ maxLen := by
  obtain ⟨m, hm⟩ := list_ex (P := fun (fl : Flat) l => fl = ints l ∧ l.length ≤ maxLen ∧ ∀ x ∈ l, i64 x) fun fl hf => ints_of (h fl hf)
  refine ⟨m, All2.map_eq (hm.imp fun _ _ _ k => k.1), fun l hl => ?_, fun l hl => ?_⟩
  · obtain ⟨_, _, k⟩ := hm.mem hl; exact k.2.2
  · obtain ⟨_, _, k⟩ := hm.mem hl; exact k.2.1
theorem All2.two {α β : Type} {R : α → β → Prop} {a b : α} {m : List β} (h : All2 R [a, b] m) : ∃ x y, m = [x, y] ∧ R a x ∧ R b y := by
  obtain ⟨h1, h2⟩ := h
  match m, h1, h2 with
  | [x, y], _, h2 => exact ⟨x, y, rfl, h2 0 a x rfl rfl, h2 1 b y rfl rfl⟩
theorem All2.one {α β : Type} {R : α → β → Prop} {a : α} {m : List β} (h : All2 R [a] m) : ∃ x, m = [x] ∧ R a x := by
  obtain ⟨h1, h2⟩ := h
  match m, h1, h2 with
  | [x], _, h2 => exact ⟨x, rfl, h2 0 a x rfl rfl⟩
theorem All2.three {α β : Type} {R : α → β → Prop} {a b c : α} {m : List β} (h : All2 R [a, b, c] m) : ∃ x y z, m = [x, y, z] ∧ R a x ∧ R b y ∧ R c z := by
  obtain ⟨h1, h2⟩ := h
  match m, h1, h2 with
  | [x, y, z], _, h2 => exact ⟨x, y, z, rfl, h2 0 a x rfl rfl, h2 1 b y rfl rfl, h2 2 c z rfl rfl⟩
theorem row_edge {row : Row} (h : RowTy T 59 row) : ∃ p : Ed, row = [.i .i64 p.1, .i .i64 p.2] ∧ i64 p.1 ∧ i64 p.2 := by
  obtain ⟨_, h⟩ := h
  obtain ⟨x, y, rfl, hx, hy⟩ := All2.two h
  obtain ⟨n, rfl, hn⟩ := ScTy.int (t := 3) rfl rfl hx
  obtain ⟨m, rfl, hm⟩ := ScTy.int (t := 3) rfl rfl hy
  exact ⟨(n, m), rfl, i64_wf hn, i64_wf hm⟩
theorem edges_of {fl : Flat} (h : FlatTy T 59 fl) : ∃ E : List Ed, fl = edges E ∧ E.length ≤ maxLen ∧ ∀ p ∈ E, i64 p.1 ∧ i64 p.2 := by
  obtain ⟨m, hm⟩ := list_ex (P := fun row (p : Ed) => row = [Sc.i .i64 p.1, Sc.i .i64 p.2] ∧ i64 p.1 ∧ i64 p.2) fun row hr => row_edge (h.2 row hr)
  refine ⟨m, All2.map_eq (f := fun p : Ed => [Sc.i .i64 p.1, Sc.i .i64 p.2]) (hm.imp fun _ _ _ k => k.1), by rw [← hm.1]; exact h.1, fun x hx => ?_⟩
  obtain ⟨_, _, k⟩ := hm.mem hx
  exact k.2
theorem net_of {v : V} (h : VTy T 24 v) : ∃ n E, v = grV n E ∧ i64 n ∧ ∀ p ∈ E, i64 p.1 ∧ i64 p.2 := by
  obtain ⟨cs, rfl, hcs⟩ := VTy.struct (t := 24) rfl rfl h
  obtain ⟨x, y, rfl, hx, hy⟩ := All2.two hcs
  obtain ⟨z, rfl, hz⟩ := CTy.sc (t := 3) rfl hx
  obtain ⟨n, rfl, hw⟩ := ScTy.int (t := 3) rfl rfl hz
  obtain ⟨rows, rfl, hr⟩ := CTy.flat (t := 22) (e := 59) rfl rfl hy
  obtain ⟨E, rfl, _, hE⟩ := edges_of hr
  exact ⟨n, E, rfl, i64_wf hw, hE⟩
end Go.Sh

set_option linter.unusedVariables false
namespace Go.Sh
open Go.Proofs
theorem own : ownKnob Try.prog.godebug = none := by kernel_rfl
theorem laidOut : laidOutB Try.prog = true := by kernel_rfl
set_option maxRecDepth 100000 in
/-- A law whose function answers true, whatever comes. -/
theorem law_row {s : ChangeSpec} {f : FuncId} {fn : Func} {conds : List PathCond} {apart fresh handsOn : Bool} {ts : List TypeId} {F : List V → Option (V × List V)} (hf : Try.prog.funcs[f]? = some fn) (hin : Try.prog.inits.idxOf? f = none) (hv : s.vars = [])
    (hts : fn.params.toList = ts) (ha : ts.all (argB T) = true) (hr : ts.all (fun t => Try.prog.readableRec t && Nat.blt t Try.prog.types.size) = true) (hres : fn.resultTypes = #[4])
    (hsp : ∀ (H : Type) (ds : List (DataW H)), ds.length = ts.length → (s.fn H ds).results = [.lit (.bool true)] ∧ (s.fn H ds).args = ds ∧ (s.fn H ds).vars = [])
    (hS : SoundP Try.prog f F) (hF : LawV T ts F) (os : Os) (started : os.Started) (H : Type) (enc : TypeId × Value → H) (a : Assume)
    (hw : ∃ (w : World) (tape : Tape) (i : Input), w.os = os ∧ (w.forCall tape i).Shaped Try.checked.prog ∧ i.vars = [] ∧ Input.okWide Try.checked.prog (w.forCall tape i) .any w.heap.size f i ∧
      s.pre6 enc Try.checked.prog fn conds apart (w.forCall tape i).memory i.args ∧ a.holds Try.checked.prog (lone (Frame.enter Try.checked.prog f i.args .normal) [] (w.forCall tape i))) :
    ReturnsInHanded a Try.checked os f .any (s.pre6 enc Try.checked.prog fn conds apart) (s.post enc Try.checked.prog fn apart fresh handsOn false) := by
  refine returnsInHanded_of_change (C := Try.checked) own started hin hf hw ?_
  intro W base args ds gs before hval hW _ _
  refine law_contract (P := Try.prog) (conds := conds) hT laidOut hv hts ha (fun t ht => ?_) hres Try.underlying4 (hsp H) hS hF hval hW
  have := List.all_eq_true.1 hr t ht
  simp only [Bool.and_eq_true] at this
  exact ⟨this.1, Nat.le_of_ble_eq_true this.2⟩
end Go.Sh

set_option linter.unusedVariables false
namespace Go.Sh
open Go.Proofs
/-! ### more of what is handed in, as data -/
theorem ScTy.bool {T : Tab} {t : Nat} {ti : TI} {x : Sc} (ht : lk T t = some ti) (hk : ti.kind = .bool) (h : ScTy T t x) : ∃ b, x = .b b := by
  unfold ScTy at h
  rw [ht] at h
  simp only at h
  rw [hk] at h
  cases x with
  | i k' n => exact h.elim
  | b b => exact ⟨b, rfl⟩
theorem All2.four {α β : Type} {R : α → β → Prop} {a b c d : α} {m : List β} (h : All2 R [a, b, c, d] m) : ∃ x y z t, m = [x, y, z, t] ∧ R a x ∧ R b y ∧ R c z ∧ R d t := by
  obtain ⟨h1, h2⟩ := h
  match m, h1, h2 with
  | [x, y, z, t], _, h2 => exact ⟨x, y, z, t, rfl, h2 0 a x rfl rfl, h2 1 b y rfl rfl, h2 2 c z rfl rfl, h2 3 d t rfl rfl⟩
theorem row_stp {row : Row} (h : RowTy T 86 row) : ∃ p : Stp, row = [.i .i64 p.1, .i .i64 p.2.1, .i .i64 p.2.2.1, .b p.2.2.2] := by
  obtain ⟨_, h⟩ := h
  obtain ⟨x, y, z, t, rfl, hx, hy, hz, ht⟩ := All2.four h
  obtain ⟨n, rfl, hn⟩ := ScTy.int (t := 3) rfl rfl hx
  obtain ⟨m, rfl, hm⟩ := ScTy.int (t := 3) rfl rfl hy
  obtain ⟨k, rfl, hk⟩ := ScTy.int (t := 3) rfl rfl hz
  obtain ⟨b, rfl⟩ := ScTy.bool (t := 4) rfl rfl ht
  exact ⟨(n, m, k, b), rfl⟩
theorem steps_of {v : V} (h : VTy T 25 v) : ∃ l : List Stp, v = .one (.flat false 4 (stps l)) ∧ l.length ≤ maxLen := by
  obtain ⟨c, rfl, hc⟩ := VTy.cell (ti := { kind := .slice 86, size := _, bytes := _, zero := _, eqs := _, cells := _ }) rfl (fun fs => by simp) h
  obtain ⟨rows, rfl, hr⟩ := CTy.flat (t := 25) (e := 86) rfl rfl hc
  obtain ⟨m, hm⟩ := list_ex (P := fun row (p : Stp) => row = [Sc.i .i64 p.1, Sc.i .i64 p.2.1, Sc.i .i64 p.2.2.1, Sc.b p.2.2.2]) fun row hq => row_stp (hr.2 row hq)
  have e := All2.map_eq (f := fun p : Stp => [Sc.i .i64 p.1, Sc.i .i64 p.2.1, Sc.i .i64 p.2.2.1, Sc.b p.2.2.2]) hm
  exact ⟨m, by rw [e]; rfl, by rw [← hm.1]; exact hr.1⟩
end Go.Sh

set_option linter.unusedVariables false
set_option linter.unusedSimpArgs false
namespace Go.Sh
open Go.Proofs
/-! ### slices.Index, slices.Contains -/
/-! ### bags.rising -/
end Go.Sh

set_option linter.unusedVariables false
set_option linter.unusedSimpArgs false
namespace Go.Sh
open Go.Proofs
/-! ### bags: what they are -/
end Go.Sh

set_option linter.unusedVariables false
namespace Go.Sh
open Go.Proofs
/-! ### more of what is handed in, as data: bags -/
end Go.Sh

set_option linter.unusedVariables false
namespace Go.Sh
open Go.Proofs
/-! ### more of what is handed in, as data: subdivisions, whose numbers are 64 bits -/
theorem sub_nums {v : V} (h : VTy T 40 v) : ∃ k Ts L, v = sbV false k Ts L ∧ i64 k ∧ smallNums L := by
  obtain ⟨cs, rfl, hcs⟩ := VTy.struct (t := 40) rfl rfl h
  obtain ⟨x, y, z, rfl, hx, hy, hz⟩ := All2.three hcs
  obtain ⟨q, rfl, hq⟩ := CTy.sc (t := 3) rfl hx
  obtain ⟨n, rfl, hw⟩ := ScTy.int (t := 3) rfl rfl hq
  obtain ⟨rows, rfl, hr⟩ := CTy.flat (t := 30) (e := 3) rfl rfl hy
  obtain ⟨U, rfl, _, _⟩ := ints_of hr
  obtain ⟨rows, rfl, _, hr⟩ := CTy.nest (t := 38) (e := 30) (e2 := 3) rfl rfl hz
  obtain ⟨S, rfl, hS, _⟩ := rows_of hr
  exact ⟨n, U, S, rfl, i64_wf hw, hS⟩
end Go.Sh
