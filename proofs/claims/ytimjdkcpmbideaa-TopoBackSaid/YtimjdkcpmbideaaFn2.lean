/- What the functions answer that the statement reaches. No condition. -/
import Derived.Test.YtimjdkcpmbideaaFn1
import Derived.Shelf.SlSortCmp.NoneTotal
import Derived.Ground.SlsfProg
import Derived.Test.YtimjdkcpmbideaaRows
set_option linter.unusedVariables false
set_option linter.unusedSimpArgs false
namespace Go.Sh
open Go.Proofs
/-! ### topo.Model -/
noncomputable def ModC : Con := conP 1 (fun a : Int × List Int × List (List Int) => fewL a.2.2) (fun a => [sbV false a.1 a.2.1 a.2.2]) (fun a => moV true (modF a.1 a.2.1 a.2.2).1 (modF a.1 a.2.1 a.2.2).2)
theorem ModC_at {k : Int} {Ts : List Int} {L : List (List Int)} (h : fewL L) : ModC.F [sbV false k Ts L] = some (moV true (modF k Ts L).1 (modF k Ts L).2, []) :=
  conP_at (a := (k, Ts, L)) (fun a b _ _ h => by
    obtain ⟨k, Ts, L⟩ := a
    obtain ⟨k', Ts', L'⟩ := b
    simp at h
    obtain ⟨rfl, rfl, rfl⟩ := sbV_inj h
    rfl) h
theorem inner_cut (p : List Int) : cut (some (1, p.length - 1 - 1)) (ints p) = ints (innerL p) := by
  show ((ints p).drop 1).take (p.length - 1 - 1) = ints (innerL p)
  unfold innerL ints
  rw [← List.map_drop, ← List.map_take, List.dropLast_eq_take, List.length_drop]
def setsA (Ts : List Int) (L : List (List Int)) (i : Nat) : List (List Int) := (List.range Ts.length).map fun t => Ts.getD t 0 :: ((List.range i).filter fun j => fromT 1 j == t).flatMap fun j => innerL (L.getD j [])
def setsB2 (Ts : List Int) (L : List (List Int)) (i : Nat) : List (List Int) := Ts.map (fun v => [v]) ++ (L.take i).map innerL
theorem setsA_zero (Ts : List Int) (L : List (List Int)) : setsA Ts L 0 = Ts.map fun v => [v] := by
  apply List.ext_getElem
  · simp [setsA]
  · intro i h1 h2
    simp [setsA] at h1 ⊢
    rw [List.getElem?_eq_getElem h1]; rfl
theorem setsA_len (Ts : List Int) (L : List (List Int)) (i : Nat) : (setsA Ts L i).length = Ts.length := by simp [setsA]
theorem setsA_get {Ts : List Int} {L : List (List Int)} {i t : Nat} (h : t < Ts.length) : (setsA Ts L i)[t]? = some (Ts.getD t 0 :: ((List.range i).filter fun j => fromT 1 j == t).flatMap fun j => innerL (L.getD j [])) := by
  unfold setsA
  rw [List.getElem?_map, List.getElem?_range h]; rfl
theorem setsA_set {Ts : List Int} {L : List (List Int)} {i t : Nat} (h : t < Ts.length) (ht : fromT 1 i = t) : (setsA Ts L i).set t ((Ts.getD t 0 :: ((List.range i).filter fun j => fromT 1 j == t).flatMap fun j => innerL (L.getD j [])) ++ innerL (L.getD i [])) = setsA Ts L (i + 1) := by
  apply List.ext_getElem?
  intro x
  rw [List.getElem?_set]
  by_cases h1 : t = x
  · subst h1
    rw [if_pos rfl, if_pos (by rw [setsA_len]; exact h), setsA_get h, List.range_succ, List.filter_append]
    simp [ht]
  · rw [if_neg h1]
    by_cases h2 : x < Ts.length
    · rw [setsA_get h2, setsA_get h2, List.range_succ, List.filter_append]
      have : (fromT 1 i == x) = false := by rw [ht]; simpa using h1
      simp [this]
    · rw [List.getElem?_eq_none (by rw [setsA_len]; omega), List.getElem?_eq_none (by rw [setsA_len]; omega)]
theorem setsB2_zero (Ts : List Int) (L : List (List Int)) : setsB2 Ts L 0 = Ts.map fun v => [v] := by simp [setsB2]
theorem setsB2_succ {Ts : List Int} {L : List (List Int)} {i : Nat} (h : i < L.length) : setsB2 Ts L (i + 1) = setsB2 Ts L i ++ [innerL L[i]] := by
  unfold setsB2
  rw [List.take_succ_eq_append_getElem h, List.map_append, ← List.append_assoc]; rfl
theorem modF_no {k : Int} {Ts : List Int} {L : List (List Int)} (h : ¬ (shapeP k Ts L ∧ ∀ p ∈ L, 2 ≤ p.length)) : modF k Ts L = (0, []) := if_neg h
set_option maxHeartbeats 4000000 in
theorem Mod_ok : SoundC Try.prog T 31 ModC := by
  refine sound_con (X := { Γ := [(60, TopsC), (48, CloneCI)], T := T, nt := 99, ext := [59] }) (new_ok Try.pairs_call) hmix hT (sound_cons Tops_ok (sound_cons Clone_okI sound_nil)) Try.func31 (by rfl) (by rfl) (by rfl) (by rfl) 3 ?_
  rintro ⟨k, Ts, L⟩ ⟨hL, hLr⟩
  dsimp only at hL hLr ⊢
  refine ⟨⟨Nat.le_of_ble_eq_true rfl, Nat.le_of_ble_eq_true rfl⟩, ?_⟩
  by_cases hk : k = 1 ∨ k = 2
  · have hpr : Try.prsR k = some (2, edges (prsT k)) := if_pos hk
    refine ⟨rfl, _, some (2, edges (prsT k)), rfl, congrArg some hpr, ?_⟩
    have hpl := prsT_len hk
    have hp6 : 0 < (prsT k).length ∧ (prsT k).length ≤ 6 := by rw [hpl]; split <;> omega
    refine Pick.T (by rw [edges_length]; simpa using hp6.1) ?_
    refine Call.by _ _ (TopsC_at k) ?_
    refine Pick.by (fun h1 => ?_) (fun h1 => ?_)
    · have h1 : ¬ (Ts.length : Int) = (if k = 1 then 4 else 2) := by simpa [ints_length] using h1
      refine Seg.by (by kernel_rfl) ?_
      have hv := modF_no (k := k) (Ts := Ts) (L := L) (fun h => h1 ((shape_iff hk).1 h.1).1)
      dsimp only
      rw [hv]
      exact ⟨rfl, rfl, ⟨rfl, rfl⟩, trivial⟩
    have h1 : (Ts.length : Int) = (if k = 1 then 4 else 2) := by simpa [ints_length] using h1
    refine Seg.by (by kernel_rfl) ?_
    refine Pick.by (fun h2 => ?_) (fun h2 => ?_)
    · have h2 : ¬ L.length = (prsT k).length := by intro e; rw [rowsI_length, edges_length, e] at h2; simp at h2
      have hv := modF_no (k := k) (Ts := Ts) (L := L) (fun h => h2 ((shape_iff hk).1 h.1).2)
      dsimp only
      rw [hv]
      exact ⟨rfl, rfl, ⟨rfl, rfl⟩, trivial⟩
    have h2 : L.length = (prsT k).length := by
      have h2 : ((L.length : Nat) : Int) = ((prsT k).length : Nat) := by simpa [rowsI_length, edges_length] using h2
      omega
    have hsh : shapeP k Ts L := (shape_iff hk).2 ⟨h1, h2⟩
    have hT4 : Ts.length ≤ 4 := by split at h1 <;> omega
    rcases hk with rfl | rfl
    · refine LoopP.intro (α := Nat) (fun i => i ≤ Ts.length) (fun i => Ts.length - i) (fun i => [(1, .ptr 0 0), (2, .ptr 3 0), (3, .sl 4 none none), (4, .ptr 5 0), (37, .sl 1 none none), (38, .s (.i .i64 Ts.length)), (39, .s (.i .i64 i))])
        (fun i => [(0, some (.blk [.s (.i .i64 1), .sl 1 none none, .sl 2 none none])), (1, some (.flat false 1 (ints Ts))), (2, some (.nest false 1 (rowsI L) [] [])), (3, some (.blk [.s (.i .i64 0), .nils])), (4, some (.flat true 2 (edges (prsT 1)))), (5, some (.blk [.s (.i .i64 1), .sl 6 none none])), (6, some (.nest true 1 (rowsI ((Ts.take i).map fun v => [v])) [] []))]) 7 0 (by omega) (by refine Weak.by [(0, some _), (1, some _), (2, some _), (3, some _), (4, some _), (5, some _), (6, none)] (by ((repeat' first | exact rfl | exact trivial | refine And.intro ?_ ?_) <;> (repeat' first | exact rfl | exact trivial | refine And.intro ?_ ?_)); all_goals (exact sc_eq (by rw [ints_length]))) (by ((repeat' first | exact rfl | exact trivial | refine And.intro ?_ ?_) <;> (repeat' first | exact rfl | exact trivial | refine And.intro ?_ ?_)); all_goals (exact sc_eq (by rw [ints_length]))) (by rfl)) ?_
      rintro i hi
      refine Pick.by (fun hc => ?_) (fun hc => ?_)
      · have hlt : i < Ts.length := by have := of_decide_eq_true hc; omega
        have hst : rowsI ((Ts.take (i + 1)).map fun v => [v]) = rowsI ((Ts.take i).map fun v => [v]) ++ [ints [Ts[i]]] := by rw [List.take_succ_eq_append_getElem hlt, List.map_append, ← rowsI_snoc]; rfl
        refine Idx.by i rfl (by rw [ints_length]; exact hlt) ?_
        refine Look.by _ (ints_get (List.getElem?_eq_getElem hlt)) ?_
        refine Pick.T (decide_eq_true (by rw [rowsI_length, List.length_map, List.length_take]; simp only [List.length_cons, List.length_nil]; omega)) ?_
        refine Pick.T (inI64_of (by omega) (by omega)) ?_
        refine Next.by (i + 1) (by omega) (by omega) (by refine Weak.by [(0, some _), (1, some _), (2, some _), (3, some _), (4, some _), (5, some _), (6, some _)] (by ((repeat' first | exact rfl | exact trivial | refine And.intro ?_ ?_) <;> (repeat' first | exact rfl | exact trivial | refine And.intro ?_ ?_)); all_goals ((first | (rw [hst]; rfl) | (simp; done)))) (by ((repeat' first | exact rfl | exact trivial | refine And.intro ?_ ?_) <;> (repeat' first | exact rfl | exact trivial | refine And.intro ?_ ?_)); all_goals ((first | (rw [hst]; rfl) | (simp; done)))) (by rfl))
      have hge : Ts.length ≤ i := by have := of_decide_eq_false hc; omega
      rw [List.take_of_length_le hge]
      refine LoopP.intro (α := Nat) (fun i => i ≤ L.length ∧ ∀ p ∈ L.take i, 2 ≤ p.length) (fun i => L.length - i) (fun i => [(1, .ptr 0 0), (2, .ptr 3 0), (3, .sl 4 none none), (4, .ptr 5 0), (52, .sl 2 none none), (53, .s (.i .i64 L.length)), (54, .s (.i .i64 i))])
        (fun i => [(0, some (.blk [.s (.i .i64 1), .sl 1 none none, .sl 2 none none])), (1, some (.flat false 1 (ints Ts))), (2, some (.nest false 1 (rowsI L) [] [])), (3, some (.blk [.s (.i .i64 0), .nils])), (4, some (.flat true 2 (edges (prsT 1)))), (5, some (.blk [.s (.i .i64 1), .sl 6 none none])), (6, some (.nest true 1 (rowsI (setsA Ts L i)) [] []))]) 7 0 ⟨by omega, by simp⟩ (by refine Weak.by [(0, some _), (1, some _), (2, some _), (3, some _), (4, some _), (5, some _), (6, some _)] (by ((repeat' first | exact rfl | exact trivial | refine And.intro ?_ ?_) <;> (repeat' first | exact rfl | exact trivial | refine And.intro ?_ ?_)); all_goals ((first | exact sc_eq (by rw [rowsI_length]) | (rw [setsA_zero]; done) | (rw [setsA_zero]; rfl) | (simp; done)))) (by ((repeat' first | exact rfl | exact trivial | refine And.intro ?_ ?_) <;> (repeat' first | exact rfl | exact trivial | refine And.intro ?_ ?_)); all_goals ((first | exact sc_eq (by rw [rowsI_length]) | (rw [setsA_zero]; done) | (rw [setsA_zero]; rfl) | (simp; done)))) (by rfl)) ?_
      rintro i ⟨hi, hall⟩
      refine Pick.by (fun hc => ?_) (fun hc => ?_)
      · have hlt : i < L.length := by have := of_decide_eq_true hc; omega
        obtain ⟨p, hp⟩ : ∃ p, L[i] = p := ⟨_, rfl⟩
        have hpm : p ∈ L := by rw [← hp]; exact List.getElem_mem hlt
        have hpl := hLr p hpm
        have hLp : L[i]? = some p := by rw [List.getElem?_eq_getElem hlt, hp]
        have hpg : (rowsI L)[i]? = some (ints p) := rowsI_get hLp
        refine Idx.by i rfl (by rw [rowsI_length]; exact hlt) ?_
        refine Pick.T (by simpa [rowsI_length] using hlt) ?_
        refine Look.by _ hpg ?_
        refine Pick.by (fun h3 => ?_) (fun h3 => ?_)
        · have h3 : p.length < 2 := by have := of_decide_eq_true h3; rw [ints_length] at this; omega
          have hv := modF_no (k := 1) (Ts := Ts) (L := L) (fun h => by have := h.2 p hpm; omega)
          dsimp only
          rw [hv]
          exact ⟨rfl, rfl, ⟨rfl, rfl⟩, trivial⟩
        have h3 : 2 ≤ p.length := by have := of_decide_eq_false h3; rw [ints_length] at this; omega
        have hall2 : ∀ p ∈ L.take (i + 1), 2 ≤ p.length := all_take hlt hall (by rw [hp]; exact h3)
        refine Look.by _ hpg ?_
        refine Pick.T (inI64_of (by rw [ints_length]; omega) (by rw [ints_length]; omega)) ?_
        refine Look.by _ hpg ?_
        refine Rng.by 1 (p.length - 1) rfl (by rw [ints_length]; omega) (by omega) (by rw [ints_length]; omega) ?_
        refine Look.by _ hpg ?_
        have hcl := CloneC_atI (l := innerL p) (by rw [innerL_length]; omega)
        rw [← inner_cut] at hcl
        refine Call.by _ _ hcl ?_
        rw [inner_cut]
        have hi6 : i < (prsT 1).length := by omega
        obtain ⟨⟨qa, qb⟩, hq⟩ : ∃ q, (prsT 1)[i] = q := ⟨_, rfl⟩
        have hqi := prsT_in (k := 1) (.inl rfl) (List.getElem_mem hi6)
        rw [hq] at hqi
        dsimp only at hqi
        have hqe : (edges (prsT 1))[i]? = some [.i .i64 qa, .i .i64 qb] := edges_get (by rw [List.getElem?_eq_getElem hi6, hq])
        have hft : fromT 1 i = qa.toNat := by unfold fromT; rw [List.getD_eq_getElem?_getD, List.getElem?_eq_getElem hi6, hq]; rfl
        have ht4 : Ts.length = 4 := by have h1 : (Ts.length : Int) = 4 := h1; omega
        have hqt : qa.toNat < Ts.length := by have := hqi.1.2; simp at this; omega
        obtain ⟨R0, hR0⟩ : ∃ R0, (Ts.getD qa.toNat 0 :: ((List.range i).filter fun j => fromT 1 j == qa.toNat).flatMap fun j => innerL (L.getD j [])) = R0 := ⟨_, rfl⟩
        have hro : (rowsI (setsA Ts L i))[qa.toNat]? = some (ints R0) := rowsI_get (by rw [setsA_get hqt, hR0])
        have hst : (rowsI (setsA Ts L i)).set qa.toNat (ints R0 ++ ints (innerL p)) = rowsI (setsA Ts L (i + 1)) := by
          rw [← setsA_set (L := L) hqt hft, hR0, rowsI_set, ints_append]
          congr 2
          rw [List.getD_eq_getElem?_getD, hLp]; rfl
        have hrl : (rowsI (setsA Ts L i)).length = Ts.length := by rw [rowsI_length, setsA_len]
        have hR0l : R0.length ≤ 50000 := by
          rw [← hR0, List.length_cons]
          have : ∀ l : List Nat, (l.flatMap fun j => innerL (L.getD j [])).length ≤ l.length * 5000 := fun l => by
            induction l with
            | nil => simp
            | cons x l ih =>
              rw [List.flatMap_cons, List.length_append, List.length_cons, Nat.succ_mul]
              have : (innerL (L.getD x [])).length ≤ 5000 := by
                rw [innerL_length, List.getD_eq_getElem?_getD]
                cases hx : L[x]? with
                | none => simp
                | some y => have := hLr y (List.mem_of_getElem? hx); simp; omega
              omega
          have h1 := this ((List.range i).filter fun j => fromT 1 j == qa.toNat)
          have h2 : ((List.range i).filter fun j => fromT 1 j == qa.toNat).length ≤ i := Nat.le_trans (List.length_filter_le _ _) (by simp)
          have h3 := Nat.mul_le_mul_right 5000 h2
          omega
        refine Idx.by i rfl (by rw [edges_length]; exact hi6) ?_
        refine Idx.by 0 rfl (by decide) ?_
        refine Look.by _ hqe ?_
        refine Idx.by i rfl (by rw [edges_length]; exact hi6) ?_
        refine Idx.by 0 rfl (by decide) ?_
        refine Look.by _ hqe ?_
        refine Idx.by qa.toNat (by show qa = _; omega) (by rw [hrl]; exact hqt) ?_
        refine Pick.T (by rw [hrl]; simpa using hqt) ?_
        refine Look.by _ hro ?_
        refine Pick.T (by simp [cut, ints_length, innerL_length]; omega) ?_
        refine Idx.by qa.toNat (by show qa = _; omega) (by rw [hrl]; exact hqt) ?_
        refine Pick.T (by rw [hrl]; simpa using hqt) ?_
        refine Pick.T (by simp) ?_
        refine Seg.by (by kernel_rfl) ?_
        refine Pick.T (inI64_of (by omega) (by omega)) ?_
        refine Next.by (i + 1) ⟨by omega, hall2⟩ (by omega) (by refine Weak.by [(0, some _), (1, some _), (2, some _), (3, some _), (4, some _), (5, some _), (6, some _)] (by ((repeat' first | exact rfl | exact trivial | refine And.intro ?_ ?_) <;> (repeat' first | exact rfl | exact trivial | refine And.intro ?_ ?_)); all_goals ((first | (rw [← hst]; rfl) | (simp; done)))) (by ((repeat' first | exact rfl | exact trivial | refine And.intro ?_ ?_) <;> (repeat' first | exact rfl | exact trivial | refine And.intro ?_ ?_)); all_goals ((first | (rw [← hst]; rfl) | (simp; done)))) (by rfl))
      have hge : L.length ≤ i := by have := of_decide_eq_false hc; omega
      rw [List.take_of_length_le hge] at hall
      have hil : i = L.length := by omega
      have hv : modF 1 Ts L = (1, setsA Ts L i) := by
        unfold modF
        rw [if_pos ⟨hsh, hall⟩, hil]
        rfl
      dsimp only
      rw [hv]
      exact ⟨rfl, rfl, ⟨rfl, rfl⟩, trivial⟩
    · refine LoopP.intro (α := Nat) (fun i => i ≤ Ts.length) (fun i => Ts.length - i) (fun i => [(1, .ptr 0 0), (2, .ptr 3 0), (3, .sl 4 none none), (4, .ptr 5 0), (37, .sl 1 none none), (38, .s (.i .i64 Ts.length)), (39, .s (.i .i64 i))])
        (fun i => [(0, some (.blk [.s (.i .i64 2), .sl 1 none none, .sl 2 none none])), (1, some (.flat false 1 (ints Ts))), (2, some (.nest false 1 (rowsI L) [] [])), (3, some (.blk [.s (.i .i64 0), .nils])), (4, some (.flat true 2 (edges (prsT 2)))), (5, some (.blk [.s (.i .i64 2), .sl 6 none none])), (6, some (.nest true 1 (rowsI ((Ts.take i).map fun v => [v])) [] []))]) 7 0 (by omega) (by refine Weak.by [(0, some _), (1, some _), (2, some _), (3, some _), (4, some _), (5, some _), (6, none)] (by ((repeat' first | exact rfl | exact trivial | refine And.intro ?_ ?_) <;> (repeat' first | exact rfl | exact trivial | refine And.intro ?_ ?_)); all_goals (exact sc_eq (by rw [ints_length]))) (by ((repeat' first | exact rfl | exact trivial | refine And.intro ?_ ?_) <;> (repeat' first | exact rfl | exact trivial | refine And.intro ?_ ?_)); all_goals (exact sc_eq (by rw [ints_length]))) (by rfl)) ?_
      rintro i hi
      refine Pick.by (fun hc => ?_) (fun hc => ?_)
      · have hlt : i < Ts.length := by have := of_decide_eq_true hc; omega
        have hst : rowsI ((Ts.take (i + 1)).map fun v => [v]) = rowsI ((Ts.take i).map fun v => [v]) ++ [ints [Ts[i]]] := by rw [List.take_succ_eq_append_getElem hlt, List.map_append, ← rowsI_snoc]; rfl
        refine Idx.by i rfl (by rw [ints_length]; exact hlt) ?_
        refine Look.by _ (ints_get (List.getElem?_eq_getElem hlt)) ?_
        refine Pick.T (decide_eq_true (by rw [rowsI_length, List.length_map, List.length_take]; simp only [List.length_cons, List.length_nil]; omega)) ?_
        refine Pick.T (inI64_of (by omega) (by omega)) ?_
        refine Next.by (i + 1) (by omega) (by omega) (by refine Weak.by [(0, some _), (1, some _), (2, some _), (3, some _), (4, some _), (5, some _), (6, some _)] (by ((repeat' first | exact rfl | exact trivial | refine And.intro ?_ ?_) <;> (repeat' first | exact rfl | exact trivial | refine And.intro ?_ ?_)); all_goals ((first | (rw [hst]; rfl) | (simp; done)))) (by ((repeat' first | exact rfl | exact trivial | refine And.intro ?_ ?_) <;> (repeat' first | exact rfl | exact trivial | refine And.intro ?_ ?_)); all_goals ((first | (rw [hst]; rfl) | (simp; done)))) (by rfl))
      have hge : Ts.length ≤ i := by have := of_decide_eq_false hc; omega
      rw [List.take_of_length_le hge]
      refine LoopP.intro (α := Nat) (fun i => i ≤ L.length ∧ ∀ p ∈ L.take i, 2 ≤ p.length) (fun i => L.length - i) (fun i => [(1, .ptr 0 0), (2, .ptr 3 0), (3, .sl 4 none none), (4, .ptr 5 0), (52, .sl 2 none none), (53, .s (.i .i64 L.length)), (54, .s (.i .i64 i))])
        (fun i => [(0, some (.blk [.s (.i .i64 2), .sl 1 none none, .sl 2 none none])), (1, some (.flat false 1 (ints Ts))), (2, some (.nest false 1 (rowsI L) [] [])), (3, some (.blk [.s (.i .i64 0), .nils])), (4, some (.flat true 2 (edges (prsT 2)))), (5, some (.blk [.s (.i .i64 2), .sl 6 none none])), (6, some (.nest true 1 (rowsI (setsB2 Ts L i)) [] []))]) 7 0 ⟨by omega, by simp⟩ (by refine Weak.by [(0, some _), (1, some _), (2, some _), (3, some _), (4, some _), (5, some _), (6, some _)] (by ((repeat' first | exact rfl | exact trivial | refine And.intro ?_ ?_) <;> (repeat' first | exact rfl | exact trivial | refine And.intro ?_ ?_)); all_goals ((first | exact sc_eq (by rw [rowsI_length]) | (rw [setsB2_zero]; done) | (rw [setsB2_zero]; rfl) | (simp; done)))) (by ((repeat' first | exact rfl | exact trivial | refine And.intro ?_ ?_) <;> (repeat' first | exact rfl | exact trivial | refine And.intro ?_ ?_)); all_goals ((first | exact sc_eq (by rw [rowsI_length]) | (rw [setsB2_zero]; done) | (rw [setsB2_zero]; rfl) | (simp; done)))) (by rfl)) ?_
      rintro i ⟨hi, hall⟩
      refine Pick.by (fun hc => ?_) (fun hc => ?_)
      · have hlt : i < L.length := by have := of_decide_eq_true hc; omega
        obtain ⟨p, hp⟩ : ∃ p, L[i] = p := ⟨_, rfl⟩
        have hpm : p ∈ L := by rw [← hp]; exact List.getElem_mem hlt
        have hpl := hLr p hpm
        have hLp : L[i]? = some p := by rw [List.getElem?_eq_getElem hlt, hp]
        have hpg : (rowsI L)[i]? = some (ints p) := rowsI_get hLp
        refine Idx.by i rfl (by rw [rowsI_length]; exact hlt) ?_
        refine Pick.T (by simpa [rowsI_length] using hlt) ?_
        refine Look.by _ hpg ?_
        refine Pick.by (fun h3 => ?_) (fun h3 => ?_)
        · have h3 : p.length < 2 := by have := of_decide_eq_true h3; rw [ints_length] at this; omega
          have hv := modF_no (k := 2) (Ts := Ts) (L := L) (fun h => by have := h.2 p hpm; omega)
          dsimp only
          rw [hv]
          exact ⟨rfl, rfl, ⟨rfl, rfl⟩, trivial⟩
        have h3 : 2 ≤ p.length := by have := of_decide_eq_false h3; rw [ints_length] at this; omega
        have hall2 : ∀ p ∈ L.take (i + 1), 2 ≤ p.length := all_take hlt hall (by rw [hp]; exact h3)
        refine Look.by _ hpg ?_
        refine Pick.T (inI64_of (by rw [ints_length]; omega) (by rw [ints_length]; omega)) ?_
        refine Look.by _ hpg ?_
        refine Rng.by 1 (p.length - 1) rfl (by rw [ints_length]; omega) (by omega) (by rw [ints_length]; omega) ?_
        refine Look.by _ hpg ?_
        have hcl := CloneC_atI (l := innerL p) (by rw [innerL_length]; omega)
        rw [← inner_cut] at hcl
        refine Call.by _ _ hcl ?_
        rw [inner_cut]
        refine Pick.T (decide_eq_true (by rw [rowsI_length]; simp only [setsB2, List.length_append, List.length_map, List.length_take, List.length_cons, List.length_nil]; omega)) ?_
        refine Pick.T (inI64_of (by omega) (by omega)) ?_
        refine Next.by (i + 1) ⟨by omega, hall2⟩ (by omega) (by refine Weak.by [(0, some _), (1, some _), (2, some _), (3, some _), (4, some _), (5, some _), (6, some _)] (by ((repeat' first | exact rfl | exact trivial | refine And.intro ?_ ?_) <;> (repeat' first | exact rfl | exact trivial | refine And.intro ?_ ?_)); all_goals ((rw [setsB2_succ hlt, hp, ← rowsI_snoc]))) (by ((repeat' first | exact rfl | exact trivial | refine And.intro ?_ ?_) <;> (repeat' first | exact rfl | exact trivial | refine And.intro ?_ ?_)); all_goals ((rw [setsB2_succ hlt, hp, ← rowsI_snoc]))) (by rfl))
      have hge : L.length ≤ i := by have := of_decide_eq_false hc; omega
      rw [List.take_of_length_le hge] at hall
      have hil : i = L.length := by omega
      have hv : modF 2 Ts L = (2, setsB2 Ts L i) := by
        unfold modF
        rw [if_pos ⟨hsh, hall⟩, hil]
        unfold setsB2; rw [if_neg (by decide), List.take_length]
      dsimp only
      rw [hv]
      exact ⟨rfl, rfl, ⟨rfl, rfl⟩, trivial⟩
  · have hpr : Try.prsR k = none := if_neg hk
    refine ⟨rfl, _, none, rfl, congrArg some hpr, ?_⟩
    refine Seg.by (by kernel_rfl) ?_
    have hv := modF_no (k := k) (Ts := Ts) (L := L) (fun h => hk (by rcases h.1 with h | h; exact .inl h.1; exact .inr h.1))
    dsimp only
    rw [hv]
    exact ⟨rfl, rfl, ⟨rfl, rfl⟩, trivial⟩
end Go.Sh

set_option linter.unusedVariables false
set_option linter.unusedSimpArgs false
namespace Go.Sh
open Go.Proofs Go.Sort Go.Shelf Go.RowKit
/-! ### rows of cells in their place -/
theorem holds_row {w : World} {own : Nat → Option Key} {key : Option Key} {A : Option Addr} {cap sz : Nat} {rows : Flat} {b off : Nat} {arr : Array Value} {T : TypeId} (h : FlatOk w own key A cap sz rows) (hA : A = some ⟨b, off, none⟩) (hh : w.heap[b]? = some (.cells arr T (0, 0))) :
    Holds id w b off (cellsR rows).toArray := by
  intro t ht
  have ht0 := ht
  have ht : t < rows.flatten.length := by rw [List.size_toArray, cellsR, List.length_map] at ht; exact ht
  have hlen : rows.flatten.length = rows.length * sz := flat_len h.even
  have h0 : 0 < sz := h.pos
  have hi : t / sz < rows.length := by rw [Nat.div_lt_iff_lt_mul h0]; omega
  have hj : t % sz < sz := Nat.mod_lt _ h0
  have hrow : rows[t / sz]? = some rows[t / sz] := List.getElem?_eq_getElem hi
  have hrl := h.even _ _ hrow
  have hcell : (rows[t / sz])[t % sz]? = some (rows[t / sz])[t % sz] := List.getElem?_eq_getElem (by omega)
  obtain ⟨ad, h1, _, h2⟩ := h.cell _ _ _ _ hrow hcell
  rw [hA] at h1
  injection h1 with h1
  subst h1
  have hq : t / sz * sz + t % sz = t := by rw [Nat.mul_comm]; exact Nat.div_add_mod t sz
  have hfl := flat_get h.even (t / sz) (t % sz) _ hrow hj
  rw [hq, hcell] at hfl
  rw [hq, Addr.add_plain] at h2
  refine ⟨?_, by simp [World.frozen?, hh]⟩
  have ht' : t < (cellsR rows).toArray.size := ht0
  rw [getElem!_pos _ t ht', h2]
  have hz : (cellsR rows)[t]? = some (rows[t / sz])[t % sz].val := by unfold cellsR; rw [List.getElem?_map, hfl]; rfl
  have hz2 := List.getElem?_eq_getElem (l := cellsR rows) (i := t) (by simpa using ht')
  rw [hz2] at hz
  injection hz with hz
  simp [hz]
theorem splice_all {α : Type} {l m : List α} (h : m.length = l.length) : splice l 0 m = m := by
  apply List.ext_getElem?
  intro i
  rw [splice_get l 0 m i (by omega)]
  by_cases hi : i < m.length
  · rw [if_pos ⟨by omega, by omega⟩]; simp
  · rw [if_neg (by omega), List.getElem?_eq_none (by omega), List.getElem?_eq_none (by omega)]
theorem put_splice {off : Nat} {arr : Array Value} {cs : List Value} (h : off + cs.length ≤ arr.size) : putCells id off cs.toArray arr = (splice arr.toList off cs).toArray := by
  apply Array.ext'
  apply List.ext_getElem?
  intro i
  rw [List.toList_toArray, splice_get _ _ _ _ (by simpa using h)]
  rw [Array.getElem?_toList]
  unfold putCells
  rw [Array.getElem?_mapIdx]
  by_cases hi : off ≤ i ∧ i < off + cs.length
  · rw [if_pos hi, Array.getElem?_eq_getElem (by omega), Option.map_some, if_pos (by simpa using hi), getElem!_pos _ _ (by simp; omega), List.getElem?_eq_getElem (by omega)]
    simp
  · rw [if_neg hi, Array.getElem?_toList]
    cases hq : arr[i]? with
    | none => rfl
    | some x => rw [Option.map_some, if_neg (by simpa using hi)]
/-- behind a call that laid a row of cells in its place -/
theorem put_row {w w' : World} {own : Nat → Option Key} {key : Key} {A : Option Addr} {cap sz : Nat} {rows' : Flat} {b off : Nat} {arr : Array Value} {T : TypeId} {q : Nat} {os : Array Obj} (ho : own b = some key) (hh : w.heap[b]? = some (.cells arr T (0, 0))) (hs : off + (cellsR rows').length ≤ arr.size)
    (hlay : FlatOk (w.setRow b (splice arr.toList off (cellsR rows')).toArray) own (some key) A cap sz rows') (hown : ∀ b k, own b = some k → b < w.heap.size)
    (hw : w' = grow (putRow id (Sort.ahead w q) b off (cellsR rows').toArray) os) : Frm (fun b => own b = some key) w w' ∧ FlatOk w' own (some key) A cap sz rows' := by
  subst hw
  have hb : b < w.heap.size := hown b _ ho
  have hheap : ∀ x, x < w.heap.size → (grow (putRow id (Sort.ahead w q) b off (cellsR rows').toArray) os).heap[x]? = (w.heap[x]?).map fun o => if x = b then onCells (putCells id off (cellsR rows').toArray) o else o := fun x hx => by
    show ((w.heap.modify b (onCells (putCells id off (cellsR rows').toArray))) ++ os)[x]? = _
    rw [Array.getElem?_append_left (by simpa using hx), Array.getElem?_modify]
    by_cases e : b = x
    · simp [e]
    · have : ¬ x = b := fun h => e h.symm
      simp [e, this]
  refine ⟨⟨rfl, .of rfl, rfl, ?_, fun x hx hn => ?_⟩, hlay.mono id fun x hx hx2 => ⟨hx2, ?_⟩⟩
  · show w.heap.size ≤ ((w.heap.modify b _) ++ os).size
    simp
  · rw [hheap x hx]
    have : x ≠ b := fun e => hn (by rw [e]; exact ho)
    simp [this]
  · have hx' : x < w.heap.size := hown x _ hx2
    rw [hheap x hx']
    by_cases e : x = b
    · subst e
      rw [hh, World.setRow]
      show _ = (w.heap.modify x _)[x]?
      rw [Array.getElem?_modify, if_pos rfl, hh]
      simp [onCells]
      exact put_splice hs
    · rw [World.setRow]
      show _ = (w.heap.modify b _)[x]?
      rw [Array.getElem?_modify, if_neg (fun h => e h.symm)]
      simp [e]
/-! ### edges -/
def encE (p : Ed) : List Value := [.int .i64 p.1, .int .i64 p.2]
theorem edges_even (l : List Ed) : ∀ (i : Nat) (row : Row), (edges l)[i]? = some row → row.length = 2 := fun i row h => by
  simp only [edges, List.getElem?_map, Option.map_eq_some_iff] at h
  obtain ⟨x, _, rfl⟩ := h
  rfl
theorem flatK_edges (l : List Ed) : flatK encE 2 l.toArray = (cellsR (edges l)).toArray := by
  apply Array.ext'
  show (flatK encE 2 l.toArray).toList = cellsR (edges l)
  induction l with
  | nil => simp [flatK, cellsR, edges]
  | cons p l ih =>
    have e : cellsR (edges (p :: l)) = encE p ++ cellsR (edges l) := rfl
    rw [e, ← ih]
    simp only [flatK, List.size_toArray, List.length_cons, Array.toList_map, Array.toList_range]
    rw [show (l.length + 1) * 2 = 2 + l.length * 2 by omega, List.range_add, List.map_append, List.map_map]
    congr 1
    refine List.map_congr_left fun t ht => ?_
    have h1 : (2 + t) / 2 = t / 2 + 1 := by omega
    have h2 : (2 + t) % 2 = t % 2 := by omega
    simp only [Function.comp, h1, h2]
    congr 1
    simp
/-! ### graph.Normal's closure -/
theorem frm_grow [Fwd] (hD : Fwd.D) {w w' : World} (h : Frm (fun _ => False) w w') : ∃ q os, w' = grow (w.drewN q) os := by
  refine ⟨w'.drawn - w.drawn, w'.heap.extract w.heap.size w'.heap.size, ?_⟩
  have hd : w.drawn ≤ w'.drawn := h.tape.2 hD
  have hh : w'.heap = w.heap ++ w'.heap.extract w.heap.size w'.heap.size := by
    apply Array.ext_getElem?
    intro i
    have hs := h.size
    rcases Nat.lt_or_ge i w.heap.size with hi | hi
    · rw [Array.getElem?_append_left hi]; exact h.block i hi (fun h => h)
    · rw [Array.getElem?_append_right hi, Array.getElem?_extract]
      split
      · congr 1; omega
      · rw [Array.getElem?_eq_none]; omega
  have h1 := h.os; have h2 := h.tape.1; have h3 := h.output
  obtain ⟨a1, a2, a3, a4, a5⟩ := w
  obtain ⟨b1, b2, b3, b4, b5⟩ := w'
  simp only at h1 h2 h3 hd
  subst h1 h2 h3
  unfold grow World.drewN
  simp only at hh ⊢
  rw [← hh]
  congr 1
  omega
/-! ### slices.SortFunc on edges -/
theorem ltOf_iff (x y : Ed) : ltOf cmpE x y = decide (ltE x y) := by
  unfold ltOf
  exact decide_eq_decide.2 (cmpE_lt x y)
theorem ltOf_t {x y : Ed} : ltOf cmpE x y = true ↔ ltE x y := by rw [ltOf_iff, decide_eq_true_iff]
theorem ltOf_f {x y : Ed} : ltOf cmpE x y = false ↔ ¬ ltE x y := by rw [ltOf_iff, decide_eq_false_iff_not]
theorem swoE : SWO (ltOf cmpE) where
  irrefl x := by rw [ltOf_f]; unfold ltE; omega
  trans x y z h1 h2 := by rw [ltOf_t] at *; unfold ltE at *; omega
  ntrans x y z h1 h2 := by rw [ltOf_f] at *; unfold ltE at *; omega
theorem totE (x y : Ed) (h1 : ltOf cmpE x y = false) (h2 : ltOf cmpE y x = false) : x = y := by
  rw [ltOf_f] at *; unfold ltE at *
  exact Prod.ext (by omega) (by omega)
def sortE (l : List Ed) : List Ed := l.mergeSort fun x y => !(ltOf cmpE) y x
theorem sortE_perm (l : List Ed) : (sortE l).Perm l := List.mergeSort_perm l _
theorem sortE_sorted (l : List Ed) : (sortE l).Pairwise fun x y => ¬ ltE y x := by
  have := List.pairwise_mergeSort (le := fun x y : Ed => !(ltOf cmpE) y x) (fun a b c h1 h2 => by
    simp only [Bool.not_eq_true', ltOf_f] at *; unfold ltE at *; omega) (fun a b => by
    simp only [Bool.or_eq_true, Bool.not_eq_true', ltOf_f]; unfold ltE; omega) l
  exact this.imp fun h => by simpa only [Bool.not_eq_true', ltOf_f] using h
open Classical in
noncomputable def sortF (l : Flat) : Flat := if h : ∃ E : List Ed, l = edges E then edges (sortE h.choose) else l
theorem sortF_edges (E : List Ed) : sortF (edges E) = edges (sortE E) := by
  have h : ∃ E' : List Ed, edges E = edges E' := ⟨E, rfl⟩
  unfold sortF
  rw [dif_pos h, ← edges_inj h.choose_spec]
end Go.Sh

set_option linter.unusedVariables false
set_option linter.unusedSimpArgs false
namespace Go.Sh
open Go.Proofs
/-! ### graph.Normal -/
theorem edges_set (l : List Ed) (i : Nat) (x : Ed) : (edges l).set i [.i .i64 x.1, .i .i64 x.2] = edges (l.set i x) := by simp [edges, List.map_set]
theorem take_spl {α : Type} (l m : List α) (i : Nat) (h : i + m.length ≤ l.length) : (splice l i m).take i = l.take i := by
  apply List.ext_getElem?
  intro j
  rw [List.getElem?_take, List.getElem?_take]
  split
  · rw [splice_get _ _ _ _ h, if_neg (by omega)]
  · rfl
end Go.Sh

set_option linter.unusedVariables false
set_option linter.unusedSimpArgs false
namespace Go.Sh
open Go.Proofs Go.Sort Go.Shelf Go.RowKit
/-! ### topo.Edges -/
theorem CloE_p [Fwd] : SoundP Try.prog 69 (conF (fun _ : Ed × Ed => True) (fun a => [edV a.1, edV a.2]) (fun a => .one (.s (.i .i64 (cmpE a.1 a.2))))) := by
  refine con_pure (X := { Γ := [(71, CompareC), (70, OrC)], T := T, nt := 17 }) cr_none hmix hT (sound_cons Compare_ok (sound_cons Or_ok sound_nil)) Try.func69 (by rfl) (by rfl) (by rfl) 4 ?_
  rintro ⟨⟨a, b⟩, ⟨c, d⟩⟩ -
  refine ⟨⟨Nat.le_of_ble_eq_true rfl, Nat.le_of_ble_eq_true rfl⟩, ?_⟩
  refine Call.by _ _ (CompareC_at _ _) ?_
  refine Call.by _ _ (CompareC_at _ _) ?_
  refine Call.by _ _ (OrC_at (l := [cmpI a c, cmpI b d]) (by simp)) ?_
  refine Seg.by (by kernel_rfl) ?_
  refine ⟨rfl, ?_⟩
  show _ = _
  rfl
theorem cloE_call (x y : Ed) (W : World) : Calls Try.prog 69 #[.agg (encE x).toArray, .agg (encE y).toArray] W fun e w' => e = .returned (.int .i64 (cmpE x y)) ∧ ∃ q os', w' = grow (W.drewN q) os' := by
  letI : Fwd := ⟨True⟩
  have hz : ∀ (q : Nat) (z : Sc), CellOk W noLab q (.s z) z.val := fun q z => ⟨⟨none, 0, fun _ => none, fun _ => 0⟩, rfl⟩
  have hF : conF (fun _ : Ed × Ed => True) (fun a => [edV a.1, edV a.2]) (fun a => V.one (C.s (.i .i64 (cmpE a.1 a.2)))) [edV x, edV y] = some (.one (.s (.i .i64 (cmpE x y))), []) := compareC_at x y
  refine (CloE_p _ _ _ hF W #[.agg (encE x).toArray, .agg (encE y).toArray] ⟨⟨_, rfl, hz _ _, hz _ _, trivial⟩, ⟨_, rfl, hz _ _, hz _ _, trivial⟩, trivial⟩).mono ?_
  rintro e w' ⟨u, lab, rfl, hf, _, hu⟩
  obtain ⟨p, hu⟩ := hu
  refine ⟨?_, frm_grow trivial hf⟩
  show Ending.returned u = _
  rw [show u = (Sc.i .i64 (cmpE x y)).val from hu]
  rfl
theorem SortE_row : RowFnCall Try.prog 68 69 2 (fun l => ∃ E : List Ed, l = edges E ∧ E.length ≤ 1000000) sortF := by
  refine ⟨⟨_, Try.func68, by decide, by simp [Try.f68]⟩, ?_, ?_⟩
  · rintro l ⟨E, rfl, _⟩
    rw [sortF_edges, edges_length, edges_length, (sortE_perm E).length_eq]
  · rintro l ⟨E, rfl, hE⟩ w own key A cap h hown
    rw [sortF_edges]
    rcases Nat.eq_zero_or_pos E.length with h0 | h0
    · have : E = [] := List.eq_nil_of_length_eq_zero h0
      subst this
      refine (AnyF.slices_SortFunc_none Try.laysSortF A cap _ w).mono ?_
      rintro e w' ⟨rfl, rfl⟩
      exact ⟨rfl, Frm.refl _ _, by simpa [sortE] using h⟩
    · have hlen : (edges (sortE E)).length = (edges E).length := by rw [edges_length, edges_length, (sortE_perm E).length_eq]
      obtain ⟨b, off, arr, T, hA, ho, hh, hs, hlay⟩ := h.lay (lo := 0) (S := edges (sortE E)) (by omega) (by rw [hlen, edges_length]; exact h0) (edges_even _)
      rw [Nat.zero_mul, Nat.add_zero] at hs hlay
      rw [splice_all hlen] at hlay
      have hH : HoldsK encE 2 w b off E.toArray := by
        unfold HoldsK
        rw [flatK_edges]
        exact holds_row h hA hh
      have eg : ∀ args w, (callFunc 69 args).run Try.prog w = .ok (.enter 69 args) w := enters_of Try.func69 (by kernel_rfl) rfl
      subst hA
      rw [edges_length]
      refine (AnyQ.slices_SortFunc_total Try.laysSortF 2 Try.isAgg77 Try.sizeOf77 encE (fun _ => rfl) (fun x v hv => by simp [encE] at hv; rcases hv with rfl | rfl <;> rfl) cmpE swoE 69 #[] b off cap E.toArray w eg (fun _ _ _ _ x y => cloE_call x y _) hH (hown b _ ho) (by simp; omega) totE).mono ?_
      rintro e w' ⟨rfl, q, os, hw⟩
      have hw2 : w' = grow (putRow id (Sort.ahead w q) b off (cellsR (edges (sortE E))).toArray) os := by rw [hw, sortWorldK, putRowK, ← flatK_edges]; rfl
      obtain ⟨h1, h2⟩ := put_row (q := q) (os := os) ho hh hs hlay hown hw2
      exact ⟨rfl, h1, h2⟩

theorem segsR_length (p : List Int) : (segsR p).length = p.length - 1 := by simp [segsR]
theorem segsR_take {p : List Int} {j : Nat} (h : j + 1 < p.length) : (segsR p).take (j + 1) = (segsR p).take j ++ [edN (p.getD j 0, p.getD (j + 1) 0)] := by
  have hl : j < (segsR p).length := by rw [segsR_length]; omega
  rw [List.take_succ_eq_append_getElem hl]
  congr 2
  simp [segsR]
theorem segs_snoc (L : List (List Int)) (p : List Int) : segs (L ++ [p]) = segs L ++ segsR p := by simp [segs]
theorem segs_length {m : Nat} : ∀ {L : List (List Int)}, (∀ p ∈ L, p.length ≤ m) → (segs L).length ≤ L.length * m
  | [], _ => by simp [segs]
  | p :: L, h => by
    have ih := segs_length (m := m) (L := L) fun x hx => h x (List.mem_cons_of_mem _ hx)
    have h1 := h p (by simp)
    have h2 := segsR_length p
    unfold segs at ih ⊢
    rw [List.flatMap_cons, List.length_append, List.length_cons, Nat.succ_mul]
    omega
noncomputable def EdgC : Con := conP 1 (fun a : Int × List Int × List (List Int) => fewL a.2.2) (fun a => [sbV false a.1 a.2.1 a.2.2]) (fun a => .one (.flat true 2 (edges (insAll (segs a.2.2)))))
theorem EdgC_at {k : Int} {Ts : List Int} {L : List (List Int)} (h : fewL L) : EdgC.F [sbV false k Ts L] = some (.one (.flat true 2 (edges (insAll (segs L)))), []) :=
  conP_at (a := (k, Ts, L)) (fun a b _ _ h => by
    obtain ⟨k, Ts, L⟩ := a
    obtain ⟨k', Ts', L'⟩ := b
    simp at h
    obtain ⟨rfl, rfl, rfl⟩ := sbV_inj h
    rfl) h
noncomputable def XEdg : Cx := { Γ := [], T := T, nt := 50, inl := [(72, inlF Try.f72)], ext := [68], base := rowFnCR 68 69 2 (fun l => ∃ E : List Ed, l = edges E ∧ E.length ≤ 1000000) sortF }
theorem XEdg_ok : CrOk Try.prog (callAt 1 XEdg) := callAt_ok hmix hT sound_nil (inl_cons Try.func72 (by rfl) (by rfl) (by rfl) inl_nil) (rowFn_ok SortE_row) 1
set_option maxHeartbeats 2000000 in
theorem Edg_ok : SoundC Try.prog T 34 EdgC := by
  refine sound_con (X := XEdg) (cr := callAt 1 XEdg) XEdg_ok hmix hT sound_nil Try.func34 (by rfl) (by rfl) (by rfl) (by rfl) 3 ?_
  rintro ⟨k, Ts, K⟩ ⟨hK, hKr⟩
  dsimp only at hK hKr ⊢
  refine ⟨⟨Nat.le_of_ble_eq_true rfl, Nat.le_of_ble_eq_true rfl⟩, ?_⟩
  refine LoopP.intro (α := Nat) (fun i => i ≤ K.length) (fun i => K.length - i) (fun i => [(1, .ptr 0 0), (3, .sl 3 none none), (8, .sl 2 none none), (9, .s (.i .i64 K.length)), (10, .s (.i .i64 i))])
    (fun i => [(0, some (.blk [.s (.i .i64 k), .sl 1 none none, .sl 2 none none])), (1, some (.flat false 1 (ints Ts))), (2, some (.nest false 1 (rowsI K) [] [])), (3, some (.flat true 2 (edges (segs (K.take i)))))]) 4 0 (by omega) (by refine Weak.by [(0, some _), (1, some _), (2, some _), (3, none)] (by ((repeat' first | exact rfl | exact trivial | refine And.intro ?_ ?_) <;> (repeat' first | exact rfl | exact trivial | refine And.intro ?_ ?_)); all_goals (exact sc_eq (by rw [rowsI_length]))) (by ((repeat' first | exact rfl | exact trivial | refine And.intro ?_ ?_) <;> (repeat' first | exact rfl | exact trivial | refine And.intro ?_ ?_)); all_goals (exact sc_eq (by rw [rowsI_length]))) (by rfl)) ?_
  rintro i hi
  have hsl : (segs (K.take i)).length ≤ 500000 := by
    have := segs_length (L := K.take i) (m := 5000) fun p hp => hKr p (List.mem_of_mem_take hp)
    rw [List.length_take] at this
    have : min i K.length ≤ 100 := by omega
    have := Nat.mul_le_mul_right 5000 this
    omega
  refine Pick.by (fun hc => ?_) (fun hc => ?_)
  · have hlt : i < K.length := by have := of_decide_eq_true hc; omega
    obtain ⟨p, hp⟩ : ∃ p, K[i] = p := ⟨_, rfl⟩
    have hpl := hKr _ (List.getElem_mem hlt)
    rw [hp] at hpl
    have hpg : (rowsI K)[i]? = some (ints p) := rowsI_get (by rw [List.getElem?_eq_getElem hlt, hp])
    refine Idx.by i rfl (by rw [rowsI_length]; exact hlt) ?_
    refine Pick.T (by simpa [rowsI_length] using hlt) ?_
    refine Look.by _ hpg ?_
    refine Pick.T (inI64_of (by rw [ints_length]; omega) (by rw [ints_length]; omega)) ?_
    refine LoopP.intro (α := Nat) (fun j => j ≤ p.length - 1) (fun j => p.length - j) (fun j => [(1, .ptr 0 0), (3, .sl 3 none none), (5, .sl 2 (some (i, 0)) none), (8, .sl 2 none none), (9, .s (.i .i64 K.length)), (10, .s (.i .i64 i)), (16, .s (.i .i64 ((p.length : Int) - 1))), (17, .s (.i .i64 j))])
      (fun j => [(0, some (.blk [.s (.i .i64 k), .sl 1 none none, .sl 2 none none])), (1, some (.flat false 1 (ints Ts))), (2, some (.nest false 1 (rowsI K) [] [])), (3, some (.flat true 2 (edges (segs (K.take i) ++ (segsR p).take j))))]) 4 0 (by omega) (by refine Weak.by [(0, some _), (1, some _), (2, some _), (3, some _)] (by ((repeat' first | exact rfl | exact trivial | refine And.intro ?_ ?_) <;> (repeat' first | exact rfl | exact trivial | refine And.intro ?_ ?_)); all_goals ((first | exact sc_eq (by rw [ints_length]) | (rw [List.take_zero, List.append_nil]; done) | (simp; done)))) (by ((repeat' first | exact rfl | exact trivial | refine And.intro ?_ ?_) <;> (repeat' first | exact rfl | exact trivial | refine And.intro ?_ ?_)); all_goals ((first | exact sc_eq (by rw [ints_length]) | (rw [List.take_zero, List.append_nil]; done) | (simp; done)))) (by rfl)) ?_
    rintro j hj
    refine Pick.by (fun hc2 => ?_) (fun hc2 => ?_)
    · have hjl : j + 1 < p.length := by have := of_decide_eq_true hc2; omega
      have g0 : p[j]? = some (p.getD j 0) := by rw [List.getD_eq_getElem?_getD, List.getElem?_eq_getElem (by omega)]; rfl
      have g1 : p[j + 1]? = some (p.getD (j + 1) 0) := by rw [List.getD_eq_getElem?_getD, List.getElem?_eq_getElem (by omega)]; rfl
      have hsr := segsR_length p
      have htl : ((segsR p).take j).length ≤ 5000 := by rw [List.length_take]; omega
      have e1 : ∀ {x : Int}, x = (j : Int) + 1 → x = ((j + 1 : Nat) : Int) := fun h => by omega
      refine Look.by _ hpg ?_
      refine Idx.by j rfl (by rw [ints_length]; omega) ?_
      refine Look.by _ hpg ?_
      refine Look.by _ (ints_get g0) ?_
      refine Pick.T (inI64_of (by omega) (by omega)) ?_
      refine Look.by _ hpg ?_
      refine Idx.by (j + 1) (by omega) (by rw [ints_length]; omega) ?_
      refine Look.by _ hpg ?_
      refine Look.by _ (ints_get g1) ?_
      refine Look.by _ hpg ?_
      refine Idx.by j rfl (by rw [ints_length]; omega) ?_
      refine Look.by _ hpg ?_
      refine Look.by _ (ints_get g0) ?_
      refine Pick.T (inI64_of (by omega) (by omega)) ?_
      refine Look.by _ hpg ?_
      refine Idx.by (j + 1) (by omega) (by rw [ints_length]; omega) ?_
      refine Look.by _ hpg ?_
      refine Look.by _ (ints_get g1) ?_
      refine Pick.T (by simp [cut, edges_length]; omega) ?_
      refine Seg.by (by kernel_rfl) ?_
      refine Pick.T (inI64_of (by omega) (by omega)) ?_
      refine Next.by (j + 1) (by omega) (by omega) (by refine Weak.by [(0, some _), (1, some _), (2, some _), (3, some _)] (by ((repeat' first | exact rfl | exact trivial | refine And.intro ?_ ?_) <;> (repeat' first | exact rfl | exact trivial | refine And.intro ?_ ?_)); all_goals ((first | (rw [segsR_take hjl, ← List.append_assoc, edges_snoc]; rfl) | (simp; done)))) (by ((repeat' first | exact rfl | exact trivial | refine And.intro ?_ ?_) <;> (repeat' first | exact rfl | exact trivial | refine And.intro ?_ ?_)); all_goals ((first | (rw [segsR_take hjl, ← List.append_assoc, edges_snoc]; rfl) | (simp; done)))) (by rfl))
    · have hjg : p.length - 1 ≤ j := by have := of_decide_eq_false hc2; omega
      have htk : (segsR p).take j = segsR p := List.take_of_length_le (by rw [segsR_length]; exact hjg)
      rw [htk]
      refine Pick.T (inI64_of (by omega) (by omega)) ?_
      refine Next.by (i + 1) (by omega) (by omega) (by refine Weak.by [(0, some _), (1, some _), (2, some _), (3, some _)] (by ((repeat' first | exact rfl | exact trivial | refine And.intro ?_ ?_) <;> (repeat' first | exact rfl | exact trivial | refine And.intro ?_ ?_)); all_goals ((rw [List.take_succ_eq_append_getElem hlt, hp, segs_snoc]))) (by ((repeat' first | exact rfl | exact trivial | refine And.intro ?_ ?_) <;> (repeat' first | exact rfl | exact trivial | refine And.intro ?_ ?_)); all_goals ((rw [List.take_succ_eq_append_getElem hlt, hp, segs_snoc]))) (by rfl))
  have hge : K.length ≤ i := by have := of_decide_eq_false hc; omega
  rw [List.take_of_length_le hge] at hsl ⊢
  refine ⟨rfl, rfl, _, rfl, ⟨_, rfl, by omega⟩, ?_⟩
  rw [sortF_edges]
  obtain ⟨L, hL⟩ : ∃ L, L = sortE (segs K) := ⟨_, rfl⟩
  have hLl : L.length ≤ 1000000 := by rw [hL, (sortE_perm _).length_eq]; omega
  have hLs : L.Pairwise fun x y => ¬ ltE y x := by rw [hL]; exact sortE_sorted _
  have hLm : ∀ M : List Ed, M.Pairwise ltE → (∀ x, x ∈ M ↔ x ∈ L) → M = insAll (segs K) := fun M h1 h2 => insAll_of h1 fun x => by rw [h2, hL, (sortE_perm _).mem_iff]
  rw [← hL]
  clear hL
  refine Pick.by (fun h6 => ?_) (fun h6 => ?_)
  · have h6 : L.length < 2 := by simp [edges_length] at h6; omega
    have hfin : L = insAll (segs K) := hLm L (by
      match L, h6 with
      | [], _ => exact List.Pairwise.nil
      | [a], _ => simp) (fun x => Iff.rfl)
    rw [hfin]
    exact ⟨rfl, rfl, rfl⟩
  have h6 : ¬ L.length < 2 := by simp [edges_length] at h6; omega
  refine LoopP.intro (α := Nat) (fun k => 1 ≤ k ∧ k ≤ L.length ∧ (L.take k).Pairwise ltE) (fun k => L.length - k) (fun k => [(0, .sl 0 none none), (3, .s (.i .i64 k))])
    (fun k => [(0, some (.flat true 2 (edges L)))]) 1 1 ⟨by omega, by omega, ?_⟩ (by refine Weak.by [(0, some _)] (by ((repeat' first | exact rfl | exact trivial | refine And.intro ?_ ?_) <;> (repeat' first | exact rfl | exact trivial | refine And.intro ?_ ?_))) (by ((repeat' first | exact rfl | exact trivial | refine And.intro ?_ ?_) <;> (repeat' first | exact rfl | exact trivial | refine And.intro ?_ ?_))) (by rfl)) ?_
  · rw [List.take_one]; cases L[0]? <;> simp
  rintro k ⟨hk1, hk, hp⟩
  refine Pick.by (fun h7 => ?_) (fun h7 => ?_)
  · have hkl : k < L.length := by simp [edges_length] at h7; omega
    refine Idx.by k rfl (by rw [edges_length]; exact hkl) ?_
    refine Look.by _ (edges_get (List.getElem?_eq_getElem hkl)) ?_
    refine Pick.T (inI64_of (by omega) (by omega)) ?_
    refine Idx.by (k - 1) (by omega) (by rw [edges_length]; omega) ?_
    refine Look.by _ (edges_get (List.getElem?_eq_getElem (show k - 1 < L.length by omega))) ?_
    refine Seg.by (by kernel_rfl) ?_
    have hsorted := List.pairwise_iff_getElem.1 hLs
    refine Pick.by (fun h8 => ?_) (fun h8 => ?_)
    · have h8 : L[k].1 = L[k - 1].1 ∧ L[k].2 = L[k - 1].2 := by simpa using h8
      have h8 : L[k] = L[k - 1] := Prod.ext h8.1 h8.2
      refine Rng.by k L.length rfl (by rw [edges_length]) (by omega) (by rw [edges_length]; omega) ?_
      refine LoopP.intro (α := Nat × Nat × List Ed) (fun p => 1 ≤ p.1 ∧ p.1 < k + p.2.1 ∧ 1 ≤ p.2.1 ∧ k + p.2.1 ≤ L.length ∧ p.2.2.length = L.length ∧ (p.2.2.take p.1).Pairwise ltE ∧ (∀ x, x ∈ p.2.2.take p.1 ↔ x ∈ L.take (k + p.2.1)) ∧ p.2.2[p.1 - 1]? = L[k + p.2.1 - 1]? ∧ ∀ j, k + p.2.1 - 1 ≤ j → p.2.2[j]? = L[j]?)
        (fun p => L.length - (k + p.2.1)) (fun p => [(0, .sl 0 none none), (3, .s (.i .i64 p.1)), (4, .sl 0 none (some (k, L.length - k))), (5, .s (.i .i64 p.2.1))])
        (fun p => [(0, some (.flat true 2 (edges p.2.2)))]) 1 (k, 1, L) ?_ (by refine Weak.by [(0, some _)] (by ((repeat' first | exact rfl | exact trivial | refine And.intro ?_ ?_) <;> (repeat' first | exact rfl | exact trivial | refine And.intro ?_ ?_))) (by ((repeat' first | exact rfl | exact trivial | refine And.intro ?_ ?_) <;> (repeat' first | exact rfl | exact trivial | refine And.intro ?_ ?_))) (by rfl)) ?_
      · refine ⟨hk1, by simp only; omega, by simp, by simp only; omega, rfl, hp, fun x => ?_, ?_, fun j _ => rfl⟩
        · show x ∈ L.take k ↔ x ∈ L.take (k + 1)
          rw [List.take_succ_eq_append_getElem hkl, List.mem_append]
          constructor
          · exact .inl
          · rintro (h | h)
            · exact h
            · simp at h
              rw [h, h8]
              exact List.mem_iff_getElem?.2 ⟨k - 1, by rw [List.getElem?_take, if_pos (by omega), List.getElem?_eq_getElem]⟩
        · show L[k - 1]? = L[k + 1 - 1]?
          rw [show k + 1 - 1 = k by omega, List.getElem?_eq_getElem hkl, List.getElem?_eq_getElem (by omega), h8]
      rintro ⟨kk, k2, M⟩ ⟨g1, g2, g3, g4, g5, g6, g7, g8, g9⟩
      dsimp only at g1 g2 g3 g4 g5 g6 g7 g8 g9
      refine Pick.by (fun h9 => ?_) (fun h9 => ?_)
      · have h9 : k + k2 < L.length := by simp at h9; omega
        have e1 : M[k + k2]? = some L[k + k2] := by rw [g9 _ (by omega)]; exact List.getElem?_eq_getElem h9
        have e2 : M[k + (k2 - 1)]? = some L[k + (k2 - 1)] := by rw [g9 _ (by omega)]; exact List.getElem?_eq_getElem (by omega)
        refine Idx.by k2 rfl (by omega) ?_
        refine Look.by _ (edges_get e1) ?_
        refine Pick.T (inI64_of (by dsimp only; omega) (by dsimp only; omega)) ?_
        refine Idx.by (k2 - 1) (by dsimp only; omega) (by omega) ?_
        refine Look.by _ (edges_get e2) ?_
        refine Seg.by (by kernel_rfl) ?_
        have e3 : L[k + (k2 - 1)] = L[k + k2 - 1] := by congr 1; omega
        refine Pick.by (fun h10 => ?_) (fun h10 => ?_)
        · have h10 : L[k + k2] ≠ L[k + (k2 - 1)] := fun h => by rw [h] at h10; simp at h10
          have hlt : ltE L[k + (k2 - 1)] L[k + k2] := by
            have h11 := hsorted (k + (k2 - 1)) (k + k2) (by omega) h9 (by omega)
            unfold ltE at h11 ⊢
            rcases Int.lt_trichotomy L[k + k2].1 L[k + (k2 - 1)].1 with h | h | h
            · omega
            · rcases Int.lt_trichotomy L[k + k2].2 L[k + (k2 - 1)].2 with h' | h' | h'
              · omega
              · exact absurd (Prod.ext h h') h10
              · omega
            · omega
          refine Idx.by k2 rfl (by omega) ?_
          refine Look.by _ (edges_get e1) ?_
          have hkM : kk < M.length := by omega
          refine Idx.by kk rfl (by rw [edges_length]; exact hkM) ?_
          refine Look.by _ (edges_get (List.getElem?_eq_getElem hkM)) ?_
          refine Pick.T (inI64_of (by dsimp only; omega) (by dsimp only; omega)) ?_
          refine Pick.T (inI64_of (by dsimp only; omega) (by dsimp only; omega)) ?_
          have hsp : (M.set kk L[k + k2]).take (kk + 1) = M.take kk ++ [L[k + k2]] := by
            rw [List.take_succ_eq_append_getElem (by rw [List.length_set]; exact hkM), List.getElem_set_self, List.take_set_of_le (Nat.le_refl _)]
          have hlast : M[kk - 1]? = some L[k + (k2 - 1)] := by rw [g8, show k + k2 - 1 = k + (k2 - 1) by omega]; exact List.getElem?_eq_getElem (by omega)
          refine Next.by (kk + 1, k2 + 1, M.set kk L[k + k2]) ⟨by dsimp only; omega, by dsimp only; omega, by dsimp only; omega, by dsimp only; omega, by simpa using g5, ?_, fun x => ?_, ?_, fun j hj => ?_⟩ (by dsimp only; omega) (by refine Weak.by [(0, some _)] (by ((repeat' first | exact rfl | exact trivial | refine And.intro ?_ ?_) <;> (repeat' first | exact rfl | exact trivial | refine And.intro ?_ ?_)); all_goals ((rw [← edges_set]; rfl))) (by ((repeat' first | exact rfl | exact trivial | refine And.intro ?_ ?_) <;> (repeat' first | exact rfl | exact trivial | refine And.intro ?_ ?_)); all_goals ((rw [← edges_set]; rfl))) (by rfl))
          · show ((M.set kk L[k + k2]).take (kk + 1)).Pairwise ltE
            rw [hsp, List.pairwise_append]
            refine ⟨g6, by simp, fun a ha b hb => ?_⟩
            simp at hb
            subst hb
            obtain ⟨j, hj, rfl⟩ := List.mem_iff_getElem.1 ha
            rw [List.length_take] at hj
            rcases Nat.lt_or_ge j (kk - 1) with h | h
            · have h12 := List.pairwise_iff_getElem.1 g6 j (kk - 1) (by rw [List.length_take]; omega) (by rw [List.length_take]; omega) h
              have h13 : (M.take kk)[kk - 1]'(by rw [List.length_take]; omega) = L[k + (k2 - 1)] := by
                have : (M.take kk)[kk - 1]? = some L[k + (k2 - 1)] := by rw [List.getElem?_take, if_pos (by omega)]; exact hlast
                rw [List.getElem?_eq_getElem (by rw [List.length_take]; omega)] at this
                injection this
              rw [h13] at h12
              exact h12.trans hlt
            · have hj' : j = kk - 1 := by omega
              subst hj'
              have h13 : (M.take kk)[kk - 1]'(by rw [List.length_take]; omega) = L[k + (k2 - 1)] := by
                have : (M.take kk)[kk - 1]? = some L[k + (k2 - 1)] := by rw [List.getElem?_take, if_pos (by omega)]; exact hlast
                rw [List.getElem?_eq_getElem (by rw [List.length_take]; omega)] at this
                injection this
              rw [h13]
              exact hlt
          · show x ∈ (M.set kk L[k + k2]).take (kk + 1) ↔ x ∈ L.take (k + (k2 + 1))
            rw [hsp, List.mem_append, g7, show k + (k2 + 1) = k + k2 + 1 by omega, List.take_succ_eq_append_getElem h9, List.mem_append]
          · show (M.set kk L[k + k2])[kk + 1 - 1]? = L[k + (k2 + 1) - 1]?
            rw [show kk + 1 - 1 = kk by omega, show k + (k2 + 1) - 1 = k + k2 by omega, List.getElem?_set_self hkM]
            exact (List.getElem?_eq_getElem h9).symm
          · show (M.set kk L[k + k2])[j]? = L[j]?
            have hj : k + (k2 + 1) - 1 ≤ j := hj
            rw [List.getElem?_set_ne (by omega)]
            exact g9 j (by omega)
        · have h10 : L[k + k2] = L[k + (k2 - 1)] := by
            have h10 : L[k + k2].1 = L[k + (k2 - 1)].1 ∧ L[k + k2].2 = L[k + (k2 - 1)].2 := by simpa using h10
            exact Prod.ext h10.1 h10.2
          refine Pick.T (inI64_of (by dsimp only; omega) (by dsimp only; omega)) ?_
          refine Next.by (kk, k2 + 1, M) ⟨g1, by dsimp only; omega, by dsimp only; omega, by dsimp only; omega, g5, g6, fun x => ?_, ?_, fun j hj => g9 j (by dsimp only at hj; omega)⟩ (by dsimp only; omega) (by refine Weak.by [(0, some _)] (by ((repeat' first | exact rfl | exact trivial | refine And.intro ?_ ?_) <;> (repeat' first | exact rfl | exact trivial | refine And.intro ?_ ?_))) (by ((repeat' first | exact rfl | exact trivial | refine And.intro ?_ ?_) <;> (repeat' first | exact rfl | exact trivial | refine And.intro ?_ ?_))) (by rfl))
          · show x ∈ M.take kk ↔ x ∈ L.take (k + (k2 + 1))
            rw [g7, show k + (k2 + 1) = k + k2 + 1 by omega, List.take_succ_eq_append_getElem h9, List.mem_append]
            constructor
            · exact .inl
            · rintro (h | h)
              · exact h
              · simp at h
                rw [h, h10]
                exact List.mem_iff_getElem?.2 ⟨k + (k2 - 1), by rw [List.getElem?_take, if_pos (by omega), List.getElem?_eq_getElem]⟩
          · show M[kk - 1]? = L[k + (k2 + 1) - 1]?
            rw [g8, show k + (k2 + 1) - 1 = k + k2 by omega, List.getElem?_eq_getElem h9, List.getElem?_eq_getElem (by omega), h10, e3]
      have h9 : L.length = k + k2 := by simp at h9; omega
      refine Rng.by kk L.length rfl (by dsimp only; rw [edges_length, g5]) (by omega) (by dsimp only; rw [edges_length]; omega) ?_
      have hkL : kk ≤ (edges M).length := by rw [edges_length]; omega
      have hc1 : (cut (subOf none 0 kk L.length) (edges M)).length = L.length - kk := by
        show (((edges M).drop kk).take (L.length - kk)).length = _
        rw [List.length_take, List.length_drop, edges_length]; omega
      refine Pick.T (decide_eq_true (by
        show kk + (cut (subOf none 0 kk L.length) (edges M)).length ≤ (edges M).length
        rw [hc1, edges_length]; omega)) ?_
      have hnrm : M.take kk = insAll (segs K) := hLm _ g6 fun x => by rw [g7, ← h9, List.take_length]
      have hkn : (insAll (segs K)).length = kk := by rw [← hnrm, List.length_take]; omega
      have hb : kk + (List.replicate (cut (subOf none 0 kk L.length) (edges M)).length [Sc.i .i64 0, Sc.i .i64 0]).length ≤ (edges M).length := by rw [List.length_replicate, hc1, edges_length]; omega
      have hfl : (splice (edges M) kk (List.replicate (cut (subOf none 0 kk L.length) (edges M)).length [Sc.i .i64 0, Sc.i .i64 0])).take kk = edges (insAll (segs K)) := by
        rw [take_spl _ _ _ hb, ← hnrm]
        simp [edges, List.map_take]
      have hsl := splice_length (edges M) kk _ hb
      refine Rng.by 0 kk rfl rfl (by omega) (by
        show kk ≤ (splice (edges M) kk (List.replicate (cut (subOf none 0 kk L.length) (edges M)).length [Sc.i .i64 0, Sc.i .i64 0])).length
        rw [hsl]; exact hkL) ?_
      exact ⟨rfl, rfl, hfl.symm⟩
    have h8 : L[k] ≠ L[k - 1] := fun h => by rw [h] at h8; simp at h8
    refine Pick.T (inI64_of (by omega) (by omega)) ?_
    refine Next.by (k + 1) ⟨by omega, by omega, pw_step hkl hp (fun _ => ?_)⟩ (by show L.length - (k + 1) < L.length - k; omega) (by refine Weak.by [(0, some _)] (by ((repeat' first | exact rfl | exact trivial | refine And.intro ?_ ?_) <;> (repeat' first | exact rfl | exact trivial | refine And.intro ?_ ?_))) (by ((repeat' first | exact rfl | exact trivial | refine And.intro ?_ ?_) <;> (repeat' first | exact rfl | exact trivial | refine And.intro ?_ ?_))) (by rfl))
    have h11 := hsorted (k - 1) k (by omega) hkl (by omega)
    unfold ltE at h11 ⊢
    rcases Int.lt_trichotomy L[k].1 L[k - 1].1 with h | h | h
    · omega
    · rcases Int.lt_trichotomy L[k].2 L[k - 1].2 with h' | h' | h'
      · omega
      · exact absurd (Prod.ext h h') h8
      · omega
    · omega
  have hkl : k = L.length := by simp [edges_length] at h7; omega
  subst hkl
  rw [List.take_length] at hp
  have hfin : L = insAll (segs K) := hLm L hp fun x => Iff.rfl
  rw [hfin]
  exact ⟨rfl, rfl, rfl⟩
end Go.Sh

set_option linter.unusedVariables false
set_option linter.unusedSimpArgs false
namespace Go.Sh
open Go.Proofs Go.Sort Go.Shelf Go.RowKit
/-! ### slices.SortFunc on rows of numbers -/
theorem put_heap {α : Type} [Inhabited α] (enc : α → Value) (w : World) (q b off : Nat) (d : Array α) (os : Array Obj) {x : Nat} (hx : x < w.heap.size) :
    (grow (putRow enc (Sort.ahead w q) b off d) os).heap[x]? = (w.heap[x]?).map fun o => if x = b then onCells (putCells enc off d) o else o := by
  show ((w.heap.modify b (onCells (putCells enc off d))) ++ os)[x]? = _
  rw [Array.getElem?_append_left (by simpa using hx), Array.getElem?_modify]
  by_cases e : b = x
  · simp [e]
  · have : ¬ x = b := fun h => e h.symm
    simp [e, this]
noncomputable def sortL (cf : List Int → List Int → Int) (L : List (List Int)) : List (List Int) := L.mergeSort fun x y => !(ltOf cf) y x
theorem sortL_perm (cf : List Int → List Int → Int) (L : List (List Int)) : (sortL cf L).Perm L := List.mergeSort_perm L _
open Classical in
noncomputable def sortN (cf : List Int → List Int → Int) (l : List Flat) : List Flat := if h : ∃ L : List (List Int), l = rowsI L then rowsI (sortL cf h.choose) else l
theorem sortN_rows (cf : List Int → List Int → Int) (L : List (List Int)) : sortN cf (rowsI L) = rowsI (sortL cf L) := by
  have h : ∃ L' : List (List Int), rowsI L = rowsI L' := ⟨L, rfl⟩
  unfold sortN
  rw [dif_pos h, ← rowsI_inj h.choose_spec]
def sortNP (good : List Int → Prop) (cf : List Int → List Int → Int) (l : List Flat) : Prop := ∃ L : List (List Int), l = rowsI L ∧ (∀ r ∈ L, good r) ∧ L.Pairwise (fun x y => ltOf cf x y = true ∨ ltOf cf y x = true) ∧ L.length ≤ 1000000
theorem nest_sort {P : Program} {ρ : Ren} (LS : SlLaysF.n6 P ρ) {f c : Nat} (hf : ρ.f 6 = f) (hfn : ∃ fn, P.funcs[f]? = some fn ∧ fn.name ≠ "runtime.NumGoroutine" ∧ fn.body ≠ none)
    (eg : ∀ args w, (callFunc c args).run P w = .ok (.enter c args) w) (good : List Int → Prop) (cf : List Int → List Int → Int) (hO : SWO (ltOf cf))
    (hC : ∀ (x y : List Int) (A B : Option Addr) (ca cb : Nat) (W : World), good x → good y → FlatOk W noLab none A ca 1 (ints x) → FlatOk W noLab none B cb 1 (ints y) →
      Calls P c #[.slice A x.length ca, .slice B y.length cb] W fun e w' => e = .returned (.int .i64 (cf x y)) ∧ ∃ q os', w' = grow (W.drewN q) os') :
    NestFnCall P f c 1 (sortNP good cf) (sortN cf) := by
  refine ⟨hfn, ?_⟩
  rintro l ⟨L, rfl, hg, hD, hl⟩ w own n A cap rb rc h hown
  rw [sortN_rows]
  subst hf
  rcases Nat.eq_zero_or_pos L.length with h0 | h0
  · have : L = [] := List.eq_nil_of_length_eq_zero h0
    subst this
    refine (AnyF.slices_SortFunc_none { LS with } A cap _ w).mono ?_
    rintro e w' ⟨rfl, rfl⟩
    refine ⟨rfl, Frm.refl _ _, id, id, fun i hi => ⟨hi, rfl⟩, fun i hi => ⟨hi, rfl⟩, by simp [sortL], fun i fl hi => ?_, fun i fl hi => ?_, ?_⟩
    · simp [sortL, rowsI] at hi
    · simp [sortL, rowsI] at hi
    · rcases h.room rfl with ⟨h1, _⟩ | h1
      · exact .inl ⟨h1, by simp [sortL, rowsI]⟩
      · exact .inr h1
  · obtain ⟨m, hm⟩ : ∃ m, L.length = m + 1 := ⟨L.length - 1, by omega⟩
    rcases h.room rfl with ⟨_, h1⟩ | ⟨b, off, arr, T', hA, ho, hh, hsz⟩
    · have : L = [] := by simpa [rowsI] using h1
      rw [this] at h0; simp at h0
    have hbl : b < w.heap.size := hown b _ ho
    let el : Fin (m + 1) → List Int := fun i => L[i.1]'(by omega)
    let enc : Fin (m + 1) → Value := fun i => .slice (rb i.1) (el i).length (rc i.1)
    let cf' : Fin (m + 1) → Fin (m + 1) → Int := fun i j => cf (el i) (el j)
    have hfits := h.fits
    rw [rowsI_length] at hfits
    have hrow : ∀ i : Fin (m + 1), (rowsI L)[i.1]? = some (ints (el i)) := fun i => rowsI_get (List.getElem?_eq_getElem (by omega))
    have hmem : ∀ i : Fin (m + 1), el i ∈ L := fun i => List.getElem_mem _
    have hlt : ∀ i j : Fin (m + 1), ltOf cf' i j = ltOf cf (el i) (el j) := fun i j => rfl
    have hO' : SWO (ltOf cf') := ⟨fun x => hO.irrefl _, fun x y z => hO.trans _ _ _, fun x y z => hO.ntrans _ _ _⟩
    have hT : ∀ x y, (ltOf cf') x y = false → (ltOf cf') y x = false → x = y := fun x y h1 h2 => by
      rw [List.pairwise_iff_getElem] at hD
      rcases Nat.lt_trichotomy x.1 y.1 with hxy | hxy | hxy
      · have := hD x.1 y.1 (by omega) (by omega) hxy
        rw [hlt] at h1 h2
        rcases this with k | k
        · rw [show ltOf cf L[x.1] L[y.1] = false from h1] at k; simp at k
        · rw [show ltOf cf L[y.1] L[x.1] = false from h2] at k; simp at k
      · exact Fin.ext hxy
      · have := hD y.1 x.1 (by omega) (by omega) hxy
        rw [hlt] at h1 h2
        rcases this with k | k
        · rw [show ltOf cf L[y.1] L[x.1] = false from h2] at k; simp at k
        · rw [show ltOf cf L[x.1] L[y.1] = false from h1] at k; simp at k
    have hd : ((List.finRange (m + 1)).toArray).size = m + 1 := by simp
    have hcell : ∀ i : Fin (m + 1), w.cell? ⟨b, off + i.1, none⟩ = some (enc i) := fun i => by
      obtain ⟨a, v, q1, q2, q3, q4⟩ := h.head i.1 _ (hrow i)
      rw [hA] at q1; injection q1 with q1; subst q1
      rw [Addr.add_plain] at q3
      rw [q3, q4 (by simp), ints_length]
    have hH : Holds enc w b off (List.finRange (m + 1)).toArray := fun j hj => by
      rw [hd] at hj
      refine ⟨?_, by simp [World.frozen?, hh]⟩
      rw [getElem!_pos _ j (by rw [hd]; exact hj)]
      have hj' : (List.finRange (m + 1)).toArray[j]'(by rw [hd]; exact hj) = ⟨j, hj⟩ := by simp
      rw [hj', hcell ⟨j, hj⟩]
    have hfl : ∀ (q : Nat) (os : Array Obj) (d' : Array (Fin (m + 1))) (i : Fin (m + 1)), FlatOk (sortWorld enc w b off q d' os) noLab none (rb i.1) (rc i.1) 1 (ints (el i)) := fun q os d' i => by
      have hr := h.row i.1 _ (hrow i) (by simp)
      refine ⟨hr.fits, hr.pos, hr.even, fun i' row j x hi hj => ?_, fun hs => by simp at hs⟩
      obtain ⟨a, k1, k2, k3⟩ := hr.cell i' row j x hi hj
      refine ⟨a, k1, rfl, ?_⟩
      have hab : a.block < w.heap.size := hown _ _ k2
      have hne : a.block ≠ b := fun e => by rw [e, ho] at k2; injection k2 with k2; injection k2 with _ k2; simp at k2
      rw [cell_of_block (w := w)]
      · exact k3
      · rw [Addr.add_block]
        show (grow (putRow enc (Sort.ahead w q) b off d') os).heap[a.block]? = _
        rw [put_heap enc w q b off d' os hab]
        simp [hne]
    have hcmp : CmpLays1 P c #[] enc cf' b off (List.finRange (m + 1)).toArray.size w := fun q os dk hs x y =>
      hC (el x) (el y) _ _ _ _ _ (hg _ (hmem x)) (hg _ (hmem y)) (hfl q os dk x) (hfl q os dk y)
    have hS := Any.slices_SortFunc_total LS enc (fun _ => rfl) cf' hO' c #[] b off cap (List.finRange (m + 1)).toArray w eg hcmp hH hbl (by rw [hd]; omega) hT
    rw [rowsI_length, hm, hA]
    rw [hd] at hS
    refine hS.mono ?_
    rintro e w' ⟨rfl, q, os, rfl⟩
    obtain ⟨M, hM⟩ : ∃ M, (List.finRange (m + 1)).mergeSort (fun x y => !(ltOf cf') y x) = M := ⟨_, rfl⟩
    simp only [hM]
    have hperm : M.Perm (List.finRange (m + 1)) := by rw [← hM]; exact List.mergeSort_perm _ _
    have hML : M.length = m + 1 := by rw [hperm.length_eq]; simp
    have hnd : M.Nodup := hperm.nodup_iff.2 (List.nodup_finRange _)
    have hall : ∀ i : Fin (m + 1), i ∈ M := fun i => hperm.mem_iff.2 (List.mem_finRange i)
    have hmap : sortL cf L = M.map el := by
      have hLm : L = (List.finRange (m + 1)).map el := by
        apply List.ext_getElem
        · simp [hm]
        · intro i h1 h2; simp [el]
      rw [← hM, List.map_mergeSort (r := fun x y => !(ltOf cf') y x) (s := fun x y => !(ltOf cf) y x) (f := el) (fun a _ b _ => rfl), ← hLm]
      rfl
    have hlen : (rowsI (sortL cf L)).length = m + 1 := by rw [hmap]; simp [rowsI, hML]
    let s : Nat → Nat := fun i => if h : i < M.length then (M[i]).1 else i
    let t : Nat → Nat := fun j => if h : j < m + 1 then M.idxOf ⟨j, h⟩ else j
    have hs : ∀ i, (hi : i < m + 1) → s i = (M[i]'(by omega)).1 := fun i hi => by simp only [s]; rw [dif_pos (by omega)]
    have hget : ∀ i fl, (rowsI (sortL cf L))[i]? = some fl → i < m + 1 ∧ ∃ hi : i < M.length, fl = ints (el M[i]) := fun i fl hi => by
      have hil := (List.getElem?_eq_some_iff.1 hi).1
      rw [hlen] at hil
      refine ⟨hil, by omega, ?_⟩
      rw [hmap] at hi
      simp only [rowsI, List.getElem?_map, List.getElem?_eq_getElem (show i < M.length by omega), Option.map_some, Option.some.injEq] at hi
      exact hi.symm
    refine ⟨trivial, ⟨rfl, .of rfl, rfl, ?_, fun x hx hn => ?_⟩, s, t, fun i hi => ⟨by rw [hs i hi]; exact (M[i]'(by omega)).2, ?_⟩, fun i hi => ?_, hlen, fun i fl hi => ?_, fun i fl hi => ?_, .inr ⟨b, off, putCells enc off M.toArray arr, T', rfl, ho, ?_, by simp [putCells]; omega⟩⟩
    · show w.heap.size ≤ ((w.heap.modify b _) ++ os).size
      simp
    · show (grow (putRow enc (Sort.ahead w q) b off M.toArray) os).heap[x]? = _
      rw [put_heap enc w q b off M.toArray os hx]
      have : x ≠ b := fun e => hn (by rw [e]; exact ho)
      simp [this]
    · have hsi := hs i hi
      simp only [t]
      rw [dif_pos (by rw [hsi]; exact (M[i]'(by omega)).2)]
      have : (⟨s i, by rw [hsi]; exact (M[i]'(by omega)).2⟩ : Fin (m + 1)) = M[i]'(by omega) := Fin.ext hsi
      rw [this]
      exact hnd.idxOf_getElem i (by omega)
    · have hti : t i = M.idxOf ⟨i, hi⟩ := by simp only [t]; rw [dif_pos hi]
      have hlt' : M.idxOf (⟨i, hi⟩ : Fin (m + 1)) < M.length := List.idxOf_lt_length_of_mem (hall _)
      refine ⟨by omega, ?_⟩
      rw [hti, hs _ (by omega), List.getElem_idxOf hlt']
    · obtain ⟨hi1, hi2, rfl⟩ := hget i fl hi
      rw [hs i hi1]
      exact hrow _
    · obtain ⟨hi1, hi2, rfl⟩ := hget i fl hi
      refine ⟨_, rfl, ?_⟩
      rw [Addr.add_plain, hs i hi1]
      show (grow (putRow enc (Sort.ahead w q) b off M.toArray) os).cell? _ = _
      simp only [World.cell?, put_heap enc w q b off M.toArray os hbl, hh, Option.map_some, if_true, onCells]
      show (putCells enc off M.toArray arr)[off + i]? = _
      unfold putCells
      rw [Array.getElem?_mapIdx, Array.getElem?_eq_getElem (by omega), Option.map_some, if_pos (by simp; omega), ints_length]
      rw [getElem!_pos _ _ (by simp; omega)]
      simp [enc]
    · show (grow (putRow enc (Sort.ahead w q) b off M.toArray) os).heap[b]? = _
      rw [put_heap enc w q b off M.toArray os hbl, hh]
      simp [onCells]
end Go.Sh

set_option linter.unusedVariables false
set_option linter.unusedSimpArgs false
namespace Go.Sh
open Go.Proofs
/-! ### what is read: a path followed from a top -/
/-- the next one behind a path whose last one has two neighbours -/
def nxtT (E : List Ed) (p : List Int) : Int := (nearL E (p.getLastD 0)).getD 0 0 + (nearL E (p.getLastD 0)).getD 1 0 - p.getD (p.length - 2) 0
def goT (E : List Ed) : Nat → List Int → List Int
  | 0, p => p
  | f + 1, p => if (nearL E (p.getLastD 0)).length = 2 then goT E f (p ++ [nxtT E p]) else p
structure FolT (n : Int) (E : List Ed) (t : Int) (p : List Int) : Prop where
  two : 2 ≤ p.length
  hd : p.getD 0 0 = t
  st : stepsE E p
  nd : p.dropLast.Nodup
  deg : ∀ i, 1 ≤ i → i + 1 < p.length → (nearL E (p.getD i 0)).length = 2
  ne : ∀ i, i + 2 < p.length → p.getD i 0 ≠ p.getD (i + 2) 0
theorem adj_ne {n : Int} {E : List Ed} (hR : RightP n E) {x y : Int} (h : adjE E x y) : x ≠ y := by
  rcases h with h | h <;> (have := hR.2.2.2.1 _ h; unfold okE at this; dsimp only at this; omega)
theorem near_nodup {n : Int} {E : List Ed} (hR : RightP n E) (v : Int) : (nearL E v).Nodup :=
  (near_sorted hR.2.2.2.1 hR.2.2.2.2).imp fun h => by omega
theorem lastD_get {p : List Int} (h : 0 < p.length) : p.getLastD 0 = p.getD (p.length - 1) 0 := by
  rw [List.getLastD_eq_getLast?, List.getLast?_eq_getElem?, List.getD_eq_getElem?_getD]
/-- of two neighbours: which they are -/
theorem two_near {n : Int} {E : List Ed} (hR : RightP n E) {v a : Int} (h : (nearL E v).length = 2) (ha : adjE E v a) :
    adjE E v ((nearL E v).getD 0 0 + (nearL E v).getD 1 0 - a) ∧ (nearL E v).getD 0 0 + (nearL E v).getD 1 0 - a ≠ a ∧ ∀ b, adjE E v b → b = a ∨ b = (nearL E v).getD 0 0 + (nearL E v).getD 1 0 - a := by
  have hm : a ∈ nearL E v := mem_nearL.2 ha
  have hnd := near_nodup hR v
  obtain ⟨c, d, hcd⟩ : ∃ c d, nearL E v = [c, d] := by
    match hq : nearL E v, h with
    | [c, d], _ => exact ⟨c, d, rfl⟩
  have hall : ∀ b, adjE E v b ↔ b = c ∨ b = d := fun b => by rw [← mem_nearL, hcd]; simp
  rw [hcd] at hm hnd ⊢
  have hne : c ≠ d := by simpa using hnd
  simp only [List.getD_cons_zero, List.getD_cons_succ]
  simp only [List.mem_cons, List.not_mem_nil, or_false] at hm
  rcases hm with rfl | rfl
  · rw [show a + d - a = d by omega]
    exact ⟨(hall d).2 (.inr rfl), Ne.symm hne, fun b hb => (hall b).1 hb⟩
  · rw [show c + a - a = c by omega]
    exact ⟨(hall c).2 (.inl rfl), hne, fun b hb => ((hall b).1 hb).symm⟩
theorem getD_snoc {p : List Int} {x : Int} {i : Nat} : (p ++ [x]).getD i 0 = if i < p.length then p.getD i 0 else if i = p.length then x else 0 := by
  simp only [List.getD_eq_getElem?_getD, List.getElem?_append]
  by_cases h : i < p.length
  · rw [if_pos h, if_pos h]
  · rw [if_neg h, if_neg h]
    by_cases h2 : i = p.length
    · subst h2; simp
    · rw [if_neg h2, List.getElem?_eq_none (by simp; omega)]; rfl
section
variable {n : Int} {E : List Ed} {t : Int} {p : List Int}
theorem FolT.last_new (h : FolT n E t p) (hR : RightP n E) (ht : (nearL E t).length ≠ 2) (h2 : (nearL E (p.getLastD 0)).length = 2) : p.Nodup := by
  have h0 := h.two
  have hne0 : p ≠ [] := by intro e; rw [e] at h0; simp at h0
  have hl := lastD_get (p := p) (by omega)
  rw [hl] at h2
  have hdl : ∀ i, i + 1 < p.length → p.dropLast[i]? = some (p.getD i 0) := fun i hi => by
    rw [List.getElem?_dropLast, if_pos (by omega), List.getElem?_eq_getElem (by omega), getD_at (by omega)]
  have hinj : ∀ i j, i + 1 < p.length → j + 1 < p.length → p.getD i 0 = p.getD j 0 → i = j := fun i j hi hj e => by
    have hi' : i < p.dropLast.length := by simp; omega
    exact (List.getElem?_inj hi' h.nd).1 (by rw [hdl i hi, hdl j hj, e])
  have hlast : ∀ j, j + 1 < p.length → p.getD (p.length - 1) 0 ≠ p.getD j 0 := fun j hj e => by
    rcases Nat.eq_zero_or_pos j with rfl | hj0
    · rw [e, h.hd] at h2; exact ht h2
    have hdj := h.deg j hj0 hj
    have s1 := h.st (j - 1) (by omega)
    rw [show j - 1 + 1 = j by omega] at s1
    have s2 := h.st j (by omega)
    have s3 := h.st (p.length - 2) (by omega)
    rw [show p.length - 2 + 1 = p.length - 1 by omega, e] at s3
    have hall := (two_near hR hdj s1.symm).2.2
    have hne := h.ne (j - 1) (by omega)
    rw [show j - 1 + 2 = j + 1 by omega] at hne
    have e2 := (hall _ s2).resolve_left (Ne.symm hne)
    rcases hall _ s3.symm with k | k
    · have := hinj _ _ (by omega) (by omega) k; omega
    · rw [← e2] at k
      rcases Nat.lt_or_ge (j + 2) p.length with hj2 | hj2
      · have := hinj _ _ (by omega) (by omega) k
        have hx := h.ne j (by omega)
        rw [show j + 2 = p.length - 1 by omega] at hx
        exact hx e.symm
      · have hj3 : j + 1 = p.length - 1 := by omega
        rw [hj3, e] at s2
        exact adj_ne hR s2 rfl
  have hsp : p = p.dropLast ++ [p.getLast hne0] := (List.dropLast_concat_getLast hne0).symm
  rw [hsp, List.nodup_append]
  refine ⟨h.nd, by simp, fun a ha b hb e => ?_⟩
  simp only [List.mem_singleton] at hb
  subst hb
  obtain ⟨j, hj, hja⟩ := List.mem_iff_getElem.1 ha
  rw [List.length_dropLast] at hj
  refine hlast j (by omega) ?_
  rw [getD_at (by omega), getD_at (by omega), ← List.getLast_eq_getElem hne0, ← e, ← hja]
  simp
theorem FolT.next (h : FolT n E t p) (hR : RightP n E) (ht : (nearL E t).length ≠ 2) (h2 : (nearL E (p.getLastD 0)).length = 2) : FolT n E t (p ++ [nxtT E p]) := by
  have h0 := h.two
  have hl := lastD_get (p := p) (by omega)
  have hnd := h.last_new hR ht h2
  have s3 := h.st (p.length - 2) (by omega)
  rw [show p.length - 2 + 1 = p.length - 1 by omega, ← hl] at s3
  obtain ⟨q1, q2, _⟩ := two_near hR h2 s3.symm
  refine ⟨by simp; omega, ?_, fun i hi => ?_, by simpa using hnd, fun i h1 hi => ?_, fun i hi => ?_⟩
  · rw [getD_snoc, if_pos (by omega)]; exact h.hd
  · simp at hi
    rw [getD_snoc, getD_snoc, if_pos (by omega)]
    by_cases hi2 : i + 1 < p.length
    · rw [if_pos hi2]; exact h.st i hi2
    · rw [if_neg hi2, if_pos (by omega), show i = p.length - 1 by omega, ← hl]
      exact q1
  · simp at hi
    rw [getD_snoc, if_pos (by omega)]
    by_cases hi2 : i + 1 < p.length
    · exact h.deg i h1 hi2
    · rw [show i = p.length - 1 by omega, ← hl]; exact h2
  · simp at hi
    rw [getD_snoc, getD_snoc, if_pos (by omega)]
    by_cases hi2 : i + 2 < p.length
    · rw [if_pos hi2]; exact h.ne i hi2
    · rw [if_neg hi2, if_pos (by omega), show i = p.length - 2 by omega]
      exact Ne.symm q2
theorem FolT.inN (h : FolT n E t p) (hR : RightP n E) : ∀ x ∈ p, 0 ≤ x ∧ x < n := fun x hx => by
  obtain ⟨i, hi, rfl⟩ := List.mem_iff_getElem.1 hx
  have h0 := h.two
  rw [← getD_at hi]
  by_cases h1 : i + 1 < p.length
  · exact (adj_in hR (h.st i h1)).1
  · have := (adj_in hR (h.st (i - 1) (by omega))).2
    rwa [show i - 1 + 1 = i by omega] at this
theorem FolT.len (h : FolT n E t p) (hR : RightP n E) : p.length ≤ n.toNat + 1 := by
  have := range_len h.nd fun x hx => h.inN hR x ((List.dropLast_sublist _).subset hx)
  simp at this; omega
theorem FolT.len2 (h : FolT n E t p) (hR : RightP n E) (ht : (nearL E t).length ≠ 2) (h2 : (nearL E (p.getLastD 0)).length = 2) : p.length ≤ n.toNat :=
  range_len (h.last_new hR ht h2) (h.inN hR)
theorem FolT.start {x : Int} (hx : x ∈ nearL E t) : FolT n E t [t, x] where
  two := by simp
  hd := rfl
  st i hi := by
    have hi : i + 1 < 2 := hi
    have : i = 0 := by omega
    subst this
    exact mem_nearL.1 hx
  nd := by simp
  deg i h1 hi := by
    have hi : i + 1 < 2 := hi
    omega
  ne i hi := by
    have hi : i + 2 < 2 := hi
    omega
end
theorem goT_stop {E : List Ed} {f : Nat} {p : List Int} (h : (nearL E (p.getLastD 0)).length ≠ 2) : goT E f p = p := by
  cases f with
  | zero => rfl
  | succ f => exact if_neg h
theorem goT_step {E : List Ed} {f : Nat} {p : List Int} (h : (nearL E (p.getLastD 0)).length = 2) : goT E (f + 1) p = goT E f (p ++ [nxtT E p]) := if_pos h
/-- what a path is that was followed to its end -/
theorem goT_fol {n : Int} {E : List Ed} {t : Int} (hR : RightP n E) (ht : (nearL E t).length ≠ 2) : ∀ (f : Nat) {p : List Int}, FolT n E t p → n.toNat + 2 ≤ f + p.length → FolT n E t (goT E f p) ∧ (nearL E ((goT E f p).getLastD 0)).length ≠ 2 ∧ ∃ r, goT E f p = p ++ r := by
  intro f
  induction f with
  | zero =>
    intro p h hf
    have := h.len hR
    omega
  | succ f ih =>
    intro p h hf
    by_cases h2 : (nearL E (p.getLastD 0)).length = 2
    · rw [goT_step h2]
      obtain ⟨q1, q2, r, q3⟩ := ih (h.next hR ht h2) (by simp; omega)
      exact ⟨q1, q2, nxtT E p :: r, by rw [q3]; simp⟩
    · rw [goT_stop h2]
      exact ⟨h, h2, [], by simp⟩
/-! ### what is read -/
def topsK (E : List Ed) (k : Nat) : List Int := ((List.range k).filter fun v => (nearL E (v : Nat)).length == 3).map fun (v : Nat) => (v : Int)
def degOk (E : List Ed) (v : Nat) : Prop := (nearL E (v : Nat)).length = 0 ∨ (nearL E (v : Nat)).length = 2 ∨ (nearL E (v : Nat)).length = 3
def degsOk (n : Int) (E : List Ed) : Prop := ∀ v : Nat, (v : Int) < n → degOk E v
def pathT (n : Int) (E : List Ed) (t x : Int) : List Int := goT E n.toNat [t, x]
def keepT (n : Int) (E : List Ed) (t : Int) (l : List Int) : List (List Int) := (l.map fun x => pathT n E t x).filter fun p => decide (t < p.getLastD 0)
def pathsT (n : Int) (E : List Ed) (T : List Int) : List (List Int) := T.flatMap fun t => keepT n E t (nearL E t)
def usedT (L : List (List Int)) : Nat := (L.map fun p => p.length - 1).sum
def cmpT (p q : List Int) : Int := orI [cmpI (p.headD 0) (q.headD 0), cmpI (p.getLastD 0) (q.getLastD 0), cmpI (p.getD 1 0) (q.getD 1 0)]
def ltT (p q : List Int) : Prop := p.headD 0 < q.headD 0 ∨ (p.headD 0 = q.headD 0 ∧ (p.getLastD 0 < q.getLastD 0 ∨ (p.getLastD 0 = q.getLastD 0 ∧ p.getD 1 0 < q.getD 1 0)))
theorem cmpT_lt (p q : List Int) : cmpT p q < 0 ↔ ltT p q := by
  unfold cmpT orI cmpI ltT
  repeat' split
  all_goals simp_all
  all_goals omega
theorem ltT_t {x y : List Int} : ltOf cmpT x y = true ↔ ltT x y := by unfold ltOf; rw [decide_eq_true_iff, cmpT_lt]
theorem ltT_f {x y : List Int} : ltOf cmpT x y = false ↔ ¬ ltT x y := by unfold ltOf; rw [decide_eq_false_iff_not, cmpT_lt]
theorem swoT : Go.Sort.SWO (ltOf cmpT) where
  irrefl x := by rw [ltT_f]; unfold ltT; omega
  trans x y z h1 h2 := by rw [ltT_t] at *; unfold ltT at *; omega
  ntrans x y z h1 h2 := by rw [ltT_f] at *; unfold ltT at *; omega
theorem parts_T {p q : List Int} (h : p.headD 0 ≠ q.headD 0 ∨ p.getD 1 0 ≠ q.getD 1 0) : ltOf cmpT p q = true ∨ ltOf cmpT q p = true := by
  rw [ltT_t, ltT_t]; unfold ltT; omega
def kindT (T : List Int) : Int := if T.length = 4 then 1 else if T.length = 2 then 2 else 0
def ReadP (n : Int) (E : List Ed) : Prop := RightP n E ∧ degsOk n E ∧ kindT (topsK E n.toNat) ≠ 0 ∧ usedT (pathsT n E (topsK E n.toNat)) = E.length ∧
  SubP n E (kindT (topsK E n.toNat)) (topsK E n.toNat) (sortL cmpT (pathsT n E (topsK E n.toNat)))
open Classical in
noncomputable def readF (n : Int) (E : List Ed) : (Int × List Int × List (List Int)) × Bool :=
  if ReadP n E then ((kindT (topsK E n.toNat), topsK E n.toNat, sortL cmpT (pathsT n E (topsK E n.toNat))), true) else ((0, [], []), false)
theorem readF_no {n : Int} {E : List Ed} (h : ¬ ReadP n E) : readF n E = ((0, [], []), false) := if_neg h
theorem readF_yes {n : Int} {E : List Ed} (h : ReadP n E) : readF n E = ((kindT (topsK E n.toNat), topsK E n.toNat, sortL cmpT (pathsT n E (topsK E n.toNat))), true) := if_pos h
theorem mem_topsK {E : List Ed} {k : Nat} {t : Int} : t ∈ topsK E k ↔ 0 ≤ t ∧ t < k ∧ (nearL E t).length = 3 := by
  unfold topsK
  rw [List.mem_map]
  constructor
  · rintro ⟨v, hv, rfl⟩
    rw [List.mem_filter, List.mem_range] at hv
    exact ⟨by omega, by omega, by simpa using hv.2⟩
  · rintro ⟨h0, h1, h2⟩
    exact ⟨t.toNat, by rw [List.mem_filter, List.mem_range, show ((t.toNat : Nat) : Int) = t by omega]; exact ⟨by omega, by simpa using h2⟩, by omega⟩
theorem topsK_sorted (E : List Ed) (k : Nat) : (topsK E k).Pairwise (· < ·) := by
  unfold topsK
  rw [List.pairwise_map]
  exact (List.pairwise_lt_range.filter _).imp fun h => by omega
theorem topsK_succ (E : List Ed) (k : Nat) : topsK E (k + 1) = topsK E k ++ (if (nearL E (k : Nat)).length = 3 then [(k : Int)] else []) := by
  unfold topsK
  rw [List.range_succ, List.filter_append, List.map_append]
  congr 1
  by_cases h : (nearL E (k : Nat)).length = 3 <;> simp [h]
theorem pathT_is {n : Int} {E : List Ed} (hR : RightP n E) {t x : Int} (ht : (nearL E t).length = 3) (hx : x ∈ nearL E t) :
    FolT n E t (pathT n E t x) ∧ (nearL E ((pathT n E t x).getLastD 0)).length ≠ 2 ∧ ∃ r, pathT n E t x = t :: x :: r := by
  obtain ⟨h1, h2, r, h3⟩ := goT_fol hR (by omega) n.toNat (FolT.start hx) (by simp)
  exact ⟨h1, h2, r, h3⟩
theorem mem_keepT {n : Int} {E : List Ed} {t : Int} {l : List Int} {p : List Int} : p ∈ keepT n E t l ↔ (∃ x ∈ l, p = pathT n E t x) ∧ t < p.getLastD 0 := by
  unfold keepT
  rw [List.mem_filter, List.mem_map, decide_eq_true_iff]
  exact and_congr_left fun _ => ⟨fun ⟨x, hx, e⟩ => ⟨x, hx, e.symm⟩, fun ⟨x, hx, e⟩ => ⟨x, hx, e.symm⟩⟩
theorem keepT_snoc (n : Int) (E : List Ed) (t : Int) (l : List Int) (x : Int) : keepT n E t (l ++ [x]) = keepT n E t l ++ (if t < (pathT n E t x).getLastD 0 then [pathT n E t x] else []) := by
  unfold keepT
  rw [List.map_append, List.filter_append]
  congr 1
  rw [List.map_cons, List.map_nil]
  by_cases h : t < (pathT n E t x).getLastD 0
  · rw [if_pos h, List.filter_cons, if_pos (decide_eq_true h)]; rfl
  · rw [if_neg h, List.filter_cons, if_neg (by rw [decide_eq_true_iff]; exact h)]; rfl
theorem paths_keys {n : Int} {E : List Ed} (hR : RightP n E) {T : List Int} (hT : ∀ t ∈ T, (nearL E t).length = 3) (hnd : T.Nodup) :
    (pathsT n E T).Pairwise (fun x y => ltOf cmpT x y = true ∨ ltOf cmpT y x = true) := by
  unfold pathsT
  rw [List.pairwise_flatMap]
  refine ⟨fun t ht => ?_, ?_⟩
  · unfold keepT
    refine List.Pairwise.filter _ ?_
    rw [List.pairwise_map]
    refine List.Pairwise.imp_of_mem ?_ (near_nodup hR t)
    intro x y hx hy hne
    obtain ⟨_, _, r, hr⟩ := pathT_is hR (hT t ht) hx
    obtain ⟨_, _, q, hq⟩ := pathT_is hR (hT t ht) hy
    rw [hr, hq]
    exact parts_T (.inr (by simpa using hne))
  · refine List.Pairwise.imp_of_mem ?_ hnd
    intro t u ht hu hne p hp q hq
    obtain ⟨⟨x, hx, rfl⟩, _⟩ := mem_keepT.1 hp
    obtain ⟨⟨y, hy, rfl⟩, _⟩ := mem_keepT.1 hq
    obtain ⟨_, _, r, hr⟩ := pathT_is hR (hT t ht) hx
    obtain ⟨_, _, q, hq⟩ := pathT_is hR (hT u hu) hy
    rw [hr, hq]
    exact parts_T (.inl (by simpa using hne))
end Go.Sh

set_option linter.unusedVariables false
set_option linter.unusedSimpArgs false
namespace Go.Sh
open Go.Proofs Go.Sort Go.Shelf Go.RowKit
/-! ### slices.SortFunc on paths -/
def goodT (x : List Int) : Prop := 2 ≤ x.length ∧ x.length ≤ 1000000
theorem hd_get {x : List Int} (h : 0 < x.length) : x[0]? = some (x.headD 0) := by cases x with | nil => simp at h | cons a l => rfl
theorem last_get {x : List Int} (h : 0 < x.length) : x[x.length - 1]? = some (x.getLastD 0) := by rw [List.getLastD_eq_getLast?, List.getLast?_eq_getElem?, List.getElem?_eq_getElem (by omega)]; rfl
theorem getD_get {x : List Int} {i : Nat} (h : i < x.length) : x[i]? = some (x.getD i 0) := by rw [List.getD_eq_getElem?_getD, List.getElem?_eq_getElem h]; rfl
theorem CloT_p [Fwd] : SoundP Try.prog 75 (conF (fun a : List Int × List Int => goodT a.1 ∧ goodT a.2) (fun a => [.one (.flat false 1 (ints a.1)), .one (.flat false 1 (ints a.2))]) (fun a => .one (.s (.i .i64 (cmpT a.1 a.2))))) := by
  refine con_pure (X := { Γ := [(71, CompareC), (70, OrC)], T := T, nt := 34 }) cr_none hmix hT (sound_cons Compare_ok (sound_cons Or_ok sound_nil)) Try.func75 (by rfl) (by rfl) (by rfl) 2 ?_
  rintro ⟨x, y⟩ ⟨⟨hx, hx2⟩, hy, hy2⟩
  dsimp only at hx hx2 hy hy2 ⊢
  refine ⟨⟨Nat.le_of_ble_eq_true rfl, Nat.le_of_ble_eq_true rfl⟩, ?_⟩
  refine Idx.by 0 rfl (by rw [ints_length]; omega) ?_
  refine Look.by _ (ints_get (hd_get (by omega))) ?_
  refine Idx.by 0 rfl (by rw [ints_length]; omega) ?_
  refine Look.by _ (ints_get (hd_get (by omega))) ?_
  refine Call.by _ _ (CompareC_at _ _) ?_
  refine Pick.T (inI64_of (by rw [ints_length]; omega) (by rw [ints_length]; omega)) ?_
  refine Idx.by (x.length - 1) (by rw [ints_length]; omega) (by rw [ints_length]; omega) ?_
  refine Look.by _ (ints_get (last_get (by omega))) ?_
  refine Pick.T (inI64_of (by rw [ints_length]; omega) (by rw [ints_length]; omega)) ?_
  refine Idx.by (y.length - 1) (by rw [ints_length]; omega) (by rw [ints_length]; omega) ?_
  refine Look.by _ (ints_get (last_get (by omega))) ?_
  refine Call.by _ _ (CompareC_at _ _) ?_
  refine Idx.by 1 rfl (by rw [ints_length]; omega) ?_
  refine Look.by _ (ints_get (getD_get (by omega))) ?_
  refine Idx.by 1 rfl (by rw [ints_length]; omega) ?_
  refine Look.by _ (ints_get (getD_get (by omega))) ?_
  refine Call.by _ _ (CompareC_at _ _) ?_
  refine Call.by _ _ (OrC_at (l := [cmpI (x.headD 0) (y.headD 0), cmpI (x.getLastD 0) (y.getLastD 0), cmpI (x.getD 1 0) (y.getD 1 0)]) (by simp)) ?_
  refine Seg.by (by kernel_rfl) ?_
  refine ⟨rfl, ?_⟩
  show _ = _
  rfl
theorem cloT_call (x y : List Int) (A B : Option Addr) (ca cb : Nat) (W : World) (hx : goodT x) (hy : goodT y) (h1 : FlatOk W noLab none A ca 1 (ints x)) (h2 : FlatOk W noLab none B cb 1 (ints y)) :
    Calls Try.prog 75 #[.slice A x.length ca, .slice B y.length cb] W fun e w' => e = .returned (.int .i64 (cmpT x y)) ∧ ∃ q os', w' = grow (W.drewN q) os' := by
  letI : Fwd := ⟨True⟩
  have hF : conF (fun a : List Int × List Int => goodT a.1 ∧ goodT a.2) (fun a => [V.one (.flat false 1 (ints a.1)), .one (.flat false 1 (ints a.2))]) (fun a => V.one (C.s (.i .i64 (cmpT a.1 a.2)))) [.one (.flat false 1 (ints x)), .one (.flat false 1 (ints y))] = some (.one (.s (.i .i64 (cmpT x y))), []) :=
    conF_at (a := (x, y)) (fun a b _ _ h => by simp at h; rw [ints_inj h.1, ints_inj h.2]) ⟨hx, hy⟩
  refine (CloT_p _ _ _ hF W #[.slice A x.length ca, .slice B y.length cb] ⟨⟨⟨A, ca, fun _ => none, fun _ => 0⟩, by rw [ints_length], h1⟩, ⟨⟨B, cb, fun _ => none, fun _ => 0⟩, by rw [ints_length], h2⟩, trivial⟩).mono ?_
  rintro e w' ⟨u, lab, rfl, hf, _, hu⟩
  obtain ⟨p, hu⟩ := hu
  refine ⟨?_, frm_grow trivial hf⟩
  show Ending.returned u = _
  rw [show u = (Sc.i .i64 (cmpT x y)).val from hu]
  rfl
theorem SortT_row : NestFnCall Try.prog 74 75 1 (sortNP goodT cmpT) (sortN cmpT) :=
  nest_sort Try.laysSortR rfl ⟨_, Try.func74, by decide, by simp [Try.f74]⟩
    (enters_of Try.func75 (by kernel_rfl) rfl) goodT cmpT swoT cloT_call
end Go.Sh

set_option linter.unusedVariables false
set_option linter.unusedSimpArgs false
namespace Go.Sh
open Go.Proofs
/-! ### topo.Read -/
noncomputable def ReadC : Con := conP 1 (fun a : Int × List Ed => a.2.length ≤ 1000000) (fun a => [grV a.1 a.2]) (fun a => .tup [sbV true (readF a.1 a.2).1.1 (readF a.1 a.2).1.2.1 (readF a.1 a.2).1.2.2, .one (.s (.b (readF a.1 a.2).2))])
theorem ReadC_at {n : Int} {E : List Ed} (h : E.length ≤ 1000000) : ReadC.F [grV n E] = some (.tup [sbV true (readF n E).1.1 (readF n E).1.2.1 (readF n E).1.2.2, .one (.s (.b (readF n E).2))], []) :=
  conP_at (a := (n, E)) (fun x y _ _ h => by
    obtain ⟨n, E⟩ := x
    obtain ⟨n', E'⟩ := y
    simp at h
    obtain ⟨rfl, rfl⟩ := grV_inj h
    rfl) h
def nbK (n : Nat) (E : List Ed) (k : Nat) : List (List Int) := ((List.range k).map fun (v : Nat) => nearL E (v : Int)) ++ List.replicate (n - k) []
theorem nbK_len {n : Nat} {E : List Ed} {k : Nat} (h : k ≤ n) : (nbK n E k).length = n := by simp [nbK]; omega
theorem nbK_end (n : Nat) (E : List Ed) : nbK n E n = nbrs n E := by simp [nbK, nbrs]
theorem nbK_zero (n : Nat) (E : List Ed) : nbK n E 0 = List.replicate n [] := by simp [nbK]
theorem nbK_set {n : Nat} {E : List Ed} {k : Nat} (h : k < n) : (nbK n E k).set k (nearL E (k : Int)) = nbK n E (k + 1) := by
  apply List.ext_getElem?
  intro i
  unfold nbK
  rw [List.getElem?_set]
  have hl : (((List.range k).map fun (v : Nat) => nearL E (v : Int)) ++ List.replicate (n - k) []).length = n := by simp; omega
  by_cases h1 : k = i
  · subst h1
    rw [if_pos rfl, if_pos (by rw [hl]; exact h), List.getElem?_append_left (by simp), List.getElem?_map, List.getElem?_range (by omega)]; rfl
  · rw [if_neg h1]
    by_cases h2 : i < k
    · rw [List.getElem?_append_left (by simpa using h2), List.getElem?_append_left (by simp; omega), List.getElem?_map, List.getElem?_map, List.getElem?_range h2, List.getElem?_range (by omega)]
    · rw [List.getElem?_append_right (by simp; omega), List.getElem?_append_right (by simp; omega), List.getElem?_replicate, List.getElem?_replicate]
      simp
      by_cases h3 : i < n
      · rw [if_pos (by omega), if_pos (by omega)]
      · rw [if_neg (by omega), if_neg (by omega)]
theorem nb_get {n : Nat} {E : List Ed} {v : Nat} (h : v < n) : (rowsI (nbrs n E))[v]? = some (ints (nearL E (v : Int))) := by
  refine rowsI_get ?_
  unfold nbrs
  rw [List.getElem?_map, List.getElem?_range h]; rfl
theorem keepT_len (n : Int) (E : List Ed) (t : Int) (l : List Int) : (keepT n E t l).length ≤ l.length := by
  unfold keepT
  exact Nat.le_trans (List.length_filter_le _ _) (by simp)
theorem pathsT_snoc (n : Int) (E : List Ed) (T : List Int) (t : Int) : pathsT n E (T ++ [t]) = pathsT n E T ++ keepT n E t (nearL E t) := by simp [pathsT]
theorem pathsT_len {n : Int} {E : List Ed} : ∀ {T : List Int}, (∀ t ∈ T, (nearL E t).length = 3) → (pathsT n E T).length ≤ 3 * T.length
  | [], _ => by simp [pathsT]
  | t :: T, h => by
    have ih := pathsT_len (n := n) (T := T) fun x hx => h x (List.mem_cons_of_mem _ hx)
    have h1 := keepT_len n E t (nearL E t)
    have h2 := h t (by simp)
    unfold pathsT at ih ⊢
    rw [List.flatMap_cons, List.length_append, List.length_cons]
    omega
theorem keepT_row {n : Int} {E : List Ed} (hR : RightP n E) {t : Int} (ht : (nearL E t).length = 3) {l : List Int} (hl : ∀ x ∈ l, x ∈ nearL E t) {p : List Int} (hp : p ∈ keepT n E t l) : 2 ≤ p.length ∧ p.length ≤ n.toNat + 1 := by
  obtain ⟨⟨x, hx, rfl⟩, _⟩ := mem_keepT.1 hp
  obtain ⟨h1, _, _⟩ := pathT_is hR ht (hl x hx)
  exact ⟨h1.two, h1.len hR⟩
theorem pathsT_row {n : Int} {E : List Ed} (hR : RightP n E) {T : List Int} (hT : ∀ t ∈ T, (nearL E t).length = 3) {p : List Int} (hp : p ∈ pathsT n E T) : 2 ≤ p.length ∧ p.length ≤ n.toNat + 1 := by
  obtain ⟨t, ht, hp⟩ := List.mem_flatMap.1 hp
  exact keepT_row hR (hT t ht) (fun x hx => hx) hp
theorem usedT_le {m : Nat} : ∀ {L : List (List Int)}, (∀ p ∈ L, p.length ≤ m + 1) → usedT L ≤ L.length * m
  | [], _ => by simp [usedT]
  | p :: L, h => by
    have ih := usedT_le (m := m) (L := L) fun x hx => h x (List.mem_cons_of_mem _ hx)
    have h1 := h p (by simp)
    simp only [usedT, List.map_cons, List.sum_cons, List.length_cons] at ih ⊢
    rw [Nat.succ_mul]
    omega
theorem usedT_snoc (L : List (List Int)) (p : List Int) : usedT (L ++ [p]) = usedT L + (p.length - 1) := by simp [usedT]
set_option maxHeartbeats 4000000 in
theorem Read_ok : SoundC Try.prog T 37 ReadC := by
  refine sound_con (X := { Γ := [(49, RightC), (73, NearGC), (29, SubC)], T := T, nt := 149, ext := [74] }) (nestFn_ok SortT_row) hmix hT (sound_cons RightG_ok (sound_cons Near_ok (sound_cons Sub_ok sound_nil))) Try.func37 (by rfl) (by rfl) (by rfl) (by rfl) 2 ?_
  rintro ⟨n, E⟩ hl
  dsimp only at hl ⊢
  refine ⟨⟨Nat.le_of_ble_eq_true rfl, Nat.le_of_ble_eq_true rfl⟩, ?_⟩
  refine Call.by _ _ (RightC_at n E) ?_
  refine Pick.by (fun h1 => ?_) (fun h1 => ?_)
  · have h1 : ¬ RightP n E := by simpa using h1
    have hv := readF_no (n := n) (E := E) (fun h => h1 h.1)
    dsimp only
    rw [hv]
    exact ⟨rfl, rfl, ⟨rfl, ⟨rfl, rfl⟩, ⟨rfl, rfl⟩, trivial⟩, rfl, trivial⟩
  have h1 : RightP n E := by simpa using h1
  obtain ⟨hn0, hn1, hE4, hokE, hsrt⟩ := id h1
  refine Pick.T (by simp) ?_
  refine Idx.by n.toNat (by omega) (by omega) ?_
  refine LoopP.intro (α := Nat) (fun k => k ≤ n.toNat) (fun k => n.toNat - k) (fun k => [(1, .ptr 0 0), (2, .ptr 2 0), (4, .ptr 3 0), (5, .sl 4 none none), (24, .s (.i .i64 n.toNat)), (25, .s (.i .i64 k))])
    (fun k => [(0, some (.blk [.s (.i .i64 n), .sl 1 none none])), (1, some (.flat false 2 (edges E))), (2, some (.blk [.s (.i .i64 0), .nils, .nils])), (3, some (.blk [.s (.i .i64 0), .nils, .nils])), (4, some (.nest true 1 (rowsI (nbK n.toNat E k)) [] []))]) 5 0 (by omega) (by refine Weak.by [(0, some _), (1, some _), (2, some _), (3, some _), (4, some _)] (by ((repeat' first | exact rfl | exact trivial | refine And.intro ?_ ?_) <;> (repeat' first | exact rfl | exact trivial | refine And.intro ?_ ?_)); all_goals ((first | exact sc_eq (by rw [List.length_replicate]) | (rw [nbK_zero]; simp [rowsI, ints]; done)))) (by ((repeat' first | exact rfl | exact trivial | refine And.intro ?_ ?_) <;> (repeat' first | exact rfl | exact trivial | refine And.intro ?_ ?_)); all_goals ((first | exact sc_eq (by rw [List.length_replicate]) | (rw [nbK_zero]; simp [rowsI, ints]; done)))) (by rfl)) ?_
  rintro k hk
  have hkl : (rowsI (nbK n.toNat E k)).length = n.toNat := by rw [rowsI_length, nbK_len hk]
  refine Pick.by (fun hc => ?_) (fun hc => ?_)
  · have hlt : k < n.toNat := by have := of_decide_eq_true hc; omega
    refine Call.by _ _ (NearGC_at (n := n) (E := E) (k : Int) hl) ?_
    refine Idx.by k rfl (by rw [hkl]; exact hlt) ?_
    refine Pick.T (by rw [hkl]; simpa using hlt) ?_
    refine Pick.T (inI64_of (by omega) (by omega)) ?_
    have hng : nearG n E (k : Int) = nearL E k := if_pos h1
    refine Next.by (k + 1) (by omega) (by omega) (by refine Weak.by [(0, some _), (1, some _), (2, some _), (3, some _), (4, some _)] (by ((repeat' first | exact rfl | exact trivial | refine And.intro ?_ ?_) <;> (repeat' first | exact rfl | exact trivial | refine And.intro ?_ ?_)); all_goals ((rw [← nbK_set hlt, rowsI_set, hng]))) (by ((repeat' first | exact rfl | exact trivial | refine And.intro ?_ ?_) <;> (repeat' first | exact rfl | exact trivial | refine And.intro ?_ ?_)); all_goals ((rw [← nbK_set hlt, rowsI_set, hng]))) (by rfl))
  have hge : k = n.toNat := by have := of_decide_eq_false hc; omega
  subst hge
  rw [nbK_end] at hkl ⊢
  refine LoopP.intro (α := Nat) (fun k => k ≤ n.toNat ∧ ∀ v : Nat, v < k → degOk E v) (fun k => n.toNat - k) (fun k => [(1, .ptr 0 0), (2, .ptr 2 0), (4, .ptr 3 0), (5, .sl 4 none none), (35, .sl 4 none none), (36, .s (.i .i64 n.toNat)), (37, .s (.i .i64 k))])
    (fun k => [(0, some (.blk [.s (.i .i64 n), .sl 1 none none])), (1, some (.flat false 2 (edges E))), (2, some (.blk [.s (.i .i64 0), .nils, .nils])), (3, some (.blk [.s (.i .i64 0), .sl 5 none none, .nils])), (4, some (.nest true 1 (rowsI (nbrs n.toNat E)) [] [])), (5, some (.flat true 1 (ints (topsK E k))))]) 6 0 ⟨by omega, fun v h => by omega⟩ (by refine Weak.by [(0, some _), (1, some _), (2, some _), (3, some _), (4, some _), (5, none)] (by ((repeat' first | exact rfl | exact trivial | refine And.intro ?_ ?_) <;> (repeat' first | exact rfl | exact trivial | refine And.intro ?_ ?_)); all_goals ((first | exact sc_eq (by rw [hkl]) | done))) (by ((repeat' first | exact rfl | exact trivial | refine And.intro ?_ ?_) <;> (repeat' first | exact rfl | exact trivial | refine And.intro ?_ ?_)); all_goals ((first | exact sc_eq (by rw [hkl]) | done))) (by rfl)) ?_
  rintro k ⟨hk, hdg⟩
  have htl : (topsK E k).length ≤ k := by unfold topsK; rw [List.length_map]; exact Nat.le_trans (List.length_filter_le _ _) (by simp)
  refine Pick.by (fun hc => ?_) (fun hc => ?_)
  · have hlt : k < n.toNat := by have := of_decide_eq_true hc; omega
    have hro := nb_get (E := E) hlt
    have hnl := nearL_length E k
    have hnx : degOk E k → ∀ v : Nat, v < k + 1 → degOk E v := fun h v hv => by
      rcases Nat.lt_or_ge v k with h2 | h2
      · exact hdg v h2
      · obtain rfl : v = k := by omega
        exact h
    have hst := topsK_succ E k
    refine Idx.by k rfl (by rw [hkl]; exact hlt) ?_
    refine Pick.T (by rw [hkl]; simpa using hlt) ?_
    refine Look.by _ hro ?_
    refine Pick.by (fun h3 => ?_) (fun h3 => ?_)
    · have h3 : (nearL E (k : Int)).length = 0 := by rw [ints_length] at h3; have := beq_iff_eq.1 h3; omega
      rw [if_neg (by omega), List.append_nil] at hst
      refine Pick.T (inI64_of (by omega) (by omega)) ?_
      refine Next.by (k + 1) ⟨by omega, hnx (.inl h3)⟩ (by omega) (by refine Weak.by [(0, some _), (1, some _), (2, some _), (3, some _), (4, some _), (5, some _)] (by ((repeat' first | exact rfl | exact trivial | refine And.intro ?_ ?_) <;> (repeat' first | exact rfl | exact trivial | refine And.intro ?_ ?_)); all_goals ((rw [hst]))) (by ((repeat' first | exact rfl | exact trivial | refine And.intro ?_ ?_) <;> (repeat' first | exact rfl | exact trivial | refine And.intro ?_ ?_)); all_goals ((rw [hst]))) (by rfl))
    refine Pick.by (fun h4 => ?_) (fun h4 => ?_)
    · have h4 : (nearL E (k : Int)).length = 2 := by rw [ints_length] at h4; have := beq_iff_eq.1 h4; omega
      rw [if_neg (by omega), List.append_nil] at hst
      refine Pick.T (inI64_of (by omega) (by omega)) ?_
      refine Next.by (k + 1) ⟨by omega, hnx (.inr (.inl h4))⟩ (by omega) (by refine Weak.by [(0, some _), (1, some _), (2, some _), (3, some _), (4, some _), (5, some _)] (by ((repeat' first | exact rfl | exact trivial | refine And.intro ?_ ?_) <;> (repeat' first | exact rfl | exact trivial | refine And.intro ?_ ?_)); all_goals ((rw [hst]))) (by ((repeat' first | exact rfl | exact trivial | refine And.intro ?_ ?_) <;> (repeat' first | exact rfl | exact trivial | refine And.intro ?_ ?_)); all_goals ((rw [hst]))) (by rfl))
    refine Pick.by (fun h5 => ?_) (fun h5 => ?_)
    · have h5 : (nearL E (k : Int)).length = 3 := by rw [ints_length] at h5; have := beq_iff_eq.1 h5; omega
      rw [if_pos h5] at hst
      refine Pick.T (by simp [cut, ints_length] at htl ⊢; omega) ?_
      refine Pick.T (inI64_of (by omega) (by omega)) ?_
      refine Next.by (k + 1) ⟨by omega, hnx (.inr (.inr h5))⟩ (by omega) (by refine Weak.by [(0, some _), (1, some _), (2, some _), (3, some _), (4, some _), (5, some _)] (by ((repeat' first | exact rfl | exact trivial | refine And.intro ?_ ?_) <;> (repeat' first | exact rfl | exact trivial | refine And.intro ?_ ?_)); all_goals ((rw [hst, ints_snoc]; rfl))) (by ((repeat' first | exact rfl | exact trivial | refine And.intro ?_ ?_) <;> (repeat' first | exact rfl | exact trivial | refine And.intro ?_ ?_)); all_goals ((rw [hst, ints_snoc]; rfl))) (by rfl))
    · have hno : ¬ degOk E k := by
        rw [ints_length] at h3 h4 h5
        have h3 := beq_eq_false_iff_ne.1 h3
        have h4 := beq_eq_false_iff_ne.1 h4
        have h5 := beq_eq_false_iff_ne.1 h5
        unfold degOk
        omega
      have hv := readF_no (n := n) (E := E) (fun h => hno (h.2.1 k (by omega)))
      dsimp only
      rw [hv]
      exact ⟨rfl, rfl, ⟨rfl, ⟨rfl, rfl⟩, ⟨rfl, rfl⟩, trivial⟩, rfl, trivial⟩
  have hge : k = n.toNat := by have := of_decide_eq_false hc; omega
  subst hge
  have hdegs : degsOk n E := fun v hv => hdg v (by omega)
  have hTs3 : ∀ t ∈ topsK E n.toNat, 0 ≤ t ∧ t < n ∧ (nearL E t).length = 3 := fun t ht => by
    have := mem_topsK.1 ht
    exact ⟨this.1, by omega, this.2.2⟩
  have hTsn : (topsK E n.toNat).Nodup := (topsK_sorted E n.toNat).imp fun h => by omega
  obtain ⟨Ts, hTs⟩ : ∃ Ts, topsK E n.toNat = Ts := ⟨_, rfl⟩
  rw [hTs] at hTs3 hTsn htl ⊢
  have hTd : ∀ t ∈ Ts, (nearL E t).length = 3 := fun t ht => (hTs3 t ht).2.2
  refine Pick.by (fun h4 => ?_) (fun h4 => ?_)
  · have h4 : Ts.length = 4 := by rw [ints_length] at h4; have := beq_iff_eq.1 h4; omega
    have hkd : kindT Ts = 1 := if_pos h4
    refine LoopP.intro (α := Nat) (fun i => i ≤ Ts.length) (fun i => Ts.length - i) (fun i => [(1, .ptr 0 0), (2, .ptr 2 0), (4, .ptr 3 0), (5, .sl 4 none none), (9, .s (.i .i64 (usedT (pathsT n E (Ts.take i)) : Nat))), (68, .sl 5 none none), (69, .s (.i .i64 Ts.length)), (70, .s (.i .i64 i))])
      (fun i => [(0, some (.blk [.s (.i .i64 n), .sl 1 none none])), (1, some (.flat false 2 (edges E))), (2, some (.blk [.s (.i .i64 0), .nils, .nils])), (3, some (.blk [.s (.i .i64 1), .sl 5 none none, .sl 6 none none])), (4, some (.nest true 1 (rowsI (nbrs n.toNat E)) [] [])), (5, some (.flat true 1 (ints Ts))), (6, some (.nest true 1 (rowsI (pathsT n E (Ts.take i))) [] []))]) 7 0 (by omega) (by refine Weak.by [(0, some _), (1, some _), (2, some _), (3, some _), (4, some _), (5, some _), (6, none)] (by ((repeat' first | exact rfl | exact trivial | refine And.intro ?_ ?_) <;> (repeat' first | exact rfl | exact trivial | refine And.intro ?_ ?_)); all_goals ((first | exact sc_eq (by rw [ints_length]) | done))) (by ((repeat' first | exact rfl | exact trivial | refine And.intro ?_ ?_) <;> (repeat' first | exact rfl | exact trivial | refine And.intro ?_ ?_)); all_goals ((first | exact sc_eq (by rw [ints_length]) | done))) (by rfl)) ?_
    rintro i hi
    refine Pick.by (fun hc => ?_) (fun hc => ?_)
    · have hlt : i < Ts.length := by have := of_decide_eq_true hc; omega
      obtain ⟨t, ht⟩ : ∃ t, Ts[i] = t := ⟨_, rfl⟩
      have htm : t ∈ Ts := by rw [← ht]; exact List.getElem_mem hlt
      have hti : Ts[i]? = some t := by rw [List.getElem?_eq_getElem hlt, ht]
      obtain ⟨t0, t1, t2⟩ := hTs3 t htm
      have htn := nb_get (n := n.toNat) (E := E) (v := t.toNat) (by omega)
      rw [Int.toNat_of_nonneg t0] at htn
      refine Idx.by i rfl (by rw [ints_length]; exact hlt) ?_
      refine Look.by _ (ints_get hti) ?_
      refine Idx.by t.toNat (by show t = _; omega) (by rw [hkl]; omega) ?_
      refine Pick.T (by rw [hkl]; simp; omega) ?_
      refine Look.by _ htn ?_
      have hk0 : pathsT n E (Ts.take i) ++ keepT n E t ((nearL E t).take 0) = pathsT n E (Ts.take i) := by rw [List.take_zero]; simp [keepT]
      refine LoopP.intro (α := Nat) (fun j => j ≤ (nearL E t).length) (fun j => (nearL E t).length - j) (fun j => [(1, .ptr 0 0), (2, .ptr 2 0), (4, .ptr 3 0), (5, .sl 4 none none), (9, .s (.i .i64 (usedT (pathsT n E (Ts.take i) ++ keepT n E t ((nearL E t).take j)) : Nat))), (11, .s (.i .i64 t)), (68, .sl 5 none none), (69, .s (.i .i64 Ts.length)), (70, .s (.i .i64 i)), (77, .sl 4 (some (t.toNat, 0)) none), (78, .s (.i .i64 (nearL E t).length)), (79, .s (.i .i64 j))])
        (fun j => [(0, some (.blk [.s (.i .i64 n), .sl 1 none none])), (1, some (.flat false 2 (edges E))), (2, some (.blk [.s (.i .i64 0), .nils, .nils])), (3, some (.blk [.s (.i .i64 1), .sl 5 none none, .sl 6 none none])), (4, some (.nest true 1 (rowsI (nbrs n.toNat E)) [] [])), (5, some (.flat true 1 (ints Ts))), (6, some (.nest true 1 (rowsI (pathsT n E (Ts.take i) ++ keepT n E t ((nearL E t).take j))) [] []))]) 7 0 (by omega) (by refine Weak.by [(0, some _), (1, some _), (2, some _), (3, some _), (4, some _), (5, some _), (6, some _)] (by ((repeat' first | exact rfl | exact trivial | refine And.intro ?_ ?_) <;> (repeat' first | exact rfl | exact trivial | refine And.intro ?_ ?_)); all_goals ((first | exact sc_eq (by rw [ints_length]) | exact sc_eq (by rw [hk0]) | (rw [hk0]; done) | (simp; done)))) (by ((repeat' first | exact rfl | exact trivial | refine And.intro ?_ ?_) <;> (repeat' first | exact rfl | exact trivial | refine And.intro ?_ ?_)); all_goals ((first | exact sc_eq (by rw [ints_length]) | exact sc_eq (by rw [hk0]) | (rw [hk0]; done) | (simp; done)))) (by rfl)) ?_
      rintro j hj
      refine Pick.by (fun hc2 => ?_) (fun hc2 => ?_)
      · have hjl : j < (nearL E t).length := by have := of_decide_eq_true hc2; omega
        obtain ⟨x0, hx0⟩ : ∃ x, (nearL E t)[j] = x := ⟨_, rfl⟩
        have hxm : x0 ∈ nearL E t := by rw [← hx0]; exact List.getElem_mem hjl
        have hxg : (nearL E t)[j]? = some x0 := by rw [List.getElem?_eq_getElem hjl, hx0]
        refine Look.by _ htn ?_
        refine Idx.by j rfl (by rw [ints_length]; exact hjl) ?_
        refine Look.by _ htn ?_
        refine Look.by _ (ints_get hxg) ?_
        refine LoopP.intro (α := List Int) (fun p => FolT n E t p ∧ ∃ f, n.toNat + 2 ≤ f + p.length ∧ goT E f p = pathT n E t x0) (fun p => n.toNat + 2 - p.length) (fun p => [(1, .ptr 0 0), (2, .ptr 2 0), (4, .ptr 3 0), (5, .sl 4 none none), (9, .s (.i .i64 (usedT (pathsT n E (Ts.take i) ++ keepT n E t ((nearL E t).take j)) : Nat))), (11, .s (.i .i64 t)), (13, .s (.i .i64 (p.getLastD 0))), (14, .sl 7 none none), (68, .sl 5 none none), (69, .s (.i .i64 Ts.length)), (70, .s (.i .i64 i)), (77, .sl 4 (some (t.toNat, 0)) none), (78, .s (.i .i64 (nearL E t).length)), (79, .s (.i .i64 j))])
          (fun p => [(0, some (.blk [.s (.i .i64 n), .sl 1 none none])), (1, some (.flat false 2 (edges E))), (2, some (.blk [.s (.i .i64 0), .nils, .nils])), (3, some (.blk [.s (.i .i64 1), .sl 5 none none, .sl 6 none none])), (4, some (.nest true 1 (rowsI (nbrs n.toNat E)) [] [])), (5, some (.flat true 1 (ints Ts))), (6, some (.nest true 1 (rowsI (pathsT n E (Ts.take i) ++ keepT n E t ((nearL E t).take j))) [] [])), (7, some (.flat true 1 (ints p)))]) 8 [t, x0] ⟨FolT.start hxm, n.toNat, by simp, rfl⟩ (by refine Weak.by [(0, some _), (1, some _), (2, some _), (3, some _), (4, some _), (5, some _), (6, some _), (7, some _)] (by ((repeat' first | exact rfl | exact trivial | refine And.intro ?_ ?_) <;> (repeat' first | exact rfl | exact trivial | refine And.intro ?_ ?_)); all_goals ((first | (simp; done)))) (by ((repeat' first | exact rfl | exact trivial | refine And.intro ?_ ?_) <;> (repeat' first | exact rfl | exact trivial | refine And.intro ?_ ?_)); all_goals ((first | (simp; done)))) (by rfl)) ?_
        rintro p ⟨hF, f, hf, hg⟩
        have hp2 := hF.two
        have hpn := hF.len h1
        obtain ⟨xl, hxl⟩ : ∃ x, p.getLastD 0 = x := ⟨_, rfl⟩
        have hxr : 0 ≤ xl ∧ xl < n := by rw [← hxl, lastD_get (by omega)]; exact hF.inN h1 _ (by rw [getD_at (by omega)]; exact List.getElem_mem _)
        have hxt := nb_get (n := n.toNat) (E := E) (v := xl.toNat) (by omega)
        rw [Int.toNat_of_nonneg hxr.1] at hxt
        rw [hxl]
        refine Idx.by xl.toNat (by show xl = _; omega) (by rw [hkl]; omega) ?_
        refine Pick.T (by rw [hkl]; simp; omega) ?_
        refine Look.by _ hxt ?_
        refine Pick.by (fun h2 => ?_) (fun h2 => ?_)
        · have h2 : (nearL E xl).length = 2 := by rw [ints_length] at h2; have := beq_iff_eq.1 h2; omega
          obtain ⟨c, hcc⟩ : ∃ c, (nearL E xl).getD 0 0 = c := ⟨_, rfl⟩
          obtain ⟨d, hdd⟩ : ∃ d, (nearL E xl).getD 1 0 = d := ⟨_, rfl⟩
          obtain ⟨q, hqq⟩ : ∃ q, p.getD (p.length - 2) 0 = q := ⟨_, rfl⟩
          have hcg : (nearL E xl)[0]? = some c := by rw [getD_get (by omega), hcc]
          have hdg2 : (nearL E xl)[1]? = some d := by rw [getD_get (by omega), hdd]
          have hqg : p[p.length - 2]? = some q := by rw [getD_get (by omega), hqq]
          have hcr := (adj_in h1 (mem_nearL.1 (List.mem_of_getElem? hcg))).2
          have hdr := (adj_in h1 (mem_nearL.1 (List.mem_of_getElem? hdg2))).2
          have hqr := hF.inN h1 q (List.mem_of_getElem? hqg)
          have hnx : nxtT E p = c + d - q := by unfold nxtT; rw [hxl, hcc, hdd, hqq]
          refine Idx.by xl.toNat (by show xl = _; omega) (by rw [hkl]; omega) ?_
          refine Pick.T (by rw [hkl]; simp; omega) ?_
          refine Look.by _ hxt ?_
          refine Idx.by 0 rfl (by rw [ints_length]; omega) ?_
          refine Look.by _ hxt ?_
          refine Look.by _ (ints_get hcg) ?_
          refine Idx.by xl.toNat (by show xl = _; omega) (by rw [hkl]; omega) ?_
          refine Pick.T (by rw [hkl]; simp; omega) ?_
          refine Look.by _ hxt ?_
          refine Idx.by 1 rfl (by rw [ints_length]; omega) ?_
          refine Look.by _ hxt ?_
          refine Look.by _ (ints_get hdg2) ?_
          refine Pick.T (inI64_of (by omega) (by omega)) ?_
          refine Pick.T (inI64_of (by rw [ints_length]; omega) (by rw [ints_length]; omega)) ?_
          refine Idx.by (p.length - 2) (by rw [ints_length]; omega) (by rw [ints_length]; omega) ?_
          refine Look.by _ (ints_get hqg) ?_
          refine Pick.T (inI64_of (by omega) (by omega)) ?_
          refine Seg.by (by kernel_rfl) ?_
          refine Pick.T (by simp [cut, ints_length]; omega) ?_
          have h2' : (nearL E (p.getLastD 0)).length = 2 := by rw [hxl]; exact h2
          have hlen := hF.len2 h1 (by omega) h2'
          obtain ⟨f', rfl⟩ : ∃ f', f = f' + 1 := ⟨f - 1, by omega⟩
          rw [goT_step h2'] at hg
          have hla : (p ++ [nxtT E p]).getLastD 0 = c + d - q := by rw [List.getLastD_concat, hnx]
          refine Next.by (p ++ [nxtT E p]) ⟨hF.next h1 (by omega) h2', f', by simp; omega, hg⟩ (by simp; omega) (by refine Weak.by [(0, some _), (1, some _), (2, some _), (3, some _), (4, some _), (5, some _), (6, some _), (7, some _)] (by ((repeat' first | exact rfl | exact trivial | refine And.intro ?_ ?_) <;> (repeat' first | exact rfl | exact trivial | refine And.intro ?_ ?_)); all_goals ((first | exact sc_eq hla | (rw [hnx, ints_snoc]; rfl) | (simp; done)))) (by ((repeat' first | exact rfl | exact trivial | refine And.intro ?_ ?_) <;> (repeat' first | exact rfl | exact trivial | refine And.intro ?_ ?_)); all_goals ((first | exact sc_eq hla | (rw [hnx, ints_snoc]; rfl) | (simp; done)))) (by rfl))
        · have h2 : (nearL E xl).length ≠ 2 := by rw [ints_length] at h2; have := beq_eq_false_iff_ne.1 h2; omega
          have hpp : p = pathT n E t x0 := by rw [← hg, goT_stop (by rw [hxl]; exact h2)]
          have hstk : keepT n E t ((nearL E t).take (j + 1)) = keepT n E t ((nearL E t).take j) ++ (if t < xl then [p] else []) := by
            rw [List.take_succ_eq_append_getElem hjl, hx0, keepT_snoc, ← hpp, hxl]
          have hkl2 := keepT_len n E t ((nearL E t).take j)
          have htk : ((nearL E t).take j).length ≤ 3 := by rw [List.length_take]; omega
          have hpl := pathsT_len (n := n) (T := Ts.take i) fun y hy => hTd y (List.mem_of_mem_take hy)
          have hti3 : (Ts.take i).length ≤ 4 := by rw [List.length_take]; omega
          have hall : ∀ r ∈ pathsT n E (Ts.take i) ++ keepT n E t ((nearL E t).take j), r.length ≤ n.toNat + 1 := fun r hr => by
            rcases List.mem_append.1 hr with hr | hr
            · exact (pathsT_row h1 (fun y hy => hTd y (List.mem_of_mem_take hy)) hr).2
            · exact (keepT_row h1 t2 (fun y hy => List.mem_of_mem_take hy) hr).2
          have hul := usedT_le hall
          have hll : (pathsT n E (Ts.take i) ++ keepT n E t ((nearL E t).take j)).length ≤ 15 := by rw [List.length_append]; omega
          have hub : usedT (pathsT n E (Ts.take i) ++ keepT n E t ((nearL E t).take j)) ≤ 15000 := Nat.le_trans hul (Nat.le_trans (Nat.mul_le_mul hll (show n.toNat ≤ 1000 by omega)) (by decide))
          refine Pick.by (fun h3 => ?_) (fun h3 => ?_)
          · have h3 : ¬ t < xl := by have := of_decide_eq_true h3; omega
            rw [if_neg h3, List.append_nil] at hstk
            refine Pick.T (inI64_of (by omega) (by omega)) ?_
            refine Next.by (j + 1) (by omega) (by omega) (by refine Weak.by [(0, some _), (1, some _), (2, some _), (3, some _), (4, some _), (5, some _), (6, some _)] (by ((repeat' first | exact rfl | exact trivial | refine And.intro ?_ ?_) <;> (repeat' first | exact rfl | exact trivial | refine And.intro ?_ ?_)); all_goals ((first | exact sc_eq (by rw [hstk]) | (rw [hstk]; done) | (rw [hstk]; rfl) | (simp; done)))) (by ((repeat' first | exact rfl | exact trivial | refine And.intro ?_ ?_) <;> (repeat' first | exact rfl | exact trivial | refine And.intro ?_ ?_)); all_goals ((first | exact sc_eq (by rw [hstk]) | (rw [hstk]; done) | (rw [hstk]; rfl) | (simp; done)))) (by rfl))
          · have h3 : t < xl := by have := of_decide_eq_false h3; omega
            rw [if_pos h3] at hstk
            refine Pick.T (decide_eq_true (by rw [rowsI_length]; simp only [List.length_cons, List.length_nil]; omega)) ?_
            have hus : usedT (pathsT n E (Ts.take i) ++ (keepT n E t ((nearL E t).take j) ++ [p])) = usedT (pathsT n E (Ts.take i) ++ keepT n E t ((nearL E t).take j)) + (p.length - 1) := by rw [← List.append_assoc, usedT_snoc]
            have hil : ((ints p).length : Int) = p.length := by rw [ints_length]
            refine Pick.T (inI64_of (by rw [hil]; omega) (by rw [hil]; omega)) ?_
            refine Pick.T (inI64_of (by rw [hil]; omega) (by rw [hil]; omega)) ?_
            refine Pick.T (inI64_of (by omega) (by omega)) ?_
            refine Next.by (j + 1) (by omega) (by omega) (by refine Weak.by [(0, some _), (1, some _), (2, some _), (3, some _), (4, some _), (5, some _), (6, some _)] (by ((repeat' first | exact rfl | exact trivial | refine And.intro ?_ ?_) <;> (repeat' first | exact rfl | exact trivial | refine And.intro ?_ ?_)); all_goals ((first | exact sc_eq (by rw [hstk, hus, hil]; omega) | (rw [hstk, ← List.append_assoc, rowsI_snoc]; done) | (rw [hstk, ← List.append_assoc, rowsI_snoc]; rfl) | (simp; done)))) (by ((repeat' first | exact rfl | exact trivial | refine And.intro ?_ ?_) <;> (repeat' first | exact rfl | exact trivial | refine And.intro ?_ ?_)); all_goals ((first | exact sc_eq (by rw [hstk, hus, hil]; omega) | (rw [hstk, ← List.append_assoc, rowsI_snoc]; done) | (rw [hstk, ← List.append_assoc, rowsI_snoc]; rfl) | (simp; done)))) (by rfl))
      · have hjg : (nearL E t).length ≤ j := by have := of_decide_eq_false hc2; omega
        rw [List.take_of_length_le hjg]
        refine Pick.T (inI64_of (by omega) (by omega)) ?_
        have hstp : pathsT n E (Ts.take (i + 1)) = pathsT n E (Ts.take i) ++ keepT n E t (nearL E t) := by rw [List.take_succ_eq_append_getElem hlt, ht, pathsT_snoc]
        refine Next.by (i + 1) (by omega) (by omega) (by refine Weak.by [(0, some _), (1, some _), (2, some _), (3, some _), (4, some _), (5, some _), (6, some _)] (by ((repeat' first | exact rfl | exact trivial | refine And.intro ?_ ?_) <;> (repeat' first | exact rfl | exact trivial | refine And.intro ?_ ?_)); all_goals ((first | exact sc_eq (by rw [hstp]) | (rw [hstp]; done) | (rw [hstp]; rfl)))) (by ((repeat' first | exact rfl | exact trivial | refine And.intro ?_ ?_) <;> (repeat' first | exact rfl | exact trivial | refine And.intro ?_ ?_)); all_goals ((first | exact sc_eq (by rw [hstp]) | (rw [hstp]; done) | (rw [hstp]; rfl)))) (by rfl))
    · have hge : Ts.length ≤ i := by have := of_decide_eq_false hc; omega
      rw [List.take_of_length_le hge]
      have hpl := pathsT_len (n := n) hTd
      have hsn : sortNP goodT cmpT (rowsI (pathsT n E Ts)) := ⟨_, rfl, fun r hr => by have := pathsT_row h1 hTd hr; exact ⟨this.1, by omega⟩, paths_keys h1 hTd hTsn, by omega⟩
      have hsp := sortL_perm cmpT (pathsT n E Ts)
      have hfew : fewL (sortL cmpT (pathsT n E Ts)) := ⟨by rw [hsp.length_eq]; omega, fun r hr => by have := pathsT_row h1 hTd (hsp.mem_iff.1 hr); omega⟩
      refine ⟨rfl, rfl, _, _, rfl, hsn, ?_⟩
      rw [sortN_rows]
      refine Pick.by (fun h6 => ?_) (fun h6 => ?_)
      · have h6 : usedT (pathsT n E Ts) ≠ E.length := by intro e; rw [edges_length, e] at h6; simp at h6
        have hv := readF_no (n := n) (E := E) (fun h => h6 (by rw [← hTs]; exact h.2.2.2.1))
        dsimp only
        rw [hv]
        exact ⟨rfl, rfl, ⟨rfl, ⟨rfl, rfl⟩, ⟨rfl, rfl⟩, trivial⟩, rfl, trivial⟩
      have h6 : usedT (pathsT n E Ts) = E.length := by
        have h6 : (!((usedT (pathsT n E Ts) : Int) == ((edges E).length : Nat))) = false := h6
        rw [edges_length] at h6
        have : (usedT (pathsT n E Ts) : Int) = (E.length : Nat) := by simpa only [Bool.not_eq_false', beq_iff_eq] using h6
        omega
      refine Call.by _ _ (SubC_at (n := n) (E := E) (k := 1) (Ts := Ts) hfew) ?_
      refine Pick.by (fun h7 => ?_) (fun h7 => ?_)
      · have h7 : ¬ SubP n E 1 Ts (sortL cmpT (pathsT n E Ts)) := by
          have h7 : (!subB n E 1 Ts (sortL cmpT (pathsT n E Ts))) = true := h7
          intro h; rw [subB_iff.2 h] at h7; cases h7
        have hv := readF_no (n := n) (E := E) (fun h => h7 (by have := h.2.2.2.2; rw [hTs, hkd] at this; exact this))
        dsimp only
        rw [hv]
        exact ⟨rfl, rfl, ⟨rfl, ⟨rfl, rfl⟩, ⟨rfl, rfl⟩, trivial⟩, rfl, trivial⟩
      · have h7 : SubP n E 1 Ts (sortL cmpT (pathsT n E Ts)) := by
          have h7 : (!subB n E 1 Ts (sortL cmpT (pathsT n E Ts))) = false := h7
          exact subB_iff.1 (by simpa using h7)
        have hv := readF_yes (n := n) (E := E) ⟨h1, hdegs, by rw [hTs, hkd]; decide, by rw [hTs]; exact h6, by rw [hTs, hkd]; exact h7⟩
        rw [hTs, hkd] at hv
        dsimp only
        rw [hv]
        exact ⟨rfl, rfl, ⟨rfl, ⟨rfl, rfl⟩, ⟨rfl, rfl⟩, trivial⟩, rfl, trivial⟩
  have h4 : Ts.length ≠ 4 := by rw [ints_length] at h4; have := beq_eq_false_iff_ne.1 h4; omega
  refine Pick.by (fun h5 => ?_) (fun h5 => ?_)
  · have h5 : Ts.length = 2 := by rw [ints_length] at h5; have := beq_iff_eq.1 h5; omega
    have hkd : kindT Ts = 2 := by unfold kindT; rw [if_neg h4, if_pos h5]
    refine LoopP.intro (α := Nat) (fun i => i ≤ Ts.length) (fun i => Ts.length - i) (fun i => [(1, .ptr 0 0), (2, .ptr 2 0), (4, .ptr 3 0), (5, .sl 4 none none), (9, .s (.i .i64 (usedT (pathsT n E (Ts.take i)) : Nat))), (68, .sl 5 none none), (69, .s (.i .i64 Ts.length)), (70, .s (.i .i64 i))])
      (fun i => [(0, some (.blk [.s (.i .i64 n), .sl 1 none none])), (1, some (.flat false 2 (edges E))), (2, some (.blk [.s (.i .i64 0), .nils, .nils])), (3, some (.blk [.s (.i .i64 2), .sl 5 none none, .sl 6 none none])), (4, some (.nest true 1 (rowsI (nbrs n.toNat E)) [] [])), (5, some (.flat true 1 (ints Ts))), (6, some (.nest true 1 (rowsI (pathsT n E (Ts.take i))) [] []))]) 7 0 (by omega) (by refine Weak.by [(0, some _), (1, some _), (2, some _), (3, some _), (4, some _), (5, some _), (6, none)] (by ((repeat' first | exact rfl | exact trivial | refine And.intro ?_ ?_) <;> (repeat' first | exact rfl | exact trivial | refine And.intro ?_ ?_)); all_goals ((first | exact sc_eq (by rw [ints_length]) | done))) (by ((repeat' first | exact rfl | exact trivial | refine And.intro ?_ ?_) <;> (repeat' first | exact rfl | exact trivial | refine And.intro ?_ ?_)); all_goals ((first | exact sc_eq (by rw [ints_length]) | done))) (by rfl)) ?_
    rintro i hi
    refine Pick.by (fun hc => ?_) (fun hc => ?_)
    · have hlt : i < Ts.length := by have := of_decide_eq_true hc; omega
      obtain ⟨t, ht⟩ : ∃ t, Ts[i] = t := ⟨_, rfl⟩
      have htm : t ∈ Ts := by rw [← ht]; exact List.getElem_mem hlt
      have hti : Ts[i]? = some t := by rw [List.getElem?_eq_getElem hlt, ht]
      obtain ⟨t0, t1, t2⟩ := hTs3 t htm
      have htn := nb_get (n := n.toNat) (E := E) (v := t.toNat) (by omega)
      rw [Int.toNat_of_nonneg t0] at htn
      refine Idx.by i rfl (by rw [ints_length]; exact hlt) ?_
      refine Look.by _ (ints_get hti) ?_
      refine Idx.by t.toNat (by show t = _; omega) (by rw [hkl]; omega) ?_
      refine Pick.T (by rw [hkl]; simp; omega) ?_
      refine Look.by _ htn ?_
      have hk0 : pathsT n E (Ts.take i) ++ keepT n E t ((nearL E t).take 0) = pathsT n E (Ts.take i) := by rw [List.take_zero]; simp [keepT]
      refine LoopP.intro (α := Nat) (fun j => j ≤ (nearL E t).length) (fun j => (nearL E t).length - j) (fun j => [(1, .ptr 0 0), (2, .ptr 2 0), (4, .ptr 3 0), (5, .sl 4 none none), (9, .s (.i .i64 (usedT (pathsT n E (Ts.take i) ++ keepT n E t ((nearL E t).take j)) : Nat))), (11, .s (.i .i64 t)), (68, .sl 5 none none), (69, .s (.i .i64 Ts.length)), (70, .s (.i .i64 i)), (77, .sl 4 (some (t.toNat, 0)) none), (78, .s (.i .i64 (nearL E t).length)), (79, .s (.i .i64 j))])
        (fun j => [(0, some (.blk [.s (.i .i64 n), .sl 1 none none])), (1, some (.flat false 2 (edges E))), (2, some (.blk [.s (.i .i64 0), .nils, .nils])), (3, some (.blk [.s (.i .i64 2), .sl 5 none none, .sl 6 none none])), (4, some (.nest true 1 (rowsI (nbrs n.toNat E)) [] [])), (5, some (.flat true 1 (ints Ts))), (6, some (.nest true 1 (rowsI (pathsT n E (Ts.take i) ++ keepT n E t ((nearL E t).take j))) [] []))]) 7 0 (by omega) (by refine Weak.by [(0, some _), (1, some _), (2, some _), (3, some _), (4, some _), (5, some _), (6, some _)] (by ((repeat' first | exact rfl | exact trivial | refine And.intro ?_ ?_) <;> (repeat' first | exact rfl | exact trivial | refine And.intro ?_ ?_)); all_goals ((first | exact sc_eq (by rw [ints_length]) | exact sc_eq (by rw [hk0]) | (rw [hk0]; done) | (simp; done)))) (by ((repeat' first | exact rfl | exact trivial | refine And.intro ?_ ?_) <;> (repeat' first | exact rfl | exact trivial | refine And.intro ?_ ?_)); all_goals ((first | exact sc_eq (by rw [ints_length]) | exact sc_eq (by rw [hk0]) | (rw [hk0]; done) | (simp; done)))) (by rfl)) ?_
      rintro j hj
      refine Pick.by (fun hc2 => ?_) (fun hc2 => ?_)
      · have hjl : j < (nearL E t).length := by have := of_decide_eq_true hc2; omega
        obtain ⟨x0, hx0⟩ : ∃ x, (nearL E t)[j] = x := ⟨_, rfl⟩
        have hxm : x0 ∈ nearL E t := by rw [← hx0]; exact List.getElem_mem hjl
        have hxg : (nearL E t)[j]? = some x0 := by rw [List.getElem?_eq_getElem hjl, hx0]
        refine Look.by _ htn ?_
        refine Idx.by j rfl (by rw [ints_length]; exact hjl) ?_
        refine Look.by _ htn ?_
        refine Look.by _ (ints_get hxg) ?_
        refine LoopP.intro (α := List Int) (fun p => FolT n E t p ∧ ∃ f, n.toNat + 2 ≤ f + p.length ∧ goT E f p = pathT n E t x0) (fun p => n.toNat + 2 - p.length) (fun p => [(1, .ptr 0 0), (2, .ptr 2 0), (4, .ptr 3 0), (5, .sl 4 none none), (9, .s (.i .i64 (usedT (pathsT n E (Ts.take i) ++ keepT n E t ((nearL E t).take j)) : Nat))), (11, .s (.i .i64 t)), (13, .s (.i .i64 (p.getLastD 0))), (14, .sl 7 none none), (68, .sl 5 none none), (69, .s (.i .i64 Ts.length)), (70, .s (.i .i64 i)), (77, .sl 4 (some (t.toNat, 0)) none), (78, .s (.i .i64 (nearL E t).length)), (79, .s (.i .i64 j))])
          (fun p => [(0, some (.blk [.s (.i .i64 n), .sl 1 none none])), (1, some (.flat false 2 (edges E))), (2, some (.blk [.s (.i .i64 0), .nils, .nils])), (3, some (.blk [.s (.i .i64 2), .sl 5 none none, .sl 6 none none])), (4, some (.nest true 1 (rowsI (nbrs n.toNat E)) [] [])), (5, some (.flat true 1 (ints Ts))), (6, some (.nest true 1 (rowsI (pathsT n E (Ts.take i) ++ keepT n E t ((nearL E t).take j))) [] [])), (7, some (.flat true 1 (ints p)))]) 8 [t, x0] ⟨FolT.start hxm, n.toNat, by simp, rfl⟩ (by refine Weak.by [(0, some _), (1, some _), (2, some _), (3, some _), (4, some _), (5, some _), (6, some _), (7, some _)] (by ((repeat' first | exact rfl | exact trivial | refine And.intro ?_ ?_) <;> (repeat' first | exact rfl | exact trivial | refine And.intro ?_ ?_)); all_goals ((first | (simp; done)))) (by ((repeat' first | exact rfl | exact trivial | refine And.intro ?_ ?_) <;> (repeat' first | exact rfl | exact trivial | refine And.intro ?_ ?_)); all_goals ((first | (simp; done)))) (by rfl)) ?_
        rintro p ⟨hF, f, hf, hg⟩
        have hp2 := hF.two
        have hpn := hF.len h1
        obtain ⟨xl, hxl⟩ : ∃ x, p.getLastD 0 = x := ⟨_, rfl⟩
        have hxr : 0 ≤ xl ∧ xl < n := by rw [← hxl, lastD_get (by omega)]; exact hF.inN h1 _ (by rw [getD_at (by omega)]; exact List.getElem_mem _)
        have hxt := nb_get (n := n.toNat) (E := E) (v := xl.toNat) (by omega)
        rw [Int.toNat_of_nonneg hxr.1] at hxt
        rw [hxl]
        refine Idx.by xl.toNat (by show xl = _; omega) (by rw [hkl]; omega) ?_
        refine Pick.T (by rw [hkl]; simp; omega) ?_
        refine Look.by _ hxt ?_
        refine Pick.by (fun h2 => ?_) (fun h2 => ?_)
        · have h2 : (nearL E xl).length = 2 := by rw [ints_length] at h2; have := beq_iff_eq.1 h2; omega
          obtain ⟨c, hcc⟩ : ∃ c, (nearL E xl).getD 0 0 = c := ⟨_, rfl⟩
          obtain ⟨d, hdd⟩ : ∃ d, (nearL E xl).getD 1 0 = d := ⟨_, rfl⟩
          obtain ⟨q, hqq⟩ : ∃ q, p.getD (p.length - 2) 0 = q := ⟨_, rfl⟩
          have hcg : (nearL E xl)[0]? = some c := by rw [getD_get (by omega), hcc]
          have hdg2 : (nearL E xl)[1]? = some d := by rw [getD_get (by omega), hdd]
          have hqg : p[p.length - 2]? = some q := by rw [getD_get (by omega), hqq]
          have hcr := (adj_in h1 (mem_nearL.1 (List.mem_of_getElem? hcg))).2
          have hdr := (adj_in h1 (mem_nearL.1 (List.mem_of_getElem? hdg2))).2
          have hqr := hF.inN h1 q (List.mem_of_getElem? hqg)
          have hnx : nxtT E p = c + d - q := by unfold nxtT; rw [hxl, hcc, hdd, hqq]
          refine Idx.by xl.toNat (by show xl = _; omega) (by rw [hkl]; omega) ?_
          refine Pick.T (by rw [hkl]; simp; omega) ?_
          refine Look.by _ hxt ?_
          refine Idx.by 0 rfl (by rw [ints_length]; omega) ?_
          refine Look.by _ hxt ?_
          refine Look.by _ (ints_get hcg) ?_
          refine Idx.by xl.toNat (by show xl = _; omega) (by rw [hkl]; omega) ?_
          refine Pick.T (by rw [hkl]; simp; omega) ?_
          refine Look.by _ hxt ?_
          refine Idx.by 1 rfl (by rw [ints_length]; omega) ?_
          refine Look.by _ hxt ?_
          refine Look.by _ (ints_get hdg2) ?_
          refine Pick.T (inI64_of (by omega) (by omega)) ?_
          refine Pick.T (inI64_of (by rw [ints_length]; omega) (by rw [ints_length]; omega)) ?_
          refine Idx.by (p.length - 2) (by rw [ints_length]; omega) (by rw [ints_length]; omega) ?_
          refine Look.by _ (ints_get hqg) ?_
          refine Pick.T (inI64_of (by omega) (by omega)) ?_
          refine Seg.by (by kernel_rfl) ?_
          refine Pick.T (by simp [cut, ints_length]; omega) ?_
          have h2' : (nearL E (p.getLastD 0)).length = 2 := by rw [hxl]; exact h2
          have hlen := hF.len2 h1 (by omega) h2'
          obtain ⟨f', rfl⟩ : ∃ f', f = f' + 1 := ⟨f - 1, by omega⟩
          rw [goT_step h2'] at hg
          have hla : (p ++ [nxtT E p]).getLastD 0 = c + d - q := by rw [List.getLastD_concat, hnx]
          refine Next.by (p ++ [nxtT E p]) ⟨hF.next h1 (by omega) h2', f', by simp; omega, hg⟩ (by simp; omega) (by refine Weak.by [(0, some _), (1, some _), (2, some _), (3, some _), (4, some _), (5, some _), (6, some _), (7, some _)] (by ((repeat' first | exact rfl | exact trivial | refine And.intro ?_ ?_) <;> (repeat' first | exact rfl | exact trivial | refine And.intro ?_ ?_)); all_goals ((first | exact sc_eq hla | (rw [hnx, ints_snoc]; rfl) | (simp; done)))) (by ((repeat' first | exact rfl | exact trivial | refine And.intro ?_ ?_) <;> (repeat' first | exact rfl | exact trivial | refine And.intro ?_ ?_)); all_goals ((first | exact sc_eq hla | (rw [hnx, ints_snoc]; rfl) | (simp; done)))) (by rfl))
        · have h2 : (nearL E xl).length ≠ 2 := by rw [ints_length] at h2; have := beq_eq_false_iff_ne.1 h2; omega
          have hpp : p = pathT n E t x0 := by rw [← hg, goT_stop (by rw [hxl]; exact h2)]
          have hstk : keepT n E t ((nearL E t).take (j + 1)) = keepT n E t ((nearL E t).take j) ++ (if t < xl then [p] else []) := by
            rw [List.take_succ_eq_append_getElem hjl, hx0, keepT_snoc, ← hpp, hxl]
          have hkl2 := keepT_len n E t ((nearL E t).take j)
          have htk : ((nearL E t).take j).length ≤ 3 := by rw [List.length_take]; omega
          have hpl := pathsT_len (n := n) (T := Ts.take i) fun y hy => hTd y (List.mem_of_mem_take hy)
          have hti3 : (Ts.take i).length ≤ 4 := by rw [List.length_take]; omega
          have hall : ∀ r ∈ pathsT n E (Ts.take i) ++ keepT n E t ((nearL E t).take j), r.length ≤ n.toNat + 1 := fun r hr => by
            rcases List.mem_append.1 hr with hr | hr
            · exact (pathsT_row h1 (fun y hy => hTd y (List.mem_of_mem_take hy)) hr).2
            · exact (keepT_row h1 t2 (fun y hy => List.mem_of_mem_take hy) hr).2
          have hul := usedT_le hall
          have hll : (pathsT n E (Ts.take i) ++ keepT n E t ((nearL E t).take j)).length ≤ 15 := by rw [List.length_append]; omega
          have hub : usedT (pathsT n E (Ts.take i) ++ keepT n E t ((nearL E t).take j)) ≤ 15000 := Nat.le_trans hul (Nat.le_trans (Nat.mul_le_mul hll (show n.toNat ≤ 1000 by omega)) (by decide))
          refine Pick.by (fun h3 => ?_) (fun h3 => ?_)
          · have h3 : ¬ t < xl := by have := of_decide_eq_true h3; omega
            rw [if_neg h3, List.append_nil] at hstk
            refine Pick.T (inI64_of (by omega) (by omega)) ?_
            refine Next.by (j + 1) (by omega) (by omega) (by refine Weak.by [(0, some _), (1, some _), (2, some _), (3, some _), (4, some _), (5, some _), (6, some _)] (by ((repeat' first | exact rfl | exact trivial | refine And.intro ?_ ?_) <;> (repeat' first | exact rfl | exact trivial | refine And.intro ?_ ?_)); all_goals ((first | exact sc_eq (by rw [hstk]) | (rw [hstk]; done) | (rw [hstk]; rfl) | (simp; done)))) (by ((repeat' first | exact rfl | exact trivial | refine And.intro ?_ ?_) <;> (repeat' first | exact rfl | exact trivial | refine And.intro ?_ ?_)); all_goals ((first | exact sc_eq (by rw [hstk]) | (rw [hstk]; done) | (rw [hstk]; rfl) | (simp; done)))) (by rfl))
          · have h3 : t < xl := by have := of_decide_eq_false h3; omega
            rw [if_pos h3] at hstk
            refine Pick.T (decide_eq_true (by rw [rowsI_length]; simp only [List.length_cons, List.length_nil]; omega)) ?_
            have hus : usedT (pathsT n E (Ts.take i) ++ (keepT n E t ((nearL E t).take j) ++ [p])) = usedT (pathsT n E (Ts.take i) ++ keepT n E t ((nearL E t).take j)) + (p.length - 1) := by rw [← List.append_assoc, usedT_snoc]
            have hil : ((ints p).length : Int) = p.length := by rw [ints_length]
            refine Pick.T (inI64_of (by rw [hil]; omega) (by rw [hil]; omega)) ?_
            refine Pick.T (inI64_of (by rw [hil]; omega) (by rw [hil]; omega)) ?_
            refine Pick.T (inI64_of (by omega) (by omega)) ?_
            refine Next.by (j + 1) (by omega) (by omega) (by refine Weak.by [(0, some _), (1, some _), (2, some _), (3, some _), (4, some _), (5, some _), (6, some _)] (by ((repeat' first | exact rfl | exact trivial | refine And.intro ?_ ?_) <;> (repeat' first | exact rfl | exact trivial | refine And.intro ?_ ?_)); all_goals ((first | exact sc_eq (by rw [hstk, hus, hil]; omega) | (rw [hstk, ← List.append_assoc, rowsI_snoc]; done) | (rw [hstk, ← List.append_assoc, rowsI_snoc]; rfl) | (simp; done)))) (by ((repeat' first | exact rfl | exact trivial | refine And.intro ?_ ?_) <;> (repeat' first | exact rfl | exact trivial | refine And.intro ?_ ?_)); all_goals ((first | exact sc_eq (by rw [hstk, hus, hil]; omega) | (rw [hstk, ← List.append_assoc, rowsI_snoc]; done) | (rw [hstk, ← List.append_assoc, rowsI_snoc]; rfl) | (simp; done)))) (by rfl))
      · have hjg : (nearL E t).length ≤ j := by have := of_decide_eq_false hc2; omega
        rw [List.take_of_length_le hjg]
        refine Pick.T (inI64_of (by omega) (by omega)) ?_
        have hstp : pathsT n E (Ts.take (i + 1)) = pathsT n E (Ts.take i) ++ keepT n E t (nearL E t) := by rw [List.take_succ_eq_append_getElem hlt, ht, pathsT_snoc]
        refine Next.by (i + 1) (by omega) (by omega) (by refine Weak.by [(0, some _), (1, some _), (2, some _), (3, some _), (4, some _), (5, some _), (6, some _)] (by ((repeat' first | exact rfl | exact trivial | refine And.intro ?_ ?_) <;> (repeat' first | exact rfl | exact trivial | refine And.intro ?_ ?_)); all_goals ((first | exact sc_eq (by rw [hstp]) | (rw [hstp]; done) | (rw [hstp]; rfl)))) (by ((repeat' first | exact rfl | exact trivial | refine And.intro ?_ ?_) <;> (repeat' first | exact rfl | exact trivial | refine And.intro ?_ ?_)); all_goals ((first | exact sc_eq (by rw [hstp]) | (rw [hstp]; done) | (rw [hstp]; rfl)))) (by rfl))
    · have hge : Ts.length ≤ i := by have := of_decide_eq_false hc; omega
      rw [List.take_of_length_le hge]
      have hpl := pathsT_len (n := n) hTd
      have hsn : sortNP goodT cmpT (rowsI (pathsT n E Ts)) := ⟨_, rfl, fun r hr => by have := pathsT_row h1 hTd hr; exact ⟨this.1, by omega⟩, paths_keys h1 hTd hTsn, by omega⟩
      have hsp := sortL_perm cmpT (pathsT n E Ts)
      have hfew : fewL (sortL cmpT (pathsT n E Ts)) := ⟨by rw [hsp.length_eq]; omega, fun r hr => by have := pathsT_row h1 hTd (hsp.mem_iff.1 hr); omega⟩
      refine ⟨rfl, rfl, _, _, rfl, hsn, ?_⟩
      rw [sortN_rows]
      refine Pick.by (fun h6 => ?_) (fun h6 => ?_)
      · have h6 : usedT (pathsT n E Ts) ≠ E.length := by intro e; rw [edges_length, e] at h6; simp at h6
        have hv := readF_no (n := n) (E := E) (fun h => h6 (by rw [← hTs]; exact h.2.2.2.1))
        dsimp only
        rw [hv]
        exact ⟨rfl, rfl, ⟨rfl, ⟨rfl, rfl⟩, ⟨rfl, rfl⟩, trivial⟩, rfl, trivial⟩
      have h6 : usedT (pathsT n E Ts) = E.length := by
        have h6 : (!((usedT (pathsT n E Ts) : Int) == ((edges E).length : Nat))) = false := h6
        rw [edges_length] at h6
        have : (usedT (pathsT n E Ts) : Int) = (E.length : Nat) := by simpa only [Bool.not_eq_false', beq_iff_eq] using h6
        omega
      refine Call.by _ _ (SubC_at (n := n) (E := E) (k := 2) (Ts := Ts) hfew) ?_
      refine Pick.by (fun h7 => ?_) (fun h7 => ?_)
      · have h7 : ¬ SubP n E 2 Ts (sortL cmpT (pathsT n E Ts)) := by
          have h7 : (!subB n E 2 Ts (sortL cmpT (pathsT n E Ts))) = true := h7
          intro h; rw [subB_iff.2 h] at h7; cases h7
        have hv := readF_no (n := n) (E := E) (fun h => h7 (by have := h.2.2.2.2; rw [hTs, hkd] at this; exact this))
        dsimp only
        rw [hv]
        exact ⟨rfl, rfl, ⟨rfl, ⟨rfl, rfl⟩, ⟨rfl, rfl⟩, trivial⟩, rfl, trivial⟩
      · have h7 : SubP n E 2 Ts (sortL cmpT (pathsT n E Ts)) := by
          have h7 : (!subB n E 2 Ts (sortL cmpT (pathsT n E Ts))) = false := h7
          exact subB_iff.1 (by simpa using h7)
        have hv := readF_yes (n := n) (E := E) ⟨h1, hdegs, by rw [hTs, hkd]; decide, by rw [hTs]; exact h6, by rw [hTs, hkd]; exact h7⟩
        rw [hTs, hkd] at hv
        dsimp only
        rw [hv]
        exact ⟨rfl, rfl, ⟨rfl, ⟨rfl, rfl⟩, ⟨rfl, rfl⟩, trivial⟩, rfl, trivial⟩
  · have h5 : Ts.length ≠ 2 := by rw [ints_length] at h5; have := beq_eq_false_iff_ne.1 h5; omega
    have hv := readF_no (n := n) (E := E) (fun h => h.2.2.1 (by rw [hTs]; unfold kindT; rw [if_neg h4, if_neg h5]))
    dsimp only
    rw [hv]
    exact ⟨rfl, rfl, ⟨rfl, ⟨rfl, rfl⟩, ⟨rfl, rfl⟩, trivial⟩, rfl, trivial⟩
end Go.Sh

set_option linter.unusedVariables false
set_option linter.unusedSimpArgs false
namespace Go.Sh
open Go.Proofs
/-! ### carcanetlaw09.small -/
end Go.Sh

set_option linter.unusedVariables false
set_option linter.unusedSimpArgs false
namespace Go.Sh
open Go.Proofs
/-! ### carcanetlaw09.shown -/
def E9 : List Ed := [(0, 1), (0, 2), (0, 3), (1, 2), (1, 4), (2, 3), (3, 4)]
def L9 : List (List Int) := [[0, 1], [0, 2], [0, 3], [1, 2], [1, 4, 3], [2, 3]]
theorem right9 : RightP 5 E9 := by unfold RightP E9 okE; decide
instance (E : List Ed) (a b : Int) : Decidable (adjE E a b) := by unfold adjE; exact inferInstance
theorem path9 {p : List Int} (h : (p ≠ [] ∧ (0 ≤ p.headD 0 ∧ p.headD 0 < 5) ∧ p.Nodup) ∧ ∀ i, i < p.length → i + 1 < p.length → adjE E9 (p.getD i 0) (p.getD (i + 1) 0)) : PathP 5 E9 p :=
  ⟨right9, h.1.1, h.1.2.1, h.1.2.2, fun i hi => h.2 i (by omega) hi⟩
theorem sub9 : SubP 5 E9 1 [0, 1, 2, 3] L9 := by
  refine ⟨.inl ⟨rfl, rfl, rfl⟩, fun i p hp => ?_, by unfold ApartP; decide⟩
  have hi : i < 6 := (List.getElem?_eq_some_iff.1 hp).1
  match i, hi, hp with
  | 0, _, hp => cases hp; exact ⟨path9 (by decide), by decide, by decide, by decide⟩
  | 1, _, hp => cases hp; exact ⟨path9 (by decide), by decide, by decide, by decide⟩
  | 2, _, hp => cases hp; exact ⟨path9 (by decide), by decide, by decide, by decide⟩
  | 3, _, hp => cases hp; exact ⟨path9 (by decide), by decide, by decide, by decide⟩
  | 4, _, hp => cases hp; exact ⟨path9 (by decide), by decide, by decide, by decide⟩
  | 5, _, hp => cases hp; exact ⟨path9 (by decide), by decide, by decide, by decide⟩
theorem tops9 : topsK E9 5 = [0, 1, 2, 3] := by decide
theorem paths9 : pathsT 5 E9 [0, 1, 2, 3] = L9 := by decide
theorem sort9 : sortL cmpT L9 = L9 := by
  unfold sortL
  exact List.mergeSort_of_pairwise (by decide)
theorem read_E9 : readF 5 E9 = ((1, [0, 1, 2, 3], L9), true) := by
  have hP : ReadP 5 E9 := by
    refine ⟨right9, fun v hv => ?_, ?_, ?_, ?_⟩
    · have hv : v < 5 := by omega
      have h : ∀ v : Nat, v < 5 → (nearL E9 (v : Int)).length = 0 ∨ (nearL E9 (v : Int)).length = 2 ∨ (nearL E9 (v : Int)).length = 3 := by decide
      exact h v hv
    · show kindT (topsK E9 5) ≠ 0
      rw [tops9]; decide
    · show usedT (pathsT 5 E9 (topsK E9 5)) = _
      rw [tops9, paths9]; decide
    · show SubP 5 E9 (kindT (topsK E9 5)) (topsK E9 5) (sortL cmpT (pathsT 5 E9 (topsK E9 5)))
      rw [tops9, paths9, sort9]; exact sub9
  rw [readF_yes hP]
  show ((kindT (topsK E9 5), topsK E9 5, sortL cmpT (pathsT 5 E9 (topsK E9 5))), true) = _
  rw [tops9, paths9, sort9]; rfl
theorem read_30 : readF 3 [] = ((0, [], []), false) := readF_no fun h => h.2.2.1 (by decide)
theorem mod9 : modF 1 [0, 1, 2, 3] L9 = (1, [[0], [1, 4], [2], [3]]) := by decide
theorem segs9 : insAll (segs L9) = E9 := by decide
theorem sub_no : ¬ SubP 5 E9 0 [] [] := fun h => by rcases h.1 with h | h <;> exact absurd h.1 (by decide)
noncomputable def Shown9C : Con := conP 0 (fun _ : Unit => True) (fun _ => []) (fun _ => .one (.s (.b true)))
theorem Shown9C_at : Shown9C.F [] = some (.one (.s (.b true)), []) := conP_at (a := ()) (fun a b _ _ h => rfl) trivial
theorem few9 : fewL L9 := by unfold fewL; decide
set_option maxHeartbeats 1000000 in
theorem Shown9_ok : SoundC Try.prog T 27 Shown9C := by
  refine sound_con (X := { Γ := [(37, ReadC), (31, ModC), (34, EdgC), (29, SubC)], T := T, nt := 98 }) cr_none hmix hT (sound_cons Read_ok (sound_cons Mod_ok (sound_cons Edg_ok (sound_cons Sub_ok sound_nil)))) Try.func27 (by rfl) (by rfl) (by rfl) (by rfl) 0 ?_
  rintro ⟨⟩ -
  refine ⟨⟨Nat.le_of_ble_eq_true rfl, Nat.le_of_ble_eq_true rfl⟩, ?_⟩
  have h1 := ReadC_at (n := 5) (E := E9) (by decide)
  rw [read_E9] at h1
  refine Call.by _ _ h1 ?_
  have h2 := ModC_at (k := 1) (Ts := [0, 1, 2, 3]) few9
  rw [mod9] at h2
  refine Call.by _ _ h2 ?_
  have h3 := EdgC_at (k := 1) (Ts := [0, 1, 2, 3]) few9
  rw [segs9] at h3
  refine Call.by _ _ h3 ?_
  have h4 := ReadC_at (n := 3) (E := []) (by decide)
  rw [read_30] at h4
  refine Call.by _ _ h4 ?_
  refine Idx.by 3 rfl (by decide) ?_
  refine Look.by [.i .i64 3] rfl ?_
  refine Idx.by 4 rfl (by decide) ?_
  refine Look.by (ints [1, 4, 3]) rfl ?_
  have h5 := SubC_at (n := 5) (E := E9) (k := 1) (Ts := [0, 1, 2, 3]) few9
  rw [subB_iff.2 sub9] at h5
  refine Call.by _ _ h5 ?_
  have h6 := SubC_at (n := 5) (E := E9) (k := 0) (Ts := []) (L := []) (by unfold fewL; decide)
  rw [subB_no sub_no] at h6
  refine Call.by _ _ h6 ?_
  refine Idx.by 1 rfl (by decide) ?_
  refine Look.by (ints [1, 4]) rfl ?_
  exact ⟨rfl, rfl⟩
end Go.Sh

set_option linter.unusedVariables false
set_option linter.unusedSimpArgs false
namespace Go.Sh
open Go.Proofs
/-! ### the edges of what is read are the graph's -/
theorem edN_eq {a b c d : Int} (h : edN (a, b) = edN (c, d)) : (a = c ∧ b = d) ∨ (a = d ∧ b = c) := by
  unfold edN mnI mxI at h
  dsimp only at h
  injection h with h1 h2
  split at h1 <;> split at h1 <;> split at h2 <;> split at h2 <;> omega
theorem mem_segsR {p : List Int} {x : Ed} : x ∈ segsR p ↔ ∃ i, i + 1 < p.length ∧ x = edN (p.getD i 0, p.getD (i + 1) 0) := by
  unfold segsR
  rw [List.mem_map]
  constructor
  · rintro ⟨i, hi, rfl⟩
    rw [List.mem_range] at hi
    exact ⟨i, by omega, rfl⟩
  · rintro ⟨i, hi, rfl⟩
    exact ⟨i, by rw [List.mem_range]; omega, rfl⟩
theorem getD_inj {p : List Int} (hn : p.Nodup) {i j : Nat} (hi : i < p.length) (hj : j < p.length) (h : p.getD i 0 = p.getD j 0) : i = j := by
  rw [getD_at hi, getD_at hj] at h
  exact (List.getElem_inj hn).1 h
theorem segsR_nodup {p : List Int} (hn : p.Nodup) : (segsR p).Nodup := by
  unfold segsR
  rw [List.nodup_iff_pairwise_ne, List.pairwise_map]
  refine List.Pairwise.imp_of_mem ?_ (List.nodup_iff_pairwise_ne.1 List.nodup_range)
  intro i j hi hj hne e
  rw [List.mem_range] at hi hj
  rcases edN_eq e with ⟨h, _⟩ | ⟨h1, h2⟩
  · exact hne (getD_inj hn (by omega) (by omega) h)
  · have := getD_inj hn (by omega) (by omega) h1
    have := getD_inj hn (by omega) (by omega) h2
    omega
theorem seg_two {n : Int} {E : List Ed} {k : Int} {Ts : List Int} {L : List (List Int)} (h : SubP n E k Ts L) {i j : Nat} {p q : List Int} (hp : L[i]? = some p) (hq : L[j]? = some q) (hij : i ≠ j) {x : Ed} (hx : x ∈ segsR p) (hy : x ∈ segsR q) : p.length = 2 := by
  obtain ⟨a, ha, rfl⟩ := mem_segsR.1 hx
  obtain ⟨b, hb, e⟩ := mem_segsR.1 hy
  have hu : p.getD a 0 ∈ q ∧ p.getD (a + 1) 0 ∈ q := by
    rcases edN_eq e with ⟨h1, h2⟩ | ⟨h1, h2⟩
    · rw [h1, h2]; exact ⟨getD_mem (by omega), getD_mem hb⟩
    · rw [h1, h2]; exact ⟨getD_mem hb, getD_mem (by omega)⟩
  refine Decidable.byContradiction fun hne => ?_
  have hno : ∀ v, v ∈ innerL p → v ∈ q → False := fun v hv hvq => by
    have hvp : v ∈ p := by obtain ⟨z, hz, rfl⟩ := mem_inner.1 hv; exact List.getElem_mem _
    have := cnt_at hp hq hij hvp hvq
    have := h.2.2 p (List.mem_of_getElem? hp) v hv
    omega
  cases a with
  | zero =>
    refine hno _ (mem_inner.2 ⟨0, by omega, ?_⟩) hu.2
    rw [getD_at (by omega)]
  | succ a =>
    refine hno _ (mem_inner.2 ⟨a, by omega, ?_⟩) hu.1
    rw [getD_at (by omega)]
theorem prs_inj : ∀ i, i < 6 → ∀ j, j < 6 → (((prsT 1).getD i (0, 0)).1 = ((prsT 1).getD j (0, 0)).1 ∧ ((prsT 1).getD i (0, 0)).2 = ((prsT 1).getD j (0, 0)).2 → i = j) ∧ ¬ (((prsT 1).getD i (0, 0)).1 = ((prsT 1).getD j (0, 0)).2 ∧ ((prsT 1).getD i (0, 0)).2 = ((prsT 1).getD j (0, 0)).1) := by decide
theorem prs_lt : ∀ i, i < 6 → (0 ≤ ((prsT 1).getD i (0, 0)).1 ∧ ((prsT 1).getD i (0, 0)).1 < 4) ∧ 0 ≤ ((prsT 1).getD i (0, 0)).2 ∧ ((prsT 1).getD i (0, 0)).2 < 4 := by decide
theorem segs_apart {n : Int} {E : List Ed} {k : Int} {Ts : List Int} {L : List (List Int)} (h : SubP n E k Ts L) {i j : Nat} {p q : List Int} (hp : L[i]? = some p) (hq : L[j]? = some q) (hij : i ≠ j) {x : Ed} (hx : x ∈ segsR p) (hy : x ∈ segsR q) : False := by
  have hp2 := seg_two h hp hq hij hx hy
  have hq2 := seg_two h hq hp (Ne.symm hij) hy hx
  obtain ⟨P1, hd1, ls1, z1⟩ := h.2.1 i p hp
  obtain ⟨P2, hd2, ls2, z2⟩ := h.2.1 j q hq
  have hnd := sub_tops h
  rcases h.1 with ⟨rfl, hT, hL⟩ | ⟨rfl, hT, hL⟩
  · have hi : i < 6 := by rw [← hL]; exact (List.getElem?_eq_some_iff.1 hp).1
    have hj : j < 6 := by rw [← hL]; exact (List.getElem?_eq_some_iff.1 hq).1
    obtain ⟨a, ha, rfl⟩ := mem_segsR.1 hx
    obtain ⟨b, hb, e⟩ := mem_segsR.1 hy
    obtain rfl : a = 0 := by omega
    obtain rfl : b = 0 := by omega
    rw [headD_at (by omega)] at hd1 hd2
    rw [lastD_at, hp2] at ls1
    rw [lastD_at, hq2] at ls2
    have hd1' := hd1; have ls1' := ls1
    rw [hd1, ls1, hd2, ls2] at e
    have l1 := prs_lt i hi
    have l2 := prs_lt j hj
    obtain ⟨q1, q2⟩ := prs_inj i hi j hj
    rcases edN_eq e with ⟨e1, e2⟩ | ⟨e1, e2⟩
    · have := getD_inj hnd (by omega) (by omega) e1
      have := getD_inj hnd (by omega) (by omega) e2
      exact hij (q1 ⟨by omega, by omega⟩)
    · have := getD_inj hnd (by omega) (by omega) e1
      have := getD_inj hnd (by omega) (by omega) e2
      exact q2 ⟨by omega, by omega⟩
  · omega
theorem segs_nodup {n : Int} {E : List Ed} {k : Int} {Ts : List Int} {L : List (List Int)} (h : SubP n E k Ts L) : (segs L).Nodup := by
  unfold segs
  rw [List.nodup_iff_pairwise_ne, List.pairwise_flatMap]
  refine ⟨fun p hp => ?_, ?_⟩
  · obtain ⟨i, hi, rfl⟩ := List.mem_iff_getElem.1 hp
    exact List.nodup_iff_pairwise_ne.1 (segsR_nodup (h.2.1 i _ (List.getElem?_eq_getElem hi)).1.2.2.2.1)
  · rw [List.pairwise_iff_getElem]
    intro i j hi hj hij x hx y hy e
    subst e
    exact segs_apart h (List.getElem?_eq_getElem hi) (List.getElem?_eq_getElem hj) (by omega) hx hy
theorem adj_edN {n : Int} {E : List Ed} (hR : RightP n E) {a b : Int} (h : adjE E a b) : edN (a, b) ∈ E := by
  have hok : ∀ p ∈ E, p.1 < p.2 := fun p hp => (hR.2.2.2.1 p hp).2.1
  unfold edN mnI mxI
  dsimp only
  rcases h with h | h
  · have := hok _ h
    dsimp only at this
    rw [if_neg (by omega), if_pos (by omega)]
    exact h
  · have := hok _ h
    dsimp only at this
    rw [if_pos (by omega), if_neg (by omega)]
    exact h
theorem segs_sub {n : Int} {E : List Ed} {k : Int} {Ts : List Int} {L : List (List Int)} (h : SubP n E k Ts L) : ∀ x ∈ segs L, x ∈ E := fun x hx => by
  obtain ⟨p, hp, hxp⟩ := List.mem_flatMap.1 hx
  obtain ⟨i, hi, rfl⟩ := List.mem_iff_getElem.1 hp
  obtain ⟨hP, _⟩ := h.2.1 i _ (List.getElem?_eq_getElem hi)
  obtain ⟨a, ha, rfl⟩ := mem_segsR.1 hxp
  exact adj_edN hP.1 (hP.2.2.2.2 a ha)
theorem nodup_same {α : Type} [DecidableEq α] {l m : List α} (hl : l.Nodup) (hm : m.Nodup) (hs : ∀ x ∈ l, x ∈ m) (he : l.length = m.length) : ∀ x ∈ m, x ∈ l := fun x hx => by
  refine Decidable.byContradiction fun hno => ?_
  have h1 : (x :: l).Nodup := List.nodup_cons.2 ⟨hno, hl⟩
  have := nodup_lenG h1 (m := m) (fun y hy => by rcases List.mem_cons.1 hy with rfl | hy; exact hx; exact hs y hy)
  simp at this
  omega
theorem segs_len (L : List (List Int)) : (segs L).length = usedT L := by
  unfold segs usedT
  rw [List.length_flatMap]
  congr 1
  exact List.map_congr_left fun p _ => segsR_length p
theorem used_perm {L M : List (List Int)} (h : L.Perm M) : usedT L = usedT M := by
  unfold usedT
  induction h with
  | nil => rfl
  | cons x _ ih => simp only [List.map_cons, List.sum_cons, ih]
  | swap x y l => simp only [List.map_cons, List.sum_cons]; omega
  | trans _ _ h1 h2 => exact h1.trans h2
theorem ltE_nodup {E : List Ed} (h : E.Pairwise ltE) : E.Nodup := List.nodup_iff_pairwise_ne.2 (h.imp fun h => ltE_ne h)
theorem read_edges {n : Int} {E : List Ed} (h : ReadP n E) : insAll (segs (sortL cmpT (pathsT n E (topsK E n.toNat)))) = E := by
  obtain ⟨hR, _, _, hu, hs⟩ := h
  have hlen : (segs (sortL cmpT (pathsT n E (topsK E n.toNat)))).length = E.length := by rw [segs_len, used_perm (sortL_perm _ _), hu]
  have hE := ltE_nodup hR.2.2.2.2
  have hsub := segs_sub hs
  refine (insAll_of hR.2.2.2.2 fun x => ⟨fun hx => ?_, fun hx => hsub x hx⟩).symm
  exact nodup_same (segs_nodup hs) hE hsub hlen x hx
end Go.Sh

set_option linter.unusedVariables false
set_option linter.unusedSimpArgs false
namespace Go.Sh
open Go.Proofs
/-! ### carcanetlaw09.TopoBack -/
noncomputable def TBackF := conF (fun _ : Int × List Ed => True) (fun a => [grV a.1 a.2]) (fun _ => .one (.s (.b true)))
theorem TBack_ok : SoundP Try.prog 9 TBackF := by
  refine con_pure (X := { Γ := [(27, Shown9C), (15, OfC), (37, ReadC), (29, SubC), (34, EdgC), (33, SameEC)], T := T, nt := 66 }) cr_none hmix hT (sound_cons Shown9_ok (sound_cons Of_ok (sound_cons Read_ok (sound_cons Sub_ok (sound_cons Edg_ok (sound_cons SameE_ok sound_nil)))))) Try.func9 (by rfl) (by rfl) (by rfl) 2 ?_
  rintro ⟨n, E⟩ -
  dsimp only
  refine ⟨⟨Nat.le_of_ble_eq_true rfl, Nat.le_of_ble_eq_true rfl⟩, ?_⟩
  refine Call.by _ _ Shown9C_at ?_
  refine Call.by _ _ (OfC_at n E (most := 30) (by omega)) ?_
  have hR := any_right (n := n) (l := E) (most := 30) (by omega) (by omega)
  obtain ⟨m, hm⟩ : ∃ m, anyN n 30 = m := ⟨_, rfl⟩
  obtain ⟨F, hF⟩ : ∃ F, anyE n E 30 = F := ⟨_, rfl⟩
  rw [hm, hF] at hR ⊢
  have hFl := hR.2.2.1
  have hm1 := hR.2.1
  have hr := ReadC_at (n := m) (E := F) (by omega)
  by_cases hP : ReadP m F
  · have hv := readF_yes hP
    have hed := read_edges hP
    have hsub := hP.2.2.2.2
    have hts := topsK_sorted F m.toNat
    have htd : ∀ t ∈ topsK F m.toNat, (nearL F t).length = 3 := fun t ht => (mem_topsK.1 ht).2.2
    obtain ⟨Ts, hTs⟩ : ∃ Ts, topsK F m.toNat = Ts := ⟨_, rfl⟩
    rw [hTs] at hv hed hsub hts htd
    have hpl := pathsT_len (n := m) htd
    obtain ⟨kd, hkd⟩ : ∃ kd, kindT Ts = kd := ⟨_, rfl⟩
    have hTl : Ts.length ≤ 4 := by rcases hsub.1 with h | h <;> omega
    have hfw : fewL (sortL cmpT (pathsT m F Ts)) := ⟨by rw [(sortL_perm _ _).length_eq]; omega, fun r hr => by have := pathsT_row hR htd ((sortL_perm _ _).mem_iff.1 hr); omega⟩
    obtain ⟨L, hL⟩ : ∃ L, sortL cmpT (pathsT m F Ts) = L := ⟨_, rfl⟩
    rw [hkd, hL] at hv hsub
    rw [hL] at hed hfw
    rw [hv] at hr
    refine Call.by _ _ hr ?_
    refine LoopP.intro (α := Nat) (fun i => 1 ≤ i) (fun i => Ts.length + 1 - i) (fun i => [(3, .s (.b true)), (4, .ptr 0 0), (5, .ptr 2 0), (7, .s (.i .i64 i))])
      (fun i => [(0, some (.blk [.s (.i .i64 m), .sl 1 none none])), (1, some (.flat true 2 (edges F))), (2, some (.blk [.s (.i .i64 kd), .sl 3 none none, .sl 4 none none])), (3, some (.flat true 1 (ints Ts))), (4, some (.nest true 1 (rowsI L) [] []))]) 5 1 (by omega) (by refine Weak.by [(0, some _), (1, some _), (2, some _), (3, some _), (4, some _)] (by ((repeat' first | exact rfl | exact trivial | refine And.intro ?_ ?_) <;> (repeat' first | exact rfl | exact trivial | refine And.intro ?_ ?_))) (by ((repeat' first | exact rfl | exact trivial | refine And.intro ?_ ?_) <;> (repeat' first | exact rfl | exact trivial | refine And.intro ?_ ?_))) (by rfl)) ?_
    rintro i hi
    refine Pick.by (fun hc => ?_) (fun hc => ?_)
    · have hlt : i < Ts.length := by have := of_decide_eq_true hc; rw [ints_length] at this; omega
      have hg := ints_get (List.getElem?_eq_getElem hlt)
      have hgp := ints_get (List.getElem?_eq_getElem (show i - 1 < Ts.length by omega))
      refine Idx.by i rfl (by rw [ints_length]; exact hlt) ?_
      refine Look.by _ hg ?_
      refine Pick.T (inI64_of (by omega) (by omega)) ?_
      refine Idx.by (i - 1) (by omega) (by rw [ints_length]; omega) ?_
      refine Look.by _ hgp ?_
      refine Seg.by (by kernel_rfl) ?_
      have hup := List.pairwise_iff_getElem.1 hts (i - 1) i (by omega) hlt (by omega)
      refine Pick.F (decide_eq_false (by omega)) ?_
      refine Pick.T (inI64_of (by omega) (by omega)) ?_
      refine Next.by (i + 1) (by omega) (by omega) (by refine Weak.by [(0, some _), (1, some _), (2, some _), (3, some _), (4, some _)] (by ((repeat' first | exact rfl | exact trivial | refine And.intro ?_ ?_) <;> (repeat' first | exact rfl | exact trivial | refine And.intro ?_ ?_))) (by ((repeat' first | exact rfl | exact trivial | refine And.intro ?_ ?_) <;> (repeat' first | exact rfl | exact trivial | refine And.intro ?_ ?_))) (by rfl))
    · have hS := SubC_at (n := m) (E := F) (k := kd) (Ts := Ts) hfw
      rw [subB_iff.2 hsub] at hS
      refine Call.by _ _ hS ?_
      have hE := EdgC_at (k := kd) (Ts := Ts) hfw
      rw [hed] at hE
      refine Call.by _ _ hE ?_
      refine Call.by _ _ (SameEC_at (l := F) (m := F) (by omega)) ?_
      refine Seg.by (by kernel_rfl) ?_
      refine ⟨rfl, ?_⟩
      show Sc.b (decide (F = F)) = Sc.b true
      rw [decide_eq_true rfl]
  · rw [readF_no hP] at hr
    refine Call.by _ _ hr ?_
    refine Pick.T (inI64_of (by decide) (by decide)) ?_
    exact ⟨rfl, rfl⟩
end Go.Sh

set_option linter.unusedVariables false
set_option linter.unusedSimpArgs false
namespace Go.Sh
open Go.Proofs
/-! ### carcanetlaw08.MinorMoves -/
def i64 (x : Int) : Prop := -9223372036854775808 ≤ x ∧ x ≤ 9223372036854775807
def clI (x : Int) : Int := mnI x 4611686018427387904
def clP (j : Nat) (row : List Int) : List Int := (row.take j).map clI ++ row.drop j
theorem clP_all (row : List Int) (j : Nat) (h : row.length ≤ j) : clP j row = row.map clI := by
  unfold clP
  rw [List.take_of_length_le h, List.drop_eq_nil_of_le h, List.append_nil]
theorem clP_zero (row : List Int) : clP 0 row = row := by simp [clP]
def ClI (S : List (List Int)) (i j : Nat) (R : List (List Int)) : Prop := R.length = S.length ∧ ∀ r row, S[r]? = some row → R[r]? = some (if r < i then row.map clI else if r = i then clP j row else row)
theorem ClI.at {S R : List (List Int)} {i j : Nat} (h : ClI S i j R) {row : List Int} (hi : S[i]? = some row) : R[i]? = some (clP j row) := by
  have := h.2 i row hi
  rwa [if_neg (by omega), if_pos rfl] at this
theorem ClI.step {S R : List (List Int)} {i j : Nat} (h : ClI S i j R) {row : List Int} (hi : S[i]? = some row) : ClI S i (j + 1) (R.set i (clP (j + 1) row)) := by
  refine ⟨by rw [List.length_set]; exact h.1, fun r w hr => ?_⟩
  rw [List.getElem?_set]
  by_cases e : i = r
  · subst e
    rw [hi] at hr
    injection hr with hr
    subst hr
    rw [if_pos rfl, if_pos (by rw [h.1]; exact (List.getElem?_eq_some_iff.1 hi).1), if_neg (by omega), if_pos rfl]
  · rw [if_neg e, h.2 r w hr, if_neg (show ¬ r = i by omega), if_neg (show ¬ r = i by omega)]
theorem ClI.next {S R : List (List Int)} {i j : Nat} (h : ClI S i j R) {row : List Int} (hi : S[i]? = some row) (hj : row.length ≤ j) : ClI S (i + 1) 0 R := by
  refine ⟨h.1, fun r w hr => ?_⟩
  rw [h.2 r w hr]
  by_cases e : r < i
  · rw [if_pos e, if_pos (by omega)]
  · by_cases e2 : r = i
    · subst e2
      rw [hi] at hr
      injection hr with hr
      subst hr
      rw [if_neg e, if_pos rfl, if_pos (by omega), clP_all _ _ hj]
    · rw [if_neg e, if_neg e2, if_neg (by omega)]
      split
      · rw [clP_zero]
      · rfl
theorem ClI.done {S R : List (List Int)} {i : Nat} (h : ClI S i 0 R) (hi : S.length ≤ i) : R = S.map fun l => l.map clI := by
  apply List.ext_getElem?
  intro r
  by_cases hr : r < S.length
  · rw [h.2 r _ (List.getElem?_eq_getElem hr), if_pos (by omega)]
    simp [hr]
  · rw [List.getElem?_eq_none (by rw [h.1]; omega), List.getElem?_eq_none (by simp; omega)]
theorem ClI.zero (S : List (List Int)) : ClI S 0 0 S := ⟨rfl, fun r row h => by
  rw [if_neg (by omega), clP_zero]
  split <;> exact h⟩
end Go.Sh

set_option linter.unusedVariables false
set_option linter.unusedSimpArgs false
namespace Go.Sh
open Go.Proofs
/-! ### what is handed in, as data -/
theorem VTy.struct {T : Tab} {t : Nat} {ti : TI} {fs : List (Nat × Nat)} {v : V} (ht : lk T t = some ti) (hk : ti.kind = .struct fs) (h : VTy T t v) : ∃ cs, v = .agg cs ∧ All2 (fun (f : Nat × Nat) c => CTy T f.2 c) fs cs := by
  unfold VTy at h
  rw [ht] at h
  simp only at h
  rw [hk] at h
  exact h
theorem VTy.cell {T : Tab} {t : Nat} {ti : TI} {v : V} (ht : lk T t = some ti) (hk : ∀ fs, ti.kind ≠ .struct fs ∧ ∀ n e, ti.kind ≠ .array n e) (h : VTy T t v) : ∃ c, v = .one c ∧ CTy T t c := by
  unfold VTy at h
  rw [ht] at h
  simp only at h
  cases hq : ti.kind with
  | struct fs => exact absurd hq (hk fs).1
  | array n e => exact absurd hq ((hk []).2 n e)
  | _ => rw [hq] at h; exact h
theorem VTy.array {T : Tab} {t : Nat} {ti : TI} {n e : Nat} {v : V} (ht : lk T t = some ti) (hk : ti.kind = .array n e) (h : VTy T t v) : ∃ cs, v = .agg cs ∧ cs.length = n ∧ ∀ c ∈ cs, CTy T e c := by
  unfold VTy at h
  rw [ht] at h
  simp only at h
  rw [hk] at h
  exact h
theorem ScTy.int {T : Tab} {t : Nat} {ti : TI} {k : IntKind} {x : Sc} (ht : lk T t = some ti) (hk : ti.kind = .int k) (h : ScTy T t x) : ∃ n, x = .i k n ∧ (Lit.int k n).wf = true := by
  unfold ScTy at h
  rw [ht] at h
  simp only at h
  rw [hk] at h
  cases x with
  | i k' n => obtain ⟨rfl, h⟩ := h; exact ⟨n, rfl, h⟩
  | b _ => exact h.elim
theorem CTy.sc {T : Tab} {t : Nat} {c : C} (hs : sliceE T t = none) (h : CTy T t c) : ∃ x, c = .s x ∧ ScTy T t x := by
  unfold CTy at h
  rw [hs] at h
  exact h
theorem CTy.flat {T : Tab} {t e : Nat} {c : C} (hs : sliceE T t = some e) (hs2 : sliceE T e = none) (h : CTy T t c) : ∃ rows, c = .flat false (sizeT T e) rows ∧ FlatTy T e rows := by
  unfold CTy at h
  rw [hs] at h
  simp only at h
  rw [hs2] at h
  exact h
theorem CTy.nest {T : Tab} {t e e2 : Nat} {c : C} (hs : sliceE T t = some e) (hs2 : sliceE T e = some e2) (h : CTy T t c) : ∃ rows, c = .nest false (sizeT T e2) rows ∧ rows.length ≤ maxLen ∧ ∀ fl ∈ rows, FlatTy T e2 fl := by
  unfold CTy at h
  rw [hs] at h
  simp only at h
  rw [hs2] at h
  exact h
theorem i64_wf {n : Int} (h : (Lit.int .i64 n).wf = true) : i64 n := by
  simp [Lit.wf, IntKind.min, IntKind.max, IntKind.signed, IntKind.bits] at h
  exact h
theorem list_ex {α β : Type} {P : α → β → Prop} : ∀ {l : List α}, (∀ x ∈ l, ∃ y, P x y) → ∃ m : List β, All2 P l m := by
  intro l
  induction l with
  | nil => intro _; exact ⟨[], All2.nil⟩
  | cons x l ih =>
    intro h
    obtain ⟨y, hy⟩ := h x (by simp)
    obtain ⟨m, hm⟩ := ih fun x hx => h x (by simp [hx])
    exact ⟨y :: m, All2.cons' hy hm⟩
theorem All2.map_eq {α β : Type} {f : β → α} {l : List α} {m : List β} (h : All2 (fun x y => x = f y) l m) : l = m.map f := by
  apply List.ext_getElem?
  intro i
  rw [List.getElem?_map]
  by_cases hi : i < l.length
  · have him : i < m.length := by rw [← h.1]; exact hi
    rw [List.getElem?_eq_getElem hi, List.getElem?_eq_getElem him, Option.map_some, h.2 i _ _ (List.getElem?_eq_getElem hi) (List.getElem?_eq_getElem him)]
  · rw [List.getElem?_eq_none (by omega), List.getElem?_eq_none (by rw [← h.1]; omega)]; rfl
theorem All2.mem {α β : Type} {R : α → β → Prop} {l : List α} {m : List β} (h : All2 R l m) {y : β} (hy : y ∈ m) : ∃ x ∈ l, R x y := by
  obtain ⟨i, hi⟩ := List.mem_iff_getElem?.1 hy
  have hl := (List.getElem?_eq_some_iff.1 hi).1
  rw [← h.1] at hl
  exact ⟨_, List.getElem_mem hl, h.2 i _ y (List.getElem?_eq_getElem hl) hi⟩
/-! #### at this program's types -/
theorem row_int {row : Row} (h : RowTy T 3 row) : ∃ n, row = [.i .i64 n] ∧ i64 n := by
  obtain ⟨x, rfl, hx⟩ := h
  obtain ⟨n, rfl, hw⟩ := ScTy.int (t := 3) rfl rfl hx
  exact ⟨n, rfl, i64_wf hw⟩
theorem ints_of {fl : Flat} (h : FlatTy T 3 fl) : ∃ l : List Int, fl = ints l ∧ l.length ≤ maxLen ∧ ∀ x ∈ l, i64 x := by
  obtain ⟨m, hm⟩ := list_ex (P := fun row n => row = [Sc.i .i64 n] ∧ i64 n) fun row hr => row_int (h.2 row hr)
  refine ⟨m, All2.map_eq (f := fun n => [Sc.i .i64 n]) (hm.imp fun _ _ _ k => k.1), by rw [← hm.1]; exact h.1, fun x hx => ?_⟩
  obtain ⟨_, _, k⟩ := hm.mem hx
  exact k.2
theorem All2.two {α β : Type} {R : α → β → Prop} {a b : α} {m : List β} (h : All2 R [a, b] m) : ∃ x y, m = [x, y] ∧ R a x ∧ R b y := by
  obtain ⟨h1, h2⟩ := h
  match m, h1, h2 with
  | [x, y], _, h2 => exact ⟨x, y, rfl, h2 0 a x rfl rfl, h2 1 b y rfl rfl⟩
theorem All2.one {α β : Type} {R : α → β → Prop} {a : α} {m : List β} (h : All2 R [a] m) : ∃ x, m = [x] ∧ R a x := by
  obtain ⟨h1, h2⟩ := h
  match m, h1, h2 with
  | [x], _, h2 => exact ⟨x, rfl, h2 0 a x rfl rfl⟩
theorem row_edge {row : Row} (h : RowTy T 77 row) : ∃ p : Ed, row = [.i .i64 p.1, .i .i64 p.2] ∧ i64 p.1 ∧ i64 p.2 := by
  obtain ⟨_, h⟩ := h
  obtain ⟨x, y, rfl, hx, hy⟩ := All2.two h
  obtain ⟨n, rfl, hn⟩ := ScTy.int (t := 3) rfl rfl hx
  obtain ⟨m, rfl, hm⟩ := ScTy.int (t := 3) rfl rfl hy
  exact ⟨(n, m), rfl, i64_wf hn, i64_wf hm⟩
theorem edges_of {fl : Flat} (h : FlatTy T 77 fl) : ∃ E : List Ed, fl = edges E ∧ E.length ≤ maxLen ∧ ∀ p ∈ E, i64 p.1 ∧ i64 p.2 := by
  obtain ⟨m, hm⟩ := list_ex (P := fun row (p : Ed) => row = [Sc.i .i64 p.1, Sc.i .i64 p.2] ∧ i64 p.1 ∧ i64 p.2) fun row hr => row_edge (h.2 row hr)
  refine ⟨m, All2.map_eq (f := fun p : Ed => [Sc.i .i64 p.1, Sc.i .i64 p.2]) (hm.imp fun _ _ _ k => k.1), by rw [← hm.1]; exact h.1, fun x hx => ?_⟩
  obtain ⟨_, _, k⟩ := hm.mem hx
  exact k.2
theorem net_of {v : V} (h : VTy T 24 v) : ∃ n E, v = grV n E ∧ i64 n ∧ ∀ p ∈ E, i64 p.1 ∧ i64 p.2 := by
  obtain ⟨cs, rfl, hcs⟩ := VTy.struct (t := 24) rfl rfl h
  obtain ⟨x, y, rfl, hx, hy⟩ := All2.two hcs
  obtain ⟨z, rfl, hz⟩ := CTy.sc (t := 3) rfl hx
  obtain ⟨n, rfl, hw⟩ := ScTy.int (t := 3) rfl rfl hz
  obtain ⟨rows, rfl, hr⟩ := CTy.flat (t := 22) (e := 77) rfl rfl hy
  obtain ⟨E, rfl, _, hE⟩ := edges_of hr
  exact ⟨n, E, rfl, i64_wf hw, hE⟩
end Go.Sh

set_option linter.unusedVariables false
namespace Go.Sh
open Go.Proofs
theorem own : ownKnob Try.prog.godebug = none := by kernel_rfl
theorem laidOut : laidOutB Try.prog = true := by kernel_rfl
set_option maxRecDepth 100000 in
/-- A law whose function answers true, whatever comes. -/
theorem law_row {s : ChangeSpec} {f : FuncId} {fn : Func} {conds : List PathCond} {apart fresh handsOn : Bool} {ts : List TypeId} {F : List V → Option (V × List V)} (hf : Try.prog.funcs[f]? = some fn) (hin : Try.prog.inits.idxOf? f = none) (hv : s.vars = [])
    (hts : fn.params.toList = ts) (ha : ts.all (argB T) = true) (hr : ts.all (fun t => Try.prog.readableRec t && Nat.blt t Try.prog.types.size) = true) (hres : fn.resultTypes = #[4])
    (hsp : ∀ (H : Type) (ds : List (DataW H)), ds.length = ts.length → (s.fn H ds).results = [.lit (.bool true)] ∧ (s.fn H ds).args = ds ∧ (s.fn H ds).vars = [])
    (hS : SoundP Try.prog f F) (hF : LawV T ts F) (os : Os) (started : os.Started) (H : Type) (enc : TypeId × Value → H) (a : Assume)
    (hw : ∃ (w : World) (tape : Tape) (i : Input), w.os = os ∧ (w.forCall tape i).Shaped Try.checked.prog ∧ i.vars = [] ∧ Input.okWide Try.checked.prog (w.forCall tape i) .any w.heap.size f i ∧
      s.pre6 enc Try.checked.prog fn conds apart (w.forCall tape i).memory i.args ∧ a.holds Try.checked.prog (lone (Frame.enter Try.checked.prog f i.args .normal) [] (w.forCall tape i))) :
    ReturnsInHanded a Try.checked os f .any (s.pre6 enc Try.checked.prog fn conds apart) (s.post enc Try.checked.prog fn apart fresh handsOn false) := by
  refine returnsInHanded_of_change (C := Try.checked) own started hin hf hw ?_
  intro W base args ds gs before hval hW _ _
  refine law_contract (P := Try.prog) (conds := conds) hT laidOut hv hts ha (fun t ht => ?_) hres Try.underlying4 (hsp H) hS hF hval hW
  have := List.all_eq_true.1 hr t ht
  simp only [Bool.and_eq_true] at this
  exact ⟨this.1, Nat.le_of_ble_eq_true this.2⟩
end Go.Sh

set_option linter.unusedVariables false
namespace Go.Sh
open Go.Proofs
/-! ### more of what is handed in, as data: subdivisions -/
end Go.Sh
