/- What the functions answer that the statement reaches. No condition. -/
import Derived.Test.YtcihmgopaadpfaaFn2
import Derived.Test.YtcihmgopaadpfaaRows
set_option linter.unusedVariables false
set_option linter.unusedSimpArgs false
namespace Go.Sh
/-! ### a run's bags are bags -/
theorem countP_uniq {p : Nat → Bool} {n j : Nat} (hj : j < n) (hp : p j = true) (h : ∀ i, i < n → p i = true → i = j) : (List.range n).countP p = 1 := by
  rw [List.countP_eq_length_filter]
  have : (List.range n).filter p = [j] := by
    have hs : ((List.range n).filter p).Pairwise (· < ·) := (List.pairwise_lt_range).sublist List.filter_sublist
    have hm : ∀ i, i ∈ (List.range n).filter p ↔ i = j := fun i => by
      rw [List.mem_filter, List.mem_range]
      exact ⟨fun ⟨a, b⟩ => h i a b, fun e => by subst e; exact ⟨hj, hp⟩⟩
    cases hl : (List.range n).filter p with
    | nil => have := (hm j).2 rfl; rw [hl] at this; simp at this
    | cons a r =>
      rw [hl] at hs hm
      have ha := (hm a).1 (by simp)
      cases r with
      | nil => rw [ha]
      | cons b r =>
        have hb := (hm b).1 (by simp)
        have := (List.pairwise_cons.1 hs).1 b (by simp)
        omega
  rw [this]; rfl
theorem mem_bagOf {s : Stp} (h0 : 0 ≤ s.1) {x : Int} : x ∈ bagOf s ↔ x = s.1 ∨ (0 ≤ x ∧ by2 s x) := by
  unfold bagOf
  rw [mem_rise]
  simp only [List.mem_cons, List.not_mem_nil, or_false]
  unfold by2
  constructor
  · rintro ⟨h | h | h, h1⟩
    · exact .inl h
    · exact .inr ⟨h1, .inl h.symm⟩
    · exact .inr ⟨h1, .inr h.symm⟩
  · rintro (h | ⟨h1, h | h⟩)
    · exact ⟨.inl h, by omega⟩
    · exact ⟨.inr (.inl h.symm), h1⟩
    · exact ⟨.inr (.inr h.symm), h1⟩
theorem RunL.not_self {n : Int} {L : List Stp} (h : RunL n L) {i : Nat} (hi : i < L.length) : ¬ by2 (stepAt L i) (stepAt L i).1 := fun hb => by
  have h0 := (h.rng _ (List.mem_of_getElem? (stepAt_get hi))).1
  have := pos_later h hi h0 hb
  rw [posV_at h hi] at this
  omega
theorem RunL.not_later {n : Int} {L : List Stp} (h : RunL n L) {i j : Nat} (hij : i < j) (hj : j < L.length) : ¬ by2 (stepAt L j) (stepAt L i).1 := fun hb => by
  have hi : i < L.length := by omega
  have h0 := (h.rng _ (List.mem_of_getElem? (stepAt_get hi))).1
  have := pos_later h hj h0 hb
  rw [posV_at h hi] at this
  omega
theorem RunL.pos {n : Int} {L : List Stp} (h : RunL n L) {v : Int} (h0 : 0 ≤ v) (h1 : v < n) : posV L v < L.length ∧ (stepAt L (posV L v)).1 = v := by
  obtain ⟨s, hs, e⟩ := h.all v h0 h1
  obtain ⟨k, hk⟩ := List.getElem?_of_mem hs
  have hkl := (List.getElem?_eq_some_iff.1 hk).1
  have ht : stepAt L k = s := by have := stepAt_get hkl; rw [hk] at this; injection this with this; exact this.symm
  have := posV_at h hkl
  rw [ht, e] at this
  rw [this, ht]
  exact ⟨hkl, e⟩
/-- what 'up' tells -/
theorem up_cases {n : Int} {L : List Stp} (h : RunL n L) {i : Nat} (hi : i < L.length) : (upOf L i = -1 ∧ ∀ x, 0 ≤ x → ¬ by2 (stepAt L i) x) ∨ ∃ k : Nat, upOf L i = k ∧ i < k ∧ k < L.length ∧ by2 (stepAt L i) (stepAt L k).1 ∧ ∀ x, 0 ≤ x → by2 (stepAt L i) x → x = (stepAt L k).1 ∨ by2 (stepAt L k) x := by
  have hs := mpos_spec L (riseL 0 [(stepAt L i).2.1, (stepAt L i).2.2.1])
  rw [up_mpos h hi] at hs
  by_cases he : riseL 0 [(stepAt L i).2.1, (stepAt L i).2.2.1] = []
  · refine .inl ⟨hs.1 he, fun x h0 hb => ?_⟩
    have := mem_two.2 ⟨h0, hb⟩
    rw [he] at this; simp at this
  · obtain ⟨x, hx, e, hm⟩ := hs.2 he
    obtain ⟨h0, hb⟩ := mem_two.1 hx
    obtain ⟨p1, p2, p3⟩ := pos_later h hi h0 hb
    refine .inr ⟨posV L x, e, p1, p2, by rw [p3]; exact hb, fun y hy0 hyb => ?_⟩
    rw [p3]
    by_cases hxy : y = x
    · exact .inl hxy
    · right
      obtain ⟨k, t, hk, hkt, hor⟩ := h.pair i _ x y (stepAt_get hi) h0 hy0 hb hyb (fun e => hxy e.symm)
      have hkl := (List.getElem?_eq_some_iff.1 hkt).1
      have ht : stepAt L k = t := by have := stepAt_get hkl; rw [hkt] at this; injection this with this; exact this.symm
      rcases hor with ⟨e1, e2⟩ | ⟨e1, e2⟩
      · have := posV_at h hkl
        rw [ht, e1] at this
        rw [this, ht]; exact e2
      · exfalso
        have h3 := posV_at h hkl
        rw [ht, e1] at h3
        have h4 := hm y (mem_two.2 ⟨hy0, hyb⟩)
        rw [h3] at h4
        have h5 := pos_later h hkl h0 (by rw [ht]; exact e2)
        omega
theorem bags_hold {n : Int} {E : List Ed} (hR : RightP n E) (h : (runO n E).2.1 = []) : BagP n E (setsL (runO n E).1) (upsK (runO n E).1 (runO n E).1.length) := by
  have hrl := run_L hR h
  have hadj := fun p hp => run_adj hR h (p := p) hp
  obtain ⟨L, hL⟩ : ∃ x, (runO n E).1 = x := ⟨_, rfl⟩
  rw [hL] at hrl hadj ⊢
  have hsl : (setsL L).length = L.length := by simp [setsL]
  have hul : (upsK L L.length).length = L.length := by simp [upsK]
  have hba : ∀ i, i < L.length → bagAt (setsL L) i = bagOf (stepAt L i) := fun i hi => by
    have h1 := stepAt_get hi
    unfold bagAt setsL
    rw [List.getD_eq_getElem?_getD, List.getElem?_map, h1]; rfl
  have hua : ∀ i, i < L.length → upAt (upsK L L.length) i = upOf L i := fun i hi => by
    unfold upAt upsK
    rw [List.getD_eq_getElem?_getD, List.getElem?_map, List.getElem?_range hi]; rfl
  have hrn : ∀ k, k < L.length → 0 ≤ (stepAt L k).1 ∧ (stepAt L k).1 < n := fun k hk => hrl.rng _ (List.mem_of_getElem? (stepAt_get hk))
  have hmb : ∀ i x, i < L.length → (x ∈ bagOf (stepAt L i) ↔ x = (stepAt L i).1 ∨ (0 ≤ x ∧ by2 (stepAt L i) x)) := fun i x hi => mem_bagOf (hrn i hi).1
  refine ⟨hR, ⟨by rw [hsl, hul], fun i hi => ?_⟩, fun v hv => ?_, fun p hp => ?_⟩
  · rw [hsl] at hi ⊢
    rw [hba i hi, hua i hi]
    refine ⟨⟨?_, ?_, fun x hx => ?_⟩, ?_⟩
    · unfold bagOf riseL
      rw [sortI_length]
      exact Nat.le_trans (List.length_filter_le _ _) (by simp)
    · unfold bagOf riseL sortI
      rw [(List.mergeSort_perm _ _).nodup_iff]
      have hg := hrl.ge _ (List.mem_of_getElem? (stepAt_get hi))
      have hns := hrl.not_self hi
      unfold by2 at hns
      generalize stepAt L i = s at hg hns
      by_cases a1 : s.2.1 ≥ 0 <;> by_cases a2 : s.2.2.1 ≥ 0 <;> by_cases a3 : s.1 ≥ 0 <;> simp [a1, a2, a3, List.filter_cons] <;> omega
    · rcases (hmb i x hi).1 hx with e | ⟨h0, hb⟩
      · rw [e]; exact hrn i hi
      · obtain ⟨_, p2, p3⟩ := pos_later hrl hi h0 hb
        have := hrn _ p2
        rw [p3] at this; exact this
    · rcases up_cases hrl hi with ⟨e, _⟩ | ⟨k, e, h1, h2, _⟩
      · exact .inl e
      · exact .inr ⟨by omega, by omega⟩
  · obtain ⟨p1, p2⟩ := hrl.pos (v := (v : Int)) (by omega) hv
    unfold cntH
    rw [hsl]
    have hhd : ∀ i, i < L.length → (headB (setsL L) (upsK L L.length) i v = true ↔ (v : Int) ∈ bagOf (stepAt L i) ∧ (upOf L i < 0 ∨ (v : Int) ∉ bagAt (setsL L) (upOf L i).toNat)) := fun i hi => by
      unfold headB
      rw [hba i hi, hua i hi]
      simp
    refine countP_uniq p1 ?_ fun i hi hh => ?_
    · rw [hhd _ p1]
      refine ⟨(hmb _ _ p1).2 (.inl p2.symm), ?_⟩
      rcases up_cases hrl p1 with ⟨e, _⟩ | ⟨k, e, h1, h2, h3, _⟩
      · left; omega
      · right
        rw [e, Int.toNat_natCast, hba k h2, hmb k _ h2]
        rintro (h4 | ⟨_, h4⟩)
        · have := posV_at hrl h2
          rw [← h4] at this
          omega
        · exact hrl.not_later h1 h2 (by rw [p2]; exact h4)
    · rw [hhd i hi] at hh
      obtain ⟨h1, h2⟩ := hh
      rcases (hmb i _ hi).1 h1 with e | ⟨h0, hb⟩
      · have := posV_at hrl hi
        rw [← e] at this; exact this.symm
      · exfalso
        rcases up_cases hrl hi with ⟨e, h3⟩ | ⟨k, e, h3, h4, h5, h6⟩
        · exact h3 _ h0 hb
        · rcases h2 with h2 | h2
          · omega
          · rw [e, Int.toNat_natCast, hba k h4, hmb k _ h4] at h2
            rcases h6 _ h0 hb with e2 | e2
            · exact h2 (.inl e2)
            · exact h2 (.inr ⟨h0, e2⟩)
  · obtain ⟨i, s, hi, hor⟩ := hadj p hp
    obtain ⟨o1, o2, o3⟩ := hR.2.2.2.1 p hp
    have hil := (List.getElem?_eq_some_iff.1 hi).1
    have hs : stepAt L i = s := by have := stepAt_get hil; rw [hi] at this; injection this with this; exact this.symm
    unfold metB
    rw [List.any_eq_true]
    refine ⟨bagAt (setsL L) i, bagAt_mem (by rw [hsl]; exact hil), ?_⟩
    rw [hba i hil, hs, Bool.and_eq_true]
    have hm := fun x => hmb i x hil
    rw [hs] at hm
    rcases hor with ⟨e1, e2⟩ | ⟨e1, e2⟩
    · exact ⟨by simpa using (hm p.1).2 (.inl e1.symm), by simpa using (hm p.2).2 (.inr ⟨by omega, e2⟩)⟩
    · exact ⟨by simpa using (hm p.1).2 (.inr ⟨o1, e2⟩), by simpa using (hm p.2).2 (.inl e1.symm)⟩
end Go.Sh

set_option linter.unusedVariables false
set_option linter.unusedSimpArgs false
namespace Go.Sh
/-! ### a graph that has bags has no model of the complete graph of four -/
inductive Pth (U : List Int) (Q : Nat → Prop) : Nat → Nat → Prop
  | refl {i : Nat} (h : Q i) : Pth U Q i i
  | step {i k j : Nat} (h : Q i) (hu : upAt U i = k) (hk : i < k) (r : Pth U Q k j) : Pth U Q i j
theorem Pth.le {U : List Int} {Q : Nat → Prop} {i j : Nat} (h : Pth U Q i j) : i ≤ j := by
  induction h with
  | refl _ => exact Nat.le_refl _
  | step _ _ hk _ ih => omega
theorem Pth.head {U : List Int} {Q : Nat → Prop} {i j : Nat} (h : Pth U Q i j) : Q i := by
  cases h with
  | refl h => exact h
  | step h _ _ _ => exact h
theorem Pth.mono {U : List Int} {Q Q' : Nat → Prop} {i j : Nat} (h : Pth U Q i j) (hq : ∀ t, Q t → Q' t) : Pth U Q' i j := by
  induction h with
  | refl h => exact .refl (hq _ h)
  | step h hu hk _ ih => exact .step (hq _ h) hu hk ih
theorem Pth.trans {U : List Int} {Q : Nat → Prop} {i j k : Nat} (h : Pth U Q i j) (h2 : Pth U Q j k) : Pth U Q i k := by
  induction h with
  | refl _ => exact h2
  | step h hu hk _ ih => exact .step h hu hk (ih h2)
end Go.Sh

set_option linter.unusedVariables false
set_option linter.unusedSimpArgs false
namespace Go.Sh
open Go.Proofs
/-! ### bits, as numbers -/
theorem getD_lt {r : List Nat} {m : Nat} (h : ∀ x ∈ r, x < m) (hm : 0 < m) (i : Nat) : r.getD i 0 < m := by
  by_cases hi : i < r.length
  · rw [List.getD_eq_getElem?_getD, List.getElem?_eq_getElem hi]; exact h _ (List.getElem_mem hi)
  · rw [getD_out hi]; exact hm
/-- small rows of bits -/
def Byt (r : List Nat) : Prop := r.length ≤ 8 ∧ ∀ x ∈ r, x < 256
theorem lessX_lt {x v : Nat} (h : x < 256) : lessX x v < 256 := by
  apply Nat.lt_pow_two_of_testBit (n := 8)
  intro i hi
  rw [lessX_bit]
  exact Nat.testBit_lt_two_pow (Nat.lt_of_lt_of_le (show x < 2 ^ 8 by omega) (Nat.pow_le_pow_right (by omega) (by unfold up1; split <;> omega)))
theorem mergeX_lt {r : List Nat} (h : Byt r) {a b i x : Nat} (ha : a < 8) (hx : x < 256) : mergeX r a b i x < 256 := by
  have h1 := getD_lt h.2 (by omega) a
  have h2 := getD_lt h.2 (by omega) b
  unfold mergeX
  split
  · apply Nat.lt_pow_two_of_testBit (n := 8)
    intro i hi
    rw [off_bit, Nat.testBit_lt_two_pow (Nat.lt_of_lt_of_le (Nat.or_lt_two_pow (n := 8) h1 h2) (Nat.pow_le_pow_right (by omega) hi))]
    rfl
  · split
    · exact Nat.or_lt_two_pow (n := 8) hx (Nat.pow_lt_pow_right (by omega) ha)
    · exact hx
theorem Byt.less {r : List Nat} (h : Byt r) {v : Nat} (hv : v < r.length) : Byt (lessL r v) := by
  refine ⟨by have := lessL_length hv; have := h.1; omega, fun x hx => ?_⟩
  obtain ⟨y, hy, rfl⟩ := List.mem_map.1 hx
  exact lessX_lt (h.2 y (List.mem_of_mem_eraseIdx hy))
theorem Byt.merge {r : List Nat} (h : Byt r) {a b : Nat} (ha : a < r.length) : Byt (mergeL r a b) := by
  refine ⟨by rw [mergeL_length]; exact h.1, fun x hx => ?_⟩
  obtain ⟨i, hi, rfl⟩ := List.mem_map.1 hx
  exact mergeX_lt h (by have := h.1; omega) (getD_lt h.2 (by omega) i)
theorem Byt.merged {r : List Nat} (h : Byt r) {a b : Nat} (ha : a < r.length) (hb : b < r.length) : Byt (mergedL r a b) := (h.merge ha).less (by rw [mergeL_length]; exact hb)
/-! ### carcanetref08.less -/
/-! ### carcanetref08.merged -/
/-! ### carcanetref08.is -/
end Go.Sh

set_option linter.unusedVariables false
set_option linter.unusedSimpArgs false
namespace Go.Sh
open Go.Proofs
/-! ### carcanetref08.Rows -/
/-! ### carcanetref08.comes -/
end Go.Sh

set_option linter.unusedVariables false
set_option linter.unusedSimpArgs false
namespace Go.Sh
open Go.Proofs
/-! ### carcanetref08.Has -/
/-! ### carcanetlaw08.MinorTrue -/
/-! ### carcanetref08.Pattern -/
end Go.Sh

set_option linter.unusedVariables false
set_option linter.unusedSimpArgs false
namespace Go.Sh
open Go.Proofs
/-! ### carcanetlaw10.ReduceMinor -/
end Go.Sh

set_option linter.unusedVariables false
set_option linter.unusedSimpArgs false
namespace Go.Sh
open Go.Proofs
/-! ### carcanetlaw12.BagsHold, BagsSound, BagsNarrow -/
noncomputable def BHoldF := conF (fun _ : Int × List Ed => True) (fun a => [grV a.1 a.2]) (fun _ => .one (.s (.b true)))
theorem BHold_ok : SoundP Try.prog 7 BHoldF := by
  refine con_pure (X := { Γ := [(15, Shown12C), (16, OfC), (17, OfBC), (21, BChkC), (25, NarrowC)], T := T, nt := 51 }) cr_none hmix hT
    (sound_cons Shown12_ok (sound_cons Of_ok (sound_cons OfB_ok (sound_cons BChk_ok (sound_cons Narrow_ok sound_nil))))) Try.func7 (by rfl) (by rfl) (by rfl) 2 ?_
  rintro ⟨n, E⟩ -
  refine ⟨⟨Nat.le_of_ble_eq_true rfl, Nat.le_of_ble_eq_true rfl⟩, ?_⟩
  refine Call.by _ _ Shown12C_at ?_
  refine Call.by _ _ (OfC_at n E (most := 40) (by omega)) ?_
  have hR := any_right (n := n) (l := E) (most := 40) (by omega) (by omega)
  have hr := anyN_range (n := n) (most := 40) (by omega)
  obtain ⟨m, hm⟩ : ∃ m, anyN n 40 = m := ⟨_, rfl⟩
  obtain ⟨F, hF⟩ : ∃ F, anyE n E 40 = F := ⟨_, rfl⟩
  rw [hm] at hr
  rw [hm, hF] at hR ⊢
  have hO := OfBC_at m F
  have hN := NarrowC_at m F
  by_cases h2 : (runO m F).2.1 = []
  · have hv : bagsO m F = ((setsL (runO m F).1, upsK (runO m F).1 (runO m F).1.length), 0) := by unfold bagsO; rw [if_pos hR, if_pos h2]
    have hnv : narrowB m F = true := by unfold narrowB; rw [decide_eq_true hR, decide_eq_true h2]; rfl
    have hB := bags_hold hR h2
    have hol := bagsO_len m F
    have hlen : (runO m F).1.length = m.toNat := by
      obtain ⟨_, _, hcnt⟩ := core_run hR
      have hrun : runO m F = ((runR m F).1, leftF (runR m F).2.2, edgesF (runR m F).2.1 (runR m F).2.2) := if_pos hR
      rw [hrun] at h2 ⊢
      have h2 : leftF (runR m F).2.2 = [] := h2
      rw [h2] at hcnt
      simpa using hcnt
    rw [hv] at hO hol
    rw [hnv] at hN
    refine Call.by _ _ hO ?_
    refine Call.by _ _ hN ?_
    refine Pick.T (by rw [beq_iff_eq, rowsI_length]; unfold setsL; rw [List.length_map, hlen]; omega) ?_
    have hC := BChkC_at (n := m) (E := F) hol
    rw [bagB_iff.2 hB] at hC
    refine Call.by _ _ hC ?_
    exact ⟨rfl, rfl⟩
  · have hv : bagsO m F = (([], []), 6) := by unfold bagsO; rw [if_pos hR, if_neg h2]
    have hnv : narrowB m F = false := by unfold narrowB; rw [decide_eq_true hR, decide_eq_false h2]; rfl
    rw [hv] at hO
    rw [hnv] at hN
    refine Call.by _ _ hO ?_
    refine Call.by _ _ hN ?_
    refine Pick.T (inI64_of (by decide) (by decide)) ?_
    exact ⟨rfl, rfl⟩
end Go.Sh

set_option linter.unusedVariables false
set_option linter.unusedSimpArgs false
namespace Go.Sh
open Go.Proofs
/-! ### carcanetlaw08.MinorMoves -/
def i64 (x : Int) : Prop := -9223372036854775808 ≤ x ∧ x ≤ 9223372036854775807
def clI (x : Int) : Int := mnI x 4611686018427387904
def clP (j : Nat) (row : List Int) : List Int := (row.take j).map clI ++ row.drop j
theorem clP_all (row : List Int) (j : Nat) (h : row.length ≤ j) : clP j row = row.map clI := by
  unfold clP
  rw [List.take_of_length_le h, List.drop_eq_nil_of_le h, List.append_nil]
theorem clP_zero (row : List Int) : clP 0 row = row := by simp [clP]
def ClI (S : List (List Int)) (i j : Nat) (R : List (List Int)) : Prop := R.length = S.length ∧ ∀ r row, S[r]? = some row → R[r]? = some (if r < i then row.map clI else if r = i then clP j row else row)
theorem ClI.at {S R : List (List Int)} {i j : Nat} (h : ClI S i j R) {row : List Int} (hi : S[i]? = some row) : R[i]? = some (clP j row) := by
  have := h.2 i row hi
  rwa [if_neg (by omega), if_pos rfl] at this
theorem ClI.step {S R : List (List Int)} {i j : Nat} (h : ClI S i j R) {row : List Int} (hi : S[i]? = some row) : ClI S i (j + 1) (R.set i (clP (j + 1) row)) := by
  refine ⟨by rw [List.length_set]; exact h.1, fun r w hr => ?_⟩
  rw [List.getElem?_set]
  by_cases e : i = r
  · subst e
    rw [hi] at hr
    injection hr with hr
    subst hr
    rw [if_pos rfl, if_pos (by rw [h.1]; exact (List.getElem?_eq_some_iff.1 hi).1), if_neg (by omega), if_pos rfl]
  · rw [if_neg e, h.2 r w hr, if_neg (show ¬ r = i by omega), if_neg (show ¬ r = i by omega)]
theorem ClI.next {S R : List (List Int)} {i j : Nat} (h : ClI S i j R) {row : List Int} (hi : S[i]? = some row) (hj : row.length ≤ j) : ClI S (i + 1) 0 R := by
  refine ⟨h.1, fun r w hr => ?_⟩
  rw [h.2 r w hr]
  by_cases e : r < i
  · rw [if_pos e, if_pos (by omega)]
  · by_cases e2 : r = i
    · subst e2
      rw [hi] at hr
      injection hr with hr
      subst hr
      rw [if_neg e, if_pos rfl, if_pos (by omega), clP_all _ _ hj]
    · rw [if_neg e, if_neg e2, if_neg (by omega)]
      split
      · rw [clP_zero]
      · rfl
theorem ClI.done {S R : List (List Int)} {i : Nat} (h : ClI S i 0 R) (hi : S.length ≤ i) : R = S.map fun l => l.map clI := by
  apply List.ext_getElem?
  intro r
  by_cases hr : r < S.length
  · rw [h.2 r _ (List.getElem?_eq_getElem hr), if_pos (by omega)]
    simp [hr]
  · rw [List.getElem?_eq_none (by rw [h.1]; omega), List.getElem?_eq_none (by simp; omega)]
theorem ClI.zero (S : List (List Int)) : ClI S 0 0 S := ⟨rfl, fun r row h => by
  rw [if_neg (by omega), clP_zero]
  split <;> exact h⟩
end Go.Sh

set_option linter.unusedVariables false
set_option linter.unusedSimpArgs false
namespace Go.Sh
open Go.Proofs
/-! ### what is handed in, as data -/
theorem VTy.struct {T : Tab} {t : Nat} {ti : TI} {fs : List (Nat × Nat)} {v : V} (ht : lk T t = some ti) (hk : ti.kind = .struct fs) (h : VTy T t v) : ∃ cs, v = .agg cs ∧ All2 (fun (f : Nat × Nat) c => CTy T f.2 c) fs cs := by
  unfold VTy at h
  rw [ht] at h
  simp only at h
  rw [hk] at h
  exact h
theorem VTy.cell {T : Tab} {t : Nat} {ti : TI} {v : V} (ht : lk T t = some ti) (hk : ∀ fs, ti.kind ≠ .struct fs) (h : VTy T t v) : ∃ c, v = .one c ∧ CTy T t c := by
  unfold VTy at h
  rw [ht] at h
  simp only at h
  exact h
theorem ScTy.int {T : Tab} {t : Nat} {ti : TI} {k : IntKind} {x : Sc} (ht : lk T t = some ti) (hk : ti.kind = .int k) (h : ScTy T t x) : ∃ n, x = .i k n ∧ (Lit.int k n).wf = true := by
  unfold ScTy at h
  rw [ht] at h
  simp only at h
  rw [hk] at h
  cases x with
  | i k' n => obtain ⟨rfl, h⟩ := h; exact ⟨n, rfl, h⟩
  | b _ => exact h.elim
theorem CTy.sc {T : Tab} {t : Nat} {c : C} (hs : sliceE T t = none) (h : CTy T t c) : ∃ x, c = .s x ∧ ScTy T t x := by
  unfold CTy at h
  rw [hs] at h
  exact h
theorem CTy.flat {T : Tab} {t e : Nat} {c : C} (hs : sliceE T t = some e) (hs2 : sliceE T e = none) (h : CTy T t c) : ∃ rows, c = .flat false (sizeT T e) rows ∧ FlatTy T e rows := by
  unfold CTy at h
  rw [hs] at h
  simp only at h
  rw [hs2] at h
  exact h
theorem CTy.nest {T : Tab} {t e e2 : Nat} {c : C} (hs : sliceE T t = some e) (hs2 : sliceE T e = some e2) (h : CTy T t c) : ∃ rows, c = .nest false (sizeT T e2) rows ∧ rows.length ≤ maxLen ∧ ∀ fl ∈ rows, FlatTy T e2 fl := by
  unfold CTy at h
  rw [hs] at h
  simp only at h
  rw [hs2] at h
  exact h
theorem i64_wf {n : Int} (h : (Lit.int .i64 n).wf = true) : i64 n := by
  simp [Lit.wf, IntKind.min, IntKind.max, IntKind.signed, IntKind.bits] at h
  exact h
theorem list_ex {α β : Type} {P : α → β → Prop} : ∀ {l : List α}, (∀ x ∈ l, ∃ y, P x y) → ∃ m : List β, All2 P l m := by
  intro l
  induction l with
  | nil => intro _; exact ⟨[], All2.nil⟩
  | cons x l ih =>
    intro h
    obtain ⟨y, hy⟩ := h x (by simp)
    obtain ⟨m, hm⟩ := ih fun x hx => h x (by simp [hx])
    exact ⟨y :: m, All2.cons' hy hm⟩
theorem All2.map_eq {α β : Type} {f : β → α} {l : List α} {m : List β} (h : All2 (fun x y => x = f y) l m) : l = m.map f := by
  apply List.ext_getElem?
  intro i
  rw [List.getElem?_map]
  by_cases hi : i < l.length
  · have him : i < m.length := by rw [← h.1]; exact hi
    rw [List.getElem?_eq_getElem hi, List.getElem?_eq_getElem him, Option.map_some, h.2 i _ _ (List.getElem?_eq_getElem hi) (List.getElem?_eq_getElem him)]
  · rw [List.getElem?_eq_none (by omega), List.getElem?_eq_none (by rw [← h.1]; omega)]; rfl
theorem All2.mem {α β : Type} {R : α → β → Prop} {l : List α} {m : List β} (h : All2 R l m) {y : β} (hy : y ∈ m) : ∃ x ∈ l, R x y := by
  obtain ⟨i, hi⟩ := List.mem_iff_getElem?.1 hy
  have hl := (List.getElem?_eq_some_iff.1 hi).1
  rw [← h.1] at hl
  exact ⟨_, List.getElem_mem hl, h.2 i _ y (List.getElem?_eq_getElem hl) hi⟩
/-! #### at this program's types -/
theorem All2.two {α β : Type} {R : α → β → Prop} {a b : α} {m : List β} (h : All2 R [a, b] m) : ∃ x y, m = [x, y] ∧ R a x ∧ R b y := by
  obtain ⟨h1, h2⟩ := h
  match m, h1, h2 with
  | [x, y], _, h2 => exact ⟨x, y, rfl, h2 0 a x rfl rfl, h2 1 b y rfl rfl⟩
theorem All2.one {α β : Type} {R : α → β → Prop} {a : α} {m : List β} (h : All2 R [a] m) : ∃ x, m = [x] ∧ R a x := by
  obtain ⟨h1, h2⟩ := h
  match m, h1, h2 with
  | [x], _, h2 => exact ⟨x, rfl, h2 0 a x rfl rfl⟩
theorem All2.three {α β : Type} {R : α → β → Prop} {a b c : α} {m : List β} (h : All2 R [a, b, c] m) : ∃ x y z, m = [x, y, z] ∧ R a x ∧ R b y ∧ R c z := by
  obtain ⟨h1, h2⟩ := h
  match m, h1, h2 with
  | [x, y, z], _, h2 => exact ⟨x, y, z, rfl, h2 0 a x rfl rfl, h2 1 b y rfl rfl, h2 2 c z rfl rfl⟩
theorem row_edge {row : Row} (h : RowTy T 60 row) : ∃ p : Ed, row = [.i .i64 p.1, .i .i64 p.2] ∧ i64 p.1 ∧ i64 p.2 := by
  obtain ⟨_, h⟩ := h
  obtain ⟨x, y, rfl, hx, hy⟩ := All2.two h
  obtain ⟨n, rfl, hn⟩ := ScTy.int (t := 3) rfl rfl hx
  obtain ⟨m, rfl, hm⟩ := ScTy.int (t := 3) rfl rfl hy
  exact ⟨(n, m), rfl, i64_wf hn, i64_wf hm⟩
theorem edges_of {fl : Flat} (h : FlatTy T 60 fl) : ∃ E : List Ed, fl = edges E ∧ E.length ≤ maxLen ∧ ∀ p ∈ E, i64 p.1 ∧ i64 p.2 := by
  obtain ⟨m, hm⟩ := list_ex (P := fun row (p : Ed) => row = [Sc.i .i64 p.1, Sc.i .i64 p.2] ∧ i64 p.1 ∧ i64 p.2) fun row hr => row_edge (h.2 row hr)
  refine ⟨m, All2.map_eq (f := fun p : Ed => [Sc.i .i64 p.1, Sc.i .i64 p.2]) (hm.imp fun _ _ _ k => k.1), by rw [← hm.1]; exact h.1, fun x hx => ?_⟩
  obtain ⟨_, _, k⟩ := hm.mem hx
  exact k.2
theorem net_of {v : V} (h : VTy T 24 v) : ∃ n E, v = grV n E ∧ i64 n ∧ ∀ p ∈ E, i64 p.1 ∧ i64 p.2 := by
  obtain ⟨cs, rfl, hcs⟩ := VTy.struct (t := 24) rfl rfl h
  obtain ⟨x, y, rfl, hx, hy⟩ := All2.two hcs
  obtain ⟨z, rfl, hz⟩ := CTy.sc (t := 3) rfl hx
  obtain ⟨n, rfl, hw⟩ := ScTy.int (t := 3) rfl rfl hz
  obtain ⟨rows, rfl, hr⟩ := CTy.flat (t := 22) (e := 60) rfl rfl hy
  obtain ⟨E, rfl, _, hE⟩ := edges_of hr
  exact ⟨n, E, rfl, i64_wf hw, hE⟩
end Go.Sh

set_option linter.unusedVariables false
namespace Go.Sh
open Go.Proofs
theorem own : ownKnob Try.prog.godebug = none := by kernel_rfl
theorem laidOut : laidOutB Try.prog = true := by kernel_rfl
set_option maxRecDepth 100000 in
/-- A law whose function answers true, whatever comes. -/
theorem law_row {s : ChangeSpec} {f : FuncId} {fn : Func} {conds : List PathCond} {apart fresh handsOn : Bool} {ts : List TypeId} {F : List V → Option (V × List V)} (hf : Try.prog.funcs[f]? = some fn) (hin : Try.prog.inits.idxOf? f = none) (hv : s.vars = [])
    (hts : fn.params.toList = ts) (ha : ts.all (argB T) = true) (hr : ts.all (fun t => Try.prog.readableRec t && Nat.blt t Try.prog.types.size) = true) (hres : fn.resultTypes = #[4])
    (hsp : ∀ (H : Type) (ds : List (DataW H)), ds.length = ts.length → (s.fn H ds).results = [.lit (.bool true)] ∧ (s.fn H ds).args = ds ∧ (s.fn H ds).vars = [])
    (hS : SoundP Try.prog f F) (hF : LawV T ts F) (os : Os) (started : os.Started) (H : Type) (enc : TypeId × Value → H) (a : Assume)
    (hw : ∃ (w : World) (tape : Tape) (i : Input), w.os = os ∧ (w.forCall tape i).Shaped Try.checked.prog ∧ i.vars = [] ∧ Input.okWide Try.checked.prog (w.forCall tape i) .any w.heap.size f i ∧
      s.pre6 enc Try.checked.prog fn conds apart (w.forCall tape i).memory i.args ∧ a.holds Try.checked.prog (lone (Frame.enter Try.checked.prog f i.args .normal) [] (w.forCall tape i))) :
    ReturnsInHanded a Try.checked os f .any (s.pre6 enc Try.checked.prog fn conds apart) (s.post enc Try.checked.prog fn apart fresh handsOn false) := by
  refine returnsInHanded_of_change (C := Try.checked) own started hin hf hw ?_
  intro W base args ds gs before hval hW _ _
  refine law_contract (P := Try.prog) (conds := conds) hT laidOut hv hts ha (fun t ht => ?_) hres Try.underlying4 (hsp H) hS hF hval hW
  have := List.all_eq_true.1 hr t ht
  simp only [Bool.and_eq_true] at this
  exact ⟨this.1, Nat.le_of_ble_eq_true this.2⟩
end Go.Sh

set_option linter.unusedVariables false
namespace Go.Sh
open Go.Proofs
/-! ### more of what is handed in, as data -/
theorem ScTy.bool {T : Tab} {t : Nat} {ti : TI} {x : Sc} (ht : lk T t = some ti) (hk : ti.kind = .bool) (h : ScTy T t x) : ∃ b, x = .b b := by
  unfold ScTy at h
  rw [ht] at h
  simp only at h
  rw [hk] at h
  cases x with
  | i k' n => exact h.elim
  | b b => exact ⟨b, rfl⟩
theorem All2.four {α β : Type} {R : α → β → Prop} {a b c d : α} {m : List β} (h : All2 R [a, b, c, d] m) : ∃ x y z t, m = [x, y, z, t] ∧ R a x ∧ R b y ∧ R c z ∧ R d t := by
  obtain ⟨h1, h2⟩ := h
  match m, h1, h2 with
  | [x, y, z, t], _, h2 => exact ⟨x, y, z, t, rfl, h2 0 a x rfl rfl, h2 1 b y rfl rfl, h2 2 c z rfl rfl, h2 3 d t rfl rfl⟩
end Go.Sh

set_option linter.unusedVariables false
namespace Go.Sh
open Go.Proofs
/-! ### more of what is handed in, as data: bags -/
end Go.Sh
