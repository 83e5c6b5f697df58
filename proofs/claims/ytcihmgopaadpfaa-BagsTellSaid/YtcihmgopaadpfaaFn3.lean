/- What the functions answer that the statement reaches. No condition. -/
import Derived.Test.YtcihmgopaadpfaaFn2
import Derived.Test.YtcihmgopaadpfaaRows
set_option linter.unusedVariables false
set_option linter.unusedSimpArgs false
namespace Go.Sh
open Go.Proofs
def AtI (L : List Stp) (k : Nat) (A : List Int) : Prop := A.length = 1000 ∧ ∀ i, i < k → A[((stepAt L i).1).toNat]? = some (i : Int)
theorem AtI.set {n : Int} {L : List Stp} (h : RunL n L) {k : Nat} {A : List Int} (hA : AtI L k A) (hk : k < L.length) (hn : n ≤ 1000) : AtI L (k + 1) (A.set ((stepAt L k).1).toNat (k : Int)) := by
  have hrn : ∀ k, k < L.length → 0 ≤ (stepAt L k).1 ∧ (stepAt L k).1 < n := fun k hk => h.rng _ (List.mem_of_getElem? (stepAt_get hk))
  have hk0 := hrn k hk
  refine ⟨by rw [List.length_set]; exact hA.1, fun i hi => ?_⟩
  by_cases e : i = k
  · subst e
    rw [List.getElem?_set_self (by rw [hA.1]; omega)]
  · have hi0 := hrn i (by omega)
    rw [List.getElem?_set_ne (fun e2 => ?_)]
    · exact hA.2 i (by omega)
    · have h1 := posV_at h (show i < L.length by omega)
      have h2 := posV_at h hk
      have : (stepAt L i).1 = (stepAt L k).1 := by omega
      rw [this] at h1
      omega
set_option maxRecDepth 100000 in
set_option maxHeartbeats 4000000 in
theorem OfB_ok : SoundC Try.prog T 17 OfBC := by
  refine sound_con (X := { Γ := [(39, RightC), (40, RunC), (41, RiseC)], T := T, nt := 90 }) cr_none hmix hT (sound_cons RightG_ok (sound_cons Run_ok (sound_cons Rise_ok sound_nil))) Try.func17 (by rfl) (by rfl) (by rfl) (by rfl) 2 ?_
  rintro ⟨n, E⟩ -
  dsimp only
  refine ⟨⟨Nat.le_of_ble_eq_true rfl, Nat.le_of_ble_eq_true rfl⟩, ?_⟩
  refine Call.by _ _ (RightC_at n E) ?_
  refine Pick.by (fun h1 => ?_) (fun h1 => ?_)
  · have h1 : ¬ RightP n E := by have h1 : (!decide (RightP n E)) = true := h1; simpa using h1
    have hv : bagsO n E = (([], []), 1) := if_neg h1
    rw [hv]
    refine ⟨rfl, rfl, ?_⟩
    (repeat' first | exact rfl | exact trivial | refine And.intro ?_ ?_)
  have hR : RightP n E := by have h1 : (!decide (RightP n E)) = false := h1; simpa using h1
  refine Call.by _ _ (RunC_at n E) ?_
  obtain ⟨r1, r2, r3⟩ := runO_len' n E
  refine Pick.by (fun h2 => ?_) (fun h2 => ?_)
  · have h2 : ¬ (runO n E).2.1 = [] := by
      intro e
      have : decide ((((ints (runO n E).2.1).length : Nat) : Int) > 0) = true := h2
      rw [e] at this; simp [ints] at this
    have hv : bagsO n E = (([], []), 6) := by unfold bagsO; rw [if_pos hR, if_neg h2]
    rw [hv]
    refine ⟨rfl, rfl, ?_⟩
    (repeat' first | exact rfl | exact trivial | refine And.intro ?_ ?_)
  have h2 : (runO n E).2.1 = [] := by
    have : decide ((((ints (runO n E).2.1).length : Nat) : Int) > 0) = false := h2
    rw [decide_eq_false_iff_not, ints_length] at this
    exact List.eq_nil_of_length_eq_zero (by omega)
  have hv : bagsO n E = ((setsL (runO n E).1, upsK (runO n E).1 (runO n E).1.length), 0) := by unfold bagsO; rw [if_pos hR, if_pos h2]
  have hrl := run_L hR h2
  have hn1 := hR.2.1
  rw [hv]
  dsimp only
  obtain ⟨L, hL⟩ : ∃ x, (runO n E).1 = x := ⟨_, rfl⟩
  obtain ⟨D, hD⟩ : ∃ x, (runO n E).2.1 = x := ⟨_, rfl⟩
  obtain ⟨Eg, hEg⟩ : ∃ x, (runO n E).2.2 = x := ⟨_, rfl⟩
  rw [hL] at hrl r1 ⊢
  rw [hD, hEg]
  have hrn : ∀ k, k < L.length → 0 ≤ (stepAt L k).1 ∧ (stepAt L k).1 < n := fun k hk => hrl.rng _ (List.mem_of_getElem? (stepAt_get hk))
  refine LoopP.intro (α := Nat × List Int) (fun a => a.1 ≤ L.length ∧ AtI L a.1 a.2) (fun a => L.length - a.1) (fun a => [(2, .ptr 0 0), (3, .s (.i .i64 0)), (4, .ptr 1 0), (5, .ptr 5 0), (26, .sl 2 none none), (27, .s (.i .i64 L.length)), (28, .s (.i .i64 a.1))])
    (fun a => [(0, some (.blk [.nils, .nils])), (1, some (.blk [.sl 2 none none, .sl 3 none none, .sl 4 none none])), (2, some (.flat true 4 (stps L))), (3, some (.flat true 1 (ints D))), (4, some (.flat true 2 (edges Eg))), (5, some (.flat true 1 (ints a.2)))]) 6 (0, List.replicate 1000 0) ⟨by dsimp only; omega, by dsimp only; rw [List.length_replicate], fun i h => by dsimp only at h; omega⟩ (by refine Weak.by [(0, some _), (1, some _), (2, some _), (3, some _), (4, some _), (5, some _)] (by ((repeat' first | exact rfl | exact trivial | refine And.intro ?_ ?_) <;> (repeat' first | exact rfl | exact trivial | refine And.intro ?_ ?_)); all_goals (first | exact sc_eq (by rw [stps_length]) | (unfold ints; rw [List.map_replicate]; done))) (by ((repeat' first | exact rfl | exact trivial | refine And.intro ?_ ?_) <;> (repeat' first | exact rfl | exact trivial | refine And.intro ?_ ?_)); all_goals (first | exact sc_eq (by rw [stps_length]) | (unfold ints; rw [List.map_replicate]; done))) (by rfl)) ?_
  rintro ⟨k, A⟩ ⟨hk, hA⟩
  dsimp only at hk hA ⊢
  refine Pick.by (fun hc => ?_) (fun hc => ?_)
  · have hlt : k < L.length := by simpa using hc
    have hget := stps_get (stepAt_get hlt)
    have hrk := hrn k hlt
    have hst := hA.set hrl hlt hn1
    generalize stepAt L k = s at hget hrk hst
    refine Idx.by k rfl (by rw [stps_length]; exact hlt) ?_
    refine Look.by _ hget ?_
    refine Idx.by s.1.toNat (by omega) (by omega) ?_
    obtain ⟨z, hz⟩ : ∃ z, A[s.1.toNat]? = some z := ⟨_, List.getElem?_eq_getElem (by rw [hA.1]; omega)⟩
    refine Look.by _ (ints_get hz) ?_
    refine Pick.T (inI64_of (by omega) (by omega)) ?_
    refine Next.by (k + 1, A.set s.1.toNat (k : Int)) ⟨by dsimp only; omega, hst⟩ (by dsimp only; omega) (by refine Weak.by [(0, some _), (1, some _), (2, some _), (3, some _), (4, some _), (5, some _)] (by ((repeat' first | exact rfl | exact trivial | refine And.intro ?_ ?_) <;> (repeat' first | exact rfl | exact trivial | refine And.intro ?_ ?_)); all_goals ((rw [ints_set]; rfl))) (by ((repeat' first | exact rfl | exact trivial | refine And.intro ?_ ?_) <;> (repeat' first | exact rfl | exact trivial | refine And.intro ?_ ?_)); all_goals ((rw [ints_set]; rfl))) (by rfl))
  have hke : k = L.length := by have : L.length ≤ k := by simpa using hc
                                omega
  subst hke
  have hAx : ∀ x : Int, 0 ≤ x → posV L x < L.length → (stepAt L (posV L x)).1 = x → x < 1000 ∧ (ints A)[x.toNat]? = some [.i .i64 (posV L x : Int)] := fun x hx h1 h2 => by
    have h3 := hA.2 _ h1
    rw [h2] at h3
    have := (List.getElem?_eq_some_iff.1 h3).1
    rw [hA.1] at this
    exact ⟨by omega, ints_get h3⟩
  have hAl : (ints A).length = 1000 := by rw [ints_length, hA.1]
  refine LoopP.intro (α := Nat) (fun i => i ≤ L.length) (fun i => L.length - i) (fun i => [(2, .ptr 0 0), (3, .s (.i .i64 0)), (4, .ptr 1 0), (5, .ptr 5 0), (8, .ptr 6 0), (39, .sl 2 none none), (40, .s (.i .i64 L.length)), (41, .s (.i .i64 i))])
    (fun i => [(0, some (.blk [.nils, .nils])), (1, some (.blk [.sl 2 none none, .sl 3 none none, .sl 4 none none])), (2, some (.flat true 4 (stps L))), (3, some (.flat true 1 (ints D))), (4, some (.flat true 2 (edges Eg))), (5, some (.flat true 1 (ints A))), (6, some (.blk [.sl 7 none none, .sl 8 none none])), (7, some (.nest true 1 (rowsI (setsL (L.take i))) [] [])), (8, some (.flat true 1 (ints (upsK L i))))]) 9 0 (by omega) (by refine Weak.by [(0, some _), (1, some _), (2, some _), (3, some _), (4, some _), (5, some _), (6, some _), (7, none), (8, none)] (by ((repeat' first | exact rfl | exact trivial | refine And.intro ?_ ?_) <;> (repeat' first | exact rfl | exact trivial | refine And.intro ?_ ?_)); all_goals (exact sc_eq (by rw [stps_length]))) (by ((repeat' first | exact rfl | exact trivial | refine And.intro ?_ ?_) <;> (repeat' first | exact rfl | exact trivial | refine And.intro ?_ ?_)); all_goals (exact sc_eq (by rw [stps_length]))) (by rfl)) ?_
  rintro i hi
  refine Pick.by (fun hc2 => ?_) (fun hc2 => ?_)
  · have hlt : i < L.length := by simpa using hc2
    obtain ⟨s, hst⟩ : ∃ s, stepAt L i = s := ⟨_, rfl⟩
    have hget := stps_get (stepAt_get hlt)
    have hup := up_mpos hrl hlt
    have hlat := fun x h0 hb => pos_later hrl hlt (x := x) h0 hb
    have hRise2 := RiseC_at 0 (l := [s.2.1, s.2.2.1]) (by simp)
    have hRise3 := RiseC_at 0 (l := [s.1, s.2.1, s.2.2.1]) (by simp)
    have hrm := fun x => mem_two (s := s) (x := x)
    rw [hst] at hget hup hlat
    refine Idx.by i rfl (by rw [stps_length]; exact hlt) ?_
    refine Look.by _ hget ?_
    refine Call.by _ _ hRise2 ?_
    obtain ⟨R, hRe⟩ : ∃ R, riseL 0 [s.2.1, s.2.2.1] = R := ⟨_, rfl⟩
    have hR2 : R.length ≤ 2 := by rw [← hRe]; unfold riseL; rw [sortI_length]; exact Nat.le_trans (List.length_filter_le _ _) (by simp)
    rw [hRe] at hup hrm ⊢
    refine LoopP.intro (α := Nat) (fun j => j ≤ R.length) (fun j => R.length - j) (fun j => [(2, .ptr 0 0), (3, .s (.i .i64 0)), (4, .ptr 1 0), (5, .ptr 5 0), (8, .ptr 6 0), (10, .ptr 9 0), (11, .s (.i .i64 (mpos L (R.take j)))), (39, .sl 2 none none), (40, .s (.i .i64 L.length)), (41, .s (.i .i64 i)), (50, .sl 10 none none), (51, .s (.i .i64 R.length)), (52, .s (.i .i64 j))])
      (fun j => [(0, some (.blk [.nils, .nils])), (1, some (.blk [.sl 2 none none, .sl 3 none none, .sl 4 none none])), (2, some (.flat true 4 (stps L))), (3, some (.flat true 1 (ints D))), (4, some (.flat true 2 (edges Eg))), (5, some (.flat true 1 (ints A))), (6, some (.blk [.sl 7 none none, .sl 8 none none])), (7, some (.nest true 1 (rowsI (setsL (L.take i))) [] [])), (8, some (.flat true 1 (ints (upsK L i)))), (9, some (.blk [.s (.i .i64 s.1), .s (.i .i64 s.2.1), .s (.i .i64 s.2.2.1), .s (.b s.2.2.2)])), (10, some (.flat true 1 (ints R)))]) 11 0 (by omega) (by refine Weak.by [(0, some _), (1, some _), (2, some _), (3, some _), (4, some _), (5, some _), (6, some _), (7, some _), (8, some _), (9, some _), (10, some _)] (by ((repeat' first | exact rfl | exact trivial | refine And.intro ?_ ?_) <;> (repeat' first | exact rfl | exact trivial | refine And.intro ?_ ?_)); all_goals (first | exact sc_eq (by rw [ints_length]) | rfl)) (by ((repeat' first | exact rfl | exact trivial | refine And.intro ?_ ?_) <;> (repeat' first | exact rfl | exact trivial | refine And.intro ?_ ?_)); all_goals (first | exact sc_eq (by rw [ints_length]) | rfl)) (by rfl)) ?_
    rintro j hj
    refine Pick.by (fun hd => ?_) (fun hd => ?_)
    · have hjl : j < R.length := by simpa using hd
      obtain ⟨hx0, hxb⟩ := (hrm _).1 (List.getElem_mem hjl)
      obtain ⟨p1, p2, p3⟩ := hlat _ hx0 hxb
      obtain ⟨q1, q2⟩ := hAx _ hx0 p2 p3
      have hms : mpos L (R.take (j + 1)) = if mpos L (R.take j) < 0 ∨ (posV L R[j] : Int) < mpos L (R.take j) then (posV L R[j] : Int) else mpos L (R.take j) := by
        rw [List.take_succ_eq_append_getElem hjl, mpos_snoc]
      refine Idx.by j rfl (by rw [ints_length]; exact hjl) ?_
      refine Look.by _ (ints_get (List.getElem?_eq_getElem hjl)) ?_
      refine Pick.by (fun h3 => ?_) (fun h3 => ?_)
      · have h3 : mpos L (R.take j) < 0 := by simpa using h3
        rw [if_pos (.inl h3)] at hms
        refine Idx.by R[j].toNat (by omega) (by omega) ?_
        refine Look.by _ q2 ?_
        refine Pick.T (inI64_of (by omega) (by omega)) ?_
        refine Next.by (j + 1) (by omega) (by omega) (by refine Weak.by [(0, some _), (1, some _), (2, some _), (3, some _), (4, some _), (5, some _), (6, some _), (7, some _), (8, some _), (9, some _), (10, some _)] (by ((repeat' first | exact rfl | exact trivial | refine And.intro ?_ ?_) <;> (repeat' first | exact rfl | exact trivial | refine And.intro ?_ ?_)); all_goals ((rw [hms]; rfl))) (by ((repeat' first | exact rfl | exact trivial | refine And.intro ?_ ?_) <;> (repeat' first | exact rfl | exact trivial | refine And.intro ?_ ?_)); all_goals ((rw [hms]; rfl))) (by rfl))
      have h3 : ¬ mpos L (R.take j) < 0 := by simpa using h3
      refine Idx.by R[j].toNat (by omega) (by omega) ?_
      refine Look.by _ q2 ?_
      refine Pick.by (fun h4 => ?_) (fun h4 => ?_)
      · have h4 : (posV L R[j] : Int) < mpos L (R.take j) := by simpa using h4
        rw [if_pos (.inr h4)] at hms
        refine Idx.by R[j].toNat (by omega) (by omega) ?_
        refine Look.by _ q2 ?_
        refine Pick.T (inI64_of (by omega) (by omega)) ?_
        refine Next.by (j + 1) (by omega) (by omega) (by refine Weak.by [(0, some _), (1, some _), (2, some _), (3, some _), (4, some _), (5, some _), (6, some _), (7, some _), (8, some _), (9, some _), (10, some _)] (by ((repeat' first | exact rfl | exact trivial | refine And.intro ?_ ?_) <;> (repeat' first | exact rfl | exact trivial | refine And.intro ?_ ?_)); all_goals ((rw [hms]; rfl))) (by ((repeat' first | exact rfl | exact trivial | refine And.intro ?_ ?_) <;> (repeat' first | exact rfl | exact trivial | refine And.intro ?_ ?_)); all_goals ((rw [hms]; rfl))) (by rfl))
      have h4 : ¬ (posV L R[j] : Int) < mpos L (R.take j) := by simpa using h4
      rw [if_neg (fun h => h.elim h3 h4)] at hms
      refine Pick.T (inI64_of (by omega) (by omega)) ?_
      refine Next.by (j + 1) (by omega) (by omega) (by refine Weak.by [(0, some _), (1, some _), (2, some _), (3, some _), (4, some _), (5, some _), (6, some _), (7, some _), (8, some _), (9, some _), (10, some _)] (by ((repeat' first | exact rfl | exact trivial | refine And.intro ?_ ?_) <;> (repeat' first | exact rfl | exact trivial | refine And.intro ?_ ?_)); all_goals ((rw [hms]; rfl))) (by ((repeat' first | exact rfl | exact trivial | refine And.intro ?_ ?_) <;> (repeat' first | exact rfl | exact trivial | refine And.intro ?_ ?_)); all_goals ((rw [hms]; rfl))) (by rfl))
    · have hjg : R.length ≤ j := by simpa using hd
      rw [List.take_of_length_le hjg]
      have hS1 : (rowsI (setsL (L.take i))).length = i := by rw [rowsI_length]; unfold setsL; simp; omega
      have hS2 : rowsI (setsL (L.take (i + 1))) = rowsI (setsL (L.take i)) ++ [ints (bagOf s)] := by
        rw [← rowsI_snoc]
        unfold setsL
        rw [List.take_succ_eq_append_getElem hlt, List.map_append]
        have := stepAt_get hlt
        rw [List.getElem?_eq_getElem hlt] at this
        injection this with this
        rw [this, hst]; rfl
      have hU1 : (upsK L i).length = i := by unfold upsK; simp
      have hU2 : ints (upsK L (i + 1)) = ints (upsK L i) ++ [[.i .i64 (mpos L R)]] := by
        rw [hup, ← ints_snoc]
        unfold upsK
        rw [List.range_succ, List.map_append]; rfl
      refine Call.by _ _ hRise3 ?_
      refine Pick.T (by rw [hS1]; simp; omega) ?_
      refine Seg.by (by kernel_rfl) ?_
      refine Pick.T (by simp [cut, ints_length, hU1]; omega) ?_
      refine Pick.T (inI64_of (by omega) (by omega)) ?_
      refine Next.by (i + 1) (by omega) (by omega) (by refine Weak.by [(0, some _), (1, some _), (2, some _), (3, some _), (4, some _), (5, some _), (6, some _), (7, some _), (8, some _)] (by ((repeat' first | exact rfl | exact trivial | refine And.intro ?_ ?_) <;> (repeat' first | exact rfl | exact trivial | refine And.intro ?_ ?_)); all_goals (first | (exact hS2) | (exact hU2))) (by ((repeat' first | exact rfl | exact trivial | refine And.intro ?_ ?_) <;> (repeat' first | exact rfl | exact trivial | refine And.intro ?_ ?_)); all_goals (first | (exact hS2) | (exact hU2))) (by rfl))
  · have hge : i = L.length := by have : L.length ≤ i := by simpa using hc2
                                  omega
    subst hge
    rw [List.take_length]
    refine ⟨rfl, rfl, ?_⟩
    (repeat' first | exact rfl | exact trivial | refine And.intro ?_ ?_)
end Go.Sh

set_option linter.unusedVariables false
set_option linter.unusedSimpArgs false
namespace Go.Sh
open Go.Proofs
noncomputable def XBC : Cx := { Γ := [(39, RightC), (46, ContC)], T := T, nt := 149, inl := [(47, inlF Try.f47)] }
theorem XBC_sound : Sound Try.prog T XBC.Γ := sound_cons RightG_ok (sound_cons Cont_ok sound_nil)
theorem XBC_ok : CrOk Try.prog (callAt 1 XBC) := callAt_ok hmix hT XBC_sound (inl_cons Try.func47 (by rfl) (by rfl) (by rfl) inl_nil) cr_none 1
set_option maxRecDepth 100000 in
set_option maxHeartbeats 4000000 in
theorem BChk_ok : SoundC Try.prog T 21 BChkC := by
  refine sound_con (X := XBC) (cr := callAt 1 XBC) XBC_ok hmix hT XBC_sound Try.func21 (by rfl) (by rfl) (by rfl) (by rfl) 4 ?_
  rintro ⟨⟨n, E⟩, S, U⟩ ⟨hS, hU, hSr⟩
  dsimp only at hS hU hSr ⊢
  refine ⟨⟨Nat.le_of_ble_eq_true rfl, Nat.le_of_ble_eq_true rfl⟩, ?_⟩
  refine Call.by _ _ (RightC_at n E) ?_
  refine Pick.by (fun h1 => ?_) (fun h1 => ?_)
  · have h1 : ¬ RightP n E := by have h1 : (!decide (RightP n E)) = true := h1; simpa using h1
    refine ⟨rfl, ?_⟩
    show Sc.b false = Sc.b (bagB n E S U)
    exact bagB_no fun h => h1 h.1
  have h1 : RightP n E := by have h1 : (!decide (RightP n E)) = false := h1; simpa using h1
  refine Pick.by (fun h3 => ?_) (fun h3 => ?_)
  · have h3 : S.length ≠ U.length := by simp [rowsI_length, ints_length] at h3; omega
    refine ⟨rfl, ?_⟩
    show Sc.b false = Sc.b (bagB n E S U)
    exact bagB_no fun h => h3 h.2.1.1
  have hSU : S.length = U.length := by simp [rowsI_length, ints_length] at h3; omega
  have hn0 := h1.1
  have hn1 := h1.2.1
  have hE4 := h1.2.2.1
  refine LoopP.intro (α := Nat) (fun k => k ≤ S.length ∧ ∀ i, i < k → rowOk n (bagAt S i) ∧ upOk S.length i (upAt U i)) (fun k => S.length - k) (fun k => [(2, .ptr 0 0), (3, .ptr 2 0), (33, .sl 3 none none), (34, .s (.i .i64 S.length)), (35, .s (.i .i64 k))])
    (fun k => [(0, some (.blk [.s (.i .i64 n), .sl 1 none none])), (1, some (.flat false 2 (edges E))), (2, some (.blk [.sl 3 none none, .sl 4 none none])), (3, some (.nest false 1 (rowsI S) [] [])), (4, some (.flat false 1 (ints U)))]) 5 0 ⟨by omega, fun i h => by omega⟩ (by refine Weak.by [(0, some _), (1, some _), (2, some _), (3, some _), (4, some _)] (by ((repeat' first | exact rfl | exact trivial | refine And.intro ?_ ?_) <;> (repeat' first | exact rfl | exact trivial | refine And.intro ?_ ?_)); all_goals (exact sc_eq (by rw [rowsI_length]))) (by ((repeat' first | exact rfl | exact trivial | refine And.intro ?_ ?_) <;> (repeat' first | exact rfl | exact trivial | refine And.intro ?_ ?_)); all_goals (exact sc_eq (by rw [rowsI_length]))) (by rfl)) ?_
  rintro k ⟨hk, hall⟩
  refine Pick.by (fun hc => ?_) (fun hc => ?_)
  · have hlt : k < S.length := by simpa using hc
    have hro := rowsI_get (bagAt_get hlt)
    have hup := ints_get (upAt_get (U := U) (i := k) (by omega))
    have hlr := hSr _ (bagAt_mem hlt)
    refine Idx.by k rfl (by rw [rowsI_length]; exact hlt) ?_
    refine Pick.T (by rw [rowsI_length]; simpa using hlt) ?_
    refine Idx.by k rfl (by rw [ints_length]; omega) ?_
    refine Look.by _ hup ?_
    refine Pick.by (fun h4 => ?_) (fun h4 => ?_)
    · have h4 : upAt U k ≠ -1 := by simpa using h4
      refine Idx.by k rfl (by rw [ints_length]; omega) ?_
      refine Look.by _ hup ?_
      refine Pick.by (fun h5 => ?_) (fun h5 => ?_)
      · have h5 : upAt U k ≤ k := by simpa using h5
        refine Seg.by (by kernel_rfl) ?_
        refine ⟨rfl, ?_⟩
        show Sc.b false = Sc.b (bagB n E S U)
        exact bagB_no fun h => by rcases (h.2.1.2 k hlt).2 with e | ⟨e, _⟩ <;> omega
      have h5 : ¬ upAt U k ≤ k := by simpa using h5
      refine Idx.by k rfl (by rw [ints_length]; omega) ?_
      refine Look.by _ hup ?_
      refine Pick.by (fun h6 => ?_) (fun h6 => ?_)
      · have h6 : upAt U k ≥ S.length := by simpa [rowsI_length] using h6
        refine Seg.by (by kernel_rfl) ?_
        refine ⟨rfl, ?_⟩
        show Sc.b false = Sc.b (bagB n E S U)
        exact bagB_no fun h => by rcases (h.2.1.2 k hlt).2 with e | ⟨_, e⟩ <;> omega
      have h6 : ¬ upAt U k ≥ S.length := by simpa [rowsI_length] using h6
      have huk : upOk S.length k (upAt U k) := .inr ⟨by omega, by omega⟩
      refine Look.by _ hro ?_
      refine Seg.by (by kernel_rfl) ?_
      refine Pick.by (fun h2 => ?_) (fun h2 => ?_)
      · have h2 : ¬ (bagAt S k).length ≤ 3 := by simp [ints_length] at h2; omega
        refine ⟨rfl, ?_⟩
        show Sc.b false = Sc.b (bagB n E S U)
        exact bagB_no fun h => h2 (h.2.1.2 k hlt).1.1
      have h2 : (bagAt S k).length ≤ 3 := by simp [ints_length] at h2; omega
      refine Look.by _ hro ?_
      refine LoopP.intro (α := Nat) (fun j => j ≤ (bagAt S k).length ∧ ((bagAt S k).take j).Nodup ∧ ∀ x ∈ (bagAt S k).take j, 0 ≤ x ∧ x < n) (fun j => (bagAt S k).length - j) (fun j => [(2, .ptr 0 0), (3, .ptr 2 0), (6, .sl 3 (some (k, 0)) none), (33, .sl 3 none none), (34, .s (.i .i64 S.length)), (35, .s (.i .i64 k)), (71, .sl 3 (some (k, 0)) none), (72, .s (.i .i64 (bagAt S k).length)), (73, .s (.i .i64 j))])
        (fun j => [(0, some (.blk [.s (.i .i64 n), .sl 1 none none])), (1, some (.flat false 2 (edges E))), (2, some (.blk [.sl 3 none none, .sl 4 none none])), (3, some (.nest false 1 (rowsI S) [] [])), (4, some (.flat false 1 (ints U)))]) 5 0 ⟨by omega, by simp, by simp⟩ (by refine Weak.by [(0, some _), (1, some _), (2, some _), (3, some _), (4, some _)] (by ((repeat' first | exact rfl | exact trivial | refine And.intro ?_ ?_) <;> (repeat' first | exact rfl | exact trivial | refine And.intro ?_ ?_)); all_goals (first | exact sc_eq (by rw [ints_length]) | simp)) (by ((repeat' first | exact rfl | exact trivial | refine And.intro ?_ ?_) <;> (repeat' first | exact rfl | exact trivial | refine And.intro ?_ ?_)); all_goals (first | exact sc_eq (by rw [ints_length]) | simp)) (by rfl)) ?_
      rintro j ⟨hj, hjn, hjr⟩
      refine Pick.by (fun hd => ?_) (fun hd => ?_)
      · have hjl : j < (bagAt S k).length := by simpa using hd
        have hx := ints_get (List.getElem?_eq_getElem hjl)
        have hin := List.getElem_mem hjl
        refine Look.by _ hro ?_
        refine Idx.by j rfl (by rw [ints_length]; exact hjl) ?_
        refine Look.by _ hro ?_
        refine Look.by _ hx ?_
        refine Pick.by (fun h8 => ?_) (fun h8 => ?_)
        · have h8 : (bagAt S k)[j] < 0 := by simpa using h8
          refine ⟨rfl, ?_⟩
          show Sc.b false = Sc.b (bagB n E S U)
          exact bagB_no fun h => by have := (h.2.1.2 k hlt).1.2.2 _ hin; omega
        have h8 : ¬ (bagAt S k)[j] < 0 := by simpa using h8
        refine Pick.by (fun h9 => ?_) (fun h9 => ?_)
        · have h9 : (bagAt S k)[j] ≥ n := by simpa using h9
          refine ⟨rfl, ?_⟩
          show Sc.b false = Sc.b (bagB n E S U)
          exact bagB_no fun h => by have := (h.2.1.2 k hlt).1.2.2 _ hin; omega
        have h9 : ¬ (bagAt S k)[j] ≥ n := by simpa using h9
        refine Look.by _ hro ?_
        refine Rng.by 0 j rfl rfl (by omega) (by rw [ints_length]; omega) ?_
        have hcut : cut (subOf none 0 0 j) (ints (bagAt S k)) = ints ((bagAt S k).take j) := by simp only [subOf, cut, List.drop_zero, Nat.sub_zero, ints, List.map_take]
        have hcc := ContC_at (l := (bagAt S k).take j) (bagAt S k)[j] (by rw [List.length_take]; omega)
        rw [← hcut] at hcc
        refine Look.by _ hro ?_
        refine Call.by _ _ hcc ?_
        have hsp : (bagAt S k).take (j + 1) = (bagAt S k).take j ++ [(bagAt S k)[j]] := List.take_succ_eq_append_getElem hjl
        refine Pick.by (fun h10 => ?_) (fun h10 => ?_)
        · have h10 : ((bagAt S k).take j).elem (bagAt S k)[j] = true := h10
          refine ⟨rfl, ?_⟩
          show Sc.b false = Sc.b (bagB n E S U)
          exact bagB_no fun h => by have hn := ((h.2.1.2 k hlt).1.2.1).sublist (List.take_sublist (j + 1) _); rw [hsp, List.nodup_append] at hn; exact hn.2.2 _ (by simpa using h10) _ (by simp) rfl
        have h10 : ((bagAt S k).take j).elem (bagAt S k)[j] = false := h10
        refine Pick.T (inI64_of (by omega) (by omega)) ?_
        refine Next.by (j + 1) ⟨by omega, by rw [hsp, List.nodup_append]; exact ⟨hjn, by simp, fun a ha b hb e => by simp at hb h10; subst hb; subst e; exact h10 ha⟩, all_take hjl hjr (by omega)⟩ (by omega) (by refine Weak.by [(0, some _), (1, some _), (2, some _), (3, some _), (4, some _)] (by ((repeat' first | exact rfl | exact trivial | refine And.intro ?_ ?_) <;> (repeat' first | exact rfl | exact trivial | refine And.intro ?_ ?_)); all_goals (simp)) (by ((repeat' first | exact rfl | exact trivial | refine And.intro ?_ ?_) <;> (repeat' first | exact rfl | exact trivial | refine And.intro ?_ ?_)); all_goals (simp)) (by rfl))
      · have hjg : (bagAt S k).length ≤ j := by simpa using hd
        rw [List.take_of_length_le hjg] at hjn hjr
        refine Pick.T (inI64_of (by omega) (by omega)) ?_
        refine Next.by (k + 1) ⟨by omega, fun i hi => ?_⟩ (by omega) (by refine Weak.by [(0, some _), (1, some _), (2, some _), (3, some _), (4, some _)] (by ((repeat' first | exact rfl | exact trivial | refine And.intro ?_ ?_) <;> (repeat' first | exact rfl | exact trivial | refine And.intro ?_ ?_))) (by ((repeat' first | exact rfl | exact trivial | refine And.intro ?_ ?_) <;> (repeat' first | exact rfl | exact trivial | refine And.intro ?_ ?_))) (by rfl))
        rcases Nat.lt_or_ge i k with hik | hik
        · exact hall i hik
        · obtain rfl : i = k := by omega
          exact ⟨⟨h2, hjn, hjr⟩, huk⟩
    have h4 : upAt U k = -1 := by simpa using h4
    have huk : upOk S.length k (upAt U k) := .inl h4
    refine Look.by _ hro ?_
    refine Seg.by (by kernel_rfl) ?_
    refine Pick.by (fun h2 => ?_) (fun h2 => ?_)
    · have h2 : ¬ (bagAt S k).length ≤ 3 := by simp [ints_length] at h2; omega
      refine ⟨rfl, ?_⟩
      show Sc.b false = Sc.b (bagB n E S U)
      exact bagB_no fun h => h2 (h.2.1.2 k hlt).1.1
    have h2 : (bagAt S k).length ≤ 3 := by simp [ints_length] at h2; omega
    refine Look.by _ hro ?_
    refine LoopP.intro (α := Nat) (fun j => j ≤ (bagAt S k).length ∧ ((bagAt S k).take j).Nodup ∧ ∀ x ∈ (bagAt S k).take j, 0 ≤ x ∧ x < n) (fun j => (bagAt S k).length - j) (fun j => [(2, .ptr 0 0), (3, .ptr 2 0), (6, .sl 3 (some (k, 0)) none), (33, .sl 3 none none), (34, .s (.i .i64 S.length)), (35, .s (.i .i64 k)), (71, .sl 3 (some (k, 0)) none), (72, .s (.i .i64 (bagAt S k).length)), (73, .s (.i .i64 j))])
      (fun j => [(0, some (.blk [.s (.i .i64 n), .sl 1 none none])), (1, some (.flat false 2 (edges E))), (2, some (.blk [.sl 3 none none, .sl 4 none none])), (3, some (.nest false 1 (rowsI S) [] [])), (4, some (.flat false 1 (ints U)))]) 5 0 ⟨by omega, by simp, by simp⟩ (by refine Weak.by [(0, some _), (1, some _), (2, some _), (3, some _), (4, some _)] (by ((repeat' first | exact rfl | exact trivial | refine And.intro ?_ ?_) <;> (repeat' first | exact rfl | exact trivial | refine And.intro ?_ ?_)); all_goals (first | exact sc_eq (by rw [ints_length]) | simp)) (by ((repeat' first | exact rfl | exact trivial | refine And.intro ?_ ?_) <;> (repeat' first | exact rfl | exact trivial | refine And.intro ?_ ?_)); all_goals (first | exact sc_eq (by rw [ints_length]) | simp)) (by rfl)) ?_
    rintro j ⟨hj, hjn, hjr⟩
    refine Pick.by (fun hd => ?_) (fun hd => ?_)
    · have hjl : j < (bagAt S k).length := by simpa using hd
      have hx := ints_get (List.getElem?_eq_getElem hjl)
      have hin := List.getElem_mem hjl
      refine Look.by _ hro ?_
      refine Idx.by j rfl (by rw [ints_length]; exact hjl) ?_
      refine Look.by _ hro ?_
      refine Look.by _ hx ?_
      refine Pick.by (fun h8 => ?_) (fun h8 => ?_)
      · have h8 : (bagAt S k)[j] < 0 := by simpa using h8
        refine ⟨rfl, ?_⟩
        show Sc.b false = Sc.b (bagB n E S U)
        exact bagB_no fun h => by have := (h.2.1.2 k hlt).1.2.2 _ hin; omega
      have h8 : ¬ (bagAt S k)[j] < 0 := by simpa using h8
      refine Pick.by (fun h9 => ?_) (fun h9 => ?_)
      · have h9 : (bagAt S k)[j] ≥ n := by simpa using h9
        refine ⟨rfl, ?_⟩
        show Sc.b false = Sc.b (bagB n E S U)
        exact bagB_no fun h => by have := (h.2.1.2 k hlt).1.2.2 _ hin; omega
      have h9 : ¬ (bagAt S k)[j] ≥ n := by simpa using h9
      refine Look.by _ hro ?_
      refine Rng.by 0 j rfl rfl (by omega) (by rw [ints_length]; omega) ?_
      have hcut : cut (subOf none 0 0 j) (ints (bagAt S k)) = ints ((bagAt S k).take j) := by simp only [subOf, cut, List.drop_zero, Nat.sub_zero, ints, List.map_take]
      have hcc := ContC_at (l := (bagAt S k).take j) (bagAt S k)[j] (by rw [List.length_take]; omega)
      rw [← hcut] at hcc
      refine Look.by _ hro ?_
      refine Call.by _ _ hcc ?_
      have hsp : (bagAt S k).take (j + 1) = (bagAt S k).take j ++ [(bagAt S k)[j]] := List.take_succ_eq_append_getElem hjl
      refine Pick.by (fun h10 => ?_) (fun h10 => ?_)
      · have h10 : ((bagAt S k).take j).elem (bagAt S k)[j] = true := h10
        refine ⟨rfl, ?_⟩
        show Sc.b false = Sc.b (bagB n E S U)
        exact bagB_no fun h => by have hn := ((h.2.1.2 k hlt).1.2.1).sublist (List.take_sublist (j + 1) _); rw [hsp, List.nodup_append] at hn; exact hn.2.2 _ (by simpa using h10) _ (by simp) rfl
      have h10 : ((bagAt S k).take j).elem (bagAt S k)[j] = false := h10
      refine Pick.T (inI64_of (by omega) (by omega)) ?_
      refine Next.by (j + 1) ⟨by omega, by rw [hsp, List.nodup_append]; exact ⟨hjn, by simp, fun a ha b hb e => by simp at hb h10; subst hb; subst e; exact h10 ha⟩, all_take hjl hjr (by omega)⟩ (by omega) (by refine Weak.by [(0, some _), (1, some _), (2, some _), (3, some _), (4, some _)] (by ((repeat' first | exact rfl | exact trivial | refine And.intro ?_ ?_) <;> (repeat' first | exact rfl | exact trivial | refine And.intro ?_ ?_)); all_goals (simp)) (by ((repeat' first | exact rfl | exact trivial | refine And.intro ?_ ?_) <;> (repeat' first | exact rfl | exact trivial | refine And.intro ?_ ?_)); all_goals (simp)) (by rfl))
    · have hjg : (bagAt S k).length ≤ j := by simpa using hd
      rw [List.take_of_length_le hjg] at hjn hjr
      refine Pick.T (inI64_of (by omega) (by omega)) ?_
      refine Next.by (k + 1) ⟨by omega, fun i hi => ?_⟩ (by omega) (by refine Weak.by [(0, some _), (1, some _), (2, some _), (3, some _), (4, some _)] (by ((repeat' first | exact rfl | exact trivial | refine And.intro ?_ ?_) <;> (repeat' first | exact rfl | exact trivial | refine And.intro ?_ ?_))) (by ((repeat' first | exact rfl | exact trivial | refine And.intro ?_ ?_) <;> (repeat' first | exact rfl | exact trivial | refine And.intro ?_ ?_))) (by rfl))
      rcases Nat.lt_or_ge i k with hik | hik
      · exact hall i hik
      · obtain rfl : i = k := by omega
        exact ⟨⟨h2, hjn, hjr⟩, huk⟩
  have hset : setsP n S U := ⟨hSU, fun i hi => hall i (by have : S.length ≤ k := by simpa using hc
                                                          omega)⟩
  clear hall hc hk
  have hve : ∀ l : List Int, vecR (unvec (ints l)) = ints l := fun l => unvec_map fun i row h => by
    simp only [ints, List.getElem?_map, Option.map_eq_some_iff] at h
    obtain ⟨x, _, rfl⟩ := h; rfl
  have hul : ∀ l : List Int, (unvec (ints l)).length = l.length := fun l => by
    have := congrArg List.length (hve l)
    rw [vecR_length, ints_length] at this; exact this
  refine LoopP.intro (α := Nat) (fun i => i ≤ S.length) (fun i => S.length - i) (fun i => [(1, .ptr 5 0), (2, .ptr 6 0), (3, .ptr 7 0), (9, .sl 3 none none), (10, .s (.i .i64 S.length)), (11, .s (.i .i64 i)), (1000002, .ptr 0 0), (1000003, .ptr 2 0)])
    (fun i => [(0, some (.blk [.s (.i .i64 n), .sl 1 none none])), (1, some (.flat false 2 (edges E))), (2, some (.blk [.sl 3 none none, .sl 4 none none])), (3, some (.nest false 1 (rowsI S) [] [])), (4, some (.flat false 1 (ints U))), (5, some (.blk [.sl 3 none none, .sl 4 none none])), (6, some (.flat true 1 (ints (List.replicate 1000 0)))), (7, some (.flat true 1 (ints (hdL S U i 0))))]) 8 0 (by omega) (by refine Weak.by [(0, some _), (1, some _), (2, some _), (3, some _), (4, some _), (5, some _), (6, some _), (7, some _)] (by ((repeat' first | exact rfl | exact trivial | refine And.intro ?_ ?_) <;> (repeat' first | exact rfl | exact trivial | refine And.intro ?_ ?_)); all_goals (first | exact sc_eq (by rw [rowsI_length]) | (unfold ints; rw [List.map_replicate]; done) | (rw [hdL_zero]; unfold ints; rw [List.map_replicate]; done))) (by ((repeat' first | exact rfl | exact trivial | refine And.intro ?_ ?_) <;> (repeat' first | exact rfl | exact trivial | refine And.intro ?_ ?_)); all_goals (first | exact sc_eq (by rw [rowsI_length]) | (unfold ints; rw [List.map_replicate]; done) | (rw [hdL_zero]; unfold ints; rw [List.map_replicate]; done))) (by rfl)) ?_
  rintro i hi
  refine Pick.by (fun hc => ?_) (fun hc => ?_)
  · have hlt : i < S.length := by simpa using hc
    have hro := rowsI_get (bagAt_get hlt)
    have hup := ints_get (upAt_get (U := U) (i := i) (by omega))
    have hlr := hSr _ (bagAt_mem hlt)
    obtain ⟨⟨r1, r2, r3⟩, hupo⟩ := hset.2 i hlt
    refine Idx.by i rfl (by rw [rowsI_length]; exact hlt) ?_
    refine Pick.T (by rw [rowsI_length]; simpa using hlt) ?_
    refine Look.by _ hro ?_
    refine LoopP.intro (α := Nat) (fun j => j ≤ (bagAt S i).length) (fun j => (bagAt S i).length - j) (fun j => [(1, .ptr 5 0), (2, .ptr 6 0), (3, .ptr 7 0), (4, .s (.i .i64 i)), (9, .sl 3 none none), (10, .s (.i .i64 S.length)), (11, .s (.i .i64 i)), (16, .sl 3 (some (i, 0)) none), (17, .s (.i .i64 (bagAt S i).length)), (18, .s (.i .i64 j)), (1000002, .ptr 0 0), (1000003, .ptr 2 0)])
      (fun j => [(0, some (.blk [.s (.i .i64 n), .sl 1 none none])), (1, some (.flat false 2 (edges E))), (2, some (.blk [.sl 3 none none, .sl 4 none none])), (3, some (.nest false 1 (rowsI S) [] [])), (4, some (.flat false 1 (ints U))), (5, some (.blk [.sl 3 none none, .sl 4 none none])), (6, some (.flat true 1 (ints (List.replicate 1000 0)))), (7, some (.flat true 1 (ints (hdL S U i j))))]) 8 0 (by omega) (by refine Weak.by [(0, some _), (1, some _), (2, some _), (3, some _), (4, some _), (5, some _), (6, some _), (7, some _)] (by ((repeat' first | exact rfl | exact trivial | refine And.intro ?_ ?_) <;> (repeat' first | exact rfl | exact trivial | refine And.intro ?_ ?_)); all_goals (first | exact sc_eq (by rw [ints_length]) | simp)) (by ((repeat' first | exact rfl | exact trivial | refine And.intro ?_ ?_) <;> (repeat' first | exact rfl | exact trivial | refine And.intro ?_ ?_)); all_goals (first | exact sc_eq (by rw [ints_length]) | simp)) (by rfl)) ?_
    rintro j hj
    refine Pick.by (fun hd => ?_) (fun hd => ?_)
    · have hjl : j < (bagAt S i).length := by simpa using hd
      have hx := ints_get (List.getElem?_eq_getElem hjl)
      have hxr := r3 _ (List.getElem_mem hjl)
      obtain ⟨x, hxe⟩ : ∃ x : Nat, (bagAt S i)[j] = x := ⟨(bagAt S i)[j].toNat, by omega⟩
      rw [hxe] at hx hxr
      have hx1 : x < 1000 := by omega
      have hst := hdL_step (U := U) hjl hxe hx1 r2
      have hle := hdK_le S U i j x
      have hg := ints_get (hdL_get S U i j hx1)
      have hgl : (ints (hdL S U i j)).length = 1000 := by rw [ints_length, hdL_length]
      refine Look.by _ hro ?_
      refine Idx.by j rfl (by rw [ints_length]; exact hjl) ?_
      refine Look.by _ hro ?_
      refine Look.by _ hx ?_
      refine Idx.by i rfl (by rw [ints_length]; omega) ?_
      refine Look.by _ hup ?_
      refine Pick.by (fun h4 => ?_) (fun h4 => ?_)
      · have h4 : upAt U i < 0 := by simpa using h4
        have hh : headB S U i x = true := by unfold headB; rw [decide_eq_true h4, ← hxe]; simp
        rw [if_pos hh] at hst
        refine Seg.by (by kernel_rfl) ?_
        refine Idx.by x rfl (by omega) ?_
        refine Look.by _ hg ?_
        refine Pick.T (inI64_of (by omega) (by omega)) ?_
        refine Idx.by x rfl (by omega) ?_
        refine Look.by _ hg ?_
        refine Pick.T (inI64_of (by omega) (by omega)) ?_
        refine Next.by (j + 1) (by omega) (by omega) (by refine Weak.by [(0, some _), (1, some _), (2, some _), (3, some _), (4, some _), (5, some _), (6, some _), (7, some _)] (by ((repeat' first | exact rfl | exact trivial | refine And.intro ?_ ?_) <;> (repeat' first | exact rfl | exact trivial | refine And.intro ?_ ?_)); all_goals (first | (rw [hst, ints_set]; rfl) | simp)) (by ((repeat' first | exact rfl | exact trivial | refine And.intro ?_ ?_) <;> (repeat' first | exact rfl | exact trivial | refine And.intro ?_ ?_)); all_goals (first | (rw [hst, ints_set]; rfl) | simp)) (by rfl))
      have h4 : ¬ upAt U i < 0 := by simpa using h4
      have hlt2 : (upAt U i).toNat < S.length := by rcases hupo with e | ⟨_, e⟩ <;> omega
      have hlr2 := hSr _ (bagAt_mem hlt2)
      refine Idx.by i rfl (by rw [ints_length]; omega) ?_
      refine Look.by _ hup ?_
      refine Idx.by (upAt U i).toNat (by omega) (by rw [rowsI_length]; omega) ?_
      refine Pick.T (by rw [rowsI_length]; simp; omega) ?_
      refine Look.by _ (rowsI_get (bagAt_get hlt2)) ?_
      refine Call.by _ _ (ContC_at (x : Int) (by omega)) ?_
      refine Seg.by (by kernel_rfl) ?_
      have hh : headB S U i x = !(bagAt S (upAt U i).toNat).elem (x : Int) := by
        unfold headB
        rw [decide_eq_false h4, show (bagAt S i).elem (x : Int) = true by rw [← hxe]; simp, Bool.true_and, Bool.false_or]
      refine Pick.by (fun h5 => ?_) (fun h5 => ?_)
      · have h5 : (!(bagAt S (upAt U i).toNat).elem (x : Int)) = true := h5
        rw [if_pos (by rw [hh]; exact h5)] at hst
        refine Idx.by x rfl (by omega) ?_
        refine Look.by _ hg ?_
        refine Pick.T (inI64_of (by omega) (by omega)) ?_
        refine Idx.by x rfl (by omega) ?_
        refine Look.by _ hg ?_
        refine Pick.T (inI64_of (by omega) (by omega)) ?_
        refine Next.by (j + 1) (by omega) (by omega) (by refine Weak.by [(0, some _), (1, some _), (2, some _), (3, some _), (4, some _), (5, some _), (6, some _), (7, some _)] (by ((repeat' first | exact rfl | exact trivial | refine And.intro ?_ ?_) <;> (repeat' first | exact rfl | exact trivial | refine And.intro ?_ ?_)); all_goals (first | (rw [hst, ints_set]; rfl) | simp)) (by ((repeat' first | exact rfl | exact trivial | refine And.intro ?_ ?_) <;> (repeat' first | exact rfl | exact trivial | refine And.intro ?_ ?_)); all_goals (first | (rw [hst, ints_set]; rfl) | simp)) (by rfl))
      have h5 : (!(bagAt S (upAt U i).toNat).elem (x : Int)) = false := h5
      rw [if_neg (by rw [hh, h5]; decide)] at hst
      refine Pick.T (inI64_of (by omega) (by omega)) ?_
      refine Next.by (j + 1) (by omega) (by omega) (by refine Weak.by [(0, some _), (1, some _), (2, some _), (3, some _), (4, some _), (5, some _), (6, some _), (7, some _)] (by ((repeat' first | exact rfl | exact trivial | refine And.intro ?_ ?_) <;> (repeat' first | exact rfl | exact trivial | refine And.intro ?_ ?_)); all_goals (first | (rw [hst]; done) | simp)) (by ((repeat' first | exact rfl | exact trivial | refine And.intro ?_ ?_) <;> (repeat' first | exact rfl | exact trivial | refine And.intro ?_ ?_)); all_goals (first | (rw [hst]; done) | simp)) (by rfl))
    · have hjg : (bagAt S i).length ≤ j := by simpa using hd
      refine Pick.T (inI64_of (by omega) (by omega)) ?_
      refine Next.by (i + 1) (by omega) (by omega) (by refine Weak.by [(0, some _), (1, some _), (2, some _), (3, some _), (4, some _), (5, some _), (6, some _), (7, some _)] (by ((repeat' first | exact rfl | exact trivial | refine And.intro ?_ ?_) <;> (repeat' first | exact rfl | exact trivial | refine And.intro ?_ ?_)); all_goals ((rw [hdL_next hjg]))) (by ((repeat' first | exact rfl | exact trivial | refine And.intro ?_ ?_) <;> (repeat' first | exact rfl | exact trivial | refine And.intro ?_ ?_)); all_goals ((rw [hdL_next hjg]))) (by rfl))
  have hie : i = S.length := by have : S.length ≤ i := by simpa using hc
                                omega
  subst hie
  refine ⟨by rw [vecR_length, hul, hdL_length], ?_⟩
  obtain ⟨L, hL⟩ : ∃ L, hdL S U S.length 0 = L := ⟨_, rfl⟩
  have hLl : L.length = 1000 := by rw [← hL, hdL_length]
  have hLg : ∀ v : Nat, v < 1000 → (ints L)[v]? = some [.i .i64 (cntH S U v : Int)] := fun v hv => by rw [← hL]; exact ints_get (hdL_end S U hv)
  rw [hL]
  refine Pick.T (by rw [List.length_replicate, hve, hul, hLl]; rfl) ?_
  refine LoopP.intro (α := Nat) (fun k => k ≤ n.toNat ∧ ∀ v : Nat, v < k → cntH S U v = 1) (fun k => n.toNat - k) (fun k => [(2, .ptr 0 0), (3, .ptr 2 0), (9, .ptr 5 0), (98, .s (.i .i64 n)), (99, .s (.i .i64 k))])
    (fun k => [(0, some (.blk [.s (.i .i64 n), .sl 1 none none])), (1, some (.flat false 2 (edges E))), (2, some (.blk [.sl 3 none none, .sl 4 none none])), (3, some (.nest false 1 (rowsI S) [] [])), (4, some (.flat false 1 (ints U))), (5, some (.flat true 1 (ints L)))]) 6 0 ⟨by omega, fun v h => by omega⟩ (by refine Weak.by [(0, some _), (1, some _), (2, some _), (3, some _), (4, some _), (5, some _)] (by ((repeat' first | exact rfl | exact trivial | refine And.intro ?_ ?_) <;> (repeat' first | exact rfl | exact trivial | refine And.intro ?_ ?_)); all_goals ((rw [hve, hve]))) (by ((repeat' first | exact rfl | exact trivial | refine And.intro ?_ ?_) <;> (repeat' first | exact rfl | exact trivial | refine And.intro ?_ ?_)); all_goals ((rw [hve, hve]))) (by rfl)) ?_
  rintro k ⟨hk, hcv⟩
  refine Pick.by (fun hc => ?_) (fun hc => ?_)
  · have hlt : k < n.toNat := by simp at hc; omega
    refine Idx.by k rfl (by omega) ?_
    refine Look.by _ (hLg k (by omega)) ?_
    refine Pick.by (fun h3 => ?_) (fun h3 => ?_)
    · have h3 : ¬ cntH S U k = 1 := by simp at h3; omega
      refine ⟨rfl, ?_⟩
      show Sc.b false = Sc.b (bagB n E S U)
      exact bagB_no fun h => h3 (h.2.2.1 k (by omega))
    have h3 : cntH S U k = 1 := by simp at h3; omega
    refine Pick.T (inI64_of (by omega) (by omega)) ?_
    refine Next.by (k + 1) ⟨by omega, fun v hv => ?_⟩ (by omega) (by refine Weak.by [(0, some _), (1, some _), (2, some _), (3, some _), (4, some _), (5, some _)] (by ((repeat' first | exact rfl | exact trivial | refine And.intro ?_ ?_) <;> (repeat' first | exact rfl | exact trivial | refine And.intro ?_ ?_))) (by ((repeat' first | exact rfl | exact trivial | refine And.intro ?_ ?_) <;> (repeat' first | exact rfl | exact trivial | refine And.intro ?_ ?_))) (by rfl))
    rcases Nat.lt_or_ge v k with h | h
    · exact hcv v h
    · obtain rfl : v = k := by omega
      exact h3
  have hcv : ∀ v : Nat, (v : Int) < n → cntH S U v = 1 := fun v hv => hcv v (by simp at hc; omega)
  refine LoopP.intro (α := Nat × List (List Int × Int)) (fun a => a.1 ≤ S.length ∧ MapI a.2 (fun x y => ∃ l ∈ S.take a.1, x ∈ l ∧ y ∈ l ∧ x < y)) (fun a => S.length - a.1) (fun a => [(2, .ptr 0 0), (3, .ptr 2 0), (11, .mp 5), (109, .sl 3 none none), (110, .s (.i .i64 S.length)), (111, .s (.i .i64 a.1))])
    (fun a => [(0, some (.blk [.s (.i .i64 n), .sl 1 none none])), (1, some (.flat false 2 (edges E))), (2, some (.blk [.sl 3 none none, .sl 4 none none])), (3, some (.nest false 1 (rowsI S) [] [])), (4, some (.flat false 1 (ints U))), (5, some (.map true 2 a.2))]) 6 (0, []) ⟨by simp, fun a b => by simp [mapGet]⟩ (by refine Weak.by [(0, some _), (1, some _), (2, some _), (3, some _), (4, some _), (5, some _)] (by ((repeat' first | exact rfl | exact trivial | refine And.intro ?_ ?_) <;> (repeat' first | exact rfl | exact trivial | refine And.intro ?_ ?_)); all_goals (exact sc_eq (by rw [rowsI_length]))) (by ((repeat' first | exact rfl | exact trivial | refine And.intro ?_ ?_) <;> (repeat' first | exact rfl | exact trivial | refine And.intro ?_ ?_)); all_goals (exact sc_eq (by rw [rowsI_length]))) (by rfl)) ?_
  rintro ⟨i, m⟩ ⟨hi, hM⟩
  dsimp only at hi hM ⊢
  refine Pick.by (fun hc => ?_) (fun hc => ?_)
  · have hlt : i < S.length := by simpa using hc
    have hro := rowsI_get (bagAt_get hlt)
    have hlr := hSr _ (bagAt_mem hlt)
    obtain ⟨⟨r1, r2, r3⟩, hupo⟩ := hset.2 i hlt
    have htk : S.take (i + 1) = S.take i ++ [bagAt S i] := by
      rw [List.take_succ_eq_append_getElem hlt]
      have := bagAt_get hlt
      rw [List.getElem?_eq_getElem hlt] at this
      injection this with this
      rw [this]
    refine Idx.by i rfl (by rw [rowsI_length]; exact hlt) ?_
    refine Pick.T (by rw [rowsI_length]; simpa using hlt) ?_
    refine Look.by _ hro ?_
    refine LoopP.intro (α := Nat × List (List Int × Int)) (fun a => a.1 ≤ (bagAt S i).length ∧ MapI a.2 (fun x y => (∃ l ∈ S.take i, x ∈ l ∧ y ∈ l ∧ x < y) ∨ (x ∈ (bagAt S i).take a.1 ∧ y ∈ bagAt S i ∧ x < y))) (fun a => (bagAt S i).length - a.1) (fun a => [(2, .ptr 0 0), (3, .ptr 2 0), (11, .mp 5), (13, .sl 3 (some (i, 0)) none), (109, .sl 3 none none), (110, .s (.i .i64 S.length)), (111, .s (.i .i64 i)), (115, .sl 3 (some (i, 0)) none), (116, .s (.i .i64 (bagAt S i).length)), (117, .s (.i .i64 a.1))])
      (fun a => [(0, some (.blk [.s (.i .i64 n), .sl 1 none none])), (1, some (.flat false 2 (edges E))), (2, some (.blk [.sl 3 none none, .sl 4 none none])), (3, some (.nest false 1 (rowsI S) [] [])), (4, some (.flat false 1 (ints U))), (5, some (.map true 2 a.2))]) 6 (0, m) ⟨by simp, hM.same fun a b => by simp⟩ (by refine Weak.by [(0, some _), (1, some _), (2, some _), (3, some _), (4, some _), (5, some _)] (by ((repeat' first | exact rfl | exact trivial | refine And.intro ?_ ?_) <;> (repeat' first | exact rfl | exact trivial | refine And.intro ?_ ?_)); all_goals (first | exact sc_eq (by rw [ints_length]) | simp)) (by ((repeat' first | exact rfl | exact trivial | refine And.intro ?_ ?_) <;> (repeat' first | exact rfl | exact trivial | refine And.intro ?_ ?_)); all_goals (first | exact sc_eq (by rw [ints_length]) | simp)) (by rfl)) ?_
    rintro ⟨j, m⟩ ⟨hj, hM⟩
    dsimp only at hj hM ⊢
    refine Pick.by (fun hd => ?_) (fun hd => ?_)
    · have hjl : j < (bagAt S i).length := by simpa using hd
      have hx := ints_get (List.getElem?_eq_getElem hjl)
      have hxr := r3 _ (List.getElem_mem hjl)
      have htj : (bagAt S i).take (j + 1) = (bagAt S i).take j ++ [(bagAt S i)[j]] := List.take_succ_eq_append_getElem hjl
      refine Look.by _ hro ?_
      refine Idx.by j rfl (by rw [ints_length]; exact hjl) ?_
      refine Look.by _ hro ?_
      refine Look.by _ hx ?_
      refine Look.by _ hro ?_
      refine LoopP.intro (α := Nat × List (List Int × Int)) (fun a => a.1 ≤ (bagAt S i).length ∧ MapI a.2 (fun x y => ((∃ l ∈ S.take i, x ∈ l ∧ y ∈ l ∧ x < y) ∨ (x ∈ (bagAt S i).take j ∧ y ∈ bagAt S i ∧ x < y)) ∨ (x = (bagAt S i)[j] ∧ y ∈ (bagAt S i).take a.1 ∧ x < y))) (fun a => (bagAt S i).length - a.1) (fun a => [(2, .ptr 0 0), (3, .ptr 2 0), (11, .mp 5), (13, .sl 3 (some (i, 0)) none), (15, .s (.i .i64 (bagAt S i)[j])), (109, .sl 3 none none), (110, .s (.i .i64 S.length)), (111, .s (.i .i64 i)), (115, .sl 3 (some (i, 0)) none), (116, .s (.i .i64 (bagAt S i).length)), (117, .s (.i .i64 j)), (121, .sl 3 (some (i, 0)) none), (122, .s (.i .i64 (bagAt S i).length)), (123, .s (.i .i64 a.1))])
        (fun a => [(0, some (.blk [.s (.i .i64 n), .sl 1 none none])), (1, some (.flat false 2 (edges E))), (2, some (.blk [.sl 3 none none, .sl 4 none none])), (3, some (.nest false 1 (rowsI S) [] [])), (4, some (.flat false 1 (ints U))), (5, some (.map true 2 a.2))]) 6 (0, m) ⟨by simp, hM.same fun a b => by simp⟩ (by refine Weak.by [(0, some _), (1, some _), (2, some _), (3, some _), (4, some _), (5, some _)] (by ((repeat' first | exact rfl | exact trivial | refine And.intro ?_ ?_) <;> (repeat' first | exact rfl | exact trivial | refine And.intro ?_ ?_)); all_goals (first | exact sc_eq (by rw [ints_length]) | simp)) (by ((repeat' first | exact rfl | exact trivial | refine And.intro ?_ ?_) <;> (repeat' first | exact rfl | exact trivial | refine And.intro ?_ ?_)); all_goals (first | exact sc_eq (by rw [ints_length]) | simp)) (by rfl)) ?_
      rintro ⟨q, m⟩ ⟨hq, hM⟩
      dsimp only at hq hM ⊢
      refine Pick.by (fun he => ?_) (fun he => ?_)
      · have hql : q < (bagAt S i).length := by simpa using he
        have hy := ints_get (List.getElem?_eq_getElem hql)
        have hyr := r3 _ (List.getElem_mem hql)
        have htq : (bagAt S i).take (q + 1) = (bagAt S i).take q ++ [(bagAt S i)[q]] := List.take_succ_eq_append_getElem hql
        refine Look.by _ hro ?_
        refine Idx.by q rfl (by rw [ints_length]; exact hql) ?_
        refine Look.by _ hro ?_
        refine Look.by _ hy ?_
        refine Pick.by (fun h4 => ?_) (fun h4 => ?_)
        · have h4 : (bagAt S i)[j] < (bagAt S i)[q] := by simpa using h4
          refine Pick.T (inI64_of (by omega) (by omega)) ?_
          refine Pick.T (inI64_of (by omega) (by omega)) ?_
          refine Pick.T (inI64_of (by omega) (by omega)) ?_
          refine Next.by (q + 1, mapPut m [(bagAt S i)[j], (bagAt S i)[q]] 1) ⟨by dsimp only; omega, hM.put fun a b => by
            dsimp only
            rw [htq]
            simp only [List.mem_append, List.mem_singleton]
            constructor
            · rintro (h | ⟨h1, h2 | h2, h3⟩)
              · exact .inl (.inl h)
              · exact .inl (.inr ⟨h1, h2, h3⟩)
              · exact .inr ⟨h1, h2⟩
            · rintro ((h | h) | ⟨h1, h2⟩)
              · exact .inl h
              · exact .inr ⟨h.1, .inl h.2.1, h.2.2⟩
              · exact .inr ⟨h1, .inr h2, by rw [h1, h2]; exact h4⟩⟩ (by dsimp only; omega) (by refine Weak.by [(0, some _), (1, some _), (2, some _), (3, some _), (4, some _), (5, some _)] (by ((repeat' first | exact rfl | exact trivial | refine And.intro ?_ ?_) <;> (repeat' first | exact rfl | exact trivial | refine And.intro ?_ ?_)); all_goals (simp)) (by ((repeat' first | exact rfl | exact trivial | refine And.intro ?_ ?_) <;> (repeat' first | exact rfl | exact trivial | refine And.intro ?_ ?_)); all_goals (simp)) (by rfl))
        · have h4 : ¬ (bagAt S i)[j] < (bagAt S i)[q] := by simpa using h4
          refine Pick.T (inI64_of (by omega) (by omega)) ?_
          refine Next.by (q + 1, m) ⟨by dsimp only; omega, hM.same fun a b => by
            dsimp only
            rw [htq]
            simp only [List.mem_append, List.mem_singleton]
            constructor
            · rintro (h | ⟨h1, h2 | h2, h3⟩)
              · exact .inl h
              · exact .inr ⟨h1, h2, h3⟩
              · rw [h1, h2] at h3; exact absurd h3 h4
            · rintro (h | h)
              · exact .inl h
              · exact .inr ⟨h.1, .inl h.2.1, h.2.2⟩⟩ (by dsimp only; omega) (by refine Weak.by [(0, some _), (1, some _), (2, some _), (3, some _), (4, some _), (5, some _)] (by ((repeat' first | exact rfl | exact trivial | refine And.intro ?_ ?_) <;> (repeat' first | exact rfl | exact trivial | refine And.intro ?_ ?_)); all_goals (simp)) (by ((repeat' first | exact rfl | exact trivial | refine And.intro ?_ ?_) <;> (repeat' first | exact rfl | exact trivial | refine And.intro ?_ ?_)); all_goals (simp)) (by rfl))
      · have hqg : (bagAt S i).length ≤ q := by simpa using he
        rw [List.take_of_length_le hqg] at hM
        refine Pick.T (inI64_of (by omega) (by omega)) ?_
        refine Next.by (j + 1, m) ⟨by dsimp only; omega, hM.same fun a b => by
          dsimp only
          rw [htj]
          simp only [List.mem_append, List.mem_singleton]
          constructor
          · rintro (h | ⟨h1 | h1, h2, h3⟩)
            · exact .inl (.inl h)
            · exact .inl (.inr ⟨h1, h2, h3⟩)
            · exact .inr ⟨h1, h2, h3⟩
          · rintro ((h | h) | h)
            · exact .inl h
            · exact .inr ⟨.inl h.1, h.2⟩
            · exact .inr ⟨.inr h.1, h.2⟩⟩ (by dsimp only; omega) (by refine Weak.by [(0, some _), (1, some _), (2, some _), (3, some _), (4, some _), (5, some _)] (by ((repeat' first | exact rfl | exact trivial | refine And.intro ?_ ?_) <;> (repeat' first | exact rfl | exact trivial | refine And.intro ?_ ?_)); all_goals (simp)) (by ((repeat' first | exact rfl | exact trivial | refine And.intro ?_ ?_) <;> (repeat' first | exact rfl | exact trivial | refine And.intro ?_ ?_)); all_goals (simp)) (by rfl))
    · have hjg : (bagAt S i).length ≤ j := by simpa using hd
      rw [List.take_of_length_le hjg] at hM
      refine Pick.T (inI64_of (by omega) (by omega)) ?_
      refine Next.by (i + 1, m) ⟨by dsimp only; omega, hM.same fun a b => by
        dsimp only
        rw [htk]
        simp only [List.mem_append, List.mem_singleton]
        constructor
        · rintro ⟨l, h1 | h1, h2⟩
          · exact .inl ⟨l, h1, h2⟩
          · rw [h1] at h2; exact .inr h2
        · rintro (⟨l, h1, h2⟩ | h)
          · exact ⟨l, .inl h1, h2⟩
          · exact ⟨_, .inr rfl, h⟩⟩ (by dsimp only; omega) (by refine Weak.by [(0, some _), (1, some _), (2, some _), (3, some _), (4, some _), (5, some _)] (by ((repeat' first | exact rfl | exact trivial | refine And.intro ?_ ?_) <;> (repeat' first | exact rfl | exact trivial | refine And.intro ?_ ?_))) (by ((repeat' first | exact rfl | exact trivial | refine And.intro ?_ ?_) <;> (repeat' first | exact rfl | exact trivial | refine And.intro ?_ ?_))) (by rfl))
  have hie : i = S.length := by have : S.length ≤ i := by simpa using hc
                                omega
  rw [hie, List.take_length] at hM
  have hmt : ∀ p ∈ E, mapGet m [p.1, p.2] ≠ 0 ↔ metB S p.1 p.2 = true := fun p hp => by
    rw [hM]
    have hok := h1.2.2.2.1 p hp
    unfold metB
    rw [List.any_eq_true]
    constructor
    · rintro ⟨l, hl, ha, hb, _⟩
      exact ⟨l, hl, by simp [ha, hb]⟩
    · rintro ⟨l, hl, hab⟩
      rw [Bool.and_eq_true] at hab
      exact ⟨l, hl, by simpa using hab.1, by simpa using hab.2, hok.2.1⟩
  refine LoopP.intro (α := Nat) (fun q => q ≤ E.length ∧ ∀ p ∈ E.take q, metB S p.1 p.2 = true) (fun q => E.length - q) (fun q => [(11, .mp 1), (138, .sl 0 none none), (139, .s (.i .i64 E.length)), (140, .s (.i .i64 q))])
    (fun q => [(0, some (.flat false 2 (edges E))), (1, some (.map true 2 m))]) 2 0 ⟨by simp, by simp⟩ (by refine Weak.by [(0, some _), (1, some _)] (by ((repeat' first | exact rfl | exact trivial | refine And.intro ?_ ?_) <;> (repeat' first | exact rfl | exact trivial | refine And.intro ?_ ?_)); all_goals (exact sc_eq (by rw [edges_length]))) (by ((repeat' first | exact rfl | exact trivial | refine And.intro ?_ ?_) <;> (repeat' first | exact rfl | exact trivial | refine And.intro ?_ ?_)); all_goals (exact sc_eq (by rw [edges_length]))) (by rfl)) ?_
  rintro q ⟨hq, hall⟩
  refine Pick.by (fun hd => ?_) (fun hd => ?_)
  · have hlt : q < E.length := by simpa using hd
    have hmem := List.getElem_mem hlt
    have hok := h1.2.2.2.1 _ hmem
    refine Idx.by q rfl (by rw [edges_length]; exact hlt) ?_
    refine Look.by _ (edges_get (List.getElem?_eq_getElem hlt)) ?_
    refine Pick.T (inI64_of (by have := hok.1; omega) (by have := hok.2; omega)) ?_
    refine Pick.T (inI64_of (by have := hok.1; have := hok.2; omega) (by have := hok.2; omega)) ?_
    have hm1 := hmt _ hmem
    refine Pick.by (fun h4 => ?_) (fun h4 => ?_)
    · have h4 : mapGet m [E[q].1, E[q].2] = 0 := by simpa using h4
      refine ⟨rfl, ?_⟩
      show Sc.b false = Sc.b (bagB n E S U)
      exact bagB_no fun h => (hm1.2 (h.2.2.2 _ hmem)) h4
    have h4 : mapGet m [E[q].1, E[q].2] ≠ 0 := by simpa using h4
    refine Pick.T (inI64_of (by omega) (by omega)) ?_
    refine Next.by (q + 1) ⟨by omega, all_take hlt hall (hm1.1 h4)⟩ (by omega) (by refine Weak.by [(0, some _), (1, some _)] (by ((repeat' first | exact rfl | exact trivial | refine And.intro ?_ ?_) <;> (repeat' first | exact rfl | exact trivial | refine And.intro ?_ ?_))) (by ((repeat' first | exact rfl | exact trivial | refine And.intro ?_ ?_) <;> (repeat' first | exact rfl | exact trivial | refine And.intro ?_ ?_))) (by rfl))
  · have hge : E.length ≤ q := by simpa using hd
    rw [List.take_of_length_le hge] at hall
    refine ⟨rfl, ?_⟩
    show Sc.b true = Sc.b (bagB n E S U)
    rw [bagB_iff.2 ⟨h1, hset, hcv, hall⟩]
end Go.Sh

set_option linter.unusedVariables false
set_option linter.unusedSimpArgs false
namespace Go.Sh
open Go.Proofs
/-! ### carcanetlaw08.MinorCheck, MinorNone -/
end Go.Sh

set_option linter.unusedVariables false
set_option linter.unusedSimpArgs false
namespace Go.Sh
open Go.Proofs
/-! ### carcanetref12.Same -/
abbrev Bg := List (List Int) × List Int
noncomputable def Same12C : Con := conP 2 (fun a : Bg × Bg => (small a.1.1 ∧ a.1.2.length ≤ 1000000) ∧ small a.2.1 ∧ a.2.2.length ≤ 1000000) (fun a => [bgV false a.1.1 a.1.2, bgV false a.2.1 a.2.2]) (fun a => .one (.s (.b (decide (a.1 = a.2)))))
theorem Same12C_at {a b : Bg} (h : (small a.1 ∧ a.2.length ≤ 1000000) ∧ small b.1 ∧ b.2.length ≤ 1000000) : Same12C.F [bgV false a.1 a.2, bgV false b.1 b.2] = some (.one (.s (.b (decide (a = b)))), []) :=
  conP_at (a := (a, b)) (fun x y _ _ h => by
    obtain ⟨⟨a, b⟩, c, d⟩ := x
    obtain ⟨⟨a', b'⟩, c', d'⟩ := y
    simp at h
    obtain ⟨h1, h2⟩ := h
    obtain ⟨rfl, rfl⟩ := bgV_inj h1
    obtain ⟨rfl, rfl⟩ := bgV_inj h2
    rfl) h
theorem Same12_ok : SoundC Try.prog T 19 Same12C := by
  refine sound_con (X := { Γ := [(44, SameRowsC), (45, SameC)], T := T, nt := 17 }) cr_none hmix hT (sound_cons SameRows_ok (sound_cons Same_ok sound_nil)) Try.func19 (by rfl) (by rfl) (by rfl) (by rfl) 4 ?_
  rintro ⟨⟨S, U⟩, S', U'⟩ ⟨⟨h1, h2⟩, h3, h4⟩
  dsimp only at h1 h2 h3 h4 ⊢
  refine ⟨⟨Nat.le_of_ble_eq_true rfl, Nat.le_of_ble_eq_true rfl⟩, ?_⟩
  refine Call.by _ _ (SameRowsC_at h1 h3) ?_
  refine Pick.by (fun g1 => ?_) (fun g1 => ?_)
  · have g1 : decide (S = S') = true := g1
    refine Call.by _ _ (SameC_at U U' (by omega) (by omega)) ?_
    refine ⟨rfl, ?_⟩
    show Sc.b (decide (U = U')) = Sc.b (decide ((S, U) = (S', U')))
    congr 1
    rw [Bool.eq_iff_iff]
    have : S = S' := by simpa using g1
    simp [this]
  · have g1 : decide (S = S') = false := g1
    refine ⟨rfl, ?_⟩
    show Sc.b false = Sc.b (decide ((S, U) = (S', U')))
    rw [decide_eq_false fun e => by injection e with e; simp [e] at g1]
/-! ### carcanetlaw12.small -/
/-! ### carcanetlaw12.shown -/
def BS4 : List (List Int) := [[0, 1, 3], [1, 2, 3], [2, 3], [3]]
def BU4 : List Int := [1, 2, 3, -1]
theorem bags_E4 : bagsO 4 E4 = ((BS4, BU4), 0) := by
  unfold bagsO
  rw [if_pos RE4, run_E4, if_pos rfl]
  have h : ∀ (s : Stp) (l : List Int), ([s.1, s.2.1, s.2.2.1].filter fun x => decide (x ≥ 0)) = l → l.Pairwise (· < ·) → bagOf s = l := fun s l h1 h2 => by
    unfold bagOf riseL; rw [h1, sortI_id h2]
  refine Prod.ext (Prod.ext ?_ (by decide +kernel)) rfl
  show [bagOf _, bagOf _, bagOf _, bagOf _] = BS4
  rw [h _ [0, 1, 3] (by decide) (by decide), h _ [1, 2, 3] (by decide) (by decide), h _ [2, 3] (by decide) (by decide), h _ [3] (by decide) (by decide)]; rfl
theorem bags_K4 : bagsO 4 K4E = (([], []), 6) := by
  unfold bagsO
  rw [if_pos RK4, run_K4, if_neg (by simp)]
theorem bagP_E4 : BagP 4 E4 BS4 BU4 := by
  refine ⟨RE4, ⟨rfl, ?_⟩, ?_, ?_⟩
  · unfold rowOk upOk; decide
  · intro v hv
    have : v = 0 ∨ v = 1 ∨ v = 2 ∨ v = 3 := by omega
    rcases this with rfl | rfl | rfl | rfl <;> decide
  · decide
theorem bagP_nil : ¬ BagP 4 E4 [] [] := fun h => absurd (h.2.2.1 0 (by decide)) (by decide)
noncomputable def Shown12C : Con := conP 0 (fun _ : Unit => True) (fun _ => []) (fun _ => .one (.s (.b true)))
theorem Shown12C_at : Shown12C.F [] = some (.one (.s (.b true)), []) := conP_at (a := ()) (fun a b _ _ h => rfl) trivial
set_option maxRecDepth 100000 in
set_option maxHeartbeats 1000000 in
theorem Shown12_ok : SoundC Try.prog T 15 Shown12C := by
  refine sound_con (X := { Γ := [(17, OfBC), (21, BChkC)], T := T, nt := 89 }) cr_none hmix hT (sound_cons OfB_ok (sound_cons BChk_ok sound_nil)) Try.func15 (by rfl) (by rfl) (by rfl) (by rfl) 0 ?_
  rintro ⟨⟩ -
  refine ⟨⟨Nat.le_of_ble_eq_true rfl, Nat.le_of_ble_eq_true rfl⟩, ?_⟩
  have hE := OfBC_at 4 E4
  rw [bags_E4] at hE
  have hK := OfBC_at 4 K4E
  rw [bags_K4] at hK
  refine Call.by _ _ hE ?_
  refine Call.by _ _ hK ?_
  refine Idx.by 1 rfl (by decide) ?_
  refine Look.by (ints [1, 2, 3]) rfl ?_
  refine Idx.by 1 rfl (by decide) ?_
  refine Look.by (ints [1, 2, 3]) rfl ?_
  refine Idx.by 1 rfl (by decide) ?_
  refine Look.by (ints [1, 2, 3]) rfl ?_
  refine Look.by [.i .i64 2] rfl ?_
  refine Idx.by 2 rfl (by decide) ?_
  refine Look.by [.i .i64 3] rfl ?_
  refine Idx.by 3 rfl (by decide) ?_
  refine Look.by [.i .i64 (-1)] rfl ?_
  have hC := BChkC_at (n := 4) (E := E4) (S := BS4) (U := BU4) ⟨by decide, by decide, by decide⟩
  rw [bagB_iff.2 bagP_E4] at hC
  refine Call.by _ _ hC ?_
  have hN := BChkC_at (n := 4) (E := E4) (S := []) (U := []) ⟨by decide, by decide, by decide⟩
  rw [show bagB 4 E4 [] [] = false by rw [Bool.eq_false_iff]; exact fun h => bagP_nil (bagB_iff.1 h)] at hN
  refine Call.by _ _ hN ?_
  exact ⟨rfl, rfl⟩
end Go.Sh

set_option linter.unusedVariables false
set_option linter.unusedSimpArgs false
namespace Go.Sh
open Go.Proofs
/-! ### carcanetlaw12.BagsTell, BagsCheck, BagsWrong -/
theorem bagsO_len (n : Int) (E : List Ed) : bgOk (bagsO n E).1.1 (bagsO n E).1.2 := by
  obtain ⟨r1, r2, r3⟩ := runO_len n E
  unfold bagsO
  split
  · split
    · refine ⟨by unfold setsL; simp; omega, by unfold upsK; simp; omega, fun l hl => ?_⟩
      unfold setsL at hl
      obtain ⟨s, _, rfl⟩ := List.mem_map.1 hl
      unfold bagOf riseL
      rw [sortI_length]
      exact Nat.le_trans (List.length_filter_le _ _) (by simp)
    · exact ⟨by simp, by simp, by simp⟩
  · exact ⟨by simp, by simp, by simp⟩
theorem bgOk.small {S : List (List Int)} {U : List Int} (h : bgOk S U) : Go.Sh.small S ∧ U.length ≤ 1000000 :=
  ⟨⟨by have := h.1; omega, fun l hl => by have := h.2.2 l hl; omega⟩, by have := h.2.1; omega⟩
noncomputable def BTellF := conF (fun _ : Int × List Ed => True) (fun a => [grV a.1 a.2]) (fun _ => .one (.s (.b true)))
theorem BTell_ok : SoundP Try.prog 3 BTellF := by
  refine con_pure (X := { Γ := [(15, Shown12C), (16, OfC), (17, OfBC), (18, OfBC), (19, Same12C)], T := T, nt := 33 }) cr_none hmix hT
    (sound_cons Shown12_ok (sound_cons Of_ok (sound_cons OfB_ok (sound_cons Of12_ok (sound_cons Same12_ok sound_nil))))) Try.func3 (by rfl) (by rfl) (by rfl) 2 ?_
  rintro ⟨n, E⟩ -
  refine ⟨⟨Nat.le_of_ble_eq_true rfl, Nat.le_of_ble_eq_true rfl⟩, ?_⟩
  refine Call.by _ _ Shown12C_at ?_
  refine Call.by _ _ (OfC_at n E (most := 25) (by omega)) ?_
  obtain ⟨m, hm⟩ : ∃ m, anyN n 25 = m := ⟨_, rfl⟩
  obtain ⟨F, hF⟩ : ∃ F, anyE n E 25 = F := ⟨_, rfl⟩
  rw [hm, hF]
  have hl := bagsO_len m F
  refine Call.by _ _ (OfBC_at m F) ?_
  refine Call.by _ _ (OfBC_at m F) ?_
  refine Pick.T (beq_self_eq_true (bagsO m F).2) ?_
  have hS := Same12C_at (a := (bagsO m F).1) (b := (bagsO m F).1) ⟨hl.small, hl.small⟩
  rw [decide_eq_true rfl] at hS
  refine Call.by _ _ hS ?_
  exact ⟨rfl, rfl⟩
end Go.Sh

set_option linter.unusedVariables false
set_option linter.unusedSimpArgs false
namespace Go.Sh
open Go.Proofs
/-! ### carcanetlaw08.MinorMoves -/
def i64 (x : Int) : Prop := -9223372036854775808 ≤ x ∧ x ≤ 9223372036854775807
def clI (x : Int) : Int := mnI x 4611686018427387904
def clP (j : Nat) (row : List Int) : List Int := (row.take j).map clI ++ row.drop j
theorem clP_all (row : List Int) (j : Nat) (h : row.length ≤ j) : clP j row = row.map clI := by
  unfold clP
  rw [List.take_of_length_le h, List.drop_eq_nil_of_le h, List.append_nil]
theorem clP_zero (row : List Int) : clP 0 row = row := by simp [clP]
def ClI (S : List (List Int)) (i j : Nat) (R : List (List Int)) : Prop := R.length = S.length ∧ ∀ r row, S[r]? = some row → R[r]? = some (if r < i then row.map clI else if r = i then clP j row else row)
theorem ClI.at {S R : List (List Int)} {i j : Nat} (h : ClI S i j R) {row : List Int} (hi : S[i]? = some row) : R[i]? = some (clP j row) := by
  have := h.2 i row hi
  rwa [if_neg (by omega), if_pos rfl] at this
theorem ClI.step {S R : List (List Int)} {i j : Nat} (h : ClI S i j R) {row : List Int} (hi : S[i]? = some row) : ClI S i (j + 1) (R.set i (clP (j + 1) row)) := by
  refine ⟨by rw [List.length_set]; exact h.1, fun r w hr => ?_⟩
  rw [List.getElem?_set]
  by_cases e : i = r
  · subst e
    rw [hi] at hr
    injection hr with hr
    subst hr
    rw [if_pos rfl, if_pos (by rw [h.1]; exact (List.getElem?_eq_some_iff.1 hi).1), if_neg (by omega), if_pos rfl]
  · rw [if_neg e, h.2 r w hr, if_neg (show ¬ r = i by omega), if_neg (show ¬ r = i by omega)]
theorem ClI.next {S R : List (List Int)} {i j : Nat} (h : ClI S i j R) {row : List Int} (hi : S[i]? = some row) (hj : row.length ≤ j) : ClI S (i + 1) 0 R := by
  refine ⟨h.1, fun r w hr => ?_⟩
  rw [h.2 r w hr]
  by_cases e : r < i
  · rw [if_pos e, if_pos (by omega)]
  · by_cases e2 : r = i
    · subst e2
      rw [hi] at hr
      injection hr with hr
      subst hr
      rw [if_neg e, if_pos rfl, if_pos (by omega), clP_all _ _ hj]
    · rw [if_neg e, if_neg e2, if_neg (by omega)]
      split
      · rw [clP_zero]
      · rfl
theorem ClI.done {S R : List (List Int)} {i : Nat} (h : ClI S i 0 R) (hi : S.length ≤ i) : R = S.map fun l => l.map clI := by
  apply List.ext_getElem?
  intro r
  by_cases hr : r < S.length
  · rw [h.2 r _ (List.getElem?_eq_getElem hr), if_pos (by omega)]
    simp [hr]
  · rw [List.getElem?_eq_none (by rw [h.1]; omega), List.getElem?_eq_none (by simp; omega)]
theorem ClI.zero (S : List (List Int)) : ClI S 0 0 S := ⟨rfl, fun r row h => by
  rw [if_neg (by omega), clP_zero]
  split <;> exact h⟩
end Go.Sh

set_option linter.unusedVariables false
set_option linter.unusedSimpArgs false
namespace Go.Sh
open Go.Proofs
/-! ### what is handed in, as data -/
theorem VTy.struct {T : Tab} {t : Nat} {ti : TI} {fs : List (Nat × Nat)} {v : V} (ht : lk T t = some ti) (hk : ti.kind = .struct fs) (h : VTy T t v) : ∃ cs, v = .agg cs ∧ All2 (fun (f : Nat × Nat) c => CTy T f.2 c) fs cs := by
  unfold VTy at h
  rw [ht] at h
  simp only at h
  rw [hk] at h
  exact h
theorem VTy.cell {T : Tab} {t : Nat} {ti : TI} {v : V} (ht : lk T t = some ti) (hk : ∀ fs, ti.kind ≠ .struct fs) (h : VTy T t v) : ∃ c, v = .one c ∧ CTy T t c := by
  unfold VTy at h
  rw [ht] at h
  simp only at h
  exact h
theorem ScTy.int {T : Tab} {t : Nat} {ti : TI} {k : IntKind} {x : Sc} (ht : lk T t = some ti) (hk : ti.kind = .int k) (h : ScTy T t x) : ∃ n, x = .i k n ∧ (Lit.int k n).wf = true := by
  unfold ScTy at h
  rw [ht] at h
  simp only at h
  rw [hk] at h
  cases x with
  | i k' n => obtain ⟨rfl, h⟩ := h; exact ⟨n, rfl, h⟩
  | b _ => exact h.elim
theorem CTy.sc {T : Tab} {t : Nat} {c : C} (hs : sliceE T t = none) (h : CTy T t c) : ∃ x, c = .s x ∧ ScTy T t x := by
  unfold CTy at h
  rw [hs] at h
  exact h
theorem CTy.flat {T : Tab} {t e : Nat} {c : C} (hs : sliceE T t = some e) (hs2 : sliceE T e = none) (h : CTy T t c) : ∃ rows, c = .flat false (sizeT T e) rows ∧ FlatTy T e rows := by
  unfold CTy at h
  rw [hs] at h
  simp only at h
  rw [hs2] at h
  exact h
theorem CTy.nest {T : Tab} {t e e2 : Nat} {c : C} (hs : sliceE T t = some e) (hs2 : sliceE T e = some e2) (h : CTy T t c) : ∃ rows, c = .nest false (sizeT T e2) rows ∧ rows.length ≤ maxLen ∧ ∀ fl ∈ rows, FlatTy T e2 fl := by
  unfold CTy at h
  rw [hs] at h
  simp only at h
  rw [hs2] at h
  exact h
theorem i64_wf {n : Int} (h : (Lit.int .i64 n).wf = true) : i64 n := by
  simp [Lit.wf, IntKind.min, IntKind.max, IntKind.signed, IntKind.bits] at h
  exact h
theorem list_ex {α β : Type} {P : α → β → Prop} : ∀ {l : List α}, (∀ x ∈ l, ∃ y, P x y) → ∃ m : List β, All2 P l m := by
  intro l
  induction l with
  | nil => intro _; exact ⟨[], All2.nil⟩
  | cons x l ih =>
    intro h
    obtain ⟨y, hy⟩ := h x (by simp)
    obtain ⟨m, hm⟩ := ih fun x hx => h x (by simp [hx])
    exact ⟨y :: m, All2.cons' hy hm⟩
theorem All2.map_eq {α β : Type} {f : β → α} {l : List α} {m : List β} (h : All2 (fun x y => x = f y) l m) : l = m.map f := by
  apply List.ext_getElem?
  intro i
  rw [List.getElem?_map]
  by_cases hi : i < l.length
  · have him : i < m.length := by rw [← h.1]; exact hi
    rw [List.getElem?_eq_getElem hi, List.getElem?_eq_getElem him, Option.map_some, h.2 i _ _ (List.getElem?_eq_getElem hi) (List.getElem?_eq_getElem him)]
  · rw [List.getElem?_eq_none (by omega), List.getElem?_eq_none (by rw [← h.1]; omega)]; rfl
theorem All2.mem {α β : Type} {R : α → β → Prop} {l : List α} {m : List β} (h : All2 R l m) {y : β} (hy : y ∈ m) : ∃ x ∈ l, R x y := by
  obtain ⟨i, hi⟩ := List.mem_iff_getElem?.1 hy
  have hl := (List.getElem?_eq_some_iff.1 hi).1
  rw [← h.1] at hl
  exact ⟨_, List.getElem_mem hl, h.2 i _ y (List.getElem?_eq_getElem hl) hi⟩
/-! #### at this program's types -/
theorem All2.two {α β : Type} {R : α → β → Prop} {a b : α} {m : List β} (h : All2 R [a, b] m) : ∃ x y, m = [x, y] ∧ R a x ∧ R b y := by
  obtain ⟨h1, h2⟩ := h
  match m, h1, h2 with
  | [x, y], _, h2 => exact ⟨x, y, rfl, h2 0 a x rfl rfl, h2 1 b y rfl rfl⟩
theorem All2.one {α β : Type} {R : α → β → Prop} {a : α} {m : List β} (h : All2 R [a] m) : ∃ x, m = [x] ∧ R a x := by
  obtain ⟨h1, h2⟩ := h
  match m, h1, h2 with
  | [x], _, h2 => exact ⟨x, rfl, h2 0 a x rfl rfl⟩
theorem row_edge {row : Row} (h : RowTy T 60 row) : ∃ p : Ed, row = [.i .i64 p.1, .i .i64 p.2] ∧ i64 p.1 ∧ i64 p.2 := by
  obtain ⟨_, h⟩ := h
  obtain ⟨x, y, rfl, hx, hy⟩ := All2.two h
  obtain ⟨n, rfl, hn⟩ := ScTy.int (t := 3) rfl rfl hx
  obtain ⟨m, rfl, hm⟩ := ScTy.int (t := 3) rfl rfl hy
  exact ⟨(n, m), rfl, i64_wf hn, i64_wf hm⟩
theorem edges_of {fl : Flat} (h : FlatTy T 60 fl) : ∃ E : List Ed, fl = edges E ∧ E.length ≤ maxLen ∧ ∀ p ∈ E, i64 p.1 ∧ i64 p.2 := by
  obtain ⟨m, hm⟩ := list_ex (P := fun row (p : Ed) => row = [Sc.i .i64 p.1, Sc.i .i64 p.2] ∧ i64 p.1 ∧ i64 p.2) fun row hr => row_edge (h.2 row hr)
  refine ⟨m, All2.map_eq (f := fun p : Ed => [Sc.i .i64 p.1, Sc.i .i64 p.2]) (hm.imp fun _ _ _ k => k.1), by rw [← hm.1]; exact h.1, fun x hx => ?_⟩
  obtain ⟨_, _, k⟩ := hm.mem hx
  exact k.2
theorem net_of {v : V} (h : VTy T 24 v) : ∃ n E, v = grV n E ∧ i64 n ∧ ∀ p ∈ E, i64 p.1 ∧ i64 p.2 := by
  obtain ⟨cs, rfl, hcs⟩ := VTy.struct (t := 24) rfl rfl h
  obtain ⟨x, y, rfl, hx, hy⟩ := All2.two hcs
  obtain ⟨z, rfl, hz⟩ := CTy.sc (t := 3) rfl hx
  obtain ⟨n, rfl, hw⟩ := ScTy.int (t := 3) rfl rfl hz
  obtain ⟨rows, rfl, hr⟩ := CTy.flat (t := 22) (e := 60) rfl rfl hy
  obtain ⟨E, rfl, _, hE⟩ := edges_of hr
  exact ⟨n, E, rfl, i64_wf hw, hE⟩
end Go.Sh

set_option linter.unusedVariables false
namespace Go.Sh
open Go.Proofs
theorem own : ownKnob Try.prog.godebug = none := by kernel_rfl
theorem laidOut : laidOutB Try.prog = true := by kernel_rfl
set_option maxRecDepth 100000 in
/-- A law whose function answers true, whatever comes. -/
theorem law_row {s : ChangeSpec} {f : FuncId} {fn : Func} {conds : List PathCond} {apart fresh handsOn : Bool} {ts : List TypeId} {F : List V → Option (V × List V)} (hf : Try.prog.funcs[f]? = some fn) (hin : Try.prog.inits.idxOf? f = none) (hv : s.vars = [])
    (hts : fn.params.toList = ts) (ha : ts.all (argB T) = true) (hr : ts.all (fun t => Try.prog.readableRec t && Nat.blt t Try.prog.types.size) = true) (hres : fn.resultTypes = #[4])
    (hsp : ∀ (H : Type) (ds : List (DataW H)), ds.length = ts.length → (s.fn H ds).results = [.lit (.bool true)] ∧ (s.fn H ds).args = ds ∧ (s.fn H ds).vars = [])
    (hS : SoundP Try.prog f F) (hF : LawV T ts F) (os : Os) (started : os.Started) (H : Type) (enc : TypeId × Value → H) (a : Assume)
    (hw : ∃ (w : World) (tape : Tape) (i : Input), w.os = os ∧ (w.forCall tape i).Shaped Try.checked.prog ∧ i.vars = [] ∧ Input.okWide Try.checked.prog (w.forCall tape i) .any w.heap.size f i ∧
      s.pre6 enc Try.checked.prog fn conds apart (w.forCall tape i).memory i.args ∧ a.holds Try.checked.prog (lone (Frame.enter Try.checked.prog f i.args .normal) [] (w.forCall tape i))) :
    ReturnsInHanded a Try.checked os f .any (s.pre6 enc Try.checked.prog fn conds apart) (s.post enc Try.checked.prog fn apart fresh handsOn false) := by
  refine returnsInHanded_of_change (C := Try.checked) own started hin hf hw ?_
  intro W base args ds gs before hval hW _ _
  refine law_contract (P := Try.prog) (conds := conds) hT laidOut hv hts ha (fun t ht => ?_) hres Try.underlying4 (hsp H) hS hF hval hW
  have := List.all_eq_true.1 hr t ht
  simp only [Bool.and_eq_true] at this
  exact ⟨this.1, Nat.le_of_ble_eq_true this.2⟩
end Go.Sh

set_option linter.unusedVariables false
namespace Go.Sh
open Go.Proofs
/-! ### more of what is handed in, as data -/
theorem ScTy.bool {T : Tab} {t : Nat} {ti : TI} {x : Sc} (ht : lk T t = some ti) (hk : ti.kind = .bool) (h : ScTy T t x) : ∃ b, x = .b b := by
  unfold ScTy at h
  rw [ht] at h
  simp only at h
  rw [hk] at h
  cases x with
  | i k' n => exact h.elim
  | b b => exact ⟨b, rfl⟩
end Go.Sh

set_option linter.unusedVariables false
namespace Go.Sh
open Go.Proofs
/-! ### more of what is handed in, as data: bags -/
end Go.Sh
