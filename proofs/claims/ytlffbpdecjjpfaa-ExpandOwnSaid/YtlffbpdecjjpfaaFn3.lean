/- What the functions answer that the statement reaches. No condition. -/
import Derived.Test.YtlffbpdecjjpfaaFn2
import Derived.Test.YtlffbpdecjjpfaaRows
set_option linter.unusedVariables false
set_option linter.unusedSimpArgs false
namespace Go.Sh
/-! ### what is lifted, on lists -/
def liftA (f : Int → Int → Option (List Int)) (p : List Int) : Nat → Option (List Int)
  | 0 => some (p.take 1)
  | j + 1 => match liftA f p j with
    | some q => match f (p.getD j 0) (p.getD (j + 1) 0) with
      | some m => some (q ++ m.tail)
      | none => none
    | none => none
def liftF (f : Int → Int → Option (List Int)) (p : List Int) : Option (List Int) := liftA f p (p.length - 1)
def liftN (f : Int → Int → Option (List Int)) (L : List (List Int)) : Nat → Option (List (List Int))
  | 0 => some []
  | i + 1 => match liftN f L i with
    | some K => match liftF f (L.getD i []) with
      | some q => some (K ++ [q])
      | none => none
    | none => none
theorem liftA_go {f : Int → Int → Option (List Int)} {p q m : List Int} {j : Nat} (h : liftA f p j = some q) (k : f (p.getD j 0) (p.getD (j + 1) 0) = some m) : liftA f p (j + 1) = some (q ++ m.tail) := by simp only [liftA, h, k]
theorem liftA_no {f : Int → Int → Option (List Int)} {p : List Int} {j : Nat} (k : f (p.getD j 0) (p.getD (j + 1) 0) = none) : liftA f p (j + 1) = none := by
  simp only [liftA, k]
  split <;> rfl
theorem liftA_stay {f : Int → Int → Option (List Int)} {p : List Int} {j : Nat} (h : liftA f p j = none) : ∀ k, liftA f p (j + k) = none := by
  intro k
  induction k with
  | zero => exact h
  | succ k ih => rw [← Nat.add_assoc]; simp only [liftA, ih]
theorem liftF_no {f : Int → Int → Option (List Int)} {p : List Int} {j : Nat} (hj : j + 1 < p.length) (k : f (p.getD j 0) (p.getD (j + 1) 0) = none) : liftF f p = none := by
  have := liftA_stay (liftA_no k) (p.length - 1 - (j + 1))
  unfold liftF
  rw [show p.length - 1 = j + 1 + (p.length - 1 - (j + 1)) by omega]
  exact this
theorem liftN_go {f : Int → Int → Option (List Int)} {L K : List (List Int)} {q : List Int} {i : Nat} (hi : i < L.length) (h : liftN f L i = some K) (k : liftF f L[i] = some q) : liftN f L (i + 1) = some (K ++ [q]) := by
  have : L.getD i [] = L[i] := by rw [List.getD_eq_getElem?_getD, List.getElem?_eq_getElem hi]; rfl
  simp only [liftN, h, this, k]
theorem liftN_stay {f : Int → Int → Option (List Int)} {L : List (List Int)} {i : Nat} (h : liftN f L i = none) : ∀ k, liftN f L (i + k) = none := by
  intro k
  induction k with
  | zero => exact h
  | succ k ih => rw [← Nat.add_assoc]; simp only [liftN, ih]
theorem liftN_no {f : Int → Int → Option (List Int)} {L : List (List Int)} {i : Nat} (hi : i < L.length) (k : liftF f L[i] = none) : liftN f L L.length = none := by
  have e : L.getD i [] = L[i] := by rw [List.getD_eq_getElem?_getD, List.getElem?_eq_getElem hi]; rfl
  have : liftN f L (i + 1) = none := by
    simp only [liftN, e, k]
    split <;> rfl
  have := liftN_stay this (L.length - (i + 1))
  rw [show L.length = i + 1 + (L.length - (i + 1)) by omega]
  exact this
theorem liftN_len {f : Int → Int → Option (List Int)} {L : List (List Int)} : ∀ {i : Nat} {K : List (List Int)}, liftN f L i = some K → K.length = i := by
  intro i
  induction i with
  | zero => intro K h; simp [liftN] at h; rw [h]; rfl
  | succ i ih =>
    intro K h
    simp only [liftN] at h
    split at h
    · rename_i K' hK
      split at h
      · injection h with h
        rw [← h, List.length_append, ih hK]; rfl
      · simp at h
    · simp at h
theorem liftA_len {f : Int → Int → Option (List Int)} {p : List Int} {c : Nat} (hf : ∀ x y m, f x y = some m → m.length ≤ c) : ∀ {j : Nat} {q : List Int}, liftA f p j = some q → q.length ≤ 1 + j * c := by
  intro j
  induction j with
  | zero => intro q h; simp [liftA] at h; rw [← h, List.length_take]; omega
  | succ j ih =>
    intro q h
    simp only [liftA] at h
    split at h
    · rename_i q' hq
      split at h
      · rename_i m hm
        injection h with h
        have := ih hq
        have := hf _ _ _ hm
        rw [← h, List.length_append, List.length_tail, Nat.succ_mul]
        omega
      · simp at h
    · simp at h
theorem expF_len {n : Int} {E : List Ed} {l : List Stp} {a b : Int} {m : List Int} (hl : l.length ≤ 1000) (h : expF n E l a b = some m) : m.length ≤ 1002 ∧ 2 ≤ m.length := by
  unfold expF at h
  split at h
  · rename_i hc
    obtain ⟨_, N, G, _, hX⟩ := runs_end hc.1
    have := pth_len (a := a) (b := b) hX.val
    have := addsL_len l
    injection h with h
    rw [← h]
    simp
    omega
  · simp at h
open Classical in
noncomputable def liftO (n : Int) (E : List Ed) (l : List Stp) (L : List (List Int)) : Option (List (List Int)) := if (replO n E l).2 = true then liftN (expF n E l) L L.length else none
noncomputable def liftV (n : Int) (E : List Ed) (l : List Stp) (k : Int) (Ts : List Int) (L : List (List Int)) : V := match liftO n E l L with
  | some K => .tup [sbV true k Ts K, .one (.s (.b true))]
  | none => .tup [sbV true 0 [] [], .one (.s (.b false))]
def smallNums (L : List (List Int)) : Prop := ∀ p ∈ L, ∀ x ∈ p, i64 x
end Go.Sh

set_option linter.unusedVariables false
set_option linter.unusedSimpArgs false
namespace Go.Sh
open Go.Proofs
/-! ### expand.Lift -/
noncomputable def LiftC : Con := conP 3 (fun a : ((Int × List Ed) × List Stp) × Int × List Int × List (List Int) => a.1.2.length ≤ 1000 ∧ a.2.2.1.length ≤ 1000000 ∧ fewL a.2.2.2 ∧ smallNums a.2.2.2) (fun a => [grV a.1.1.1 a.1.1.2, .one (.flat false 4 (stps a.1.2)), sbV false a.2.1 a.2.2.1 a.2.2.2])
  (fun a => liftV a.1.1.1 a.1.1.2 a.1.2 a.2.1 a.2.2.1 a.2.2.2)
theorem LiftC_at {n : Int} {E : List Ed} {l : List Stp} {k : Int} {Ts : List Int} {L : List (List Int)} (h : l.length ≤ 1000 ∧ Ts.length ≤ 1000000 ∧ fewL L ∧ smallNums L) : LiftC.F [grV n E, .one (.flat false 4 (stps l)), sbV false k Ts L] = some (liftV n E l k Ts L, []) :=
  conP_at (a := (((n, E), l), k, Ts, L)) (fun x y _ _ h => by
    obtain ⟨⟨⟨n, E⟩, l⟩, k, Ts, L⟩ := x
    obtain ⟨⟨⟨n', E'⟩, l'⟩, k', Ts', L'⟩ := y
    simp at h
    obtain ⟨h1, h2, h3⟩ := h
    obtain ⟨rfl, rfl⟩ := grV_inj h1
    obtain ⟨rfl, rfl, rfl⟩ := sbV_inj h3
    rw [stps_inj h2]) h
noncomputable def XLi : Cx := { Γ := [(25, ReplC), (27, HasGC), (81, ConcatC), (48, CloneCI), (80, recC 80 (innerD 1002))], T := T, nt := 85, pt := [34], inl := [(45, inlF Try.f45), (79, inlF Try.f79), (82, inlF Try.f82)] }
theorem XLi_sound : Sound Try.prog T XLi.Γ := sound_cons Repl_ok (sound_cons Has_ok (sound_cons Concat_ok (sound_cons Clone_okI (sound_cons (rec_sound (inner_call 1002)) sound_nil))))
theorem XLi_ok : CrOk Try.prog (callAt 1 XLi) := callAt_ok hmix hT XLi_sound (inl_cons Try.func45 (by rfl) (by rfl) (by rfl) (inl_cons Try.func79 (by rfl) (by rfl) (by rfl) (inl_cons Try.func82 (by rfl) (by rfl) (by rfl) inl_nil))) cr_none 1
theorem one_cut (p : List Int) : cut (some (0, min 1 p.length)) (ints p) = ints (p.take 1) := by
  show ((ints p).drop 0).take (min 1 p.length) = _
  unfold ints
  rw [List.drop_zero, ← List.map_take]
  cases p <;> simp
theorem tail_cut (m : List Int) : cut (subOf none 0 1 m.length) (ints m) = ints m.tail := by
  show ((ints m).drop 1).take (m.length - 1) = _
  unfold ints
  rw [← List.map_drop, ← List.map_take, List.drop_one, List.take_of_length_le (by rw [List.length_tail]; omega)]
set_option maxHeartbeats 8000000 in
set_option maxRecDepth 20000 in
theorem Lift_ok : SoundC Try.prog T 22 LiftC := by
  refine sound_con (X := XLi) (cr := callAt 1 XLi) XLi_ok hmix hT XLi_sound Try.func22 (by rfl) (by rfl) (by rfl) (by rfl) 6 ?_
  rintro ⟨⟨⟨n, E⟩, L⟩, k, Ts, S⟩ ⟨hL, hTs, hS, hnum⟩
  dsimp only at hL hTs hS hnum ⊢
  refine ⟨⟨Nat.le_of_ble_eq_true rfl, Nat.le_of_ble_eq_true rfl⟩, ?_⟩
  refine Call.by _ _ (ReplC_at (l := L) (by omega)) ?_
  refine Pick.by (fun h1 => ?_) (fun h1 => ?_)
  · have h1 : ¬ (replO n E L).2 = true := by have h1 : (!(replO n E L).2) = true := h1; simpa using h1
    have hv : liftV n E L k Ts S = .tup [sbV true 0 [] [], .one (.s (.b false))] := by
      unfold liftV
      rw [show liftO n E L S = none from if_neg h1]
    rw [hv]
    refine ⟨rfl, ?_⟩
    (repeat' first | exact rfl | exact trivial | refine And.intro ?_ ?_)
  have h1 : (replO n E L).2 = true := by have h1 : (!(replO n E L).2) = false := h1; simpa using h1
  have hlo : liftO n E L S = liftN (expF n E L) S S.length := if_pos h1
  obtain ⟨hR, hruns⟩ := runs_zero h1
  have hruns := runs_all hruns
  obtain ⟨_, N, G, hN, hX⟩ := runs_end h1
  have hn0 := hR.1
  have hn1 := hR.2.1
  refine Call.by _ _ (ReplC_at (l := L) (by omega)) ?_
  refine Pick.F (by show (!(replO n E L).2) = false; rw [h1]; rfl) ?_
  refine LoopP.intro (α := Nat) (fun i => i ≤ L.length) (fun i => L.length - i) (fun i => [(1, .sl 2 none none), (2, .ptr 0 0), (7, .ptr 3 0), (20, .sl 2 none none), (21, .s (.i .i64 L.length)), (22, .s (.i .i64 i)), (1000005, .ptr 5 0), (1000006, .ptr 8 0)])
    (fun i => [(0, some (.blk [.s (.i .i64 n), .sl 1 none none])), (1, some (.flat false 2 (edges E))), (2, some (.flat false 4 (stps L))), (3, some (.blk [.mp 4])), (4, some (.map true 2 (byL (addsL (L.take i))))), (5, some (.blk [.s (.i .i64 k), .sl 6 none none, .sl 7 none none])), (6, some (.flat false 1 (ints Ts))), (7, some (.nest false 1 (rowsI S) [] [])), (8, some (.blk [.s (.i .i64 0), .nils, .nils]))]) 9 0 (by omega) (by refine Weak.by [(0, some _), (1, some _), (2, some _), (3, some _), (4, some _), (5, some _), (6, some _), (7, some _), (8, some _)] (by ((repeat' first | exact rfl | exact trivial | refine And.intro ?_ ?_) <;> (repeat' first | exact rfl | exact trivial | refine And.intro ?_ ?_)); all_goals (exact sc_eq (by rw [stps_length]))) (by ((repeat' first | exact rfl | exact trivial | refine And.intro ?_ ?_) <;> (repeat' first | exact rfl | exact trivial | refine And.intro ?_ ?_)); all_goals (exact sc_eq (by rw [stps_length]))) (by rfl)) ?_
  rintro i hi
  refine Pick.by (fun hc => ?_) (fun hc => ?_)
  · have hlt : i < L.length := by have := of_decide_eq_true hc; omega
    obtain ⟨s, hs⟩ : ∃ s, L[i] = s := ⟨_, rfl⟩
    have hrow : (stps L)[i]? = some [.i .i64 s.1, .i .i64 s.2.1, .i .i64 s.2.2.1, .b s.2.2.2] := by unfold stps; rw [List.getElem?_map, List.getElem?_eq_getElem hlt, hs]; rfl
    have hput := runs_put hlt (hruns i (by omega))
    rw [hs] at hput
    refine Idx.by i rfl (by rw [stps_length]; exact hlt) ?_
    refine Look.by _ hrow ?_
    refine Pick.by (fun h2 => ?_) (fun h2 => ?_)
    · have h2 : s.2.2.2 = true := h2
      have hok := runs_addok hlt (hruns i (by omega)) (by rw [hs]; exact h2)
      rw [hs] at hok
      obtain ⟨r1, r2, r3, _⟩ := hok
      have hput : mapPut (byL (addsL (L.take i))) [s.2.1, s.2.2.1] s.1 = byL (addsL (L.take (i + 1))) := by rw [← hput]; unfold putStep; rw [if_pos h2]
      refine Pick.T (inI64_of (by omega) (by omega)) ?_
      refine Pick.T (inI64_of (by omega) (by omega)) ?_
      refine Pick.T (inI64_of (by omega) (by omega)) ?_
      refine Next.by (i + 1) (by omega) (by omega) (by refine Weak.by [(0, some _), (1, some _), (2, some _), (3, some _), (4, some _), (5, some _), (6, some _), (7, some _), (8, some _)] (by ((repeat' first | exact rfl | exact trivial | refine And.intro ?_ ?_) <;> (repeat' first | exact rfl | exact trivial | refine And.intro ?_ ?_)); all_goals (rw [← hput])) (by ((repeat' first | exact rfl | exact trivial | refine And.intro ?_ ?_) <;> (repeat' first | exact rfl | exact trivial | refine And.intro ?_ ?_)); all_goals (rw [← hput])) (by rfl))
    · have h2 : ¬ s.2.2.2 = true := by have h2 : s.2.2.2 = false := h2; rw [h2]; simp
      have hput : byL (addsL (L.take i)) = byL (addsL (L.take (i + 1))) := by rw [← hput]; unfold putStep; rw [if_neg h2]
      refine Pick.T (inI64_of (by omega) (by omega)) ?_
      rw [hput]
      refine Next.by (i + 1) (by omega) (by omega) (by refine Weak.by [(0, some _), (1, some _), (2, some _), (3, some _), (4, some _), (5, some _), (6, some _), (7, some _), (8, some _)] (by ((repeat' first | exact rfl | exact trivial | refine And.intro ?_ ?_) <;> (repeat' first | exact rfl | exact trivial | refine And.intro ?_ ?_))) (by ((repeat' first | exact rfl | exact trivial | refine And.intro ?_ ?_) <;> (repeat' first | exact rfl | exact trivial | refine And.intro ?_ ?_))) (by rfl))
  have hil : i = L.length := by have := of_decide_eq_false hc; rw [] at this; omega
  subst hil
  rw [List.take_length]
  have hval := hX.val
  have hlen := addsL_len L
  have hrng : ∀ e ∈ addsL L, i64 e.1 ∧ i64 e.2.1 ∧ i64 e.2.2 := fun e he => by
    have := hX.rng e he
    rw [hN] at this
    unfold i64
    omega
  have hkey : ∀ a b, mapHas (byL (addsL L)) (key2 a b) = true ↔ inKeys (addsL L) a b := fun a b => key2_has hval.lt
  have hin : ∀ {a b : Int}, i64 a → i64 b → innerD 1002 (byL (addsL L)) a b = some (pth (addsL L) a b) := fun ha hb => inner_pth (r := addsL L) (pre := []) hval hrng (by omega) ha hb (by simp) (by omega)
  refine Call.by _ _ (CloneC_atI hTs) ?_
  refine Seg.by (by kernel_rfl) ?_
  obtain ⟨hS1, hS2⟩ := hS
  refine LoopP.intro (α := Nat × List (List Int)) (fun a => a.1 ≤ S.length ∧ liftN (expF n E L) S a.1 = some a.2) (fun a => S.length - a.1) (fun a => [(6, .ptr 6 0), (10, .fn 82 [.ptr 2 0, .ptr 0 0, .ptr 4 0]), (11, .ptr 7 0), (37, .sl 5 none none), (38, .s (.i .i64 S.length)), (39, .s (.i .i64 a.1))])
    (fun a => [(0, some (.blk [.s (.i .i64 n), .sl 1 none none])), (1, some (.flat false 2 (edges E))), (2, some (.blk [.mp 3])), (3, some (.map true 2 (byL (addsL L)))), (4, some (.fnb true 80 [.ptr 2 0, .ptr 4 0])), (5, some (.nest false 1 (rowsI S) [] [])), (6, some (.blk [.s (.i .i64 0), .nils, .nils])), (7, some (.blk [.s (.i .i64 k), .sl 8 none none, .sl 9 none none])), (8, some (.flat true 1 (ints Ts))), (9, some (.nest true 1 (rowsI a.2) [] []))]) 10 (0, []) ⟨by omega, rfl⟩ (by refine Weak.by [(0, some _), (1, some _), (2, some _), (3, some _), (4, some _), (5, some _), (6, some _), (7, some _), (8, some _), (9, none)] (by ((repeat' first | exact rfl | exact trivial | refine And.intro ?_ ?_) <;> (repeat' first | exact rfl | exact trivial | refine And.intro ?_ ?_)); all_goals (exact sc_eq (by rw [rowsI_length]))) (by ((repeat' first | exact rfl | exact trivial | refine And.intro ?_ ?_) <;> (repeat' first | exact rfl | exact trivial | refine And.intro ?_ ?_)); all_goals (exact sc_eq (by rw [rowsI_length]))) (by rfl)) ?_
  rintro ⟨i, K⟩ ⟨hi, hK⟩
  dsimp only at hi hK ⊢
  have hKl := liftN_len hK
  refine Pick.by (fun hc => ?_) (fun hc => ?_)
  rotate_left
  · have hil : i = S.length := by have := of_decide_eq_false hc; omega
    have hv : liftV n E L k Ts S = .tup [sbV true k Ts K, .one (.s (.b true))] := by
      unfold liftV
      rw [hlo, ← hil, hK]
    rw [hv]
    refine ⟨rfl, ?_⟩
    (repeat' first | exact rfl | exact trivial | refine And.intro ?_ ?_)
  have hlt : i < S.length := by have := of_decide_eq_true hc; omega
  obtain ⟨p, hpe⟩ : ∃ p, S[i] = p := ⟨_, rfl⟩
  have hpl := hS2 _ (List.getElem_mem hlt)
  have hpn := hnum _ (List.getElem_mem hlt)
  rw [hpe] at hpl hpn
  have hpg : (rowsI S)[i]? = some (ints p) := rowsI_get (by rw [List.getElem?_eq_getElem hlt, hpe])
  refine Idx.by i rfl (by rw [rowsI_length]; exact hlt) ?_
  refine Pick.T (by simpa [rowsI_length] using hlt) ?_
  refine Look.by _ hpg ?_
  refine Look.by _ hpg ?_
  refine Rng.by 0 (min 1 p.length) rfl (by rw [ints_length]; show (if (p.length : Int) < 1 then (p.length : Int) else 1) = _; split <;> omega) (by omega) (by rw [ints_length]; omega) ?_
  refine Look.by _ hpg ?_
  have hcl := CloneC_atI (l := p.take 1) (by rw [List.length_take]; omega)
  rw [← one_cut] at hcl
  refine Call.by _ _ hcl ?_
  rw [one_cut]
  refine Look.by _ hpg ?_
  refine Pick.T (inI64_of (by rw [ints_length]; omega) (by rw [ints_length]; omega)) ?_
  refine LoopP.intro (α := Nat × List Int) (fun a => a.1 ≤ p.length - 1 ∧ liftA (expF n E L) p a.1 = some a.2) (fun a => p.length - a.1) (fun a => [(6, .ptr 6 0), (10, .fn 82 [.ptr 2 0, .ptr 0 0, .ptr 4 0]), (11, .ptr 7 0), (13, .sl 5 (some (i, 0)) none), (14, .sl 10 none none), (37, .sl 5 none none), (38, .s (.i .i64 S.length)), (39, .s (.i .i64 i)), (51, .s (.i .i64 ((p.length : Int) - 1))), (52, .s (.i .i64 a.1))])
    (fun a => [(0, some (.blk [.s (.i .i64 n), .sl 1 none none])), (1, some (.flat false 2 (edges E))), (2, some (.blk [.mp 3])), (3, some (.map true 2 (byL (addsL L)))), (4, some (.fnb true 80 [.ptr 2 0, .ptr 4 0])), (5, some (.nest false 1 (rowsI S) [] [])), (6, some (.blk [.s (.i .i64 0), .nils, .nils])), (7, some (.blk [.s (.i .i64 k), .sl 8 none none, .sl 9 none none])), (8, some (.flat true 1 (ints Ts))), (9, some (.nest true 1 (rowsI K) [] [])), (10, some (.flat true 1 (ints a.2)))]) 11 (0, p.take 1) ⟨by omega, rfl⟩ (by refine Weak.by [(0, some _), (1, some _), (2, some _), (3, some _), (4, some _), (5, some _), (6, some _), (7, some _), (8, some _), (9, some _), (10, some _)] (by ((repeat' first | exact rfl | exact trivial | refine And.intro ?_ ?_) <;> (repeat' first | exact rfl | exact trivial | refine And.intro ?_ ?_)); all_goals (first | exact sc_eq (by rw [ints_length]) | (simp; done))) (by ((repeat' first | exact rfl | exact trivial | refine And.intro ?_ ?_) <;> (repeat' first | exact rfl | exact trivial | refine And.intro ?_ ?_)); all_goals (first | exact sc_eq (by rw [ints_length]) | (simp; done))) (by rfl)) ?_
  rintro ⟨j, q⟩ ⟨hj, hq⟩
  dsimp only at hj hq ⊢
  have hql := liftA_len (c := 1002) (fun x y m h => (expF_len hL h).1) hq
  have hql2 : j * 1002 ≤ 5000 * 1002 := Nat.mul_le_mul_right _ (by omega)
  refine Pick.by (fun hc2 => ?_) (fun hc2 => ?_)
  rotate_left
  · have hje : j = p.length - 1 := by have := of_decide_eq_false hc2; omega
    have hlf : liftF (expF n E L) S[i] = some q := by rw [hpe]; unfold liftF; rw [← hje]; exact hq
    have hst := liftN_go hlt hK hlf
    refine Pick.T (decide_eq_true (by rw [rowsI_length, hKl]; simp only [List.length_cons, List.length_nil]; omega)) ?_
    refine Pick.T (inI64_of (by omega) (by omega)) ?_
    refine Next.by (i + 1, K ++ [q]) ⟨by dsimp only; omega, hst⟩ (by dsimp only; omega) (by refine Weak.by [(0, some _), (1, some _), (2, some _), (3, some _), (4, some _), (5, some _), (6, some _), (7, some _), (8, some _), (9, some _)] (by ((repeat' first | exact rfl | exact trivial | refine And.intro ?_ ?_) <;> (repeat' first | exact rfl | exact trivial | refine And.intro ?_ ?_)); all_goals ((first | (rw [rowsI_snoc]; done) | (rw [rowsI_snoc]; rfl) | (simp; done)))) (by ((repeat' first | exact rfl | exact trivial | refine And.intro ?_ ?_) <;> (repeat' first | exact rfl | exact trivial | refine And.intro ?_ ?_)); all_goals ((first | (rw [rowsI_snoc]; done) | (rw [rowsI_snoc]; rfl) | (simp; done)))) (by rfl))
  have hjl : j + 1 < p.length := by have := of_decide_eq_true hc2; omega
  have g0 : p[j]? = some (p.getD j 0) := by rw [List.getD_eq_getElem?_getD, List.getElem?_eq_getElem (by omega)]; rfl
  have g1 : p[j + 1]? = some (p.getD (j + 1) 0) := by rw [List.getD_eq_getElem?_getD, List.getElem?_eq_getElem (by omega)]; rfl
  have ha : i64 (p.getD j 0) := hpn _ (List.mem_of_getElem? g0)
  have hb : i64 (p.getD (j + 1) 0) := hpn _ (List.mem_of_getElem? g1)
  have hin := hin ha hb
  have hkey := hkey (p.getD j 0) (p.getD (j + 1) 0)
  obtain ⟨a, hae⟩ : ∃ a, p.getD j 0 = a := ⟨_, rfl⟩
  obtain ⟨b, hbe⟩ : ∃ b, p.getD (j + 1) 0 = b := ⟨_, rfl⟩
  have hno : expF n E L a b = none → liftV n E L k Ts S = .tup [sbV true 0 [] [], .one (.s (.b false))] := fun h => by
    rw [← hae, ← hbe] at h
    have := liftN_no (f := expF n E L) hlt (by rw [hpe]; exact liftF_no hjl h)
    unfold liftV
    rw [hlo, this]
  have hyes : ∀ m, expF n E L a b = some m → liftA (expF n E L) p (j + 1) = some (q ++ m.tail) := fun m h => by
    rw [← hae, ← hbe] at h
    exact liftA_go hq h
  rw [hae, hbe] at hkey hin
  rw [hae] at g0 ha
  rw [hbe] at g1 hb
  clear hae hbe
  refine Look.by _ hpg ?_
  refine Idx.by j rfl (by rw [ints_length]; omega) ?_
  refine Look.by _ hpg ?_
  refine Look.by _ (ints_get g0) ?_
  refine Pick.T (inI64_of (by omega) (by omega)) ?_
  refine Look.by _ hpg ?_
  refine Idx.by (j + 1) (by omega) (by rw [ints_length]; omega) ?_
  refine Look.by _ hpg ?_
  refine Look.by _ (ints_get g1) ?_
  refine Bar.by (by kernel_rfl) (by kernel_rfl) ?_
  refine Pick.T (min_in (inI64_iff.2 ha) (inI64_iff.2 hb)) ?_
  refine Pick.T (max_in (inI64_iff.2 ha) (inI64_iff.2 hb)) ?_
  refine Pick.by (fun hc1 => ?_) (fun hc1 => ?_)
  · have hk : ¬ inKeys (addsL L) a b := fun k => by
      have hc1 : (!mapHas (byL (addsL L)) (key2 a b)) = true := hc1
      rw [hkey.2 k] at hc1; simp at hc1
    refine Call.by _ _ (HasGC_at _ _ (by have := hR.2.2.1; omega)) ?_
    refine Pick.by (fun hc2 => ?_) (fun hc2 => ?_)
    · have hc2 : hasG n E a b = false := by have hc2 : (!hasG n E a b) = true := hc2; simpa using hc2
      have hE : ¬ adjE E a b := fun k => by
        have : hasG n E a b = true := by unfold hasG; simp [hR, mem_nearL.2 k]
        rw [this] at hc2; simp at hc2
      have hv := hno (if_neg fun h => h.2.elim hE hk)
      rw [hv]
      refine Seg.by (by kernel_rfl) ?_
      refine ⟨rfl, ?_⟩
      (repeat' first | exact rfl | exact trivial | refine And.intro ?_ ?_)
    · have hc2 : hasG n E a b = true := by have hc2 : (!hasG n E a b) = false := hc2; simpa using hc2
      have hE : adjE E a b := by unfold hasG at hc2; simp at hc2; exact mem_nearL.1 hc2.2
      obtain ⟨m, hm, hmv⟩ : ∃ m, expF n E L a b = some m ∧ m = [[a], pth (addsL L) a b, [b]].flatten := ⟨_, if_pos ⟨h1, .inl hE⟩, by simp⟩
      have hml := expF_len hL hm
      refine Call.by _ _ (recC_at hin) ?_
      refine Call.by _ _ (ConcatC_at (L := [[a], pth (addsL L) a b, [b]]) ⟨by simp, by rw [← hmv]; omega⟩) ?_
      rw [← hmv]
      refine Seg.by (by kernel_rfl) ?_
      refine Rng.by 1 m.length rfl (by rw [ints_length]) (by omega) (by rw [ints_length]; omega) ?_
      refine Pick.T (decide_eq_true (by rw [tail_cut, ints_length, ints_length, List.length_tail]; omega)) ?_
      refine Pick.T (inI64_of (by omega) (by omega)) ?_
      refine Next.by (j + 1, q ++ m.tail) ⟨by dsimp only; omega, hyes m hm⟩ (by dsimp only; omega) (by refine Weak.by [(0, some _), (1, some _), (2, some _), (3, some _), (4, some _), (5, some _), (6, some _), (7, some _), (8, some _), (9, some _), (10, some _)] (by ((repeat' first | exact rfl | exact trivial | refine And.intro ?_ ?_) <;> (repeat' first | exact rfl | exact trivial | refine And.intro ?_ ?_)); all_goals (first | (rw [ints_append, ← tail_cut]; rfl) | (simp; done))) (by ((repeat' first | exact rfl | exact trivial | refine And.intro ?_ ?_) <;> (repeat' first | exact rfl | exact trivial | refine And.intro ?_ ?_)); all_goals (first | (rw [ints_append, ← tail_cut]; rfl) | (simp; done))) (by rfl))
  · have hk : inKeys (addsL L) a b := hkey.1 (by
      have hc1 : (!mapHas (byL (addsL L)) (key2 a b)) = false := hc1
      simpa using hc1)
    obtain ⟨m, hm, hmv⟩ : ∃ m, expF n E L a b = some m ∧ m = [[a], pth (addsL L) a b, [b]].flatten := ⟨_, if_pos ⟨h1, .inr hk⟩, by simp⟩
    have hml := expF_len hL hm
    refine Call.by _ _ (recC_at hin) ?_
    refine Call.by _ _ (ConcatC_at (L := [[a], pth (addsL L) a b, [b]]) ⟨by simp, by rw [← hmv]; omega⟩) ?_
    rw [← hmv]
    refine Seg.by (by kernel_rfl) ?_
    refine Rng.by 1 m.length rfl (by rw [ints_length]) (by omega) (by rw [ints_length]; omega) ?_
    refine Pick.T (decide_eq_true (by rw [tail_cut, ints_length, ints_length, List.length_tail]; omega)) ?_
    refine Pick.T (inI64_of (by omega) (by omega)) ?_
    refine Next.by (j + 1, q ++ m.tail) ⟨by dsimp only; omega, hyes m hm⟩ (by dsimp only; omega) (by refine Weak.by [(0, some _), (1, some _), (2, some _), (3, some _), (4, some _), (5, some _), (6, some _), (7, some _), (8, some _), (9, some _), (10, some _)] (by ((repeat' first | exact rfl | exact trivial | refine And.intro ?_ ?_) <;> (repeat' first | exact rfl | exact trivial | refine And.intro ?_ ?_)); all_goals (first | (rw [ints_append, ← tail_cut]; rfl) | (simp; done))) (by ((repeat' first | exact rfl | exact trivial | refine And.intro ?_ ?_) <;> (repeat' first | exact rfl | exact trivial | refine And.intro ?_ ?_)); all_goals (first | (rw [ints_append, ← tail_cut]; rfl) | (simp; done))) (by rfl))
end Go.Sh

set_option linter.unusedVariables false
set_option linter.unusedSimpArgs false
namespace Go.Sh
open Go.Proofs
/-! ### carcanetref11.paths -/
end Go.Sh

set_option linter.unusedVariables false
set_option linter.unusedSimpArgs false
namespace Go.Sh
open Go.Proofs
/-! ### carcanetref11.Edge, carcanetref11.Lift -/
end Go.Sh

set_option linter.unusedVariables false
set_option linter.unusedSimpArgs false
namespace Go.Sh
open Go.Proofs
/-! ### carcanetlaw11.small, ours -/
/-! ### carcanetref09.Same -/
/-! ### carcanetlaw11.shown -/
def E11 : List Ed := [(0, 1), (0, 3), (1, 2), (2, 3)]
def l11 : List Stp := [(0, 1, 3, true)]
theorem right11 : RightP 4 E11 := by unfold RightP E11 okE; decide
theorem repl11 : (replO 4 E11 l11).2 = true := by unfold replO; rw [if_pos right11]; decide
theorem repl11n {n : Int} {E : List Ed} (h : RightP n E) : (replO n E []).2 = true := by unfold replO; rw [if_pos h]; rfl
theorem exp_a : expF 4 E11 l11 3 1 = some [3, 0, 1] := (if_pos ⟨repl11, .inr (by decide)⟩ : _ = some (3 :: pth (addsL l11) 3 1 ++ [1])).trans (by decide)
theorem exp_b : expF 4 E11 l11 2 1 = some [2, 1] := (if_pos ⟨repl11, .inl (by unfold adjE; decide)⟩ : _ = some (2 :: pth (addsL l11) 2 1 ++ [1])).trans (by decide)
theorem exp_c : expF 4 E11 l11 1 3 = some [1, 0, 3] := (if_pos ⟨repl11, .inr (by decide)⟩ : _ = some (1 :: pth (addsL l11) 1 3 ++ [3])).trans (by decide)
theorem exp_n : expF 4 E11 [] 3 1 = none := if_neg fun h => h.2.elim (by unfold adjE; decide) (by decide)
theorem lift11 : liftV 4 E11 l11 7 [] [[2, 1, 3]] = .tup [sbV true 7 [] [[2, 1, 0, 3]], .one (.s (.b true))] := by
  have : liftO 4 E11 l11 [[2, 1, 3]] = some [[2, 1, 0, 3]] := by
    unfold liftO
    rw [if_pos repl11]
    simp [liftN, liftF, liftA, exp_b, exp_c]
  unfold liftV
  rw [this]
noncomputable def Shown11C : Con := conP 0 (fun _ : Unit => True) (fun _ => []) (fun _ => .one (.s (.b true)))
theorem Shown11C_at : Shown11C.F [] = some (.one (.s (.b true)), []) := conP_at (a := ()) (fun a b _ _ h => rfl) trivial
set_option maxHeartbeats 1000000 in
theorem Shown11_ok : SoundC Try.prog T 15 Shown11C := by
  refine sound_con (X := { Γ := [(17, EdgeC), (22, LiftC)], T := T, nt := 90 }) cr_none hmix hT (sound_cons Edge_ok (sound_cons Lift_ok sound_nil)) Try.func15 (by rfl) (by rfl) (by rfl) (by rfl) 0 ?_
  rintro ⟨⟩ -
  refine ⟨⟨Nat.le_of_ble_eq_true rfl, Nat.le_of_ble_eq_true rfl⟩, ?_⟩
  have h1 := EdgeC_at (n := 4) (E := E11) (l := l11) (a := 3) (b := 1) ⟨by decide, by unfold i64; omega, by unfold i64; omega⟩
  rw [exp_a] at h1
  refine Call.by _ _ h1 ?_
  have h2 := EdgeC_at (n := 4) (E := E11) (l := []) (a := 3) (b := 1) ⟨by decide, by unfold i64; omega, by unfold i64; omega⟩
  rw [exp_n] at h2
  refine Call.by _ _ h2 ?_
  have h3 := LiftC_at (n := 4) (E := E11) (l := l11) (k := 7) (Ts := []) (L := [[2, 1, 3]]) ⟨by decide, by decide, by unfold fewL; decide, fun p hp x hx => by
    simp only [List.mem_singleton] at hp
    subst hp
    simp only [List.mem_cons, List.not_mem_nil, or_false] at hx
    unfold i64
    omega⟩
  rw [lift11] at h3
  refine Call.by _ _ h3 ?_
  refine Idx.by 0 rfl (by decide) ?_
  refine Look.by [.i .i64 3] rfl ?_
  refine Idx.by 1 rfl (by decide) ?_
  refine Look.by [.i .i64 0] rfl ?_
  refine Idx.by 0 rfl (by decide) ?_
  refine Look.by (ints [2, 1, 0, 3]) rfl ?_
  refine Idx.by 0 rfl (by decide) ?_
  refine Look.by (ints [2, 1, 0, 3]) rfl ?_
  refine Idx.by 2 rfl (by decide) ?_
  refine Look.by (ints [2, 1, 0, 3]) rfl ?_
  refine Look.by [.i .i64 0] rfl ?_
  exact ⟨rfl, rfl⟩
end Go.Sh

set_option linter.unusedVariables false
set_option linter.unusedSimpArgs false
namespace Go.Sh
open Go.Proofs
/-! ### ExpandTells, ExpandLifts, ExpandWrong, ExpandOwn -/
/-! #### what is lifted -/
theorem exp_own {n : Int} {E : List Ed} {l : List Stp} {a b : Int} (h : (replO n E l).2 = true) (hE : adjE E a b) : expF n E l a b = some [a, b] := by
  obtain ⟨_, N, G, _, hX⟩ := runs_end h
  have hno : ¬ inKeys (addsL l) a b := fun ⟨e, he, hk⟩ => by
    have hlt := hX.val.lt e he
    have hx := hX.exc e he
    rcases hE with hE | hE
    · have := (hX.ends _ hE).2.1
      rcases hk with ⟨rfl, rfl⟩ | ⟨rfl, rfl⟩
      · exact hx hE
      · dsimp only at this; omega
    · have := (hX.ends _ hE).2.1
      rcases hk with ⟨rfl, rfl⟩ | ⟨rfl, rfl⟩
      · dsimp only at this; omega
      · exact hx hE
  refine (if_pos ⟨h, .inl hE⟩ : _ = some (a :: pth (addsL l) a b ++ [b])).trans ?_
  rw [pth_no hno]; rfl
theorem exp_far {n : Int} {E : List Ed} {l : List Stp} {a b : Int} {q : List Int} (hE : ¬ adjE E a b) (h : expF n E l a b = some q) : 3 ≤ q.length := by
  unfold expF at h
  split at h
  · rename_i hc
    have hk := hc.2.resolve_left hE
    have := List.length_pos_iff.2 (pth_some hk)
    injection h with h
    rw [← h]
    simp
    omega
  · simp at h
noncomputable def XOwnF := conF (fun _ : (Int × List Ed) × (Int × Int) × Int => True) (fun a => [grV a.1.1 a.1.2, .agg [.s (.i .i64 a.2.1.1), .s (.i .i64 a.2.1.2)], .one (.s (.i .i64 a.2.2))]) (fun _ => .one (.s (.b true)))
set_option maxHeartbeats 2000000 in
theorem XOwn_ok : SoundP Try.prog 6 XOwnF := by
  refine con_pure (X := { Γ := [(15, Shown11C), (16, OfC), (26, RunC), (17, EdgeC), (27, HasGC), (20, SameC)], T := T, nt := 111 }) cr_none hmix hT (sound_cons Shown11_ok (sound_cons Of_ok (sound_cons Run_ok (sound_cons Edge_ok (sound_cons Has_ok (sound_cons Same_ok sound_nil)))))) Try.func6 (by rfl) (by rfl) (by rfl) 5 ?_
  rintro ⟨⟨n, E⟩, ⟨x, y⟩, k⟩ -
  dsimp only
  refine ⟨⟨Nat.le_of_ble_eq_true rfl, Nat.le_of_ble_eq_true rfl⟩, ?_⟩
  refine Call.by _ _ Shown11C_at ?_
  refine Call.by _ _ (OfC_at n E (most := 30) (by omega)) ?_
  have hR := any_right (n := n) (l := E) (most := 30) (by omega) (by omega)
  have hr := anyN_range (n := n) (most := 30) (by omega)
  obtain ⟨m, hm⟩ : ∃ m, anyN n 30 = m := ⟨_, rfl⟩
  obtain ⟨F, hF⟩ : ∃ F, anyE n E 30 = F := ⟨_, rfl⟩
  rw [hm] at hr
  rw [hm, hF] at hR ⊢
  have hF3 := hR.2.2.1
  refine Pick.by (fun h0 => ?_) (fun h0 => ?_)
  · exact ⟨rfl, rfl⟩
  have h0 : m ≠ 0 := beq_eq_false_iff_ne.1 h0
  have hx := tmod_range (low_range x).1 (show 0 < m by omega)
  have hy := tmod_range (low_range y).1 (show 0 < m by omega)
  obtain ⟨a, ha⟩ : ∃ a, (low x).tmod m = a := ⟨_, rfl⟩
  obtain ⟨b, hb⟩ : ∃ b, (low y).tmod m = b := ⟨_, rfl⟩
  rw [ha] at hx
  rw [hb] at hy
  refine Idx.by 0 rfl (by decide) ?_
  refine Pick.F (beq_eq_false_iff_ne.2 h0) ?_
  refine Idx.by 1 rfl (by decide) ?_
  refine Pick.F (beq_eq_false_iff_ne.2 h0) ?_
  obtain ⟨h1, h2, h3⟩ := runO_len m F
  refine Call.by _ _ (RunC_at m F) ?_
  have hl := tmod_range (low_range k).1 (show (0 : Int) < (((stps (runO m F).1).length : Nat) : Int) + 1 by omega)
  obtain ⟨q, hq⟩ : ∃ q : Nat, (low k).tmod ((((stps (runO m F).1).length : Nat) : Int) + 1) = q := ⟨_, (Int.toNat_of_nonneg hl.1).symm⟩
  rw [hq] at hl
  have hql : q ≤ (runO m F).1.length := by rw [stps_length] at hl; omega
  refine Pick.T (by rw [stps_length]; exact inI64_of (by omega) (by omega)) ?_
  refine Rng.by 0 q rfl hq (by omega) (by show q ≤ (stps (runO m F).1).length; rw [stps_length]; exact hql) ?_
  have hcut : cut (subOf none 0 0 q) (stps (runO m F).1) = stps ((runO m F).1.take q) := by
    simp only [subOf, cut, List.drop_zero, Nat.sub_zero, stps, List.map_take]
  have hlt : ((runO m F).1.take q).length = q := by rw [List.length_take]; omega
  obtain ⟨hp1, _⟩ := run_rest hR (by omega) q
  have hok : (replO m F ((runO m F).1.take q)).2 = true := by rw [hp1]
  have hia : i64 a := by unfold i64; omega
  have hib : i64 b := by unfold i64; omega
  have he := EdgeC_at (n := m) (E := F) (l := (runO m F).1.take q) (a := a) (b := b) ⟨by omega, hia, hib⟩
  rw [← hcut, ← ha, ← hb] at he
  refine Call.by _ _ he ?_
  have he2 := EdgeC_at (n := m) (E := F) (l := []) (a := a) (b := b) ⟨by simp, hia, hib⟩
  rw [← ha, ← hb] at he2
  refine Call.by _ _ he2 ?_
  have hh := HasGC_at (n := m) (E := F) a b (by omega)
  rw [← ha, ← hb] at hh
  refine Call.by _ _ hh ?_
  subst ha hb
  by_cases hE : adjE F ((low x).tmod m) ((low y).tmod m)
  · have hg : hasG m F ((low x).tmod m) ((low y).tmod m) = true := by unfold hasG; simp [hR, mem_nearL.2 hE]
    rw [hg, exp_own hok hE, exp_own (repl11n hR) hE]
    have hs := SameC_at [(low x).tmod m, (low y).tmod m] [(low x).tmod m, (low y).tmod m] (by simp) (by simp)
    rw [decide_eq_true rfl] at hs
    refine Call.by _ _ hs ?_
    refine Call.by _ _ hs ?_
    exact ⟨rfl, rfl⟩
  · have hg : hasG m F ((low x).tmod m) ((low y).tmod m) = false := by
      cases hc : hasG m F ((low x).tmod m) ((low y).tmod m) with
      | false => rfl
      | true => unfold hasG at hc; simp at hc; exact absurd (mem_nearL.1 hc.2) hE
    have hn : expF m F [] ((low x).tmod m) ((low y).tmod m) = none := if_neg fun h => h.2.elim hE fun ⟨e, he, _⟩ => by simp [addsL] at he
    rw [hg, hn]
    obtain h4 | ⟨p, h4⟩ : expF m F ((runO m F).1.take q) ((low x).tmod m) ((low y).tmod m) = none ∨ ∃ p, expF m F ((runO m F).1.take q) ((low x).tmod m) ((low y).tmod m) = some p := by cases expF m F ((runO m F).1.take q) ((low x).tmod m) ((low y).tmod m) <;> simp
    · rw [h4]
      exact ⟨rfl, rfl⟩
    · have hpl := exp_far hE h4
      rw [h4]
      refine ⟨rfl, ?_⟩
      show Sc.b (decide (((ints p).length : Int) > 2)) = Sc.b true
      rw [ints_length, decide_eq_true (by omega)]
end Go.Sh

set_option linter.unusedVariables false
set_option linter.unusedSimpArgs false
namespace Go.Sh
open Go.Proofs
/-! ### what is handed in, as data -/
theorem VTy.struct {T : Tab} {t : Nat} {ti : TI} {fs : List (Nat × Nat)} {v : V} (ht : lk T t = some ti) (hk : ti.kind = .struct fs) (h : VTy T t v) : ∃ cs, v = .agg cs ∧ All2 (fun (f : Nat × Nat) c => CTy T f.2 c) fs cs := by
  unfold VTy at h
  rw [ht] at h
  simp only at h
  rw [hk] at h
  exact h
theorem VTy.cell {T : Tab} {t : Nat} {ti : TI} {v : V} (ht : lk T t = some ti) (hk : ∀ fs, ti.kind ≠ .struct fs ∧ ∀ n e, ti.kind ≠ .array n e) (h : VTy T t v) : ∃ c, v = .one c ∧ CTy T t c := by
  unfold VTy at h
  rw [ht] at h
  simp only at h
  cases hq : ti.kind with
  | struct fs => exact absurd hq (hk fs).1
  | array n e => exact absurd hq ((hk []).2 n e)
  | _ => rw [hq] at h; exact h
theorem VTy.array {T : Tab} {t : Nat} {ti : TI} {n e : Nat} {v : V} (ht : lk T t = some ti) (hk : ti.kind = .array n e) (h : VTy T t v) : ∃ cs, v = .agg cs ∧ cs.length = n ∧ ∀ c ∈ cs, CTy T e c := by
  unfold VTy at h
  rw [ht] at h
  simp only at h
  rw [hk] at h
  exact h
theorem ScTy.int {T : Tab} {t : Nat} {ti : TI} {k : IntKind} {x : Sc} (ht : lk T t = some ti) (hk : ti.kind = .int k) (h : ScTy T t x) : ∃ n, x = .i k n ∧ (Lit.int k n).wf = true := by
  unfold ScTy at h
  rw [ht] at h
  simp only at h
  rw [hk] at h
  cases x with
  | i k' n => obtain ⟨rfl, h⟩ := h; exact ⟨n, rfl, h⟩
  | b _ => exact h.elim
theorem CTy.sc {T : Tab} {t : Nat} {c : C} (hs : sliceE T t = none) (h : CTy T t c) : ∃ x, c = .s x ∧ ScTy T t x := by
  unfold CTy at h
  rw [hs] at h
  exact h
theorem CTy.flat {T : Tab} {t e : Nat} {c : C} (hs : sliceE T t = some e) (hs2 : sliceE T e = none) (h : CTy T t c) : ∃ rows, c = .flat false (sizeT T e) rows ∧ FlatTy T e rows := by
  unfold CTy at h
  rw [hs] at h
  simp only at h
  rw [hs2] at h
  exact h
theorem CTy.nest {T : Tab} {t e e2 : Nat} {c : C} (hs : sliceE T t = some e) (hs2 : sliceE T e = some e2) (h : CTy T t c) : ∃ rows, c = .nest false (sizeT T e2) rows ∧ rows.length ≤ maxLen ∧ ∀ fl ∈ rows, FlatTy T e2 fl := by
  unfold CTy at h
  rw [hs] at h
  simp only at h
  rw [hs2] at h
  exact h
theorem i64_wf {n : Int} (h : (Lit.int .i64 n).wf = true) : i64 n := by
  simp [Lit.wf, IntKind.min, IntKind.max, IntKind.signed, IntKind.bits] at h
  exact h
theorem list_ex {α β : Type} {P : α → β → Prop} : ∀ {l : List α}, (∀ x ∈ l, ∃ y, P x y) → ∃ m : List β, All2 P l m := by
  intro l
  induction l with
  | nil => intro _; exact ⟨[], All2.nil⟩
  | cons x l ih =>
    intro h
    obtain ⟨y, hy⟩ := h x (by simp)
    obtain ⟨m, hm⟩ := ih fun x hx => h x (by simp [hx])
    exact ⟨y :: m, All2.cons' hy hm⟩
theorem All2.map_eq {α β : Type} {f : β → α} {l : List α} {m : List β} (h : All2 (fun x y => x = f y) l m) : l = m.map f := by
  apply List.ext_getElem?
  intro i
  rw [List.getElem?_map]
  by_cases hi : i < l.length
  · have him : i < m.length := by rw [← h.1]; exact hi
    rw [List.getElem?_eq_getElem hi, List.getElem?_eq_getElem him, Option.map_some, h.2 i _ _ (List.getElem?_eq_getElem hi) (List.getElem?_eq_getElem him)]
  · rw [List.getElem?_eq_none (by omega), List.getElem?_eq_none (by rw [← h.1]; omega)]; rfl
theorem All2.mem {α β : Type} {R : α → β → Prop} {l : List α} {m : List β} (h : All2 R l m) {y : β} (hy : y ∈ m) : ∃ x ∈ l, R x y := by
  obtain ⟨i, hi⟩ := List.mem_iff_getElem?.1 hy
  have hl := (List.getElem?_eq_some_iff.1 hi).1
  rw [← h.1] at hl
  exact ⟨_, List.getElem_mem hl, h.2 i _ y (List.getElem?_eq_getElem hl) hi⟩
/-! #### at this program's types -/
theorem All2.two {α β : Type} {R : α → β → Prop} {a b : α} {m : List β} (h : All2 R [a, b] m) : ∃ x y, m = [x, y] ∧ R a x ∧ R b y := by
  obtain ⟨h1, h2⟩ := h
  match m, h1, h2 with
  | [x, y], _, h2 => exact ⟨x, y, rfl, h2 0 a x rfl rfl, h2 1 b y rfl rfl⟩
theorem All2.one {α β : Type} {R : α → β → Prop} {a : α} {m : List β} (h : All2 R [a] m) : ∃ x, m = [x] ∧ R a x := by
  obtain ⟨h1, h2⟩ := h
  match m, h1, h2 with
  | [x], _, h2 => exact ⟨x, rfl, h2 0 a x rfl rfl⟩
theorem All2.three {α β : Type} {R : α → β → Prop} {a b c : α} {m : List β} (h : All2 R [a, b, c] m) : ∃ x y z, m = [x, y, z] ∧ R a x ∧ R b y ∧ R c z := by
  obtain ⟨h1, h2⟩ := h
  match m, h1, h2 with
  | [x, y, z], _, h2 => exact ⟨x, y, z, rfl, h2 0 a x rfl rfl, h2 1 b y rfl rfl, h2 2 c z rfl rfl⟩
theorem row_edge {row : Row} (h : RowTy T 59 row) : ∃ p : Ed, row = [.i .i64 p.1, .i .i64 p.2] ∧ i64 p.1 ∧ i64 p.2 := by
  obtain ⟨_, h⟩ := h
  obtain ⟨x, y, rfl, hx, hy⟩ := All2.two h
  obtain ⟨n, rfl, hn⟩ := ScTy.int (t := 3) rfl rfl hx
  obtain ⟨m, rfl, hm⟩ := ScTy.int (t := 3) rfl rfl hy
  exact ⟨(n, m), rfl, i64_wf hn, i64_wf hm⟩
theorem edges_of {fl : Flat} (h : FlatTy T 59 fl) : ∃ E : List Ed, fl = edges E ∧ E.length ≤ maxLen ∧ ∀ p ∈ E, i64 p.1 ∧ i64 p.2 := by
  obtain ⟨m, hm⟩ := list_ex (P := fun row (p : Ed) => row = [Sc.i .i64 p.1, Sc.i .i64 p.2] ∧ i64 p.1 ∧ i64 p.2) fun row hr => row_edge (h.2 row hr)
  refine ⟨m, All2.map_eq (f := fun p : Ed => [Sc.i .i64 p.1, Sc.i .i64 p.2]) (hm.imp fun _ _ _ k => k.1), by rw [← hm.1]; exact h.1, fun x hx => ?_⟩
  obtain ⟨_, _, k⟩ := hm.mem hx
  exact k.2
theorem int_of {v : V} (h : VTy T 3 v) : ∃ n, v = .one (.s (.i .i64 n)) ∧ i64 n := by
  obtain ⟨c, rfl, hc⟩ := VTy.cell (ti := { kind := .int .i64, size := _, bytes := _, zero := _, eqs := _, cells := _ }) rfl (fun fs => by simp) h
  obtain ⟨x, rfl, hx⟩ := CTy.sc rfl hc
  obtain ⟨n, rfl, hw⟩ := ScTy.int (t := 3) rfl rfl hx
  exact ⟨n, rfl, i64_wf hw⟩
theorem net_of {v : V} (h : VTy T 24 v) : ∃ n E, v = grV n E ∧ i64 n ∧ ∀ p ∈ E, i64 p.1 ∧ i64 p.2 := by
  obtain ⟨cs, rfl, hcs⟩ := VTy.struct (t := 24) rfl rfl h
  obtain ⟨x, y, rfl, hx, hy⟩ := All2.two hcs
  obtain ⟨z, rfl, hz⟩ := CTy.sc (t := 3) rfl hx
  obtain ⟨n, rfl, hw⟩ := ScTy.int (t := 3) rfl rfl hz
  obtain ⟨rows, rfl, hr⟩ := CTy.flat (t := 22) (e := 59) rfl rfl hy
  obtain ⟨E, rfl, _, hE⟩ := edges_of hr
  exact ⟨n, E, rfl, i64_wf hw, hE⟩
end Go.Sh

set_option linter.unusedVariables false
namespace Go.Sh
open Go.Proofs
theorem own : ownKnob Try.prog.godebug = none := by kernel_rfl
theorem laidOut : laidOutB Try.prog = true := by kernel_rfl
set_option maxRecDepth 100000 in
/-- A law whose function answers true, whatever comes. -/
theorem law_row {s : ChangeSpec} {f : FuncId} {fn : Func} {conds : List PathCond} {apart fresh handsOn : Bool} {ts : List TypeId} {F : List V → Option (V × List V)} (hf : Try.prog.funcs[f]? = some fn) (hin : Try.prog.inits.idxOf? f = none) (hv : s.vars = [])
    (hts : fn.params.toList = ts) (ha : ts.all (argB T) = true) (hr : ts.all (fun t => Try.prog.readableRec t && Nat.blt t Try.prog.types.size) = true) (hres : fn.resultTypes = #[4])
    (hsp : ∀ (H : Type) (ds : List (DataW H)), ds.length = ts.length → (s.fn H ds).results = [.lit (.bool true)] ∧ (s.fn H ds).args = ds ∧ (s.fn H ds).vars = [])
    (hS : SoundP Try.prog f F) (hF : LawV T ts F) (os : Os) (started : os.Started) (H : Type) (enc : TypeId × Value → H) (a : Assume)
    (hw : ∃ (w : World) (tape : Tape) (i : Input), w.os = os ∧ (w.forCall tape i).Shaped Try.checked.prog ∧ i.vars = [] ∧ Input.okWide Try.checked.prog (w.forCall tape i) .any w.heap.size f i ∧
      s.pre6 enc Try.checked.prog fn conds apart (w.forCall tape i).memory i.args ∧ a.holds Try.checked.prog (lone (Frame.enter Try.checked.prog f i.args .normal) [] (w.forCall tape i))) :
    ReturnsInHanded a Try.checked os f .any (s.pre6 enc Try.checked.prog fn conds apart) (s.post enc Try.checked.prog fn apart fresh handsOn false) := by
  refine returnsInHanded_of_change (C := Try.checked) own started hin hf hw ?_
  intro W base args ds gs before hval hW _ _
  refine law_contract (P := Try.prog) (conds := conds) hT laidOut hv hts ha (fun t ht => ?_) hres Try.underlying4 (hsp H) hS hF hval hW
  have := List.all_eq_true.1 hr t ht
  simp only [Bool.and_eq_true] at this
  exact ⟨this.1, Nat.le_of_ble_eq_true this.2⟩
end Go.Sh

set_option linter.unusedVariables false
namespace Go.Sh
open Go.Proofs
/-! ### more of what is handed in, as data -/
theorem ScTy.bool {T : Tab} {t : Nat} {ti : TI} {x : Sc} (ht : lk T t = some ti) (hk : ti.kind = .bool) (h : ScTy T t x) : ∃ b, x = .b b := by
  unfold ScTy at h
  rw [ht] at h
  simp only at h
  rw [hk] at h
  cases x with
  | i k' n => exact h.elim
  | b b => exact ⟨b, rfl⟩
end Go.Sh

set_option linter.unusedVariables false
set_option linter.unusedSimpArgs false
namespace Go.Sh
open Go.Proofs
/-! ### slices.Index, slices.Contains -/
/-! ### bags.rising -/
end Go.Sh

set_option linter.unusedVariables false
set_option linter.unusedSimpArgs false
namespace Go.Sh
open Go.Proofs
/-! ### bags: what they are -/
end Go.Sh

set_option linter.unusedVariables false
namespace Go.Sh
open Go.Proofs
/-! ### more of what is handed in, as data: bags -/
end Go.Sh

set_option linter.unusedVariables false
namespace Go.Sh
open Go.Proofs
/-! ### two numbers in an array -/
theorem two_of {v : V} (h : VTy T 26 v) : ∃ a b : Int, v = .agg [.s (.i .i64 a), .s (.i .i64 b)] ∧ i64 a ∧ i64 b := by
  obtain ⟨cs, rfl, hl, hc⟩ := VTy.array (t := 26) (n := 2) (e := 3) rfl rfl h
  match cs, hl, hc with
  | [x, y], _, hc =>
    obtain ⟨p, rfl, hp⟩ := CTy.sc (t := 3) rfl (hc x (by simp))
    obtain ⟨a, rfl, ha⟩ := ScTy.int (t := 3) rfl rfl hp
    obtain ⟨q, rfl, hq⟩ := CTy.sc (t := 3) rfl (hc y (by simp))
    obtain ⟨b, rfl, hb⟩ := ScTy.int (t := 3) rfl rfl hq
    exact ⟨a, b, rfl, i64_wf ha, i64_wf hb⟩
end Go.Sh
