/- What the functions answer that the statement reaches. No condition. -/
import Derived.Test.YtddlfeclbffloaaFn2
import Derived.RangeFuncBox
import Derived.RangeFuncLeaves
import Derived.Shelf.Abstract
import Derived.WalkKit
import Derived.OwnWalkIn
import Derived.TacticsInMore
import Derived.LoopNIn
import Derived.LoopIn
import Derived.Maps.AppendAt
import Derived.Test.YtddlfeclbffloaaProg
import Derived.Shelf.Sort.Plain
import Derived.Shelf.Slices.In.SortNone
import Derived.Shelf.Slices.CompactI
import Derived.Ground.NamesProg
import Derived.Ground.Names2Prog
import Derived.Sort.OwnSorted
import Derived.Shelf.SlIterI.Sorted
import Derived.Test.YtddlfeclbffloaaRows
set_option linter.unusedVariables false
set_option linter.unusedSimpArgs false
namespace Go.Sh
/-! ### reduction by a table -/
def inAt (I : List Bool) (v : Nat) : Bool := I.getD v false
def matAt (M : List (List Bool)) (u v : Nat) : Bool := (M.getD u []).getD v false
def setM (M : List (List Bool)) (u v : Nat) : List (List Bool) := M.set u ((M.getD u []).set v true)
def nearM (I : List Bool) (M : List (List Bool)) (v : Nat) : List Int := ((List.range I.length).filter fun x => inAt I x && matAt M v x).map fun (x : Nat) => (x : Int)
structure Sqr (n : Nat) (M : List (List Bool)) : Prop where
  len : M.length = n
  row : ∀ r ∈ M, r.length = n
theorem Sqr.at_ {n : Nat} {M : List (List Bool)} (h : Sqr n M) {u : Nat} (hu : u < n) : M[u]? = some (M.getD u []) ∧ (M.getD u []).length = n := by
  have hlt : u < M.length := by rw [h.len]; exact hu
  rw [List.getD_eq_getElem?_getD, List.getElem?_eq_getElem hlt]
  exact ⟨rfl, h.row _ (List.getElem_mem hlt)⟩
theorem Sqr.set {n : Nat} {M : List (List Bool)} (h : Sqr n M) {u v : Nat} (hu : u < n) : Sqr n (setM M u v) := by
  refine ⟨by rw [setM, List.length_set]; exact h.len, fun r hr => ?_⟩
  rcases List.mem_or_eq_of_mem_set hr with hr | rfl
  · exact h.row r hr
  · rw [List.length_set]; exact (h.at_ hu).2
theorem setM_at {n : Nat} {M : List (List Bool)} (h : Sqr n M) {u v : Nat} (hu : u < n) (hv : v < n) (a b : Nat) : matAt (setM M u v) a b = (matAt M a b || (decide (a = u) && decide (b = v))) := by
  unfold matAt setM
  have hl := (h.at_ hu).2
  rw [List.getD_eq_getElem?_getD (l := M.set u _), List.getElem?_set]
  by_cases e : u = a
  · subst e
    rw [if_pos rfl, if_pos (by rw [h.len]; exact hu)]
    simp only [Option.getD_some]
    rw [List.getD_eq_getElem?_getD, List.getElem?_set]
    by_cases e2 : v = b
    · subst e2
      rw [if_pos rfl, if_pos (by rw [hl]; exact hv)]; simp
    · rw [if_neg e2, ← List.getD_eq_getElem?_getD]
      have : ¬ b = v := fun h => e2 h.symm
      simp [this]
  · rw [if_neg e]
    have : ¬ a = u := fun h => e h.symm
    simp [this, List.getD_eq_getElem?_getD]
/-- the table tells what the rows tell -/
structure Sim (n : Nat) (N : List (List Int)) (G I : List Bool) (M : List (List Bool)) : Prop where
  wf : Wf N G
  len : N.length = n
  il : I.length = n
  sq : Sqr n M
  inn : ∀ v, v < n → inAt I v = !goneAt G v
  adj : ∀ u v, u < n → v < n → inAt I u = true → inAt I v = true → (matAt M u v = true ↔ (v : Int) ∈ rowAt N u)
theorem sorted_eq : ∀ {l m : List Int}, l.Pairwise (· < ·) → m.Pairwise (· < ·) → (∀ x, x ∈ l ↔ x ∈ m) → l = m := by
  intro l
  induction l with
  | nil =>
    intro m _ _ h
    cases m with
    | nil => rfl
    | cons b m => have := (h b).2 (by simp); simp at this
  | cons a l ih =>
    intro m hl hm h
    cases m with
    | nil => have := (h a).1 (by simp); simp at this
    | cons b m =>
      rw [List.pairwise_cons] at hl hm
      have hab : a = b := by
        rcases List.mem_cons.1 ((h a).1 (by simp)) with e | e
        · exact e
        · rcases List.mem_cons.1 ((h b).2 (by simp)) with e2 | e2
          · exact e2.symm
          · have := hl.1 b e2; have := hm.1 a e; omega
      subst hab
      rw [ih hl.2 hm.2 fun x => ?_]
      have := h x
      simp only [List.mem_cons] at this
      constructor
      · intro hx
        rcases this.1 (.inr hx) with e | e
        · have := hl.1 x hx; omega
        · exact e
      · intro hx
        rcases this.2 (.inr hx) with e | e
        · have := hm.1 x hx; omega
        · exact e
theorem range_cast_sorted {p : Nat → Bool} (n : Nat) : (((List.range n).filter p).map fun (x : Nat) => (x : Int)).Pairwise (· < ·) := by
  rw [List.pairwise_map]
  exact (List.Pairwise.sublist List.filter_sublist List.pairwise_lt_range).imp fun h => by omega
theorem mem_range_cast {p : Nat → Bool} {n : Nat} {x : Int} : x ∈ ((List.range n).filter p).map (fun (x : Nat) => (x : Int)) ↔ ∃ k : Nat, k < n ∧ p k = true ∧ x = k := by
  rw [List.mem_map]
  constructor
  · rintro ⟨k, hk, rfl⟩
    rw [List.mem_filter, List.mem_range] at hk
    exact ⟨k, hk.1, hk.2, rfl⟩
  · rintro ⟨k, h1, h2, rfl⟩
    exact ⟨k, by rw [List.mem_filter, List.mem_range]; exact ⟨h1, h2⟩, rfl⟩
section
variable {n : Nat} {N : List (List Int)} {G I : List Bool} {M : List (List Bool)}
theorem Sim.inRow (h : Sim n N G I M) {u : Nat} {x : Int} (hx : x ∈ rowAt N u) : 0 ≤ x ∧ x < n ∧ inAt I x.toNat = true := by
  have hr := (h.wf.rows u).2 x hx
  rw [h.len] at hr
  refine ⟨hr.1, hr.2, ?_⟩
  rw [h.inn _ (by omega), Int.toNat_of_nonneg hr.1]
  cases hg : goneAt G x with
  | false => rfl
  | true =>
    have h1 := h.wf.gone x hr.1 hg
    have h2 := h.wf.sym u x (by omega) hr.1 hx
    rw [h1] at h2; simp at h2
theorem Sim.near (h : Sim n N G I M) {v : Nat} (hv : v < n) (hi : inAt I v = true) : nearM I M v = rowAt N v := by
  refine sorted_eq (range_cast_sorted _) (h.wf.rows v).1 fun x => ?_
  unfold nearM
  rw [mem_range_cast, h.il]
  constructor
  · rintro ⟨k, h1, h2, rfl⟩
    rw [Bool.and_eq_true] at h2
    exact (h.adj v k hv h1 hi h2.1).1 h2.2
  · intro hx
    obtain ⟨h0, h1, h2⟩ := h.inRow hx
    refine ⟨x.toNat, by omega, ?_, by omega⟩
    rw [h2, Bool.true_and]
    exact (h.adj v x.toNat hv (by omega) hi h2).2 (by rw [Int.toNat_of_nonneg h0]; exact hx)
theorem Sim.may (h : Sim n N G I M) (v : Nat) (hv : v < n) : mayB N G v = (inAt I v && decide ((nearM I M v).length ≤ 2)) := by
  unfold mayB
  rw [decide_eq_true (show (0 : Int) ≤ (v : Int) by omega), decide_eq_true (show (v : Int) < (N.length : Int) by rw [h.len]; omega), Bool.true_and, Bool.true_and, ← h.inn v hv]
  cases hi : inAt I v with
  | false => rfl
  | true => rw [h.near hv hi]
/-- the step that the table tells -/
theorem Sim.step (h : Sim n N G I M) {v : Nat} (hv : v < n) (hi : inAt I v = true) {a b : Int} (hl : rowAt N v = [a, b]) : (stepF N v).2.2.2 = !matAt M a.toNat b.toNat := by
  have ha := h.inRow (u := v) (x := a) (by rw [hl]; simp)
  have hb := h.inRow (u := v) (x := b) (by rw [hl]; simp)
  have key := h.adj a.toNat b.toNat (by omega) (by omega) ha.2.2 hb.2.2
  rw [Int.toNat_of_nonneg hb.1, Int.toNat_of_nonneg ha.1] at key
  show (decide (1 < (rowAt N v).length) && !(rowAt N ((rowAt N v).getD 0 (-1))).elem ((rowAt N v).getD 1 (-1))) = _
  rw [hl]
  show (decide (1 < 2) && !(rowAt N a).elem b) = _
  rw [show decide (1 < 2) = true from rfl, Bool.true_and]
  congr 1
  rw [Bool.eq_iff_iff, key]
  simp
def goM (N : List (List Int)) (M : List (List Bool)) (v : Nat) : List (List Bool) := match rowAt N v with
  | [a, b] => setM (setM M a.toNat b.toNat) b.toNat a.toNat
  | _ => M
theorem Sim.go (h : Sim n N G I M) {v : Nat} (hv : v < n) (hm : MayP N G v) : Sim n (doN N (stepF N v)) (doG G (stepF N v)) (I.set v false) (goM N M v) := by
  have hi : inAt I v = true := by rw [h.inn v hv, hm.there]; rfl
  obtain ⟨_, hc⟩ := step_two h.wf hm rfl
  have hset : ∀ u, inAt (I.set v false) u = (inAt I u && decide (u ≠ v)) := fun u => by
    unfold inAt
    rw [List.getD_eq_getElem?_getD, List.getElem?_set]
    by_cases e : v = u
    · subst e
      rw [if_pos rfl, if_pos (by rw [h.il]; exact hv)]; simp
    · rw [if_neg e, ← List.getD_eq_getElem?_getD]
      have : u ≠ v := fun h => e h.symm
      simp [this]
  have hsq : Sqr n (goM N M v) := by
    unfold goM
    split
    · rename_i a b hl
      have ha := h.inRow (u := v) (x := a) (by rw [hl]; simp)
      have hb := h.inRow (u := v) (x := b) (by rw [hl]; simp)
      exact (h.sq.set (by omega)).set (by omega)
    · exact h.sq
  refine ⟨do_wf h.wf hm, by rw [doN_length]; exact h.len, by rw [List.length_set]; exact h.il, hsq, fun u hu => ?_, fun u w hu hw hiu hiw => ?_⟩
  · rw [hset, do_gone h.wf hm (by omega), h.inn u hu]
    by_cases e : u = v
    · subst e; simp
    · rw [if_neg (by omega)]; simp [e]
  · rw [hset] at hiu hiw
    simp only [Bool.and_eq_true, decide_eq_true_eq] at hiu hiw
    obtain ⟨_, hrow⟩ := do_row h.wf hm (show (0 : Int) ≤ (u : Int) by omega)
    rw [hrow]
    have hadj := h.adj u w hu hw hiu.1 hiw.1
    have hne1 : (u : Int) ≠ (v : Int) := by have := hiu.2; omega
    have hne2 : (w : Int) ≠ (v : Int) := by have := hiw.2; omega
    rcases hc with ⟨hl, _, _, hd⟩ | ⟨a, hl, _, _, hd⟩ | ⟨a, b, hl, hab, ea, eb, ed⟩
    · unfold goM
      rw [hl, hd]
      dsimp only
      rw [hadj]
      simp [hne1, hne2]
    · unfold goM
      rw [hl, hd]
      dsimp only
      rw [hadj]
      simp [hne1, hne2]
    · have ha := h.inRow (u := v) (x := a) (by rw [hl]; simp)
      have hb := h.inRow (u := v) (x := b) (by rw [hl]; simp)
      unfold goM
      rw [hl]
      dsimp only
      rw [setM_at (h.sq.set (by omega)) (by omega) (by omega), setM_at h.sq (by omega) (by omega), ea, eb]
      simp only [Bool.or_eq_true, Bool.and_eq_true, decide_eq_true_eq]
      rw [hadj]
      have e1 : (u : Int) = a ↔ u = a.toNat := by omega
      have e2 : (w : Int) = b ↔ w = b.toNat := by omega
      have e3 : (u : Int) = b ↔ u = b.toNat := by omega
      have e4 : (w : Int) = a ↔ w = a.toNat := by omega
      cases hd : (stepF N v).2.2.2 with
      | true =>
        rw [e1, e2, e3, e4]
        constructor
        · rintro ((h1 | h1) | h1)
          · exact ⟨hne1, .inl ⟨h1, hne2⟩⟩
          · exact ⟨hne1, .inr ⟨rfl, .inl h1⟩⟩
          · exact ⟨hne1, .inr ⟨rfl, .inr h1⟩⟩
        · rintro ⟨_, ⟨h1, _⟩ | ⟨_, h1 | h1⟩⟩
          · exact .inl (.inl h1)
          · exact .inl (.inr h1)
          · exact .inr h1
      | false =>
        rw [hd] at ed
        have hba : b ∈ rowAt N a := by
          cases hx : (rowAt N a).elem b with
          | false => rw [hx] at ed; cases ed
          | true => simpa using hx
        have hab2 : a ∈ rowAt N b := h.wf.sym a b ha.1 hb.1 hba
        constructor
        · rintro ((h1 | h1) | h1)
          · exact ⟨hne1, .inl ⟨h1, hne2⟩⟩
          · refine ⟨hne1, .inl ⟨?_, hne2⟩⟩
            rw [e1.2 h1.1, e2.2 h1.2]; exact hba
          · refine ⟨hne1, .inl ⟨?_, hne2⟩⟩
            rw [e3.2 h1.1, e4.2 h1.2]; exact hab2
        · rintro ⟨_, ⟨h1, _⟩ | ⟨h1, _⟩⟩
          · exact .inl (.inl h1)
          · cases h1
end
def matF (n : Nat) (E : List Ed) : List (List Bool) := E.foldl (fun M x => setM (setM M x.1.toNat x.2.toNat) x.2.toNat x.1.toNat) (List.replicate n (List.replicate n false))
theorem mat_fold {n : Int} : ∀ (E : List Ed) (M : List (List Bool)), Sqr n.toNat M → (∀ x ∈ E, okE n x) → Sqr n.toNat (E.foldl (fun M x => setM (setM M x.1.toNat x.2.toNat) x.2.toNat x.1.toNat) M) ∧
    ∀ u v : Nat, matAt (E.foldl (fun M x => setM (setM M x.1.toNat x.2.toNat) x.2.toNat x.1.toNat) M) u v = true ↔ matAt M u v = true ∨ adjE E u v := by
  intro E
  induction E with
  | nil => intro M h _; exact ⟨h, fun u v => by simp [adjE]⟩
  | cons x E ih =>
    intro M h hE
    obtain ⟨h1, h2, h3⟩ := hE x (by simp)
    have s1 := h.set (v := x.2.toNat) (show x.1.toNat < n.toNat by omega)
    have s2 := s1.set (v := x.1.toNat) (show x.2.toNat < n.toNat by omega)
    obtain ⟨i1, i2⟩ := ih _ s2 fun y hy => hE y (by simp [hy])
    refine ⟨i1, fun u v => ?_⟩
    rw [List.foldl_cons, i2, setM_at s1 (by omega) (by omega), setM_at h (by omega) (by omega)]
    obtain ⟨a, b⟩ := x
    dsimp only at h1 h2 h3
    simp only [Bool.or_eq_true, Bool.and_eq_true, decide_eq_true_eq, adjE, List.mem_cons, Prod.mk.injEq]
    constructor
    · rintro (((h | ⟨e1, e2⟩) | ⟨e1, e2⟩) | h)
      · exact .inl h
      · exact .inr (.inl (.inl ⟨by omega, by omega⟩))
      · exact .inr (.inr (.inl ⟨by omega, by omega⟩))
      · rcases h with h | h
        · exact .inr (.inl (.inr h))
        · exact .inr (.inr (.inr h))
    · rintro (h | (⟨e1, e2⟩ | h) | (⟨e1, e2⟩ | h))
      · exact .inl (.inl (.inl h))
      · exact .inl (.inl (.inr ⟨by omega, by omega⟩))
      · exact .inr (.inl h)
      · exact .inl (.inr ⟨by omega, by omega⟩)
      · exact .inr (.inr h)
theorem sqr_zero (n : Nat) : Sqr n (List.replicate n (List.replicate n false)) := ⟨by simp, fun r hr => by rw [List.eq_of_mem_replicate hr]; simp⟩
theorem zero_at (n u v : Nat) : matAt (List.replicate n (List.replicate n false)) u v = false := by
  unfold matAt
  simp only [List.getD_eq_getElem?_getD, List.getElem?_replicate]
  by_cases hu : u < n
  · rw [if_pos hu, Option.getD_some, List.getElem?_replicate]
    split <;> rfl
  · rw [if_neg hu]; rfl
theorem sim_begin {n : Int} {E : List Ed} (h : RightP n E) : Sim n.toNat (nbrs n.toNat E) (List.replicate n.toNat false) (List.replicate n.toNat true) (matF n.toNat E) := by
  have hE : ∀ p ∈ E, okE n p := fun p hp => h.2.2.2.1 p hp
  obtain ⟨m1, m2⟩ := mat_fold E _ (sqr_zero n.toNat) hE
  refine ⟨begin_wf h, nbrs_length _ _, by simp, m1, fun v hv => ?_, fun u v hu hv _ _ => ?_⟩
  · rw [goneAt_nat]
    unfold inAt
    rw [List.getD_eq_getElem?_getD, List.getD_eq_getElem?_getD, List.getElem?_replicate, List.getElem?_replicate, if_pos hv, if_pos hv]; rfl
  · rw [nbrs_row (by omega) (by omega), mem_nearL]
    have := m2 u v
    rw [zero_at] at this
    simpa [matF] using this
end Go.Sh

set_option linter.unusedVariables false
set_option linter.unusedSimpArgs false
namespace Go.Sh
open Go.Proofs
/-! ### a table, as it lies in memory -/
def brows (M : List (List Bool)) : List Flat := M.map bools
theorem brows_length (M : List (List Bool)) : (brows M).length = M.length := by simp [brows]
theorem brows_at {n : Nat} {M : List (List Bool)} (h : Sqr n M) {u : Nat} (hu : u < n) : (brows M)[u]? = some (bools (M.getD u [])) := by
  unfold brows
  rw [List.getElem?_map, (h.at_ hu).1]; rfl
theorem brow_at {n : Nat} {M : List (List Bool)} (h : Sqr n M) {u v : Nat} (hu : u < n) (hv : v < n) : (bools (M.getD u []))[v]? = some [.b (matAt M u v)] := by
  refine bools_get ?_
  have hl := (h.at_ hu).2
  unfold matAt
  rw [List.getD_eq_getElem?_getD (l := M.getD u []), List.getElem?_eq_getElem (by omega)]; rfl
theorem brows_set (M : List (List Bool)) (u v : Nat) : brows (setM M u v) = (brows M).set u ((bools (M.getD u [])).set v [.b true]) := by
  unfold brows setM
  rw [List.map_set]
  congr 1
  unfold bools
  rw [List.map_set]
section
variable {n : Nat} {N : List (List Int)} {G I : List Bool} {M : List (List Bool)}
theorem in_get (h : Sim n N G I M) {x : Nat} (hx : x < n) : (bools I)[x]? = some [.b (inAt I x)] := by
  refine bools_get ?_
  have := h.il
  unfold inAt
  rw [List.getD_eq_getElem?_getD, List.getElem?_eq_getElem (by omega)]; rfl
theorem brows_get (h : Sim n N G I M) {u : Nat} (hu : u < n) : (brows M)[u]? = some (bools (M.getD u [])) := brows_at h.sq hu
theorem mat_get (h : Sim n N G I M) {u v : Nat} (hu : u < n) (hv : v < n) : (bools (M.getD u []))[v]? = some [.b (matAt M u v)] := brow_at h.sq hu hv
end
theorem in_step {n k : Nat} (h : k < n) : bools (List.replicate (k + 1) true ++ List.replicate (n - (k + 1)) false) = (bools (List.replicate k true ++ List.replicate (n - k) false)).set k [.b true] := by
  have e : (List.replicate k true ++ List.replicate (n - k) false).set k true = List.replicate (k + 1) true ++ List.replicate (n - (k + 1)) false := by
    rw [show n - k = (n - (k + 1)) + 1 by omega, List.replicate_succ (n := n - (k + 1)), List.replicate_succ', List.append_assoc, List.set_append_right _ _ (by simp)]
    simp
  rw [← e]
  unfold bools
  rw [List.map_set]
def innerK (I : List Bool) (M : List (List Bool)) (j x : Nat) : List Ed := ((List.range x).filter fun y => decide (j < y) && (inAt I y && matAt M j y)).map fun (y : Nat) => ((j : Int), (y : Int))
theorem innerK_start (I : List Bool) (M : List (List Bool)) (j : Nat) : innerK I M j (j + 1) = [] := by
  unfold innerK
  rw [List.filter_eq_nil_iff.2, List.map_nil]
  intro a ha
  rw [List.mem_range] at ha
  rw [decide_eq_false (by omega)]; simp
theorem innerK_succ {I : List Bool} {M : List (List Bool)} {j x : Nat} (h : j + 1 ≤ x) : innerK I M j (x + 1) = innerK I M j x ++ (if (inAt I x && matAt M j x) = true then [((j : Int), (x : Int))] else []) := by
  unfold innerK
  rw [List.range_succ, List.filter_append, List.map_append, List.filter_cons, List.filter_nil, decide_eq_true (show j < x by omega), Bool.true_and]
  split <;> rfl
theorem innerK_len (I : List Bool) (M : List (List Bool)) (j x : Nat) : (innerK I M j x).length ≤ x := by
  unfold innerK
  rw [List.length_map]
  exact Nat.le_trans (List.length_filter_le _ _) (by simp)
theorem innerK_end {n : Nat} {N : List (List Int)} {G I : List Bool} {M : List (List Bool)} (h : Sim n N G I M) {j : Nat} (hj : j < n) (hi : inAt I j = true) : innerK I M j n = outE N j := by
  unfold innerK outE
  rw [← h.near hj hi]
  unfold nearM
  rw [h.il, List.filter_map, List.map_map, List.filter_filter]
  congr 1
  apply List.filter_congr
  intro y _
  simp only [Function.comp]
  congr 1
  exact decide_eq_decide.2 (by omega)
theorem mu_lt {n k v : Nat} (h : k + 1 ≤ n) : (n - (k + 1)) * (n + 1) + (n - 0) < (n - k) * (n + 1) + (n - v) := by
  obtain ⟨d, hd⟩ : ∃ d, n - (k + 1) = d := ⟨_, rfl⟩
  rw [hd, show n - k = d + 1 by omega, Nat.succ_mul]
  omega
noncomputable def Run10C : Con := conP 2 (fun _ : Int × List Ed => True) (fun a => [grV a.1 a.2]) (fun a => logV true (runO a.1 a.2).1 (runO a.1 a.2).2.1 (runO a.1 a.2).2.2)
theorem Run10C_at (n : Int) (E : List Ed) : Run10C.F [grV n E] = some (logV true (runO n E).1 (runO n E).2.1 (runO n E).2.2, []) := RunC_at n E
noncomputable def XR10 : Cx := { Γ := [(39, RightC)], T := T, nt := 33, inl := [(68, inlF Try.f68), (69, inlF Try.f69), (70, inlF Try.f70), (71, inlF Try.f71), (73, inlF Try.f73)] }
theorem XR10_ok : CrOk Try.prog (callAt 2 XR10) := callAt_ok hmix hT (sound_cons Right3_ok sound_nil) (inl_cons Try.func68 (by rfl) (by rfl) (by rfl) (inl_cons Try.func69 (by rfl) (by rfl) (by rfl) (inl_cons Try.func70 (by rfl) (by rfl) (by rfl) (inl_cons Try.func71 (by rfl) (by rfl) (by rfl) (inl_cons Try.func73 (by rfl) (by rfl) (by rfl) inl_nil))))) cr_none 2
set_option maxHeartbeats 4000000 in
theorem Run10_ok : SoundC Try.prog T 33 Run10C := by
  refine sound_con (X := XR10) (cr := callAt 2 XR10) XR10_ok hmix hT (sound_cons Right3_ok sound_nil) Try.func33 (by rfl) (by rfl) (by rfl) (by rfl) 2 ?_
  rintro ⟨n, E⟩ -
  dsimp only
  refine ⟨⟨Nat.le_of_ble_eq_true rfl, Nat.le_of_ble_eq_true rfl⟩, ?_⟩
  refine Call.by _ _ (RightC_at n E) ?_
  refine Pick.by (fun h1 => ?_) (fun h1 => ?_)
  · have h1 : ¬ RightP n E := by have h1 : (!decide (RightP n E)) = true := h1; simpa using h1
    have hv : runO n E = ([], [], []) := if_neg h1
    rw [hv]
    refine ⟨rfl, ?_⟩
    (repeat' first | exact rfl | exact trivial | refine And.intro ?_ ?_)
  have hR : RightP n E := by have h1 : (!decide (RightP n E)) = false := h1; simpa using h1
  have hv : runO n E = ((runR n E).1, leftF (runR n E).2.2, edgesF (runR n E).2.1 (runR n E).2.2) := if_pos hR
  rw [hv]
  have hn0 := hR.1
  have hn1 := hR.2.1
  have hE4 := hR.2.2.1
  refine Pick.T (by simp) ?_
  refine Idx.by n.toNat (by omega) (by omega) ?_
  refine LoopP.intro (α := Nat) (fun k => k ≤ n.toNat) (fun k => n.toNat - k) (fun k => [(1, .ptr 0 0), (3, .ptr 2 0), (4, .s (.i .i64 k)), (1000001, .ptr 5 0), (1000002, .ptr 6 0)])
    (fun k => [(0, some (.blk [.s (.i .i64 n), .sl 1 none none])), (1, some (.flat false 2 (edges E))), (2, some (.blk [.sl 3 none none, .sl 4 none none])), (3, some (.flat true 1 (bools (List.replicate k true ++ List.replicate (n.toNat - k) false)))), (4, some (.nest true 1 (brows (List.replicate k (List.replicate n.toNat false))) [] [])), (5, some (.blk [.s (.i .i64 n), .sl 1 none none])), (6, some (.blk [.nils, .nils, .nils]))]) 7 0 (by omega) (by refine Weak.by [(0, some _), (1, some _), (2, some _), (3, some _), (4, none), (5, some _), (6, some _)] (by ((repeat' first | exact rfl | exact trivial | refine And.intro ?_ ?_) <;> (repeat' first | exact rfl | exact trivial | refine And.intro ?_ ?_)); all_goals ((simp [bools]; done))) (by ((repeat' first | exact rfl | exact trivial | refine And.intro ?_ ?_) <;> (repeat' first | exact rfl | exact trivial | refine And.intro ?_ ?_)); all_goals ((simp [bools]; done))) (by rfl)) ?_
  rintro k hk
  refine Pick.by (fun hb1 => ?_) (fun hb1 => ?_)
  · have hkl : k < n.toNat := by simp at hb1; omega
    refine Idx.by k rfl (by rw [bools_length]; simp; omega) ?_
    refine Look.by [.b false] (by refine bools_get ?_; rw [List.getElem?_append_right (by simp), List.length_replicate, Nat.sub_self, List.getElem?_replicate, if_pos (by omega)]) ?_
    refine Pick.T (by simp) ?_
    refine Idx.by n.toNat (by omega) (by omega) ?_
    refine Pick.T (by simp [brows]; omega) ?_
    refine Seg.by (by kernel_rfl) ?_
    refine Pick.T (inI64_of (by omega) (by omega)) ?_
    refine Next.by (k + 1) (by omega) (by omega) (by refine Weak.by [(0, some _), (1, some _), (2, some _), (3, some _), (4, some _), (5, some _), (6, some _)] (by ((repeat' first | exact rfl | exact trivial | refine And.intro ?_ ?_) <;> (repeat' first | exact rfl | exact trivial | refine And.intro ?_ ?_)); all_goals ((first | (exact in_step hkl) | (rw [List.replicate_succ']; unfold brows; rw [List.map_append]; simp [bools]; done)))) (by ((repeat' first | exact rfl | exact trivial | refine And.intro ?_ ?_) <;> (repeat' first | exact rfl | exact trivial | refine And.intro ?_ ?_)); all_goals ((first | (exact in_step hkl) | (rw [List.replicate_succ']; unfold brows; rw [List.map_append]; simp [bools]; done)))) (by rfl))
  have hkl : k = n.toNat := by simp at hb1; omega
  subst hkl
  rw [Nat.sub_self, List.replicate_zero, List.append_nil]
  refine LoopP.intro (α := Nat) (fun k => k ≤ E.length) (fun k => E.length - k) (fun k => [(1, .ptr 0 0), (3, .ptr 2 0), (5, .s (.i .i64 k)), (1000001, .ptr 5 0), (1000002, .ptr 6 0)])
    (fun k => [(0, some (.blk [.s (.i .i64 n), .sl 1 none none])), (1, some (.flat false 2 (edges E))), (2, some (.blk [.sl 3 none none, .sl 4 none none])), (3, some (.flat true 1 (bools (List.replicate n.toNat true)))), (4, some (.nest true 1 (brows (matF n.toNat (E.take k))) [] [])), (5, some (.blk [.s (.i .i64 n), .sl 1 none none])), (6, some (.blk [.nils, .nils, .nils]))]) 7 0 (by omega) (by refine Weak.by [(0, some _), (1, some _), (2, some _), (3, some _), (4, some _), (5, some _), (6, some _)] (by ((repeat' first | exact rfl | exact trivial | refine And.intro ?_ ?_) <;> (repeat' first | exact rfl | exact trivial | refine And.intro ?_ ?_))) (by ((repeat' first | exact rfl | exact trivial | refine And.intro ?_ ?_) <;> (repeat' first | exact rfl | exact trivial | refine And.intro ?_ ?_))) (by rfl)) ?_
  rintro k hk
  have hsq := (mat_fold (n := n) (E.take k) _ (sqr_zero n.toNat) fun x hx => hR.2.2.2.1 x (List.mem_of_mem_take hx)).1
  have hsq : Sqr n.toNat (matF n.toNat (E.take k)) := hsq
  refine Pick.by (fun hb2 => ?_) (fun hb2 => ?_)
  · have hkl : k < E.length := by simpa [edges_length] using hb2
    obtain ⟨o1, o2, o3⟩ := hR.2.2.2.1 _ (List.getElem_mem hkl)
    have hget := edges_get (List.getElem?_eq_getElem hkl)
    have hst : matF n.toNat (E.take (k + 1)) = setM (setM (matF n.toNat (E.take k)) E[k].1.toNat E[k].2.toNat) E[k].2.toNat E[k].1.toNat := by
      rw [List.take_succ_eq_append_getElem hkl, matF, List.foldl_append]; rfl
    obtain ⟨a, ha⟩ : ∃ a : Nat, E[k].1 = a := ⟨E[k].1.toNat, by omega⟩
    obtain ⟨b, hb⟩ : ∃ b : Nat, E[k].2 = b := ⟨E[k].2.toNat, by omega⟩
    rw [ha, hb] at hget hst
    rw [Int.toNat_natCast, Int.toNat_natCast] at hst
    generalize matF n.toNat (E.take k) = M at hsq hst ⊢
    have han : a < n.toNat := by omega
    have hbn : b < n.toNat := by omega
    have hs2 := hsq.set (v := b) han
    refine Idx.by k rfl (by rw [edges_length]; exact hkl) ?_
    refine Look.by _ hget ?_
    refine Idx.by a rfl (by rw [brows_length, hsq.len]; exact han) ?_
    refine Pick.T (by rw [brows_length, hsq.len]; simpa using han) ?_
    refine Idx.by k rfl (by rw [edges_length]; exact hkl) ?_
    refine Look.by _ hget ?_
    refine Look.by _ (brows_at hsq han) ?_
    refine Idx.by b rfl (by rw [bools_length, (hsq.at_ han).2]; exact hbn) ?_
    refine Look.by _ (brows_at hsq han) ?_
    refine Look.by _ (brow_at hsq han hbn) ?_
    refine Seg.by (by kernel_rfl) ?_
    refine Idx.by k rfl (by rw [edges_length]; exact hkl) ?_
    refine Look.by _ hget ?_
    have hs1 : (brows M).set a ((bools (M.getD a [])).set b [.b true]) = brows (setM M a b) := (brows_set M a b).symm
    have hl1 : ((brows M).set a ((bools (M.getD a [])).set b [.b true])).length = n.toNat := by rw [List.length_set, brows_length, hsq.len]
    refine Idx.by b rfl (by show b < ((brows M).set a ((bools (M.getD a [])).set b [.b true])).length; rw [hl1]; exact hbn) ?_
    refine Pick.T (by show decide (b < ((brows M).set a ((bools (M.getD a [])).set b [.b true])).length) = true; rw [hl1]; simpa using hbn) ?_
    refine Idx.by k rfl (by rw [edges_length]; exact hkl) ?_
    refine Look.by _ hget ?_
    refine Look.by _ (by show ((brows M).set a ((bools (M.getD a [])).set b [.b true]))[b]? = _; rw [hs1]; exact brows_at hs2 hbn) ?_
    refine Idx.by a rfl (by rw [bools_length, (hs2.at_ hbn).2]; exact han) ?_
    refine Look.by _ (by show ((brows M).set a ((bools (M.getD a [])).set b [.b true]))[b]? = _; rw [hs1]; exact brows_at hs2 hbn) ?_
    refine Look.by _ (brow_at hs2 hbn han) ?_
    refine Seg.by (by kernel_rfl) ?_
    refine Pick.T (inI64_of (by omega) (by omega)) ?_
    refine Next.by (k + 1) (by omega) (by omega) (by refine Weak.by [(0, some _), (1, some _), (2, some _), (3, some _), (4, some _), (5, some _), (6, some _)] (by ((repeat' first | exact rfl | exact trivial | refine And.intro ?_ ?_) <;> (repeat' first | exact rfl | exact trivial | refine And.intro ?_ ?_)); all_goals ((rw [hst, brows_set, brows_set]; rfl))) (by ((repeat' first | exact rfl | exact trivial | refine And.intro ?_ ?_) <;> (repeat' first | exact rfl | exact trivial | refine And.intro ?_ ?_)); all_goals ((rw [hst, brows_set, brows_set]; rfl))) (by rfl))
  have hkl : k = E.length := by simp [edges_length] at hb2; omega
  subst hkl
  have hS : Sim n.toNat (nbrs n.toNat E) (List.replicate n.toNat false) (List.replicate n.toNat true) (matF n.toNat (E.take E.length)) := by rw [List.take_length]; exact sim_begin hR
  generalize matF n.toNat (E.take E.length) = M at hS ⊢
  clear hsq hk hb1 hb2
  have hrun : runR n E = ([] ++ (runS (n.toNat - ([] : List Stp).length) (nbrs n.toNat E) (List.replicate n.toNat false)).1, (runS (n.toNat - ([] : List Stp).length) (nbrs n.toNat E) (List.replicate n.toNat false)).2) := rfl
  have hlv : ([] : List Stp).length + (List.replicate n.toNat false).countP (!·) ≤ n.toNat := by simp [List.countP_replicate]
  generalize nbrs n.toNat E = N at hS hrun
  generalize List.replicate n.toNat false = G at hS hrun hlv
  generalize List.replicate n.toNat true = I at hS ⊢
  refine LoopP.intro (α := List Stp × List (List Int) × List Bool × List Bool × List (List Bool) × Nat) (fun a => Sim n.toNat a.2.1 a.2.2.1 a.2.2.2.1 a.2.2.2.2.1 ∧ runR n E = (a.1 ++ (runS (n.toNat - a.1.length) a.2.1 a.2.2.1).1, (runS (n.toNat - a.1.length) a.2.1 a.2.2.1).2) ∧ a.1.length + a.2.2.1.countP (!·) ≤ n.toNat ∧ a.2.2.2.2.2 ≤ n.toNat ∧ ∀ u : Int, u < a.2.2.2.2.2 → mayB a.2.1 a.2.2.1 u = false)
    (fun a => (n.toNat - a.1.length) * (n.toNat + 1) + (n.toNat - a.2.2.2.2.2)) (fun a => [(1, .ptr 0 0), (2, .ptr 5 0), (3, .ptr 2 0), (4, .sl 6 none none), (5, .s (.i .i64 a.2.2.2.2.2))])
    (fun a => [(0, some (.blk [.s (.i .i64 n), .sl 1 none none])), (1, some (.flat false 2 (edges E))), (2, some (.blk [.sl 3 none none, .sl 4 none none])), (3, some (.flat true 1 (bools a.2.2.2.1))), (4, some (.nest true 1 (brows a.2.2.2.2.1) [] [])), (5, some (.blk [.nils, .nils, .nils])), (6, some (.flat true 4 (stps a.1)))]) 7 ([], N, G, I, M, 0)
    ⟨hS, hrun, hlv, by simp, fun u hu => by unfold mayB; rw [decide_eq_false (by dsimp only at hu; omega)]; rfl⟩ (by refine Weak.by [(0, some _), (1, some _), (2, some _), (3, some _), (4, some _), (5, some _), (6, none)] (by ((repeat' first | exact rfl | exact trivial | refine And.intro ?_ ?_) <;> (repeat' first | exact rfl | exact trivial | refine And.intro ?_ ?_))) (by ((repeat' first | exact rfl | exact trivial | refine And.intro ?_ ?_) <;> (repeat' first | exact rfl | exact trivial | refine And.intro ?_ ?_))) (by rfl)) ?_
  clear hS hrun hlv N G I M
  rintro ⟨st, N, G, I, M, v⟩ ⟨hS, hrun, hlv, hvn, hno⟩
  dsimp only at hS hrun hlv hvn hno ⊢
  refine Pick.by (fun hc => ?_) (fun hc => ?_)
  · have hwv : v < n.toNat := by simp at hc; omega
    refine Pick.T (by rw [bools_length, hS.il]; simp; omega) ?_
    refine Idx.by v rfl (by rw [bools_length, hS.il]; exact hwv) ?_
    refine Look.by _ (in_get hS hwv) ?_
    have hmay := hS.may v hwv
    refine Pick.by (fun hi => ?_) (fun hi => ?_)
    rotate_left
    · have hi : inAt I v = false := hi
      have hmf : mayB N G v = false := by rw [hmay, hi]; rfl
      refine Pick.T (inI64_of (by omega) (by omega)) ?_
      refine Next.by (st, N, G, I, M, v + 1) ⟨hS, hrun, hlv, by dsimp only; omega, fun u hu => ?_⟩ (by dsimp only; omega) (by refine Weak.by [(0, some _), (1, some _), (2, some _), (3, some _), (4, some _), (5, some _), (6, some _)] (by ((repeat' first | exact rfl | exact trivial | refine And.intro ?_ ?_) <;> (repeat' first | exact rfl | exact trivial | refine And.intro ?_ ?_))) (by ((repeat' first | exact rfl | exact trivial | refine And.intro ?_ ?_) <;> (repeat' first | exact rfl | exact trivial | refine And.intro ?_ ?_))) (by rfl))
      dsimp only at hu ⊢
      by_cases e : u < v
      · exact hno u e
      · have : u = v := by omega
        rw [this]; exact hmf
    have hi : inAt I v = true := hi
    rw [hi, Bool.true_and] at hmay
    refine LoopP.intro (α := Nat) (fun x => x ≤ n.toNat) (fun x => n.toNat - x) (fun x => [(0, .ptr 2 0), (1, .s (.i .i64 v)), (5, .sl 7 none none), (6, .s (.i .i64 x)), (1000025, .s (.b true)), (2000001, .ptr 0 0), (2000002, .ptr 5 0), (2000003, .ptr 2 0), (2000004, .sl 6 none none), (2000005, .s (.i .i64 v))])
      (fun x => [(0, some (.blk [.s (.i .i64 n), .sl 1 none none])), (1, some (.flat false 2 (edges E))), (2, some (.blk [.sl 3 none none, .sl 4 none none])), (3, some (.flat true 1 (bools I))), (4, some (.nest true 1 (brows M) [] [])), (5, some (.blk [.nils, .nils, .nils])), (6, some (.flat true 4 (stps st))), (7, some (.flat true 1 (ints (((List.range x).filter fun y => inAt I y && matAt M v y).map fun (y : Nat) => (y : Int)))))]) 8 0 (by omega) (by refine Weak.by [(0, some _), (1, some _), (2, some _), (3, some _), (4, some _), (5, some _), (6, some _), (7, some _)] (by ((repeat' first | exact rfl | exact trivial | refine And.intro ?_ ?_) <;> (repeat' first | exact rfl | exact trivial | refine And.intro ?_ ?_))) (by ((repeat' first | exact rfl | exact trivial | refine And.intro ?_ ?_) <;> (repeat' first | exact rfl | exact trivial | refine And.intro ?_ ?_))) (by rfl)) ?_
    rintro x hx
    have hnl : ((((List.range x).filter fun y => inAt I y && matAt M v y).map fun (y : Nat) => (y : Int))).length ≤ x := by
      rw [List.length_map]
      exact Nat.le_trans (List.length_filter_le _ _) (by simp)
    have hsucc : ∀ p : Nat → Bool, (((List.range (x + 1)).filter p).map fun (y : Nat) => (y : Int)) = (((List.range x).filter p).map fun (y : Nat) => (y : Int)) ++ (if p x = true then [(x : Int)] else []) := fun p => by
      rw [List.range_succ, List.filter_append, List.map_append, List.filter_cons, List.filter_nil]
      split <;> rfl
    refine Pick.by (fun hn1 => ?_) (fun hn1 => ?_)
    · have hxl : x < n.toNat := by rw [bools_length, hS.il] at hn1; simp at hn1; omega
      refine Idx.by x rfl (by rw [bools_length, hS.il]; exact hxl) ?_
      refine Look.by _ (in_get hS hxl) ?_
      refine Pick.by (fun hn2 => ?_) (fun hn2 => ?_)
      · have hn2 : inAt I x = true := hn2
        refine Idx.by v (by first | rfl | omega) (by rw [brows_length, hS.sq.len]; exact hwv) ?_
        refine Pick.T (by rw [brows_length, hS.sq.len]; simpa using hwv) ?_
        refine Look.by _ (brows_get hS hwv) ?_
        refine Idx.by x rfl (by rw [bools_length, (hS.sq.at_ hwv).2]; exact hxl) ?_
        refine Look.by _ (brows_get hS hwv) ?_
        refine Look.by _ (mat_get hS hwv hxl) ?_
        refine Pick.by (fun hn3 => ?_) (fun hn3 => ?_)
        · have hn3 : matAt M v x = true := hn3
          refine Pick.T (by simp [cut, ints_length] at hnl ⊢; omega) ?_
          refine Pick.T (inI64_of (by omega) (by omega)) ?_
          refine Next.by (x + 1) (by omega) (by omega) (by refine Weak.by [(0, some _), (1, some _), (2, some _), (3, some _), (4, some _), (5, some _), (6, some _), (7, some _)] (by ((repeat' first | exact rfl | exact trivial | refine And.intro ?_ ?_) <;> (repeat' first | exact rfl | exact trivial | refine And.intro ?_ ?_)); all_goals ((rw [hsucc, if_pos (by rw [hn2, hn3]; rfl), ints_snoc]; rfl))) (by ((repeat' first | exact rfl | exact trivial | refine And.intro ?_ ?_) <;> (repeat' first | exact rfl | exact trivial | refine And.intro ?_ ?_)); all_goals ((rw [hsucc, if_pos (by rw [hn2, hn3]; rfl), ints_snoc]; rfl))) (by rfl))
        · have hn3 : matAt M v x = false := hn3
          refine Pick.T (inI64_of (by omega) (by omega)) ?_
          refine Next.by (x + 1) (by omega) (by omega) (by refine Weak.by [(0, some _), (1, some _), (2, some _), (3, some _), (4, some _), (5, some _), (6, some _), (7, some _)] (by ((repeat' first | exact rfl | exact trivial | refine And.intro ?_ ?_) <;> (repeat' first | exact rfl | exact trivial | refine And.intro ?_ ?_)); all_goals ((rw [hsucc, if_neg (by rw [hn2, hn3]; decide), List.append_nil]))) (by ((repeat' first | exact rfl | exact trivial | refine And.intro ?_ ?_) <;> (repeat' first | exact rfl | exact trivial | refine And.intro ?_ ?_)); all_goals ((rw [hsucc, if_neg (by rw [hn2, hn3]; decide), List.append_nil]))) (by rfl))
      · have hn2 : inAt I x = false := hn2
        refine Pick.T (inI64_of (by omega) (by omega)) ?_
        refine Next.by (x + 1) (by omega) (by omega) (by refine Weak.by [(0, some _), (1, some _), (2, some _), (3, some _), (4, some _), (5, some _), (6, some _), (7, some _)] (by ((repeat' first | exact rfl | exact trivial | refine And.intro ?_ ?_) <;> (repeat' first | exact rfl | exact trivial | refine And.intro ?_ ?_)); all_goals ((rw [hsucc, if_neg (by rw [hn2]; simp), List.append_nil]))) (by ((repeat' first | exact rfl | exact trivial | refine And.intro ?_ ?_) <;> (repeat' first | exact rfl | exact trivial | refine And.intro ?_ ?_)); all_goals ((rw [hsucc, if_neg (by rw [hn2]; simp), List.append_nil]))) (by rfl))
    have hxe : x = n.toNat := by rw [bools_length, hS.il] at hn1; simp at hn1; omega
    subst hxe
    have hln : (((ints (((List.range n.toNat).filter fun y => inAt I y && matAt M v y).map fun (y : Nat) => (y : Int))).length : Nat) : Int) = ((nearM I M v).length : Int) := by unfold nearM; rw [hS.il, ints_length]
    refine Pick.by (fun h2 => ?_) (fun h2 => ?_)
    · have h2 : (!decide ((((ints (((List.range n.toNat).filter fun y => inAt I y && matAt M v y).map fun (y : Nat) => (y : Int))).length : Nat) : Int) ≤ 2)) = true := h2
      have hmf : mayB N G v = false := by rw [hln] at h2; rw [hmay]; simp at h2 ⊢; omega
      refine Pick.T (inI64_of (by omega) (by omega)) ?_
      refine Next.by (st, N, G, I, M, v + 1) ⟨hS, hrun, hlv, by dsimp only; omega, fun u hu => ?_⟩ (by dsimp only; omega) (by refine Weak.by [(0, some _), (1, some _), (2, some _), (3, some _), (4, some _), (5, some _), (6, some _)] (by ((repeat' first | exact rfl | exact trivial | refine And.intro ?_ ?_) <;> (repeat' first | exact rfl | exact trivial | refine And.intro ?_ ?_))) (by ((repeat' first | exact rfl | exact trivial | refine And.intro ?_ ?_) <;> (repeat' first | exact rfl | exact trivial | refine And.intro ?_ ?_))) (by rfl))
      dsimp only at hu ⊢
      by_cases e : u < v
      · exact hno u e
      · have : u = v := by omega
        rw [this]; exact hmf
    have hmt : mayB N G v = true := by
      have h2 : (!decide ((((ints (((List.range n.toNat).filter fun y => inAt I y && matAt M v y).map fun (y : Nat) => (y : Int))).length : Nat) : Int) ≤ 2)) = false := h2
      rw [hln] at h2; rw [hmay]; simp at h2 ⊢; omega
    clear hln hmay h2
    have hlive := live_step hS.wf (mayB_iff.1 hmt)
    have hst1 : st.length + 1 ≤ n.toNat := by omega
    have hmin : ∀ u, mayB N G u = true → (v : Int) ≤ u := fun u hu => by
      by_cases e : u < v
      · rw [hno u e] at hu; cases hu
      · omega
    refine LoopP.intro (α := Nat) (fun x => x ≤ n.toNat) (fun x => n.toNat - x) (fun x => [(0, .ptr 2 0), (1, .s (.i .i64 v)), (5, .sl 8 none none), (6, .s (.i .i64 x)), (1000000, .ptr 2 0), (1000001, .s (.i .i64 v)), (1000004, .ptr 7 0), (2000001, .ptr 0 0), (2000002, .ptr 5 0), (2000003, .ptr 2 0), (2000004, .sl 6 none none), (2000005, .s (.i .i64 v))])
      (fun x => [(0, some (.blk [.s (.i .i64 n), .sl 1 none none])), (1, some (.flat false 2 (edges E))), (2, some (.blk [.sl 3 none none, .sl 4 none none])), (3, some (.flat true 1 (bools I))), (4, some (.nest true 1 (brows M) [] [])), (5, some (.blk [.nils, .nils, .nils])), (6, some (.flat true 4 (stps st))), (7, some (.blk [.s (.i .i64 0), .s (.i .i64 0), .s (.i .i64 0), .s (.b false)])), (8, some (.flat true 1 (ints (((List.range x).filter fun y => inAt I y && matAt M v y).map fun (y : Nat) => (y : Int)))))]) 9 0 (by omega) (by refine Weak.by [(0, some _), (1, some _), (2, some _), (3, some _), (4, some _), (5, some _), (6, some _), (7, some _), (8, some _)] (by ((repeat' first | exact rfl | exact trivial | refine And.intro ?_ ?_) <;> (repeat' first | exact rfl | exact trivial | refine And.intro ?_ ?_))) (by ((repeat' first | exact rfl | exact trivial | refine And.intro ?_ ?_) <;> (repeat' first | exact rfl | exact trivial | refine And.intro ?_ ?_))) (by rfl)) ?_
    rintro x hx
    have hnl : ((((List.range x).filter fun y => inAt I y && matAt M v y).map fun (y : Nat) => (y : Int))).length ≤ x := by
      rw [List.length_map]
      exact Nat.le_trans (List.length_filter_le _ _) (by simp)
    have hsucc : ∀ p : Nat → Bool, (((List.range (x + 1)).filter p).map fun (y : Nat) => (y : Int)) = (((List.range x).filter p).map fun (y : Nat) => (y : Int)) ++ (if p x = true then [(x : Int)] else []) := fun p => by
      rw [List.range_succ, List.filter_append, List.map_append, List.filter_cons, List.filter_nil]
      split <;> rfl
    refine Pick.by (fun hn1 => ?_) (fun hn1 => ?_)
    · have hxl : x < n.toNat := by rw [bools_length, hS.il] at hn1; simp at hn1; omega
      refine Idx.by x rfl (by rw [bools_length, hS.il]; exact hxl) ?_
      refine Look.by _ (in_get hS hxl) ?_
      refine Pick.by (fun hn2 => ?_) (fun hn2 => ?_)
      · have hn2 : inAt I x = true := hn2
        refine Idx.by v (by first | rfl | omega) (by rw [brows_length, hS.sq.len]; exact hwv) ?_
        refine Pick.T (by rw [brows_length, hS.sq.len]; simpa using hwv) ?_
        refine Look.by _ (brows_get hS hwv) ?_
        refine Idx.by x rfl (by rw [bools_length, (hS.sq.at_ hwv).2]; exact hxl) ?_
        refine Look.by _ (brows_get hS hwv) ?_
        refine Look.by _ (mat_get hS hwv hxl) ?_
        refine Pick.by (fun hn3 => ?_) (fun hn3 => ?_)
        · have hn3 : matAt M v x = true := hn3
          refine Pick.T (by simp [cut, ints_length] at hnl ⊢; omega) ?_
          refine Pick.T (inI64_of (by omega) (by omega)) ?_
          refine Next.by (x + 1) (by omega) (by omega) (by refine Weak.by [(0, some _), (1, some _), (2, some _), (3, some _), (4, some _), (5, some _), (6, some _), (7, some _), (8, some _)] (by ((repeat' first | exact rfl | exact trivial | refine And.intro ?_ ?_) <;> (repeat' first | exact rfl | exact trivial | refine And.intro ?_ ?_)); all_goals ((rw [hsucc, if_pos (by rw [hn2, hn3]; rfl), ints_snoc]; rfl))) (by ((repeat' first | exact rfl | exact trivial | refine And.intro ?_ ?_) <;> (repeat' first | exact rfl | exact trivial | refine And.intro ?_ ?_)); all_goals ((rw [hsucc, if_pos (by rw [hn2, hn3]; rfl), ints_snoc]; rfl))) (by rfl))
        · have hn3 : matAt M v x = false := hn3
          refine Pick.T (inI64_of (by omega) (by omega)) ?_
          refine Next.by (x + 1) (by omega) (by omega) (by refine Weak.by [(0, some _), (1, some _), (2, some _), (3, some _), (4, some _), (5, some _), (6, some _), (7, some _), (8, some _)] (by ((repeat' first | exact rfl | exact trivial | refine And.intro ?_ ?_) <;> (repeat' first | exact rfl | exact trivial | refine And.intro ?_ ?_)); all_goals ((rw [hsucc, if_neg (by rw [hn2, hn3]; decide), List.append_nil]))) (by ((repeat' first | exact rfl | exact trivial | refine And.intro ?_ ?_) <;> (repeat' first | exact rfl | exact trivial | refine And.intro ?_ ?_)); all_goals ((rw [hsucc, if_neg (by rw [hn2, hn3]; decide), List.append_nil]))) (by rfl))
      · have hn2 : inAt I x = false := hn2
        refine Pick.T (inI64_of (by omega) (by omega)) ?_
        refine Next.by (x + 1) (by omega) (by omega) (by refine Weak.by [(0, some _), (1, some _), (2, some _), (3, some _), (4, some _), (5, some _), (6, some _), (7, some _), (8, some _)] (by ((repeat' first | exact rfl | exact trivial | refine And.intro ?_ ?_) <;> (repeat' first | exact rfl | exact trivial | refine And.intro ?_ ?_)); all_goals ((rw [hsucc, if_neg (by rw [hn2]; simp), List.append_nil]))) (by ((repeat' first | exact rfl | exact trivial | refine And.intro ?_ ?_) <;> (repeat' first | exact rfl | exact trivial | refine And.intro ?_ ?_)); all_goals ((rw [hsucc, if_neg (by rw [hn2]; simp), List.append_nil]))) (by rfl))
    have hxe : x = n.toNat := by rw [bools_length, hS.il] at hn1; simp at hn1; omega
    subst hxe
    have hmp := mayB_iff.1 hmt
    have hL : (((List.range n.toNat).filter fun y => inAt I y && matAt M v y).map fun (y : Nat) => (y : Int)) = rowAt N v := by
      rw [← hS.near hwv hi]; unfold nearM; rw [hS.il]
    have hgo := hS.go hwv hmp
    obtain ⟨hs1, hs2⟩ := step_two hS.wf hmp rfl
    rw [hL]
    refine Idx.by v rfl (by rw [bools_length, hS.il]; exact hwv) ?_
    refine Look.by _ (in_get hS hwv) ?_
    have hI2 : bools (I.set v false) = (bools I).set v [.b false] := by unfold bools; rw [List.map_set]
    rcases hs2 with ⟨hl, ea, eb, ed⟩ | ⟨a, hl, ea, eb, ed⟩ | ⟨a, b, hl, hab, ea, eb, ed⟩
    · have hM : brows (goM N M v) = brows M := by unfold goM; rw [hl]
      rw [hl]
      refine Pick.T (by simp [cut, stps_length]; omega) ?_
      refine Next.by (st ++ [stepF N v], doN N (stepF N v), doG G (stepF N v), I.set v false, goM N M v, 0) ⟨hgo, run_step hrun hS.wf hmt hst1 hmin, by dsimp only; rw [List.length_append, List.length_singleton]; omega, by dsimp only; omega, fun u hu => by unfold mayB; rw [decide_eq_false (by dsimp only at hu; omega)]; rfl⟩ (by dsimp only; rw [List.length_append, List.length_singleton]; exact mu_lt hst1) (by refine Weak.by [(0, some _), (1, some _), (2, some _), (3, some _), (4, some _), (5, some _), (6, some _)] (by ((repeat' first | exact rfl | exact trivial | refine And.intro ?_ ?_) <;> (repeat' first | exact rfl | exact trivial | refine And.intro ?_ ?_)); all_goals ((first | (exact hM) | (rw [hI2]; rfl) | (rw [stps_snoc, hs1, ea, eb, ed]; rfl)))) (by ((repeat' first | exact rfl | exact trivial | refine And.intro ?_ ?_) <;> (repeat' first | exact rfl | exact trivial | refine And.intro ?_ ?_)); all_goals ((first | (exact hM) | (rw [hI2]; rfl) | (rw [stps_snoc, hs1, ea, eb, ed]; rfl)))) (by rfl))
    · have hM : brows (goM N M v) = brows M := by unfold goM; rw [hl]
      rw [hl]
      refine Idx.by 0 rfl (by simp [ints]) ?_
      refine Look.by [.i .i64 a] rfl ?_
      refine Pick.T (by simp [cut, stps_length]; omega) ?_
      refine Next.by (st ++ [stepF N v], doN N (stepF N v), doG G (stepF N v), I.set v false, goM N M v, 0) ⟨hgo, run_step hrun hS.wf hmt hst1 hmin, by dsimp only; rw [List.length_append, List.length_singleton]; omega, by dsimp only; omega, fun u hu => by unfold mayB; rw [decide_eq_false (by dsimp only at hu; omega)]; rfl⟩ (by dsimp only; rw [List.length_append, List.length_singleton]; exact mu_lt hst1) (by refine Weak.by [(0, some _), (1, some _), (2, some _), (3, some _), (4, some _), (5, some _), (6, some _)] (by ((repeat' first | exact rfl | exact trivial | refine And.intro ?_ ?_) <;> (repeat' first | exact rfl | exact trivial | refine And.intro ?_ ?_)); all_goals ((first | (exact hM) | (rw [hI2]; rfl) | (rw [stps_snoc, hs1, ea, eb, ed]; rfl)))) (by ((repeat' first | exact rfl | exact trivial | refine And.intro ?_ ?_) <;> (repeat' first | exact rfl | exact trivial | refine And.intro ?_ ?_)); all_goals ((first | (exact hM) | (rw [hI2]; rfl) | (rw [stps_snoc, hs1, ea, eb, ed]; rfl)))) (by rfl))
    · have ed := hS.step hwv hi hl
      obtain ⟨a0, a1, a2⟩ := hS.inRow (u := v) (x := a) (by rw [hl]; simp)
      obtain ⟨b0, b1, b2⟩ := hS.inRow (u := v) (x := b) (by rw [hl]; simp)
      obtain ⟨a, rfl⟩ : ∃ c : Nat, a = c := ⟨a.toNat, by omega⟩
      obtain ⟨b, rfl⟩ : ∃ c : Nat, b = c := ⟨b.toNat, by omega⟩
      rw [Int.toNat_natCast, Int.toNat_natCast] at ed
      have han : a < n.toNat := by omega
      have hbn : b < n.toNat := by omega
      have hs2 := hS.sq.set (v := b) han
      have hM : brows (goM N M v) = ((brows M).set a ((bools (M.getD a [])).set b [.b true])).set b ((bools ((setM M a b).getD b [])).set a [.b true]) := by
        unfold goM; rw [hl]; dsimp only; rw [Int.toNat_natCast, Int.toNat_natCast, brows_set, brows_set]
      have hq1 : (brows M).set a ((bools (M.getD a [])).set b [.b true]) = brows (setM M a b) := (brows_set M a b).symm
      have hq2 : ((brows M).set a ((bools (M.getD a [])).set b [.b true])).length = n.toNat := by rw [List.length_set, brows_length, hS.sq.len]
      rw [hl]
      refine Idx.by 0 rfl (by simp [ints]) ?_
      refine Look.by [.i .i64 a] rfl ?_
      refine Idx.by 1 rfl (by simp [ints]) ?_
      refine Look.by [.i .i64 b] rfl ?_
      refine Idx.by 0 rfl (by simp [ints]) ?_
      refine Look.by [.i .i64 a] rfl ?_
      refine Idx.by a rfl (by rw [brows_length, hS.sq.len]; exact han) ?_
      refine Pick.T (by rw [brows_length, hS.sq.len]; simp; omega) ?_
      refine Idx.by 1 rfl (by simp [ints]) ?_
      refine Look.by [.i .i64 b] rfl ?_
      refine Look.by _ (brows_at hS.sq han) ?_
      refine Idx.by b rfl (by rw [bools_length, (hS.sq.at_ han).2]; exact hbn) ?_
      refine Look.by _ (brows_at hS.sq han) ?_
      refine Look.by _ (brow_at hS.sq han hbn) ?_
      refine Seg.by (by kernel_rfl) ?_
      refine Idx.by 0 rfl (by simp [ints]) ?_
      refine Look.by [.i .i64 a] rfl ?_
      refine Idx.by a rfl (by rw [brows_length, hS.sq.len]; exact han) ?_
      refine Pick.T (by rw [brows_length, hS.sq.len]; simp; omega) ?_
      refine Idx.by 1 rfl (by simp [ints]) ?_
      refine Look.by [.i .i64 b] rfl ?_
      refine Look.by _ (brows_at hS.sq han) ?_
      refine Idx.by b rfl (by rw [bools_length, (hS.sq.at_ han).2]; exact hbn) ?_
      refine Look.by _ (brows_at hS.sq han) ?_
      refine Look.by _ (brow_at hS.sq han hbn) ?_
      refine Seg.by (by kernel_rfl) ?_
      refine Idx.by 1 rfl (by simp [ints]) ?_
      refine Look.by [.i .i64 b] rfl ?_
      refine Idx.by b rfl (by show b < ((brows M).set a ((bools (M.getD a [])).set b [.b true])).length; rw [hq2]; exact hbn) ?_
      refine Pick.T (by show decide (b < ((brows M).set a ((bools (M.getD a [])).set b [.b true])).length) = true; rw [hq2]; simp; omega) ?_
      refine Idx.by 0 rfl (by simp [ints]) ?_
      refine Look.by [.i .i64 a] rfl ?_
      refine Look.by _ (by show ((brows M).set a ((bools (M.getD a [])).set b [.b true]))[b]? = _; rw [hq1]; exact brows_at hs2 hbn) ?_
      refine Idx.by a rfl (by rw [bools_length, (hs2.at_ hbn).2]; exact han) ?_
      refine Look.by _ (by show ((brows M).set a ((bools (M.getD a [])).set b [.b true]))[b]? = _; rw [hq1]; exact brows_at hs2 hbn) ?_
      refine Look.by _ (brow_at hs2 hbn han) ?_
      refine Seg.by (by kernel_rfl) ?_
      refine Pick.T (by simp [cut, stps_length]; omega) ?_
      refine Next.by (st ++ [stepF N v], doN N (stepF N v), doG G (stepF N v), I.set v false, goM N M v, 0) ⟨hgo, run_step hrun hS.wf hmt hst1 hmin, by dsimp only; rw [List.length_append, List.length_singleton]; omega, by dsimp only; omega, fun u hu => by unfold mayB; rw [decide_eq_false (by dsimp only at hu; omega)]; rfl⟩ (by dsimp only; rw [List.length_append, List.length_singleton]; exact mu_lt hst1) (by refine Weak.by [(0, some _), (1, some _), (2, some _), (3, some _), (4, some _), (5, some _), (6, some _)] (by ((repeat' first | exact rfl | exact trivial | refine And.intro ?_ ?_) <;> (repeat' first | exact rfl | exact trivial | refine And.intro ?_ ?_)); all_goals ((first | (exact hM) | (rw [hI2]; rfl) | (rw [stps_snoc, hs1, ea, eb, ed]; rfl)))) (by ((repeat' first | exact rfl | exact trivial | refine And.intro ?_ ?_) <;> (repeat' first | exact rfl | exact trivial | refine And.intro ?_ ?_)); all_goals ((first | (exact hM) | (rw [hI2]; rfl) | (rw [stps_snoc, hs1, ea, eb, ed]; rfl)))) (by rfl))
  · have hvn : v = n.toNat := by simp at hc; omega
    have hno : ∀ u, mayB N G u ≠ true := fun u hu => by
      have h3 := (mayB_iff.1 hu).hi
      rw [hS.len] at h3
      rw [hno u (by omega)] at hu; cases hu
    rw [runS_end (firstMay_none hno), List.append_nil] at hrun
    rw [hrun]
    clear hno hrun
    have hst4 : st.length ≤ 1000 := by omega
    have hmo := hS.wf.most
    have hNn := hS.len
    refine LoopP.intro (α := Nat) (fun j => j ≤ n.toNat) (fun j => n.toNat - j) (fun j => [(0, .ptr 2 0), (4, .ptr 7 0), (5, .ptr 8 0), (6, .s (.i .i64 j)), (1000001, .ptr 0 0), (1000002, .ptr 5 0)])
      (fun j => [(0, some (.blk [.s (.i .i64 n), .sl 1 none none])), (1, some (.flat false 2 (edges E))), (2, some (.blk [.sl 3 none none, .sl 4 none none])), (3, some (.flat true 1 (bools I))), (4, some (.nest true 1 (brows M) [] [])), (5, some (.blk [.nils, .nils, .nils])), (6, some (.flat true 4 (stps st))), (7, some (.blk [.nils, .nils, .nils])), (8, some (.blk [.sl 6 none none, .sl 9 none none, .sl 10 none none])), (9, some (.flat true 1 (ints (leftK G j)))), (10, some (.flat true 2 (edges (edgesK N G j))))]) 11 0 (by omega) (by refine Weak.by [(0, some _), (1, some _), (2, some _), (3, some _), (4, some _), (5, some _), (6, some _), (7, some _), (8, some _), (9, none), (10, none)] (by ((repeat' first | exact rfl | exact trivial | refine And.intro ?_ ?_) <;> (repeat' first | exact rfl | exact trivial | refine And.intro ?_ ?_))) (by ((repeat' first | exact rfl | exact trivial | refine And.intro ?_ ?_) <;> (repeat' first | exact rfl | exact trivial | refine And.intro ?_ ?_))) (by rfl)) ?_
    rintro j hj
    have hlk := leftK_len G j
    have hek := edgesK_len hS.wf j
    refine Pick.by (fun hd1 => ?_) (fun hd1 => ?_)
    · have hjl : j < n.toNat := by rw [bools_length, hS.il] at hd1; simp at hd1; omega
      have hgj := hS.inn j hjl
      rw [goneAt_nat] at hgj
      refine Idx.by j rfl (by rw [bools_length, hS.il]; exact hjl) ?_
      refine Look.by _ (in_get hS hjl) ?_
      refine Pick.by (fun hd2 => ?_) (fun hd2 => ?_)
      · have hd2 : (!inAt I j) = true := hd2
        have hd2 : G.getD j false = true := by rw [hgj] at hd2; simpa using hd2
        refine Pick.T (inI64_of (by omega) (by omega)) ?_
        refine Next.by (j + 1) (by omega) (by omega) (by refine Weak.by [(0, some _), (1, some _), (2, some _), (3, some _), (4, some _), (5, some _), (6, some _), (7, some _), (8, some _), (9, some _), (10, some _)] (by ((repeat' first | exact rfl | exact trivial | refine And.intro ?_ ?_) <;> (repeat' first | exact rfl | exact trivial | refine And.intro ?_ ?_)); all_goals ((first | (rw [leftK_succ, if_pos hd2, List.append_nil]) | (rw [edgesK_succ, if_pos hd2, List.append_nil])))) (by ((repeat' first | exact rfl | exact trivial | refine And.intro ?_ ?_) <;> (repeat' first | exact rfl | exact trivial | refine And.intro ?_ ?_)); all_goals ((first | (rw [leftK_succ, if_pos hd2, List.append_nil]) | (rw [edgesK_succ, if_pos hd2, List.append_nil])))) (by rfl))
      have hd2 : (!inAt I j) = false := hd2
      have hij : inAt I j = true := by simpa using hd2
      have hd2 : G.getD j false = false := by rw [hgj] at hd2; simpa using hd2
      have hl1 : leftK G (j + 1) = leftK G j ++ [(j : Int)] := by rw [leftK_succ, if_neg (by rw [hd2]; simp)]
      have he1 : edgesK N G (j + 1) = edgesK N G j ++ outE N j := by rw [edgesK_succ, if_neg (by rw [hd2]; simp)]
      refine Pick.T (by simp [cut, ints_length]; omega) ?_
      refine Pick.T (inI64_of (by omega) (by omega)) ?_
      refine LoopP.intro (α := Nat) (fun x => j + 1 ≤ x ∧ x ≤ n.toNat) (fun x => n.toNat - x) (fun x => [(0, .ptr 2 0), (4, .ptr 7 0), (5, .ptr 8 0), (6, .s (.i .i64 j)), (7, .s (.i .i64 x)), (1000001, .ptr 0 0), (1000002, .ptr 5 0)])
        (fun x => [(0, some (.blk [.s (.i .i64 n), .sl 1 none none])), (1, some (.flat false 2 (edges E))), (2, some (.blk [.sl 3 none none, .sl 4 none none])), (3, some (.flat true 1 (bools I))), (4, some (.nest true 1 (brows M) [] [])), (5, some (.blk [.nils, .nils, .nils])), (6, some (.flat true 4 (stps st))), (7, some (.blk [.nils, .nils, .nils])), (8, some (.blk [.sl 6 none none, .sl 9 none none, .sl 10 none none])), (9, some (.flat true 1 (ints (leftK G (j + 1))))), (10, some (.flat true 2 (edges (edgesK N G j ++ innerK I M j x))))]) 11 (j + 1) ⟨by omega, by omega⟩ (by refine Weak.by [(0, some _), (1, some _), (2, some _), (3, some _), (4, some _), (5, some _), (6, some _), (7, some _), (8, some _), (9, some _), (10, some _)] (by ((repeat' first | exact rfl | exact trivial | refine And.intro ?_ ?_) <;> (repeat' first | exact rfl | exact trivial | refine And.intro ?_ ?_)); all_goals ((first | (rw [hl1, ints_snoc]; rfl) | (rw [innerK_start, List.append_nil])))) (by ((repeat' first | exact rfl | exact trivial | refine And.intro ?_ ?_) <;> (repeat' first | exact rfl | exact trivial | refine And.intro ?_ ?_)); all_goals ((first | (rw [hl1, ints_snoc]; rfl) | (rw [innerK_start, List.append_nil])))) (by rfl)) ?_
      rintro x ⟨hx1, hx⟩
      have hil := innerK_len I M j x
      refine Pick.by (fun hd3 => ?_) (fun hd3 => ?_)
      · have hxl : x < n.toNat := by rw [bools_length, hS.il] at hd3; simp at hd3; omega
        refine Idx.by x rfl (by rw [bools_length, hS.il]; exact hxl) ?_
        refine Look.by _ (in_get hS hxl) ?_
        refine Pick.by (fun hd4 => ?_) (fun hd4 => ?_)
        · have hd4 : inAt I x = true := hd4
          refine Idx.by j rfl (by rw [brows_length, hS.sq.len]; exact hjl) ?_
          refine Pick.T (by rw [brows_length, hS.sq.len]; simp; omega) ?_
          refine Look.by _ (brows_get hS hjl) ?_
          refine Idx.by x rfl (by rw [bools_length, (hS.sq.at_ hjl).2]; exact hxl) ?_
          refine Look.by _ (brows_get hS hjl) ?_
          refine Look.by _ (mat_get hS hjl hxl) ?_
          refine Pick.by (fun hd5 => ?_) (fun hd5 => ?_)
          · have hd5 : matAt M j x = true := hd5
            refine Pick.T (by simp [cut, edges_length] at hil ⊢; omega) ?_
            refine Pick.T (inI64_of (by omega) (by omega)) ?_
            refine Next.by (x + 1) ⟨by omega, by omega⟩ (by omega) (by refine Weak.by [(0, some _), (1, some _), (2, some _), (3, some _), (4, some _), (5, some _), (6, some _), (7, some _), (8, some _), (9, some _), (10, some _)] (by ((repeat' first | exact rfl | exact trivial | refine And.intro ?_ ?_) <;> (repeat' first | exact rfl | exact trivial | refine And.intro ?_ ?_)); all_goals ((rw [innerK_succ hx1, if_pos (by rw [hd4, hd5]; rfl), ← List.append_assoc, edges_snoc]; rfl))) (by ((repeat' first | exact rfl | exact trivial | refine And.intro ?_ ?_) <;> (repeat' first | exact rfl | exact trivial | refine And.intro ?_ ?_)); all_goals ((rw [innerK_succ hx1, if_pos (by rw [hd4, hd5]; rfl), ← List.append_assoc, edges_snoc]; rfl))) (by rfl))
          · have hd5 : matAt M j x = false := hd5
            refine Pick.T (inI64_of (by omega) (by omega)) ?_
            refine Next.by (x + 1) ⟨by omega, by omega⟩ (by omega) (by refine Weak.by [(0, some _), (1, some _), (2, some _), (3, some _), (4, some _), (5, some _), (6, some _), (7, some _), (8, some _), (9, some _), (10, some _)] (by ((repeat' first | exact rfl | exact trivial | refine And.intro ?_ ?_) <;> (repeat' first | exact rfl | exact trivial | refine And.intro ?_ ?_)); all_goals ((rw [innerK_succ hx1, if_neg (by rw [hd4, hd5]; decide), List.append_nil]))) (by ((repeat' first | exact rfl | exact trivial | refine And.intro ?_ ?_) <;> (repeat' first | exact rfl | exact trivial | refine And.intro ?_ ?_)); all_goals ((rw [innerK_succ hx1, if_neg (by rw [hd4, hd5]; decide), List.append_nil]))) (by rfl))
        · have hd4 : inAt I x = false := hd4
          refine Pick.T (inI64_of (by omega) (by omega)) ?_
          refine Next.by (x + 1) ⟨by omega, by omega⟩ (by omega) (by refine Weak.by [(0, some _), (1, some _), (2, some _), (3, some _), (4, some _), (5, some _), (6, some _), (7, some _), (8, some _), (9, some _), (10, some _)] (by ((repeat' first | exact rfl | exact trivial | refine And.intro ?_ ?_) <;> (repeat' first | exact rfl | exact trivial | refine And.intro ?_ ?_)); all_goals ((rw [innerK_succ hx1, if_neg (by rw [hd4]; simp), List.append_nil]))) (by ((repeat' first | exact rfl | exact trivial | refine And.intro ?_ ?_) <;> (repeat' first | exact rfl | exact trivial | refine And.intro ?_ ?_)); all_goals ((rw [innerK_succ hx1, if_neg (by rw [hd4]; simp), List.append_nil]))) (by rfl))
      · have hxe : x = n.toNat := by rw [bools_length, hS.il] at hd3; simp at hd3; omega
        refine Pick.T (inI64_of (by omega) (by omega)) ?_
        refine Next.by (j + 1) (by omega) (by omega) (by refine Weak.by [(0, some _), (1, some _), (2, some _), (3, some _), (4, some _), (5, some _), (6, some _), (7, some _), (8, some _), (9, some _), (10, some _)] (by ((repeat' first | exact rfl | exact trivial | refine And.intro ?_ ?_) <;> (repeat' first | exact rfl | exact trivial | refine And.intro ?_ ?_)); all_goals ((rw [he1, hxe, innerK_end hS hjl hij]))) (by ((repeat' first | exact rfl | exact trivial | refine And.intro ?_ ?_) <;> (repeat' first | exact rfl | exact trivial | refine And.intro ?_ ?_)); all_goals ((rw [he1, hxe, innerK_end hS hjl hij]))) (by rfl))
    have hje : j = n.toNat := by rw [bools_length, hS.il] at hd1; simp at hd1; omega
    subst hje
    have hGl : G.length = n.toNat := by rw [hS.wf.len, hS.len]
    have e1 : leftF G = leftK G n.toNat := by unfold leftF leftK; rw [hGl]
    have e2 : edgesF N G = edgesK N G n.toNat := by unfold edgesF edgesK; rw [e1]
    refine ⟨rfl, ?_⟩
    (repeat' first | exact rfl | exact trivial | refine And.intro ?_ ?_)
    all_goals (first | exact congrArg ints e1 | exact congrArg edges e2)
end Go.Sh

set_option linter.unusedVariables false
set_option linter.unusedSimpArgs false
namespace Go.Sh
open Go.Proofs
noncomputable def XT10 : Cx := { XR10 with nt := 113, jc := [113031] }
theorem XT10_ok : CrOk Try.prog (callAt 2 XT10) := callAt_ok hmix hT (sound_cons Right3_ok sound_nil) (inl_cons Try.func68 (by rfl) (by rfl) (by rfl) (inl_cons Try.func69 (by rfl) (by rfl) (by rfl) (inl_cons Try.func70 (by rfl) (by rfl) (by rfl) (inl_cons Try.func71 (by rfl) (by rfl) (by rfl) (inl_cons Try.func73 (by rfl) (by rfl) (by rfl) inl_nil))))) cr_none 2
theorem chk {N : List (List Int)} {G : List Bool} {sv sa sb x y : Int} {sd z : Bool} (hm : mayB N G sv = true) (h1 : (stepF N sv).1 = sv) (h2 : (stepF N sv).2.1 = x) (h3 : (stepF N sv).2.2.1 = y) (h4 : (stepF N sv).2.2.2 = z) :
    mayStp N G (sv, sa, sb, sd) = (decide (sa = x) && (decide (sb = y) && decide (sd = z))) := by
  have e : stepF N sv = (sv, x, y, z) := by rw [← h2, ← h3, ← h4, Prod.ext_iff]; exact ⟨h1, rfl⟩
  unfold mayStp
  dsimp only
  rw [hm, e, Bool.true_and, Bool.eq_iff_iff]
  simp only [Bool.and_eq_true, decide_eq_true_eq, Prod.mk.injEq, true_and]
  constructor
  · rintro ⟨a, b, c⟩; exact ⟨a.symm, b.symm, c.symm⟩
  · rintro ⟨a, b, c⟩; exact ⟨a.symm, b.symm, c.symm⟩
theorem max0 (a : Nat) : (if 0 > (a : Int) then 0 else (a : Int)) = a := if_neg (by omega)
theorem beq_dec (x y : Bool) : (x == y) = decide (x = y) := by cases x <;> cases y <;> rfl
theorem mayB_lo {N : List (List Int)} {G : List Bool} {v : Int} (h : ¬ 0 ≤ v) : mayB N G v = false := by unfold mayB; rw [decide_eq_false h]; rfl
theorem mayB_hi {N : List (List Int)} {G : List Bool} {v : Int} (h : ¬ v < N.length) : mayB N G v = false := by unfold mayB; rw [decide_eq_false h]; simp
set_option maxHeartbeats 4000000 in
theorem Repl10_ok : SoundC Try.prog T 38 ReplC := by
  refine sound_con (X := XT10) (cr := callAt 2 XT10) XT10_ok hmix hT (sound_cons Right3_ok sound_nil) Try.func38 (by rfl) (by rfl) (by rfl) (by rfl) 3 ?_
  rintro ⟨⟨n, E⟩, L⟩ hL
  dsimp only at hL ⊢
  refine ⟨⟨Nat.le_of_ble_eq_true rfl, Nat.le_of_ble_eq_true rfl⟩, ?_⟩
  refine Call.by _ _ (RightC_at n E) ?_
  refine Pick.by (fun h1 => ?_) (fun h1 => ?_)
  · have h1 : ¬ RightP n E := by have h1 : (!decide (RightP n E)) = true := h1; simpa using h1
    have hv : replO n E L = (([], [], []), false) := if_neg h1
    rw [hv]
    refine ⟨rfl, ?_⟩
    (repeat' first | exact rfl | exact trivial | refine And.intro ?_ ?_)
  have hR : RightP n E := by have h1 : (!decide (RightP n E)) = false := h1; simpa using h1
  have hv : replO n E L = (((replR n E L).1, leftF (replR n E L).2.2.2, edgesF (replR n E L).2.2.1 (replR n E L).2.2.2), (replR n E L).2.1) := if_pos hR
  rw [hv]
  have hn0 := hR.1
  have hn1 := hR.2.1
  have hE4 := hR.2.2.1
  refine Pick.T (by simp) ?_
  refine Idx.by n.toNat (by omega) (by omega) ?_
  refine LoopP.intro (α := Nat) (fun k => k ≤ n.toNat) (fun k => n.toNat - k) (fun k => [(1, .ptr 0 0), (3, .ptr 2 0), (4, .s (.i .i64 k)), (1000001, .sl 7 none none), (1000002, .ptr 5 0), (1000004, .ptr 6 0)])
    (fun k => [(0, some (.blk [.s (.i .i64 n), .sl 1 none none])), (1, some (.flat false 2 (edges E))), (2, some (.blk [.sl 3 none none, .sl 4 none none])), (3, some (.flat true 1 (bools (List.replicate k true ++ List.replicate (n.toNat - k) false)))), (4, some (.nest true 1 (brows (List.replicate k (List.replicate n.toNat false))) [] [])), (5, some (.blk [.s (.i .i64 n), .sl 1 none none])), (6, some (.blk [.nils, .nils, .nils])), (7, some (.flat false 4 (stps L)))]) 8 0 (by omega) (by refine Weak.by [(0, some _), (1, some _), (2, some _), (3, some _), (4, none), (5, some _), (6, some _), (7, some _)] (by ((repeat' first | exact rfl | exact trivial | refine And.intro ?_ ?_) <;> (repeat' first | exact rfl | exact trivial | refine And.intro ?_ ?_)); all_goals ((simp [bools]; done))) (by ((repeat' first | exact rfl | exact trivial | refine And.intro ?_ ?_) <;> (repeat' first | exact rfl | exact trivial | refine And.intro ?_ ?_)); all_goals ((simp [bools]; done))) (by rfl)) ?_
  rintro k hk
  refine Pick.by (fun hb1 => ?_) (fun hb1 => ?_)
  · have hkl : k < n.toNat := by simp at hb1; omega
    refine Idx.by k rfl (by rw [bools_length]; simp; omega) ?_
    refine Look.by [.b false] (by refine bools_get ?_; rw [List.getElem?_append_right (by simp), List.length_replicate, Nat.sub_self, List.getElem?_replicate, if_pos (by omega)]) ?_
    refine Pick.T (by simp) ?_
    refine Idx.by n.toNat (by omega) (by omega) ?_
    refine Pick.T (by simp [brows]; omega) ?_
    refine Seg.by (by kernel_rfl) ?_
    refine Pick.T (inI64_of (by omega) (by omega)) ?_
    refine Next.by (k + 1) (by omega) (by omega) (by refine Weak.by [(0, some _), (1, some _), (2, some _), (3, some _), (4, some _), (5, some _), (6, some _), (7, some _)] (by ((repeat' first | exact rfl | exact trivial | refine And.intro ?_ ?_) <;> (repeat' first | exact rfl | exact trivial | refine And.intro ?_ ?_)); all_goals ((first | (exact in_step hkl) | (rw [List.replicate_succ']; unfold brows; rw [List.map_append]; simp [bools]; done)))) (by ((repeat' first | exact rfl | exact trivial | refine And.intro ?_ ?_) <;> (repeat' first | exact rfl | exact trivial | refine And.intro ?_ ?_)); all_goals ((first | (exact in_step hkl) | (rw [List.replicate_succ']; unfold brows; rw [List.map_append]; simp [bools]; done)))) (by rfl))
  have hkl : k = n.toNat := by simp at hb1; omega
  subst hkl
  rw [Nat.sub_self, List.replicate_zero, List.append_nil]
  refine LoopP.intro (α := Nat) (fun k => k ≤ E.length) (fun k => E.length - k) (fun k => [(1, .ptr 0 0), (3, .ptr 2 0), (5, .s (.i .i64 k)), (1000001, .sl 7 none none), (1000002, .ptr 5 0), (1000004, .ptr 6 0)])
    (fun k => [(0, some (.blk [.s (.i .i64 n), .sl 1 none none])), (1, some (.flat false 2 (edges E))), (2, some (.blk [.sl 3 none none, .sl 4 none none])), (3, some (.flat true 1 (bools (List.replicate n.toNat true)))), (4, some (.nest true 1 (brows (matF n.toNat (E.take k))) [] [])), (5, some (.blk [.s (.i .i64 n), .sl 1 none none])), (6, some (.blk [.nils, .nils, .nils])), (7, some (.flat false 4 (stps L)))]) 8 0 (by omega) (by refine Weak.by [(0, some _), (1, some _), (2, some _), (3, some _), (4, some _), (5, some _), (6, some _), (7, some _)] (by ((repeat' first | exact rfl | exact trivial | refine And.intro ?_ ?_) <;> (repeat' first | exact rfl | exact trivial | refine And.intro ?_ ?_))) (by ((repeat' first | exact rfl | exact trivial | refine And.intro ?_ ?_) <;> (repeat' first | exact rfl | exact trivial | refine And.intro ?_ ?_))) (by rfl)) ?_
  rintro k hk
  have hsq := (mat_fold (n := n) (E.take k) _ (sqr_zero n.toNat) fun x hx => hR.2.2.2.1 x (List.mem_of_mem_take hx)).1
  have hsq : Sqr n.toNat (matF n.toNat (E.take k)) := hsq
  refine Pick.by (fun hb2 => ?_) (fun hb2 => ?_)
  · have hkl : k < E.length := by simpa [edges_length] using hb2
    obtain ⟨o1, o2, o3⟩ := hR.2.2.2.1 _ (List.getElem_mem hkl)
    have hget := edges_get (List.getElem?_eq_getElem hkl)
    have hst : matF n.toNat (E.take (k + 1)) = setM (setM (matF n.toNat (E.take k)) E[k].1.toNat E[k].2.toNat) E[k].2.toNat E[k].1.toNat := by
      rw [List.take_succ_eq_append_getElem hkl, matF, List.foldl_append]; rfl
    obtain ⟨a, ha⟩ : ∃ a : Nat, E[k].1 = a := ⟨E[k].1.toNat, by omega⟩
    obtain ⟨b, hb⟩ : ∃ b : Nat, E[k].2 = b := ⟨E[k].2.toNat, by omega⟩
    rw [ha, hb] at hget hst
    rw [Int.toNat_natCast, Int.toNat_natCast] at hst
    generalize matF n.toNat (E.take k) = M at hsq hst ⊢
    have han : a < n.toNat := by omega
    have hbn : b < n.toNat := by omega
    have hs2 := hsq.set (v := b) han
    refine Idx.by k rfl (by rw [edges_length]; exact hkl) ?_
    refine Look.by _ hget ?_
    refine Idx.by a rfl (by rw [brows_length, hsq.len]; exact han) ?_
    refine Pick.T (by rw [brows_length, hsq.len]; simpa using han) ?_
    refine Idx.by k rfl (by rw [edges_length]; exact hkl) ?_
    refine Look.by _ hget ?_
    refine Look.by _ (brows_at hsq han) ?_
    refine Idx.by b rfl (by rw [bools_length, (hsq.at_ han).2]; exact hbn) ?_
    refine Look.by _ (brows_at hsq han) ?_
    refine Look.by _ (brow_at hsq han hbn) ?_
    refine Seg.by (by kernel_rfl) ?_
    refine Idx.by k rfl (by rw [edges_length]; exact hkl) ?_
    refine Look.by _ hget ?_
    have hs1 : (brows M).set a ((bools (M.getD a [])).set b [.b true]) = brows (setM M a b) := (brows_set M a b).symm
    have hl1 : ((brows M).set a ((bools (M.getD a [])).set b [.b true])).length = n.toNat := by rw [List.length_set, brows_length, hsq.len]
    refine Idx.by b rfl (by show b < ((brows M).set a ((bools (M.getD a [])).set b [.b true])).length; rw [hl1]; exact hbn) ?_
    refine Pick.T (by show decide (b < ((brows M).set a ((bools (M.getD a [])).set b [.b true])).length) = true; rw [hl1]; simpa using hbn) ?_
    refine Idx.by k rfl (by rw [edges_length]; exact hkl) ?_
    refine Look.by _ hget ?_
    refine Look.by _ (by show ((brows M).set a ((bools (M.getD a [])).set b [.b true]))[b]? = _; rw [hs1]; exact brows_at hs2 hbn) ?_
    refine Idx.by a rfl (by rw [bools_length, (hs2.at_ hbn).2]; exact han) ?_
    refine Look.by _ (by show ((brows M).set a ((bools (M.getD a [])).set b [.b true]))[b]? = _; rw [hs1]; exact brows_at hs2 hbn) ?_
    refine Look.by _ (brow_at hs2 hbn han) ?_
    refine Seg.by (by kernel_rfl) ?_
    refine Pick.T (inI64_of (by omega) (by omega)) ?_
    refine Next.by (k + 1) (by omega) (by omega) (by refine Weak.by [(0, some _), (1, some _), (2, some _), (3, some _), (4, some _), (5, some _), (6, some _), (7, some _)] (by ((repeat' first | exact rfl | exact trivial | refine And.intro ?_ ?_) <;> (repeat' first | exact rfl | exact trivial | refine And.intro ?_ ?_)); all_goals ((rw [hst, brows_set, brows_set]; rfl))) (by ((repeat' first | exact rfl | exact trivial | refine And.intro ?_ ?_) <;> (repeat' first | exact rfl | exact trivial | refine And.intro ?_ ?_)); all_goals ((rw [hst, brows_set, brows_set]; rfl))) (by rfl))
  have hkl : k = E.length := by simp [edges_length] at hb2; omega
  subst hkl
  have hS : Sim n.toNat (nbrs n.toNat E) (List.replicate n.toNat false) (List.replicate n.toNat true) (matF n.toNat (E.take E.length)) := by rw [List.take_length]; exact sim_begin hR
  generalize matF n.toNat (E.take E.length) = M at hS ⊢
  clear hsq hk hb1 hb2
  have hrep : replR n E L = ([] ++ (replS (L.drop 0) (nbrs n.toNat E) (List.replicate n.toNat false)).1, (replS (L.drop 0) (nbrs n.toNat E) (List.replicate n.toNat false)).2) := rfl
  generalize nbrs n.toNat E = N at hS hrep
  generalize List.replicate n.toNat false = G at hS hrep
  generalize List.replicate n.toNat true = I at hS ⊢
  refine LoopP.intro (α := Nat × List (List Int) × List Bool × List Bool × List (List Bool)) (fun a => a.1 ≤ L.length ∧ Sim n.toNat a.2.1 a.2.2.1 a.2.2.2.1 a.2.2.2.2 ∧ replR n E L = (L.take a.1 ++ (replS (L.drop a.1) a.2.1 a.2.2.1).1, (replS (L.drop a.1) a.2.1 a.2.2.1).2))
    (fun a => L.length - a.1) (fun a => [(1, .sl 4 none none), (4, .ptr 3 0), (6, .ptr 0 0), (7, .s (.i .i64 a.1))])
    (fun a => [(0, some (.blk [.sl 1 none none, .sl 2 none none])), (1, some (.flat true 1 (bools a.2.2.2.1))), (2, some (.nest true 1 (brows a.2.2.2.2) [] [])), (3, some (.blk [.nils, .nils, .nils])), (4, some (.flat false 4 (stps L)))]) 5 (0, N, G, I, M)
    ⟨by omega, hS, hrep⟩ (by refine Weak.by [(0, some _), (1, some _), (2, some _), (3, some _), (4, some _)] (by ((repeat' first | exact rfl | exact trivial | refine And.intro ?_ ?_) <;> (repeat' first | exact rfl | exact trivial | refine And.intro ?_ ?_))) (by ((repeat' first | exact rfl | exact trivial | refine And.intro ?_ ?_) <;> (repeat' first | exact rfl | exact trivial | refine And.intro ?_ ?_))) (by rfl)) ?_
  clear hS hrep N G I M
  rintro ⟨i, N, G, I, M⟩ ⟨hi, hS, hrep⟩
  dsimp only at hi hS hrep ⊢
  refine Pick.by (fun hc => ?_) (fun hc => ?_)
  · have hlt : i < L.length := by rw [stps_length] at hc; simpa using hc
    obtain ⟨⟨sv, sa, sb, sd⟩, hs⟩ : ∃ s, L[i]? = some s := ⟨_, List.getElem?_eq_getElem hlt⟩
    have hse : L[i] = (sv, sa, sb, sd) := by rw [List.getElem?_eq_getElem hlt] at hs; injection hs
    have hrow : (stps L)[i]? = some [.i .i64 sv, .i .i64 sa, .i .i64 sb, .b sd] := by unfold stps; rw [List.getElem?_map, hs]; rfl
    have hdrop : L.drop i = (sv, sa, sb, sd) :: L.drop (i + 1) := by rw [List.drop_eq_getElem_cons hlt, hse]
    rw [hdrop] at hrep
    refine Idx.by i rfl (by rw [stps_length]; exact hlt) ?_
    refine Look.by _ hrow ?_
    by_cases h0 : 0 ≤ sv
    rotate_left
    · have hmf := mayB_lo (N := N) (G := G) h0
      refine Pick.F (decide_eq_false h0) ?_
      refine JoinP.intro (α := Unit) (fun _ => True) (fun _ => [(1, .sl 4 none none), (4, .ptr 3 0), (6, .ptr 0 0), (7, .s (.i .i64 i)), (8, .s (.b false))])
        (fun _ => [(0, some (.blk [.sl 1 none none, .sl 2 none none])), (1, some (.flat true 1 (bools I))), (2, some (.nest true 1 (brows M) [] [])), (3, some (.blk [.nils, .nils, .nils])), (4, some (.flat false 4 (stps L)))]) 5 ⟨(), trivial, by refine Weak.by [(0, some _), (1, some _), (2, some _), (3, some _), (4, some _)] (by ((repeat' first | exact rfl | exact trivial | refine And.intro ?_ ?_) <;> (repeat' first | exact rfl | exact trivial | refine And.intro ?_ ?_))) (by ((repeat' first | exact rfl | exact trivial | refine And.intro ?_ ?_) <;> (repeat' first | exact rfl | exact trivial | refine And.intro ?_ ?_))) (by rfl)⟩ ?_
      rintro ⟨⟩ -
      have hno : mayStp N G (sv, sa, sb, sd) = false := by unfold mayStp; rw [hmf]; rfl
      have htk : (L.take i).length = i := by rw [List.length_take]; omega
      have hcS : ([] : Flat) ++ cut (subOf none 0 0 i) (stps L) = stps (L.take i) := by
        simp only [subOf, cut, List.drop_zero, Nat.sub_zero, stps, List.map_take, List.nil_append]
      refine Rng.by 0 i rfl rfl (by omega) (by rw [stps_length]; omega) ?_
      refine Pick.T (by have := congrArg List.length hcS; rw [List.length_append, stps_length, htk] at this; rw [this]; simp; omega) ?_
      rw [replS_no hno, List.append_nil] at hrep
      rw [hrep]
      have hmo := hS.wf.most
      have hNn := hS.len
      refine LoopP.intro (α := Nat) (fun j => j ≤ n.toNat) (fun j => n.toNat - j) (fun j => [(0, .ptr 0 0), (4, .ptr 5 0), (5, .ptr 6 0), (6, .s (.i .i64 j)), (1000004, .ptr 3 0)])
        (fun j => [(0, some (.blk [.sl 1 none none, .sl 2 none none])), (1, some (.flat true 1 (bools I))), (2, some (.nest true 1 (brows M) [] [])), (3, some (.blk [.nils, .nils, .nils])), (4, some (.flat true 4 (stps (L.take i)))), (5, some (.blk [.nils, .nils, .nils])), (6, some (.blk [.sl 4 none none, .sl 7 none none, .sl 8 none none])), (7, some (.flat true 1 (ints (leftK G j)))), (8, some (.flat true 2 (edges (edgesK N G j))))]) 9 0 (by omega) (by refine Weak.by [(0, some _), (1, some _), (2, some _), (3, some _), (4, some _), (5, some _), (6, some _), (7, none), (8, none)] (by ((repeat' first | exact rfl | exact trivial | refine And.intro ?_ ?_) <;> (repeat' first | exact rfl | exact trivial | refine And.intro ?_ ?_)); all_goals ((exact hcS.symm))) (by ((repeat' first | exact rfl | exact trivial | refine And.intro ?_ ?_) <;> (repeat' first | exact rfl | exact trivial | refine And.intro ?_ ?_)); all_goals ((exact hcS.symm))) (by rfl)) ?_
      rintro j hj
      have hlk := leftK_len G j
      have hek := edgesK_len hS.wf j
      refine Pick.by (fun hd1 => ?_) (fun hd1 => ?_)
      · have hjl : j < n.toNat := by rw [bools_length, hS.il] at hd1; simp at hd1; omega
        have hgj := hS.inn j hjl
        rw [goneAt_nat] at hgj
        refine Idx.by j rfl (by rw [bools_length, hS.il]; exact hjl) ?_
        refine Look.by _ (in_get hS hjl) ?_
        refine Pick.by (fun hd2 => ?_) (fun hd2 => ?_)
        · have hd2 : (!inAt I j) = true := hd2
          have hd2 : G.getD j false = true := by rw [hgj] at hd2; simpa using hd2
          refine Pick.T (inI64_of (by omega) (by omega)) ?_
          refine Next.by (j + 1) (by omega) (by omega) (by refine Weak.by [(0, some _), (1, some _), (2, some _), (3, some _), (4, some _), (5, some _), (6, some _), (7, some _), (8, some _)] (by ((repeat' first | exact rfl | exact trivial | refine And.intro ?_ ?_) <;> (repeat' first | exact rfl | exact trivial | refine And.intro ?_ ?_)); all_goals ((first | (rw [leftK_succ, if_pos hd2, List.append_nil]) | (rw [edgesK_succ, if_pos hd2, List.append_nil])))) (by ((repeat' first | exact rfl | exact trivial | refine And.intro ?_ ?_) <;> (repeat' first | exact rfl | exact trivial | refine And.intro ?_ ?_)); all_goals ((first | (rw [leftK_succ, if_pos hd2, List.append_nil]) | (rw [edgesK_succ, if_pos hd2, List.append_nil])))) (by rfl))
        have hd2 : (!inAt I j) = false := hd2
        have hij : inAt I j = true := by simpa using hd2
        have hd2 : G.getD j false = false := by rw [hgj] at hd2; simpa using hd2
        have hl1 : leftK G (j + 1) = leftK G j ++ [(j : Int)] := by rw [leftK_succ, if_neg (by rw [hd2]; simp)]
        have he1 : edgesK N G (j + 1) = edgesK N G j ++ outE N j := by rw [edgesK_succ, if_neg (by rw [hd2]; simp)]
        refine Pick.T (by simp [cut, ints_length]; omega) ?_
        refine Pick.T (inI64_of (by omega) (by omega)) ?_
        refine LoopP.intro (α := Nat) (fun x => j + 1 ≤ x ∧ x ≤ n.toNat) (fun x => n.toNat - x) (fun x => [(0, .ptr 0 0), (4, .ptr 5 0), (5, .ptr 6 0), (6, .s (.i .i64 j)), (7, .s (.i .i64 x)), (1000004, .ptr 3 0)])
          (fun x => [(0, some (.blk [.sl 1 none none, .sl 2 none none])), (1, some (.flat true 1 (bools I))), (2, some (.nest true 1 (brows M) [] [])), (3, some (.blk [.nils, .nils, .nils])), (4, some (.flat true 4 (stps (L.take i)))), (5, some (.blk [.nils, .nils, .nils])), (6, some (.blk [.sl 4 none none, .sl 7 none none, .sl 8 none none])), (7, some (.flat true 1 (ints (leftK G (j + 1))))), (8, some (.flat true 2 (edges (edgesK N G j ++ innerK I M j x))))]) 9 (j + 1) ⟨by omega, by omega⟩ (by refine Weak.by [(0, some _), (1, some _), (2, some _), (3, some _), (4, some _), (5, some _), (6, some _), (7, some _), (8, some _)] (by ((repeat' first | exact rfl | exact trivial | refine And.intro ?_ ?_) <;> (repeat' first | exact rfl | exact trivial | refine And.intro ?_ ?_)); all_goals ((first | (rw [hl1, ints_snoc]; rfl) | (rw [innerK_start, List.append_nil])))) (by ((repeat' first | exact rfl | exact trivial | refine And.intro ?_ ?_) <;> (repeat' first | exact rfl | exact trivial | refine And.intro ?_ ?_)); all_goals ((first | (rw [hl1, ints_snoc]; rfl) | (rw [innerK_start, List.append_nil])))) (by rfl)) ?_
        rintro x ⟨hx1, hx⟩
        have hil := innerK_len I M j x
        refine Pick.by (fun hd3 => ?_) (fun hd3 => ?_)
        · have hxl : x < n.toNat := by rw [bools_length, hS.il] at hd3; simp at hd3; omega
          refine Idx.by x rfl (by rw [bools_length, hS.il]; exact hxl) ?_
          refine Look.by _ (in_get hS hxl) ?_
          refine Pick.by (fun hd4 => ?_) (fun hd4 => ?_)
          · have hd4 : inAt I x = true := hd4
            refine Idx.by j rfl (by rw [brows_length, hS.sq.len]; exact hjl) ?_
            refine Pick.T (by rw [brows_length, hS.sq.len]; simp; omega) ?_
            refine Look.by _ (brows_get hS hjl) ?_
            refine Idx.by x rfl (by rw [bools_length, (hS.sq.at_ hjl).2]; exact hxl) ?_
            refine Look.by _ (brows_get hS hjl) ?_
            refine Look.by _ (mat_get hS hjl hxl) ?_
            refine Pick.by (fun hd5 => ?_) (fun hd5 => ?_)
            · have hd5 : matAt M j x = true := hd5
              refine Pick.T (by simp [cut, edges_length] at hil ⊢; omega) ?_
              refine Pick.T (inI64_of (by omega) (by omega)) ?_
              refine Next.by (x + 1) ⟨by omega, by omega⟩ (by omega) (by refine Weak.by [(0, some _), (1, some _), (2, some _), (3, some _), (4, some _), (5, some _), (6, some _), (7, some _), (8, some _)] (by ((repeat' first | exact rfl | exact trivial | refine And.intro ?_ ?_) <;> (repeat' first | exact rfl | exact trivial | refine And.intro ?_ ?_)); all_goals ((rw [innerK_succ hx1, if_pos (by rw [hd4, hd5]; rfl), ← List.append_assoc, edges_snoc]; rfl))) (by ((repeat' first | exact rfl | exact trivial | refine And.intro ?_ ?_) <;> (repeat' first | exact rfl | exact trivial | refine And.intro ?_ ?_)); all_goals ((rw [innerK_succ hx1, if_pos (by rw [hd4, hd5]; rfl), ← List.append_assoc, edges_snoc]; rfl))) (by rfl))
            · have hd5 : matAt M j x = false := hd5
              refine Pick.T (inI64_of (by omega) (by omega)) ?_
              refine Next.by (x + 1) ⟨by omega, by omega⟩ (by omega) (by refine Weak.by [(0, some _), (1, some _), (2, some _), (3, some _), (4, some _), (5, some _), (6, some _), (7, some _), (8, some _)] (by ((repeat' first | exact rfl | exact trivial | refine And.intro ?_ ?_) <;> (repeat' first | exact rfl | exact trivial | refine And.intro ?_ ?_)); all_goals ((rw [innerK_succ hx1, if_neg (by rw [hd4, hd5]; decide), List.append_nil]))) (by ((repeat' first | exact rfl | exact trivial | refine And.intro ?_ ?_) <;> (repeat' first | exact rfl | exact trivial | refine And.intro ?_ ?_)); all_goals ((rw [innerK_succ hx1, if_neg (by rw [hd4, hd5]; decide), List.append_nil]))) (by rfl))
          · have hd4 : inAt I x = false := hd4
            refine Pick.T (inI64_of (by omega) (by omega)) ?_
            refine Next.by (x + 1) ⟨by omega, by omega⟩ (by omega) (by refine Weak.by [(0, some _), (1, some _), (2, some _), (3, some _), (4, some _), (5, some _), (6, some _), (7, some _), (8, some _)] (by ((repeat' first | exact rfl | exact trivial | refine And.intro ?_ ?_) <;> (repeat' first | exact rfl | exact trivial | refine And.intro ?_ ?_)); all_goals ((rw [innerK_succ hx1, if_neg (by rw [hd4]; simp), List.append_nil]))) (by ((repeat' first | exact rfl | exact trivial | refine And.intro ?_ ?_) <;> (repeat' first | exact rfl | exact trivial | refine And.intro ?_ ?_)); all_goals ((rw [innerK_succ hx1, if_neg (by rw [hd4]; simp), List.append_nil]))) (by rfl))
        · have hxe : x = n.toNat := by rw [bools_length, hS.il] at hd3; simp at hd3; omega
          refine Pick.T (inI64_of (by omega) (by omega)) ?_
          refine Next.by (j + 1) (by omega) (by omega) (by refine Weak.by [(0, some _), (1, some _), (2, some _), (3, some _), (4, some _), (5, some _), (6, some _), (7, some _), (8, some _)] (by ((repeat' first | exact rfl | exact trivial | refine And.intro ?_ ?_) <;> (repeat' first | exact rfl | exact trivial | refine And.intro ?_ ?_)); all_goals ((rw [he1, hxe, innerK_end hS hjl hij]))) (by ((repeat' first | exact rfl | exact trivial | refine And.intro ?_ ?_) <;> (repeat' first | exact rfl | exact trivial | refine And.intro ?_ ?_)); all_goals ((rw [he1, hxe, innerK_end hS hjl hij]))) (by rfl))
      have hje : j = n.toNat := by rw [bools_length, hS.il] at hd1; simp at hd1; omega
      subst hje
      have hGl : G.length = n.toNat := by rw [hS.wf.len, hS.len]
      have e1 : leftF G = leftK G n.toNat := by unfold leftF leftK; rw [hGl]
      have e2 : edgesF N G = edgesK N G n.toNat := by unfold edgesF edgesK; rw [e1]
      refine ⟨rfl, ?_⟩
      (repeat' first | exact rfl | exact trivial | refine And.intro ?_ ?_)
      all_goals (first | exact congrArg ints e1 | exact congrArg edges e2)
    obtain ⟨w, hw⟩ : ∃ w : Nat, sv = w := ⟨sv.toNat, by omega⟩
    by_cases hwv : w < n.toNat
    rotate_left
    · have hmf : mayB N G sv = false := mayB_hi (by rw [hS.len, hw]; omega)
      refine Pick.T (decide_eq_true h0) ?_
      refine Pick.F (by rw [bools_length, hS.il]; simp; omega) ?_
      refine JoinP.intro (α := Unit) (fun _ => True) (fun _ => [(1, .sl 4 none none), (4, .ptr 3 0), (6, .ptr 0 0), (7, .s (.i .i64 i)), (8, .s (.b false))])
        (fun _ => [(0, some (.blk [.sl 1 none none, .sl 2 none none])), (1, some (.flat true 1 (bools I))), (2, some (.nest true 1 (brows M) [] [])), (3, some (.blk [.nils, .nils, .nils])), (4, some (.flat false 4 (stps L)))]) 5 ⟨(), trivial, by refine Weak.by [(0, some _), (1, some _), (2, some _), (3, some _), (4, some _)] (by ((repeat' first | exact rfl | exact trivial | refine And.intro ?_ ?_) <;> (repeat' first | exact rfl | exact trivial | refine And.intro ?_ ?_))) (by ((repeat' first | exact rfl | exact trivial | refine And.intro ?_ ?_) <;> (repeat' first | exact rfl | exact trivial | refine And.intro ?_ ?_))) (by rfl)⟩ ?_
      rintro ⟨⟩ -
      have hno : mayStp N G (sv, sa, sb, sd) = false := by unfold mayStp; rw [hmf]; rfl
      have htk : (L.take i).length = i := by rw [List.length_take]; omega
      have hcS : ([] : Flat) ++ cut (subOf none 0 0 i) (stps L) = stps (L.take i) := by
        simp only [subOf, cut, List.drop_zero, Nat.sub_zero, stps, List.map_take, List.nil_append]
      refine Rng.by 0 i rfl rfl (by omega) (by rw [stps_length]; omega) ?_
      refine Pick.T (by have := congrArg List.length hcS; rw [List.length_append, stps_length, htk] at this; rw [this]; simp; omega) ?_
      rw [replS_no hno, List.append_nil] at hrep
      rw [hrep]
      have hmo := hS.wf.most
      have hNn := hS.len
      refine LoopP.intro (α := Nat) (fun j => j ≤ n.toNat) (fun j => n.toNat - j) (fun j => [(0, .ptr 0 0), (4, .ptr 5 0), (5, .ptr 6 0), (6, .s (.i .i64 j)), (1000004, .ptr 3 0)])
        (fun j => [(0, some (.blk [.sl 1 none none, .sl 2 none none])), (1, some (.flat true 1 (bools I))), (2, some (.nest true 1 (brows M) [] [])), (3, some (.blk [.nils, .nils, .nils])), (4, some (.flat true 4 (stps (L.take i)))), (5, some (.blk [.nils, .nils, .nils])), (6, some (.blk [.sl 4 none none, .sl 7 none none, .sl 8 none none])), (7, some (.flat true 1 (ints (leftK G j)))), (8, some (.flat true 2 (edges (edgesK N G j))))]) 9 0 (by omega) (by refine Weak.by [(0, some _), (1, some _), (2, some _), (3, some _), (4, some _), (5, some _), (6, some _), (7, none), (8, none)] (by ((repeat' first | exact rfl | exact trivial | refine And.intro ?_ ?_) <;> (repeat' first | exact rfl | exact trivial | refine And.intro ?_ ?_)); all_goals ((exact hcS.symm))) (by ((repeat' first | exact rfl | exact trivial | refine And.intro ?_ ?_) <;> (repeat' first | exact rfl | exact trivial | refine And.intro ?_ ?_)); all_goals ((exact hcS.symm))) (by rfl)) ?_
      rintro j hj
      have hlk := leftK_len G j
      have hek := edgesK_len hS.wf j
      refine Pick.by (fun hd1 => ?_) (fun hd1 => ?_)
      · have hjl : j < n.toNat := by rw [bools_length, hS.il] at hd1; simp at hd1; omega
        have hgj := hS.inn j hjl
        rw [goneAt_nat] at hgj
        refine Idx.by j rfl (by rw [bools_length, hS.il]; exact hjl) ?_
        refine Look.by _ (in_get hS hjl) ?_
        refine Pick.by (fun hd2 => ?_) (fun hd2 => ?_)
        · have hd2 : (!inAt I j) = true := hd2
          have hd2 : G.getD j false = true := by rw [hgj] at hd2; simpa using hd2
          refine Pick.T (inI64_of (by omega) (by omega)) ?_
          refine Next.by (j + 1) (by omega) (by omega) (by refine Weak.by [(0, some _), (1, some _), (2, some _), (3, some _), (4, some _), (5, some _), (6, some _), (7, some _), (8, some _)] (by ((repeat' first | exact rfl | exact trivial | refine And.intro ?_ ?_) <;> (repeat' first | exact rfl | exact trivial | refine And.intro ?_ ?_)); all_goals ((first | (rw [leftK_succ, if_pos hd2, List.append_nil]) | (rw [edgesK_succ, if_pos hd2, List.append_nil])))) (by ((repeat' first | exact rfl | exact trivial | refine And.intro ?_ ?_) <;> (repeat' first | exact rfl | exact trivial | refine And.intro ?_ ?_)); all_goals ((first | (rw [leftK_succ, if_pos hd2, List.append_nil]) | (rw [edgesK_succ, if_pos hd2, List.append_nil])))) (by rfl))
        have hd2 : (!inAt I j) = false := hd2
        have hij : inAt I j = true := by simpa using hd2
        have hd2 : G.getD j false = false := by rw [hgj] at hd2; simpa using hd2
        have hl1 : leftK G (j + 1) = leftK G j ++ [(j : Int)] := by rw [leftK_succ, if_neg (by rw [hd2]; simp)]
        have he1 : edgesK N G (j + 1) = edgesK N G j ++ outE N j := by rw [edgesK_succ, if_neg (by rw [hd2]; simp)]
        refine Pick.T (by simp [cut, ints_length]; omega) ?_
        refine Pick.T (inI64_of (by omega) (by omega)) ?_
        refine LoopP.intro (α := Nat) (fun x => j + 1 ≤ x ∧ x ≤ n.toNat) (fun x => n.toNat - x) (fun x => [(0, .ptr 0 0), (4, .ptr 5 0), (5, .ptr 6 0), (6, .s (.i .i64 j)), (7, .s (.i .i64 x)), (1000004, .ptr 3 0)])
          (fun x => [(0, some (.blk [.sl 1 none none, .sl 2 none none])), (1, some (.flat true 1 (bools I))), (2, some (.nest true 1 (brows M) [] [])), (3, some (.blk [.nils, .nils, .nils])), (4, some (.flat true 4 (stps (L.take i)))), (5, some (.blk [.nils, .nils, .nils])), (6, some (.blk [.sl 4 none none, .sl 7 none none, .sl 8 none none])), (7, some (.flat true 1 (ints (leftK G (j + 1))))), (8, some (.flat true 2 (edges (edgesK N G j ++ innerK I M j x))))]) 9 (j + 1) ⟨by omega, by omega⟩ (by refine Weak.by [(0, some _), (1, some _), (2, some _), (3, some _), (4, some _), (5, some _), (6, some _), (7, some _), (8, some _)] (by ((repeat' first | exact rfl | exact trivial | refine And.intro ?_ ?_) <;> (repeat' first | exact rfl | exact trivial | refine And.intro ?_ ?_)); all_goals ((first | (rw [hl1, ints_snoc]; rfl) | (rw [innerK_start, List.append_nil])))) (by ((repeat' first | exact rfl | exact trivial | refine And.intro ?_ ?_) <;> (repeat' first | exact rfl | exact trivial | refine And.intro ?_ ?_)); all_goals ((first | (rw [hl1, ints_snoc]; rfl) | (rw [innerK_start, List.append_nil])))) (by rfl)) ?_
        rintro x ⟨hx1, hx⟩
        have hil := innerK_len I M j x
        refine Pick.by (fun hd3 => ?_) (fun hd3 => ?_)
        · have hxl : x < n.toNat := by rw [bools_length, hS.il] at hd3; simp at hd3; omega
          refine Idx.by x rfl (by rw [bools_length, hS.il]; exact hxl) ?_
          refine Look.by _ (in_get hS hxl) ?_
          refine Pick.by (fun hd4 => ?_) (fun hd4 => ?_)
          · have hd4 : inAt I x = true := hd4
            refine Idx.by j rfl (by rw [brows_length, hS.sq.len]; exact hjl) ?_
            refine Pick.T (by rw [brows_length, hS.sq.len]; simp; omega) ?_
            refine Look.by _ (brows_get hS hjl) ?_
            refine Idx.by x rfl (by rw [bools_length, (hS.sq.at_ hjl).2]; exact hxl) ?_
            refine Look.by _ (brows_get hS hjl) ?_
            refine Look.by _ (mat_get hS hjl hxl) ?_
            refine Pick.by (fun hd5 => ?_) (fun hd5 => ?_)
            · have hd5 : matAt M j x = true := hd5
              refine Pick.T (by simp [cut, edges_length] at hil ⊢; omega) ?_
              refine Pick.T (inI64_of (by omega) (by omega)) ?_
              refine Next.by (x + 1) ⟨by omega, by omega⟩ (by omega) (by refine Weak.by [(0, some _), (1, some _), (2, some _), (3, some _), (4, some _), (5, some _), (6, some _), (7, some _), (8, some _)] (by ((repeat' first | exact rfl | exact trivial | refine And.intro ?_ ?_) <;> (repeat' first | exact rfl | exact trivial | refine And.intro ?_ ?_)); all_goals ((rw [innerK_succ hx1, if_pos (by rw [hd4, hd5]; rfl), ← List.append_assoc, edges_snoc]; rfl))) (by ((repeat' first | exact rfl | exact trivial | refine And.intro ?_ ?_) <;> (repeat' first | exact rfl | exact trivial | refine And.intro ?_ ?_)); all_goals ((rw [innerK_succ hx1, if_pos (by rw [hd4, hd5]; rfl), ← List.append_assoc, edges_snoc]; rfl))) (by rfl))
            · have hd5 : matAt M j x = false := hd5
              refine Pick.T (inI64_of (by omega) (by omega)) ?_
              refine Next.by (x + 1) ⟨by omega, by omega⟩ (by omega) (by refine Weak.by [(0, some _), (1, some _), (2, some _), (3, some _), (4, some _), (5, some _), (6, some _), (7, some _), (8, some _)] (by ((repeat' first | exact rfl | exact trivial | refine And.intro ?_ ?_) <;> (repeat' first | exact rfl | exact trivial | refine And.intro ?_ ?_)); all_goals ((rw [innerK_succ hx1, if_neg (by rw [hd4, hd5]; decide), List.append_nil]))) (by ((repeat' first | exact rfl | exact trivial | refine And.intro ?_ ?_) <;> (repeat' first | exact rfl | exact trivial | refine And.intro ?_ ?_)); all_goals ((rw [innerK_succ hx1, if_neg (by rw [hd4, hd5]; decide), List.append_nil]))) (by rfl))
          · have hd4 : inAt I x = false := hd4
            refine Pick.T (inI64_of (by omega) (by omega)) ?_
            refine Next.by (x + 1) ⟨by omega, by omega⟩ (by omega) (by refine Weak.by [(0, some _), (1, some _), (2, some _), (3, some _), (4, some _), (5, some _), (6, some _), (7, some _), (8, some _)] (by ((repeat' first | exact rfl | exact trivial | refine And.intro ?_ ?_) <;> (repeat' first | exact rfl | exact trivial | refine And.intro ?_ ?_)); all_goals ((rw [innerK_succ hx1, if_neg (by rw [hd4]; simp), List.append_nil]))) (by ((repeat' first | exact rfl | exact trivial | refine And.intro ?_ ?_) <;> (repeat' first | exact rfl | exact trivial | refine And.intro ?_ ?_)); all_goals ((rw [innerK_succ hx1, if_neg (by rw [hd4]; simp), List.append_nil]))) (by rfl))
        · have hxe : x = n.toNat := by rw [bools_length, hS.il] at hd3; simp at hd3; omega
          refine Pick.T (inI64_of (by omega) (by omega)) ?_
          refine Next.by (j + 1) (by omega) (by omega) (by refine Weak.by [(0, some _), (1, some _), (2, some _), (3, some _), (4, some _), (5, some _), (6, some _), (7, some _), (8, some _)] (by ((repeat' first | exact rfl | exact trivial | refine And.intro ?_ ?_) <;> (repeat' first | exact rfl | exact trivial | refine And.intro ?_ ?_)); all_goals ((rw [he1, hxe, innerK_end hS hjl hij]))) (by ((repeat' first | exact rfl | exact trivial | refine And.intro ?_ ?_) <;> (repeat' first | exact rfl | exact trivial | refine And.intro ?_ ?_)); all_goals ((rw [he1, hxe, innerK_end hS hjl hij]))) (by rfl))
      have hje : j = n.toNat := by rw [bools_length, hS.il] at hd1; simp at hd1; omega
      subst hje
      have hGl : G.length = n.toNat := by rw [hS.wf.len, hS.len]
      have e1 : leftF G = leftK G n.toNat := by unfold leftF leftK; rw [hGl]
      have e2 : edgesF N G = edgesK N G n.toNat := by unfold edgesF edgesK; rw [e1]
      refine ⟨rfl, ?_⟩
      (repeat' first | exact rfl | exact trivial | refine And.intro ?_ ?_)
      all_goals (first | exact congrArg ints e1 | exact congrArg edges e2)
    refine Pick.T (decide_eq_true h0) ?_
    rw [hw]
    refine Pick.T (by rw [bools_length, hS.il]; simp; omega) ?_
    refine Idx.by w rfl (by rw [bools_length, hS.il]; exact hwv) ?_
    refine Look.by _ (in_get hS hwv) ?_
    have hmay := hS.may w hwv
    refine Pick.by (fun hi => ?_) (fun hi => ?_)
    rotate_left
    · have hi : inAt I w = false := hi
      have hmf : mayB N G w = false := by rw [hmay, hi]; rfl
      have hmf : mayB N G sv = false := by rw [hw]; exact hmf
      refine JoinP.intro (α := Unit) (fun _ => True) (fun _ => [(1, .sl 4 none none), (4, .ptr 3 0), (6, .ptr 0 0), (7, .s (.i .i64 i)), (8, .s (.b false))])
        (fun _ => [(0, some (.blk [.sl 1 none none, .sl 2 none none])), (1, some (.flat true 1 (bools I))), (2, some (.nest true 1 (brows M) [] [])), (3, some (.blk [.nils, .nils, .nils])), (4, some (.flat false 4 (stps L)))]) 5 ⟨(), trivial, by refine Weak.by [(0, some _), (1, some _), (2, some _), (3, some _), (4, some _)] (by ((repeat' first | exact rfl | exact trivial | refine And.intro ?_ ?_) <;> (repeat' first | exact rfl | exact trivial | refine And.intro ?_ ?_))) (by ((repeat' first | exact rfl | exact trivial | refine And.intro ?_ ?_) <;> (repeat' first | exact rfl | exact trivial | refine And.intro ?_ ?_))) (by rfl)⟩ ?_
      rintro ⟨⟩ -
      have hno : mayStp N G (sv, sa, sb, sd) = false := by unfold mayStp; rw [hmf]; rfl
      have htk : (L.take i).length = i := by rw [List.length_take]; omega
      have hcS : ([] : Flat) ++ cut (subOf none 0 0 i) (stps L) = stps (L.take i) := by
        simp only [subOf, cut, List.drop_zero, Nat.sub_zero, stps, List.map_take, List.nil_append]
      refine Rng.by 0 i rfl rfl (by omega) (by rw [stps_length]; omega) ?_
      refine Pick.T (by have := congrArg List.length hcS; rw [List.length_append, stps_length, htk] at this; rw [this]; simp; omega) ?_
      rw [replS_no hno, List.append_nil] at hrep
      rw [hrep]
      have hmo := hS.wf.most
      have hNn := hS.len
      refine LoopP.intro (α := Nat) (fun j => j ≤ n.toNat) (fun j => n.toNat - j) (fun j => [(0, .ptr 0 0), (4, .ptr 5 0), (5, .ptr 6 0), (6, .s (.i .i64 j)), (1000004, .ptr 3 0)])
        (fun j => [(0, some (.blk [.sl 1 none none, .sl 2 none none])), (1, some (.flat true 1 (bools I))), (2, some (.nest true 1 (brows M) [] [])), (3, some (.blk [.nils, .nils, .nils])), (4, some (.flat true 4 (stps (L.take i)))), (5, some (.blk [.nils, .nils, .nils])), (6, some (.blk [.sl 4 none none, .sl 7 none none, .sl 8 none none])), (7, some (.flat true 1 (ints (leftK G j)))), (8, some (.flat true 2 (edges (edgesK N G j))))]) 9 0 (by omega) (by refine Weak.by [(0, some _), (1, some _), (2, some _), (3, some _), (4, some _), (5, some _), (6, some _), (7, none), (8, none)] (by ((repeat' first | exact rfl | exact trivial | refine And.intro ?_ ?_) <;> (repeat' first | exact rfl | exact trivial | refine And.intro ?_ ?_)); all_goals ((exact hcS.symm))) (by ((repeat' first | exact rfl | exact trivial | refine And.intro ?_ ?_) <;> (repeat' first | exact rfl | exact trivial | refine And.intro ?_ ?_)); all_goals ((exact hcS.symm))) (by rfl)) ?_
      rintro j hj
      have hlk := leftK_len G j
      have hek := edgesK_len hS.wf j
      refine Pick.by (fun hd1 => ?_) (fun hd1 => ?_)
      · have hjl : j < n.toNat := by rw [bools_length, hS.il] at hd1; simp at hd1; omega
        have hgj := hS.inn j hjl
        rw [goneAt_nat] at hgj
        refine Idx.by j rfl (by rw [bools_length, hS.il]; exact hjl) ?_
        refine Look.by _ (in_get hS hjl) ?_
        refine Pick.by (fun hd2 => ?_) (fun hd2 => ?_)
        · have hd2 : (!inAt I j) = true := hd2
          have hd2 : G.getD j false = true := by rw [hgj] at hd2; simpa using hd2
          refine Pick.T (inI64_of (by omega) (by omega)) ?_
          refine Next.by (j + 1) (by omega) (by omega) (by refine Weak.by [(0, some _), (1, some _), (2, some _), (3, some _), (4, some _), (5, some _), (6, some _), (7, some _), (8, some _)] (by ((repeat' first | exact rfl | exact trivial | refine And.intro ?_ ?_) <;> (repeat' first | exact rfl | exact trivial | refine And.intro ?_ ?_)); all_goals ((first | (rw [leftK_succ, if_pos hd2, List.append_nil]) | (rw [edgesK_succ, if_pos hd2, List.append_nil])))) (by ((repeat' first | exact rfl | exact trivial | refine And.intro ?_ ?_) <;> (repeat' first | exact rfl | exact trivial | refine And.intro ?_ ?_)); all_goals ((first | (rw [leftK_succ, if_pos hd2, List.append_nil]) | (rw [edgesK_succ, if_pos hd2, List.append_nil])))) (by rfl))
        have hd2 : (!inAt I j) = false := hd2
        have hij : inAt I j = true := by simpa using hd2
        have hd2 : G.getD j false = false := by rw [hgj] at hd2; simpa using hd2
        have hl1 : leftK G (j + 1) = leftK G j ++ [(j : Int)] := by rw [leftK_succ, if_neg (by rw [hd2]; simp)]
        have he1 : edgesK N G (j + 1) = edgesK N G j ++ outE N j := by rw [edgesK_succ, if_neg (by rw [hd2]; simp)]
        refine Pick.T (by simp [cut, ints_length]; omega) ?_
        refine Pick.T (inI64_of (by omega) (by omega)) ?_
        refine LoopP.intro (α := Nat) (fun x => j + 1 ≤ x ∧ x ≤ n.toNat) (fun x => n.toNat - x) (fun x => [(0, .ptr 0 0), (4, .ptr 5 0), (5, .ptr 6 0), (6, .s (.i .i64 j)), (7, .s (.i .i64 x)), (1000004, .ptr 3 0)])
          (fun x => [(0, some (.blk [.sl 1 none none, .sl 2 none none])), (1, some (.flat true 1 (bools I))), (2, some (.nest true 1 (brows M) [] [])), (3, some (.blk [.nils, .nils, .nils])), (4, some (.flat true 4 (stps (L.take i)))), (5, some (.blk [.nils, .nils, .nils])), (6, some (.blk [.sl 4 none none, .sl 7 none none, .sl 8 none none])), (7, some (.flat true 1 (ints (leftK G (j + 1))))), (8, some (.flat true 2 (edges (edgesK N G j ++ innerK I M j x))))]) 9 (j + 1) ⟨by omega, by omega⟩ (by refine Weak.by [(0, some _), (1, some _), (2, some _), (3, some _), (4, some _), (5, some _), (6, some _), (7, some _), (8, some _)] (by ((repeat' first | exact rfl | exact trivial | refine And.intro ?_ ?_) <;> (repeat' first | exact rfl | exact trivial | refine And.intro ?_ ?_)); all_goals ((first | (rw [hl1, ints_snoc]; rfl) | (rw [innerK_start, List.append_nil])))) (by ((repeat' first | exact rfl | exact trivial | refine And.intro ?_ ?_) <;> (repeat' first | exact rfl | exact trivial | refine And.intro ?_ ?_)); all_goals ((first | (rw [hl1, ints_snoc]; rfl) | (rw [innerK_start, List.append_nil])))) (by rfl)) ?_
        rintro x ⟨hx1, hx⟩
        have hil := innerK_len I M j x
        refine Pick.by (fun hd3 => ?_) (fun hd3 => ?_)
        · have hxl : x < n.toNat := by rw [bools_length, hS.il] at hd3; simp at hd3; omega
          refine Idx.by x rfl (by rw [bools_length, hS.il]; exact hxl) ?_
          refine Look.by _ (in_get hS hxl) ?_
          refine Pick.by (fun hd4 => ?_) (fun hd4 => ?_)
          · have hd4 : inAt I x = true := hd4
            refine Idx.by j rfl (by rw [brows_length, hS.sq.len]; exact hjl) ?_
            refine Pick.T (by rw [brows_length, hS.sq.len]; simp; omega) ?_
            refine Look.by _ (brows_get hS hjl) ?_
            refine Idx.by x rfl (by rw [bools_length, (hS.sq.at_ hjl).2]; exact hxl) ?_
            refine Look.by _ (brows_get hS hjl) ?_
            refine Look.by _ (mat_get hS hjl hxl) ?_
            refine Pick.by (fun hd5 => ?_) (fun hd5 => ?_)
            · have hd5 : matAt M j x = true := hd5
              refine Pick.T (by simp [cut, edges_length] at hil ⊢; omega) ?_
              refine Pick.T (inI64_of (by omega) (by omega)) ?_
              refine Next.by (x + 1) ⟨by omega, by omega⟩ (by omega) (by refine Weak.by [(0, some _), (1, some _), (2, some _), (3, some _), (4, some _), (5, some _), (6, some _), (7, some _), (8, some _)] (by ((repeat' first | exact rfl | exact trivial | refine And.intro ?_ ?_) <;> (repeat' first | exact rfl | exact trivial | refine And.intro ?_ ?_)); all_goals ((rw [innerK_succ hx1, if_pos (by rw [hd4, hd5]; rfl), ← List.append_assoc, edges_snoc]; rfl))) (by ((repeat' first | exact rfl | exact trivial | refine And.intro ?_ ?_) <;> (repeat' first | exact rfl | exact trivial | refine And.intro ?_ ?_)); all_goals ((rw [innerK_succ hx1, if_pos (by rw [hd4, hd5]; rfl), ← List.append_assoc, edges_snoc]; rfl))) (by rfl))
            · have hd5 : matAt M j x = false := hd5
              refine Pick.T (inI64_of (by omega) (by omega)) ?_
              refine Next.by (x + 1) ⟨by omega, by omega⟩ (by omega) (by refine Weak.by [(0, some _), (1, some _), (2, some _), (3, some _), (4, some _), (5, some _), (6, some _), (7, some _), (8, some _)] (by ((repeat' first | exact rfl | exact trivial | refine And.intro ?_ ?_) <;> (repeat' first | exact rfl | exact trivial | refine And.intro ?_ ?_)); all_goals ((rw [innerK_succ hx1, if_neg (by rw [hd4, hd5]; decide), List.append_nil]))) (by ((repeat' first | exact rfl | exact trivial | refine And.intro ?_ ?_) <;> (repeat' first | exact rfl | exact trivial | refine And.intro ?_ ?_)); all_goals ((rw [innerK_succ hx1, if_neg (by rw [hd4, hd5]; decide), List.append_nil]))) (by rfl))
          · have hd4 : inAt I x = false := hd4
            refine Pick.T (inI64_of (by omega) (by omega)) ?_
            refine Next.by (x + 1) ⟨by omega, by omega⟩ (by omega) (by refine Weak.by [(0, some _), (1, some _), (2, some _), (3, some _), (4, some _), (5, some _), (6, some _), (7, some _), (8, some _)] (by ((repeat' first | exact rfl | exact trivial | refine And.intro ?_ ?_) <;> (repeat' first | exact rfl | exact trivial | refine And.intro ?_ ?_)); all_goals ((rw [innerK_succ hx1, if_neg (by rw [hd4]; simp), List.append_nil]))) (by ((repeat' first | exact rfl | exact trivial | refine And.intro ?_ ?_) <;> (repeat' first | exact rfl | exact trivial | refine And.intro ?_ ?_)); all_goals ((rw [innerK_succ hx1, if_neg (by rw [hd4]; simp), List.append_nil]))) (by rfl))
        · have hxe : x = n.toNat := by rw [bools_length, hS.il] at hd3; simp at hd3; omega
          refine Pick.T (inI64_of (by omega) (by omega)) ?_
          refine Next.by (j + 1) (by omega) (by omega) (by refine Weak.by [(0, some _), (1, some _), (2, some _), (3, some _), (4, some _), (5, some _), (6, some _), (7, some _), (8, some _)] (by ((repeat' first | exact rfl | exact trivial | refine And.intro ?_ ?_) <;> (repeat' first | exact rfl | exact trivial | refine And.intro ?_ ?_)); all_goals ((rw [he1, hxe, innerK_end hS hjl hij]))) (by ((repeat' first | exact rfl | exact trivial | refine And.intro ?_ ?_) <;> (repeat' first | exact rfl | exact trivial | refine And.intro ?_ ?_)); all_goals ((rw [he1, hxe, innerK_end hS hjl hij]))) (by rfl))
      have hje : j = n.toNat := by rw [bools_length, hS.il] at hd1; simp at hd1; omega
      subst hje
      have hGl : G.length = n.toNat := by rw [hS.wf.len, hS.len]
      have e1 : leftF G = leftK G n.toNat := by unfold leftF leftK; rw [hGl]
      have e2 : edgesF N G = edgesK N G n.toNat := by unfold edgesF edgesK; rw [e1]
      refine ⟨rfl, ?_⟩
      (repeat' first | exact rfl | exact trivial | refine And.intro ?_ ?_)
      all_goals (first | exact congrArg ints e1 | exact congrArg edges e2)
    have hi : inAt I w = true := hi
    rw [hi, Bool.true_and] at hmay
    refine LoopP.intro (α := Nat) (fun x => x ≤ n.toNat) (fun x => n.toNat - x) (fun x => [(0, .ptr 0 0), (1, .s (.i .i64 w)), (5, .sl 5 none none), (6, .s (.i .i64 x)), (1000025, .s (.b true)), (2000001, .sl 4 none none), (2000004, .ptr 3 0), (2000006, .ptr 0 0), (2000007, .s (.i .i64 i))])
      (fun x => [(0, some (.blk [.sl 1 none none, .sl 2 none none])), (1, some (.flat true 1 (bools I))), (2, some (.nest true 1 (brows M) [] [])), (3, some (.blk [.nils, .nils, .nils])), (4, some (.flat false 4 (stps L))), (5, some (.flat true 1 (ints (((List.range x).filter fun y => inAt I y && matAt M w y).map fun (y : Nat) => (y : Int)))))]) 6 0 (by omega) (by refine Weak.by [(0, some _), (1, some _), (2, some _), (3, some _), (4, some _), (5, some _)] (by ((repeat' first | exact rfl | exact trivial | refine And.intro ?_ ?_) <;> (repeat' first | exact rfl | exact trivial | refine And.intro ?_ ?_))) (by ((repeat' first | exact rfl | exact trivial | refine And.intro ?_ ?_) <;> (repeat' first | exact rfl | exact trivial | refine And.intro ?_ ?_))) (by rfl)) ?_
    rintro x hx
    have hnl : ((((List.range x).filter fun y => inAt I y && matAt M w y).map fun (y : Nat) => (y : Int))).length ≤ x := by
      rw [List.length_map]
      exact Nat.le_trans (List.length_filter_le _ _) (by simp)
    have hsucc : ∀ p : Nat → Bool, (((List.range (x + 1)).filter p).map fun (y : Nat) => (y : Int)) = (((List.range x).filter p).map fun (y : Nat) => (y : Int)) ++ (if p x = true then [(x : Int)] else []) := fun p => by
      rw [List.range_succ, List.filter_append, List.map_append, List.filter_cons, List.filter_nil]
      split <;> rfl
    refine Pick.by (fun hn1 => ?_) (fun hn1 => ?_)
    · have hxl : x < n.toNat := by rw [bools_length, hS.il] at hn1; simp at hn1; omega
      refine Idx.by x rfl (by rw [bools_length, hS.il]; exact hxl) ?_
      refine Look.by _ (in_get hS hxl) ?_
      refine Pick.by (fun hn2 => ?_) (fun hn2 => ?_)
      · have hn2 : inAt I x = true := hn2
        refine Idx.by w (by first | rfl | omega) (by rw [brows_length, hS.sq.len]; exact hwv) ?_
        refine Pick.T (by rw [brows_length, hS.sq.len]; simpa using hwv) ?_
        refine Look.by _ (brows_get hS hwv) ?_
        refine Idx.by x rfl (by rw [bools_length, (hS.sq.at_ hwv).2]; exact hxl) ?_
        refine Look.by _ (brows_get hS hwv) ?_
        refine Look.by _ (mat_get hS hwv hxl) ?_
        refine Pick.by (fun hn3 => ?_) (fun hn3 => ?_)
        · have hn3 : matAt M w x = true := hn3
          refine Pick.T (by simp [cut, ints_length] at hnl ⊢; omega) ?_
          refine Pick.T (inI64_of (by omega) (by omega)) ?_
          refine Next.by (x + 1) (by omega) (by omega) (by refine Weak.by [(0, some _), (1, some _), (2, some _), (3, some _), (4, some _), (5, some _)] (by ((repeat' first | exact rfl | exact trivial | refine And.intro ?_ ?_) <;> (repeat' first | exact rfl | exact trivial | refine And.intro ?_ ?_)); all_goals ((rw [hsucc, if_pos (by rw [hn2, hn3]; rfl), ints_snoc]; rfl))) (by ((repeat' first | exact rfl | exact trivial | refine And.intro ?_ ?_) <;> (repeat' first | exact rfl | exact trivial | refine And.intro ?_ ?_)); all_goals ((rw [hsucc, if_pos (by rw [hn2, hn3]; rfl), ints_snoc]; rfl))) (by rfl))
        · have hn3 : matAt M w x = false := hn3
          refine Pick.T (inI64_of (by omega) (by omega)) ?_
          refine Next.by (x + 1) (by omega) (by omega) (by refine Weak.by [(0, some _), (1, some _), (2, some _), (3, some _), (4, some _), (5, some _)] (by ((repeat' first | exact rfl | exact trivial | refine And.intro ?_ ?_) <;> (repeat' first | exact rfl | exact trivial | refine And.intro ?_ ?_)); all_goals ((rw [hsucc, if_neg (by rw [hn2, hn3]; decide), List.append_nil]))) (by ((repeat' first | exact rfl | exact trivial | refine And.intro ?_ ?_) <;> (repeat' first | exact rfl | exact trivial | refine And.intro ?_ ?_)); all_goals ((rw [hsucc, if_neg (by rw [hn2, hn3]; decide), List.append_nil]))) (by rfl))
      · have hn2 : inAt I x = false := hn2
        refine Pick.T (inI64_of (by omega) (by omega)) ?_
        refine Next.by (x + 1) (by omega) (by omega) (by refine Weak.by [(0, some _), (1, some _), (2, some _), (3, some _), (4, some _), (5, some _)] (by ((repeat' first | exact rfl | exact trivial | refine And.intro ?_ ?_) <;> (repeat' first | exact rfl | exact trivial | refine And.intro ?_ ?_)); all_goals ((rw [hsucc, if_neg (by rw [hn2]; simp), List.append_nil]))) (by ((repeat' first | exact rfl | exact trivial | refine And.intro ?_ ?_) <;> (repeat' first | exact rfl | exact trivial | refine And.intro ?_ ?_)); all_goals ((rw [hsucc, if_neg (by rw [hn2]; simp), List.append_nil]))) (by rfl))
    have hxe : x = n.toNat := by rw [bools_length, hS.il] at hn1; simp at hn1; omega
    subst hxe
    have hln : (((ints (((List.range n.toNat).filter fun y => inAt I y && matAt M w y).map fun (y : Nat) => (y : Int))).length : Nat) : Int) = ((nearM I M w).length : Int) := by unfold nearM; rw [hS.il, ints_length]
    refine JoinP.intro (α := Bool) (fun b => b = mayStp N G (sv, sa, sb, sd)) (fun b => [(1, .sl 4 none none), (4, .ptr 3 0), (6, .ptr 0 0), (7, .s (.i .i64 i)), (8, .s (.b b))])
      (fun _ => [(0, some (.blk [.sl 1 none none, .sl 2 none none])), (1, some (.flat true 1 (bools I))), (2, some (.nest true 1 (brows M) [] [])), (3, some (.blk [.nils, .nils, .nils])), (4, some (.flat false 4 (stps L)))]) 5 ?_ ?_
    have hi2 := hi
    rotate_left
    · rintro b hb
      refine Pick.by (fun h2 => ?_) (fun h2 => ?_)
      · have hno : mayStp N G (sv, sa, sb, sd) = false := by rw [← hb]; have h2 : (!b) = true := h2; simpa using h2
        have htk : (L.take i).length = i := by rw [List.length_take]; omega
        have hcS : ([] : Flat) ++ cut (subOf none 0 0 i) (stps L) = stps (L.take i) := by
          simp only [subOf, cut, List.drop_zero, Nat.sub_zero, stps, List.map_take, List.nil_append]
        refine Rng.by 0 i rfl rfl (by omega) (by rw [stps_length]; omega) ?_
        refine Pick.T (by have := congrArg List.length hcS; rw [List.length_append, stps_length, htk] at this; rw [this]; simp; omega) ?_
        rw [replS_no hno, List.append_nil] at hrep
        rw [hrep]
        have hmo := hS.wf.most
        have hNn := hS.len
        refine LoopP.intro (α := Nat) (fun j => j ≤ n.toNat) (fun j => n.toNat - j) (fun j => [(0, .ptr 0 0), (4, .ptr 5 0), (5, .ptr 6 0), (6, .s (.i .i64 j)), (1000004, .ptr 3 0)])
          (fun j => [(0, some (.blk [.sl 1 none none, .sl 2 none none])), (1, some (.flat true 1 (bools I))), (2, some (.nest true 1 (brows M) [] [])), (3, some (.blk [.nils, .nils, .nils])), (4, some (.flat true 4 (stps (L.take i)))), (5, some (.blk [.nils, .nils, .nils])), (6, some (.blk [.sl 4 none none, .sl 7 none none, .sl 8 none none])), (7, some (.flat true 1 (ints (leftK G j)))), (8, some (.flat true 2 (edges (edgesK N G j))))]) 9 0 (by omega) (by refine Weak.by [(0, some _), (1, some _), (2, some _), (3, some _), (4, some _), (5, some _), (6, some _), (7, none), (8, none)] (by ((repeat' first | exact rfl | exact trivial | refine And.intro ?_ ?_) <;> (repeat' first | exact rfl | exact trivial | refine And.intro ?_ ?_)); all_goals ((exact hcS.symm))) (by ((repeat' first | exact rfl | exact trivial | refine And.intro ?_ ?_) <;> (repeat' first | exact rfl | exact trivial | refine And.intro ?_ ?_)); all_goals ((exact hcS.symm))) (by rfl)) ?_
        rintro j hj
        have hlk := leftK_len G j
        have hek := edgesK_len hS.wf j
        refine Pick.by (fun hd1 => ?_) (fun hd1 => ?_)
        · have hjl : j < n.toNat := by rw [bools_length, hS.il] at hd1; simp at hd1; omega
          have hgj := hS.inn j hjl
          rw [goneAt_nat] at hgj
          refine Idx.by j rfl (by rw [bools_length, hS.il]; exact hjl) ?_
          refine Look.by _ (in_get hS hjl) ?_
          refine Pick.by (fun hd2 => ?_) (fun hd2 => ?_)
          · have hd2 : (!inAt I j) = true := hd2
            have hd2 : G.getD j false = true := by rw [hgj] at hd2; simpa using hd2
            refine Pick.T (inI64_of (by omega) (by omega)) ?_
            refine Next.by (j + 1) (by omega) (by omega) (by refine Weak.by [(0, some _), (1, some _), (2, some _), (3, some _), (4, some _), (5, some _), (6, some _), (7, some _), (8, some _)] (by ((repeat' first | exact rfl | exact trivial | refine And.intro ?_ ?_) <;> (repeat' first | exact rfl | exact trivial | refine And.intro ?_ ?_)); all_goals ((first | (rw [leftK_succ, if_pos hd2, List.append_nil]) | (rw [edgesK_succ, if_pos hd2, List.append_nil])))) (by ((repeat' first | exact rfl | exact trivial | refine And.intro ?_ ?_) <;> (repeat' first | exact rfl | exact trivial | refine And.intro ?_ ?_)); all_goals ((first | (rw [leftK_succ, if_pos hd2, List.append_nil]) | (rw [edgesK_succ, if_pos hd2, List.append_nil])))) (by rfl))
          have hd2 : (!inAt I j) = false := hd2
          have hij : inAt I j = true := by simpa using hd2
          have hd2 : G.getD j false = false := by rw [hgj] at hd2; simpa using hd2
          have hl1 : leftK G (j + 1) = leftK G j ++ [(j : Int)] := by rw [leftK_succ, if_neg (by rw [hd2]; simp)]
          have he1 : edgesK N G (j + 1) = edgesK N G j ++ outE N j := by rw [edgesK_succ, if_neg (by rw [hd2]; simp)]
          refine Pick.T (by simp [cut, ints_length]; omega) ?_
          refine Pick.T (inI64_of (by omega) (by omega)) ?_
          refine LoopP.intro (α := Nat) (fun x => j + 1 ≤ x ∧ x ≤ n.toNat) (fun x => n.toNat - x) (fun x => [(0, .ptr 0 0), (4, .ptr 5 0), (5, .ptr 6 0), (6, .s (.i .i64 j)), (7, .s (.i .i64 x)), (1000004, .ptr 3 0)])
            (fun x => [(0, some (.blk [.sl 1 none none, .sl 2 none none])), (1, some (.flat true 1 (bools I))), (2, some (.nest true 1 (brows M) [] [])), (3, some (.blk [.nils, .nils, .nils])), (4, some (.flat true 4 (stps (L.take i)))), (5, some (.blk [.nils, .nils, .nils])), (6, some (.blk [.sl 4 none none, .sl 7 none none, .sl 8 none none])), (7, some (.flat true 1 (ints (leftK G (j + 1))))), (8, some (.flat true 2 (edges (edgesK N G j ++ innerK I M j x))))]) 9 (j + 1) ⟨by omega, by omega⟩ (by refine Weak.by [(0, some _), (1, some _), (2, some _), (3, some _), (4, some _), (5, some _), (6, some _), (7, some _), (8, some _)] (by ((repeat' first | exact rfl | exact trivial | refine And.intro ?_ ?_) <;> (repeat' first | exact rfl | exact trivial | refine And.intro ?_ ?_)); all_goals ((first | (rw [hl1, ints_snoc]; rfl) | (rw [innerK_start, List.append_nil])))) (by ((repeat' first | exact rfl | exact trivial | refine And.intro ?_ ?_) <;> (repeat' first | exact rfl | exact trivial | refine And.intro ?_ ?_)); all_goals ((first | (rw [hl1, ints_snoc]; rfl) | (rw [innerK_start, List.append_nil])))) (by rfl)) ?_
          rintro x ⟨hx1, hx⟩
          have hil := innerK_len I M j x
          refine Pick.by (fun hd3 => ?_) (fun hd3 => ?_)
          · have hxl : x < n.toNat := by rw [bools_length, hS.il] at hd3; simp at hd3; omega
            refine Idx.by x rfl (by rw [bools_length, hS.il]; exact hxl) ?_
            refine Look.by _ (in_get hS hxl) ?_
            refine Pick.by (fun hd4 => ?_) (fun hd4 => ?_)
            · have hd4 : inAt I x = true := hd4
              refine Idx.by j rfl (by rw [brows_length, hS.sq.len]; exact hjl) ?_
              refine Pick.T (by rw [brows_length, hS.sq.len]; simp; omega) ?_
              refine Look.by _ (brows_get hS hjl) ?_
              refine Idx.by x rfl (by rw [bools_length, (hS.sq.at_ hjl).2]; exact hxl) ?_
              refine Look.by _ (brows_get hS hjl) ?_
              refine Look.by _ (mat_get hS hjl hxl) ?_
              refine Pick.by (fun hd5 => ?_) (fun hd5 => ?_)
              · have hd5 : matAt M j x = true := hd5
                refine Pick.T (by simp [cut, edges_length] at hil ⊢; omega) ?_
                refine Pick.T (inI64_of (by omega) (by omega)) ?_
                refine Next.by (x + 1) ⟨by omega, by omega⟩ (by omega) (by refine Weak.by [(0, some _), (1, some _), (2, some _), (3, some _), (4, some _), (5, some _), (6, some _), (7, some _), (8, some _)] (by ((repeat' first | exact rfl | exact trivial | refine And.intro ?_ ?_) <;> (repeat' first | exact rfl | exact trivial | refine And.intro ?_ ?_)); all_goals ((rw [innerK_succ hx1, if_pos (by rw [hd4, hd5]; rfl), ← List.append_assoc, edges_snoc]; rfl))) (by ((repeat' first | exact rfl | exact trivial | refine And.intro ?_ ?_) <;> (repeat' first | exact rfl | exact trivial | refine And.intro ?_ ?_)); all_goals ((rw [innerK_succ hx1, if_pos (by rw [hd4, hd5]; rfl), ← List.append_assoc, edges_snoc]; rfl))) (by rfl))
              · have hd5 : matAt M j x = false := hd5
                refine Pick.T (inI64_of (by omega) (by omega)) ?_
                refine Next.by (x + 1) ⟨by omega, by omega⟩ (by omega) (by refine Weak.by [(0, some _), (1, some _), (2, some _), (3, some _), (4, some _), (5, some _), (6, some _), (7, some _), (8, some _)] (by ((repeat' first | exact rfl | exact trivial | refine And.intro ?_ ?_) <;> (repeat' first | exact rfl | exact trivial | refine And.intro ?_ ?_)); all_goals ((rw [innerK_succ hx1, if_neg (by rw [hd4, hd5]; decide), List.append_nil]))) (by ((repeat' first | exact rfl | exact trivial | refine And.intro ?_ ?_) <;> (repeat' first | exact rfl | exact trivial | refine And.intro ?_ ?_)); all_goals ((rw [innerK_succ hx1, if_neg (by rw [hd4, hd5]; decide), List.append_nil]))) (by rfl))
            · have hd4 : inAt I x = false := hd4
              refine Pick.T (inI64_of (by omega) (by omega)) ?_
              refine Next.by (x + 1) ⟨by omega, by omega⟩ (by omega) (by refine Weak.by [(0, some _), (1, some _), (2, some _), (3, some _), (4, some _), (5, some _), (6, some _), (7, some _), (8, some _)] (by ((repeat' first | exact rfl | exact trivial | refine And.intro ?_ ?_) <;> (repeat' first | exact rfl | exact trivial | refine And.intro ?_ ?_)); all_goals ((rw [innerK_succ hx1, if_neg (by rw [hd4]; simp), List.append_nil]))) (by ((repeat' first | exact rfl | exact trivial | refine And.intro ?_ ?_) <;> (repeat' first | exact rfl | exact trivial | refine And.intro ?_ ?_)); all_goals ((rw [innerK_succ hx1, if_neg (by rw [hd4]; simp), List.append_nil]))) (by rfl))
          · have hxe : x = n.toNat := by rw [bools_length, hS.il] at hd3; simp at hd3; omega
            refine Pick.T (inI64_of (by omega) (by omega)) ?_
            refine Next.by (j + 1) (by omega) (by omega) (by refine Weak.by [(0, some _), (1, some _), (2, some _), (3, some _), (4, some _), (5, some _), (6, some _), (7, some _), (8, some _)] (by ((repeat' first | exact rfl | exact trivial | refine And.intro ?_ ?_) <;> (repeat' first | exact rfl | exact trivial | refine And.intro ?_ ?_)); all_goals ((rw [he1, hxe, innerK_end hS hjl hij]))) (by ((repeat' first | exact rfl | exact trivial | refine And.intro ?_ ?_) <;> (repeat' first | exact rfl | exact trivial | refine And.intro ?_ ?_)); all_goals ((rw [he1, hxe, innerK_end hS hjl hij]))) (by rfl))
        have hje : j = n.toNat := by rw [bools_length, hS.il] at hd1; simp at hd1; omega
        subst hje
        have hGl : G.length = n.toNat := by rw [hS.wf.len, hS.len]
        have e1 : leftF G = leftK G n.toNat := by unfold leftF leftK; rw [hGl]
        have e2 : edgesF N G = edgesK N G n.toNat := by unfold edgesF edgesK; rw [e1]
        refine ⟨rfl, ?_⟩
        (repeat' first | exact rfl | exact trivial | refine And.intro ?_ ?_)
        all_goals (first | exact congrArg ints e1 | exact congrArg edges e2)
      have hys : mayStp N G (sv, sa, sb, sd) = true := by rw [← hb]; have h2 : (!b) = false := h2; simpa using h2
      have hst : stepF N w = (sv, sa, sb, sd) := by
        unfold mayStp at hys
        rw [Bool.and_eq_true, decide_eq_true_eq] at hys
        rw [← hw]; exact hys.2
      have hmt : mayB N G w = true := by
        unfold mayStp at hys
        rw [Bool.and_eq_true] at hys
        rw [← hw]; exact hys.1
      rw [replS_go hys] at hrep
      refine Idx.by i rfl (by rw [stps_length]; exact hlt) ?_
      refine Look.by _ hrow ?_
      rw [hw]
      rw [← hst] at hrep
      refine LoopP.intro (α := Nat) (fun x => x ≤ n.toNat) (fun x => n.toNat - x) (fun x => [(0, .ptr 0 0), (1, .s (.i .i64 w)), (5, .sl 6 none none), (6, .s (.i .i64 x)), (1000000, .ptr 0 0), (1000001, .s (.i .i64 w)), (1000004, .ptr 5 0), (2000001, .sl 4 none none), (2000004, .ptr 3 0), (2000006, .ptr 0 0), (2000007, .s (.i .i64 i))])
        (fun x => [(0, some (.blk [.sl 1 none none, .sl 2 none none])), (1, some (.flat true 1 (bools I))), (2, some (.nest true 1 (brows M) [] [])), (3, some (.blk [.nils, .nils, .nils])), (4, some (.flat false 4 (stps L))), (5, some (.blk [.s (.i .i64 0), .s (.i .i64 0), .s (.i .i64 0), .s (.b false)])), (6, some (.flat true 1 (ints (((List.range x).filter fun y => inAt I y && matAt M w y).map fun (y : Nat) => (y : Int)))))]) 7 0 (by omega) (by refine Weak.by [(0, some _), (1, some _), (2, some _), (3, some _), (4, some _), (5, some _), (6, some _)] (by ((repeat' first | exact rfl | exact trivial | refine And.intro ?_ ?_) <;> (repeat' first | exact rfl | exact trivial | refine And.intro ?_ ?_))) (by ((repeat' first | exact rfl | exact trivial | refine And.intro ?_ ?_) <;> (repeat' first | exact rfl | exact trivial | refine And.intro ?_ ?_))) (by rfl)) ?_
      rintro x hx
      have hnl : ((((List.range x).filter fun y => inAt I y && matAt M w y).map fun (y : Nat) => (y : Int))).length ≤ x := by
        rw [List.length_map]
        exact Nat.le_trans (List.length_filter_le _ _) (by simp)
      have hsucc : ∀ p : Nat → Bool, (((List.range (x + 1)).filter p).map fun (y : Nat) => (y : Int)) = (((List.range x).filter p).map fun (y : Nat) => (y : Int)) ++ (if p x = true then [(x : Int)] else []) := fun p => by
        rw [List.range_succ, List.filter_append, List.map_append, List.filter_cons, List.filter_nil]
        split <;> rfl
      refine Pick.by (fun hn1 => ?_) (fun hn1 => ?_)
      · have hxl : x < n.toNat := by rw [bools_length, hS.il] at hn1; simp at hn1; omega
        refine Idx.by x rfl (by rw [bools_length, hS.il]; exact hxl) ?_
        refine Look.by _ (in_get hS hxl) ?_
        refine Pick.by (fun hn2 => ?_) (fun hn2 => ?_)
        · have hn2 : inAt I x = true := hn2
          refine Idx.by w (by first | rfl | omega) (by rw [brows_length, hS.sq.len]; exact hwv) ?_
          refine Pick.T (by rw [brows_length, hS.sq.len]; simpa using hwv) ?_
          refine Look.by _ (brows_get hS hwv) ?_
          refine Idx.by x rfl (by rw [bools_length, (hS.sq.at_ hwv).2]; exact hxl) ?_
          refine Look.by _ (brows_get hS hwv) ?_
          refine Look.by _ (mat_get hS hwv hxl) ?_
          refine Pick.by (fun hn3 => ?_) (fun hn3 => ?_)
          · have hn3 : matAt M w x = true := hn3
            refine Pick.T (by simp [cut, ints_length] at hnl ⊢; omega) ?_
            refine Pick.T (inI64_of (by omega) (by omega)) ?_
            refine Next.by (x + 1) (by omega) (by omega) (by refine Weak.by [(0, some _), (1, some _), (2, some _), (3, some _), (4, some _), (5, some _), (6, some _)] (by ((repeat' first | exact rfl | exact trivial | refine And.intro ?_ ?_) <;> (repeat' first | exact rfl | exact trivial | refine And.intro ?_ ?_)); all_goals ((rw [hsucc, if_pos (by rw [hn2, hn3]; rfl), ints_snoc]; rfl))) (by ((repeat' first | exact rfl | exact trivial | refine And.intro ?_ ?_) <;> (repeat' first | exact rfl | exact trivial | refine And.intro ?_ ?_)); all_goals ((rw [hsucc, if_pos (by rw [hn2, hn3]; rfl), ints_snoc]; rfl))) (by rfl))
          · have hn3 : matAt M w x = false := hn3
            refine Pick.T (inI64_of (by omega) (by omega)) ?_
            refine Next.by (x + 1) (by omega) (by omega) (by refine Weak.by [(0, some _), (1, some _), (2, some _), (3, some _), (4, some _), (5, some _), (6, some _)] (by ((repeat' first | exact rfl | exact trivial | refine And.intro ?_ ?_) <;> (repeat' first | exact rfl | exact trivial | refine And.intro ?_ ?_)); all_goals ((rw [hsucc, if_neg (by rw [hn2, hn3]; decide), List.append_nil]))) (by ((repeat' first | exact rfl | exact trivial | refine And.intro ?_ ?_) <;> (repeat' first | exact rfl | exact trivial | refine And.intro ?_ ?_)); all_goals ((rw [hsucc, if_neg (by rw [hn2, hn3]; decide), List.append_nil]))) (by rfl))
        · have hn2 : inAt I x = false := hn2
          refine Pick.T (inI64_of (by omega) (by omega)) ?_
          refine Next.by (x + 1) (by omega) (by omega) (by refine Weak.by [(0, some _), (1, some _), (2, some _), (3, some _), (4, some _), (5, some _), (6, some _)] (by ((repeat' first | exact rfl | exact trivial | refine And.intro ?_ ?_) <;> (repeat' first | exact rfl | exact trivial | refine And.intro ?_ ?_)); all_goals ((rw [hsucc, if_neg (by rw [hn2]; simp), List.append_nil]))) (by ((repeat' first | exact rfl | exact trivial | refine And.intro ?_ ?_) <;> (repeat' first | exact rfl | exact trivial | refine And.intro ?_ ?_)); all_goals ((rw [hsucc, if_neg (by rw [hn2]; simp), List.append_nil]))) (by rfl))
      have hxe : x = n.toNat := by rw [bools_length, hS.il] at hn1; simp at hn1; omega
      subst hxe
      have hmp := mayB_iff.1 hmt
      have hL : (((List.range n.toNat).filter fun y => inAt I y && matAt M w y).map fun (y : Nat) => (y : Int)) = rowAt N w := by
        rw [← hS.near hwv hi]; unfold nearM; rw [hS.il]
      have hgo := hS.go hwv hmp
      obtain ⟨hs1, hs2⟩ := step_two hS.wf hmp rfl
      rw [hL]
      refine Idx.by w rfl (by rw [bools_length, hS.il]; exact hwv) ?_
      refine Look.by _ (in_get hS hwv) ?_
      have hI2 : bools (I.set w false) = (bools I).set w [.b false] := by unfold bools; rw [List.map_set]
      rcases hs2 with ⟨hl, ea, eb, ed⟩ | ⟨a, hl, ea, eb, ed⟩ | ⟨a, b, hl, hab, ea, eb, ed⟩
      · have hM : brows (goM N M w) = brows M := by unfold goM; rw [hl]
        rw [hl]
        refine Pick.T (inI64_of (by omega) (by omega)) ?_
        refine Next.by (i + 1, doN N (stepF N w), doG G (stepF N w), I.set w false, goM N M w) ⟨by dsimp only; omega, hgo, by rw [hrep]; dsimp only; rw [List.take_succ_eq_append_getElem hlt, hse, hst, List.append_assoc]; rfl⟩ (by dsimp only; omega) (by refine Weak.by [(0, some _), (1, some _), (2, some _), (3, some _), (4, some _)] (by ((repeat' first | exact rfl | exact trivial | refine And.intro ?_ ?_) <;> (repeat' first | exact rfl | exact trivial | refine And.intro ?_ ?_)); all_goals ((first | (exact hM) | (rw [hI2]; rfl)))) (by ((repeat' first | exact rfl | exact trivial | refine And.intro ?_ ?_) <;> (repeat' first | exact rfl | exact trivial | refine And.intro ?_ ?_)); all_goals ((first | (exact hM) | (rw [hI2]; rfl)))) (by rfl))
      · have hM : brows (goM N M w) = brows M := by unfold goM; rw [hl]
        rw [hl]
        refine Idx.by 0 rfl (by simp [ints]) ?_
        refine Look.by [.i .i64 a] rfl ?_
        refine Pick.T (inI64_of (by omega) (by omega)) ?_
        refine Next.by (i + 1, doN N (stepF N w), doG G (stepF N w), I.set w false, goM N M w) ⟨by dsimp only; omega, hgo, by rw [hrep]; dsimp only; rw [List.take_succ_eq_append_getElem hlt, hse, hst, List.append_assoc]; rfl⟩ (by dsimp only; omega) (by refine Weak.by [(0, some _), (1, some _), (2, some _), (3, some _), (4, some _)] (by ((repeat' first | exact rfl | exact trivial | refine And.intro ?_ ?_) <;> (repeat' first | exact rfl | exact trivial | refine And.intro ?_ ?_)); all_goals ((first | (exact hM) | (rw [hI2]; rfl)))) (by ((repeat' first | exact rfl | exact trivial | refine And.intro ?_ ?_) <;> (repeat' first | exact rfl | exact trivial | refine And.intro ?_ ?_)); all_goals ((first | (exact hM) | (rw [hI2]; rfl)))) (by rfl))
      · have ed := hS.step hwv hi hl
        obtain ⟨a0, a1, a2⟩ := hS.inRow (u := w) (x := a) (by rw [hl]; simp)
        obtain ⟨b0, b1, b2⟩ := hS.inRow (u := w) (x := b) (by rw [hl]; simp)
        obtain ⟨a, rfl⟩ : ∃ c : Nat, a = c := ⟨a.toNat, by omega⟩
        obtain ⟨b, rfl⟩ : ∃ c : Nat, b = c := ⟨b.toNat, by omega⟩
        rw [Int.toNat_natCast, Int.toNat_natCast] at ed
        have han : a < n.toNat := by omega
        have hbn : b < n.toNat := by omega
        have hs2 := hS.sq.set (v := b) han
        have hM : brows (goM N M w) = ((brows M).set a ((bools (M.getD a [])).set b [.b true])).set b ((bools ((setM M a b).getD b [])).set a [.b true]) := by
          unfold goM; rw [hl]; dsimp only; rw [Int.toNat_natCast, Int.toNat_natCast, brows_set, brows_set]
        have hq1 : (brows M).set a ((bools (M.getD a [])).set b [.b true]) = brows (setM M a b) := (brows_set M a b).symm
        have hq2 : ((brows M).set a ((bools (M.getD a [])).set b [.b true])).length = n.toNat := by rw [List.length_set, brows_length, hS.sq.len]
        rw [hl]
        refine Idx.by 0 rfl (by simp [ints]) ?_
        refine Look.by [.i .i64 a] rfl ?_
        refine Idx.by 1 rfl (by simp [ints]) ?_
        refine Look.by [.i .i64 b] rfl ?_
        refine Idx.by 0 rfl (by simp [ints]) ?_
        refine Look.by [.i .i64 a] rfl ?_
        refine Idx.by a rfl (by rw [brows_length, hS.sq.len]; exact han) ?_
        refine Pick.T (by rw [brows_length, hS.sq.len]; simp; omega) ?_
        refine Idx.by 1 rfl (by simp [ints]) ?_
        refine Look.by [.i .i64 b] rfl ?_
        refine Look.by _ (brows_at hS.sq han) ?_
        refine Idx.by b rfl (by rw [bools_length, (hS.sq.at_ han).2]; exact hbn) ?_
        refine Look.by _ (brows_at hS.sq han) ?_
        refine Look.by _ (brow_at hS.sq han hbn) ?_
        refine Seg.by (by kernel_rfl) ?_
        refine Idx.by 0 rfl (by simp [ints]) ?_
        refine Look.by [.i .i64 a] rfl ?_
        refine Idx.by a rfl (by rw [brows_length, hS.sq.len]; exact han) ?_
        refine Pick.T (by rw [brows_length, hS.sq.len]; simp; omega) ?_
        refine Idx.by 1 rfl (by simp [ints]) ?_
        refine Look.by [.i .i64 b] rfl ?_
        refine Look.by _ (brows_at hS.sq han) ?_
        refine Idx.by b rfl (by rw [bools_length, (hS.sq.at_ han).2]; exact hbn) ?_
        refine Look.by _ (brows_at hS.sq han) ?_
        refine Look.by _ (brow_at hS.sq han hbn) ?_
        refine Seg.by (by kernel_rfl) ?_
        refine Idx.by 1 rfl (by simp [ints]) ?_
        refine Look.by [.i .i64 b] rfl ?_
        refine Idx.by b rfl (by show b < ((brows M).set a ((bools (M.getD a [])).set b [.b true])).length; rw [hq2]; exact hbn) ?_
        refine Pick.T (by show decide (b < ((brows M).set a ((bools (M.getD a [])).set b [.b true])).length) = true; rw [hq2]; simp; omega) ?_
        refine Idx.by 0 rfl (by simp [ints]) ?_
        refine Look.by [.i .i64 a] rfl ?_
        refine Look.by _ (by show ((brows M).set a ((bools (M.getD a [])).set b [.b true]))[b]? = _; rw [hq1]; exact brows_at hs2 hbn) ?_
        refine Idx.by a rfl (by rw [bools_length, (hs2.at_ hbn).2]; exact han) ?_
        refine Look.by _ (by show ((brows M).set a ((bools (M.getD a [])).set b [.b true]))[b]? = _; rw [hq1]; exact brows_at hs2 hbn) ?_
        refine Look.by _ (brow_at hs2 hbn han) ?_
        refine Seg.by (by kernel_rfl) ?_
        refine Pick.T (inI64_of (by omega) (by omega)) ?_
        refine Next.by (i + 1, doN N (stepF N w), doG G (stepF N w), I.set w false, goM N M w) ⟨by dsimp only; omega, hgo, by rw [hrep]; dsimp only; rw [List.take_succ_eq_append_getElem hlt, hse, hst, List.append_assoc]; rfl⟩ (by dsimp only; omega) (by refine Weak.by [(0, some _), (1, some _), (2, some _), (3, some _), (4, some _)] (by ((repeat' first | exact rfl | exact trivial | refine And.intro ?_ ?_) <;> (repeat' first | exact rfl | exact trivial | refine And.intro ?_ ?_)); all_goals ((first | (exact hM) | (rw [hI2]; rfl)))) (by ((repeat' first | exact rfl | exact trivial | refine And.intro ?_ ?_) <;> (repeat' first | exact rfl | exact trivial | refine And.intro ?_ ?_)); all_goals ((first | (exact hM) | (rw [hI2]; rfl)))) (by rfl))
    refine Pick.by (fun h2 => ?_) (fun h2 => ?_)
    rotate_left
    · have hmf : mayB N G sv = false := by
        have h2 : decide ((((ints (((List.range n.toNat).filter fun y => inAt I y && matAt M w y).map fun (y : Nat) => (y : Int))).length : Nat) : Int) ≤ 2) = false := h2
        rw [hln] at h2; rw [hw, hmay]; simp at h2 ⊢; omega
      exact ⟨false, by unfold mayStp; rw [hmf]; rfl, by refine Weak.by [(0, some _), (1, some _), (2, some _), (3, some _), (4, some _)] (by ((repeat' first | exact rfl | exact trivial | refine And.intro ?_ ?_) <;> (repeat' first | exact rfl | exact trivial | refine And.intro ?_ ?_)); all_goals (exact (congrArg Sc.b h2).symm)) (by ((repeat' first | exact rfl | exact trivial | refine And.intro ?_ ?_) <;> (repeat' first | exact rfl | exact trivial | refine And.intro ?_ ?_)); all_goals (exact (congrArg Sc.b h2).symm)) (by rfl)⟩
    have hmt : mayB N G sv = true := by
      have h2 : decide ((((ints (((List.range n.toNat).filter fun y => inAt I y && matAt M w y).map fun (y : Nat) => (y : Int))).length : Nat) : Int) ≤ 2) = true := h2
      rw [hln] at h2; rw [hw, hmay]; simp at h2 ⊢; omega
    have hmw : mayB N G w = true := by rw [← hw]; exact hmt
    refine Idx.by i rfl (by rw [stps_length]; exact hlt) ?_
    refine Look.by _ hrow ?_
    rw [hw]
    refine LoopP.intro (α := Nat) (fun x => x ≤ n.toNat) (fun x => n.toNat - x) (fun x => [(0, .ptr 0 0), (1, .s (.i .i64 w)), (5, .sl 5 none none), (6, .s (.i .i64 x)), (1000001, .sl 4 none none), (1000004, .ptr 3 0), (1000006, .ptr 0 0), (1000007, .s (.i .i64 i))])
      (fun x => [(0, some (.blk [.sl 1 none none, .sl 2 none none])), (1, some (.flat true 1 (bools I))), (2, some (.nest true 1 (brows M) [] [])), (3, some (.blk [.nils, .nils, .nils])), (4, some (.flat false 4 (stps L))), (5, some (.flat true 1 (ints (((List.range x).filter fun y => inAt I y && matAt M w y).map fun (y : Nat) => (y : Int)))))]) 6 0 (by omega) (by refine Weak.by [(0, some _), (1, some _), (2, some _), (3, some _), (4, some _), (5, some _)] (by ((repeat' first | exact rfl | exact trivial | refine And.intro ?_ ?_) <;> (repeat' first | exact rfl | exact trivial | refine And.intro ?_ ?_))) (by ((repeat' first | exact rfl | exact trivial | refine And.intro ?_ ?_) <;> (repeat' first | exact rfl | exact trivial | refine And.intro ?_ ?_))) (by rfl)) ?_
    rintro x hx
    have hnl : ((((List.range x).filter fun y => inAt I y && matAt M w y).map fun (y : Nat) => (y : Int))).length ≤ x := by
      rw [List.length_map]
      exact Nat.le_trans (List.length_filter_le _ _) (by simp)
    have hsucc : ∀ p : Nat → Bool, (((List.range (x + 1)).filter p).map fun (y : Nat) => (y : Int)) = (((List.range x).filter p).map fun (y : Nat) => (y : Int)) ++ (if p x = true then [(x : Int)] else []) := fun p => by
      rw [List.range_succ, List.filter_append, List.map_append, List.filter_cons, List.filter_nil]
      split <;> rfl
    refine Pick.by (fun hn1 => ?_) (fun hn1 => ?_)
    · have hxl : x < n.toNat := by rw [bools_length, hS.il] at hn1; simp at hn1; omega
      refine Idx.by x rfl (by rw [bools_length, hS.il]; exact hxl) ?_
      refine Look.by _ (in_get hS hxl) ?_
      refine Pick.by (fun hn2 => ?_) (fun hn2 => ?_)
      · have hn2 : inAt I x = true := hn2
        refine Idx.by w (by first | rfl | omega) (by rw [brows_length, hS.sq.len]; exact hwv) ?_
        refine Pick.T (by rw [brows_length, hS.sq.len]; simpa using hwv) ?_
        refine Look.by _ (brows_get hS hwv) ?_
        refine Idx.by x rfl (by rw [bools_length, (hS.sq.at_ hwv).2]; exact hxl) ?_
        refine Look.by _ (brows_get hS hwv) ?_
        refine Look.by _ (mat_get hS hwv hxl) ?_
        refine Pick.by (fun hn3 => ?_) (fun hn3 => ?_)
        · have hn3 : matAt M w x = true := hn3
          refine Pick.T (by simp [cut, ints_length] at hnl ⊢; omega) ?_
          refine Pick.T (inI64_of (by omega) (by omega)) ?_
          refine Next.by (x + 1) (by omega) (by omega) (by refine Weak.by [(0, some _), (1, some _), (2, some _), (3, some _), (4, some _), (5, some _)] (by ((repeat' first | exact rfl | exact trivial | refine And.intro ?_ ?_) <;> (repeat' first | exact rfl | exact trivial | refine And.intro ?_ ?_)); all_goals ((rw [hsucc, if_pos (by rw [hn2, hn3]; rfl), ints_snoc]; rfl))) (by ((repeat' first | exact rfl | exact trivial | refine And.intro ?_ ?_) <;> (repeat' first | exact rfl | exact trivial | refine And.intro ?_ ?_)); all_goals ((rw [hsucc, if_pos (by rw [hn2, hn3]; rfl), ints_snoc]; rfl))) (by rfl))
        · have hn3 : matAt M w x = false := hn3
          refine Pick.T (inI64_of (by omega) (by omega)) ?_
          refine Next.by (x + 1) (by omega) (by omega) (by refine Weak.by [(0, some _), (1, some _), (2, some _), (3, some _), (4, some _), (5, some _)] (by ((repeat' first | exact rfl | exact trivial | refine And.intro ?_ ?_) <;> (repeat' first | exact rfl | exact trivial | refine And.intro ?_ ?_)); all_goals ((rw [hsucc, if_neg (by rw [hn2, hn3]; decide), List.append_nil]))) (by ((repeat' first | exact rfl | exact trivial | refine And.intro ?_ ?_) <;> (repeat' first | exact rfl | exact trivial | refine And.intro ?_ ?_)); all_goals ((rw [hsucc, if_neg (by rw [hn2, hn3]; decide), List.append_nil]))) (by rfl))
      · have hn2 : inAt I x = false := hn2
        refine Pick.T (inI64_of (by omega) (by omega)) ?_
        refine Next.by (x + 1) (by omega) (by omega) (by refine Weak.by [(0, some _), (1, some _), (2, some _), (3, some _), (4, some _), (5, some _)] (by ((repeat' first | exact rfl | exact trivial | refine And.intro ?_ ?_) <;> (repeat' first | exact rfl | exact trivial | refine And.intro ?_ ?_)); all_goals ((rw [hsucc, if_neg (by rw [hn2]; simp), List.append_nil]))) (by ((repeat' first | exact rfl | exact trivial | refine And.intro ?_ ?_) <;> (repeat' first | exact rfl | exact trivial | refine And.intro ?_ ?_)); all_goals ((rw [hsucc, if_neg (by rw [hn2]; simp), List.append_nil]))) (by rfl))
    have hxe : x = n.toNat := by rw [bools_length, hS.il] at hn1; simp at hn1; omega
    subst hxe
    have hL : (((List.range n.toNat).filter fun y => inAt I y && matAt M w y).map fun (y : Nat) => (y : Int)) = rowAt N w := by
      rw [← hS.near hwv hi2]; unfold nearM; rw [hS.il]
    rw [hL]
    obtain ⟨hs1, hs2⟩ := step_two hS.wf (mayB_iff.1 hmw) rfl
    rcases hs2 with ⟨hl, ea, eb, ed⟩ | ⟨a, hl, ea, eb, ed⟩ | ⟨a, b, hl, hab, ea, eb, ed⟩
    · have hck := chk (sa := sa) (sb := sb) (sd := sd) hmw hs1 ea eb ed
      rw [hl]
      refine Idx.by i rfl (by rw [stps_length]; exact hlt) ?_
      refine Look.by _ hrow ?_
      refine Pick.by (fun q1 => ?_) (fun q1 => ?_)
      rotate_left
      · have q1 : (sa == (-1)) = false := q1
        refine Seg.by (by kernel_rfl) ?_
        exact ⟨false, by rw [hck]; simp at q1; simp [q1], by refine Weak.by [(0, some _), (1, some _), (2, some _), (3, some _), (4, some _)] (by ((repeat' first | exact rfl | exact trivial | refine And.intro ?_ ?_) <;> (repeat' first | exact rfl | exact trivial | refine And.intro ?_ ?_))) (by ((repeat' first | exact rfl | exact trivial | refine And.intro ?_ ?_) <;> (repeat' first | exact rfl | exact trivial | refine And.intro ?_ ?_))) (by rfl)⟩
      have q1 : (sa == (-1)) = true := q1
      refine Idx.by i rfl (by rw [stps_length]; exact hlt) ?_
      refine Look.by _ hrow ?_
      refine Pick.by (fun q2 => ?_) (fun q2 => ?_)
      rotate_left
      · have q2 : (sb == (-1)) = false := q2
        refine Seg.by (by kernel_rfl) ?_
        exact ⟨false, by rw [hck]; simp at q2; simp [q2], by refine Weak.by [(0, some _), (1, some _), (2, some _), (3, some _), (4, some _)] (by ((repeat' first | exact rfl | exact trivial | refine And.intro ?_ ?_) <;> (repeat' first | exact rfl | exact trivial | refine And.intro ?_ ?_))) (by ((repeat' first | exact rfl | exact trivial | refine And.intro ?_ ?_) <;> (repeat' first | exact rfl | exact trivial | refine And.intro ?_ ?_))) (by rfl)⟩
      have q2 : (sb == (-1)) = true := q2
      refine Idx.by i rfl (by rw [stps_length]; exact hlt) ?_
      refine Look.by _ hrow ?_
      skip
      refine Seg.by (by kernel_rfl) ?_
      exact ⟨(sd == false), by rw [hck, decide_eq_true (eq_of_beq q1), decide_eq_true (eq_of_beq q2), Bool.true_and, Bool.true_and]; exact beq_dec _ _, by refine Weak.by [(0, some _), (1, some _), (2, some _), (3, some _), (4, some _)] (by ((repeat' first | exact rfl | exact trivial | refine And.intro ?_ ?_) <;> (repeat' first | exact rfl | exact trivial | refine And.intro ?_ ?_))) (by ((repeat' first | exact rfl | exact trivial | refine And.intro ?_ ?_) <;> (repeat' first | exact rfl | exact trivial | refine And.intro ?_ ?_))) (by rfl)⟩
    · have hck := chk (sa := sa) (sb := sb) (sd := sd) hmw hs1 ea eb ed
      rw [hl]
      refine Idx.by 0 rfl (by simp [ints]) ?_
      refine Look.by [.i .i64 a] rfl ?_
      refine Idx.by i rfl (by rw [stps_length]; exact hlt) ?_
      refine Look.by _ hrow ?_
      refine Pick.by (fun q1 => ?_) (fun q1 => ?_)
      rotate_left
      · have q1 : (sa == a) = false := q1
        refine Seg.by (by kernel_rfl) ?_
        exact ⟨false, by rw [hck]; simp at q1; simp [q1], by refine Weak.by [(0, some _), (1, some _), (2, some _), (3, some _), (4, some _)] (by ((repeat' first | exact rfl | exact trivial | refine And.intro ?_ ?_) <;> (repeat' first | exact rfl | exact trivial | refine And.intro ?_ ?_))) (by ((repeat' first | exact rfl | exact trivial | refine And.intro ?_ ?_) <;> (repeat' first | exact rfl | exact trivial | refine And.intro ?_ ?_))) (by rfl)⟩
      have q1 : (sa == a) = true := q1
      refine Idx.by i rfl (by rw [stps_length]; exact hlt) ?_
      refine Look.by _ hrow ?_
      refine Pick.by (fun q2 => ?_) (fun q2 => ?_)
      rotate_left
      · have q2 : (sb == (-1)) = false := q2
        refine Seg.by (by kernel_rfl) ?_
        exact ⟨false, by rw [hck]; simp at q2; simp [q2], by refine Weak.by [(0, some _), (1, some _), (2, some _), (3, some _), (4, some _)] (by ((repeat' first | exact rfl | exact trivial | refine And.intro ?_ ?_) <;> (repeat' first | exact rfl | exact trivial | refine And.intro ?_ ?_))) (by ((repeat' first | exact rfl | exact trivial | refine And.intro ?_ ?_) <;> (repeat' first | exact rfl | exact trivial | refine And.intro ?_ ?_))) (by rfl)⟩
      have q2 : (sb == (-1)) = true := q2
      refine Idx.by i rfl (by rw [stps_length]; exact hlt) ?_
      refine Look.by _ hrow ?_
      skip
      refine Seg.by (by kernel_rfl) ?_
      exact ⟨(sd == false), by rw [hck, decide_eq_true (eq_of_beq q1), decide_eq_true (eq_of_beq q2), Bool.true_and, Bool.true_and]; exact beq_dec _ _, by refine Weak.by [(0, some _), (1, some _), (2, some _), (3, some _), (4, some _)] (by ((repeat' first | exact rfl | exact trivial | refine And.intro ?_ ?_) <;> (repeat' first | exact rfl | exact trivial | refine And.intro ?_ ?_))) (by ((repeat' first | exact rfl | exact trivial | refine And.intro ?_ ?_) <;> (repeat' first | exact rfl | exact trivial | refine And.intro ?_ ?_))) (by rfl)⟩
    · have ed := hS.step hwv hi2 hl
      have hck := chk (sa := sa) (sb := sb) (sd := sd) hmw hs1 ea eb ed
      obtain ⟨a0, a1, a2⟩ := hS.inRow (u := w) (x := a) (by rw [hl]; simp)
      obtain ⟨b0, b1, b2⟩ := hS.inRow (u := w) (x := b) (by rw [hl]; simp)
      obtain ⟨a, rfl⟩ : ∃ c : Nat, a = c := ⟨a.toNat, by omega⟩
      obtain ⟨b, rfl⟩ : ∃ c : Nat, b = c := ⟨b.toNat, by omega⟩
      rw [Int.toNat_natCast, Int.toNat_natCast] at hck
      have han : a < n.toNat := by omega
      have hbn : b < n.toNat := by omega
      rw [hl]
      refine Idx.by 0 rfl (by simp [ints]) ?_
      refine Look.by [.i .i64 a] rfl ?_
      refine Idx.by 1 rfl (by simp [ints]) ?_
      refine Look.by [.i .i64 b] rfl ?_
      refine Idx.by i rfl (by rw [stps_length]; exact hlt) ?_
      refine Look.by _ hrow ?_
      refine Pick.by (fun q1 => ?_) (fun q1 => ?_)
      rotate_left
      · have q1 : (sa == (a : Int)) = false := q1
        refine Seg.by (by kernel_rfl) ?_
        exact ⟨false, by rw [hck]; simp at q1; simp [q1], by refine Weak.by [(0, some _), (1, some _), (2, some _), (3, some _), (4, some _)] (by ((repeat' first | exact rfl | exact trivial | refine And.intro ?_ ?_) <;> (repeat' first | exact rfl | exact trivial | refine And.intro ?_ ?_))) (by ((repeat' first | exact rfl | exact trivial | refine And.intro ?_ ?_) <;> (repeat' first | exact rfl | exact trivial | refine And.intro ?_ ?_))) (by rfl)⟩
      have q1 : (sa == (a : Int)) = true := q1
      refine Idx.by i rfl (by rw [stps_length]; exact hlt) ?_
      refine Look.by _ hrow ?_
      refine Pick.by (fun q2 => ?_) (fun q2 => ?_)
      rotate_left
      · have q2 : (sb == (b : Int)) = false := q2
        refine Seg.by (by kernel_rfl) ?_
        exact ⟨false, by rw [hck]; simp at q2; simp [q2], by refine Weak.by [(0, some _), (1, some _), (2, some _), (3, some _), (4, some _)] (by ((repeat' first | exact rfl | exact trivial | refine And.intro ?_ ?_) <;> (repeat' first | exact rfl | exact trivial | refine And.intro ?_ ?_))) (by ((repeat' first | exact rfl | exact trivial | refine And.intro ?_ ?_) <;> (repeat' first | exact rfl | exact trivial | refine And.intro ?_ ?_))) (by rfl)⟩
      have q2 : (sb == (b : Int)) = true := q2
      refine Idx.by i rfl (by rw [stps_length]; exact hlt) ?_
      refine Look.by _ hrow ?_
      refine Idx.by a (max0 a) (by rw [brows_length, hS.sq.len]; exact han) ?_
      refine Pick.T (by rw [brows_length, hS.sq.len]; simp; omega) ?_
      refine Look.by _ (brows_at hS.sq han) ?_
      refine Idx.by b (max0 b) (by rw [bools_length, (hS.sq.at_ han).2]; exact hbn) ?_
      refine Look.by _ (brows_at hS.sq han) ?_
      refine Look.by _ (brow_at hS.sq han hbn) ?_
      refine Seg.by (by kernel_rfl) ?_
      exact ⟨(sd == !matAt M a b), by rw [hck, decide_eq_true (eq_of_beq q1), decide_eq_true (eq_of_beq q2), Bool.true_and, Bool.true_and]; exact beq_dec _ _, by refine Weak.by [(0, some _), (1, some _), (2, some _), (3, some _), (4, some _)] (by ((repeat' first | exact rfl | exact trivial | refine And.intro ?_ ?_) <;> (repeat' first | exact rfl | exact trivial | refine And.intro ?_ ?_))) (by ((repeat' first | exact rfl | exact trivial | refine And.intro ?_ ?_) <;> (repeat' first | exact rfl | exact trivial | refine And.intro ?_ ?_))) (by rfl)⟩
  · have hge : i = L.length := by rw [stps_length] at hc; simp at hc; omega
    subst hge
    have hcS : ([] : Flat) ++ cut none (stps L) = stps L := by simp only [cut, List.nil_append]
    have hend : replS (L.drop L.length) N G = ([], true, N, G) := by rw [List.drop_length]; rfl
    rw [hend, List.take_length, List.append_nil] at hrep
    rw [hrep]
    refine Pick.T (by have := congrArg List.length hcS; rw [List.length_append, stps_length] at this; rw [this]; simp; omega) ?_
    have hmo := hS.wf.most
    have hNn := hS.len
    refine LoopP.intro (α := Nat) (fun j => j ≤ n.toNat) (fun j => n.toNat - j) (fun j => [(0, .ptr 0 0), (4, .ptr 5 0), (5, .ptr 6 0), (6, .s (.i .i64 j)), (1000004, .ptr 3 0)])
      (fun j => [(0, some (.blk [.sl 1 none none, .sl 2 none none])), (1, some (.flat true 1 (bools I))), (2, some (.nest true 1 (brows M) [] [])), (3, some (.blk [.nils, .nils, .nils])), (4, some (.flat true 4 (stps L))), (5, some (.blk [.nils, .nils, .nils])), (6, some (.blk [.sl 4 none none, .sl 7 none none, .sl 8 none none])), (7, some (.flat true 1 (ints (leftK G j)))), (8, some (.flat true 2 (edges (edgesK N G j))))]) 9 0 (by omega) (by refine Weak.by [(0, some _), (1, some _), (2, some _), (3, some _), (4, some _), (5, some _), (6, some _), (7, none), (8, none)] (by ((repeat' first | exact rfl | exact trivial | refine And.intro ?_ ?_) <;> (repeat' first | exact rfl | exact trivial | refine And.intro ?_ ?_)); all_goals ((exact hcS.symm))) (by ((repeat' first | exact rfl | exact trivial | refine And.intro ?_ ?_) <;> (repeat' first | exact rfl | exact trivial | refine And.intro ?_ ?_)); all_goals ((exact hcS.symm))) (by rfl)) ?_
    rintro j hj
    have hlk := leftK_len G j
    have hek := edgesK_len hS.wf j
    refine Pick.by (fun hd1 => ?_) (fun hd1 => ?_)
    · have hjl : j < n.toNat := by rw [bools_length, hS.il] at hd1; simp at hd1; omega
      have hgj := hS.inn j hjl
      rw [goneAt_nat] at hgj
      refine Idx.by j rfl (by rw [bools_length, hS.il]; exact hjl) ?_
      refine Look.by _ (in_get hS hjl) ?_
      refine Pick.by (fun hd2 => ?_) (fun hd2 => ?_)
      · have hd2 : (!inAt I j) = true := hd2
        have hd2 : G.getD j false = true := by rw [hgj] at hd2; simpa using hd2
        refine Pick.T (inI64_of (by omega) (by omega)) ?_
        refine Next.by (j + 1) (by omega) (by omega) (by refine Weak.by [(0, some _), (1, some _), (2, some _), (3, some _), (4, some _), (5, some _), (6, some _), (7, some _), (8, some _)] (by ((repeat' first | exact rfl | exact trivial | refine And.intro ?_ ?_) <;> (repeat' first | exact rfl | exact trivial | refine And.intro ?_ ?_)); all_goals ((first | (rw [leftK_succ, if_pos hd2, List.append_nil]) | (rw [edgesK_succ, if_pos hd2, List.append_nil])))) (by ((repeat' first | exact rfl | exact trivial | refine And.intro ?_ ?_) <;> (repeat' first | exact rfl | exact trivial | refine And.intro ?_ ?_)); all_goals ((first | (rw [leftK_succ, if_pos hd2, List.append_nil]) | (rw [edgesK_succ, if_pos hd2, List.append_nil])))) (by rfl))
      have hd2 : (!inAt I j) = false := hd2
      have hij : inAt I j = true := by simpa using hd2
      have hd2 : G.getD j false = false := by rw [hgj] at hd2; simpa using hd2
      have hl1 : leftK G (j + 1) = leftK G j ++ [(j : Int)] := by rw [leftK_succ, if_neg (by rw [hd2]; simp)]
      have he1 : edgesK N G (j + 1) = edgesK N G j ++ outE N j := by rw [edgesK_succ, if_neg (by rw [hd2]; simp)]
      refine Pick.T (by simp [cut, ints_length]; omega) ?_
      refine Pick.T (inI64_of (by omega) (by omega)) ?_
      refine LoopP.intro (α := Nat) (fun x => j + 1 ≤ x ∧ x ≤ n.toNat) (fun x => n.toNat - x) (fun x => [(0, .ptr 0 0), (4, .ptr 5 0), (5, .ptr 6 0), (6, .s (.i .i64 j)), (7, .s (.i .i64 x)), (1000004, .ptr 3 0)])
        (fun x => [(0, some (.blk [.sl 1 none none, .sl 2 none none])), (1, some (.flat true 1 (bools I))), (2, some (.nest true 1 (brows M) [] [])), (3, some (.blk [.nils, .nils, .nils])), (4, some (.flat true 4 (stps L))), (5, some (.blk [.nils, .nils, .nils])), (6, some (.blk [.sl 4 none none, .sl 7 none none, .sl 8 none none])), (7, some (.flat true 1 (ints (leftK G (j + 1))))), (8, some (.flat true 2 (edges (edgesK N G j ++ innerK I M j x))))]) 9 (j + 1) ⟨by omega, by omega⟩ (by refine Weak.by [(0, some _), (1, some _), (2, some _), (3, some _), (4, some _), (5, some _), (6, some _), (7, some _), (8, some _)] (by ((repeat' first | exact rfl | exact trivial | refine And.intro ?_ ?_) <;> (repeat' first | exact rfl | exact trivial | refine And.intro ?_ ?_)); all_goals ((first | (rw [hl1, ints_snoc]; rfl) | (rw [innerK_start, List.append_nil])))) (by ((repeat' first | exact rfl | exact trivial | refine And.intro ?_ ?_) <;> (repeat' first | exact rfl | exact trivial | refine And.intro ?_ ?_)); all_goals ((first | (rw [hl1, ints_snoc]; rfl) | (rw [innerK_start, List.append_nil])))) (by rfl)) ?_
      rintro x ⟨hx1, hx⟩
      have hil := innerK_len I M j x
      refine Pick.by (fun hd3 => ?_) (fun hd3 => ?_)
      · have hxl : x < n.toNat := by rw [bools_length, hS.il] at hd3; simp at hd3; omega
        refine Idx.by x rfl (by rw [bools_length, hS.il]; exact hxl) ?_
        refine Look.by _ (in_get hS hxl) ?_
        refine Pick.by (fun hd4 => ?_) (fun hd4 => ?_)
        · have hd4 : inAt I x = true := hd4
          refine Idx.by j rfl (by rw [brows_length, hS.sq.len]; exact hjl) ?_
          refine Pick.T (by rw [brows_length, hS.sq.len]; simp; omega) ?_
          refine Look.by _ (brows_get hS hjl) ?_
          refine Idx.by x rfl (by rw [bools_length, (hS.sq.at_ hjl).2]; exact hxl) ?_
          refine Look.by _ (brows_get hS hjl) ?_
          refine Look.by _ (mat_get hS hjl hxl) ?_
          refine Pick.by (fun hd5 => ?_) (fun hd5 => ?_)
          · have hd5 : matAt M j x = true := hd5
            refine Pick.T (by simp [cut, edges_length] at hil ⊢; omega) ?_
            refine Pick.T (inI64_of (by omega) (by omega)) ?_
            refine Next.by (x + 1) ⟨by omega, by omega⟩ (by omega) (by refine Weak.by [(0, some _), (1, some _), (2, some _), (3, some _), (4, some _), (5, some _), (6, some _), (7, some _), (8, some _)] (by ((repeat' first | exact rfl | exact trivial | refine And.intro ?_ ?_) <;> (repeat' first | exact rfl | exact trivial | refine And.intro ?_ ?_)); all_goals ((rw [innerK_succ hx1, if_pos (by rw [hd4, hd5]; rfl), ← List.append_assoc, edges_snoc]; rfl))) (by ((repeat' first | exact rfl | exact trivial | refine And.intro ?_ ?_) <;> (repeat' first | exact rfl | exact trivial | refine And.intro ?_ ?_)); all_goals ((rw [innerK_succ hx1, if_pos (by rw [hd4, hd5]; rfl), ← List.append_assoc, edges_snoc]; rfl))) (by rfl))
          · have hd5 : matAt M j x = false := hd5
            refine Pick.T (inI64_of (by omega) (by omega)) ?_
            refine Next.by (x + 1) ⟨by omega, by omega⟩ (by omega) (by refine Weak.by [(0, some _), (1, some _), (2, some _), (3, some _), (4, some _), (5, some _), (6, some _), (7, some _), (8, some _)] (by ((repeat' first | exact rfl | exact trivial | refine And.intro ?_ ?_) <;> (repeat' first | exact rfl | exact trivial | refine And.intro ?_ ?_)); all_goals ((rw [innerK_succ hx1, if_neg (by rw [hd4, hd5]; decide), List.append_nil]))) (by ((repeat' first | exact rfl | exact trivial | refine And.intro ?_ ?_) <;> (repeat' first | exact rfl | exact trivial | refine And.intro ?_ ?_)); all_goals ((rw [innerK_succ hx1, if_neg (by rw [hd4, hd5]; decide), List.append_nil]))) (by rfl))
        · have hd4 : inAt I x = false := hd4
          refine Pick.T (inI64_of (by omega) (by omega)) ?_
          refine Next.by (x + 1) ⟨by omega, by omega⟩ (by omega) (by refine Weak.by [(0, some _), (1, some _), (2, some _), (3, some _), (4, some _), (5, some _), (6, some _), (7, some _), (8, some _)] (by ((repeat' first | exact rfl | exact trivial | refine And.intro ?_ ?_) <;> (repeat' first | exact rfl | exact trivial | refine And.intro ?_ ?_)); all_goals ((rw [innerK_succ hx1, if_neg (by rw [hd4]; simp), List.append_nil]))) (by ((repeat' first | exact rfl | exact trivial | refine And.intro ?_ ?_) <;> (repeat' first | exact rfl | exact trivial | refine And.intro ?_ ?_)); all_goals ((rw [innerK_succ hx1, if_neg (by rw [hd4]; simp), List.append_nil]))) (by rfl))
      · have hxe : x = n.toNat := by rw [bools_length, hS.il] at hd3; simp at hd3; omega
        refine Pick.T (inI64_of (by omega) (by omega)) ?_
        refine Next.by (j + 1) (by omega) (by omega) (by refine Weak.by [(0, some _), (1, some _), (2, some _), (3, some _), (4, some _), (5, some _), (6, some _), (7, some _), (8, some _)] (by ((repeat' first | exact rfl | exact trivial | refine And.intro ?_ ?_) <;> (repeat' first | exact rfl | exact trivial | refine And.intro ?_ ?_)); all_goals ((rw [he1, hxe, innerK_end hS hjl hij]))) (by ((repeat' first | exact rfl | exact trivial | refine And.intro ?_ ?_) <;> (repeat' first | exact rfl | exact trivial | refine And.intro ?_ ?_)); all_goals ((rw [he1, hxe, innerK_end hS hjl hij]))) (by rfl))
    have hje : j = n.toNat := by rw [bools_length, hS.il] at hd1; simp at hd1; omega
    subst hje
    have hGl : G.length = n.toNat := by rw [hS.wf.len, hS.len]
    have e1 : leftF G = leftK G n.toNat := by unfold leftF leftK; rw [hGl]
    have e2 : edgesF N G = edgesK N G n.toNat := by unfold edgesF edgesK; rw [e1]
    refine ⟨rfl, ?_⟩
    (repeat' first | exact rfl | exact trivial | refine And.intro ?_ ?_)
    all_goals (first | exact congrArg ints e1 | exact congrArg edges e2)
end Go.Sh

set_option linter.unusedVariables false
set_option linter.unusedSimpArgs false
namespace Go.Sh
open Go.Proofs
/-! ### carcanetlaw10.shown -/
def E4 : List Ed := [(0, 1), (0, 3), (1, 2), (2, 3)]
def K4E : List Ed := [(0, 1), (0, 2), (0, 3), (1, 2), (1, 3), (2, 3)]
theorem RE4 : RightP 4 E4 := by decide
theorem RK4 : RightP 4 K4E := by decide
theorem run_E4 : runO 4 E4 = ([(0, 1, 3, true), (1, 2, 3, false), (2, 3, -1, false), (3, -1, -1, false)], [], []) := by
  unfold runO
  rw [if_pos RE4]
  decide +kernel
theorem run_K4 : runO 4 K4E = ([], [0, 1, 2, 3], K4E) := by
  unfold runO
  rw [if_pos RK4]
  decide +kernel
theorem repl_E4 : replO 4 E4 [(1, 0, 2, true), (3, 0, 1, false)] = (([(1, 0, 2, true)], [0, 2, 3], [(0, 2), (0, 3), (2, 3)]), false) := by
  unfold replO
  rw [if_pos RE4]
  refine Prod.ext (Prod.ext ?_ (Prod.ext ?_ ?_)) ?_ <;> decide +kernel
theorem nar_E4 : narrowB 4 E4 = true := by
  unfold narrowB
  rw [run_E4, decide_eq_true RE4]; rfl
theorem nar_K4 : narrowB 4 K4E = false := by
  unfold narrowB
  rw [run_K4, decide_eq_true RK4]; rfl
noncomputable def Shown10C : Con := conP 0 (fun _ : Unit => True) (fun _ => []) (fun _ => .one (.s (.b true)))
theorem Shown10C_at : Shown10C.F [] = some (.one (.s (.b true)), []) := conP_at (a := ()) (fun a b _ _ h => rfl) trivial
set_option maxRecDepth 100000 in
set_option maxHeartbeats 1000000 in
theorem Shown10_ok : SoundC Try.prog T 29 Shown10C := by
  refine sound_con (X := { Γ := [(32, RunC), (36, ReplC), (34, NarrowC)], T := T, nt := 96 }) cr_none hmix hT (sound_cons Run_ok (sound_cons Repl_ok (sound_cons Narrow_ok sound_nil))) Try.func29 (by rfl) (by rfl) (by rfl) (by rfl) 0 ?_
  rintro ⟨⟩ -
  refine ⟨⟨Nat.le_of_ble_eq_true rfl, Nat.le_of_ble_eq_true rfl⟩, ?_⟩
  have hE := RunC_at 4 E4
  rw [run_E4] at hE
  have hK := RunC_at 4 K4E
  rw [run_K4] at hK
  have hR := ReplC_at (n := 4) (E := E4) (l := [(1, 0, 2, true), (3, 0, 1, false)]) (by decide)
  rw [repl_E4] at hR
  have hN := NarrowC_at 4 E4
  rw [nar_E4] at hN
  have hM := NarrowC_at 4 K4E
  rw [nar_K4] at hM
  refine Call.by _ _ hE ?_
  refine Call.by _ _ hK ?_
  refine Call.by _ _ hR ?_
  refine Idx.by 0 rfl (by decide) ?_
  refine Look.by _ rfl ?_
  refine Idx.by 3 rfl (by decide) ?_
  refine Look.by _ rfl ?_
  refine Call.by _ _ hN ?_
  refine Call.by _ _ hM ?_
  exact ⟨rfl, rfl⟩
/-! ### carcanetlaw10.ReduceWrong -/
noncomputable def WrongF := conF (fun a : Int × List Ed => a.2.length ≤ maxLen) (fun a => [grV a.1 a.2]) (fun _ => .one (.s (.b true)))
set_option maxRecDepth 100000 in
theorem Wrong_ok : SoundP Try.prog 10 WrongF := by
  refine con_pure (X := { Γ := [(29, Shown10C), (39, RightC), (32, RunC), (36, ReplC), (34, NarrowC)], T := T, nt := 64 }) cr_none hmix hT (sound_cons Shown10_ok (sound_cons Right3_ok (sound_cons Run_ok (sound_cons Repl_ok (sound_cons Narrow_ok sound_nil))))) Try.func10 (by rfl) (by rfl) (by rfl) 2 ?_
  rintro ⟨n, E⟩ hE
  dsimp only at hE
  unfold maxLen at hE
  refine ⟨⟨Nat.le_of_ble_eq_true rfl, Nat.le_of_ble_eq_true rfl⟩, ?_⟩
  refine Call.by _ _ Shown10C_at ?_
  have hm : (if (300 : Int) < (((edges E).length : Nat) : Int) then (300 : Int) else (((edges E).length : Nat) : Int)) = ((min E.length 300 : Nat) : Int) := by
    rw [edges_length]; split <;> omega
  refine Rng.by 0 (min E.length 300) rfl hm (by omega) (by show min E.length 300 ≤ (edges E).length; rw [edges_length]; omega) ?_
  have hcut : cut (subOf none 0 0 (min E.length 300)) (edges E) = edges (E.take 300) := by
    simp only [subOf, cut, List.drop_zero, Nat.sub_zero, edges, List.map_take]
    rw [List.take_eq_take_iff]; simp; omega
  have hlen : (E.take 300).length ≤ 300 := by rw [List.length_take]; omega
  refine Pick.T (by rw [hcut]; simp [edges_length] at hlen ⊢; omega) ?_
  have hRt := RightC_at n (E.take 300)
  rw [grV, ← hcut] at hRt
  refine Call.by _ _ hRt ?_
  refine Pick.by (fun h1 => ?_) (fun h1 => ?_)
  · exact ⟨rfl, rfl⟩
  have h1 : ¬ RightP n (E.take 300) := by have h1 : decide (RightP n (E.take 300)) = false := h1; simpa using h1
  have hRun := RunC_at n (E.take 300)
  rw [show runO n (E.take 300) = ([], [], []) from if_neg h1, grV, ← hcut] at hRun
  have hRep := ReplC_at (n := n) (E := E.take 300) (l := []) (by decide)
  rw [show replO n (E.take 300) [] = (([], [], []), false) from if_neg h1, grV, ← hcut] at hRep
  have hNar := NarrowC_at n (E.take 300)
  rw [show narrowB n (E.take 300) = false by unfold narrowB; rw [decide_eq_false h1]; rfl, grV, ← hcut] at hNar
  refine Call.by _ _ hRun ?_
  refine Call.by _ _ hRep ?_
  refine Call.by _ _ hNar ?_
  refine Pick.T (inI64_of (by decide) (by decide)) ?_
  refine Pick.T (inI64_of (by decide) (by decide)) ?_
  refine Pick.T (inI64_of (by decide) (by decide)) ?_
  refine Pick.T (inI64_of (by decide) (by decide)) ?_
  refine Pick.T (inI64_of (by decide) (by decide)) ?_
  exact ⟨rfl, rfl⟩
end Go.Sh

set_option linter.unusedVariables false
set_option linter.unusedSimpArgs false
namespace Go.Sh
open Go.Proofs
/-! ### how much is left -/
theorem firstMay_may {N : List (List Int)} {G : List Bool} {v : Nat} (h : firstMay N G = some v) : mayB N G v = true := by
  have := List.find?_some h
  simpa using this
theorem runS_wf : ∀ (f : Nat) {N : List (List Int)} {G : List Bool}, Wf N G → Wf (runS f N G).2.1 (runS f N G).2.2 ∧ (runS f N G).2.1.length = N.length ∧ (runS f N G).1.length ≤ f := by
  intro f
  induction f with
  | zero => intro N G h; exact ⟨h, rfl, by simp [runS]⟩
  | succ f ih =>
    intro N G h
    cases hf : firstMay N G with
    | none => rw [runS_end hf]; exact ⟨h, rfl, by simp⟩
    | some v =>
      rw [runS_go hf]
      obtain ⟨h1, h2, h3⟩ := ih (do_wf h (mayB_iff.1 (firstMay_may hf)))
      exact ⟨h1, by rw [h2, doN_length], by simp; omega⟩
theorem replS_wf : ∀ (l : List Stp) {N : List (List Int)} {G : List Bool}, Wf N G → Wf (replS l N G).2.2.1 (replS l N G).2.2.2 ∧ (replS l N G).2.2.1.length = N.length ∧ (replS l N G).1.length ≤ l.length := by
  intro l
  induction l with
  | nil => intro N G h; exact ⟨h, rfl, by simp [replS]⟩
  | cons s l ih =>
    intro N G h
    cases hm : mayStp N G s with
    | false => rw [replS_no hm]; exact ⟨h, rfl, by simp⟩
    | true =>
      rw [replS_go hm]
      unfold mayStp at hm
      rw [Bool.and_eq_true, decide_eq_true_eq] at hm
      have hw := do_wf h (mayB_iff.1 hm.1)
      rw [hm.2] at hw
      obtain ⟨h1, h2, h3⟩ := ih hw
      exact ⟨h1, by rw [h2, doN_length], by simp; omega⟩
theorem left_len {N : List (List Int)} {G : List Bool} (h : Wf N G) : (leftF G).length ≤ 1000 ∧ (edgesF N G).length ≤ 1000000 := by
  have h1 := leftK_len G G.length
  have h2 := edgesK_len h G.length
  have h3 := h.len
  have h4 := h.most
  have e1 : leftF G = leftK G G.length := rfl
  have e2 : edgesF N G = edgesK N G G.length := by unfold edgesF edgesK; rw [e1]
  rw [e1, e2]
  exact ⟨by omega, by omega⟩
theorem runO_len (n : Int) (E : List Ed) : (runO n E).1.length ≤ 1000 ∧ (runO n E).2.1.length ≤ 1000 ∧ (runO n E).2.2.length ≤ 1000000 := by
  unfold runO
  split
  · rename_i h
    obtain ⟨h1, h2, h3⟩ := runS_wf n.toNat (begin_wf h)
    obtain ⟨h4, h5⟩ := left_len h1
    have := h.1
    have := h.2.1
    exact ⟨by show (runS n.toNat _ _).1.length ≤ 1000; omega, h4, h5⟩
  · simp
theorem replO_len (n : Int) (E : List Ed) (l : List Stp) (hl : l.length ≤ 1000000) : (replO n E l).1.1.length ≤ 1000000 ∧ (replO n E l).1.2.1.length ≤ 1000 ∧ (replO n E l).1.2.2.length ≤ 1000000 := by
  unfold replO
  split
  · rename_i h
    obtain ⟨h1, h2, h3⟩ := replS_wf l (begin_wf h)
    obtain ⟨h4, h5⟩ := left_len h1
    exact ⟨by show (replS l _ _).1.length ≤ 1000000; omega, h4, h5⟩
  · simp
/-! ### carcanetref10.Narrow -/
theorem Narrow10_ok : SoundC Try.prog T 35 NarrowC := by
  refine sound_con (X := { Γ := [(39, RightC), (33, Run10C)], T := T, nt := 14 }) cr_none hmix hT (sound_cons Right3_ok (sound_cons Run10_ok sound_nil)) Try.func35 (by rfl) (by rfl) (by rfl) (by rfl) 2 ?_
  rintro ⟨n, E⟩ -
  refine ⟨⟨Nat.le_of_ble_eq_true rfl, Nat.le_of_ble_eq_true rfl⟩, ?_⟩
  refine Call.by _ _ (Run10C_at n E) ?_
  refine Call.by _ _ (RightC_at n E) ?_
  refine Pick.by (fun h1 => ?_) (fun h1 => ?_)
  · have h1 : RightP n E := by have h1 : decide (RightP n E) = true := h1; simpa using h1
    refine ⟨rfl, ?_⟩
    show Sc.b ((((ints (runO n E).2.1).length : Nat) : Int) == 0) = Sc.b (narrowB n E)
    unfold narrowB
    rw [decide_eq_true h1, Bool.true_and, ints_length]
    congr 1
    rw [Bool.eq_iff_iff]
    simp
  · have h1 : ¬ RightP n E := by have h1 : decide (RightP n E) = false := h1; simpa using h1
    refine ⟨rfl, ?_⟩
    show Sc.b false = Sc.b (narrowB n E)
    unfold narrowB
    rw [decide_eq_false h1, Bool.false_and]
/-! ### carcanetref10.Same -/
abbrev Lg := List Stp × List Int × List Ed
def lgOk (a : Lg) : Prop := a.1.length ≤ 1000000 ∧ a.2.1.length ≤ 1000 ∧ a.2.2.length ≤ 1000000
theorem logV_inj {o : Bool} {a b : Lg} (h : logV o a.1 a.2.1 a.2.2 = logV o b.1 b.2.1 b.2.2) : a = b := by
  obtain ⟨s, l, e⟩ := a
  obtain ⟨s', l', e'⟩ := b
  simp only [logV, V.agg.injEq, List.cons.injEq, C.flat.injEq, true_and, and_true] at h
  obtain ⟨h1, h2, h3⟩ := h
  rw [stps_inj h1, ints_inj h2, edges_inj h3]
noncomputable def Same10C : Con := conP 2 (fun a : Lg × Lg => lgOk a.1 ∧ lgOk a.2) (fun a => [logV false a.1.1 a.1.2.1 a.1.2.2, logV false a.2.1 a.2.2.1 a.2.2.2]) (fun a => .one (.s (.b (decide (a.1 = a.2)))))
theorem Same10C_at {a b : Lg} (h : lgOk a ∧ lgOk b) : Same10C.F [logV false a.1 a.2.1 a.2.2, logV false b.1 b.2.1 b.2.2] = some (.one (.s (.b (decide (a = b)))), []) :=
  conP_at (a := (a, b)) (fun x y _ _ h => by
    simp at h
    rw [Prod.ext (logV_inj h.1) (logV_inj h.2)]) h
theorem Same10_ok : SoundC Try.prog T 30 Same10C := by
  refine sound_con (X := { Γ := [(40, SameC), (41, SameEC)], T := T, nt := 43 }) cr_none hmix hT (sound_cons Same_ok (sound_cons SameE_ok sound_nil)) Try.func30 (by rfl) (by rfl) (by rfl) (by rfl) 6 ?_
  rintro ⟨⟨s, l, e⟩, s', l', e'⟩ ⟨⟨a1, a2, a3⟩, b1, b2, b3⟩
  dsimp only at a1 a2 a3 b1 b2 b3 ⊢
  refine ⟨⟨Nat.le_of_ble_eq_true rfl, Nat.le_of_ble_eq_true rfl⟩, ?_⟩
  refine Pick.by (fun h => ?_) (fun h => ?_)
  · have h : s.length ≠ s'.length := by simp [stps_length] at h; omega
    refine ⟨rfl, ?_⟩
    show Sc.b false = Sc.b (decide ((s, l, e) = (s', l', e')))
    rw [decide_eq_false fun e => h (by injection e with e; rw [e])]
  have h : s.length = s'.length := by simp [stps_length] at h; omega
  refine LoopP.intro (α := Nat) (fun k => k ≤ s.length ∧ s.take k = s'.take k) (fun k => s.length - k) (fun k => [(2, .ptr 6 0), (3, .ptr 7 0), (5, .s (.i .i64 k))]) (fun k => [(0, some (.flat false 4 (stps s))), (1, some (.flat false 1 (ints l))), (2, some (.flat false 2 (edges e))), (3, some (.flat false 4 (stps s'))), (4, some (.flat false 1 (ints l'))), (5, some (.flat false 2 (edges e'))), (6, some (.blk [.sl 0 none none, .sl 1 none none, .sl 2 none none])), (7, some (.blk [.sl 3 none none, .sl 4 none none, .sl 5 none none]))]) 8 0 ⟨by omega, by simp⟩ (by refine Weak.by [(0, some _), (1, some _), (2, some _), (3, some _), (4, some _), (5, some _), (6, some _), (7, some _)] (by ((repeat' first | exact rfl | exact trivial | refine And.intro ?_ ?_) <;> (repeat' first | exact rfl | exact trivial | refine And.intro ?_ ?_))) (by ((repeat' first | exact rfl | exact trivial | refine And.intro ?_ ?_) <;> (repeat' first | exact rfl | exact trivial | refine And.intro ?_ ?_))) (by rfl)) ?_
  rintro k ⟨hk, ht⟩
  have hrow : ∀ (s : List Stp) (x : Stp), s[k]? = some x → (stps s)[k]? = some [.i .i64 x.1, .i .i64 x.2.1, .i .i64 x.2.2.1, .b x.2.2.2] := fun s x hs => by unfold stps; rw [List.getElem?_map, hs]; rfl
  refine Pick.by (fun hc => ?_) (fun hc => ?_)
  · have hlt : k < s.length := by rw [stps_length] at hc; simpa using hc
    have hlm : k < s'.length := by omega
    refine Idx.by k rfl (by rw [stps_length]; exact hlt) ?_
    refine Look.by _ (hrow s _ (List.getElem?_eq_getElem hlt)) ?_
    refine Idx.by k rfl (by rw [stps_length]; exact hlm) ?_
    refine Look.by _ (hrow s' _ (List.getElem?_eq_getElem hlm)) ?_
    refine Seg.by (by kernel_rfl) ?_
    refine Pick.by (fun hne => ?_) (fun hne => ?_)
    · have hne2 : (!decide (s[k] = s'[k])) = true := by rw [← eqStp]; exact hne
      have hne : ¬ s[k] = s'[k] := by simpa using hne2
      refine ⟨rfl, ?_⟩
      show Sc.b false = Sc.b (decide ((s, l, e) = (s', l', e')))
      rw [decide_eq_false fun e => hne (by injection e with e; subst e; rfl)]
    · have hne2 : (!decide (s[k] = s'[k])) = false := by rw [← eqStp]; exact hne
      have hne : s[k] = s'[k] := by simpa using hne2
      refine Pick.T (inI64_of (by omega) (by omega)) ?_
      refine Next.by (k + 1) ⟨by omega, by rw [List.take_succ_eq_append_getElem hlt, List.take_succ_eq_append_getElem hlm, ht, hne]⟩ (by omega) (by refine Weak.by [(0, some _), (1, some _), (2, some _), (3, some _), (4, some _), (5, some _), (6, some _), (7, some _)] (by ((repeat' first | exact rfl | exact trivial | refine And.intro ?_ ?_) <;> (repeat' first | exact rfl | exact trivial | refine And.intro ?_ ?_))) (by ((repeat' first | exact rfl | exact trivial | refine And.intro ?_ ?_) <;> (repeat' first | exact rfl | exact trivial | refine And.intro ?_ ?_))) (by rfl))
  have hge : s.length ≤ k := by rw [stps_length] at hc; simpa using hc
  have hs : s = s' := by rw [List.take_of_length_le hge, List.take_of_length_le (by omega)] at ht; exact ht
  refine Call.by _ _ (SameC_at l l' (by omega) (by omega)) ?_
  have hv : decide ((s, l, e) = (s', l', e')) = (decide (l = l') && decide (e = e')) := by
    rw [Bool.eq_iff_iff]
    simp [hs]
  refine Pick.by (fun h1 => ?_) (fun h1 => ?_)
  · have h1 : decide (l = l') = true := h1
    refine Call.by _ _ (SameEC_at (by omega)) ?_
    refine ⟨rfl, ?_⟩
    show Sc.b (decide (e = e')) = Sc.b (decide ((s, l, e) = (s', l', e')))
    rw [hv, h1, Bool.true_and]
  · have h1 : decide (l = l') = false := h1
    refine ⟨rfl, ?_⟩
    show Sc.b false = Sc.b (decide ((s, l, e) = (s', l', e')))
    rw [hv, h1, Bool.false_and]
/-! ### carcanetlaw10.ours -/
noncomputable def OursC : Con := conP 1 (fun l : List Stp => l.length ≤ 1000000) (fun l => [.one (.flat false 4 (stps l))]) (fun l => .one (.flat true 4 (stps (l.take 60))))
theorem OursC_at {l : List Stp} (h : l.length ≤ 1000000) : OursC.F [.one (.flat false 4 (stps l))] = some (.one (.flat true 4 (stps (l.take 60))), []) :=
  conP_at (a := l) (fun x y _ _ h => by simp at h; rw [stps_inj h]) h
theorem Ours_ok : SoundC Try.prog T 37 OursC := by
  refine sound_con (X := { Γ := [], T := T, nt := 23 }) cr_none hmix hT sound_nil Try.func37 (by rfl) (by rfl) (by rfl) (by rfl) 1 ?_
  rintro l hl
  refine ⟨⟨Nat.le_of_ble_eq_true rfl, Nat.le_of_ble_eq_true rfl⟩, ?_⟩
  refine LoopP.intro (α := Nat) (fun k => k ≤ l.length ∧ k ≤ 60) (fun k => 60 - k) (fun k => [(0, .sl 0 none none), (3, .sl 1 none none), (4, .s (.i .i64 k))]) (fun k => [(0, some (.flat false 4 (stps l))), (1, some (.flat true 4 (stps (l.take k))))]) 2 0 ⟨by omega, by omega⟩ (by refine Weak.by [(0, some _), (1, none)] (by ((repeat' first | exact rfl | exact trivial | refine And.intro ?_ ?_) <;> (repeat' first | exact rfl | exact trivial | refine And.intro ?_ ?_))) (by ((repeat' first | exact rfl | exact trivial | refine And.intro ?_ ?_) <;> (repeat' first | exact rfl | exact trivial | refine And.intro ?_ ?_))) (by rfl)) ?_
  rintro k ⟨hk, hk2⟩
  have hrow : ∀ x : Stp, l[k]? = some x → (stps l)[k]? = some [.i .i64 x.1, .i .i64 x.2.1, .i .i64 x.2.2.1, .b x.2.2.2] := fun x hs => by unfold stps; rw [List.getElem?_map, hs]; rfl
  have htl : (l.take k).length = k := by rw [List.length_take]; omega
  refine Pick.by (fun hc => ?_) (fun hc => ?_)
  · have hlt : k < l.length := by rw [stps_length] at hc; simpa using hc
    refine Pick.by (fun hc2 => ?_) (fun hc2 => ?_)
    · have hlt2 : k < 60 := by simp at hc2; omega
      refine Idx.by k rfl (by rw [stps_length]; exact hlt) ?_
      refine Look.by _ (hrow _ (List.getElem?_eq_getElem hlt)) ?_
      refine Pick.T (by simp [cut, stps_length]; omega) ?_
      refine Pick.T (inI64_of (by omega) (by omega)) ?_
      refine Next.by (k + 1) ⟨by omega, by omega⟩ (by omega) (by refine Weak.by [(0, some _), (1, some _)] (by ((repeat' first | exact rfl | exact trivial | refine And.intro ?_ ?_) <;> (repeat' first | exact rfl | exact trivial | refine And.intro ?_ ?_)); all_goals ((rw [List.take_succ_eq_append_getElem hlt, stps_snoc]; rfl))) (by ((repeat' first | exact rfl | exact trivial | refine And.intro ?_ ?_) <;> (repeat' first | exact rfl | exact trivial | refine And.intro ?_ ?_)); all_goals ((rw [List.take_succ_eq_append_getElem hlt, stps_snoc]; rfl))) (by rfl))
    · have hge : k = 60 := by simp at hc2; omega
      exact ⟨rfl, by (repeat' first | exact rfl | exact trivial | refine And.intro ?_ ?_); all_goals (rw [hge]; rfl)⟩
  · have hge : k = l.length := by rw [stps_length] at hc; simp at hc; omega
    have e : stps (l.take 60) = stps (l.take k) := by rw [List.take_of_length_le (by omega), List.take_of_length_le (by omega)]
    exact ⟨rfl, by (repeat' first | exact rfl | exact trivial | refine And.intro ?_ ?_); all_goals exact e⟩
/-! ### carcanetlaw10.theirs -/
noncomputable def TheirsC : Con := conT (fun a : Lg => a.1.length ≤ 1000000) (fun a => [logV false a.1 a.2.1 a.2.2]) (fun a => .one (.flat true 4 (stps a.1)))
theorem TheirsC_at {a : Lg} (h : a.1.length ≤ 1000000) : TheirsC.F [logV false a.1 a.2.1 a.2.2] = some (.one (.flat true 4 (stps a.1)), []) :=
  conT_at (a := a) (fun x y _ _ h => by simp at h; rw [logV_inj h]) h
theorem Theirs_ok : SoundC Try.prog T 31 TheirsC := by
  refine sound_conT (X := { Γ := [], T := T, nt := 28 }) cr_none hmix hT sound_nil Try.func31 (by rfl) (by rfl) (by rfl) (by rfl) 3 ?_
  rintro ⟨s, l, e⟩ hl
  dsimp only at hl ⊢
  refine ⟨_, _, rfl, ⟨by decide, by simp⟩, ?_⟩
  refine LoopP.intro (α := Nat) (fun k => k ≤ s.length) (fun k => s.length - k) (fun k => [(1, .ptr 3 0), (2, .ptr 4 0), (3, .ptr 5 0), (4, .s (.i .i64 k)), (1000000, .sl 1 none none), (1000001, .sl 2 none none)]) (fun k => [(0, some (.flat false 4 (stps s))), (1, some (.flat false 1 (ints l))), (2, some (.flat false 2 (edges e))), (3, some (.blk [.sl 0 none none, .sl 1 none none, .sl 2 none none])), (4, some (.blk [.nils, .nils, .nils])), (5, some (.blk [.sl 6 none none, .sl 1 none none, .sl 2 none none])), (6, some (.flat true 4 (stps (s.take k))))]) 7 0 (by omega) (by refine Weak.by [(0, some _), (1, some _), (2, some _), (3, some _), (4, some _), (5, some _), (6, none)] (by ((repeat' first | exact rfl | exact trivial | refine And.intro ?_ ?_) <;> (repeat' first | exact rfl | exact trivial | refine And.intro ?_ ?_))) (by ((repeat' first | exact rfl | exact trivial | refine And.intro ?_ ?_) <;> (repeat' first | exact rfl | exact trivial | refine And.intro ?_ ?_))) (by rfl)) ?_
  rintro k hk
  have hrow : ∀ x : Stp, s[k]? = some x → (stps s)[k]? = some [.i .i64 x.1, .i .i64 x.2.1, .i .i64 x.2.2.1, .b x.2.2.2] := fun x hs => by unfold stps; rw [List.getElem?_map, hs]; rfl
  have htl : (s.take k).length = k := by rw [List.length_take]; omega
  refine Pick.by (fun hc => ?_) (fun hc => ?_)
  · have hlt : k < s.length := by rw [stps_length] at hc; simpa using hc
    refine Idx.by k rfl (by rw [stps_length]; exact hlt) ?_
    refine Look.by _ (hrow _ (List.getElem?_eq_getElem hlt)) ?_
    refine Pick.T (by simp [cut, stps_length]; omega) ?_
    refine Seg.by (by kernel_rfl) ?_
    refine Pick.T (inI64_of (by omega) (by omega)) ?_
    refine Next.by (k + 1) (by omega) (by omega) (by refine Weak.by [(0, some _), (1, some _), (2, some _), (3, some _), (4, some _), (5, some _), (6, some _)] (by ((repeat' first | exact rfl | exact trivial | refine And.intro ?_ ?_) <;> (repeat' first | exact rfl | exact trivial | refine And.intro ?_ ?_)); all_goals ((rw [List.take_succ_eq_append_getElem hlt, stps_snoc]; rfl))) (by ((repeat' first | exact rfl | exact trivial | refine And.intro ?_ ?_) <;> (repeat' first | exact rfl | exact trivial | refine And.intro ?_ ?_)); all_goals ((rw [List.take_succ_eq_append_getElem hlt, stps_snoc]; rfl))) (by rfl))
  · have hge : s.length ≤ k := by rw [stps_length] at hc; simpa using hc
    have e2 : stps s = stps (s.take k) := by rw [List.take_of_length_le hge]
    refine ⟨rfl, ⟨rfl, ?_⟩, ?_⟩
    · (repeat' first | exact rfl | exact trivial | refine And.intro ?_ ?_); all_goals exact e2
    · (repeat' first | exact rfl | exact trivial | refine And.intro ?_ ?_)
end Go.Sh

set_option linter.unusedVariables false
set_option linter.unusedSimpArgs false
namespace Go.Sh
/-! ### what is left, as a graph -/
theorem mem_leftF {G : List Bool} {v : Int} : v ∈ leftF G ↔ 0 ≤ v ∧ v < G.length ∧ goneAt G v = false := by
  unfold leftF
  rw [mem_range_cast]
  constructor
  · rintro ⟨k, h1, h2, rfl⟩
    refine ⟨by omega, by omega, ?_⟩
    rw [goneAt_nat]
    simpa using h2
  · rintro ⟨h1, h2, h3⟩
    refine ⟨v.toNat, by omega, ?_, by omega⟩
    unfold goneAt at h3
    rw [h3]; rfl
theorem leftF_sorted (G : List Bool) : (leftF G).Pairwise (· < ·) := range_cast_sorted _
theorem mem_outE {N : List (List Int)} {v a b : Int} : (a, b) ∈ outE N v ↔ a = v ∧ b ∈ rowAt N v ∧ v < b := by
  unfold outE
  rw [List.mem_map]
  constructor
  · rintro ⟨x, hx, h⟩
    rw [List.mem_filter] at hx
    injection h with h1 h2
    subst h1; subst h2
    exact ⟨rfl, hx.1, by simpa using hx.2⟩
  · rintro ⟨rfl, h1, h2⟩
    exact ⟨b, List.mem_filter.2 ⟨h1, by simpa using h2⟩, rfl⟩
theorem mem_edgesF {N : List (List Int)} {G : List Bool} (h : Wf N G) {a b : Int} : (a, b) ∈ edgesF N G ↔ 0 ≤ a ∧ a < b ∧ b ∈ rowAt N a := by
  unfold edgesF
  rw [List.mem_flatMap]
  constructor
  · rintro ⟨v, hv, hm⟩
    rw [mem_leftF] at hv
    rw [mem_outE] at hm
    obtain ⟨rfl, h1, h2⟩ := hm
    exact ⟨hv.1, h2, h1⟩
  · rintro ⟨h0, h1, h2⟩
    refine ⟨a, mem_leftF.2 ⟨h0, ?_, ?_⟩, mem_outE.2 ⟨rfl, h2, h1⟩⟩
    · rw [h.len]
      by_cases hlt : a.toNat < N.length
      · omega
      · rw [rowAt_out hlt] at h2; simp at h2
    · cases hg : goneAt G a with
      | false => rfl
      | true => rw [h.gone a h0 hg] at h2; simp at h2
theorem edgesF_sorted {N : List (List Int)} {G : List Bool} (h : Wf N G) : (edgesF N G).Pairwise ltE := by
  unfold edgesF
  rw [List.pairwise_flatMap]
  refine ⟨fun v hv => ?_, ?_⟩
  · unfold outE
    rw [List.pairwise_map]
    exact ((h.rows v).1.sublist List.filter_sublist).imp fun hab => .inr ⟨rfl, hab⟩
  · refine (leftF_sorted G).imp fun {a b} hab x hx y hy => ?_
    obtain ⟨x1, x2⟩ := x
    obtain ⟨y1, y2⟩ := y
    rw [mem_outE] at hx hy
    exact .inl (by show x1 < y1; omega)
theorem edgesF_len {N : List (List Int)} {G : List Bool} (h : Wf N G) : (edgesF N G).length ≤ N.length * N.length := by
  have key : ∀ j, (edgesK N G j).length ≤ j * N.length := by
    intro j
    induction j with
    | zero => simp [edgesK, leftK]
    | succ j ih =>
      rw [edgesK_succ, List.length_append, Nat.succ_mul]
      have h1 := outE_len N j
      have h2 := h.row_len j
      have : (if G.getD j false then [] else outE N j).length ≤ N.length := by
        split
        · simp
        · omega
      omega
  have e1 : leftF G = leftK G G.length := rfl
  have e2 : edgesF N G = edgesK N G G.length := by unfold edgesF edgesK; rw [e1]
  rw [e2]
  have := key G.length
  rw [h.len] at this ⊢
  exact this
theorem back_right {N : List (List Int)} {G : List Bool} (h : Wf N G) (hn : N.length ≤ 63) : RightP N.length (edgesF N G) := by
  refine ⟨by omega, by omega, ?_, fun p hp => ?_, edgesF_sorted h⟩
  · have h1 := edgesF_len h
    have : N.length * N.length ≤ 63 * 63 := Nat.mul_le_mul hn hn
    omega
  · obtain ⟨a, b⟩ := p
    rw [mem_edgesF h] at hp
    exact ⟨hp.1, hp.2.1, ((h.rows a).2 b hp.2.2).2⟩
theorem back_near {N : List (List Int)} {G : List Bool} (h : Wf N G) (hn : N.length ≤ 63) {v : Int} (hv : 0 ≤ v) : nearL (edgesF N G) v = rowAt N v := by
  refine sorted_eq (near_sorted (n := N.length) (back_right h hn).2.2.2.1 (edgesF_sorted h)) (h.rows v).1 fun x => ?_
  rw [mem_nearL]
  unfold adjE
  rw [mem_edgesF h, mem_edgesF h]
  constructor
  · rintro (⟨_, _, h1⟩ | ⟨h0, _, h1⟩)
    · exact h1
    · exact h.sym x v h0 hv h1
  · intro hx
    have hr := (h.rows v).2 x hx
    have hne : x ≠ v := fun e => h.irr v hv (e ▸ hx)
    by_cases hlt : v < x
    · exact .inl ⟨hv, hlt, hx⟩
    · exact .inr ⟨hr.1, by omega, h.sym v x hv hr.1 hx⟩
theorem back_nbrs {N : List (List Int)} {G : List Bool} (h : Wf N G) (hn : N.length ≤ 63) : nbrs N.length (edgesF N G) = N := by
  apply List.ext_getElem?
  intro i
  by_cases hi : i < N.length
  · unfold nbrs
    rw [List.getElem?_map, List.getElem?_range hi, Option.map_some, back_near h hn (by omega), (rowAt_mem (N := N) (v := (i : Int)) (by omega) (by omega)).2.symm]
    simp
  · rw [List.getElem?_eq_none (by rw [nbrs_length]; omega), List.getElem?_eq_none (by omega)]
/-! ### runs -/
def live (G : List Bool) : Nat := G.countP (!·)
theorem first_min {N : List (List Int)} {G : List Bool} {v : Nat} (h : firstMay N G = some v) {u : Int} (hu : mayB N G u = true) : (v : Int) ≤ u := by
  unfold firstMay at h
  rw [List.find?_range_eq_some] at h
  obtain ⟨_, _, h3⟩ := h
  have hm := mayB_iff.1 hu
  have h0 := hm.lo
  by_cases hlt : u.toNat < v
  · have := h3 u.toNat hlt
    rw [Int.toNat_of_nonneg h0, hu] at this
    simp at this
  · omega
theorem first_no {N : List (List Int)} {G : List Bool} (h : firstMay N G = none) (u : Int) : mayB N G u = false := by
  cases hu : mayB N G u with
  | false => rfl
  | true =>
    have hm := mayB_iff.1 hu
    unfold firstMay at h
    rw [List.find?_eq_none] at h
    have h0 := hm.lo
    have h1 := hm.hi
    have := h u.toNat (by rw [List.mem_range]; omega)
    rw [Int.toNat_of_nonneg h0] at this
    exact absurd hu this
theorem live_pos {N : List (List Int)} {G : List Bool} (hW : Wf N G) {v : Int} (hm : mayB N G v = true) : 1 ≤ live G := by
  have := live_step hW (mayB_iff.1 hm)
  unfold live; omega
theorem run_end {N : List (List Int)} {G : List Bool} : ∀ {f : Nat}, Wf N G → live G ≤ f → ∀ u, mayB (runS f N G).2.1 (runS f N G).2.2 u = false := by
  intro f
  induction f generalizing N G with
  | zero =>
    intro h hf u
    cases hu : mayB N G u with
    | false => exact hu
    | true => have := live_pos h hu; omega
  | succ f ih =>
    intro h hf u
    cases hm : firstMay N G with
    | none => rw [runS_end hm]; exact first_no hm u
    | some v =>
      rw [runS_go hm]
      have hv := mayB_iff.1 (firstMay_may hm)
      have := live_step h hv
      exact ih (do_wf h hv) (by unfold live at hf ⊢; omega) u
theorem run_count {f : Nat} : ∀ {N : List (List Int)} {G : List Bool}, Wf N G → (runS f N G).1.length + live (runS f N G).2.2 = live G := by
  induction f with
  | zero => intro N G _; simp [runS]
  | succ f ih =>
    intro N G h
    cases hm : firstMay N G with
    | none => rw [runS_end hm]; simp
    | some v =>
      rw [runS_go hm]
      have hv := mayB_iff.1 (firstMay_may hm)
      have h1 := live_step h hv
      have h2 := ih (do_wf h hv)
      unfold live at *
      simp only [List.length_cons]
      omega
theorem may_sub {N : List (List Int)} {G G' : List Bool} (hs : ∀ v : Int, 0 ≤ v → goneAt G' v = true → goneAt G v = true) {u : Int} (hu : mayB N G u = true) : mayB N G' u = true := by
  have hp := mayB_iff.1 hu
  have hg : goneAt G' u = false := by
    cases hg : goneAt G' u with
    | false => rfl
    | true => have := hs u hp.lo hg; rw [hp.there] at this; cases this
  exact mayB_iff.2 ⟨hp.lo, hp.hi, hg, hp.two⟩
/-- vertices that stand alone go too, and change nothing -/
theorem run_dup {f' : Nat} : ∀ {f : Nat} {N : List (List Int)} {G G' : List Bool}, Wf N G → G'.length = G.length → (∀ v : Int, 0 ≤ v → goneAt G' v = true → goneAt G v = true) → live G' ≤ f' → live G ≤ f → (runS f' N G').2 = (runS f N G).2 := by
  have none_case : ∀ {N : List (List Int)} {G G' : List Bool} {f f' : Nat}, Wf N G → G'.length = G.length → (∀ v : Int, 0 ≤ v → goneAt G' v = true → goneAt G v = true) → firstMay N G' = none → (runS f' N G').2 = (runS f N G).2 := by
    intro N G G' f f' h hl hs hm
    have hG : firstMay N G = none := firstMay_none fun u hu => by
      have := first_no hm u
      have h2 : mayB N G' u = true := may_sub hs hu
      rw [this] at h2; cases h2
    rw [runS_end hm, runS_end hG]
    show (N, G') = (N, G)
    congr 1
    apply List.ext_getElem?
    intro i
    by_cases hi : i < G.length
    · have e1 : G'[i]? = some (goneAt G' (i : Int)) := by rw [goneAt_nat, List.getD_eq_getElem?_getD, List.getElem?_eq_getElem (by omega)]; rfl
      have e2 : G[i]? = some (goneAt G (i : Int)) := by rw [goneAt_nat, List.getD_eq_getElem?_getD, List.getElem?_eq_getElem hi]; rfl
      rw [e1, e2]
      cases hg : goneAt G' (i : Int) with
      | true => rw [hs _ (by omega) hg]
      | false =>
        cases hg2 : goneAt G (i : Int) with
        | false => rfl
        | true =>
          have hr := h.gone (i : Int) (by omega) hg2
          have h2 : mayB N G' (i : Int) = true := mayB_iff.2 ⟨by omega, by rw [← h.len]; omega, hg, by rw [hr]; simp⟩
          rw [first_no hm] at h2; cases h2
    · rw [List.getElem?_eq_none (by omega), List.getElem?_eq_none (by omega)]
  induction f' with
  | zero =>
    intro f N G G' h hl hs hf' hf
    refine none_case h hl hs ?_
    cases hm : firstMay N G' with
    | none => rfl
    | some v =>
      have hW' : Wf N G' := ⟨by rw [hl]; exact h.len, h.most, h.row, h.sym, h.irr, fun v h0 hg => h.gone v h0 (hs v h0 hg)⟩
      have := live_pos hW' (firstMay_may hm); omega
  | succ f' ih =>
    intro f N G G' h hl hs hf' hf
    cases hm : firstMay N G' with
    | none => exact none_case h hl hs hm
    | some v =>
      have hW' : Wf N G' := ⟨by rw [hl]; exact h.len, h.most, h.row, h.sym, h.irr, fun v h0 hg => h.gone v h0 (hs v h0 hg)⟩
      have hp := mayB_iff.1 (firstMay_may hm)
      have hlv := live_step hW' hp
      rw [runS_go hm]
      cases hg : goneAt G (v : Int) with
      | true =>
        have hr := h.gone (v : Int) (by omega) hg
        have hst : stepF N v = ((v : Int), -1, -1, false) := by unfold stepF; rw [hr]; rfl
        have hdN : doN N (stepF N v) = N := by
          rw [hst]
          unfold doN
          dsimp only
          rw [hr]
          show N.set v [] = N
          have := (rowAt_mem (N := N) (v := (v : Int)) (by omega) hp.hi).2
          rw [hr] at this
          exact set_same this
        show (runS f' (doN N (stepF N v)) (doG G' (stepF N v))).2 = _
        rw [hdN]
        refine ih h (by unfold doG; rw [List.length_set]; exact hl) (fun u hu hgu => ?_) (by unfold live at hf' ⊢; omega) hf
        unfold doG at hgu
        rw [hst, goneAt_set (show (0 : Int) ≤ (v : Int) by omega) (by rw [hW'.len]; exact hp.hi) hu] at hgu
        split at hgu
        · rename_i e; rw [e]; exact hg
        · exact hs u hu hgu
      | false =>
        have hv : mayB N G v = true := mayB_iff.2 ⟨hp.lo, hp.hi, hg, hp.two⟩
        have hG : firstMay N G = some v := by
          have := firstMay_some hv fun u hu => first_min hm (may_sub hs hu)
          rw [Int.toNat_natCast] at this
          exact this
        have hpv := mayB_iff.1 hv
        have hl2 := live_step h hpv
        cases f with
        | zero => unfold live at hf; omega
        | succ f =>
          rw [runS_go hG]
          refine ih (do_wf h hpv) (by unfold doG; rw [List.length_set, List.length_set]; exact hl) (fun u hu hgu => ?_) (by unfold live at hf' ⊢; omega) (by unfold live at hf ⊢; omega)
          unfold doG at hgu ⊢
          have hs1 : (stepF N (v : Int)).1 = (v : Int) := rfl
          rw [hs1] at hgu ⊢
          rw [goneAt_set (show (0 : Int) ≤ (v : Int) by omega) (by rw [hW'.len]; exact hp.hi) hu] at hgu
          rw [goneAt_set (show (0 : Int) ≤ (v : Int) by omega) (by rw [h.len]; exact hp.hi) hu]
          split at hgu
          · rename_i e; rw [if_pos e]
          · rename_i e; rw [if_neg e]; exact hs u hu hgu
theorem run_mayStp {N : List (List Int)} {G : List Bool} {v : Nat} (h : firstMay N G = some v) : mayStp N G (stepF N v) = true := by
  unfold mayStp
  have hs1 : (stepF N (v : Int)).1 = (v : Int) := rfl
  rw [hs1, firstMay_may h, decide_eq_true rfl]; rfl
theorem run_replay {f : Nat} : ∀ {N : List (List Int)} {G : List Bool}, replS (runS f N G).1 N G = ((runS f N G).1, true, (runS f N G).2) := by
  induction f with
  | zero => intro N G; rfl
  | succ f ih =>
    intro N G
    cases hm : firstMay N G with
    | none => rw [runS_end hm]; rfl
    | some v => rw [runS_go hm, replS_go (run_mayStp hm), ih]
theorem run_prefix {f : Nat} : ∀ {N : List (List Int)} {G : List Bool} (k : Nat), Wf N G → live G ≤ f → ∃ N' G' f', replS ((runS f N G).1.take k) N G = ((runS f N G).1.take k, true, N', G') ∧ Wf N' G' ∧ N'.length = N.length ∧ live G' ≤ f' ∧ (runS f' N' G').2 = (runS f N G).2 := by
  induction f with
  | zero => intro N G k h hf; exact ⟨N, G, 0, by simp [runS, replS], h, rfl, hf, rfl⟩
  | succ f ih =>
    intro N G k h hf
    cases hm : firstMay N G with
    | none => rw [runS_end hm]; exact ⟨N, G, f + 1, by simp [replS], h, rfl, hf, by rw [runS_end hm]⟩
    | some v =>
      cases k with
      | zero => exact ⟨N, G, f + 1, by simp [replS], h, rfl, hf, rfl⟩
      | succ k =>
        have hp := mayB_iff.1 (firstMay_may hm)
        have hlv := live_step h hp
        obtain ⟨N', G', f', h1, h2, h3, h4, h5⟩ := ih k (do_wf h hp) (by unfold live at hf ⊢; omega)
        rw [runS_go hm]
        refine ⟨N', G', f', ?_, h2, by rw [h3, doN_length], h4, h5⟩
        show replS (stepF N v :: (runS f _ _).1.take k) N G = (stepF N v :: (runS f _ _).1.take k, true, N', G')
        rw [replS_go (run_mayStp hm), h1]
theorem live_zero (n : Nat) : live (List.replicate n false) = n := by unfold live; simp [List.countP_replicate]
/-- what is left behind some steps goes on as it did -/
theorem run_rest {n : Int} {E : List Ed} (hR : RightP n E) (hn : n ≤ 63) (k : Nat) :
    replO n E ((runO n E).1.take k) = (((runO n E).1.take k, (replO n E ((runO n E).1.take k)).1.2), true) ∧ (runO n (replO n E ((runO n E).1.take k)).1.2.2).2 = (runO n E).2 := by
  have hW := begin_wf hR
  have hrun : runO n E = ((runR n E).1, leftF (runR n E).2.2, edgesF (runR n E).2.1 (runR n E).2.2) := if_pos hR
  have h0 := hR.1
  obtain ⟨N', G', f', h1, h2, h3, h4, h5⟩ := run_prefix (f := n.toNat) k hW (by rw [live_zero]; omega)
  have hst : (runO n E).1 = (runS n.toNat (nbrs n.toNat E) (List.replicate n.toNat false)).1 := by rw [hrun]; rfl
  have hrp : replO n E ((runO n E).1.take k) = (((runO n E).1.take k, leftF G', edgesF N' G'), true) := by
    have : replR n E ((runO n E).1.take k) = ((runO n E).1.take k, true, N', G') := by rw [hst]; exact h1
    unfold replO
    rw [if_pos hR, this]
  rw [hrp]
  refine ⟨rfl, ?_⟩
  have hlen : (N'.length : Int) = n := by rw [h3, nbrs_length]; omega
  have hNl : N'.length = n.toNat := by omega
  have hR2 := back_right h2 (by omega)
  rw [hlen] at hR2
  have hrun2 : runO n (edgesF N' G') = ((runR n (edgesF N' G')).1, leftF (runR n (edgesF N' G')).2.2, edgesF (runR n (edgesF N' G')).2.1 (runR n (edgesF N' G')).2.2) := if_pos hR2
  have hd : (runR n (edgesF N' G')).2 = (runR n E).2 := by
    have hb := back_nbrs h2 (by omega)
    rw [hNl] at hb
    unfold runR
    rw [hb, ← h5]
    refine run_dup h2 (by rw [h2.len, hNl]; simp) (fun v h0 hg => ?_) (by rw [live_zero]; omega) h4
    exfalso
    unfold goneAt at hg
    rw [List.getD_eq_getElem?_getD, List.getElem?_replicate] at hg
    split at hg <;> cases hg
  show (runO n (edgesF N' G')).2 = (runO n E).2
  rw [hrun2, hrun, hd]
theorem run_again {n : Int} {E : List Ed} (hR : RightP n E) : replO n E (runO n E).1 = (runO n E, true) := by
  have hrun : runO n E = ((runR n E).1, leftF (runR n E).2.2, edgesF (runR n E).2.1 (runR n E).2.2) := if_pos hR
  have : replR n E (runO n E).1 = ((runR n E).1, true, (runR n E).2) := by rw [hrun]; exact run_replay
  unfold replO
  rw [if_pos hR, this, hrun]
end Go.Sh

set_option linter.unusedVariables false
set_option linter.unusedSimpArgs false
namespace Go.Sh
open Go.Proofs
/-! ### carcanetlaw10.ReduceBack -/
noncomputable def BackF := conF (fun _ : (Int × List Ed) × Int => True) (fun a => [grV a.1.1 a.1.2, .one (.s (.i .i64 a.2))]) (fun _ => .one (.s (.b true)))
theorem Back_ok : SoundP Try.prog 12 BackF := by
  refine con_pure (X := { Γ := [(29, Shown10C), (16, OfC), (32, RunC), (36, ReplC), (30, Same10C), (31, TheirsC), (40, SameC), (41, SameEC)], T := T, nt := 82 }) cr_none hmix hT
    (sound_cons Shown10_ok (sound_cons Of_ok (sound_cons Run_ok (sound_cons Repl_ok (sound_cons Same10_ok (sound_cons Theirs_ok (sound_cons Same_ok (sound_cons SameE_ok sound_nil)))))))) Try.func12 (by rfl) (by rfl) (by rfl) 3 ?_
  rintro ⟨⟨n, E⟩, k⟩ -
  refine ⟨⟨Nat.le_of_ble_eq_true rfl, Nat.le_of_ble_eq_true rfl⟩, ?_⟩
  refine Call.by _ _ Shown10C_at ?_
  refine Call.by _ _ (OfC_at n E (most := 20) (by omega)) ?_
  have hR := any_right (n := n) (l := E) (most := 20) (by omega) (by omega)
  have hr := anyN_range (n := n) (most := 20) (by omega)
  obtain ⟨m, hm⟩ : ∃ m, anyN n 20 = m := ⟨_, rfl⟩
  obtain ⟨F, hF⟩ : ∃ F, anyE n E 20 = F := ⟨_, rfl⟩
  rw [hm] at hr
  rw [hm, hF] at hR ⊢
  obtain ⟨h1, h2, h3⟩ := runO_len m F
  refine Call.by _ _ (RunC_at m F) ?_
  have hag := ReplC_at (n := m) (E := F) (l := (runO m F).1) (by omega)
  rw [run_again hR] at hag
  refine Call.by _ _ hag ?_
  have hl := tmod_range (low_range k).1 (show (0 : Int) < (((stps (runO m F).1).length : Nat) : Int) + 1 by omega)
  obtain ⟨q, hq⟩ : ∃ q : Nat, (low k).tmod ((((stps (runO m F).1).length : Nat) : Int) + 1) = q := ⟨_, (Int.toNat_of_nonneg hl.1).symm⟩
  rw [hq] at hl
  have hql : q ≤ (runO m F).1.length := by rw [stps_length] at hl; omega
  refine Pick.T (by rw [stps_length]; exact inI64_of (by omega) (by omega)) ?_
  refine Rng.by 0 q rfl hq (by omega) (by show q ≤ (stps (runO m F).1).length; rw [stps_length]; exact hql) ?_
  have hcut : cut (subOf none 0 0 q) (stps (runO m F).1) = stps ((runO m F).1.take q) := by
    simp only [subOf, cut, List.drop_zero, Nat.sub_zero, stps, List.map_take]
  have hlt : ((runO m F).1.take q).length = q := by rw [List.length_take]; omega
  obtain ⟨hp1, hp2⟩ := run_rest hR (by omega) q
  have hpl := replO_len m F ((runO m F).1.take q) (by omega)
  obtain ⟨W, hW⟩ : ∃ W, (replO m F ((runO m F).1.take q)).1.2 = W := ⟨_, rfl⟩
  rw [hp1] at hpl
  have hsm := ReplC_at (n := m) (E := F) (l := (runO m F).1.take q) (by omega)
  rw [hp1] at hsm
  rw [hW] at hsm hpl hp2
  rw [← hcut] at hsm
  refine Call.by _ _ hsm ?_
  refine Seg.by (by kernel_rfl) ?_
  refine Call.by _ _ (RunC_at m W.2) ?_
  have hok : lgOk (runO m F) := ⟨by omega, by omega, h3⟩
  refine Call.by _ _ (TheirsC_at (a := runO m F) (by omega)) ?_
  refine Call.by _ _ (TheirsC_at (a := runO m F) (by omega)) ?_
  refine Call.by _ _ (Same10C_at (a := runO m F) (b := runO m F) ⟨hok, hok⟩) ?_
  rw [decide_eq_true (rfl : runO m F = runO m F)]
  refine Pick.T (by show ((((stps ((runO m F).1.take q)).length : Nat) : Int) == (low k).tmod ((((stps (runO m F).1).length : Nat) : Int) + 1)) = true; rw [hq, stps_length, hlt]; simp) ?_
  obtain ⟨g1, g2, g3⟩ := runO_len m W.2
  have hs1 := SameC_at (runO m W.2).2.1 (runO m F).2.1 (by omega) (by omega)
  rw [decide_eq_true (show (runO m W.2).2.1 = (runO m F).2.1 by rw [hp2])] at hs1
  refine Call.by _ _ hs1 ?_
  have hs2 := SameEC_at (l := (runO m W.2).2.2) (m := (runO m F).2.2) (by omega)
  rw [decide_eq_true (show (runO m W.2).2.2 = (runO m F).2.2 by rw [hp2])] at hs2
  refine Call.by _ _ hs2 ?_
  refine Seg.by (by kernel_rfl) ?_
  exact ⟨rfl, rfl⟩
end Go.Sh

set_option linter.unusedVariables false
set_option linter.unusedSimpArgs false
namespace Go.Sh
open Go.Proofs
/-! ### carcanetlaw08.MinorMoves -/
def i64 (x : Int) : Prop := -9223372036854775808 ≤ x ∧ x ≤ 9223372036854775807
def rows64 (S : List (List Int)) : Prop := ∀ l ∈ S, ∀ x ∈ l, i64 x
def clI (x : Int) : Int := mnI x 4611686018427387904
def clP (j : Nat) (row : List Int) : List Int := (row.take j).map clI ++ row.drop j
theorem clP_length (j : Nat) (row : List Int) : (clP j row).length = row.length := by simp [clP]; omega
theorem clP_get {j : Nat} {row : List Int} (h : j < row.length) : (clP j row)[j]? = some row[j] := by
  unfold clP
  rw [List.getElem?_append_right (by rw [List.length_map, List.length_take]; omega), List.length_map, List.length_take, show min j row.length = j by omega, Nat.sub_self, List.getElem?_drop, Nat.add_zero, List.getElem?_eq_getElem h]
theorem clP_step {j : Nat} {row : List Int} (h : j < row.length) : clP (j + 1) row = (clP j row).set j (clI row[j]) := by
  unfold clP
  rw [take_snoc _ h, drop_cons h, List.set_append_right _ _ (by rw [List.length_map, List.length_take]; omega), List.length_map, List.length_take, show min j row.length = j by omega, Nat.sub_self]
  simp only [List.set_cons_zero, List.append_assoc, List.cons_append, List.nil_append]
theorem clP_all (row : List Int) (j : Nat) (h : row.length ≤ j) : clP j row = row.map clI := by
  unfold clP
  rw [List.take_of_length_le h, List.drop_eq_nil_of_le h, List.append_nil]
theorem clP_zero (row : List Int) : clP 0 row = row := by simp [clP]
def ClI (S : List (List Int)) (i j : Nat) (R : List (List Int)) : Prop := R.length = S.length ∧ ∀ r row, S[r]? = some row → R[r]? = some (if r < i then row.map clI else if r = i then clP j row else row)
theorem ClI.at {S R : List (List Int)} {i j : Nat} (h : ClI S i j R) {row : List Int} (hi : S[i]? = some row) : R[i]? = some (clP j row) := by
  have := h.2 i row hi
  rwa [if_neg (by omega), if_pos rfl] at this
theorem ClI.step {S R : List (List Int)} {i j : Nat} (h : ClI S i j R) {row : List Int} (hi : S[i]? = some row) : ClI S i (j + 1) (R.set i (clP (j + 1) row)) := by
  refine ⟨by rw [List.length_set]; exact h.1, fun r w hr => ?_⟩
  rw [List.getElem?_set]
  by_cases e : i = r
  · subst e
    rw [hi] at hr
    injection hr with hr
    subst hr
    rw [if_pos rfl, if_pos (by rw [h.1]; exact (List.getElem?_eq_some_iff.1 hi).1), if_neg (by omega), if_pos rfl]
  · rw [if_neg e, h.2 r w hr, if_neg (show ¬ r = i by omega), if_neg (show ¬ r = i by omega)]
theorem ClI.next {S R : List (List Int)} {i j : Nat} (h : ClI S i j R) {row : List Int} (hi : S[i]? = some row) (hj : row.length ≤ j) : ClI S (i + 1) 0 R := by
  refine ⟨h.1, fun r w hr => ?_⟩
  rw [h.2 r w hr]
  by_cases e : r < i
  · rw [if_pos e, if_pos (by omega)]
  · by_cases e2 : r = i
    · subst e2
      rw [hi] at hr
      injection hr with hr
      subst hr
      rw [if_neg e, if_pos rfl, if_pos (by omega), clP_all _ _ hj]
    · rw [if_neg e, if_neg e2, if_neg (by omega)]
      split
      · rw [clP_zero]
      · rfl
theorem ClI.done {S R : List (List Int)} {i : Nat} (h : ClI S i 0 R) (hi : S.length ≤ i) : R = S.map fun l => l.map clI := by
  apply List.ext_getElem?
  intro r
  by_cases hr : r < S.length
  · rw [h.2 r _ (List.getElem?_eq_getElem hr), if_pos (by omega)]
    simp [hr]
  · rw [List.getElem?_eq_none (by rw [h.1]; omega), List.getElem?_eq_none (by simp; omega)]
theorem ClI.zero (S : List (List Int)) : ClI S 0 0 S := ⟨rfl, fun r row h => by
  rw [if_neg (by omega), clP_zero]
  split <;> exact h⟩
theorem drop_same (v : Int) (l : List Int) : dropRow v l = drop8 v l := by
  unfold dropRow drop8 aboveF
  by_cases h : v < 0
  · rw [if_pos h]
    have : (fun x : Int => if v ≥ 0 ∧ x ≥ v then x + 1 else x) = id := funext fun x => by rw [if_neg (by omega)]; rfl
    rw [this, List.map_id]
  · rw [if_neg h]
    refine List.map_congr_left fun x _ => ?_
    by_cases hx : x ≥ v
    · rw [if_pos hx, if_pos ⟨by omega, hx⟩]
    · rw [if_neg hx, if_neg (fun h => hx h.2)]
theorem lift_same (a b : Int) (l : List Int) : liftRow (mnI a b) (mxI a b) l = lift8 (mnI a b) (mxI a b) l := by
  have hm : mnI a b ≤ mxI a b := by unfold mnI mxI; split <;> split <;> omega
  unfold liftRow lift8
  have h1 : drop8 (-1) l = l := by rw [← drop_same]; rfl
  by_cases h : mnI a b < 0 ∨ mnI a b = mxI a b
  · rw [if_pos h, if_pos h, h1]
  · have h2 : drop8 (mxI a b) l = aboveF l (mxI a b) := by rw [← drop_same]; exact if_neg (by omega)
    rw [if_neg h, if_neg h, h2]
noncomputable def MovesF := conF (fun a : Mo × Int × Int => rows64 a.1.2) (fun a => [moV false a.1.1 a.1.2, .one (.s (.i .i64 a.2.1)), .one (.s (.i .i64 a.2.2))]) (fun a => .one (.s (.b true)))
set_option maxHeartbeats 2000000 in
theorem Moves_ok (hU : SoundC Try.prog T 77 UnlikeC) : SoundP Try.prog 7 MovesF := by
  refine con_pure (X := { Γ := [(15, ShownC), (17, SmallC), (25, LiftMC), (26, Lift8C), (24, same8C), (27, DropMC), (28, Drop8C)], T := T, nt := 70 }) cr_none hmix hT (sound_cons (Shown_ok hU) (sound_cons Small_ok (sound_cons LiftM_ok (sound_cons Lift8_ok (sound_cons same8_ok (sound_cons DropM_ok (sound_cons Drop8_ok sound_nil))))))) Try.func7 (by rfl) (by rfl) (by rfl) 4 ?_
  rintro ⟨⟨kd, S0⟩, a, b⟩ hS
  dsimp only at hS
  refine ⟨⟨Nat.le_of_ble_eq_true rfl, Nat.le_of_ble_eq_true rfl⟩, ?_⟩
  refine Call.by _ _ ShownC_at ?_
  refine Call.by _ _ (SmallC_at kd S0) ?_
  obtain ⟨S, hSe⟩ : ∃ S, S = cutSets S0 := ⟨_, rfl⟩
  rw [← hSe]
  have hSl : S.length ≤ 6 := by rw [hSe]; simp [cutSets]; omega
  have hSr : ∀ l ∈ S, l.length ≤ 20 ∧ ∀ x ∈ l, i64 x := by
    intro l hl
    rw [hSe] at hl
    obtain ⟨m, hm, rfl⟩ := List.mem_map.1 hl
    exact ⟨by simp; omega, fun x hx => hS m (List.mem_of_mem_take hm) x (List.mem_of_mem_take hx)⟩
  refine LoopP.intro (α := List (List Int) × Nat) (fun p => p.2 ≤ S.length ∧ ClI S p.2 0 p.1) (fun p => S.length - p.2) (fun p => [(1, .s (.i .i64 a)), (2, .s (.i .i64 b)), (7, .s (.b true)), (8, .ptr 0 0), (9, .s (.i .i64 p.2))])
    (fun p => [(0, some (.blk [.s (.i .i64 kd), .sl 1 none none])), (1, some (.nest true 1 (rowsI p.1) [] []))]) 2 (S, 0) ⟨by simp, ClI.zero S⟩ (by refine Weak.by [(0, some _), (1, some _)] (by ((repeat' first | exact rfl | exact trivial | refine And.intro ?_ ?_) <;> (repeat' first | exact rfl | exact trivial | refine And.intro ?_ ?_))) (by ((repeat' first | exact rfl | exact trivial | refine And.intro ?_ ?_) <;> (repeat' first | exact rfl | exact trivial | refine And.intro ?_ ?_))) (by rfl)) ?_
  rintro ⟨R, i⟩ ⟨hi, hR⟩
  dsimp only at hi hR
  refine Pick.by (fun hc => ?_) (fun hc => ?_)
  · have hlt : i < S.length := by rw [rowsI_length] at hc; have : R.length = S.length := hR.1; simp at hc; omega
    have hSi : S[i]? = some S[i] := List.getElem?_eq_getElem hlt
    obtain ⟨hr1, hr2⟩ := hSr _ (List.getElem_mem hlt)
    refine LoopP.intro (α := List (List Int) × Nat) (fun p => p.2 ≤ S[i].length ∧ ClI S i p.2 p.1) (fun p => S[i].length - p.2) (fun p => [(1, .s (.i .i64 a)), (2, .s (.i .i64 b)), (7, .s (.b true)), (8, .ptr 0 0), (9, .s (.i .i64 i)), (10, .s (.i .i64 p.2))])
      (fun p => [(0, some (.blk [.s (.i .i64 kd), .sl 1 none none])), (1, some (.nest true 1 (rowsI p.1) [] []))]) 2 (R, 0) ⟨by simp, hR⟩ (by refine Weak.by [(0, some _), (1, some _)] (by ((repeat' first | exact rfl | exact trivial | refine And.intro ?_ ?_) <;> (repeat' first | exact rfl | exact trivial | refine And.intro ?_ ?_))) (by ((repeat' first | exact rfl | exact trivial | refine And.intro ?_ ?_) <;> (repeat' first | exact rfl | exact trivial | refine And.intro ?_ ?_))) (by rfl)) ?_
    rintro ⟨Q, j⟩ ⟨hj, hQ⟩
    dsimp only at hj hQ
    have hQl : i < (rowsI Q).length := by rw [rowsI_length, hQ.1]; exact hlt
    have hQi := rowsI_get (hQ.at hSi)
    refine Idx.by i rfl hQl ?_
    refine Pick.T (by simpa using hQl) ?_
    refine Look.by _ hQi ?_
    refine Pick.by (fun hd => ?_) (fun hd => ?_)
    · have hjl : j < S[i].length := by rw [ints_length, clP_length] at hd; simpa using hd
      have hx := hr2 _ (List.getElem_mem hjl)
      refine Idx.by i rfl hQl ?_
      refine Pick.T (by simpa using hQl) ?_
      refine Idx.by i rfl hQl ?_
      refine Pick.T (by simpa using hQl) ?_
      refine Look.by _ hQi ?_
      refine Idx.by j rfl (by rw [ints_length, clP_length]; exact hjl) ?_
      refine Look.by _ hQi ?_
      refine Look.by _ (ints_get (clP_get hjl)) ?_
      refine Look.by _ hQi ?_
      refine Idx.by j rfl (by rw [ints_length, clP_length]; exact hjl) ?_
      refine Look.by _ hQi ?_
      refine Look.by _ (ints_get (clP_get hjl)) ?_
      refine Seg.by (by kernel_rfl) ?_
      refine Pick.T (inI64_of (by omega) (by omega)) ?_
      refine Next.by (Q.set i (clP (j + 1) S[i]), j + 1) ⟨by omega, hQ.step hSi⟩ (by show S[i].length - (j + 1) < S[i].length - j; omega) (by refine Weak.by [(0, some _), (1, some _)] (by ((repeat' first | exact rfl | exact trivial | refine And.intro ?_ ?_) <;> (repeat' first | exact rfl | exact trivial | refine And.intro ?_ ?_)); all_goals (rw [clP_step hjl]; unfold rowsI; rw [List.map_set, ints_set]; rfl)) (by ((repeat' first | exact rfl | exact trivial | refine And.intro ?_ ?_) <;> (repeat' first | exact rfl | exact trivial | refine And.intro ?_ ?_)); all_goals (rw [clP_step hjl]; unfold rowsI; rw [List.map_set, ints_set]; rfl)) (by rfl))
    · have hge : S[i].length ≤ j := by rw [ints_length, clP_length] at hd; simpa using hd
      refine Pick.T (inI64_of (by omega) (by omega)) ?_
      refine Next.by (Q, i + 1) ⟨by omega, hQ.next hSi hge⟩ (by show S.length - (i + 1) < S.length - i; omega) (by refine Weak.by [(0, some _), (1, some _)] (by ((repeat' first | exact rfl | exact trivial | refine And.intro ?_ ?_) <;> (repeat' first | exact rfl | exact trivial | refine And.intro ?_ ?_))) (by ((repeat' first | exact rfl | exact trivial | refine And.intro ?_ ?_) <;> (repeat' first | exact rfl | exact trivial | refine And.intro ?_ ?_))) (by rfl))
  have hge : S.length ≤ i := by rw [rowsI_length] at hc; have : R.length = S.length := hR.1; simp at hc; omega
  have hRe := hR.done hge
  have hRl : R.length ≤ 6 := by rw [hR.1]; exact hSl
  have hRr : ∀ l ∈ R, l.length ≤ 20 ∧ ∀ x ∈ l, -9223372036854775808 ≤ x ∧ x ≤ 4611686018427387904 := by
    intro l hl
    rw [hRe] at hl
    obtain ⟨m, hm, rfl⟩ := List.mem_map.1 hl
    refine ⟨by rw [List.length_map]; exact (hSr m hm).1, fun x hx => ?_⟩
    obtain ⟨y, hy, rfl⟩ := List.mem_map.1 hx
    have := (hSr m hm).2 y hy
    unfold i64 at this
    unfold clI mnI
    split <;> omega
  have hmR : milds R := ⟨by omega, fun x hx => ⟨by have := (hRr x hx).1; omega, (hRr x hx).2⟩⟩
  have hsm1 : small (R.map (lift8 (mnI a b) (mxI a b))) := by
    refine ⟨by rw [List.length_map]; omega, fun x hx => ?_⟩
    obtain ⟨y, hy, rfl⟩ := List.mem_map.1 hx
    have := (hRr y hy).1
    unfold lift8 drop8
    split
    · simp; omega
    · split <;> simp <;> omega
  have hsm2 : small (R.map (drop8 a)) := by
    refine ⟨by rw [List.length_map]; omega, fun x hx => ?_⟩
    obtain ⟨y, hy, rfl⟩ := List.mem_map.1 hx
    have := (hRr y hy).1
    unfold drop8
    simp; omega
  have hL : R.map (liftRow (mnI a b) (mxI a b)) = R.map (lift8 (mnI a b) (mxI a b)) := List.map_congr_left fun l _ => lift_same a b l
  have hD : R.map (dropRow a) = R.map (drop8 a) := List.map_congr_left fun l _ => drop_same a l
  have c1 := LiftMC_at (k := kd) a b hmR
  rw [hL] at c1
  have c2 := DropMC_at (k := kd) a hmR
  rw [hD] at c2
  refine Call.by _ _ c1 ?_
  refine Call.by _ _ (Lift8C_at a b hmR) ?_
  refine Call.by _ _ (same8C_at hsm1 hsm1) ?_
  rw [decide_eq_true rfl]
  refine Call.by _ _ c2 ?_
  refine Call.by _ _ (Drop8C_at a hmR) ?_
  refine Call.by _ _ (same8C_at hsm2 hsm2) ?_
  rw [decide_eq_true rfl]
  refine Seg.by (by kernel_rfl) ?_
  exact ⟨rfl, rfl⟩
end Go.Sh

namespace Go.Proofs
open Go.RowKit Go.Shelf

attribute [local go_sem] Oper.semAt_some

def Try.upto {α : Type} (f : Nat → α) (k : Nat) : List α := (List.range k).map f
theorem Try.upto_succ {α : Type} (f : Nat → α) (k : Nat) : Try.upto f (k + 1) = Try.upto f k ++ [f k] := by simp [Try.upto, List.range_succ]
theorem Try.upto_length {α : Type} (f : Nat → α) (k : Nat) : (Try.upto f k).length = k := by simp [Try.upto]
theorem Try.upto_all (zs : List Int) : Try.upto (fun j => zs[j]?.getD 0) zs.length = zs := by
  apply List.ext_getElem
  · simp [Try.upto]
  · intro i h1 h2
    simp [Try.upto, h2]
theorem Try.upto_take (zs : List Int) {k : Nat} (hk : k ≤ zs.length) : Try.upto (fun j => zs[j]?.getD 0) k = zs.take k := by
  apply List.ext_getElem
  · simp [Try.upto, hk]
  · intro i h1 h2
    have : i < zs.length := by simp [Try.upto] at h1; omega
    simp [Try.upto, this]

set_option maxRecDepth 100000 in
set_option maxHeartbeats 2000000 in
theorem Try.values1_in (F : Fence) (n : Nat) (h7 : F.fn 103) (hro : F.round = none) (hn : 1 ≤ n) (l Bs n₀ len cap : Nat) (a : Addr) (zs : List Int) (hreach : len * 8 ≤ 140737488351232) (hb : a.block < n₀) (J Jx : List Int → World → Prop)
    (hY : ∀ pre x W, J pre W → pre.length < len → YieldAt F (n - 1) Try.prog l #[.int .i64 x] W fun e W' =>
      (e = .returned (.bool true) ∧ J (pre ++ [x]) W' ∧ Below n₀ W W') ∨ (e = .returned (.bool false) ∧ Jx (pre ++ [x]) W'))
    (W : World) (hBs : W.cell? ⟨Bs, 0, none⟩ = some (.slice (some a) len cap)) (hc : ∀ j, j < len → W.cell? (a.add j) = some (.int .i64 (zs[j]?.getD 0))) (h0 : J [] W) :
    CallsIn F n Try.prog 103 #[.func (.yield l) #[] #[], .pointer (some ⟨Bs, 0, none⟩)] W fun e W' => (∃ v, e = .returned v) ∧
      ((∃ ys, ys = Try.upto (fun j => zs[j]?.getD 0) len ∧ J ys W') ∨ (∃ pre, (∃ k, k ≤ len ∧ pre = Try.upto (fun j => zs[j]?.getD 0) k) ∧ Jx pre W')) := by
  refine callsIn_of_wp Try.func103 rfl h7 ?_ hro
  simp only [Try.ntmps103, List.size_toArray, List.length_cons, List.length_nil, Nat.reduceAdd, Nat.reduceSub, Array.replicate_succ, Array.replicate_zero, List.push_toArray, List.append_toArray, List.nil_append, List.cons_append]
  gi_wp2
  gi_loopw [7] (fun i wr => ∃ k : Nat, k ≤ len ∧ i = .int .i64 k ∧ J (Try.upto (fun j => zs[j]?.getD 0) k) wr ∧ Below n₀ W wr)
    (fun i _ => len - (intOf i).toNat)
  case atStart => exact ⟨0, Nat.zero_le _, rfl, h0, Below.refl _ _⟩
  case round =>
    obtain ⟨k, hk, rfl, hJs, hnx⟩ := hrel
    have hcx : k < len → wr.cell? (a.add k) = some (.int .i64 (zs[k]?.getD 0)) := fun h => (hnx.cell (p := a.add k) (by unfold Addr.add; split <;> exact hb)).trans (hc k h)
    by_cases hlt : k < len
    · obtain ⟨fn, tmps, assign, body, hy, hR⟩ := hY _ (zs[k]?.getD 0) wr hJs (by rw [Try.upto_length]; exact hlt)
      have hcx' := hcx hlt
      gi_wp2
      refine hR.mono ?_
      rintro e W3 (⟨rfl, hJ3, hk3⟩ | ⟨rfl, hJx3⟩)
      · gi_wp2
        go_roundw
        case rel => exact ⟨k + 1, by omega, by simp, by rw [Try.upto_succ]; exact hJ3, hnx.trans hk3⟩
        case measure => simp [intOf]; omega
      · gi_wp2
        refine bodyPost_ret (results_none rfl _ _ _) rfl ?_
        exact ⟨⟨_, rfl⟩, .inr ⟨_, ⟨k + 1, by omega, (Try.upto_succ _ _).symm⟩, hJx3⟩⟩
    · obtain rfl : k = len := by omega
      gi_wp2
      go_end0
      exact ⟨⟨_, rfl⟩, .inl ⟨_, rfl, hJs⟩⟩
set_option maxRecDepth 100000 in
set_option maxHeartbeats 1000000 in
theorem Try.values1_nil_in (F : Fence) (n : Nat) (h7 : F.fn 103) (hro : F.round = none) (l Bs : Nat) (a : Option Addr) (cap : Nat) (J : List Int → World → Prop) (W : World) (hBs : W.cell? ⟨Bs, 0, none⟩ = some (.slice a 0 cap)) (h0 : J [] W) :
    CallsIn F n Try.prog 103 #[.func (.yield l) #[] #[], .pointer (some ⟨Bs, 0, none⟩)] W fun e W' => (∃ v, e = .returned v) ∧ J [] W' := by
  refine callsIn_of_wp Try.func103 rfl h7 ?_ hro
  simp only [Try.ntmps103, List.size_toArray, List.length_cons, List.length_nil, Nat.reduceAdd, Nat.reduceSub, Array.replicate_succ, Array.replicate_zero, List.push_toArray, List.append_toArray, List.nil_append, List.cons_append]
  gi_wp2
  gi_loopw [7] (fun i wr => i = .int .i64 0 ∧ J [] wr) (fun _ _ => 0)
  case atStart => exact ⟨rfl, h0⟩
  case round =>
    obtain ⟨rfl, hJs⟩ := hrel
    gi_wp2
    go_end0
    exact ⟨⟨_, rfl⟩, hJs⟩

set_option maxHeartbeats 1000000 in
theorem Try.values_in (F : Fence) (n : Nat) (h5 : F.fn 93) (hro : F.round = none) (a : Option Addr) (len cap : Nat) (w : World) :
    CallsIn F n Try.prog 93 #[.slice a len cap] w fun e w' => e = .returned (.func (.func 103) #[] #[.pointer (some ⟨w.heap.size, 0, none⟩)]) ∧ w' = w.alloc (.cells #[.slice a len cap] 38) := by
  refine callsIn_of_wp Try.func93 rfl h5 ?_ hro
  simp only [Try.ntmps93, List.size_toArray, List.length_cons, List.length_nil, Nat.reduceAdd, Nat.reduceSub, Array.replicate_succ, Array.replicate_zero, List.push_toArray, List.append_toArray, List.nil_append, List.cons_append]
  gi_wp2
  go_ret
  exact ⟨rfl, rfl⟩
def Try.Ints (n₀ : Nat) (W : World) (sv : Value) (zs : List Int) : Prop :=
  (zs = [] ∧ ∃ a cap, sv = .slice a 0 cap) ∨ ∃ a cap, sv = .slice (some a) zs.length cap ∧ a.block < n₀ ∧ ∀ j, j < zs.length → W.cell? (a.add j) = some (.int .i64 (zs[j]?.getD 0))
theorem Try.add_block (a : Addr) (j : Nat) : (a.add j).block = a.block := by unfold Addr.add; split <;> rfl
theorem Try.Ints.below {n₀ : Nat} {A B : World} (h : Below n₀ A B) {sv : Value} {zs : List Int} : Try.Ints n₀ A sv zs → Try.Ints n₀ B sv zs
  | .inl e => .inl e
  | .inr ⟨a, cap, e, hb, hc⟩ => .inr ⟨a, cap, e, hb, fun j hj => (h.cell (p := a.add j) (by rw [Try.add_block]; exact hb)).trans (hc j hj)⟩
theorem Try.values_stops (F : Fence) (n : Nat) (h7 : F.fn 103) (hro : F.round = none) (hn : 1 ≤ n) (Bs n₀ : Nat) (sv : Value) (zs : List Int) (hreach : zs.length * 8 ≤ 140737488351232) (w : World) (hBs : Bs < w.heap.size) (hn₀ : n₀ ≤ w.heap.size)
    (hc : w.cell? ⟨Bs, 0, none⟩ = some sv) (hI : Try.Ints n₀ w sv zs) :
    SeqStopsK F n Try.prog 103 #[.pointer (some ⟨Bs, 0, none⟩)] (fun x : Int => #[Value.int .i64 x]) (Below n₀) (fun ys => ys = zs) (fun pre => pre <+: zs) zs.length w := fun l J Jx W hW _ _ hY h0 => by
  have hc' := (hW.cell (p := ⟨Bs, 0, none⟩) hBs).trans hc
  rcases hI.below (hW.mono hn₀) with ⟨rfl, a, cap, rfl⟩ | ⟨a, cap, rfl, hb, hcs⟩
  · exact (Try.values1_nil_in F n h7 hro l Bs a cap J W hc' h0).mono fun e W' ⟨he, hj⟩ => ⟨he, .inl ⟨_, rfl, hj⟩⟩
  · refine (Try.values1_in F n h7 hro hn l Bs n₀ zs.length cap a zs hreach hb J Jx hY W hc' hcs h0).mono ?_
    rintro e W' ⟨he, ⟨ys, rfl, hj⟩ | ⟨pre, ⟨k, hk, rfl⟩, hj⟩⟩
    · exact ⟨he, .inl ⟨_, Try.upto_all zs, hj⟩⟩
    · exact ⟨he, .inr ⟨_, by rw [Try.upto_take zs hk]; exact List.take_prefix _ _, hj⟩⟩
end Go.Proofs

namespace Go.Proofs
open Go.RowKit Go.Shelf

attribute [local go_sem] Oper.semAt_some
theorem Try.info3 : (Try.prog.info? 3).map (fun i => (i.zero, i.size, i.bytes)) = some (some (.int .i64 0), 1, 8) := by kernel_rfl
set_option maxRecDepth 100000 in
set_option maxHeartbeats 2000000 in
theorem Try.appendSeq_in (F : Fence) (n : Nat) (h116 : F.fn 116) (h103 : F.fn 103) (hro : F.round = none) (hn : 3 ≤ n) (Bs n₀ : Nat) (sv : Value) (zs : List Int) (hlen : zs.length ≤ maxLen) (hreach : zs.length * 8 ≤ 140737488351232) (w : World) (hBs : Bs < w.heap.size) (hn₀ : n₀ ≤ w.heap.size)
    (hc : w.cell? ⟨Bs, 0, none⟩ = some sv) (hI : Try.Ints n₀ w sv zs) :
    CallsIn F n Try.prog 116 #[.slice none 0 0, .func (.func 103) #[] #[.pointer (some ⟨Bs, 0, none⟩)]] w fun e W' => ∃ v, e = .returned v ∧ W'.ownsRow w.heap.size 3 1 v zs.length (zs.map (Value.int .i64)) ∧ (v = .slice none 0 0 ↔ zs = []) ∧ Below w.heap.size w W' := by
  have h1 : 1 ≤ n := by omega
  obtain ⟨i0, hi, hz0, hz1, hz2⟩ := info_parts Try.info3
  refine callsIn_of_wp_marks Try.func116 rfl h116 ?_ hro
  simp only [Try.ntmps116, List.size_toArray, List.length_cons, List.length_nil, Nat.reduceAdd, Nat.reduceSub, Array.replicate_succ, Array.replicate_zero, List.push_toArray, List.append_toArray, List.nil_append, List.cons_append]
  gi_wp2
  have bO := Boxed.new w 38 (.slice none 0 0)
  have hB0 : Below w.heap.size w (w.alloc (.cells #[.slice none 0 0] 38)) := ((Below.refl _ w).alloc (Nat.le_refl _) _)
  refine wpIn_rangeFunc_ownG hro h1 (gf := 103) (lb := #[.pointer (some ⟨Bs, 0, none⟩)]) rfl h103 (enters_of Try.func103 (by kernel_rfl) rfl)
    (Try.values_stops F (n - 1) h103 hro (by omega) Bs w.heap.size _ zs hreach _ (by simp; omega) (by simp) ((hB0.cell (p := ⟨Bs, 0, none⟩) hBs).trans hc) (by
      rcases hI.below (hB0.mono hn₀) with h | ⟨a, cap, e, hb, hcs⟩
      · exact .inl h
      · exact .inr ⟨a, cap, e, by omega, hcs⟩)) belowK_t (belowK_b (by simp)) (Below.refl _ _) (fun _ => rfl)
    (fun pre W => (∃ v, Boxed W w.heap.size 38 v ∧ W.ownsRow w.heap.size 3 1 v pre.length (pre.map (Value.int .i64)) ∧ (v = .slice none 0 0 ↔ pre = [])) ∧ Below w.heap.size w W)
    (fun _ _ _ => False)
    (OwnFrom.and (Own.from (holdsRow_own w.heap.size w.heap.size 38 3 1 (fun pre : List Int => pre.length) (fun pre => pre.map (Value.int .i64)) (fun pre v => v = .slice none 0 0 ↔ pre = [])) _) (ownFrom_below (Nat.le_refl _) (by simp)))
    (fun _ _ _ _ _ hs _ _ => hs)
    ⟨⟨_, bO, World.ownsRow_nil _ _ _ _, by simp⟩, hB0⟩
    (fun x => { tmps := #[.slice none 0 0, .func (.func 103) #[] #[.pointer (some ⟨Bs, 0, none⟩)], .pointer (some ⟨w.heap.size, 0, none⟩), undef, .slice none 0 0, .int .i64 x, .func (.func 103) #[] #[.pointer (some ⟨Bs, 0, none⟩)], .int .i64 x, undef, undef, undef, undef, undef], defers := [] }) ?assign ?body ?done ?stop
  case assign =>
    intro l x W K hK
    gi_wp2
    exact hK
  case body =>
    rintro l pre x W ⟨⟨v, hv, hrow, hnil⟩, hB⟩ hlt
    have hc := hv.cell
    gi_wp2_with (gi_at_builtin; refine wpListIn_append_own _ rfl _ _ 38 rfl w.heap.size 3 i0 (.int .i64 0) 1 8 Try.underlying38 hi hz0 hz1 hz2 rfl (by decide) _ _ _ rfl (hrow.alloc _) ⟨W.heap.size, 0, none⟩ 1 1 [.int .i64 x] rfl rfl (cell_one_new _ _ _) (by simp [Value.oneCell']) (by omega) (by omega) (by have := hB.size; simp; omega) ?_; intro v' w1 hown' hgrow _; obtain ⟨g', cap', rfl⟩ := ownsRow_succ hown'; obtain ⟨hv1, hv2, hr2, hk2, hb2⟩ := hv.appended (by decide) hrow hB.size (Nat.le_refl _) hown' hgrow; have hc1 := hv1.cell; have hf1 := hv1.frozen)
    exact ⟨hk2.from _, hb2, ⟨_, hv2, by simpa using hr2, by simp⟩, hB.trans hb2⟩
  case done =>
    rintro D ys W hD rfl ⟨⟨v, hv, hrow, hnil⟩, hB⟩ hK
    have hc := hv.cell
    gi_wp2
    refine ⟨by simp, .inl ⟨_, _, rfl, run_takeDeferred hK, ?_⟩⟩
    exact ⟨_, results_tmp rfl _ _ _, v, rfl, ownsRow_putObj hrow _ hK rfl, hnil, hB.trans (belowK_b (w := w) (Nat.le_refl _) W D _ _ (by simp at hD; omega) hK rfl rfl)⟩
  case stop =>
    rintro D c pre W _ _ h _
    exact h.elim
end Go.Proofs

namespace Go.Proofs
open Go.RowKit Go.Shelf Go.Maps Go.Sort

attribute [local go_sem] Oper.semAt_some
set_option maxRecDepth 100000 in
set_option maxHeartbeats 2000000 in
theorem Try.collect_in (F : Fence) (n : Nat) (h102 : F.fn 102) (h116 : F.fn 116) (h103 : F.fn 103) (hro : F.round = none) (hn : 4 ≤ n) (Bs n₀ : Nat) (sv : Value) (zs : List Int) (hlen : zs.length ≤ maxLen) (hreach : zs.length * 8 ≤ 140737488351232) (w : World) (hBs : Bs < w.heap.size) (hn₀ : n₀ ≤ w.heap.size)
    (hc : w.cell? ⟨Bs, 0, none⟩ = some sv) (hI : Try.Ints n₀ w sv zs) :
    CallsIn F n Try.prog 102 #[.func (.func 103) #[] #[.pointer (some ⟨Bs, 0, none⟩)]] w fun e W' => ∃ v, e = .returned v ∧ W'.ownsRow w.heap.size 3 1 v zs.length (zs.map (Value.int .i64)) ∧ (v = .slice none 0 0 ↔ zs = []) ∧ Below w.heap.size w W' := by
  have h1 : 1 ≤ n := by omega
  refine callsIn_of_wp Try.func102 rfl h102 ?_ hro
  simp only [Try.ntmps102, List.size_toArray, List.length_cons, List.length_nil, Nat.reduceAdd, Nat.reduceSub, Array.replicate_succ, Array.replicate_zero, List.push_toArray, List.append_toArray, List.nil_append, List.cons_append]
  gi_wp2_with (gi_at_call 116; refine (Try.appendSeq_in F (n - 1) h116 h103 hro (by omega) Bs n₀ sv zs hlen hreach w hBs hn₀ hc hI).mono ?_; rintro e w' ⟨v, rfl, hrow, hnil, hB⟩)
  go_ret
  exact ⟨v, rfl, hrow, hnil, hB⟩
def Try.SortsIn (F : Fence) (m : Nat) : Prop :=
  (∀ (blk off cap : Nat) (ss : List Int) (W : World), Holds (Value.int .i64) W blk off ss.toArray → blk < W.heap.size → ss.length < 4611686018427387904 →
    CallsIn F m Try.prog 84 #[.slice (some ⟨blk, off, none⟩) ss.length cap] W fun e w' => e = .returned (.tuple #[]) ∧ ∃ k os, w' = grow (putRow (Value.int .i64) (Sort.ahead W k) blk off (ss.mergeSort fun x y => decide (x ≤ y)).toArray) os) ∧
  (∀ (p : Option Addr) (cap : Nat) (W : World), CallsIn F m Try.prog 84 #[.slice p 0 cap] W fun e w' => e = .returned (.tuple #[]) ∧ w' = W)
theorem Try.sortsIn (m : Nat) : Try.SortsIn Fence.wide m :=
  ⟨fun blk off cap ss W h1 h2 h3 => callsIn_wide.2 (Any.slices_Sort_int Try.laysSort blk off cap ss W h1 h2 h3), fun p cap W => callsIn_wide.2 (Any.slices_Sort_int_none Try.laysSort p cap W)⟩
set_option maxRecDepth 100000 in
set_option maxHeartbeats 2000000 in
theorem Try.sorted_in (F : Fence) (n : Nat) (h92 : F.fn 92) (h84 : F.fn 84) (h102 : F.fn 102) (h116 : F.fn 116) (h103 : F.fn 103) (hro : F.round = none) (hn : 5 ≤ n) (hsort : Try.SortsIn F (n - 1)) (Bs n₀ : Nat) (sv : Value) (zs : List Int) (hlen : zs.length ≤ maxLen) (hreach : zs.length * 8 ≤ 140737488351232) (w : World) (hBs : Bs < w.heap.size) (hn₀ : n₀ ≤ w.heap.size)
    (hc : w.cell? ⟨Bs, 0, none⟩ = some sv) (hI : Try.Ints n₀ w sv zs) :
    CallsIn F n Try.prog 92 #[.func (.func 103) #[] #[.pointer (some ⟨Bs, 0, none⟩)]] w fun e W' => ∃ v, e = .returned v ∧ W'.ownsRow w.heap.size 3 1 v zs.length ((zs.mergeSort (fun x y => decide (x ≤ y))).map (Value.int .i64)) ∧ (v = .slice none 0 0 ↔ zs = []) ∧ Below w.heap.size w W' := by
  have h1 : 1 ≤ n := by omega
  refine callsIn_of_wp Try.func92 rfl h92 ?_ hro
  simp only [Try.ntmps92, List.size_toArray, List.length_cons, List.length_nil, Nat.reduceAdd, Nat.reduceSub, Array.replicate_succ, Array.replicate_zero, List.push_toArray, List.append_toArray, List.nil_append, List.cons_append]
  gi_wp2_with (gi_at_call 102; refine (Try.collect_in F (n - 1) h102 h116 h103 hro (by omega) Bs n₀ sv zs hlen hreach w hBs hn₀ hc hI).mono ?_; rintro e W ⟨v, rfl, hrow, hnil, hb⟩)
  rcases hrow.2 with ⟨rfl, hz⟩ | ⟨gb, cap, cur, rfl, hbase, hgb, r1, r2, r3, r4⟩
  · have hss : zs = [] := List.eq_nil_of_length_eq_zero hz
    subst hss
    gi_wp2_with (gi_at_call 84; refine (hsort.2 none 0 W).mono ?_; rintro e w' ⟨rfl, rfl⟩)
    go_ret
    exact ⟨.slice none 0 0, rfl, by simpa using hrow, by simp, hb⟩
  · have hH : Holds (Value.int .i64) W gb 0 zs.toArray := holds_of_block_i hgb (by simpa using r4)
    have hgl : gb < W.heap.size := (Array.getElem?_eq_some_iff.1 hgb).1
    have hsz : zs.length < 4611686018427387904 := by omega
    have cS := hsort.1 gb 0 cap zs W hH hgl hsz
    gi_wp2_with (gi_at_call 84; refine cS.mono ?_; rintro e w' ⟨rfl, nn, os, rfl⟩)
    go_ret
    exact ⟨_, rfl, ownsRow_sorted_i (by simp) hbase hgb r1 r2 r3, hnil, hb.grown (grownBy_sorted_i _) hb.size (fun j hj => by cases hj; exact hbase)⟩
end Go.Proofs

namespace Go.Proofs
open Go.RowKit Go.Shelf Go.Maps Go.Sort

theorem Try.keeps_iff (s : List Int) (j : Nat) (hj : j < s.length) : Lib.keeps s.toArray j = true ↔ (j = 0 ∨ s[j] ≠ s[j - 1]'(by omega)) := by
  have h1 : s.toArray[j]! = s[j] := by rw [getElem!_pos _ j (by simpa using hj)]; simp
  have h2 : s.toArray[j - 1]! = s[j - 1]'(by omega) := by rw [getElem!_pos _ (j - 1) (by simp; omega)]; simp
  unfold Lib.keeps
  rw [h1, h2]
  simp
theorem Try.compact_nodup {s : List Int} (hs : s.Pairwise (· ≤ ·)) : (Lib.compact s).length = s.length ↔ s.Nodup := by
  unfold Lib.compact Lib.compactUpTo
  rw [List.length_map]
  have hr : s.length = (List.range s.length).length := by simp
  constructor
  · intro h
    have hall : ∀ j ∈ List.range s.length, Lib.keeps s.toArray j = true := by
      refine List.length_filter_eq_length_iff.1 ?_
      rw [h]; exact hr
    have hlt : ∀ i j (hij : i < j) (hj : j < s.length), s[i]'(by omega) < s[j] := by
      intro i j hij hj
      have hk := (Try.keeps_iff s j hj).1 (hall j (List.mem_range.2 hj))
      have hne : s[j] ≠ s[j - 1]'(by omega) := by rcases hk with h | h <;> first | omega | exact h
      have hle : s[j - 1]'(by omega) ≤ s[j] := by
        have := List.pairwise_iff_getElem.1 hs (j - 1) j (by omega) hj (by omega)
        exact this
      have h2 : s[i]'(by omega) ≤ s[j - 1]'(by omega) := by
        rcases Nat.eq_or_lt_of_le (show i ≤ j - 1 by omega) with e | h
        · subst e; exact Int.le_refl _
        · exact List.pairwise_iff_getElem.1 hs i (j - 1) (by omega) (by omega) h
      omega
    exact List.pairwise_iff_getElem.2 fun i j hi hj hij => by have := hlt i j hij hj; omega
  · intro h
    rw [List.length_filter_eq_length_iff.2 ?_]
    · simp
    · intro j hj
      have hj := List.mem_range.1 hj
      rw [Try.keeps_iff s j hj]
      by_cases h0 : j = 0
      · exact .inl h0
      · have := List.pairwise_iff_getElem.1 h (j - 1) j (by omega) hj (by omega)
        exact .inr fun e => this e.symm
def Try.sortL (zs : List Int) : List Int := zs.mergeSort (fun x y => decide (x ≤ y))
theorem Try.sortL_sorted (zs : List Int) : (Try.sortL zs).Pairwise (· ≤ ·) := by
  have := List.pairwise_mergeSort (le := fun a b : Int => decide (a ≤ b)) (fun a b c h1 h2 => by simp at *; omega) (fun a b => by simp; omega) zs
  exact this.imp (fun h => by simpa using h)
theorem Try.compact_sort (zs : List Int) : (Lib.compact (Try.sortL zs)).length = zs.length ↔ zs.Nodup := by
  have hp : (Try.sortL zs).Perm zs := List.mergeSort_perm zs _
  rw [← hp.length_eq, Try.compact_nodup (Try.sortL_sorted zs), hp.nodup_iff]
def Try.CompactsIn (F : Fence) (m : Nat) : Prop :=
  (∀ (blk off cap : Nat) (zs : List Int) (w : World), Holds (Value.int .i64) w blk off zs.toArray → zs.length ≤ 9223372036854775807 → zs.length ≤ cap →
    CallsIn F m Try.prog 94 #[.slice (some ⟨blk, off, none⟩) zs.length cap] w fun e w' => e = .returned (.slice (some ⟨blk, off, none⟩) (Lib.compact zs).length cap) ∧ ∃ q, w' = putRow (Value.int .i64) (Sort.ahead w q) blk off (Lib.compact zs ++ List.replicate (zs.length - (Lib.compact zs).length) 0).toArray) ∧
  (∀ (a : Option Addr) (cap : Nat) (w : World), CallsIn F m Try.prog 94 #[.slice a 0 cap] w fun e w' => e = .returned (.slice a 0 cap) ∧ w' = w)
theorem Try.compactsIn (m : Nat) : Try.CompactsIn Fence.wide m :=
  ⟨fun blk off cap ss W h1 h2 h3 => callsIn_wide.2 (Any.slices_Compact_int Try.laysCompact blk off cap ss W h1 h2 h3), fun p cap W => callsIn_wide.2 (Any.slices_Compact_int_empty Try.laysCompact p cap W)⟩
set_option maxRecDepth 100000 in
set_option maxHeartbeats 2000000 in
theorem Try.unlike_in (F : Fence) (n : Nat) (h77 : F.fn 77) (h93 : F.fn 93) (h94 : F.fn 94) (h92 : F.fn 92) (h84 : F.fn 84) (h102 : F.fn 102) (h116 : F.fn 116) (h103 : F.fn 103) (hro : F.round = none) (hn : 6 ≤ n) (hsort : Try.SortsIn F (n - 1 - 1)) (hcomp : Try.CompactsIn F (n - 1)) (a : Option Addr) (cap : Nat) (zs : List Int) (hlen : zs.length ≤ 1000000) (w : World)
    (hI : Try.Ints w.heap.size w (.slice a zs.length cap) zs) :
    CallsIn F n Try.prog 77 #[.slice a zs.length cap] w fun e W' => e = .returned (.bool (decide zs.Nodup)) ∧ Below w.heap.size w W' := by
  have h1 : 1 ≤ n := by omega
  have hml : zs.length ≤ maxLen := by unfold maxLen; omega
  have hB0 : Below w.heap.size w (w.alloc (.cells #[.slice a zs.length cap] 38)) := ((Below.refl _ w).alloc (Nat.le_refl _) _)
  have bO := Boxed.new w 38 (.slice a zs.length cap)
  have hcs := Try.compact_sort zs
  have hsl : (Try.sortL zs).length = zs.length := (List.mergeSort_perm zs _).length_eq
  refine callsIn_of_wp Try.func77 rfl h77 ?_ hro
  simp only [Try.ntmps77, List.size_toArray, List.length_cons, List.length_nil, Nat.reduceAdd, Nat.reduceSub, Array.replicate_succ, Array.replicate_zero, List.push_toArray, List.append_toArray, List.nil_append, List.cons_append]
  gi_wp2_with (first
    | (gi_at_call 93; refine (Try.values_in F (n - 1) h93 hro _ _ _ _).mono ?_; rintro e w' ⟨rfl, rfl⟩)
    | (gi_at_call 92; refine (Try.sorted_in F (n - 1) h92 h84 h102 h116 h103 hro (by omega) hsort w.heap.size w.heap.size _ zs hml (by omega) _ (by simp) (by simp) bO.cell (hI.below hB0)).mono ?_; rintro e W ⟨v, rfl, hrow, hnil, hb⟩))
  rcases hrow.2 with ⟨rfl, hz⟩ | ⟨gb, cap', cur, rfl, hbase, hgb, r1, r2, r3, r4⟩
  · have hss : zs = [] := List.eq_nil_of_length_eq_zero hz
    subst hss
    gi_wp2_with (gi_at_call 94; refine (hcomp.2 none 0 W).mono ?_; rintro e w' ⟨rfl, rfl⟩)
    go_ret
    exact ⟨rfl, hB0.trans (hb.mono (by simp))⟩
  · have hH : Holds (Value.int .i64) W gb 0 (Try.sortL zs).toArray := holds_of_block_i hgb (by rw [hsl]; simpa [Try.sortL] using r4)
    have hsz : (Try.sortL zs).length ≤ 9223372036854775807 := by omega
    have cS := hcomp.1 gb 0 cap' (Try.sortL zs) W hH hsz (by omega)
    rw [hsl] at cS
    gi_wp2_with (gi_at_call 94; refine cS.mono ?_; rintro e w' ⟨rfl, q, rfl⟩)
    go_ret
    have hg : W.grownBy (putRow encZ (Sort.ahead W q) gb 0 (Lib.compact (Try.sortL zs) ++ List.replicate (zs.length - (Lib.compact (Try.sortL zs)).length) 0).toArray) (some gb) := by
      have := grownBy_sorted_i (w := W) (g := gb) (n := q) (os := #[]) (Lib.compact (Try.sortL zs) ++ List.replicate (zs.length - (Lib.compact (Try.sortL zs)).length) 0).toArray
      rwa [grow_empty] at this
    have hb1 : Below w.heap.size w W := hB0.trans (hb.mono (by simp))
    refine ⟨?_, hb1.grown hg hb1.size (fun j hj => by cases hj; simp at hbase; omega)⟩
    show Ending.returned (.bool (((Lib.compact (Try.sortL zs)).length : Int) == (zs.length : Int))) = _
    congr 2
    by_cases hd : zs.Nodup
    · rw [decide_eq_true hd, hcs.2 hd]; simp
    · rw [decide_eq_false hd]
      exact beq_eq_false_iff_ne.2 fun h => hd (hcs.1 (by omega))
open Go.Sh in
theorem Try.ints_of {w : World} {l : List Int} {A : Option Addr} {c : Nat} (h : FlatOk w noLab none A c 1 (ints l)) : Try.Ints w.heap.size w (.slice A l.length c) l := by
  cases l with
  | nil => exact .inl ⟨rfl, A, c, rfl⟩
  | cons x l =>
    obtain ⟨a, rfl, _, h0⟩ := h.cell 0 [.i .i64 x] 0 (.i .i64 x) rfl rfl
    refine .inr ⟨a, c, rfl, ?_, fun j hj => ?_⟩
    · have h0 : w.cell? (a.add (0 * 1 + 0)) = some (Sc.val (.i .i64 x)) := h0
      have e : (a.add (0 * 1 + 0)).block = a.block := Try.add_block a _
      rw [← e]
      generalize a.add (0 * 1 + 0) = p at h0
      simp only [World.cell?] at h0
      by_cases hp : p.block < w.heap.size
      · exact hp
      · rw [Array.getElem?_eq_none (by omega)] at h0
        simp at h0
    · have hg := List.getElem?_eq_getElem hj
      obtain ⟨b, hb, _, hc⟩ := h.cell j [.i .i64 (x :: l)[j]] 0 (.i .i64 (x :: l)[j]) (ints_get hg) rfl
      injection hb with hb
      subst hb
      rw [Nat.mul_one, Nat.add_zero] at hc
      rw [hc, hg]; rfl
end Go.Proofs


set_option linter.unusedVariables false
namespace Go.Sh
open Go.Proofs
/-! ### walk.unlike -/
theorem Unlike_ok : SoundC Try.prog T 77 UnlikeC := by
  refine sound_pure Try.func77 (by rfl) (by rfl) (by simp [UnlikeC, conP]) ?_
  intro vs r outs hF w us hus
  obtain ⟨l, hl, rfl, rfl⟩ := conF_inv (pre := fun l : List Int => l.length ≤ 1000000) (enc := fun l => [.one (.flat false 1 (ints l))]) (val := fun l => .one (.s (.b (decide l.Nodup)))) hF
  have hl : l.length ≤ 1000000 := hl
  obtain ⟨u, hu⟩ : ∃ u, us.toList = [u] ∧ V1Ok w noLab 0 (.one (.flat false 1 (ints l))) u := by
    cases h : us.toList with
    | nil => rw [h] at hus; exact hus.elim
    | cons u r =>
      rw [h] at hus
      cases r with
      | nil => exact ⟨u, rfl, hus.1⟩
      | cons _ _ => exact hus.2.elim
  obtain ⟨he, ⟨x, hx, hF⟩⟩ := hu
  obtain rfl : us = #[u] := by cases us; simp_all
  subst hx
  rw [ints_length]
  refine ((callsIn_wide (n := 6)).1 (Try.unlike_in Fence.wide 6 trivial trivial trivial trivial trivial trivial trivial trivial rfl (by omega) (Try.sortsIn _) (Try.compactsIn _) x.A x.c l hl w (Try.ints_of hF))).mono ?_
  rintro e w' ⟨rfl, hb⟩
  exact ⟨_, noLab, rfl, ⟨hb.os, hb.tape, hb.output, hb.size, fun b h _ => hb.block b h⟩, fun b k h => by simp [noLab] at h, ⟨⟨none, 0, fun _ => none, fun _ => 0⟩, rfl⟩⟩
end Go.Sh

set_option linter.unusedVariables false
set_option linter.unusedSimpArgs false
namespace Go.Sh
open Go.Proofs
/-! ### what is handed in, as data -/
theorem VTy.struct {T : Tab} {t : Nat} {ti : TI} {fs : List (Nat × Nat)} {v : V} (ht : lk T t = some ti) (hk : ti.kind = .struct fs) (h : VTy T t v) : ∃ cs, v = .agg cs ∧ All2 (fun (f : Nat × Nat) c => CTy T f.2 c) fs cs := by
  unfold VTy at h
  rw [ht] at h
  simp only at h
  rw [hk] at h
  exact h
theorem VTy.cell {T : Tab} {t : Nat} {ti : TI} {v : V} (ht : lk T t = some ti) (hk : ∀ fs, ti.kind ≠ .struct fs) (h : VTy T t v) : ∃ c, v = .one c ∧ CTy T t c := by
  unfold VTy at h
  rw [ht] at h
  simp only at h
  exact h
theorem ScTy.int {T : Tab} {t : Nat} {ti : TI} {k : IntKind} {x : Sc} (ht : lk T t = some ti) (hk : ti.kind = .int k) (h : ScTy T t x) : ∃ n, x = .i k n ∧ (Lit.int k n).wf = true := by
  unfold ScTy at h
  rw [ht] at h
  simp only at h
  rw [hk] at h
  cases x with
  | i k' n => obtain ⟨rfl, h⟩ := h; exact ⟨n, rfl, h⟩
  | b _ => exact h.elim
theorem CTy.sc {T : Tab} {t : Nat} {c : C} (hs : sliceE T t = none) (h : CTy T t c) : ∃ x, c = .s x ∧ ScTy T t x := by
  unfold CTy at h
  rw [hs] at h
  exact h
theorem CTy.flat {T : Tab} {t e : Nat} {c : C} (hs : sliceE T t = some e) (hs2 : sliceE T e = none) (h : CTy T t c) : ∃ rows, c = .flat false (sizeT T e) rows ∧ FlatTy T e rows := by
  unfold CTy at h
  rw [hs] at h
  simp only at h
  rw [hs2] at h
  exact h
theorem CTy.nest {T : Tab} {t e e2 : Nat} {c : C} (hs : sliceE T t = some e) (hs2 : sliceE T e = some e2) (h : CTy T t c) : ∃ rows, c = .nest false (sizeT T e2) rows ∧ rows.length ≤ maxLen ∧ ∀ fl ∈ rows, FlatTy T e2 fl := by
  unfold CTy at h
  rw [hs] at h
  simp only at h
  rw [hs2] at h
  exact h
theorem i64_wf {n : Int} (h : (Lit.int .i64 n).wf = true) : i64 n := by
  simp [Lit.wf, IntKind.min, IntKind.max, IntKind.signed, IntKind.bits] at h
  exact h
theorem list_ex {α β : Type} {P : α → β → Prop} : ∀ {l : List α}, (∀ x ∈ l, ∃ y, P x y) → ∃ m : List β, All2 P l m := by
  intro l
  induction l with
  | nil => intro _; exact ⟨[], All2.nil⟩
  | cons x l ih =>
    intro h
    obtain ⟨y, hy⟩ := h x (by simp)
    obtain ⟨m, hm⟩ := ih fun x hx => h x (by simp [hx])
    exact ⟨y :: m, All2.cons' hy hm⟩
theorem All2.map_eq {α β : Type} {f : β → α} {l : List α} {m : List β} (h : All2 (fun x y => x = f y) l m) : l = m.map f := by
  apply List.ext_getElem?
  intro i
  rw [List.getElem?_map]
  by_cases hi : i < l.length
  · have him : i < m.length := by rw [← h.1]; exact hi
    rw [List.getElem?_eq_getElem hi, List.getElem?_eq_getElem him, Option.map_some, h.2 i _ _ (List.getElem?_eq_getElem hi) (List.getElem?_eq_getElem him)]
  · rw [List.getElem?_eq_none (by omega), List.getElem?_eq_none (by rw [← h.1]; omega)]; rfl
theorem All2.mem {α β : Type} {R : α → β → Prop} {l : List α} {m : List β} (h : All2 R l m) {y : β} (hy : y ∈ m) : ∃ x ∈ l, R x y := by
  obtain ⟨i, hi⟩ := List.mem_iff_getElem?.1 hy
  have hl := (List.getElem?_eq_some_iff.1 hi).1
  rw [← h.1] at hl
  exact ⟨_, List.getElem_mem hl, h.2 i _ y (List.getElem?_eq_getElem hl) hi⟩
/-! #### at this program's types -/
theorem row_int {row : Row} (h : RowTy T 3 row) : ∃ n, row = [.i .i64 n] ∧ i64 n := by
  obtain ⟨x, rfl, hx⟩ := h
  obtain ⟨n, rfl, hw⟩ := ScTy.int (t := 3) rfl rfl hx
  exact ⟨n, rfl, i64_wf hw⟩
theorem ints_of {fl : Flat} (h : FlatTy T 3 fl) : ∃ l : List Int, fl = ints l ∧ l.length ≤ maxLen ∧ ∀ x ∈ l, i64 x := by
  obtain ⟨m, hm⟩ := list_ex (P := fun row n => row = [Sc.i .i64 n] ∧ i64 n) fun row hr => row_int (h.2 row hr)
  refine ⟨m, All2.map_eq (f := fun n => [Sc.i .i64 n]) (hm.imp fun _ _ _ k => k.1), by rw [← hm.1]; exact h.1, fun x hx => ?_⟩
  obtain ⟨_, _, k⟩ := hm.mem hx
  exact k.2
theorem rows_of {rows : List Flat} (h : ∀ fl ∈ rows, FlatTy T 3 fl) : ∃ S : List (List Int), rows = rowsI S ∧ rows64 S ∧ ∀ l ∈ S, l.length ≤ maxLen := by
  obtain ⟨m, hm⟩ := list_ex (P := fun (fl : Flat) l => fl = ints l ∧ l.length ≤ maxLen ∧ ∀ x ∈ l, i64 x) fun fl hf => ints_of (h fl hf)
  refine ⟨m, All2.map_eq (hm.imp fun _ _ _ k => k.1), fun l hl => ?_, fun l hl => ?_⟩
  · obtain ⟨_, _, k⟩ := hm.mem hl; exact k.2.2
  · obtain ⟨_, _, k⟩ := hm.mem hl; exact k.2.1
theorem All2.two {α β : Type} {R : α → β → Prop} {a b : α} {m : List β} (h : All2 R [a, b] m) : ∃ x y, m = [x, y] ∧ R a x ∧ R b y := by
  obtain ⟨h1, h2⟩ := h
  match m, h1, h2 with
  | [x, y], _, h2 => exact ⟨x, y, rfl, h2 0 a x rfl rfl, h2 1 b y rfl rfl⟩
theorem All2.one {α β : Type} {R : α → β → Prop} {a : α} {m : List β} (h : All2 R [a] m) : ∃ x, m = [x] ∧ R a x := by
  obtain ⟨h1, h2⟩ := h
  match m, h1, h2 with
  | [x], _, h2 => exact ⟨x, rfl, h2 0 a x rfl rfl⟩
theorem All2.three {α β : Type} {R : α → β → Prop} {a b c : α} {m : List β} (h : All2 R [a, b, c] m) : ∃ x y z, m = [x, y, z] ∧ R a x ∧ R b y ∧ R c z := by
  obtain ⟨h1, h2⟩ := h
  match m, h1, h2 with
  | [x, y, z], _, h2 => exact ⟨x, y, z, rfl, h2 0 a x rfl rfl, h2 1 b y rfl rfl, h2 2 c z rfl rfl⟩
theorem row_edge {row : Row} (h : RowTy T 77 row) : ∃ p : Ed, row = [.i .i64 p.1, .i .i64 p.2] ∧ i64 p.1 ∧ i64 p.2 := by
  obtain ⟨_, h⟩ := h
  obtain ⟨x, y, rfl, hx, hy⟩ := All2.two h
  obtain ⟨n, rfl, hn⟩ := ScTy.int (t := 3) rfl rfl hx
  obtain ⟨m, rfl, hm⟩ := ScTy.int (t := 3) rfl rfl hy
  exact ⟨(n, m), rfl, i64_wf hn, i64_wf hm⟩
theorem edges_of {fl : Flat} (h : FlatTy T 77 fl) : ∃ E : List Ed, fl = edges E ∧ E.length ≤ maxLen ∧ ∀ p ∈ E, i64 p.1 ∧ i64 p.2 := by
  obtain ⟨m, hm⟩ := list_ex (P := fun row (p : Ed) => row = [Sc.i .i64 p.1, Sc.i .i64 p.2] ∧ i64 p.1 ∧ i64 p.2) fun row hr => row_edge (h.2 row hr)
  refine ⟨m, All2.map_eq (f := fun p : Ed => [Sc.i .i64 p.1, Sc.i .i64 p.2]) (hm.imp fun _ _ _ k => k.1), by rw [← hm.1]; exact h.1, fun x hx => ?_⟩
  obtain ⟨_, _, k⟩ := hm.mem hx
  exact k.2
theorem int_of {v : V} (h : VTy T 3 v) : ∃ n, v = .one (.s (.i .i64 n)) ∧ i64 n := by
  obtain ⟨c, rfl, hc⟩ := VTy.cell (ti := { kind := .int .i64, size := _, bytes := _, zero := _, eqs := _, cells := _ }) rfl (fun fs => by simp) h
  obtain ⟨x, rfl, hx⟩ := CTy.sc rfl hc
  obtain ⟨n, rfl, hw⟩ := ScTy.int (t := 3) rfl rfl hx
  exact ⟨n, rfl, i64_wf hw⟩
theorem model_of {v : V} (h : VTy T 27 v) : ∃ k S, v = moV false k S ∧ i64 k ∧ rows64 S := by
  obtain ⟨cs, rfl, hcs⟩ := VTy.struct (t := 27) rfl rfl h
  obtain ⟨x, y, rfl, hx, hy⟩ := All2.two hcs
  obtain ⟨z, rfl, hz⟩ := CTy.sc (t := 3) rfl hx
  obtain ⟨n, rfl, hw⟩ := ScTy.int (t := 3) rfl rfl hz
  obtain ⟨rows, rfl, _, hr⟩ := CTy.nest (t := 25) (e := 38) (e2 := 3) rfl rfl hy
  obtain ⟨S, rfl, hS, _⟩ := rows_of hr
  exact ⟨n, S, rfl, i64_wf hw, hS⟩
theorem net_of {v : V} (h : VTy T 24 v) : ∃ n E, v = grV n E ∧ i64 n ∧ ∀ p ∈ E, i64 p.1 ∧ i64 p.2 := by
  obtain ⟨cs, rfl, hcs⟩ := VTy.struct (t := 24) rfl rfl h
  obtain ⟨x, y, rfl, hx, hy⟩ := All2.two hcs
  obtain ⟨z, rfl, hz⟩ := CTy.sc (t := 3) rfl hx
  obtain ⟨n, rfl, hw⟩ := ScTy.int (t := 3) rfl rfl hz
  obtain ⟨rows, rfl, hr⟩ := CTy.flat (t := 22) (e := 77) rfl rfl hy
  obtain ⟨E, rfl, _, hE⟩ := edges_of hr
  exact ⟨n, E, rfl, i64_wf hw, hE⟩
end Go.Sh

set_option linter.unusedVariables false
namespace Go.Sh
open Go.Proofs
theorem own : ownKnob Try.prog.godebug = none := by kernel_rfl
theorem laidOut : laidOutB Try.prog = true := by kernel_rfl
set_option maxRecDepth 100000 in
/-- A law whose function answers true, whatever comes. -/
theorem law_row {s : ChangeSpec} {f : FuncId} {fn : Func} {conds : List PathCond} {apart fresh handsOn : Bool} {ts : List TypeId} {F : List V → Option (V × List V)} (hf : Try.prog.funcs[f]? = some fn) (hin : Try.prog.inits.idxOf? f = none) (hv : s.vars = [])
    (hts : fn.params.toList = ts) (ha : ts.all (argB T) = true) (hr : ts.all (fun t => Try.prog.readableRec t && Nat.blt t Try.prog.types.size) = true) (hres : fn.resultTypes = #[4])
    (hsp : ∀ (H : Type) (ds : List (DataW H)), ds.length = ts.length → (s.fn H ds).results = [.lit (.bool true)] ∧ (s.fn H ds).args = ds ∧ (s.fn H ds).vars = [])
    (hS : SoundP Try.prog f F) (hF : LawV T ts F) (os : Os) (started : os.Started) (H : Type) (enc : TypeId × Value → H) (a : Assume)
    (hw : ∃ (w : World) (tape : Tape) (i : Input), w.os = os ∧ (w.forCall tape i).Shaped Try.checked.prog ∧ i.vars = [] ∧ Input.okWide Try.checked.prog (w.forCall tape i) .any w.heap.size f i ∧
      s.pre6 enc Try.checked.prog fn conds apart (w.forCall tape i).memory i.args ∧ a.holds Try.checked.prog (lone (Frame.enter Try.checked.prog f i.args .normal) [] (w.forCall tape i))) :
    ReturnsInHanded a Try.checked os f .any (s.pre6 enc Try.checked.prog fn conds apart) (s.post enc Try.checked.prog fn apart fresh handsOn false) := by
  refine returnsInHanded_of_change (C := Try.checked) own started hin hf hw ?_
  intro W base args ds gs before hval hW _ _
  refine law_contract (P := Try.prog) (conds := conds) hT laidOut hv hts ha (fun t ht => ?_) hres Try.underlying4 (hsp H) hS hF hval hW
  have := List.all_eq_true.1 hr t ht
  simp only [Bool.and_eq_true] at this
  exact ⟨this.1, Nat.le_of_ble_eq_true this.2⟩
end Go.Sh

set_option linter.unusedVariables false
namespace Go.Sh
open Go.Proofs
/-! ### more of what is handed in, as data -/
theorem graph_of {v : V} (h : VTy T 29 v) : ∃ n E, v = grV n E ∧ i64 n ∧ E.length ≤ maxLen := by
  obtain ⟨cs, rfl, hcs⟩ := VTy.struct (t := 29) rfl rfl h
  obtain ⟨x, y, rfl, hx, hy⟩ := All2.two hcs
  obtain ⟨z, rfl, hz⟩ := CTy.sc (t := 3) rfl hx
  obtain ⟨n, rfl, hw⟩ := ScTy.int (t := 3) rfl rfl hz
  obtain ⟨rows, rfl, hr⟩ := CTy.flat (t := 22) (e := 77) rfl rfl hy
  obtain ⟨E, rfl, hl, _⟩ := edges_of hr
  exact ⟨n, E, rfl, i64_wf hw, hl⟩
theorem ScTy.bool {T : Tab} {t : Nat} {ti : TI} {x : Sc} (ht : lk T t = some ti) (hk : ti.kind = .bool) (h : ScTy T t x) : ∃ b, x = .b b := by
  unfold ScTy at h
  rw [ht] at h
  simp only at h
  rw [hk] at h
  cases x with
  | i k' n => exact h.elim
  | b b => exact ⟨b, rfl⟩
theorem All2.four {α β : Type} {R : α → β → Prop} {a b c d : α} {m : List β} (h : All2 R [a, b, c, d] m) : ∃ x y z t, m = [x, y, z, t] ∧ R a x ∧ R b y ∧ R c z ∧ R d t := by
  obtain ⟨h1, h2⟩ := h
  match m, h1, h2 with
  | [x, y, z, t], _, h2 => exact ⟨x, y, z, t, rfl, h2 0 a x rfl rfl, h2 1 b y rfl rfl, h2 2 c z rfl rfl, h2 3 d t rfl rfl⟩
theorem row_stp {row : Row} (h : RowTy T 89 row) : ∃ p : Stp, row = [.i .i64 p.1, .i .i64 p.2.1, .i .i64 p.2.2.1, .b p.2.2.2] := by
  obtain ⟨_, h⟩ := h
  obtain ⟨x, y, z, t, rfl, hx, hy, hz, ht⟩ := All2.four h
  obtain ⟨n, rfl, hn⟩ := ScTy.int (t := 3) rfl rfl hx
  obtain ⟨m, rfl, hm⟩ := ScTy.int (t := 3) rfl rfl hy
  obtain ⟨k, rfl, hk⟩ := ScTy.int (t := 3) rfl rfl hz
  obtain ⟨b, rfl⟩ := ScTy.bool (t := 4) rfl rfl ht
  exact ⟨(n, m, k, b), rfl⟩
theorem steps_of {v : V} (h : VTy T 48 v) : ∃ l : List Stp, v = .one (.flat false 4 (stps l)) ∧ l.length ≤ maxLen := by
  obtain ⟨c, rfl, hc⟩ := VTy.cell (ti := { kind := .slice 89, size := _, bytes := _, zero := _, eqs := _, cells := _ }) rfl (fun fs => by simp) h
  obtain ⟨rows, rfl, hr⟩ := CTy.flat (t := 48) (e := 89) rfl rfl hc
  obtain ⟨m, hm⟩ := list_ex (P := fun row (p : Stp) => row = [Sc.i .i64 p.1, Sc.i .i64 p.2.1, Sc.i .i64 p.2.2.1, Sc.b p.2.2.2]) fun row hq => row_stp (hr.2 row hq)
  have e := All2.map_eq (f := fun p : Stp => [Sc.i .i64 p.1, Sc.i .i64 p.2.1, Sc.i .i64 p.2.2.1, Sc.b p.2.2.2]) hm
  exact ⟨m, by rw [e]; rfl, by rw [← hm.1]; exact hr.1⟩
end Go.Sh
