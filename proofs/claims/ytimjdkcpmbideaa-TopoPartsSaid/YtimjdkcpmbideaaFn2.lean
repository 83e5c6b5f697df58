/- What the functions answer that the statement reaches. No condition. -/
import Derived.Test.YtimjdkcpmbideaaFn1
import Derived.Test.YtimjdkcpmbideaaRows
set_option linter.unusedVariables false
set_option linter.unusedSimpArgs false
namespace Go.Sh
open Go.Proofs Go.Sort Go.Shelf Go.RowKit
/-! ### slices.SortFunc on rows of numbers -/
theorem put_heap {α : Type} [Inhabited α] (enc : α → Value) (w : World) (q b off : Nat) (d : Array α) (os : Array Obj) {x : Nat} (hx : x < w.heap.size) :
    (grow (putRow enc (Sort.ahead w q) b off d) os).heap[x]? = (w.heap[x]?).map fun o => if x = b then onCells (putCells enc off d) o else o := by
  show ((w.heap.modify b (onCells (putCells enc off d))) ++ os)[x]? = _
  rw [Array.getElem?_append_left (by simpa using hx), Array.getElem?_modify]
  by_cases e : b = x
  · simp [e]
  · have : ¬ x = b := fun h => e h.symm
    simp [e, this]
noncomputable def sortL (cf : List Int → List Int → Int) (L : List (List Int)) : List (List Int) := L.mergeSort fun x y => !(ltOf cf) y x
theorem sortL_perm (cf : List Int → List Int → Int) (L : List (List Int)) : (sortL cf L).Perm L := List.mergeSort_perm L _
open Classical in
noncomputable def sortN (cf : List Int → List Int → Int) (l : List Flat) : List Flat := if h : ∃ L : List (List Int), l = rowsI L then rowsI (sortL cf h.choose) else l
theorem sortN_rows (cf : List Int → List Int → Int) (L : List (List Int)) : sortN cf (rowsI L) = rowsI (sortL cf L) := by
  have h : ∃ L' : List (List Int), rowsI L = rowsI L' := ⟨L, rfl⟩
  unfold sortN
  rw [dif_pos h, ← rowsI_inj h.choose_spec]
def sortNP (good : List Int → Prop) (cf : List Int → List Int → Int) (l : List Flat) : Prop := ∃ L : List (List Int), l = rowsI L ∧ (∀ r ∈ L, good r) ∧ L.Pairwise (fun x y => ltOf cf x y = true ∨ ltOf cf y x = true) ∧ L.length ≤ 1000000
theorem nest_sort {P : Program} {ρ : Ren} (LS : SlLaysF.n6 P ρ) {f c : Nat} (hf : ρ.f 6 = f) (hfn : ∃ fn, P.funcs[f]? = some fn ∧ fn.name ≠ "runtime.NumGoroutine" ∧ fn.body ≠ none)
    (eg : ∀ args w, (callFunc c args).run P w = .ok (.enter c args) w) (good : List Int → Prop) (cf : List Int → List Int → Int) (hO : SWO (ltOf cf))
    (hC : ∀ (x y : List Int) (A B : Option Addr) (ca cb : Nat) (W : World), good x → good y → FlatOk W noLab none A ca 1 (ints x) → FlatOk W noLab none B cb 1 (ints y) →
      Calls P c #[.slice A x.length ca, .slice B y.length cb] W fun e w' => e = .returned (.int .i64 (cf x y)) ∧ ∃ q os', w' = grow (W.drewN q) os') :
    NestFnCall P f c 1 (sortNP good cf) (sortN cf) := by
  refine ⟨hfn, ?_⟩
  rintro l ⟨L, rfl, hg, hD, hl⟩ w own n A cap rb rc h hown
  rw [sortN_rows]
  subst hf
  rcases Nat.eq_zero_or_pos L.length with h0 | h0
  · have : L = [] := List.eq_nil_of_length_eq_zero h0
    subst this
    refine (AnyF.slices_SortFunc_none { LS with } A cap _ w).mono ?_
    rintro e w' ⟨rfl, rfl⟩
    refine ⟨rfl, Frm.refl _ _, id, id, fun i hi => ⟨hi, rfl⟩, fun i hi => ⟨hi, rfl⟩, by simp [sortL], fun i fl hi => ?_, fun i fl hi => ?_, ?_⟩
    · simp [sortL, rowsI] at hi
    · simp [sortL, rowsI] at hi
    · rcases h.room rfl with ⟨h1, _⟩ | h1
      · exact .inl ⟨h1, by simp [sortL, rowsI]⟩
      · exact .inr h1
  · obtain ⟨m, hm⟩ : ∃ m, L.length = m + 1 := ⟨L.length - 1, by omega⟩
    rcases h.room rfl with ⟨_, h1⟩ | ⟨b, off, arr, T', hA, ho, hh, hsz⟩
    · have : L = [] := by simpa [rowsI] using h1
      rw [this] at h0; simp at h0
    have hbl : b < w.heap.size := hown b _ ho
    let el : Fin (m + 1) → List Int := fun i => L[i.1]'(by omega)
    let enc : Fin (m + 1) → Value := fun i => .slice (rb i.1) (el i).length (rc i.1)
    let cf' : Fin (m + 1) → Fin (m + 1) → Int := fun i j => cf (el i) (el j)
    have hfits := h.fits
    rw [rowsI_length] at hfits
    have hrow : ∀ i : Fin (m + 1), (rowsI L)[i.1]? = some (ints (el i)) := fun i => rowsI_get (List.getElem?_eq_getElem (by omega))
    have hmem : ∀ i : Fin (m + 1), el i ∈ L := fun i => List.getElem_mem _
    have hlt : ∀ i j : Fin (m + 1), ltOf cf' i j = ltOf cf (el i) (el j) := fun i j => rfl
    have hO' : SWO (ltOf cf') := ⟨fun x => hO.irrefl _, fun x y z => hO.trans _ _ _, fun x y z => hO.ntrans _ _ _⟩
    have hT : ∀ x y, (ltOf cf') x y = false → (ltOf cf') y x = false → x = y := fun x y h1 h2 => by
      rw [List.pairwise_iff_getElem] at hD
      rcases Nat.lt_trichotomy x.1 y.1 with hxy | hxy | hxy
      · have := hD x.1 y.1 (by omega) (by omega) hxy
        rw [hlt] at h1 h2
        rcases this with k | k
        · rw [show ltOf cf L[x.1] L[y.1] = false from h1] at k; simp at k
        · rw [show ltOf cf L[y.1] L[x.1] = false from h2] at k; simp at k
      · exact Fin.ext hxy
      · have := hD y.1 x.1 (by omega) (by omega) hxy
        rw [hlt] at h1 h2
        rcases this with k | k
        · rw [show ltOf cf L[y.1] L[x.1] = false from h2] at k; simp at k
        · rw [show ltOf cf L[x.1] L[y.1] = false from h1] at k; simp at k
    have hd : ((List.finRange (m + 1)).toArray).size = m + 1 := by simp
    have hcell : ∀ i : Fin (m + 1), w.cell? ⟨b, off + i.1, none⟩ = some (enc i) := fun i => by
      obtain ⟨a, v, q1, q2, q3, q4⟩ := h.head i.1 _ (hrow i)
      rw [hA] at q1; injection q1 with q1; subst q1
      rw [Addr.add_plain] at q3
      rw [q3, q4 (by simp), ints_length]
    have hH : Holds enc w b off (List.finRange (m + 1)).toArray := fun j hj => by
      rw [hd] at hj
      refine ⟨?_, by simp [World.frozen?, hh]⟩
      rw [getElem!_pos _ j (by rw [hd]; exact hj)]
      have hj' : (List.finRange (m + 1)).toArray[j]'(by rw [hd]; exact hj) = ⟨j, hj⟩ := by simp
      rw [hj', hcell ⟨j, hj⟩]
    have hfl : ∀ (q : Nat) (os : Array Obj) (d' : Array (Fin (m + 1))) (i : Fin (m + 1)), FlatOk (sortWorld enc w b off q d' os) noLab none (rb i.1) (rc i.1) 1 (ints (el i)) := fun q os d' i => by
      have hr := h.row i.1 _ (hrow i) (by simp)
      refine ⟨hr.fits, hr.pos, hr.even, fun i' row j x hi hj => ?_, fun hs => by simp at hs⟩
      obtain ⟨a, k1, k2, k3⟩ := hr.cell i' row j x hi hj
      refine ⟨a, k1, rfl, ?_⟩
      have hab : a.block < w.heap.size := hown _ _ k2
      have hne : a.block ≠ b := fun e => by rw [e, ho] at k2; injection k2 with k2; injection k2 with _ k2; simp at k2
      rw [cell_of_block (w := w)]
      · exact k3
      · rw [Addr.add_block]
        show (grow (putRow enc (Sort.ahead w q) b off d') os).heap[a.block]? = _
        rw [put_heap enc w q b off d' os hab]
        simp [hne]
    have hcmp : CmpLays1 P c #[] enc cf' b off (List.finRange (m + 1)).toArray.size w := fun q os dk hs x y =>
      hC (el x) (el y) _ _ _ _ _ (hg _ (hmem x)) (hg _ (hmem y)) (hfl q os dk x) (hfl q os dk y)
    have hS := Any.slices_SortFunc_total LS enc (fun _ => rfl) cf' hO' c #[] b off cap (List.finRange (m + 1)).toArray w eg hcmp hH hbl (by rw [hd]; omega) hT
    rw [rowsI_length, hm, hA]
    rw [hd] at hS
    refine hS.mono ?_
    rintro e w' ⟨rfl, q, os, rfl⟩
    obtain ⟨M, hM⟩ : ∃ M, (List.finRange (m + 1)).mergeSort (fun x y => !(ltOf cf') y x) = M := ⟨_, rfl⟩
    simp only [hM]
    have hperm : M.Perm (List.finRange (m + 1)) := by rw [← hM]; exact List.mergeSort_perm _ _
    have hML : M.length = m + 1 := by rw [hperm.length_eq]; simp
    have hnd : M.Nodup := hperm.nodup_iff.2 (List.nodup_finRange _)
    have hall : ∀ i : Fin (m + 1), i ∈ M := fun i => hperm.mem_iff.2 (List.mem_finRange i)
    have hmap : sortL cf L = M.map el := by
      have hLm : L = (List.finRange (m + 1)).map el := by
        apply List.ext_getElem
        · simp [hm]
        · intro i h1 h2; simp [el]
      rw [← hM, List.map_mergeSort (r := fun x y => !(ltOf cf') y x) (s := fun x y => !(ltOf cf) y x) (f := el) (fun a _ b _ => rfl), ← hLm]
      rfl
    have hlen : (rowsI (sortL cf L)).length = m + 1 := by rw [hmap]; simp [rowsI, hML]
    let s : Nat → Nat := fun i => if h : i < M.length then (M[i]).1 else i
    let t : Nat → Nat := fun j => if h : j < m + 1 then M.idxOf ⟨j, h⟩ else j
    have hs : ∀ i, (hi : i < m + 1) → s i = (M[i]'(by omega)).1 := fun i hi => by simp only [s]; rw [dif_pos (by omega)]
    have hget : ∀ i fl, (rowsI (sortL cf L))[i]? = some fl → i < m + 1 ∧ ∃ hi : i < M.length, fl = ints (el M[i]) := fun i fl hi => by
      have hil := (List.getElem?_eq_some_iff.1 hi).1
      rw [hlen] at hil
      refine ⟨hil, by omega, ?_⟩
      rw [hmap] at hi
      simp only [rowsI, List.getElem?_map, List.getElem?_eq_getElem (show i < M.length by omega), Option.map_some, Option.some.injEq] at hi
      exact hi.symm
    refine ⟨trivial, ⟨rfl, .of rfl, rfl, ?_, fun x hx hn => ?_⟩, s, t, fun i hi => ⟨by rw [hs i hi]; exact (M[i]'(by omega)).2, ?_⟩, fun i hi => ?_, hlen, fun i fl hi => ?_, fun i fl hi => ?_, .inr ⟨b, off, putCells enc off M.toArray arr, T', rfl, ho, ?_, by simp [putCells]; omega⟩⟩
    · show w.heap.size ≤ ((w.heap.modify b _) ++ os).size
      simp
    · show (grow (putRow enc (Sort.ahead w q) b off M.toArray) os).heap[x]? = _
      rw [put_heap enc w q b off M.toArray os hx]
      have : x ≠ b := fun e => hn (by rw [e]; exact ho)
      simp [this]
    · have hsi := hs i hi
      simp only [t]
      rw [dif_pos (by rw [hsi]; exact (M[i]'(by omega)).2)]
      have : (⟨s i, by rw [hsi]; exact (M[i]'(by omega)).2⟩ : Fin (m + 1)) = M[i]'(by omega) := Fin.ext hsi
      rw [this]
      exact hnd.idxOf_getElem i (by omega)
    · have hti : t i = M.idxOf ⟨i, hi⟩ := by simp only [t]; rw [dif_pos hi]
      have hlt' : M.idxOf (⟨i, hi⟩ : Fin (m + 1)) < M.length := List.idxOf_lt_length_of_mem (hall _)
      refine ⟨by omega, ?_⟩
      rw [hti, hs _ (by omega), List.getElem_idxOf hlt']
    · obtain ⟨hi1, hi2, rfl⟩ := hget i fl hi
      rw [hs i hi1]
      exact hrow _
    · obtain ⟨hi1, hi2, rfl⟩ := hget i fl hi
      refine ⟨_, rfl, ?_⟩
      rw [Addr.add_plain, hs i hi1]
      show (grow (putRow enc (Sort.ahead w q) b off M.toArray) os).cell? _ = _
      simp only [World.cell?, put_heap enc w q b off M.toArray os hbl, hh, Option.map_some, if_true, onCells]
      show (putCells enc off M.toArray arr)[off + i]? = _
      unfold putCells
      rw [Array.getElem?_mapIdx, Array.getElem?_eq_getElem (by omega), Option.map_some, if_pos (by simp; omega), ints_length]
      rw [getElem!_pos _ _ (by simp; omega)]
      simp [enc]
    · show (grow (putRow enc (Sort.ahead w q) b off M.toArray) os).heap[b]? = _
      rw [put_heap enc w q b off M.toArray os hbl, hh]
      simp [onCells]
end Go.Sh

set_option linter.unusedVariables false
set_option linter.unusedSimpArgs false
namespace Go.Sh
open Go.Proofs
/-! ### what is read: a path followed from a top -/
/-- the next one behind a path whose last one has two neighbours -/
def nxtT (E : List Ed) (p : List Int) : Int := (nearL E (p.getLastD 0)).getD 0 0 + (nearL E (p.getLastD 0)).getD 1 0 - p.getD (p.length - 2) 0
def goT (E : List Ed) : Nat → List Int → List Int
  | 0, p => p
  | f + 1, p => if (nearL E (p.getLastD 0)).length = 2 then goT E f (p ++ [nxtT E p]) else p
structure FolT (n : Int) (E : List Ed) (t : Int) (p : List Int) : Prop where
  two : 2 ≤ p.length
  hd : p.getD 0 0 = t
  st : stepsE E p
  nd : p.dropLast.Nodup
  deg : ∀ i, 1 ≤ i → i + 1 < p.length → (nearL E (p.getD i 0)).length = 2
  ne : ∀ i, i + 2 < p.length → p.getD i 0 ≠ p.getD (i + 2) 0
theorem adj_ne {n : Int} {E : List Ed} (hR : RightP n E) {x y : Int} (h : adjE E x y) : x ≠ y := by
  rcases h with h | h <;> (have := hR.2.2.2.1 _ h; unfold okE at this; dsimp only at this; omega)
theorem near_nodup {n : Int} {E : List Ed} (hR : RightP n E) (v : Int) : (nearL E v).Nodup :=
  (near_sorted hR.2.2.2.1 hR.2.2.2.2).imp fun h => by omega
theorem lastD_get {p : List Int} (h : 0 < p.length) : p.getLastD 0 = p.getD (p.length - 1) 0 := by
  rw [List.getLastD_eq_getLast?, List.getLast?_eq_getElem?, List.getD_eq_getElem?_getD]
/-- of two neighbours: which they are -/
theorem two_near {n : Int} {E : List Ed} (hR : RightP n E) {v a : Int} (h : (nearL E v).length = 2) (ha : adjE E v a) :
    adjE E v ((nearL E v).getD 0 0 + (nearL E v).getD 1 0 - a) ∧ (nearL E v).getD 0 0 + (nearL E v).getD 1 0 - a ≠ a ∧ ∀ b, adjE E v b → b = a ∨ b = (nearL E v).getD 0 0 + (nearL E v).getD 1 0 - a := by
  have hm : a ∈ nearL E v := mem_nearL.2 ha
  have hnd := near_nodup hR v
  obtain ⟨c, d, hcd⟩ : ∃ c d, nearL E v = [c, d] := by
    match hq : nearL E v, h with
    | [c, d], _ => exact ⟨c, d, rfl⟩
  have hall : ∀ b, adjE E v b ↔ b = c ∨ b = d := fun b => by rw [← mem_nearL, hcd]; simp
  rw [hcd] at hm hnd ⊢
  have hne : c ≠ d := by simpa using hnd
  simp only [List.getD_cons_zero, List.getD_cons_succ]
  simp only [List.mem_cons, List.not_mem_nil, or_false] at hm
  rcases hm with rfl | rfl
  · rw [show a + d - a = d by omega]
    exact ⟨(hall d).2 (.inr rfl), Ne.symm hne, fun b hb => (hall b).1 hb⟩
  · rw [show c + a - a = c by omega]
    exact ⟨(hall c).2 (.inl rfl), hne, fun b hb => ((hall b).1 hb).symm⟩
theorem getD_snoc {p : List Int} {x : Int} {i : Nat} : (p ++ [x]).getD i 0 = if i < p.length then p.getD i 0 else if i = p.length then x else 0 := by
  simp only [List.getD_eq_getElem?_getD, List.getElem?_append]
  by_cases h : i < p.length
  · rw [if_pos h, if_pos h]
  · rw [if_neg h, if_neg h]
    by_cases h2 : i = p.length
    · subst h2; simp
    · rw [if_neg h2, List.getElem?_eq_none (by simp; omega)]; rfl
section
variable {n : Int} {E : List Ed} {t : Int} {p : List Int}
theorem FolT.last_new (h : FolT n E t p) (hR : RightP n E) (ht : (nearL E t).length ≠ 2) (h2 : (nearL E (p.getLastD 0)).length = 2) : p.Nodup := by
  have h0 := h.two
  have hne0 : p ≠ [] := by intro e; rw [e] at h0; simp at h0
  have hl := lastD_get (p := p) (by omega)
  rw [hl] at h2
  have hdl : ∀ i, i + 1 < p.length → p.dropLast[i]? = some (p.getD i 0) := fun i hi => by
    rw [List.getElem?_dropLast, if_pos (by omega), List.getElem?_eq_getElem (by omega), getD_at (by omega)]
  have hinj : ∀ i j, i + 1 < p.length → j + 1 < p.length → p.getD i 0 = p.getD j 0 → i = j := fun i j hi hj e => by
    have hi' : i < p.dropLast.length := by simp; omega
    exact (List.getElem?_inj hi' h.nd).1 (by rw [hdl i hi, hdl j hj, e])
  have hlast : ∀ j, j + 1 < p.length → p.getD (p.length - 1) 0 ≠ p.getD j 0 := fun j hj e => by
    rcases Nat.eq_zero_or_pos j with rfl | hj0
    · rw [e, h.hd] at h2; exact ht h2
    have hdj := h.deg j hj0 hj
    have s1 := h.st (j - 1) (by omega)
    rw [show j - 1 + 1 = j by omega] at s1
    have s2 := h.st j (by omega)
    have s3 := h.st (p.length - 2) (by omega)
    rw [show p.length - 2 + 1 = p.length - 1 by omega, e] at s3
    have hall := (two_near hR hdj s1.symm).2.2
    have hne := h.ne (j - 1) (by omega)
    rw [show j - 1 + 2 = j + 1 by omega] at hne
    have e2 := (hall _ s2).resolve_left (Ne.symm hne)
    rcases hall _ s3.symm with k | k
    · have := hinj _ _ (by omega) (by omega) k; omega
    · rw [← e2] at k
      rcases Nat.lt_or_ge (j + 2) p.length with hj2 | hj2
      · have := hinj _ _ (by omega) (by omega) k
        have hx := h.ne j (by omega)
        rw [show j + 2 = p.length - 1 by omega] at hx
        exact hx e.symm
      · have hj3 : j + 1 = p.length - 1 := by omega
        rw [hj3, e] at s2
        exact adj_ne hR s2 rfl
  have hsp : p = p.dropLast ++ [p.getLast hne0] := (List.dropLast_concat_getLast hne0).symm
  rw [hsp, List.nodup_append]
  refine ⟨h.nd, by simp, fun a ha b hb e => ?_⟩
  simp only [List.mem_singleton] at hb
  subst hb
  obtain ⟨j, hj, hja⟩ := List.mem_iff_getElem.1 ha
  rw [List.length_dropLast] at hj
  refine hlast j (by omega) ?_
  rw [getD_at (by omega), getD_at (by omega), ← List.getLast_eq_getElem hne0, ← e, ← hja]
  simp
theorem FolT.next (h : FolT n E t p) (hR : RightP n E) (ht : (nearL E t).length ≠ 2) (h2 : (nearL E (p.getLastD 0)).length = 2) : FolT n E t (p ++ [nxtT E p]) := by
  have h0 := h.two
  have hl := lastD_get (p := p) (by omega)
  have hnd := h.last_new hR ht h2
  have s3 := h.st (p.length - 2) (by omega)
  rw [show p.length - 2 + 1 = p.length - 1 by omega, ← hl] at s3
  obtain ⟨q1, q2, _⟩ := two_near hR h2 s3.symm
  refine ⟨by simp; omega, ?_, fun i hi => ?_, by simpa using hnd, fun i h1 hi => ?_, fun i hi => ?_⟩
  · rw [getD_snoc, if_pos (by omega)]; exact h.hd
  · simp at hi
    rw [getD_snoc, getD_snoc, if_pos (by omega)]
    by_cases hi2 : i + 1 < p.length
    · rw [if_pos hi2]; exact h.st i hi2
    · rw [if_neg hi2, if_pos (by omega), show i = p.length - 1 by omega, ← hl]
      exact q1
  · simp at hi
    rw [getD_snoc, if_pos (by omega)]
    by_cases hi2 : i + 1 < p.length
    · exact h.deg i h1 hi2
    · rw [show i = p.length - 1 by omega, ← hl]; exact h2
  · simp at hi
    rw [getD_snoc, getD_snoc, if_pos (by omega)]
    by_cases hi2 : i + 2 < p.length
    · rw [if_pos hi2]; exact h.ne i hi2
    · rw [if_neg hi2, if_pos (by omega), show i = p.length - 2 by omega]
      exact Ne.symm q2
theorem FolT.inN (h : FolT n E t p) (hR : RightP n E) : ∀ x ∈ p, 0 ≤ x ∧ x < n := fun x hx => by
  obtain ⟨i, hi, rfl⟩ := List.mem_iff_getElem.1 hx
  have h0 := h.two
  rw [← getD_at hi]
  by_cases h1 : i + 1 < p.length
  · exact (adj_in hR (h.st i h1)).1
  · have := (adj_in hR (h.st (i - 1) (by omega))).2
    rwa [show i - 1 + 1 = i by omega] at this
theorem FolT.len (h : FolT n E t p) (hR : RightP n E) : p.length ≤ n.toNat + 1 := by
  have := range_len h.nd fun x hx => h.inN hR x ((List.dropLast_sublist _).subset hx)
  simp at this; omega
theorem FolT.len2 (h : FolT n E t p) (hR : RightP n E) (ht : (nearL E t).length ≠ 2) (h2 : (nearL E (p.getLastD 0)).length = 2) : p.length ≤ n.toNat :=
  range_len (h.last_new hR ht h2) (h.inN hR)
theorem FolT.start {x : Int} (hx : x ∈ nearL E t) : FolT n E t [t, x] where
  two := by simp
  hd := rfl
  st i hi := by
    have hi : i + 1 < 2 := hi
    have : i = 0 := by omega
    subst this
    exact mem_nearL.1 hx
  nd := by simp
  deg i h1 hi := by
    have hi : i + 1 < 2 := hi
    omega
  ne i hi := by
    have hi : i + 2 < 2 := hi
    omega
end
theorem goT_stop {E : List Ed} {f : Nat} {p : List Int} (h : (nearL E (p.getLastD 0)).length ≠ 2) : goT E f p = p := by
  cases f with
  | zero => rfl
  | succ f => exact if_neg h
theorem goT_step {E : List Ed} {f : Nat} {p : List Int} (h : (nearL E (p.getLastD 0)).length = 2) : goT E (f + 1) p = goT E f (p ++ [nxtT E p]) := if_pos h
/-- what a path is that was followed to its end -/
theorem goT_fol {n : Int} {E : List Ed} {t : Int} (hR : RightP n E) (ht : (nearL E t).length ≠ 2) : ∀ (f : Nat) {p : List Int}, FolT n E t p → n.toNat + 2 ≤ f + p.length → FolT n E t (goT E f p) ∧ (nearL E ((goT E f p).getLastD 0)).length ≠ 2 ∧ ∃ r, goT E f p = p ++ r := by
  intro f
  induction f with
  | zero =>
    intro p h hf
    have := h.len hR
    omega
  | succ f ih =>
    intro p h hf
    by_cases h2 : (nearL E (p.getLastD 0)).length = 2
    · rw [goT_step h2]
      obtain ⟨q1, q2, r, q3⟩ := ih (h.next hR ht h2) (by simp; omega)
      exact ⟨q1, q2, nxtT E p :: r, by rw [q3]; simp⟩
    · rw [goT_stop h2]
      exact ⟨h, h2, [], by simp⟩
/-! ### what is read -/
def topsK (E : List Ed) (k : Nat) : List Int := ((List.range k).filter fun v => (nearL E (v : Nat)).length == 3).map fun (v : Nat) => (v : Int)
def degOk (E : List Ed) (v : Nat) : Prop := (nearL E (v : Nat)).length = 0 ∨ (nearL E (v : Nat)).length = 2 ∨ (nearL E (v : Nat)).length = 3
def degsOk (n : Int) (E : List Ed) : Prop := ∀ v : Nat, (v : Int) < n → degOk E v
def pathT (n : Int) (E : List Ed) (t x : Int) : List Int := goT E n.toNat [t, x]
def keepT (n : Int) (E : List Ed) (t : Int) (l : List Int) : List (List Int) := (l.map fun x => pathT n E t x).filter fun p => decide (t < p.getLastD 0)
def pathsT (n : Int) (E : List Ed) (T : List Int) : List (List Int) := T.flatMap fun t => keepT n E t (nearL E t)
def usedT (L : List (List Int)) : Nat := (L.map fun p => p.length - 1).sum
def cmpT (p q : List Int) : Int := orI [cmpI (p.headD 0) (q.headD 0), cmpI (p.getLastD 0) (q.getLastD 0), cmpI (p.getD 1 0) (q.getD 1 0)]
def ltT (p q : List Int) : Prop := p.headD 0 < q.headD 0 ∨ (p.headD 0 = q.headD 0 ∧ (p.getLastD 0 < q.getLastD 0 ∨ (p.getLastD 0 = q.getLastD 0 ∧ p.getD 1 0 < q.getD 1 0)))
theorem cmpT_lt (p q : List Int) : cmpT p q < 0 ↔ ltT p q := by
  unfold cmpT orI cmpI ltT
  repeat' split
  all_goals simp_all
  all_goals omega
theorem ltT_t {x y : List Int} : ltOf cmpT x y = true ↔ ltT x y := by unfold ltOf; rw [decide_eq_true_iff, cmpT_lt]
theorem ltT_f {x y : List Int} : ltOf cmpT x y = false ↔ ¬ ltT x y := by unfold ltOf; rw [decide_eq_false_iff_not, cmpT_lt]
theorem swoT : Go.Sort.SWO (ltOf cmpT) where
  irrefl x := by rw [ltT_f]; unfold ltT; omega
  trans x y z h1 h2 := by rw [ltT_t] at *; unfold ltT at *; omega
  ntrans x y z h1 h2 := by rw [ltT_f] at *; unfold ltT at *; omega
theorem parts_T {p q : List Int} (h : p.headD 0 ≠ q.headD 0 ∨ p.getD 1 0 ≠ q.getD 1 0) : ltOf cmpT p q = true ∨ ltOf cmpT q p = true := by
  rw [ltT_t, ltT_t]; unfold ltT; omega
def kindT (T : List Int) : Int := if T.length = 4 then 1 else if T.length = 2 then 2 else 0
def ReadP (n : Int) (E : List Ed) : Prop := RightP n E ∧ degsOk n E ∧ kindT (topsK E n.toNat) ≠ 0 ∧ usedT (pathsT n E (topsK E n.toNat)) = E.length ∧
  SubP n E (kindT (topsK E n.toNat)) (topsK E n.toNat) (sortL cmpT (pathsT n E (topsK E n.toNat)))
open Classical in
noncomputable def readF (n : Int) (E : List Ed) : (Int × List Int × List (List Int)) × Bool :=
  if ReadP n E then ((kindT (topsK E n.toNat), topsK E n.toNat, sortL cmpT (pathsT n E (topsK E n.toNat))), true) else ((0, [], []), false)
theorem readF_no {n : Int} {E : List Ed} (h : ¬ ReadP n E) : readF n E = ((0, [], []), false) := if_neg h
theorem readF_yes {n : Int} {E : List Ed} (h : ReadP n E) : readF n E = ((kindT (topsK E n.toNat), topsK E n.toNat, sortL cmpT (pathsT n E (topsK E n.toNat))), true) := if_pos h
theorem mem_topsK {E : List Ed} {k : Nat} {t : Int} : t ∈ topsK E k ↔ 0 ≤ t ∧ t < k ∧ (nearL E t).length = 3 := by
  unfold topsK
  rw [List.mem_map]
  constructor
  · rintro ⟨v, hv, rfl⟩
    rw [List.mem_filter, List.mem_range] at hv
    exact ⟨by omega, by omega, by simpa using hv.2⟩
  · rintro ⟨h0, h1, h2⟩
    exact ⟨t.toNat, by rw [List.mem_filter, List.mem_range, show ((t.toNat : Nat) : Int) = t by omega]; exact ⟨by omega, by simpa using h2⟩, by omega⟩
theorem topsK_sorted (E : List Ed) (k : Nat) : (topsK E k).Pairwise (· < ·) := by
  unfold topsK
  rw [List.pairwise_map]
  exact (List.pairwise_lt_range.filter _).imp fun h => by omega
theorem topsK_succ (E : List Ed) (k : Nat) : topsK E (k + 1) = topsK E k ++ (if (nearL E (k : Nat)).length = 3 then [(k : Int)] else []) := by
  unfold topsK
  rw [List.range_succ, List.filter_append, List.map_append]
  congr 1
  by_cases h : (nearL E (k : Nat)).length = 3 <;> simp [h]
theorem pathT_is {n : Int} {E : List Ed} (hR : RightP n E) {t x : Int} (ht : (nearL E t).length = 3) (hx : x ∈ nearL E t) :
    FolT n E t (pathT n E t x) ∧ (nearL E ((pathT n E t x).getLastD 0)).length ≠ 2 ∧ ∃ r, pathT n E t x = t :: x :: r := by
  obtain ⟨h1, h2, r, h3⟩ := goT_fol hR (by omega) n.toNat (FolT.start hx) (by simp)
  exact ⟨h1, h2, r, h3⟩
theorem mem_keepT {n : Int} {E : List Ed} {t : Int} {l : List Int} {p : List Int} : p ∈ keepT n E t l ↔ (∃ x ∈ l, p = pathT n E t x) ∧ t < p.getLastD 0 := by
  unfold keepT
  rw [List.mem_filter, List.mem_map, decide_eq_true_iff]
  exact and_congr_left fun _ => ⟨fun ⟨x, hx, e⟩ => ⟨x, hx, e.symm⟩, fun ⟨x, hx, e⟩ => ⟨x, hx, e.symm⟩⟩
theorem keepT_snoc (n : Int) (E : List Ed) (t : Int) (l : List Int) (x : Int) : keepT n E t (l ++ [x]) = keepT n E t l ++ (if t < (pathT n E t x).getLastD 0 then [pathT n E t x] else []) := by
  unfold keepT
  rw [List.map_append, List.filter_append]
  congr 1
  rw [List.map_cons, List.map_nil]
  by_cases h : t < (pathT n E t x).getLastD 0
  · rw [if_pos h, List.filter_cons, if_pos (decide_eq_true h)]; rfl
  · rw [if_neg h, List.filter_cons, if_neg (by rw [decide_eq_true_iff]; exact h)]; rfl
theorem paths_keys {n : Int} {E : List Ed} (hR : RightP n E) {T : List Int} (hT : ∀ t ∈ T, (nearL E t).length = 3) (hnd : T.Nodup) :
    (pathsT n E T).Pairwise (fun x y => ltOf cmpT x y = true ∨ ltOf cmpT y x = true) := by
  unfold pathsT
  rw [List.pairwise_flatMap]
  refine ⟨fun t ht => ?_, ?_⟩
  · unfold keepT
    refine List.Pairwise.filter _ ?_
    rw [List.pairwise_map]
    refine List.Pairwise.imp_of_mem ?_ (near_nodup hR t)
    intro x y hx hy hne
    obtain ⟨_, _, r, hr⟩ := pathT_is hR (hT t ht) hx
    obtain ⟨_, _, q, hq⟩ := pathT_is hR (hT t ht) hy
    rw [hr, hq]
    exact parts_T (.inr (by simpa using hne))
  · refine List.Pairwise.imp_of_mem ?_ hnd
    intro t u ht hu hne p hp q hq
    obtain ⟨⟨x, hx, rfl⟩, _⟩ := mem_keepT.1 hp
    obtain ⟨⟨y, hy, rfl⟩, _⟩ := mem_keepT.1 hq
    obtain ⟨_, _, r, hr⟩ := pathT_is hR (hT t ht) hx
    obtain ⟨_, _, q, hq⟩ := pathT_is hR (hT u hu) hy
    rw [hr, hq]
    exact parts_T (.inl (by simpa using hne))
end Go.Sh

set_option linter.unusedVariables false
set_option linter.unusedSimpArgs false
namespace Go.Sh
open Go.Proofs Go.Sort Go.Shelf Go.RowKit
/-! ### slices.SortFunc on paths -/
def goodT (x : List Int) : Prop := 2 ≤ x.length ∧ x.length ≤ 1000000
theorem hd_get {x : List Int} (h : 0 < x.length) : x[0]? = some (x.headD 0) := by cases x with | nil => simp at h | cons a l => rfl
theorem last_get {x : List Int} (h : 0 < x.length) : x[x.length - 1]? = some (x.getLastD 0) := by rw [List.getLastD_eq_getLast?, List.getLast?_eq_getElem?, List.getElem?_eq_getElem (by omega)]; rfl
theorem getD_get {x : List Int} {i : Nat} (h : i < x.length) : x[i]? = some (x.getD i 0) := by rw [List.getD_eq_getElem?_getD, List.getElem?_eq_getElem h]; rfl
theorem CloT_p [Fwd] : SoundP Try.prog 75 (conF (fun a : List Int × List Int => goodT a.1 ∧ goodT a.2) (fun a => [.one (.flat false 1 (ints a.1)), .one (.flat false 1 (ints a.2))]) (fun a => .one (.s (.i .i64 (cmpT a.1 a.2))))) := by
  refine con_pure (X := { Γ := [(71, CompareC), (70, OrC)], T := T, nt := 34 }) cr_none hmix hT (sound_cons Compare_ok (sound_cons Or_ok sound_nil)) Try.func75 (by rfl) (by rfl) (by rfl) 2 ?_
  rintro ⟨x, y⟩ ⟨⟨hx, hx2⟩, hy, hy2⟩
  dsimp only at hx hx2 hy hy2 ⊢
  refine ⟨⟨Nat.le_of_ble_eq_true rfl, Nat.le_of_ble_eq_true rfl⟩, ?_⟩
  refine Idx.by 0 rfl (by rw [ints_length]; omega) ?_
  refine Look.by _ (ints_get (hd_get (by omega))) ?_
  refine Idx.by 0 rfl (by rw [ints_length]; omega) ?_
  refine Look.by _ (ints_get (hd_get (by omega))) ?_
  refine Call.by _ _ (CompareC_at _ _) ?_
  refine Pick.T (inI64_of (by rw [ints_length]; omega) (by rw [ints_length]; omega)) ?_
  refine Idx.by (x.length - 1) (by rw [ints_length]; omega) (by rw [ints_length]; omega) ?_
  refine Look.by _ (ints_get (last_get (by omega))) ?_
  refine Pick.T (inI64_of (by rw [ints_length]; omega) (by rw [ints_length]; omega)) ?_
  refine Idx.by (y.length - 1) (by rw [ints_length]; omega) (by rw [ints_length]; omega) ?_
  refine Look.by _ (ints_get (last_get (by omega))) ?_
  refine Call.by _ _ (CompareC_at _ _) ?_
  refine Idx.by 1 rfl (by rw [ints_length]; omega) ?_
  refine Look.by _ (ints_get (getD_get (by omega))) ?_
  refine Idx.by 1 rfl (by rw [ints_length]; omega) ?_
  refine Look.by _ (ints_get (getD_get (by omega))) ?_
  refine Call.by _ _ (CompareC_at _ _) ?_
  refine Call.by _ _ (OrC_at (l := [cmpI (x.headD 0) (y.headD 0), cmpI (x.getLastD 0) (y.getLastD 0), cmpI (x.getD 1 0) (y.getD 1 0)]) (by simp)) ?_
  refine Seg.by (by kernel_rfl) ?_
  refine ⟨rfl, ?_⟩
  show _ = _
  rfl
theorem cloT_call (x y : List Int) (A B : Option Addr) (ca cb : Nat) (W : World) (hx : goodT x) (hy : goodT y) (h1 : FlatOk W noLab none A ca 1 (ints x)) (h2 : FlatOk W noLab none B cb 1 (ints y)) :
    Calls Try.prog 75 #[.slice A x.length ca, .slice B y.length cb] W fun e w' => e = .returned (.int .i64 (cmpT x y)) ∧ ∃ q os', w' = grow (W.drewN q) os' := by
  letI : Fwd := ⟨True⟩
  have hF : conF (fun a : List Int × List Int => goodT a.1 ∧ goodT a.2) (fun a => [V.one (.flat false 1 (ints a.1)), .one (.flat false 1 (ints a.2))]) (fun a => V.one (C.s (.i .i64 (cmpT a.1 a.2)))) [.one (.flat false 1 (ints x)), .one (.flat false 1 (ints y))] = some (.one (.s (.i .i64 (cmpT x y))), []) :=
    conF_at (a := (x, y)) (fun a b _ _ h => by simp at h; rw [ints_inj h.1, ints_inj h.2]) ⟨hx, hy⟩
  refine (CloT_p _ _ _ hF W #[.slice A x.length ca, .slice B y.length cb] ⟨⟨⟨A, ca, fun _ => none, fun _ => 0⟩, by rw [ints_length], h1⟩, ⟨⟨B, cb, fun _ => none, fun _ => 0⟩, by rw [ints_length], h2⟩, trivial⟩).mono ?_
  rintro e w' ⟨u, lab, rfl, hf, _, hu⟩
  obtain ⟨p, hu⟩ := hu
  refine ⟨?_, frm_grow trivial hf⟩
  show Ending.returned u = _
  rw [show u = (Sc.i .i64 (cmpT x y)).val from hu]
  rfl
theorem SortT_row : NestFnCall Try.prog 74 75 1 (sortNP goodT cmpT) (sortN cmpT) :=
  nest_sort Try.laysSortR rfl ⟨_, Try.func74, by decide, by simp [Try.f74]⟩
    (enters_of Try.func75 (by kernel_rfl) rfl) goodT cmpT swoT cloT_call
end Go.Sh

set_option linter.unusedVariables false
set_option linter.unusedSimpArgs false
namespace Go.Sh
open Go.Proofs
/-! ### topo.Read -/
noncomputable def ReadC : Con := conP 1 (fun a : Int × List Ed => a.2.length ≤ 1000000) (fun a => [grV a.1 a.2]) (fun a => .tup [sbV true (readF a.1 a.2).1.1 (readF a.1 a.2).1.2.1 (readF a.1 a.2).1.2.2, .one (.s (.b (readF a.1 a.2).2))])
theorem ReadC_at {n : Int} {E : List Ed} (h : E.length ≤ 1000000) : ReadC.F [grV n E] = some (.tup [sbV true (readF n E).1.1 (readF n E).1.2.1 (readF n E).1.2.2, .one (.s (.b (readF n E).2))], []) :=
  conP_at (a := (n, E)) (fun x y _ _ h => by
    obtain ⟨n, E⟩ := x
    obtain ⟨n', E'⟩ := y
    simp at h
    obtain ⟨rfl, rfl⟩ := grV_inj h
    rfl) h
def nbK (n : Nat) (E : List Ed) (k : Nat) : List (List Int) := ((List.range k).map fun (v : Nat) => nearL E (v : Int)) ++ List.replicate (n - k) []
theorem nbK_len {n : Nat} {E : List Ed} {k : Nat} (h : k ≤ n) : (nbK n E k).length = n := by simp [nbK]; omega
theorem nbK_end (n : Nat) (E : List Ed) : nbK n E n = nbrs n E := by simp [nbK, nbrs]
theorem nbK_zero (n : Nat) (E : List Ed) : nbK n E 0 = List.replicate n [] := by simp [nbK]
theorem nbK_set {n : Nat} {E : List Ed} {k : Nat} (h : k < n) : (nbK n E k).set k (nearL E (k : Int)) = nbK n E (k + 1) := by
  apply List.ext_getElem?
  intro i
  unfold nbK
  rw [List.getElem?_set]
  have hl : (((List.range k).map fun (v : Nat) => nearL E (v : Int)) ++ List.replicate (n - k) []).length = n := by simp; omega
  by_cases h1 : k = i
  · subst h1
    rw [if_pos rfl, if_pos (by rw [hl]; exact h), List.getElem?_append_left (by simp), List.getElem?_map, List.getElem?_range (by omega)]; rfl
  · rw [if_neg h1]
    by_cases h2 : i < k
    · rw [List.getElem?_append_left (by simpa using h2), List.getElem?_append_left (by simp; omega), List.getElem?_map, List.getElem?_map, List.getElem?_range h2, List.getElem?_range (by omega)]
    · rw [List.getElem?_append_right (by simp; omega), List.getElem?_append_right (by simp; omega), List.getElem?_replicate, List.getElem?_replicate]
      simp
      by_cases h3 : i < n
      · rw [if_pos (by omega), if_pos (by omega)]
      · rw [if_neg (by omega), if_neg (by omega)]
theorem nb_get {n : Nat} {E : List Ed} {v : Nat} (h : v < n) : (rowsI (nbrs n E))[v]? = some (ints (nearL E (v : Int))) := by
  refine rowsI_get ?_
  unfold nbrs
  rw [List.getElem?_map, List.getElem?_range h]; rfl
theorem keepT_len (n : Int) (E : List Ed) (t : Int) (l : List Int) : (keepT n E t l).length ≤ l.length := by
  unfold keepT
  exact Nat.le_trans (List.length_filter_le _ _) (by simp)
theorem pathsT_snoc (n : Int) (E : List Ed) (T : List Int) (t : Int) : pathsT n E (T ++ [t]) = pathsT n E T ++ keepT n E t (nearL E t) := by simp [pathsT]
theorem pathsT_len {n : Int} {E : List Ed} : ∀ {T : List Int}, (∀ t ∈ T, (nearL E t).length = 3) → (pathsT n E T).length ≤ 3 * T.length
  | [], _ => by simp [pathsT]
  | t :: T, h => by
    have ih := pathsT_len (n := n) (T := T) fun x hx => h x (List.mem_cons_of_mem _ hx)
    have h1 := keepT_len n E t (nearL E t)
    have h2 := h t (by simp)
    unfold pathsT at ih ⊢
    rw [List.flatMap_cons, List.length_append, List.length_cons]
    omega
theorem keepT_row {n : Int} {E : List Ed} (hR : RightP n E) {t : Int} (ht : (nearL E t).length = 3) {l : List Int} (hl : ∀ x ∈ l, x ∈ nearL E t) {p : List Int} (hp : p ∈ keepT n E t l) : 2 ≤ p.length ∧ p.length ≤ n.toNat + 1 := by
  obtain ⟨⟨x, hx, rfl⟩, _⟩ := mem_keepT.1 hp
  obtain ⟨h1, _, _⟩ := pathT_is hR ht (hl x hx)
  exact ⟨h1.two, h1.len hR⟩
theorem pathsT_row {n : Int} {E : List Ed} (hR : RightP n E) {T : List Int} (hT : ∀ t ∈ T, (nearL E t).length = 3) {p : List Int} (hp : p ∈ pathsT n E T) : 2 ≤ p.length ∧ p.length ≤ n.toNat + 1 := by
  obtain ⟨t, ht, hp⟩ := List.mem_flatMap.1 hp
  exact keepT_row hR (hT t ht) (fun x hx => hx) hp
theorem usedT_le {m : Nat} : ∀ {L : List (List Int)}, (∀ p ∈ L, p.length ≤ m + 1) → usedT L ≤ L.length * m
  | [], _ => by simp [usedT]
  | p :: L, h => by
    have ih := usedT_le (m := m) (L := L) fun x hx => h x (List.mem_cons_of_mem _ hx)
    have h1 := h p (by simp)
    simp only [usedT, List.map_cons, List.sum_cons, List.length_cons] at ih ⊢
    rw [Nat.succ_mul]
    omega
theorem usedT_snoc (L : List (List Int)) (p : List Int) : usedT (L ++ [p]) = usedT L + (p.length - 1) := by simp [usedT]
set_option maxHeartbeats 4000000 in
theorem Read_ok : SoundC Try.prog T 37 ReadC := by
  refine sound_con (X := { Γ := [(49, RightC), (73, NearGC), (29, SubC)], T := T, nt := 149, ext := [74] }) (nestFn_ok SortT_row) hmix hT (sound_cons RightG_ok (sound_cons Near_ok (sound_cons Sub_ok sound_nil))) Try.func37 (by rfl) (by rfl) (by rfl) (by rfl) 2 ?_
  rintro ⟨n, E⟩ hl
  dsimp only at hl ⊢
  refine ⟨⟨Nat.le_of_ble_eq_true rfl, Nat.le_of_ble_eq_true rfl⟩, ?_⟩
  refine Call.by _ _ (RightC_at n E) ?_
  refine Pick.by (fun h1 => ?_) (fun h1 => ?_)
  · have h1 : ¬ RightP n E := by simpa using h1
    have hv := readF_no (n := n) (E := E) (fun h => h1 h.1)
    dsimp only
    rw [hv]
    exact ⟨rfl, rfl, ⟨rfl, ⟨rfl, rfl⟩, ⟨rfl, rfl⟩, trivial⟩, rfl, trivial⟩
  have h1 : RightP n E := by simpa using h1
  obtain ⟨hn0, hn1, hE4, hokE, hsrt⟩ := id h1
  refine Pick.T (by simp) ?_
  refine Idx.by n.toNat (by omega) (by omega) ?_
  refine LoopP.intro (α := Nat) (fun k => k ≤ n.toNat) (fun k => n.toNat - k) (fun k => [(1, .ptr 0 0), (2, .ptr 2 0), (4, .ptr 3 0), (5, .sl 4 none none), (24, .s (.i .i64 n.toNat)), (25, .s (.i .i64 k))])
    (fun k => [(0, some (.blk [.s (.i .i64 n), .sl 1 none none])), (1, some (.flat false 2 (edges E))), (2, some (.blk [.s (.i .i64 0), .nils, .nils])), (3, some (.blk [.s (.i .i64 0), .nils, .nils])), (4, some (.nest true 1 (rowsI (nbK n.toNat E k)) [] []))]) 5 0 (by omega) (by refine Weak.by [(0, some _), (1, some _), (2, some _), (3, some _), (4, some _)] (by ((repeat' first | exact rfl | exact trivial | refine And.intro ?_ ?_) <;> (repeat' first | exact rfl | exact trivial | refine And.intro ?_ ?_)); all_goals ((first | exact sc_eq (by rw [List.length_replicate]) | (rw [nbK_zero]; simp [rowsI, ints]; done)))) (by ((repeat' first | exact rfl | exact trivial | refine And.intro ?_ ?_) <;> (repeat' first | exact rfl | exact trivial | refine And.intro ?_ ?_)); all_goals ((first | exact sc_eq (by rw [List.length_replicate]) | (rw [nbK_zero]; simp [rowsI, ints]; done)))) (by rfl)) ?_
  rintro k hk
  have hkl : (rowsI (nbK n.toNat E k)).length = n.toNat := by rw [rowsI_length, nbK_len hk]
  refine Pick.by (fun hc => ?_) (fun hc => ?_)
  · have hlt : k < n.toNat := by have := of_decide_eq_true hc; omega
    refine Call.by _ _ (NearGC_at (n := n) (E := E) (k : Int) hl) ?_
    refine Idx.by k rfl (by rw [hkl]; exact hlt) ?_
    refine Pick.T (by rw [hkl]; simpa using hlt) ?_
    refine Pick.T (inI64_of (by omega) (by omega)) ?_
    have hng : nearG n E (k : Int) = nearL E k := if_pos h1
    refine Next.by (k + 1) (by omega) (by omega) (by refine Weak.by [(0, some _), (1, some _), (2, some _), (3, some _), (4, some _)] (by ((repeat' first | exact rfl | exact trivial | refine And.intro ?_ ?_) <;> (repeat' first | exact rfl | exact trivial | refine And.intro ?_ ?_)); all_goals ((rw [← nbK_set hlt, rowsI_set, hng]))) (by ((repeat' first | exact rfl | exact trivial | refine And.intro ?_ ?_) <;> (repeat' first | exact rfl | exact trivial | refine And.intro ?_ ?_)); all_goals ((rw [← nbK_set hlt, rowsI_set, hng]))) (by rfl))
  have hge : k = n.toNat := by have := of_decide_eq_false hc; omega
  subst hge
  rw [nbK_end] at hkl ⊢
  refine LoopP.intro (α := Nat) (fun k => k ≤ n.toNat ∧ ∀ v : Nat, v < k → degOk E v) (fun k => n.toNat - k) (fun k => [(1, .ptr 0 0), (2, .ptr 2 0), (4, .ptr 3 0), (5, .sl 4 none none), (35, .sl 4 none none), (36, .s (.i .i64 n.toNat)), (37, .s (.i .i64 k))])
    (fun k => [(0, some (.blk [.s (.i .i64 n), .sl 1 none none])), (1, some (.flat false 2 (edges E))), (2, some (.blk [.s (.i .i64 0), .nils, .nils])), (3, some (.blk [.s (.i .i64 0), .sl 5 none none, .nils])), (4, some (.nest true 1 (rowsI (nbrs n.toNat E)) [] [])), (5, some (.flat true 1 (ints (topsK E k))))]) 6 0 ⟨by omega, fun v h => by omega⟩ (by refine Weak.by [(0, some _), (1, some _), (2, some _), (3, some _), (4, some _), (5, none)] (by ((repeat' first | exact rfl | exact trivial | refine And.intro ?_ ?_) <;> (repeat' first | exact rfl | exact trivial | refine And.intro ?_ ?_)); all_goals ((first | exact sc_eq (by rw [hkl]) | done))) (by ((repeat' first | exact rfl | exact trivial | refine And.intro ?_ ?_) <;> (repeat' first | exact rfl | exact trivial | refine And.intro ?_ ?_)); all_goals ((first | exact sc_eq (by rw [hkl]) | done))) (by rfl)) ?_
  rintro k ⟨hk, hdg⟩
  have htl : (topsK E k).length ≤ k := by unfold topsK; rw [List.length_map]; exact Nat.le_trans (List.length_filter_le _ _) (by simp)
  refine Pick.by (fun hc => ?_) (fun hc => ?_)
  · have hlt : k < n.toNat := by have := of_decide_eq_true hc; omega
    have hro := nb_get (E := E) hlt
    have hnl := nearL_length E k
    have hnx : degOk E k → ∀ v : Nat, v < k + 1 → degOk E v := fun h v hv => by
      rcases Nat.lt_or_ge v k with h2 | h2
      · exact hdg v h2
      · obtain rfl : v = k := by omega
        exact h
    have hst := topsK_succ E k
    refine Idx.by k rfl (by rw [hkl]; exact hlt) ?_
    refine Pick.T (by rw [hkl]; simpa using hlt) ?_
    refine Look.by _ hro ?_
    refine Pick.by (fun h3 => ?_) (fun h3 => ?_)
    · have h3 : (nearL E (k : Int)).length = 0 := by rw [ints_length] at h3; have := beq_iff_eq.1 h3; omega
      rw [if_neg (by omega), List.append_nil] at hst
      refine Pick.T (inI64_of (by omega) (by omega)) ?_
      refine Next.by (k + 1) ⟨by omega, hnx (.inl h3)⟩ (by omega) (by refine Weak.by [(0, some _), (1, some _), (2, some _), (3, some _), (4, some _), (5, some _)] (by ((repeat' first | exact rfl | exact trivial | refine And.intro ?_ ?_) <;> (repeat' first | exact rfl | exact trivial | refine And.intro ?_ ?_)); all_goals ((rw [hst]))) (by ((repeat' first | exact rfl | exact trivial | refine And.intro ?_ ?_) <;> (repeat' first | exact rfl | exact trivial | refine And.intro ?_ ?_)); all_goals ((rw [hst]))) (by rfl))
    refine Pick.by (fun h4 => ?_) (fun h4 => ?_)
    · have h4 : (nearL E (k : Int)).length = 2 := by rw [ints_length] at h4; have := beq_iff_eq.1 h4; omega
      rw [if_neg (by omega), List.append_nil] at hst
      refine Pick.T (inI64_of (by omega) (by omega)) ?_
      refine Next.by (k + 1) ⟨by omega, hnx (.inr (.inl h4))⟩ (by omega) (by refine Weak.by [(0, some _), (1, some _), (2, some _), (3, some _), (4, some _), (5, some _)] (by ((repeat' first | exact rfl | exact trivial | refine And.intro ?_ ?_) <;> (repeat' first | exact rfl | exact trivial | refine And.intro ?_ ?_)); all_goals ((rw [hst]))) (by ((repeat' first | exact rfl | exact trivial | refine And.intro ?_ ?_) <;> (repeat' first | exact rfl | exact trivial | refine And.intro ?_ ?_)); all_goals ((rw [hst]))) (by rfl))
    refine Pick.by (fun h5 => ?_) (fun h5 => ?_)
    · have h5 : (nearL E (k : Int)).length = 3 := by rw [ints_length] at h5; have := beq_iff_eq.1 h5; omega
      rw [if_pos h5] at hst
      refine Pick.T (by simp [cut, ints_length] at htl ⊢; omega) ?_
      refine Pick.T (inI64_of (by omega) (by omega)) ?_
      refine Next.by (k + 1) ⟨by omega, hnx (.inr (.inr h5))⟩ (by omega) (by refine Weak.by [(0, some _), (1, some _), (2, some _), (3, some _), (4, some _), (5, some _)] (by ((repeat' first | exact rfl | exact trivial | refine And.intro ?_ ?_) <;> (repeat' first | exact rfl | exact trivial | refine And.intro ?_ ?_)); all_goals ((rw [hst, ints_snoc]; rfl))) (by ((repeat' first | exact rfl | exact trivial | refine And.intro ?_ ?_) <;> (repeat' first | exact rfl | exact trivial | refine And.intro ?_ ?_)); all_goals ((rw [hst, ints_snoc]; rfl))) (by rfl))
    · have hno : ¬ degOk E k := by
        rw [ints_length] at h3 h4 h5
        have h3 := beq_eq_false_iff_ne.1 h3
        have h4 := beq_eq_false_iff_ne.1 h4
        have h5 := beq_eq_false_iff_ne.1 h5
        unfold degOk
        omega
      have hv := readF_no (n := n) (E := E) (fun h => hno (h.2.1 k (by omega)))
      dsimp only
      rw [hv]
      exact ⟨rfl, rfl, ⟨rfl, ⟨rfl, rfl⟩, ⟨rfl, rfl⟩, trivial⟩, rfl, trivial⟩
  have hge : k = n.toNat := by have := of_decide_eq_false hc; omega
  subst hge
  have hdegs : degsOk n E := fun v hv => hdg v (by omega)
  have hTs3 : ∀ t ∈ topsK E n.toNat, 0 ≤ t ∧ t < n ∧ (nearL E t).length = 3 := fun t ht => by
    have := mem_topsK.1 ht
    exact ⟨this.1, by omega, this.2.2⟩
  have hTsn : (topsK E n.toNat).Nodup := (topsK_sorted E n.toNat).imp fun h => by omega
  obtain ⟨Ts, hTs⟩ : ∃ Ts, topsK E n.toNat = Ts := ⟨_, rfl⟩
  rw [hTs] at hTs3 hTsn htl ⊢
  have hTd : ∀ t ∈ Ts, (nearL E t).length = 3 := fun t ht => (hTs3 t ht).2.2
  refine Pick.by (fun h4 => ?_) (fun h4 => ?_)
  · have h4 : Ts.length = 4 := by rw [ints_length] at h4; have := beq_iff_eq.1 h4; omega
    have hkd : kindT Ts = 1 := if_pos h4
    refine LoopP.intro (α := Nat) (fun i => i ≤ Ts.length) (fun i => Ts.length - i) (fun i => [(1, .ptr 0 0), (2, .ptr 2 0), (4, .ptr 3 0), (5, .sl 4 none none), (9, .s (.i .i64 (usedT (pathsT n E (Ts.take i)) : Nat))), (68, .sl 5 none none), (69, .s (.i .i64 Ts.length)), (70, .s (.i .i64 i))])
      (fun i => [(0, some (.blk [.s (.i .i64 n), .sl 1 none none])), (1, some (.flat false 2 (edges E))), (2, some (.blk [.s (.i .i64 0), .nils, .nils])), (3, some (.blk [.s (.i .i64 1), .sl 5 none none, .sl 6 none none])), (4, some (.nest true 1 (rowsI (nbrs n.toNat E)) [] [])), (5, some (.flat true 1 (ints Ts))), (6, some (.nest true 1 (rowsI (pathsT n E (Ts.take i))) [] []))]) 7 0 (by omega) (by refine Weak.by [(0, some _), (1, some _), (2, some _), (3, some _), (4, some _), (5, some _), (6, none)] (by ((repeat' first | exact rfl | exact trivial | refine And.intro ?_ ?_) <;> (repeat' first | exact rfl | exact trivial | refine And.intro ?_ ?_)); all_goals ((first | exact sc_eq (by rw [ints_length]) | done))) (by ((repeat' first | exact rfl | exact trivial | refine And.intro ?_ ?_) <;> (repeat' first | exact rfl | exact trivial | refine And.intro ?_ ?_)); all_goals ((first | exact sc_eq (by rw [ints_length]) | done))) (by rfl)) ?_
    rintro i hi
    refine Pick.by (fun hc => ?_) (fun hc => ?_)
    · have hlt : i < Ts.length := by have := of_decide_eq_true hc; omega
      obtain ⟨t, ht⟩ : ∃ t, Ts[i] = t := ⟨_, rfl⟩
      have htm : t ∈ Ts := by rw [← ht]; exact List.getElem_mem hlt
      have hti : Ts[i]? = some t := by rw [List.getElem?_eq_getElem hlt, ht]
      obtain ⟨t0, t1, t2⟩ := hTs3 t htm
      have htn := nb_get (n := n.toNat) (E := E) (v := t.toNat) (by omega)
      rw [Int.toNat_of_nonneg t0] at htn
      refine Idx.by i rfl (by rw [ints_length]; exact hlt) ?_
      refine Look.by _ (ints_get hti) ?_
      refine Idx.by t.toNat (by show t = _; omega) (by rw [hkl]; omega) ?_
      refine Pick.T (by rw [hkl]; simp; omega) ?_
      refine Look.by _ htn ?_
      have hk0 : pathsT n E (Ts.take i) ++ keepT n E t ((nearL E t).take 0) = pathsT n E (Ts.take i) := by rw [List.take_zero]; simp [keepT]
      refine LoopP.intro (α := Nat) (fun j => j ≤ (nearL E t).length) (fun j => (nearL E t).length - j) (fun j => [(1, .ptr 0 0), (2, .ptr 2 0), (4, .ptr 3 0), (5, .sl 4 none none), (9, .s (.i .i64 (usedT (pathsT n E (Ts.take i) ++ keepT n E t ((nearL E t).take j)) : Nat))), (11, .s (.i .i64 t)), (68, .sl 5 none none), (69, .s (.i .i64 Ts.length)), (70, .s (.i .i64 i)), (77, .sl 4 (some (t.toNat, 0)) none), (78, .s (.i .i64 (nearL E t).length)), (79, .s (.i .i64 j))])
        (fun j => [(0, some (.blk [.s (.i .i64 n), .sl 1 none none])), (1, some (.flat false 2 (edges E))), (2, some (.blk [.s (.i .i64 0), .nils, .nils])), (3, some (.blk [.s (.i .i64 1), .sl 5 none none, .sl 6 none none])), (4, some (.nest true 1 (rowsI (nbrs n.toNat E)) [] [])), (5, some (.flat true 1 (ints Ts))), (6, some (.nest true 1 (rowsI (pathsT n E (Ts.take i) ++ keepT n E t ((nearL E t).take j))) [] []))]) 7 0 (by omega) (by refine Weak.by [(0, some _), (1, some _), (2, some _), (3, some _), (4, some _), (5, some _), (6, some _)] (by ((repeat' first | exact rfl | exact trivial | refine And.intro ?_ ?_) <;> (repeat' first | exact rfl | exact trivial | refine And.intro ?_ ?_)); all_goals ((first | exact sc_eq (by rw [ints_length]) | exact sc_eq (by rw [hk0]) | (rw [hk0]; done) | (simp; done)))) (by ((repeat' first | exact rfl | exact trivial | refine And.intro ?_ ?_) <;> (repeat' first | exact rfl | exact trivial | refine And.intro ?_ ?_)); all_goals ((first | exact sc_eq (by rw [ints_length]) | exact sc_eq (by rw [hk0]) | (rw [hk0]; done) | (simp; done)))) (by rfl)) ?_
      rintro j hj
      refine Pick.by (fun hc2 => ?_) (fun hc2 => ?_)
      · have hjl : j < (nearL E t).length := by have := of_decide_eq_true hc2; omega
        obtain ⟨x0, hx0⟩ : ∃ x, (nearL E t)[j] = x := ⟨_, rfl⟩
        have hxm : x0 ∈ nearL E t := by rw [← hx0]; exact List.getElem_mem hjl
        have hxg : (nearL E t)[j]? = some x0 := by rw [List.getElem?_eq_getElem hjl, hx0]
        refine Look.by _ htn ?_
        refine Idx.by j rfl (by rw [ints_length]; exact hjl) ?_
        refine Look.by _ htn ?_
        refine Look.by _ (ints_get hxg) ?_
        refine LoopP.intro (α := List Int) (fun p => FolT n E t p ∧ ∃ f, n.toNat + 2 ≤ f + p.length ∧ goT E f p = pathT n E t x0) (fun p => n.toNat + 2 - p.length) (fun p => [(1, .ptr 0 0), (2, .ptr 2 0), (4, .ptr 3 0), (5, .sl 4 none none), (9, .s (.i .i64 (usedT (pathsT n E (Ts.take i) ++ keepT n E t ((nearL E t).take j)) : Nat))), (11, .s (.i .i64 t)), (13, .s (.i .i64 (p.getLastD 0))), (14, .sl 7 none none), (68, .sl 5 none none), (69, .s (.i .i64 Ts.length)), (70, .s (.i .i64 i)), (77, .sl 4 (some (t.toNat, 0)) none), (78, .s (.i .i64 (nearL E t).length)), (79, .s (.i .i64 j))])
          (fun p => [(0, some (.blk [.s (.i .i64 n), .sl 1 none none])), (1, some (.flat false 2 (edges E))), (2, some (.blk [.s (.i .i64 0), .nils, .nils])), (3, some (.blk [.s (.i .i64 1), .sl 5 none none, .sl 6 none none])), (4, some (.nest true 1 (rowsI (nbrs n.toNat E)) [] [])), (5, some (.flat true 1 (ints Ts))), (6, some (.nest true 1 (rowsI (pathsT n E (Ts.take i) ++ keepT n E t ((nearL E t).take j))) [] [])), (7, some (.flat true 1 (ints p)))]) 8 [t, x0] ⟨FolT.start hxm, n.toNat, by simp, rfl⟩ (by refine Weak.by [(0, some _), (1, some _), (2, some _), (3, some _), (4, some _), (5, some _), (6, some _), (7, some _)] (by ((repeat' first | exact rfl | exact trivial | refine And.intro ?_ ?_) <;> (repeat' first | exact rfl | exact trivial | refine And.intro ?_ ?_)); all_goals ((first | (simp; done)))) (by ((repeat' first | exact rfl | exact trivial | refine And.intro ?_ ?_) <;> (repeat' first | exact rfl | exact trivial | refine And.intro ?_ ?_)); all_goals ((first | (simp; done)))) (by rfl)) ?_
        rintro p ⟨hF, f, hf, hg⟩
        have hp2 := hF.two
        have hpn := hF.len h1
        obtain ⟨xl, hxl⟩ : ∃ x, p.getLastD 0 = x := ⟨_, rfl⟩
        have hxr : 0 ≤ xl ∧ xl < n := by rw [← hxl, lastD_get (by omega)]; exact hF.inN h1 _ (by rw [getD_at (by omega)]; exact List.getElem_mem _)
        have hxt := nb_get (n := n.toNat) (E := E) (v := xl.toNat) (by omega)
        rw [Int.toNat_of_nonneg hxr.1] at hxt
        rw [hxl]
        refine Idx.by xl.toNat (by show xl = _; omega) (by rw [hkl]; omega) ?_
        refine Pick.T (by rw [hkl]; simp; omega) ?_
        refine Look.by _ hxt ?_
        refine Pick.by (fun h2 => ?_) (fun h2 => ?_)
        · have h2 : (nearL E xl).length = 2 := by rw [ints_length] at h2; have := beq_iff_eq.1 h2; omega
          obtain ⟨c, hcc⟩ : ∃ c, (nearL E xl).getD 0 0 = c := ⟨_, rfl⟩
          obtain ⟨d, hdd⟩ : ∃ d, (nearL E xl).getD 1 0 = d := ⟨_, rfl⟩
          obtain ⟨q, hqq⟩ : ∃ q, p.getD (p.length - 2) 0 = q := ⟨_, rfl⟩
          have hcg : (nearL E xl)[0]? = some c := by rw [getD_get (by omega), hcc]
          have hdg2 : (nearL E xl)[1]? = some d := by rw [getD_get (by omega), hdd]
          have hqg : p[p.length - 2]? = some q := by rw [getD_get (by omega), hqq]
          have hcr := (adj_in h1 (mem_nearL.1 (List.mem_of_getElem? hcg))).2
          have hdr := (adj_in h1 (mem_nearL.1 (List.mem_of_getElem? hdg2))).2
          have hqr := hF.inN h1 q (List.mem_of_getElem? hqg)
          have hnx : nxtT E p = c + d - q := by unfold nxtT; rw [hxl, hcc, hdd, hqq]
          refine Idx.by xl.toNat (by show xl = _; omega) (by rw [hkl]; omega) ?_
          refine Pick.T (by rw [hkl]; simp; omega) ?_
          refine Look.by _ hxt ?_
          refine Idx.by 0 rfl (by rw [ints_length]; omega) ?_
          refine Look.by _ hxt ?_
          refine Look.by _ (ints_get hcg) ?_
          refine Idx.by xl.toNat (by show xl = _; omega) (by rw [hkl]; omega) ?_
          refine Pick.T (by rw [hkl]; simp; omega) ?_
          refine Look.by _ hxt ?_
          refine Idx.by 1 rfl (by rw [ints_length]; omega) ?_
          refine Look.by _ hxt ?_
          refine Look.by _ (ints_get hdg2) ?_
          refine Pick.T (inI64_of (by omega) (by omega)) ?_
          refine Pick.T (inI64_of (by rw [ints_length]; omega) (by rw [ints_length]; omega)) ?_
          refine Idx.by (p.length - 2) (by rw [ints_length]; omega) (by rw [ints_length]; omega) ?_
          refine Look.by _ (ints_get hqg) ?_
          refine Pick.T (inI64_of (by omega) (by omega)) ?_
          refine Seg.by (by kernel_rfl) ?_
          refine Pick.T (by simp [cut, ints_length]; omega) ?_
          have h2' : (nearL E (p.getLastD 0)).length = 2 := by rw [hxl]; exact h2
          have hlen := hF.len2 h1 (by omega) h2'
          obtain ⟨f', rfl⟩ : ∃ f', f = f' + 1 := ⟨f - 1, by omega⟩
          rw [goT_step h2'] at hg
          have hla : (p ++ [nxtT E p]).getLastD 0 = c + d - q := by rw [List.getLastD_concat, hnx]
          refine Next.by (p ++ [nxtT E p]) ⟨hF.next h1 (by omega) h2', f', by simp; omega, hg⟩ (by simp; omega) (by refine Weak.by [(0, some _), (1, some _), (2, some _), (3, some _), (4, some _), (5, some _), (6, some _), (7, some _)] (by ((repeat' first | exact rfl | exact trivial | refine And.intro ?_ ?_) <;> (repeat' first | exact rfl | exact trivial | refine And.intro ?_ ?_)); all_goals ((first | exact sc_eq hla | (rw [hnx, ints_snoc]; rfl) | (simp; done)))) (by ((repeat' first | exact rfl | exact trivial | refine And.intro ?_ ?_) <;> (repeat' first | exact rfl | exact trivial | refine And.intro ?_ ?_)); all_goals ((first | exact sc_eq hla | (rw [hnx, ints_snoc]; rfl) | (simp; done)))) (by rfl))
        · have h2 : (nearL E xl).length ≠ 2 := by rw [ints_length] at h2; have := beq_eq_false_iff_ne.1 h2; omega
          have hpp : p = pathT n E t x0 := by rw [← hg, goT_stop (by rw [hxl]; exact h2)]
          have hstk : keepT n E t ((nearL E t).take (j + 1)) = keepT n E t ((nearL E t).take j) ++ (if t < xl then [p] else []) := by
            rw [List.take_succ_eq_append_getElem hjl, hx0, keepT_snoc, ← hpp, hxl]
          have hkl2 := keepT_len n E t ((nearL E t).take j)
          have htk : ((nearL E t).take j).length ≤ 3 := by rw [List.length_take]; omega
          have hpl := pathsT_len (n := n) (T := Ts.take i) fun y hy => hTd y (List.mem_of_mem_take hy)
          have hti3 : (Ts.take i).length ≤ 4 := by rw [List.length_take]; omega
          have hall : ∀ r ∈ pathsT n E (Ts.take i) ++ keepT n E t ((nearL E t).take j), r.length ≤ n.toNat + 1 := fun r hr => by
            rcases List.mem_append.1 hr with hr | hr
            · exact (pathsT_row h1 (fun y hy => hTd y (List.mem_of_mem_take hy)) hr).2
            · exact (keepT_row h1 t2 (fun y hy => List.mem_of_mem_take hy) hr).2
          have hul := usedT_le hall
          have hll : (pathsT n E (Ts.take i) ++ keepT n E t ((nearL E t).take j)).length ≤ 15 := by rw [List.length_append]; omega
          have hub : usedT (pathsT n E (Ts.take i) ++ keepT n E t ((nearL E t).take j)) ≤ 15000 := Nat.le_trans hul (Nat.le_trans (Nat.mul_le_mul hll (show n.toNat ≤ 1000 by omega)) (by decide))
          refine Pick.by (fun h3 => ?_) (fun h3 => ?_)
          · have h3 : ¬ t < xl := by have := of_decide_eq_true h3; omega
            rw [if_neg h3, List.append_nil] at hstk
            refine Pick.T (inI64_of (by omega) (by omega)) ?_
            refine Next.by (j + 1) (by omega) (by omega) (by refine Weak.by [(0, some _), (1, some _), (2, some _), (3, some _), (4, some _), (5, some _), (6, some _)] (by ((repeat' first | exact rfl | exact trivial | refine And.intro ?_ ?_) <;> (repeat' first | exact rfl | exact trivial | refine And.intro ?_ ?_)); all_goals ((first | exact sc_eq (by rw [hstk]) | (rw [hstk]; done) | (rw [hstk]; rfl) | (simp; done)))) (by ((repeat' first | exact rfl | exact trivial | refine And.intro ?_ ?_) <;> (repeat' first | exact rfl | exact trivial | refine And.intro ?_ ?_)); all_goals ((first | exact sc_eq (by rw [hstk]) | (rw [hstk]; done) | (rw [hstk]; rfl) | (simp; done)))) (by rfl))
          · have h3 : t < xl := by have := of_decide_eq_false h3; omega
            rw [if_pos h3] at hstk
            refine Pick.T (decide_eq_true (by rw [rowsI_length]; simp only [List.length_cons, List.length_nil]; omega)) ?_
            have hus : usedT (pathsT n E (Ts.take i) ++ (keepT n E t ((nearL E t).take j) ++ [p])) = usedT (pathsT n E (Ts.take i) ++ keepT n E t ((nearL E t).take j)) + (p.length - 1) := by rw [← List.append_assoc, usedT_snoc]
            have hil : ((ints p).length : Int) = p.length := by rw [ints_length]
            refine Pick.T (inI64_of (by rw [hil]; omega) (by rw [hil]; omega)) ?_
            refine Pick.T (inI64_of (by rw [hil]; omega) (by rw [hil]; omega)) ?_
            refine Pick.T (inI64_of (by omega) (by omega)) ?_
            refine Next.by (j + 1) (by omega) (by omega) (by refine Weak.by [(0, some _), (1, some _), (2, some _), (3, some _), (4, some _), (5, some _), (6, some _)] (by ((repeat' first | exact rfl | exact trivial | refine And.intro ?_ ?_) <;> (repeat' first | exact rfl | exact trivial | refine And.intro ?_ ?_)); all_goals ((first | exact sc_eq (by rw [hstk, hus, hil]; omega) | (rw [hstk, ← List.append_assoc, rowsI_snoc]; done) | (rw [hstk, ← List.append_assoc, rowsI_snoc]; rfl) | (simp; done)))) (by ((repeat' first | exact rfl | exact trivial | refine And.intro ?_ ?_) <;> (repeat' first | exact rfl | exact trivial | refine And.intro ?_ ?_)); all_goals ((first | exact sc_eq (by rw [hstk, hus, hil]; omega) | (rw [hstk, ← List.append_assoc, rowsI_snoc]; done) | (rw [hstk, ← List.append_assoc, rowsI_snoc]; rfl) | (simp; done)))) (by rfl))
      · have hjg : (nearL E t).length ≤ j := by have := of_decide_eq_false hc2; omega
        rw [List.take_of_length_le hjg]
        refine Pick.T (inI64_of (by omega) (by omega)) ?_
        have hstp : pathsT n E (Ts.take (i + 1)) = pathsT n E (Ts.take i) ++ keepT n E t (nearL E t) := by rw [List.take_succ_eq_append_getElem hlt, ht, pathsT_snoc]
        refine Next.by (i + 1) (by omega) (by omega) (by refine Weak.by [(0, some _), (1, some _), (2, some _), (3, some _), (4, some _), (5, some _), (6, some _)] (by ((repeat' first | exact rfl | exact trivial | refine And.intro ?_ ?_) <;> (repeat' first | exact rfl | exact trivial | refine And.intro ?_ ?_)); all_goals ((first | exact sc_eq (by rw [hstp]) | (rw [hstp]; done) | (rw [hstp]; rfl)))) (by ((repeat' first | exact rfl | exact trivial | refine And.intro ?_ ?_) <;> (repeat' first | exact rfl | exact trivial | refine And.intro ?_ ?_)); all_goals ((first | exact sc_eq (by rw [hstp]) | (rw [hstp]; done) | (rw [hstp]; rfl)))) (by rfl))
    · have hge : Ts.length ≤ i := by have := of_decide_eq_false hc; omega
      rw [List.take_of_length_le hge]
      have hpl := pathsT_len (n := n) hTd
      have hsn : sortNP goodT cmpT (rowsI (pathsT n E Ts)) := ⟨_, rfl, fun r hr => by have := pathsT_row h1 hTd hr; exact ⟨this.1, by omega⟩, paths_keys h1 hTd hTsn, by omega⟩
      have hsp := sortL_perm cmpT (pathsT n E Ts)
      have hfew : fewL (sortL cmpT (pathsT n E Ts)) := ⟨by rw [hsp.length_eq]; omega, fun r hr => by have := pathsT_row h1 hTd (hsp.mem_iff.1 hr); omega⟩
      refine ⟨rfl, rfl, _, _, rfl, hsn, ?_⟩
      rw [sortN_rows]
      refine Pick.by (fun h6 => ?_) (fun h6 => ?_)
      · have h6 : usedT (pathsT n E Ts) ≠ E.length := by intro e; rw [edges_length, e] at h6; simp at h6
        have hv := readF_no (n := n) (E := E) (fun h => h6 (by rw [← hTs]; exact h.2.2.2.1))
        dsimp only
        rw [hv]
        exact ⟨rfl, rfl, ⟨rfl, ⟨rfl, rfl⟩, ⟨rfl, rfl⟩, trivial⟩, rfl, trivial⟩
      have h6 : usedT (pathsT n E Ts) = E.length := by
        have h6 : (!((usedT (pathsT n E Ts) : Int) == ((edges E).length : Nat))) = false := h6
        rw [edges_length] at h6
        have : (usedT (pathsT n E Ts) : Int) = (E.length : Nat) := by simpa only [Bool.not_eq_false', beq_iff_eq] using h6
        omega
      refine Call.by _ _ (SubC_at (n := n) (E := E) (k := 1) (Ts := Ts) hfew) ?_
      refine Pick.by (fun h7 => ?_) (fun h7 => ?_)
      · have h7 : ¬ SubP n E 1 Ts (sortL cmpT (pathsT n E Ts)) := by
          have h7 : (!subB n E 1 Ts (sortL cmpT (pathsT n E Ts))) = true := h7
          intro h; rw [subB_iff.2 h] at h7; cases h7
        have hv := readF_no (n := n) (E := E) (fun h => h7 (by have := h.2.2.2.2; rw [hTs, hkd] at this; exact this))
        dsimp only
        rw [hv]
        exact ⟨rfl, rfl, ⟨rfl, ⟨rfl, rfl⟩, ⟨rfl, rfl⟩, trivial⟩, rfl, trivial⟩
      · have h7 : SubP n E 1 Ts (sortL cmpT (pathsT n E Ts)) := by
          have h7 : (!subB n E 1 Ts (sortL cmpT (pathsT n E Ts))) = false := h7
          exact subB_iff.1 (by simpa using h7)
        have hv := readF_yes (n := n) (E := E) ⟨h1, hdegs, by rw [hTs, hkd]; decide, by rw [hTs]; exact h6, by rw [hTs, hkd]; exact h7⟩
        rw [hTs, hkd] at hv
        dsimp only
        rw [hv]
        exact ⟨rfl, rfl, ⟨rfl, ⟨rfl, rfl⟩, ⟨rfl, rfl⟩, trivial⟩, rfl, trivial⟩
  have h4 : Ts.length ≠ 4 := by rw [ints_length] at h4; have := beq_eq_false_iff_ne.1 h4; omega
  refine Pick.by (fun h5 => ?_) (fun h5 => ?_)
  · have h5 : Ts.length = 2 := by rw [ints_length] at h5; have := beq_iff_eq.1 h5; omega
    have hkd : kindT Ts = 2 := by unfold kindT; rw [if_neg h4, if_pos h5]
    refine LoopP.intro (α := Nat) (fun i => i ≤ Ts.length) (fun i => Ts.length - i) (fun i => [(1, .ptr 0 0), (2, .ptr 2 0), (4, .ptr 3 0), (5, .sl 4 none none), (9, .s (.i .i64 (usedT (pathsT n E (Ts.take i)) : Nat))), (68, .sl 5 none none), (69, .s (.i .i64 Ts.length)), (70, .s (.i .i64 i))])
      (fun i => [(0, some (.blk [.s (.i .i64 n), .sl 1 none none])), (1, some (.flat false 2 (edges E))), (2, some (.blk [.s (.i .i64 0), .nils, .nils])), (3, some (.blk [.s (.i .i64 2), .sl 5 none none, .sl 6 none none])), (4, some (.nest true 1 (rowsI (nbrs n.toNat E)) [] [])), (5, some (.flat true 1 (ints Ts))), (6, some (.nest true 1 (rowsI (pathsT n E (Ts.take i))) [] []))]) 7 0 (by omega) (by refine Weak.by [(0, some _), (1, some _), (2, some _), (3, some _), (4, some _), (5, some _), (6, none)] (by ((repeat' first | exact rfl | exact trivial | refine And.intro ?_ ?_) <;> (repeat' first | exact rfl | exact trivial | refine And.intro ?_ ?_)); all_goals ((first | exact sc_eq (by rw [ints_length]) | done))) (by ((repeat' first | exact rfl | exact trivial | refine And.intro ?_ ?_) <;> (repeat' first | exact rfl | exact trivial | refine And.intro ?_ ?_)); all_goals ((first | exact sc_eq (by rw [ints_length]) | done))) (by rfl)) ?_
    rintro i hi
    refine Pick.by (fun hc => ?_) (fun hc => ?_)
    · have hlt : i < Ts.length := by have := of_decide_eq_true hc; omega
      obtain ⟨t, ht⟩ : ∃ t, Ts[i] = t := ⟨_, rfl⟩
      have htm : t ∈ Ts := by rw [← ht]; exact List.getElem_mem hlt
      have hti : Ts[i]? = some t := by rw [List.getElem?_eq_getElem hlt, ht]
      obtain ⟨t0, t1, t2⟩ := hTs3 t htm
      have htn := nb_get (n := n.toNat) (E := E) (v := t.toNat) (by omega)
      rw [Int.toNat_of_nonneg t0] at htn
      refine Idx.by i rfl (by rw [ints_length]; exact hlt) ?_
      refine Look.by _ (ints_get hti) ?_
      refine Idx.by t.toNat (by show t = _; omega) (by rw [hkl]; omega) ?_
      refine Pick.T (by rw [hkl]; simp; omega) ?_
      refine Look.by _ htn ?_
      have hk0 : pathsT n E (Ts.take i) ++ keepT n E t ((nearL E t).take 0) = pathsT n E (Ts.take i) := by rw [List.take_zero]; simp [keepT]
      refine LoopP.intro (α := Nat) (fun j => j ≤ (nearL E t).length) (fun j => (nearL E t).length - j) (fun j => [(1, .ptr 0 0), (2, .ptr 2 0), (4, .ptr 3 0), (5, .sl 4 none none), (9, .s (.i .i64 (usedT (pathsT n E (Ts.take i) ++ keepT n E t ((nearL E t).take j)) : Nat))), (11, .s (.i .i64 t)), (68, .sl 5 none none), (69, .s (.i .i64 Ts.length)), (70, .s (.i .i64 i)), (77, .sl 4 (some (t.toNat, 0)) none), (78, .s (.i .i64 (nearL E t).length)), (79, .s (.i .i64 j))])
        (fun j => [(0, some (.blk [.s (.i .i64 n), .sl 1 none none])), (1, some (.flat false 2 (edges E))), (2, some (.blk [.s (.i .i64 0), .nils, .nils])), (3, some (.blk [.s (.i .i64 2), .sl 5 none none, .sl 6 none none])), (4, some (.nest true 1 (rowsI (nbrs n.toNat E)) [] [])), (5, some (.flat true 1 (ints Ts))), (6, some (.nest true 1 (rowsI (pathsT n E (Ts.take i) ++ keepT n E t ((nearL E t).take j))) [] []))]) 7 0 (by omega) (by refine Weak.by [(0, some _), (1, some _), (2, some _), (3, some _), (4, some _), (5, some _), (6, some _)] (by ((repeat' first | exact rfl | exact trivial | refine And.intro ?_ ?_) <;> (repeat' first | exact rfl | exact trivial | refine And.intro ?_ ?_)); all_goals ((first | exact sc_eq (by rw [ints_length]) | exact sc_eq (by rw [hk0]) | (rw [hk0]; done) | (simp; done)))) (by ((repeat' first | exact rfl | exact trivial | refine And.intro ?_ ?_) <;> (repeat' first | exact rfl | exact trivial | refine And.intro ?_ ?_)); all_goals ((first | exact sc_eq (by rw [ints_length]) | exact sc_eq (by rw [hk0]) | (rw [hk0]; done) | (simp; done)))) (by rfl)) ?_
      rintro j hj
      refine Pick.by (fun hc2 => ?_) (fun hc2 => ?_)
      · have hjl : j < (nearL E t).length := by have := of_decide_eq_true hc2; omega
        obtain ⟨x0, hx0⟩ : ∃ x, (nearL E t)[j] = x := ⟨_, rfl⟩
        have hxm : x0 ∈ nearL E t := by rw [← hx0]; exact List.getElem_mem hjl
        have hxg : (nearL E t)[j]? = some x0 := by rw [List.getElem?_eq_getElem hjl, hx0]
        refine Look.by _ htn ?_
        refine Idx.by j rfl (by rw [ints_length]; exact hjl) ?_
        refine Look.by _ htn ?_
        refine Look.by _ (ints_get hxg) ?_
        refine LoopP.intro (α := List Int) (fun p => FolT n E t p ∧ ∃ f, n.toNat + 2 ≤ f + p.length ∧ goT E f p = pathT n E t x0) (fun p => n.toNat + 2 - p.length) (fun p => [(1, .ptr 0 0), (2, .ptr 2 0), (4, .ptr 3 0), (5, .sl 4 none none), (9, .s (.i .i64 (usedT (pathsT n E (Ts.take i) ++ keepT n E t ((nearL E t).take j)) : Nat))), (11, .s (.i .i64 t)), (13, .s (.i .i64 (p.getLastD 0))), (14, .sl 7 none none), (68, .sl 5 none none), (69, .s (.i .i64 Ts.length)), (70, .s (.i .i64 i)), (77, .sl 4 (some (t.toNat, 0)) none), (78, .s (.i .i64 (nearL E t).length)), (79, .s (.i .i64 j))])
          (fun p => [(0, some (.blk [.s (.i .i64 n), .sl 1 none none])), (1, some (.flat false 2 (edges E))), (2, some (.blk [.s (.i .i64 0), .nils, .nils])), (3, some (.blk [.s (.i .i64 2), .sl 5 none none, .sl 6 none none])), (4, some (.nest true 1 (rowsI (nbrs n.toNat E)) [] [])), (5, some (.flat true 1 (ints Ts))), (6, some (.nest true 1 (rowsI (pathsT n E (Ts.take i) ++ keepT n E t ((nearL E t).take j))) [] [])), (7, some (.flat true 1 (ints p)))]) 8 [t, x0] ⟨FolT.start hxm, n.toNat, by simp, rfl⟩ (by refine Weak.by [(0, some _), (1, some _), (2, some _), (3, some _), (4, some _), (5, some _), (6, some _), (7, some _)] (by ((repeat' first | exact rfl | exact trivial | refine And.intro ?_ ?_) <;> (repeat' first | exact rfl | exact trivial | refine And.intro ?_ ?_)); all_goals ((first | (simp; done)))) (by ((repeat' first | exact rfl | exact trivial | refine And.intro ?_ ?_) <;> (repeat' first | exact rfl | exact trivial | refine And.intro ?_ ?_)); all_goals ((first | (simp; done)))) (by rfl)) ?_
        rintro p ⟨hF, f, hf, hg⟩
        have hp2 := hF.two
        have hpn := hF.len h1
        obtain ⟨xl, hxl⟩ : ∃ x, p.getLastD 0 = x := ⟨_, rfl⟩
        have hxr : 0 ≤ xl ∧ xl < n := by rw [← hxl, lastD_get (by omega)]; exact hF.inN h1 _ (by rw [getD_at (by omega)]; exact List.getElem_mem _)
        have hxt := nb_get (n := n.toNat) (E := E) (v := xl.toNat) (by omega)
        rw [Int.toNat_of_nonneg hxr.1] at hxt
        rw [hxl]
        refine Idx.by xl.toNat (by show xl = _; omega) (by rw [hkl]; omega) ?_
        refine Pick.T (by rw [hkl]; simp; omega) ?_
        refine Look.by _ hxt ?_
        refine Pick.by (fun h2 => ?_) (fun h2 => ?_)
        · have h2 : (nearL E xl).length = 2 := by rw [ints_length] at h2; have := beq_iff_eq.1 h2; omega
          obtain ⟨c, hcc⟩ : ∃ c, (nearL E xl).getD 0 0 = c := ⟨_, rfl⟩
          obtain ⟨d, hdd⟩ : ∃ d, (nearL E xl).getD 1 0 = d := ⟨_, rfl⟩
          obtain ⟨q, hqq⟩ : ∃ q, p.getD (p.length - 2) 0 = q := ⟨_, rfl⟩
          have hcg : (nearL E xl)[0]? = some c := by rw [getD_get (by omega), hcc]
          have hdg2 : (nearL E xl)[1]? = some d := by rw [getD_get (by omega), hdd]
          have hqg : p[p.length - 2]? = some q := by rw [getD_get (by omega), hqq]
          have hcr := (adj_in h1 (mem_nearL.1 (List.mem_of_getElem? hcg))).2
          have hdr := (adj_in h1 (mem_nearL.1 (List.mem_of_getElem? hdg2))).2
          have hqr := hF.inN h1 q (List.mem_of_getElem? hqg)
          have hnx : nxtT E p = c + d - q := by unfold nxtT; rw [hxl, hcc, hdd, hqq]
          refine Idx.by xl.toNat (by show xl = _; omega) (by rw [hkl]; omega) ?_
          refine Pick.T (by rw [hkl]; simp; omega) ?_
          refine Look.by _ hxt ?_
          refine Idx.by 0 rfl (by rw [ints_length]; omega) ?_
          refine Look.by _ hxt ?_
          refine Look.by _ (ints_get hcg) ?_
          refine Idx.by xl.toNat (by show xl = _; omega) (by rw [hkl]; omega) ?_
          refine Pick.T (by rw [hkl]; simp; omega) ?_
          refine Look.by _ hxt ?_
          refine Idx.by 1 rfl (by rw [ints_length]; omega) ?_
          refine Look.by _ hxt ?_
          refine Look.by _ (ints_get hdg2) ?_
          refine Pick.T (inI64_of (by omega) (by omega)) ?_
          refine Pick.T (inI64_of (by rw [ints_length]; omega) (by rw [ints_length]; omega)) ?_
          refine Idx.by (p.length - 2) (by rw [ints_length]; omega) (by rw [ints_length]; omega) ?_
          refine Look.by _ (ints_get hqg) ?_
          refine Pick.T (inI64_of (by omega) (by omega)) ?_
          refine Seg.by (by kernel_rfl) ?_
          refine Pick.T (by simp [cut, ints_length]; omega) ?_
          have h2' : (nearL E (p.getLastD 0)).length = 2 := by rw [hxl]; exact h2
          have hlen := hF.len2 h1 (by omega) h2'
          obtain ⟨f', rfl⟩ : ∃ f', f = f' + 1 := ⟨f - 1, by omega⟩
          rw [goT_step h2'] at hg
          have hla : (p ++ [nxtT E p]).getLastD 0 = c + d - q := by rw [List.getLastD_concat, hnx]
          refine Next.by (p ++ [nxtT E p]) ⟨hF.next h1 (by omega) h2', f', by simp; omega, hg⟩ (by simp; omega) (by refine Weak.by [(0, some _), (1, some _), (2, some _), (3, some _), (4, some _), (5, some _), (6, some _), (7, some _)] (by ((repeat' first | exact rfl | exact trivial | refine And.intro ?_ ?_) <;> (repeat' first | exact rfl | exact trivial | refine And.intro ?_ ?_)); all_goals ((first | exact sc_eq hla | (rw [hnx, ints_snoc]; rfl) | (simp; done)))) (by ((repeat' first | exact rfl | exact trivial | refine And.intro ?_ ?_) <;> (repeat' first | exact rfl | exact trivial | refine And.intro ?_ ?_)); all_goals ((first | exact sc_eq hla | (rw [hnx, ints_snoc]; rfl) | (simp; done)))) (by rfl))
        · have h2 : (nearL E xl).length ≠ 2 := by rw [ints_length] at h2; have := beq_eq_false_iff_ne.1 h2; omega
          have hpp : p = pathT n E t x0 := by rw [← hg, goT_stop (by rw [hxl]; exact h2)]
          have hstk : keepT n E t ((nearL E t).take (j + 1)) = keepT n E t ((nearL E t).take j) ++ (if t < xl then [p] else []) := by
            rw [List.take_succ_eq_append_getElem hjl, hx0, keepT_snoc, ← hpp, hxl]
          have hkl2 := keepT_len n E t ((nearL E t).take j)
          have htk : ((nearL E t).take j).length ≤ 3 := by rw [List.length_take]; omega
          have hpl := pathsT_len (n := n) (T := Ts.take i) fun y hy => hTd y (List.mem_of_mem_take hy)
          have hti3 : (Ts.take i).length ≤ 4 := by rw [List.length_take]; omega
          have hall : ∀ r ∈ pathsT n E (Ts.take i) ++ keepT n E t ((nearL E t).take j), r.length ≤ n.toNat + 1 := fun r hr => by
            rcases List.mem_append.1 hr with hr | hr
            · exact (pathsT_row h1 (fun y hy => hTd y (List.mem_of_mem_take hy)) hr).2
            · exact (keepT_row h1 t2 (fun y hy => List.mem_of_mem_take hy) hr).2
          have hul := usedT_le hall
          have hll : (pathsT n E (Ts.take i) ++ keepT n E t ((nearL E t).take j)).length ≤ 15 := by rw [List.length_append]; omega
          have hub : usedT (pathsT n E (Ts.take i) ++ keepT n E t ((nearL E t).take j)) ≤ 15000 := Nat.le_trans hul (Nat.le_trans (Nat.mul_le_mul hll (show n.toNat ≤ 1000 by omega)) (by decide))
          refine Pick.by (fun h3 => ?_) (fun h3 => ?_)
          · have h3 : ¬ t < xl := by have := of_decide_eq_true h3; omega
            rw [if_neg h3, List.append_nil] at hstk
            refine Pick.T (inI64_of (by omega) (by omega)) ?_
            refine Next.by (j + 1) (by omega) (by omega) (by refine Weak.by [(0, some _), (1, some _), (2, some _), (3, some _), (4, some _), (5, some _), (6, some _)] (by ((repeat' first | exact rfl | exact trivial | refine And.intro ?_ ?_) <;> (repeat' first | exact rfl | exact trivial | refine And.intro ?_ ?_)); all_goals ((first | exact sc_eq (by rw [hstk]) | (rw [hstk]; done) | (rw [hstk]; rfl) | (simp; done)))) (by ((repeat' first | exact rfl | exact trivial | refine And.intro ?_ ?_) <;> (repeat' first | exact rfl | exact trivial | refine And.intro ?_ ?_)); all_goals ((first | exact sc_eq (by rw [hstk]) | (rw [hstk]; done) | (rw [hstk]; rfl) | (simp; done)))) (by rfl))
          · have h3 : t < xl := by have := of_decide_eq_false h3; omega
            rw [if_pos h3] at hstk
            refine Pick.T (decide_eq_true (by rw [rowsI_length]; simp only [List.length_cons, List.length_nil]; omega)) ?_
            have hus : usedT (pathsT n E (Ts.take i) ++ (keepT n E t ((nearL E t).take j) ++ [p])) = usedT (pathsT n E (Ts.take i) ++ keepT n E t ((nearL E t).take j)) + (p.length - 1) := by rw [← List.append_assoc, usedT_snoc]
            have hil : ((ints p).length : Int) = p.length := by rw [ints_length]
            refine Pick.T (inI64_of (by rw [hil]; omega) (by rw [hil]; omega)) ?_
            refine Pick.T (inI64_of (by rw [hil]; omega) (by rw [hil]; omega)) ?_
            refine Pick.T (inI64_of (by omega) (by omega)) ?_
            refine Next.by (j + 1) (by omega) (by omega) (by refine Weak.by [(0, some _), (1, some _), (2, some _), (3, some _), (4, some _), (5, some _), (6, some _)] (by ((repeat' first | exact rfl | exact trivial | refine And.intro ?_ ?_) <;> (repeat' first | exact rfl | exact trivial | refine And.intro ?_ ?_)); all_goals ((first | exact sc_eq (by rw [hstk, hus, hil]; omega) | (rw [hstk, ← List.append_assoc, rowsI_snoc]; done) | (rw [hstk, ← List.append_assoc, rowsI_snoc]; rfl) | (simp; done)))) (by ((repeat' first | exact rfl | exact trivial | refine And.intro ?_ ?_) <;> (repeat' first | exact rfl | exact trivial | refine And.intro ?_ ?_)); all_goals ((first | exact sc_eq (by rw [hstk, hus, hil]; omega) | (rw [hstk, ← List.append_assoc, rowsI_snoc]; done) | (rw [hstk, ← List.append_assoc, rowsI_snoc]; rfl) | (simp; done)))) (by rfl))
      · have hjg : (nearL E t).length ≤ j := by have := of_decide_eq_false hc2; omega
        rw [List.take_of_length_le hjg]
        refine Pick.T (inI64_of (by omega) (by omega)) ?_
        have hstp : pathsT n E (Ts.take (i + 1)) = pathsT n E (Ts.take i) ++ keepT n E t (nearL E t) := by rw [List.take_succ_eq_append_getElem hlt, ht, pathsT_snoc]
        refine Next.by (i + 1) (by omega) (by omega) (by refine Weak.by [(0, some _), (1, some _), (2, some _), (3, some _), (4, some _), (5, some _), (6, some _)] (by ((repeat' first | exact rfl | exact trivial | refine And.intro ?_ ?_) <;> (repeat' first | exact rfl | exact trivial | refine And.intro ?_ ?_)); all_goals ((first | exact sc_eq (by rw [hstp]) | (rw [hstp]; done) | (rw [hstp]; rfl)))) (by ((repeat' first | exact rfl | exact trivial | refine And.intro ?_ ?_) <;> (repeat' first | exact rfl | exact trivial | refine And.intro ?_ ?_)); all_goals ((first | exact sc_eq (by rw [hstp]) | (rw [hstp]; done) | (rw [hstp]; rfl)))) (by rfl))
    · have hge : Ts.length ≤ i := by have := of_decide_eq_false hc; omega
      rw [List.take_of_length_le hge]
      have hpl := pathsT_len (n := n) hTd
      have hsn : sortNP goodT cmpT (rowsI (pathsT n E Ts)) := ⟨_, rfl, fun r hr => by have := pathsT_row h1 hTd hr; exact ⟨this.1, by omega⟩, paths_keys h1 hTd hTsn, by omega⟩
      have hsp := sortL_perm cmpT (pathsT n E Ts)
      have hfew : fewL (sortL cmpT (pathsT n E Ts)) := ⟨by rw [hsp.length_eq]; omega, fun r hr => by have := pathsT_row h1 hTd (hsp.mem_iff.1 hr); omega⟩
      refine ⟨rfl, rfl, _, _, rfl, hsn, ?_⟩
      rw [sortN_rows]
      refine Pick.by (fun h6 => ?_) (fun h6 => ?_)
      · have h6 : usedT (pathsT n E Ts) ≠ E.length := by intro e; rw [edges_length, e] at h6; simp at h6
        have hv := readF_no (n := n) (E := E) (fun h => h6 (by rw [← hTs]; exact h.2.2.2.1))
        dsimp only
        rw [hv]
        exact ⟨rfl, rfl, ⟨rfl, ⟨rfl, rfl⟩, ⟨rfl, rfl⟩, trivial⟩, rfl, trivial⟩
      have h6 : usedT (pathsT n E Ts) = E.length := by
        have h6 : (!((usedT (pathsT n E Ts) : Int) == ((edges E).length : Nat))) = false := h6
        rw [edges_length] at h6
        have : (usedT (pathsT n E Ts) : Int) = (E.length : Nat) := by simpa only [Bool.not_eq_false', beq_iff_eq] using h6
        omega
      refine Call.by _ _ (SubC_at (n := n) (E := E) (k := 2) (Ts := Ts) hfew) ?_
      refine Pick.by (fun h7 => ?_) (fun h7 => ?_)
      · have h7 : ¬ SubP n E 2 Ts (sortL cmpT (pathsT n E Ts)) := by
          have h7 : (!subB n E 2 Ts (sortL cmpT (pathsT n E Ts))) = true := h7
          intro h; rw [subB_iff.2 h] at h7; cases h7
        have hv := readF_no (n := n) (E := E) (fun h => h7 (by have := h.2.2.2.2; rw [hTs, hkd] at this; exact this))
        dsimp only
        rw [hv]
        exact ⟨rfl, rfl, ⟨rfl, ⟨rfl, rfl⟩, ⟨rfl, rfl⟩, trivial⟩, rfl, trivial⟩
      · have h7 : SubP n E 2 Ts (sortL cmpT (pathsT n E Ts)) := by
          have h7 : (!subB n E 2 Ts (sortL cmpT (pathsT n E Ts))) = false := h7
          exact subB_iff.1 (by simpa using h7)
        have hv := readF_yes (n := n) (E := E) ⟨h1, hdegs, by rw [hTs, hkd]; decide, by rw [hTs]; exact h6, by rw [hTs, hkd]; exact h7⟩
        rw [hTs, hkd] at hv
        dsimp only
        rw [hv]
        exact ⟨rfl, rfl, ⟨rfl, ⟨rfl, rfl⟩, ⟨rfl, rfl⟩, trivial⟩, rfl, trivial⟩
  · have h5 : Ts.length ≠ 2 := by rw [ints_length] at h5; have := beq_eq_false_iff_ne.1 h5; omega
    have hv := readF_no (n := n) (E := E) (fun h => h.2.2.1 (by rw [hTs]; unfold kindT; rw [if_neg h4, if_neg h5]))
    dsimp only
    rw [hv]
    exact ⟨rfl, rfl, ⟨rfl, ⟨rfl, rfl⟩, ⟨rfl, rfl⟩, trivial⟩, rfl, trivial⟩
end Go.Sh

set_option linter.unusedVariables false
set_option linter.unusedSimpArgs false
namespace Go.Sh
open Go.Proofs
/-! ### carcanetlaw09.small -/
def cutP (L : List (List Int)) : List (List Int) := (L.take 8).map fun x => x.take 20
theorem cutP_few (L : List (List Int)) : fewL (cutP L) := by
  unfold fewL cutP
  refine ⟨by simp; omega, fun l hl => ?_⟩
  obtain ⟨x, _, rfl⟩ := List.mem_map.1 hl
  simp; omega
abbrev Sb := Int × List Int × List (List Int)
noncomputable def Small9C : Con := conP 1 (fun _ : Sb => True) (fun a => [sbV false a.1 a.2.1 a.2.2]) (fun a => sbV true a.1 (a.2.1.take 6) (cutP a.2.2))
theorem Small9C_at (k : Int) (Ts : List Int) (L : List (List Int)) : Small9C.F [sbV false k Ts L] = some (sbV true k (Ts.take 6) (cutP L), []) :=
  conP_at (a := (k, Ts, L)) (fun a b _ _ h => by
    obtain ⟨k, Ts, L⟩ := a
    obtain ⟨k', Ts', L'⟩ := b
    simp at h
    obtain ⟨rfl, rfl, rfl⟩ := sbV_inj h
    rfl) trivial
set_option maxHeartbeats 1000000 in
theorem Small9_ok : SoundC Try.prog T 28 Small9C := by
  refine sound_con (X := { Γ := [], T := T, nt := 49 }) cr_none hmix hT sound_nil Try.func28 (by rfl) (by rfl) (by rfl) (by rfl) 3 ?_
  rintro ⟨kd, Ts, l⟩ -
  dsimp only
  refine ⟨⟨Nat.le_of_ble_eq_true rfl, Nat.le_of_ble_eq_true rfl⟩, ?_⟩
  have hcutT : cut (subOf none 0 0 (min Ts.length 6)) (ints Ts) = ints (Ts.take 6) := by
    simp only [subOf, cut, List.drop_zero, Nat.sub_zero, ints, List.map_take]
    rw [List.take_eq_take_iff]; simp; omega
  refine Rng.by 0 (min Ts.length 6) rfl ?_ (by omega) ?_ ?_
  · rw [ints_length]
    show (if (6 : Int) < (Ts.length : Int) then (6 : Int) else (Ts.length : Int)) = _
    split <;> omega
  · rw [ints_length]; omega
  refine Pick.T (by rw [hcutT]; simp [ints_length]; omega) ?_
  refine Seg.by (by kernel_rfl) ?_
  refine LoopP.intro (α := Nat) (fun k => k ≤ l.length ∧ k ≤ 8) (fun k => l.length - k) (fun k => [(1, .ptr 0 0), (2, .ptr 3 0), (3, .ptr 4 0), (4, .s (.i .i64 k))])
    (fun k => [(0, some (.blk [.s (.i .i64 kd), .sl 1 none none, .sl 2 none none])), (1, some (.flat false 1 (ints Ts))), (2, some (.nest false 1 (rowsI l) [] [])), (3, some (.blk [.s (.i .i64 0), .nils, .nils])), (4, some (.blk [.s (.i .i64 kd), .sl 5 none none, .sl 6 none none])), (5, some (.flat true 1 (ints (Ts.take 6)))), (6, some (.nest true 1 (rowsI ((l.take k).map fun x => x.take 20)) [] []))]) 7 0 (by simp) (by refine Weak.by [(0, some _), (1, some _), (2, some _), (3, some _), (4, some _), (5, some _), (6, none)] (by ((repeat' first | exact rfl | exact trivial | refine And.intro ?_ ?_) <;> (repeat' first | exact rfl | exact trivial | refine And.intro ?_ ?_)); all_goals ((first | (rw [← hcutT]; rfl) | (simp [rowsI]; done)))) (by ((repeat' first | exact rfl | exact trivial | refine And.intro ?_ ?_) <;> (repeat' first | exact rfl | exact trivial | refine And.intro ?_ ?_)); all_goals ((first | (rw [← hcutT]; rfl) | (simp [rowsI]; done)))) (by rfl)) ?_
  rintro k ⟨hk, hk6⟩
  have endd : k = l.length ∨ k = 8 → rowsI (cutP l) = rowsI ((l.take k).map fun x => x.take 20) := fun h => by
    unfold cutP
    rcases h with h | h
    · rw [List.take_of_length_le (by omega : l.length ≤ k), List.take_of_length_le (by omega : l.length ≤ 8)]
    · rw [h]
  refine Pick.by (fun hc => ?_) (fun hc => ?_)
  · have hlt : k < l.length := by simpa [rowsI_length] using hc
    refine Pick.by (fun h6 => ?_) (fun h6 => ?_)
    · have h6 : k < 8 := by simp at h6; omega
      have hstep : rowsI ((l.take (k + 1)).map fun x => x.take 20) = rowsI ((l.take k).map fun x => x.take 20) ++ [ints (l[k].take 20)] := by
        rw [← rowsI_snoc, take_snoc _ hlt]
      have hroom : (rowsI ((l.take k).map fun x => x.take 20)).length = k := by rw [rowsI_length]; simp; omega
      refine Idx.by k rfl ?_ ?_
      · rw [rowsI_length]; exact hlt
      refine Pick.T (by simpa [rowsI_length] using hlt) ?_
      refine Idx.by k rfl ?_ ?_
      · rw [rowsI_length]; exact hlt
      refine Pick.T (by simpa [rowsI_length] using hlt) ?_
      refine Look.by _ (rowsI_get (List.getElem?_eq_getElem hlt)) ?_
      refine Look.by _ (rowsI_get (List.getElem?_eq_getElem hlt)) ?_
      refine Rng.by 0 (min l[k].length 20) rfl ?_ (by omega) ?_ ?_
      · rw [ints_length]
        show (if (20 : Int) < (l[k].length : Int) then (20 : Int) else (l[k].length : Int)) = _
        split <;> omega
      · rw [ints_length]; omega
      have hcut : cut (subOf none 0 0 (min l[k].length 20)) (ints l[k]) = ints (l[k].take 20) := by
        simp only [subOf, cut, List.drop_zero, Nat.sub_zero, ints, List.map_take]
        rw [List.take_eq_take_iff]; simp; omega
      refine Look.by _ (rowsI_get (List.getElem?_eq_getElem hlt)) ?_
      refine Pick.T (by rw [hcut]; simp [ints_length, cut]; omega) ?_
      refine Pick.T (by rw [hroom]; simp; omega) ?_
      refine Seg.by (by kernel_rfl) ?_
      refine Pick.T (inI64_of (by omega) (by omega)) ?_
      refine Next.by (k + 1) ⟨by omega, by omega⟩ (by omega) (by refine Weak.by [(0, some _), (1, some _), (2, some _), (3, some _), (4, some _), (5, some _), (6, some _)] (by ((repeat' first | exact rfl | exact trivial | refine And.intro ?_ ?_) <;> (repeat' first | exact rfl | exact trivial | refine And.intro ?_ ?_)); all_goals (rw [hstep, ← hcut]; rfl)) (by ((repeat' first | exact rfl | exact trivial | refine And.intro ?_ ?_) <;> (repeat' first | exact rfl | exact trivial | refine And.intro ?_ ?_)); all_goals (rw [hstep, ← hcut]; rfl)) (by rfl))
    · have h6 : ¬ k < 8 := by simp at h6; omega
      exact ⟨rfl, rfl, ⟨rfl, rfl⟩, ⟨rfl, endd (.inr (by omega))⟩, trivial⟩
  · have hge : l.length ≤ k := by simpa [rowsI_length] using hc
    exact ⟨rfl, rfl, ⟨rfl, rfl⟩, ⟨rfl, endd (.inl (by omega))⟩, trivial⟩
end Go.Sh

set_option linter.unusedVariables false
set_option linter.unusedSimpArgs false
namespace Go.Sh
open Go.Proofs
/-! ### carcanetlaw09.shown -/
def E9 : List Ed := [(0, 1), (0, 2), (0, 3), (1, 2), (1, 4), (2, 3), (3, 4)]
def L9 : List (List Int) := [[0, 1], [0, 2], [0, 3], [1, 2], [1, 4, 3], [2, 3]]
theorem right9 : RightP 5 E9 := by unfold RightP E9 okE; decide
instance (E : List Ed) (a b : Int) : Decidable (adjE E a b) := by unfold adjE; exact inferInstance
theorem path9 {p : List Int} (h : (p ≠ [] ∧ (0 ≤ p.headD 0 ∧ p.headD 0 < 5) ∧ p.Nodup) ∧ ∀ i, i < p.length → i + 1 < p.length → adjE E9 (p.getD i 0) (p.getD (i + 1) 0)) : PathP 5 E9 p :=
  ⟨right9, h.1.1, h.1.2.1, h.1.2.2, fun i hi => h.2 i (by omega) hi⟩
theorem sub9 : SubP 5 E9 1 [0, 1, 2, 3] L9 := by
  refine ⟨.inl ⟨rfl, rfl, rfl⟩, fun i p hp => ?_, by unfold ApartP; decide⟩
  have hi : i < 6 := (List.getElem?_eq_some_iff.1 hp).1
  match i, hi, hp with
  | 0, _, hp => cases hp; exact ⟨path9 (by decide), by decide, by decide, by decide⟩
  | 1, _, hp => cases hp; exact ⟨path9 (by decide), by decide, by decide, by decide⟩
  | 2, _, hp => cases hp; exact ⟨path9 (by decide), by decide, by decide, by decide⟩
  | 3, _, hp => cases hp; exact ⟨path9 (by decide), by decide, by decide, by decide⟩
  | 4, _, hp => cases hp; exact ⟨path9 (by decide), by decide, by decide, by decide⟩
  | 5, _, hp => cases hp; exact ⟨path9 (by decide), by decide, by decide, by decide⟩
theorem tops9 : topsK E9 5 = [0, 1, 2, 3] := by decide
theorem paths9 : pathsT 5 E9 [0, 1, 2, 3] = L9 := by decide
theorem sort9 : sortL cmpT L9 = L9 := by
  unfold sortL
  exact List.mergeSort_of_pairwise (by decide)
theorem read_E9 : readF 5 E9 = ((1, [0, 1, 2, 3], L9), true) := by
  have hP : ReadP 5 E9 := by
    refine ⟨right9, fun v hv => ?_, ?_, ?_, ?_⟩
    · have hv : v < 5 := by omega
      have h : ∀ v : Nat, v < 5 → (nearL E9 (v : Int)).length = 0 ∨ (nearL E9 (v : Int)).length = 2 ∨ (nearL E9 (v : Int)).length = 3 := by decide
      exact h v hv
    · show kindT (topsK E9 5) ≠ 0
      rw [tops9]; decide
    · show usedT (pathsT 5 E9 (topsK E9 5)) = _
      rw [tops9, paths9]; decide
    · show SubP 5 E9 (kindT (topsK E9 5)) (topsK E9 5) (sortL cmpT (pathsT 5 E9 (topsK E9 5)))
      rw [tops9, paths9, sort9]; exact sub9
  rw [readF_yes hP]
  show ((kindT (topsK E9 5), topsK E9 5, sortL cmpT (pathsT 5 E9 (topsK E9 5))), true) = _
  rw [tops9, paths9, sort9]; rfl
theorem read_30 : readF 3 [] = ((0, [], []), false) := readF_no fun h => h.2.2.1 (by decide)
theorem mod9 : modF 1 [0, 1, 2, 3] L9 = (1, [[0], [1, 4], [2], [3]]) := by decide
theorem segs9 : insAll (segs L9) = E9 := by decide
theorem sub_no : ¬ SubP 5 E9 0 [] [] := fun h => by rcases h.1 with h | h <;> exact absurd h.1 (by decide)
noncomputable def Shown9C : Con := conP 0 (fun _ : Unit => True) (fun _ => []) (fun _ => .one (.s (.b true)))
theorem Shown9C_at : Shown9C.F [] = some (.one (.s (.b true)), []) := conP_at (a := ()) (fun a b _ _ h => rfl) trivial
theorem few9 : fewL L9 := by unfold fewL; decide
set_option maxHeartbeats 1000000 in
theorem Shown9_ok : SoundC Try.prog T 27 Shown9C := by
  refine sound_con (X := { Γ := [(37, ReadC), (31, ModC), (34, EdgC), (29, SubC)], T := T, nt := 98 }) cr_none hmix hT (sound_cons Read_ok (sound_cons Mod_ok (sound_cons Edg_ok (sound_cons Sub_ok sound_nil)))) Try.func27 (by rfl) (by rfl) (by rfl) (by rfl) 0 ?_
  rintro ⟨⟩ -
  refine ⟨⟨Nat.le_of_ble_eq_true rfl, Nat.le_of_ble_eq_true rfl⟩, ?_⟩
  have h1 := ReadC_at (n := 5) (E := E9) (by decide)
  rw [read_E9] at h1
  refine Call.by _ _ h1 ?_
  have h2 := ModC_at (k := 1) (Ts := [0, 1, 2, 3]) few9
  rw [mod9] at h2
  refine Call.by _ _ h2 ?_
  have h3 := EdgC_at (k := 1) (Ts := [0, 1, 2, 3]) few9
  rw [segs9] at h3
  refine Call.by _ _ h3 ?_
  have h4 := ReadC_at (n := 3) (E := []) (by decide)
  rw [read_30] at h4
  refine Call.by _ _ h4 ?_
  refine Idx.by 3 rfl (by decide) ?_
  refine Look.by [.i .i64 3] rfl ?_
  refine Idx.by 4 rfl (by decide) ?_
  refine Look.by (ints [1, 4, 3]) rfl ?_
  have h5 := SubC_at (n := 5) (E := E9) (k := 1) (Ts := [0, 1, 2, 3]) few9
  rw [subB_iff.2 sub9] at h5
  refine Call.by _ _ h5 ?_
  have h6 := SubC_at (n := 5) (E := E9) (k := 0) (Ts := []) (L := []) (by unfold fewL; decide)
  rw [subB_no sub_no] at h6
  refine Call.by _ _ h6 ?_
  refine Idx.by 1 rfl (by decide) ?_
  refine Look.by (ints [1, 4]) rfl ?_
  exact ⟨rfl, rfl⟩
end Go.Sh

set_option linter.unusedVariables false
set_option linter.unusedSimpArgs false
namespace Go.Sh
open Go.Proofs
/-! ### carcanetref03.Has -/
/-! ### carcanetref05.IsPath -/
end Go.Sh

set_option linter.unusedVariables false
set_option linter.unusedSimpArgs false
namespace Go.Sh
open Go.Proofs
/-! ### carcanetref05.Apart -/
/-! ### carcanetref09.shape, from -/
noncomputable def ShpC : Con := conP 1 (fun _ : Sb => True) (fun a => [sbV false a.1 a.2.1 a.2.2]) (fun a => .one (.s (.b (decide (shapeP a.1 a.2.1 a.2.2)))))
theorem ShpC_at (k : Int) (Ts : List Int) (L : List (List Int)) : ShpC.F [sbV false k Ts L] = some (.one (.s (.b (decide (shapeP k Ts L)))), []) :=
  conP_at (a := (k, Ts, L)) (fun a b _ _ h => by
    obtain ⟨k, Ts, L⟩ := a
    obtain ⟨k', Ts', L'⟩ := b
    simp at h
    obtain ⟨rfl, rfl, rfl⟩ := sbV_inj h
    rfl) trivial
theorem Shp_ok : SoundC Try.prog T 63 ShpC := by
  refine sound_con (X := { Γ := [], T := T, nt := 35 }) cr_none hmix hT sound_nil Try.func63 (by rfl) (by rfl) (by rfl) (by rfl) 3 ?_
  rintro ⟨k, Ts, L⟩ -
  dsimp only
  refine ⟨⟨Nat.le_of_ble_eq_true rfl, Nat.le_of_ble_eq_true rfl⟩, ?_⟩
  refine Pick.by (fun h1 => ?_) (fun h1 => ?_)
  · have h1 : k = 1 := by simpa using h1
    refine Pick.by (fun h2 => ?_) (fun h2 => ?_)
    · have h2 : Ts.length = 4 := by rw [ints_length] at h2; have := beq_iff_eq.1 h2; omega
      refine Pick.by (fun h3 => ?_) (fun h3 => ?_)
      · have h3 : L.length = 6 := by rw [rowsI_length] at h3; have := beq_iff_eq.1 h3; omega
        refine ⟨rfl, ?_⟩
        show Sc.b true = Sc.b (decide (shapeP k Ts L))
        rw [decide_eq_true (show shapeP k Ts L by unfold shapeP; omega)]
      · have h3 : L.length ≠ 6 := by rw [rowsI_length] at h3; have := beq_eq_false_iff_ne.1 h3; omega
        refine Pick.by (fun g1 => ?_) (fun g1 => ?_)
        · have g1 : k = 2 := by simpa using g1
          refine Pick.by (fun g2 => ?_) (fun g2 => ?_)
          · have g2 : Ts.length = 2 := by rw [ints_length] at g2; have := beq_iff_eq.1 g2; omega
            refine ⟨rfl, ?_⟩
            show Sc.b (((rowsI L).length : Int) == 3) = Sc.b (decide (shapeP k Ts L))
            rw [rowsI_length]
            congr 1
            rw [Bool.eq_iff_iff, beq_iff_eq, decide_eq_true_iff]
            unfold shapeP
            omega
          · have g2 : Ts.length ≠ 2 := by rw [ints_length] at g2; have := beq_eq_false_iff_ne.1 g2; omega
            refine ⟨rfl, ?_⟩
            show Sc.b false = Sc.b (decide (shapeP k Ts L))
            rw [decide_eq_false (show ¬ shapeP k Ts L by unfold shapeP; omega)]
        · have g1 : k ≠ 2 := by simpa using g1
          refine ⟨rfl, ?_⟩
          show Sc.b false = Sc.b (decide (shapeP k Ts L))
          rw [decide_eq_false (show ¬ shapeP k Ts L by unfold shapeP; omega)]
    · have h2 : Ts.length ≠ 4 := by rw [ints_length] at h2; have := beq_eq_false_iff_ne.1 h2; omega
      refine Pick.by (fun g1 => ?_) (fun g1 => ?_)
      · have g1 : k = 2 := by simpa using g1
        refine Pick.by (fun g2 => ?_) (fun g2 => ?_)
        · have g2 : Ts.length = 2 := by rw [ints_length] at g2; have := beq_iff_eq.1 g2; omega
          refine ⟨rfl, ?_⟩
          show Sc.b (((rowsI L).length : Int) == 3) = Sc.b (decide (shapeP k Ts L))
          rw [rowsI_length]
          congr 1
          rw [Bool.eq_iff_iff, beq_iff_eq, decide_eq_true_iff]
          unfold shapeP
          omega
        · have g2 : Ts.length ≠ 2 := by rw [ints_length] at g2; have := beq_eq_false_iff_ne.1 g2; omega
          refine ⟨rfl, ?_⟩
          show Sc.b false = Sc.b (decide (shapeP k Ts L))
          rw [decide_eq_false (show ¬ shapeP k Ts L by unfold shapeP; omega)]
      · have g1 : k ≠ 2 := by simpa using g1
        refine ⟨rfl, ?_⟩
        show Sc.b false = Sc.b (decide (shapeP k Ts L))
        rw [decide_eq_false (show ¬ shapeP k Ts L by unfold shapeP; omega)]
  · have h1 : k ≠ 1 := by simpa using h1
    refine Pick.by (fun g1 => ?_) (fun g1 => ?_)
    · have g1 : k = 2 := by simpa using g1
      refine Pick.by (fun g2 => ?_) (fun g2 => ?_)
      · have g2 : Ts.length = 2 := by rw [ints_length] at g2; have := beq_iff_eq.1 g2; omega
        refine ⟨rfl, ?_⟩
        show Sc.b (((rowsI L).length : Int) == 3) = Sc.b (decide (shapeP k Ts L))
        rw [rowsI_length]
        congr 1
        rw [Bool.eq_iff_iff, beq_iff_eq, decide_eq_true_iff]
        unfold shapeP
        omega
      · have g2 : Ts.length ≠ 2 := by rw [ints_length] at g2; have := beq_eq_false_iff_ne.1 g2; omega
        refine ⟨rfl, ?_⟩
        show Sc.b false = Sc.b (decide (shapeP k Ts L))
        rw [decide_eq_false (show ¬ shapeP k Ts L by unfold shapeP; omega)]
    · have g1 : k ≠ 2 := by simpa using g1
      refine ⟨rfl, ?_⟩
      show Sc.b false = Sc.b (decide (shapeP k Ts L))
      rw [decide_eq_false (show ¬ shapeP k Ts L by unfold shapeP; omega)]
def fromF (k i : Int) : Int × Int := if k = 2 then (0, 1) else if i < 3 then (0, i + 1) else if i < 5 then (1, i - 1) else (2, 3)
noncomputable def FromC : Con := conP 2 (fun a : Int × Int => 0 ≤ a.2 ∧ a.2 ≤ 1000) (fun a => [.one (.s (.i .i64 a.1)), .one (.s (.i .i64 a.2))]) (fun a => .tup [.one (.s (.i .i64 (fromF a.1 a.2).1)), .one (.s (.i .i64 (fromF a.1 a.2).2))])
theorem FromC_at (k : Int) {i : Int} (h : 0 ≤ i ∧ i ≤ 1000) : FromC.F [.one (.s (.i .i64 k)), .one (.s (.i .i64 i))] = some (.tup [.one (.s (.i .i64 (fromF k i).1)), .one (.s (.i .i64 (fromF k i).2))], []) :=
  conP_at (a := (k, i)) (fun x y _ _ h => by
    obtain ⟨a, b⟩ := x
    obtain ⟨c, d⟩ := y
    simp at h
    obtain ⟨rfl, rfl⟩ := h
    rfl) h
theorem From_ok : SoundC Try.prog T 65 FromC := by
  refine sound_con (X := { Γ := [], T := T, nt := 16 }) cr_none hmix hT sound_nil Try.func65 (by rfl) (by rfl) (by rfl) (by rfl) 2 ?_
  rintro ⟨k, i⟩ ⟨h0, h9⟩
  dsimp only at h0 h9 ⊢
  refine ⟨⟨Nat.le_of_ble_eq_true rfl, Nat.le_of_ble_eq_true rfl⟩, ?_⟩
  refine Pick.by (fun h1 => ?_) (fun h1 => ?_)
  · have h1 : k = 2 := by simpa using h1
    rw [show fromF k i = (0, 1) from if_pos h1]
    exact ⟨rfl, rfl, rfl, rfl, trivial⟩
  have h1 : ¬ k = 2 := by simpa using h1
  refine Pick.by (fun h2 => ?_) (fun h2 => ?_)
  · have h2 : i < 3 := of_decide_eq_true h2
    rw [show fromF k i = (0, i + 1) by unfold fromF; rw [if_neg h1, if_pos h2]]
    refine Pick.T (inI64_of (by omega) (by omega)) ?_
    exact ⟨rfl, rfl, rfl, rfl, trivial⟩
  have h2 : ¬ i < 3 := of_decide_eq_false h2
  refine Pick.by (fun h3 => ?_) (fun h3 => ?_)
  · have h3 : i < 5 := of_decide_eq_true h3
    rw [show fromF k i = (1, i - 1) by unfold fromF; rw [if_neg h1, if_neg h2, if_pos h3]]
    refine Pick.T (inI64_of (by omega) (by omega)) ?_
    exact ⟨rfl, rfl, rfl, rfl, trivial⟩
  have h3 : ¬ i < 5 := of_decide_eq_false h3
  rw [show fromF k i = (2, 3) by unfold fromF; rw [if_neg h1, if_neg h2, if_neg h3]]
  exact ⟨rfl, rfl, rfl, rfl, trivial⟩
/-! ### carcanetref09.Check -/
/-! ### carcanetlaw09.TopoCheck -/
end Go.Sh

set_option linter.unusedVariables false
set_option linter.unusedSimpArgs false
namespace Go.Sh
open Go.Proofs
/-! ### carcanetref09.Model -/
def rowA (Ts : List Int) (L : List (List Int)) (i j : Nat) : List Int := Ts.getD i 0 :: ((List.range j).filter fun j => fromT 1 j == i).flatMap fun j => innerL (L.getD j [])
theorem rowA_succ (Ts : List Int) (L : List (List Int)) (i j : Nat) : rowA Ts L i (j + 1) = rowA Ts L i j ++ (if fromT 1 j = i then innerL (L.getD j []) else []) := by
  unfold rowA
  rw [List.range_succ, List.filter_append, List.flatMap_append, List.cons_append]
  congr 2
  by_cases h : fromT 1 j = i <;> simp [h]
def setsI (Ts : List Int) (L : List (List Int)) (i : Nat) : List (List Int) := (List.range i).map fun t => rowA Ts L t L.length
theorem setsI_succ (Ts : List Int) (L : List (List Int)) (i : Nat) : setsI Ts L (i + 1) = setsI Ts L i ++ [rowA Ts L i L.length] := by simp [setsI, List.range_succ]
theorem setsI_end (Ts : List Int) (L : List (List Int)) : setsI Ts L Ts.length = setsA Ts L L.length := rfl
theorem fromF_T {i : Nat} (h : i < 6) : (fromF 1 i).1 = fromT 1 i := by
  have : ∀ i : Nat, i < 6 → (fromF 1 i).1 = fromT 1 i := by decide
  exact this i h
set_option maxHeartbeats 4000000 in
theorem Mod9_ok : SoundC Try.prog T 32 ModC := by
  refine sound_con (X := { Γ := [(63, ShpC), (65, FromC)], T := T, nt := 120 }) cr_none hmix hT (sound_cons Shp_ok (sound_cons From_ok sound_nil)) Try.func32 (by rfl) (by rfl) (by rfl) (by rfl) 3 ?_
  rintro ⟨k, Ts, L⟩ ⟨hL, hLr⟩
  dsimp only at hL hLr ⊢
  refine ⟨⟨Nat.le_of_ble_eq_true rfl, Nat.le_of_ble_eq_true rfl⟩, ?_⟩
  refine Call.by _ _ (ShpC_at k Ts L) ?_
  refine Pick.by (fun h1 => ?_) (fun h1 => ?_)
  · have h1 : ¬ shapeP k Ts L := by have h1 : (!decide (shapeP k Ts L)) = true := h1; simpa using h1
    have hv := modF_no (k := k) (Ts := Ts) (L := L) (fun h => h1 h.1)
    dsimp only
    rw [hv]
    exact ⟨rfl, rfl, ⟨rfl, rfl⟩, trivial⟩
  have h1 : shapeP k Ts L := by have h1 : (!decide (shapeP k Ts L)) = false := h1; simpa using h1
  refine LoopP.intro (α := Nat) (fun i => i ≤ L.length ∧ ∀ p ∈ L.take i, 2 ≤ p.length) (fun i => L.length - i) (fun i => [(1, .ptr 0 0), (2, .ptr 3 0), (3, .ptr 4 0), (4, .s (.i .i64 i))])
    (fun i => [(0, some (.blk [.s (.i .i64 k), .sl 1 none none, .sl 2 none none])), (1, some (.flat false 1 (ints Ts))), (2, some (.nest false 1 (rowsI L) [] [])), (3, some (.blk [.s (.i .i64 0), .nils])), (4, some (.blk [.s (.i .i64 0), .nils]))]) 5 0 ⟨by omega, by simp⟩ (by refine Weak.by [(0, some _), (1, some _), (2, some _), (3, some _), (4, some _)] (by ((repeat' first | exact rfl | exact trivial | refine And.intro ?_ ?_) <;> (repeat' first | exact rfl | exact trivial | refine And.intro ?_ ?_))) (by ((repeat' first | exact rfl | exact trivial | refine And.intro ?_ ?_) <;> (repeat' first | exact rfl | exact trivial | refine And.intro ?_ ?_))) (by rfl)) ?_
  rintro i ⟨hi, hall⟩
  refine Pick.by (fun hc => ?_) (fun hc => ?_)
  · have hlt : i < L.length := by have := of_decide_eq_true hc; rw [rowsI_length] at this; omega
    obtain ⟨p, hp⟩ : ∃ p, L[i] = p := ⟨_, rfl⟩
    have hLi : L[i]? = some p := by rw [List.getElem?_eq_getElem hlt, hp]
    have hpm : p ∈ L := List.mem_of_getElem? hLi
    have hpg : (rowsI L)[i]? = some (ints p) := rowsI_get hLi
    refine Idx.by i rfl (by rw [rowsI_length]; exact hlt) ?_
    refine Pick.T (by simpa [rowsI_length] using hlt) ?_
    refine Look.by _ hpg ?_
    refine Pick.by (fun h3 => ?_) (fun h3 => ?_)
    · have h3 : p.length < 2 := by have := of_decide_eq_true h3; rw [ints_length] at this; omega
      have hv := modF_no (k := k) (Ts := Ts) (L := L) (fun h => by have := h.2 p hpm; omega)
      dsimp only
      rw [hv]
      exact ⟨rfl, rfl, ⟨rfl, rfl⟩, trivial⟩
    have h3 : 2 ≤ p.length := by have := of_decide_eq_false h3; rw [ints_length] at this; omega
    refine Pick.T (inI64_of (by omega) (by omega)) ?_
    refine Next.by (i + 1) ⟨by omega, all_take hlt hall (by rw [hp]; exact h3)⟩ (by omega) (by refine Weak.by [(0, some _), (1, some _), (2, some _), (3, some _), (4, some _)] (by ((repeat' first | exact rfl | exact trivial | refine And.intro ?_ ?_) <;> (repeat' first | exact rfl | exact trivial | refine And.intro ?_ ?_))) (by ((repeat' first | exact rfl | exact trivial | refine And.intro ?_ ?_) <;> (repeat' first | exact rfl | exact trivial | refine And.intro ?_ ?_))) (by rfl))
  have hge : L.length ≤ i := by have := of_decide_eq_false hc; rw [rowsI_length] at this; omega
  rw [List.take_of_length_le hge] at hall
  have hv : modF k Ts L = (k, if k = 1 then setsA Ts L L.length else setsB2 Ts L L.length) := by
    unfold modF
    rw [if_pos ⟨h1, hall⟩]
    unfold setsB2
    rw [List.take_length]; rfl
  rcases id h1 with ⟨rfl, hT4, hL6⟩ | ⟨rfl, hT2, hL3⟩
  · rw [if_pos rfl] at hv
    refine LoopP.intro (α := Nat) (fun i => i ≤ Ts.length) (fun i => Ts.length - i) (fun i => [(1, .ptr 0 0), (2, .ptr 3 0), (3, .ptr 4 0), (5, .s (.i .i64 i))])
      (fun i => [(0, some (.blk [.s (.i .i64 1), .sl 1 none none, .sl 2 none none])), (1, some (.flat false 1 (ints Ts))), (2, some (.nest false 1 (rowsI L) [] [])), (3, some (.blk [.s (.i .i64 0), .nils])), (4, some (.blk [.s (.i .i64 1), .sl 5 none none])), (5, some (.nest true 1 (rowsI (setsI Ts L i)) [] []))]) 6 0 (by omega) (by refine Weak.by [(0, some _), (1, some _), (2, some _), (3, some _), (4, some _), (5, none)] (by ((repeat' first | exact rfl | exact trivial | refine And.intro ?_ ?_) <;> (repeat' first | exact rfl | exact trivial | refine And.intro ?_ ?_))) (by ((repeat' first | exact rfl | exact trivial | refine And.intro ?_ ?_) <;> (repeat' first | exact rfl | exact trivial | refine And.intro ?_ ?_))) (by rfl)) ?_
    rintro i hi
    refine Pick.by (fun hc => ?_) (fun hc => ?_)
    · have hlt : i < Ts.length := by have := of_decide_eq_true hc; rw [ints_length] at this; omega
      have hti : Ts[i]? = some (Ts.getD i 0) := by rw [List.getD_eq_getElem?_getD, List.getElem?_eq_getElem hlt]; rfl
      refine Idx.by i rfl (by rw [ints_length]; exact hlt) ?_
      refine Look.by _ (ints_get hti) ?_
      refine LoopP.intro (α := Nat) (fun j => j ≤ L.length) (fun j => L.length - j) (fun j => [(1, .ptr 0 0), (2, .ptr 3 0), (3, .ptr 4 0), (5, .s (.i .i64 i)), (6, .sl 6 none none), (7, .s (.i .i64 j))])
        (fun j => [(0, some (.blk [.s (.i .i64 1), .sl 1 none none, .sl 2 none none])), (1, some (.flat false 1 (ints Ts))), (2, some (.nest false 1 (rowsI L) [] [])), (3, some (.blk [.s (.i .i64 0), .nils])), (4, some (.blk [.s (.i .i64 1), .sl 5 none none])), (5, some (.nest true 1 (rowsI (setsI Ts L i)) [] [])), (6, some (.flat true 1 (ints (rowA Ts L i j))))]) 7 0 (by omega) (by refine Weak.by [(0, some _), (1, some _), (2, some _), (3, some _), (4, some _), (5, some _), (6, some _)] (by ((repeat' first | exact rfl | exact trivial | refine And.intro ?_ ?_) <;> (repeat' first | exact rfl | exact trivial | refine And.intro ?_ ?_))) (by ((repeat' first | exact rfl | exact trivial | refine And.intro ?_ ?_) <;> (repeat' first | exact rfl | exact trivial | refine And.intro ?_ ?_))) (by rfl)) ?_
      rintro j hj
      have hrl : (rowA Ts L i j).length ≤ 50000 := by
        have : ∀ l : List Nat, (l.flatMap fun j => innerL (L.getD j [])).length ≤ l.length * 5000 := fun l => by
          induction l with
          | nil => simp
          | cons x l ih =>
            rw [List.flatMap_cons, List.length_append, List.length_cons, Nat.succ_mul]
            have : (innerL (L.getD x [])).length ≤ 5000 := by
              rw [innerL_length, List.getD_eq_getElem?_getD]
              cases hx : L[x]? with
              | none => simp
              | some y => have := hLr y (List.mem_of_getElem? hx); simp; omega
            omega
        have h1 := this ((List.range j).filter fun j => fromT 1 j == i)
        have h2 : ((List.range j).filter fun j => fromT 1 j == i).length ≤ j := Nat.le_trans (List.length_filter_le _ _) (by simp)
        have h3 := Nat.mul_le_mul_right 5000 h2
        unfold rowA
        rw [List.length_cons]
        omega
      refine Pick.by (fun hc2 => ?_) (fun hc2 => ?_)
      · have hjl : j < L.length := by have := of_decide_eq_true hc2; rw [rowsI_length] at this; omega
        have hrs := rowA_succ Ts L i j
        have hff := fromF_T (i := j) (by omega)
        refine Call.by _ _ (FromC_at 1 (i := (j : Int)) (by omega)) ?_
        refine Pick.by (fun h5 => ?_) (fun h5 => ?_)
        · have h5 : fromT 1 j = i := by
            have h5 : (fromF 1 j).1 = (i : Int) := by simpa using h5
            omega
          rw [if_pos h5] at hrs
          obtain ⟨p, hp⟩ : ∃ p, L[j] = p := ⟨_, rfl⟩
          have hLj : L[j]? = some p := by rw [List.getElem?_eq_getElem hjl, hp]
          have hpg : (rowsI L)[j]? = some (ints p) := rowsI_get hLj
          have hgd : L.getD j [] = p := by rw [List.getD_eq_getElem?_getD, hLj]; rfl
          have hp2 := hall p (List.mem_of_getElem? hLj)
          have hp5 := hLr p (List.mem_of_getElem? hLj)
          rw [hgd] at hrs
          refine Idx.by j rfl (by rw [rowsI_length]; exact hjl) ?_
          refine Pick.T (by simpa [rowsI_length] using hjl) ?_
          refine Idx.by j rfl (by rw [rowsI_length]; exact hjl) ?_
          refine Pick.T (by simpa [rowsI_length] using hjl) ?_
          refine Look.by _ hpg ?_
          refine Pick.T (inI64_of (by rw [ints_length]; omega) (by rw [ints_length]; omega)) ?_
          refine Look.by _ hpg ?_
          refine Rng.by 1 (p.length - 1) rfl (by rw [ints_length]; omega) (by omega) (by rw [ints_length]; omega) ?_
          refine Look.by _ hpg ?_
          have hcut : cut (subOf none 0 1 (p.length - 1)) (ints p) = ints (innerL p) := inner_cut p
          refine Pick.T (by rw [hcut]; simp [ints_length, innerL_length, cut]; omega) ?_
          refine Seg.by (by kernel_rfl) ?_
          refine Pick.T (inI64_of (by omega) (by omega)) ?_
          refine Next.by (j + 1) (by omega) (by omega) (by refine Weak.by [(0, some _), (1, some _), (2, some _), (3, some _), (4, some _), (5, some _), (6, some _)] (by ((repeat' first | exact rfl | exact trivial | refine And.intro ?_ ?_) <;> (repeat' first | exact rfl | exact trivial | refine And.intro ?_ ?_)); all_goals ((first | (rw [hrs, ints_append, ← hcut]; rfl) | (simp; done)))) (by ((repeat' first | exact rfl | exact trivial | refine And.intro ?_ ?_) <;> (repeat' first | exact rfl | exact trivial | refine And.intro ?_ ?_)); all_goals ((first | (rw [hrs, ints_append, ← hcut]; rfl) | (simp; done)))) (by rfl))
        · have h5 : fromT 1 j ≠ i := by
            have h5 : (fromF 1 j).1 ≠ (i : Int) := by simpa using h5
            intro e; exact h5 (by omega)
          rw [if_neg h5, List.append_nil] at hrs
          refine Pick.T (inI64_of (by omega) (by omega)) ?_
          refine Next.by (j + 1) (by omega) (by omega) (by refine Weak.by [(0, some _), (1, some _), (2, some _), (3, some _), (4, some _), (5, some _), (6, some _)] (by ((repeat' first | exact rfl | exact trivial | refine And.intro ?_ ?_) <;> (repeat' first | exact rfl | exact trivial | refine And.intro ?_ ?_)); all_goals ((first | (rw [hrs]; done) | (rw [hrs]; rfl)))) (by ((repeat' first | exact rfl | exact trivial | refine And.intro ?_ ?_) <;> (repeat' first | exact rfl | exact trivial | refine And.intro ?_ ?_)); all_goals ((first | (rw [hrs]; done) | (rw [hrs]; rfl)))) (by rfl))
      · have hjg : j = L.length := by have := of_decide_eq_false hc2; rw [rowsI_length] at this; omega
        subst hjg
        refine Pick.T (decide_eq_true (by rw [rowsI_length]; simp only [setsI, List.length_map, List.length_range, List.length_cons, List.length_nil]; omega)) ?_
        refine Pick.T (inI64_of (by omega) (by omega)) ?_
        refine Next.by (i + 1) (by omega) (by omega) (by refine Weak.by [(0, some _), (1, some _), (2, some _), (3, some _), (4, some _), (5, some _)] (by ((repeat' first | exact rfl | exact trivial | refine And.intro ?_ ?_) <;> (repeat' first | exact rfl | exact trivial | refine And.intro ?_ ?_)); all_goals ((rw [setsI_succ, ← rowsI_snoc]))) (by ((repeat' first | exact rfl | exact trivial | refine And.intro ?_ ?_) <;> (repeat' first | exact rfl | exact trivial | refine And.intro ?_ ?_)); all_goals ((rw [setsI_succ, ← rowsI_snoc]))) (by rfl))
    have hge : i = Ts.length := by have := of_decide_eq_false hc; rw [ints_length] at this; omega
    subst hge
    rw [setsI_end]
    refine LoopP.intro (α := Unit) (fun _ => True) (fun _ => 0) (fun _ => [(1, .ptr 0 0), (2, .ptr 3 0), (3, .ptr 4 0), (10, .s (.i .i64 0))])
      (fun _ => [(0, some (.blk [.s (.i .i64 1), .sl 1 none none, .sl 2 none none])), (1, some (.flat false 1 (ints Ts))), (2, some (.nest false 1 (rowsI L) [] [])), (3, some (.blk [.s (.i .i64 0), .nils])), (4, some (.blk [.s (.i .i64 1), .sl 5 none none])), (5, some (.nest true 1 (rowsI (setsA Ts L L.length)) [] []))]) 6 () trivial (by refine Weak.by [(0, some _), (1, some _), (2, some _), (3, some _), (4, some _), (5, some _)] (by ((repeat' first | exact rfl | exact trivial | refine And.intro ?_ ?_) <;> (repeat' first | exact rfl | exact trivial | refine And.intro ?_ ?_))) (by ((repeat' first | exact rfl | exact trivial | refine And.intro ?_ ?_) <;> (repeat' first | exact rfl | exact trivial | refine And.intro ?_ ?_))) (by rfl)) ?_
    rintro ⟨⟩ -
    refine Pick.by (fun h7 => ?_) (fun h7 => ?_)
    · dsimp only
      rw [hv]
      exact ⟨rfl, rfl, ⟨rfl, rfl⟩, trivial⟩
    · dsimp only
      rw [hv]
      exact ⟨rfl, rfl, ⟨rfl, rfl⟩, trivial⟩
  · rw [if_neg (by decide)] at hv
    refine LoopP.intro (α := Nat) (fun i => i ≤ Ts.length) (fun i => Ts.length - i) (fun i => [(1, .ptr 0 0), (2, .ptr 3 0), (3, .ptr 4 0), (5, .s (.i .i64 i))])
      (fun i => [(0, some (.blk [.s (.i .i64 2), .sl 1 none none, .sl 2 none none])), (1, some (.flat false 1 (ints Ts))), (2, some (.nest false 1 (rowsI L) [] [])), (3, some (.blk [.s (.i .i64 0), .nils])), (4, some (.blk [.s (.i .i64 2), .sl 5 none none])), (5, some (.nest true 1 (rowsI ((Ts.take i).map fun v => [v])) [] []))]) 6 0 (by omega) (by refine Weak.by [(0, some _), (1, some _), (2, some _), (3, some _), (4, some _), (5, none)] (by ((repeat' first | exact rfl | exact trivial | refine And.intro ?_ ?_) <;> (repeat' first | exact rfl | exact trivial | refine And.intro ?_ ?_))) (by ((repeat' first | exact rfl | exact trivial | refine And.intro ?_ ?_) <;> (repeat' first | exact rfl | exact trivial | refine And.intro ?_ ?_))) (by rfl)) ?_
    rintro i hi
    refine Pick.by (fun hc => ?_) (fun hc => ?_)
    · have hlt : i < Ts.length := by have := of_decide_eq_true hc; rw [ints_length] at this; omega
      have hst : rowsI ((Ts.take (i + 1)).map fun v => [v]) = rowsI ((Ts.take i).map fun v => [v]) ++ [ints [Ts[i]]] := by rw [List.take_succ_eq_append_getElem hlt, List.map_append, ← rowsI_snoc]; rfl
      refine Idx.by i rfl (by rw [ints_length]; exact hlt) ?_
      refine Look.by _ (ints_get (List.getElem?_eq_getElem hlt)) ?_
      refine LoopP.intro (α := Unit) (fun _ => True) (fun _ => 0) (fun _ => [(1, .ptr 0 0), (2, .ptr 3 0), (3, .ptr 4 0), (5, .s (.i .i64 i)), (6, .sl 6 none none), (7, .s (.i .i64 0))])
        (fun _ => [(0, some (.blk [.s (.i .i64 2), .sl 1 none none, .sl 2 none none])), (1, some (.flat false 1 (ints Ts))), (2, some (.nest false 1 (rowsI L) [] [])), (3, some (.blk [.s (.i .i64 0), .nils])), (4, some (.blk [.s (.i .i64 2), .sl 5 none none])), (5, some (.nest true 1 (rowsI ((Ts.take i).map fun v => [v])) [] [])), (6, some (.flat true 1 (ints [Ts[i]])))]) 7 () trivial (by refine Weak.by [(0, some _), (1, some _), (2, some _), (3, some _), (4, some _), (5, some _), (6, some _)] (by ((repeat' first | exact rfl | exact trivial | refine And.intro ?_ ?_) <;> (repeat' first | exact rfl | exact trivial | refine And.intro ?_ ?_))) (by ((repeat' first | exact rfl | exact trivial | refine And.intro ?_ ?_) <;> (repeat' first | exact rfl | exact trivial | refine And.intro ?_ ?_))) (by rfl)) ?_
      rintro ⟨⟩ -
      refine Pick.by (fun h7 => ?_) (fun h7 => ?_)
      · refine Pick.T (decide_eq_true (by rw [rowsI_length, List.length_map, List.length_take]; simp only [List.length_cons, List.length_nil]; omega)) ?_
        refine Pick.T (inI64_of (by omega) (by omega)) ?_
        refine Next.by (i + 1) (by omega) (by omega) (by refine Weak.by [(0, some _), (1, some _), (2, some _), (3, some _), (4, some _), (5, some _)] (by ((repeat' first | exact rfl | exact trivial | refine And.intro ?_ ?_) <;> (repeat' first | exact rfl | exact trivial | refine And.intro ?_ ?_)); all_goals ((rw [hst]))) (by ((repeat' first | exact rfl | exact trivial | refine And.intro ?_ ?_) <;> (repeat' first | exact rfl | exact trivial | refine And.intro ?_ ?_)); all_goals ((rw [hst]))) (by rfl))
      · refine Pick.T (decide_eq_true (by rw [rowsI_length, List.length_map, List.length_take]; simp only [List.length_cons, List.length_nil]; omega)) ?_
        refine Pick.T (inI64_of (by omega) (by omega)) ?_
        refine Next.by (i + 1) (by omega) (by omega) (by refine Weak.by [(0, some _), (1, some _), (2, some _), (3, some _), (4, some _), (5, some _)] (by ((repeat' first | exact rfl | exact trivial | refine And.intro ?_ ?_) <;> (repeat' first | exact rfl | exact trivial | refine And.intro ?_ ?_)); all_goals ((rw [hst]))) (by ((repeat' first | exact rfl | exact trivial | refine And.intro ?_ ?_) <;> (repeat' first | exact rfl | exact trivial | refine And.intro ?_ ?_)); all_goals ((rw [hst]))) (by rfl))
    have hge : Ts.length ≤ i := by have := of_decide_eq_false hc; rw [ints_length] at this; omega
    rw [List.take_of_length_le hge]
    refine LoopP.intro (α := Nat) (fun j => j ≤ L.length) (fun j => L.length - j) (fun j => [(1, .ptr 0 0), (2, .ptr 3 0), (3, .ptr 4 0), (10, .s (.i .i64 j))])
      (fun j => [(0, some (.blk [.s (.i .i64 2), .sl 1 none none, .sl 2 none none])), (1, some (.flat false 1 (ints Ts))), (2, some (.nest false 1 (rowsI L) [] [])), (3, some (.blk [.s (.i .i64 0), .nils])), (4, some (.blk [.s (.i .i64 2), .sl 5 none none])), (5, some (.nest true 1 (rowsI (setsB2 Ts L j)) [] []))]) 6 0 (by omega) (by refine Weak.by [(0, some _), (1, some _), (2, some _), (3, some _), (4, some _), (5, some _)] (by ((repeat' first | exact rfl | exact trivial | refine And.intro ?_ ?_) <;> (repeat' first | exact rfl | exact trivial | refine And.intro ?_ ?_)); all_goals ((rw [setsB2_zero]))) (by ((repeat' first | exact rfl | exact trivial | refine And.intro ?_ ?_) <;> (repeat' first | exact rfl | exact trivial | refine And.intro ?_ ?_)); all_goals ((rw [setsB2_zero]))) (by rfl)) ?_
    rintro j hj
    refine Pick.by (fun hc => ?_) (fun hc => ?_)
    · have hjl : j < L.length := by have := of_decide_eq_true hc; rw [rowsI_length] at this; omega
      obtain ⟨p, hp⟩ : ∃ p, L[j] = p := ⟨_, rfl⟩
      have hLj : L[j]? = some p := by rw [List.getElem?_eq_getElem hjl, hp]
      have hpg : (rowsI L)[j]? = some (ints p) := rowsI_get hLj
      have hp2 := hall p (List.mem_of_getElem? hLj)
      have hp5 := hLr p (List.mem_of_getElem? hLj)
      have hcut : cut (subOf none 0 1 (p.length - 1)) (ints p) = ints (innerL p) := inner_cut p
      have hst : rowsI (setsB2 Ts L (j + 1)) = rowsI (setsB2 Ts L j) ++ [ints (innerL p)] := by rw [setsB2_succ hjl, hp, ← rowsI_snoc]
      refine Idx.by j rfl (by rw [rowsI_length]; exact hjl) ?_
      refine Pick.T (by simpa [rowsI_length] using hjl) ?_
      refine Idx.by j rfl (by rw [rowsI_length]; exact hjl) ?_
      refine Pick.T (by simpa [rowsI_length] using hjl) ?_
      refine Look.by _ hpg ?_
      refine Pick.T (inI64_of (by rw [ints_length]; omega) (by rw [ints_length]; omega)) ?_
      refine Look.by _ hpg ?_
      refine Rng.by 1 (p.length - 1) rfl (by rw [ints_length]; omega) (by omega) (by rw [ints_length]; omega) ?_
      refine Look.by _ hpg ?_
      refine Pick.T (by rw [hcut]; simp [ints_length, innerL_length, cut]; omega) ?_
      refine Pick.T (decide_eq_true (by rw [rowsI_length]; simp only [setsB2, List.length_append, List.length_map, List.length_take, List.length_cons, List.length_nil]; omega)) ?_
      refine Seg.by (by kernel_rfl) ?_
      refine Pick.T (inI64_of (by omega) (by omega)) ?_
      refine Next.by (j + 1) (by omega) (by omega) (by refine Weak.by [(0, some _), (1, some _), (2, some _), (3, some _), (4, some _), (5, some _)] (by ((repeat' first | exact rfl | exact trivial | refine And.intro ?_ ?_) <;> (repeat' first | exact rfl | exact trivial | refine And.intro ?_ ?_)); all_goals ((rw [hst, ← hcut]; rfl))) (by ((repeat' first | exact rfl | exact trivial | refine And.intro ?_ ?_) <;> (repeat' first | exact rfl | exact trivial | refine And.intro ?_ ?_)); all_goals ((rw [hst, ← hcut]; rfl))) (by rfl))
    have hjg : j = L.length := by have := of_decide_eq_false hc; rw [rowsI_length] at this; omega
    subst hjg
    dsimp only
    rw [hv]
    exact ⟨rfl, rfl, ⟨rfl, rfl⟩, trivial⟩
end Go.Sh

set_option linter.unusedVariables false
set_option linter.unusedSimpArgs false
namespace Go.Sh
open Go.Proofs
/-! ### carcanetref09.Edges -/
theorem ins_new {l : List Ed} {x : Ed} {k : Nat} (hk : k ≤ (insAll l).length) (h1 : ∀ e ∈ (insAll l).take k, ltE e x) (h2 : ∀ h : k < (insAll l).length, ¬ ltE (insAll l)[k] x ∧ (insAll l)[k] ≠ x) :
    (insAll l).take k ++ [x] ++ (insAll l).drop k = insAll (l ++ [x]) := by
  have hs := insAll_sorted l
  refine insAll_of ?_ fun y => ?_
  · rw [List.append_assoc, List.pairwise_append]
    refine ⟨hs.take, ?_, fun a ha b hb => ?_⟩
    · rw [List.singleton_append, List.pairwise_cons]
      refine ⟨fun b hb => ?_, hs.drop⟩
      obtain ⟨i, hi, rfl⟩ := List.mem_iff_getElem.1 hb
      rw [List.length_drop] at hi
      rw [List.getElem_drop]
      have hkl : k < (insAll l).length := by omega
      obtain ⟨q1, q2⟩ := h2 hkl
      have hx : ltE x (insAll l)[k] := by
        rcases ltE_tri (insAll l)[k] x with h | h | h
        · exact absurd h q1
        · exact absurd h q2
        · exact h
      rcases Nat.eq_zero_or_pos i with rfl | h0
      · exact hx
      · exact hx.trans (List.pairwise_iff_getElem.1 hs k (k + i) hkl (by omega) (by omega))
    · rw [List.singleton_append, List.mem_cons] at hb
      rcases hb with rfl | hb
      · exact h1 a ha
      · obtain ⟨i, hi, rfl⟩ := List.mem_iff_getElem.1 ha
        obtain ⟨j, hj, rfl⟩ := List.mem_iff_getElem.1 hb
        rw [List.length_take] at hi
        rw [List.length_drop] at hj
        rw [List.getElem_take, List.getElem_drop]
        exact List.pairwise_iff_getElem.1 hs _ _ (by omega) (by omega) (by omega)
  · rw [List.append_assoc, List.mem_append, List.singleton_append, List.mem_cons, List.mem_append, List.mem_singleton, ← mem_insAll (l := l)]
    constructor
    · rintro (h | h | h)
      · exact .inl (List.mem_of_mem_take h)
      · exact .inr h
      · exact .inl (List.mem_of_mem_drop h)
    · rintro (h | h)
      · rw [← List.take_append_drop k (insAll l), List.mem_append] at h
        rcases h with h | h
        · exact .inl h
        · exact .inr (.inr h)
      · exact .inr (.inl h)
theorem ins_old {l : List Ed} {x : Ed} (h : x ∈ insAll l) : insAll l = insAll (l ++ [x]) :=
  insAll_of (insAll_sorted l) fun y => by
    rw [mem_insAll, List.mem_append, List.mem_singleton]
    exact ⟨.inl, fun k => k.elim id fun e => by rw [e]; exact mem_insAll.1 h⟩
theorem insAll_len (l : List Ed) : (insAll l).length ≤ l.length := by
  induction l with
  | nil => simp [insAll]
  | cons p l ih =>
    have := insE_length p (insAll l)
    simp only [insAll, List.foldr_cons, List.length_cons] at this ih ⊢
    omega
def XK (K : List (List Int)) (i : Nat) (p : List Int) (j : Nat) : List Ed := segs (K.take i) ++ (segsR p).take (j - 1)
theorem cut_drop (O : List Ed) (a : Nat) : cut (subOf none 0 a (edges O).length) (edges O) = edges (O.drop a) := by
  simp only [subOf, cut, Nat.zero_add, edges, List.length_map, ← List.map_drop]
  rw [← List.map_take, List.take_of_length_le (by simp)]
theorem cut_take (O : List Ed) (a : Nat) : cut (subOf none 0 0 a) (edges O) = edges (O.take a) := by
  simp only [subOf, cut, List.drop_zero, Nat.sub_zero, edges, List.map_take]
theorem edges_app (l m : List Ed) : edges (l ++ m) = edges l ++ edges m := by simp [edges]
set_option maxHeartbeats 4000000 in
theorem Edg9_ok : SoundC Try.prog T 35 EdgC := by
  refine sound_con (X := { Γ := [], T := T, nt := 113 }) cr_none hmix hT sound_nil Try.func35 (by rfl) (by rfl) (by rfl) (by rfl) 3 ?_
  rintro ⟨k, Ts, K⟩ ⟨hK, hKr⟩
  dsimp only at hK hKr ⊢
  refine ⟨⟨Nat.le_of_ble_eq_true rfl, Nat.le_of_ble_eq_true rfl⟩, ?_⟩
  refine LoopP.intro (α := Nat) (fun i => i ≤ K.length) (fun i => K.length - i) (fun i => [(1, .ptr 0 0), (3, .sl 3 none none), (4, .s (.i .i64 i))])
    (fun i => [(0, some (.blk [.s (.i .i64 k), .sl 1 none none, .sl 2 none none])), (1, some (.flat false 1 (ints Ts))), (2, some (.nest false 1 (rowsI K) [] [])), (3, some (.flat true 2 (edges (insAll (segs (K.take i))))))]) 4 0 (by omega) (by refine Weak.by [(0, some _), (1, some _), (2, some _), (3, none)] (by ((repeat' first | exact rfl | exact trivial | refine And.intro ?_ ?_) <;> (repeat' first | exact rfl | exact trivial | refine And.intro ?_ ?_))) (by ((repeat' first | exact rfl | exact trivial | refine And.intro ?_ ?_) <;> (repeat' first | exact rfl | exact trivial | refine And.intro ?_ ?_))) (by rfl)) ?_
  rintro i hi
  have hsl : (segs (K.take i)).length ≤ 500000 := by
    have := segs_length (L := K.take i) (m := 5000) fun p hp => hKr p (List.mem_of_mem_take hp)
    rw [List.length_take] at this
    have : min i K.length ≤ 100 := by omega
    have := Nat.mul_le_mul_right 5000 this
    omega
  refine Pick.by (fun hc => ?_) (fun hc => ?_)
  · have hlt : i < K.length := by have := of_decide_eq_true hc; rw [rowsI_length] at this; omega
    obtain ⟨p, hp⟩ : ∃ p, K[i] = p := ⟨_, rfl⟩
    have hpl := hKr _ (List.getElem_mem hlt)
    rw [hp] at hpl
    have hpg : (rowsI K)[i]? = some (ints p) := rowsI_get (by rw [List.getElem?_eq_getElem hlt, hp])
    refine Idx.by i rfl (by rw [rowsI_length]; exact hlt) ?_
    refine Pick.T (by simpa [rowsI_length] using hlt) ?_
    refine LoopP.intro (α := Nat) (fun j => 1 ≤ j ∧ j ≤ p.length + 1) (fun j => p.length + 1 - j) (fun j => [(1, .ptr 0 0), (3, .sl 3 none none), (4, .s (.i .i64 i)), (5, .sl 2 (some (i, 0)) none), (6, .s (.i .i64 j))])
      (fun j => [(0, some (.blk [.s (.i .i64 k), .sl 1 none none, .sl 2 none none])), (1, some (.flat false 1 (ints Ts))), (2, some (.nest false 1 (rowsI K) [] [])), (3, some (.flat true 2 (edges (insAll (XK K i p j)))))]) 4 1 (by omega) (by refine Weak.by [(0, some _), (1, some _), (2, some _), (3, some _)] (by ((repeat' first | exact rfl | exact trivial | refine And.intro ?_ ?_) <;> (repeat' first | exact rfl | exact trivial | refine And.intro ?_ ?_)); all_goals ((first | (unfold XK; simp; done) | (simp; done)))) (by ((repeat' first | exact rfl | exact trivial | refine And.intro ?_ ?_) <;> (repeat' first | exact rfl | exact trivial | refine And.intro ?_ ?_)); all_goals ((first | (unfold XK; simp; done) | (simp; done)))) (by rfl)) ?_
    rintro j ⟨hj1, hj⟩
    have hxl : (insAll (XK K i p j)).length ≤ 505000 := by
      refine Nat.le_trans (insAll_len _) ?_
      unfold XK
      rw [List.length_append, List.length_take, segsR_length]
      omega
    obtain ⟨O, hO⟩ : ∃ O, insAll (XK K i p j) = O := ⟨_, rfl⟩
    have hOl : O.length ≤ 505000 := by rw [← hO]; exact hxl
    refine Look.by _ hpg ?_
    refine Pick.by (fun hc2 => ?_) (fun hc2 => ?_)
    · have hjl : j < p.length := by have := of_decide_eq_true hc2; rw [ints_length] at this; omega
      have g0 : p[j - 1]? = some (p.getD (j - 1) 0) := getD_get (by omega)
      have g1 : p[j]? = some (p.getD j 0) := getD_get hjl
      obtain ⟨x, hx⟩ : ∃ x, edN (p.getD (j - 1) 0, p.getD j 0) = x := ⟨_, rfl⟩
      have hnext : XK K i p (j + 1) = XK K i p j ++ [x] := by
        unfold XK
        have := segsR_take (p := p) (j := j - 1) (by omega)
        rw [show j - 1 + 1 = j by omega, hx] at this
        rw [show j + 1 - 1 = j by omega, this, List.append_assoc]
      rw [hO]
      refine Pick.T (inI64_of (by omega) (by omega)) ?_
      refine Look.by _ hpg ?_
      refine Idx.by (j - 1) (by omega) (by rw [ints_length]; omega) ?_
      refine Look.by _ hpg ?_
      refine Look.by _ (ints_get g0) ?_
      refine Look.by _ hpg ?_
      refine Idx.by j rfl (by rw [ints_length]; omega) ?_
      refine Look.by _ hpg ?_
      refine Look.by _ (ints_get g1) ?_
      refine Pick.T (inI64_of (by omega) (by omega)) ?_
      refine Look.by _ hpg ?_
      refine Idx.by (j - 1) (by omega) (by rw [ints_length]; omega) ?_
      refine Look.by _ hpg ?_
      refine Look.by _ (ints_get g0) ?_
      refine Look.by _ hpg ?_
      refine Idx.by j rfl (by rw [ints_length]; omega) ?_
      refine Look.by _ hpg ?_
      refine Look.by _ (ints_get g1) ?_
      refine Seg.by (by kernel_rfl) ?_
      refine LoopP.intro (α := Nat) (fun a => a ≤ O.length ∧ ∀ e ∈ O.take a, ltE e x) (fun a => O.length - a) (fun a => [(1, .ptr 0 0), (3, .sl 3 none none), (4, .s (.i .i64 i)), (5, .sl 2 (some (i, 0)) none), (6, .s (.i .i64 j)), (7, .ptr 4 0), (8, .s (.i .i64 a))])
        (fun a => [(0, some (.blk [.s (.i .i64 k), .sl 1 none none, .sl 2 none none])), (1, some (.flat false 1 (ints Ts))), (2, some (.nest false 1 (rowsI K) [] [])), (3, some (.flat true 2 (edges O))), (4, some (.blk [.s (.i .i64 x.1), .s (.i .i64 x.2)]))]) 5 0 ⟨by omega, by simp⟩ (by refine Weak.by [(0, some _), (1, some _), (2, some _), (3, some _), (4, some _)] (by ((repeat' first | exact rfl | exact trivial | refine And.intro ?_ ?_) <;> (repeat' first | exact rfl | exact trivial | refine And.intro ?_ ?_)); all_goals ((first | exact sc_eq (by rw [← hx]; rfl) | (simp; done)))) (by ((repeat' first | exact rfl | exact trivial | refine And.intro ?_ ?_) <;> (repeat' first | exact rfl | exact trivial | refine And.intro ?_ ?_)); all_goals ((first | exact sc_eq (by rw [← hx]; rfl) | (simp; done)))) (by rfl)) ?_
      rintro a ⟨ha, hal⟩
      refine Pick.by (fun h1 => ?_) (fun h1 => ?_)
      · have h1 : a < O.length := by have := of_decide_eq_true h1; rw [edges_length] at this; omega
        have hg := edges_get (List.getElem?_eq_getElem h1)
        have hup : ltE O[a] x → ∀ e ∈ O.take (a + 1), ltE e x := fun h => all_take h1 hal h
        refine Idx.by a rfl (by rw [edges_length]; exact h1) ?_
        refine Look.by _ hg ?_
        refine Pick.by (fun h2 => ?_) (fun h2 => ?_)
        · have h2 : O[a].1 < x.1 := of_decide_eq_true h2
          refine Seg.by (by kernel_rfl) ?_
          refine Pick.T (inI64_of (by omega) (by omega)) ?_
          refine Next.by (a + 1) ⟨by omega, hup (.inl h2)⟩ (by omega) (by refine Weak.by [(0, some _), (1, some _), (2, some _), (3, some _), (4, some _)] (by ((repeat' first | exact rfl | exact trivial | refine And.intro ?_ ?_) <;> (repeat' first | exact rfl | exact trivial | refine And.intro ?_ ?_)); all_goals (simp)) (by ((repeat' first | exact rfl | exact trivial | refine And.intro ?_ ?_) <;> (repeat' first | exact rfl | exact trivial | refine And.intro ?_ ?_)); all_goals (simp)) (by rfl))
        · have h2 : ¬ O[a].1 < x.1 := of_decide_eq_false h2
          refine Idx.by a rfl (by rw [edges_length]; exact h1) ?_
          refine Look.by _ hg ?_
          refine Pick.by (fun h3 => ?_) (fun h3 => ?_)
          · have h3 : O[a].1 = x.1 := by simpa using h3
            refine Idx.by a rfl (by rw [edges_length]; exact h1) ?_
            refine Look.by _ hg ?_
            refine Seg.by (by kernel_rfl) ?_
            refine Pick.by (fun h4 => ?_) (fun h4 => ?_)
            · have h4 : O[a].2 < x.2 := of_decide_eq_true h4
              refine Pick.T (inI64_of (by omega) (by omega)) ?_
              refine Next.by (a + 1) ⟨by omega, hup (.inr ⟨h3, h4⟩)⟩ (by omega) (by refine Weak.by [(0, some _), (1, some _), (2, some _), (3, some _), (4, some _)] (by ((repeat' first | exact rfl | exact trivial | refine And.intro ?_ ?_) <;> (repeat' first | exact rfl | exact trivial | refine And.intro ?_ ?_)); all_goals (simp)) (by ((repeat' first | exact rfl | exact trivial | refine And.intro ?_ ?_) <;> (repeat' first | exact rfl | exact trivial | refine And.intro ?_ ?_)); all_goals (simp)) (by rfl))
            · have h4 : ¬ O[a].2 < x.2 := of_decide_eq_false h4
              have hstop : ∀ h : a < O.length, ¬ ltE O[a] x := fun _ h => by unfold ltE at h; omega
              refine Pick.by (fun g1 => ?_) (fun g1 => ?_)
              · have g1 : a < O.length := by have := of_decide_eq_true g1; rw [edges_length] at this; omega
                refine Idx.by a rfl (by rw [edges_length]; exact g1) ?_
                refine Look.by _ (edges_get (List.getElem?_eq_getElem g1)) ?_
                refine Seg.by (by kernel_rfl) ?_
                refine Pick.by (fun g2 => ?_) (fun g2 => ?_)
                · have g2 : O[a].1 = x.1 ∧ O[a].2 = x.2 := by simpa using g2
                  have g2 : O[a] = x := Prod.ext g2.1 g2.2
                  have hsame : insAll (XK K i p (j + 1)) = O := by
                    rw [hnext, ← ins_old (by rw [hO, ← g2]; exact List.getElem_mem g1), hO]
                  refine Pick.T (inI64_of (by omega) (by omega)) ?_
                  refine Next.by (j + 1) (by omega) (by omega) (by refine Weak.by [(0, some _), (1, some _), (2, some _), (3, some _)] (by ((repeat' first | exact rfl | exact trivial | refine And.intro ?_ ?_) <;> (repeat' first | exact rfl | exact trivial | refine And.intro ?_ ?_)); all_goals ((first | (rw [hsame]; done) | (simp; done)))) (by ((repeat' first | exact rfl | exact trivial | refine And.intro ?_ ?_) <;> (repeat' first | exact rfl | exact trivial | refine And.intro ?_ ?_)); all_goals ((first | (rw [hsame]; done) | (simp; done)))) (by rfl))
                · have g2 : O[a] ≠ x := fun e => by rw [e] at g2; simp at g2
                  have hneq : ∀ h : a < O.length, O[a] ≠ x := fun _ => g2
                  refine Rng.by a (edges O).length rfl rfl (by rw [edges_length]; omega) (Nat.le_refl _) ?_
                  refine Pick.T (by rw [cut_drop]; simp [edges_length, cut]; omega) ?_
                  refine Rng.by 0 a rfl rfl (by omega) (by rw [edges_length]; omega) ?_
                  refine Pick.T (by rw [cut_take]; simp [edges_length, cut]; omega) ?_
                  refine Pick.T (by rw [cut_take]; simp [edges_length, cut]; omega) ?_
                  refine Pick.T (by rw [cut_take, cut_drop]; simp [edges_length, cut]; omega) ?_
                  refine Seg.by (by kernel_rfl) ?_
                  refine Pick.T (inI64_of (by omega) (by omega)) ?_
                  have hnew : insAll (XK K i p (j + 1)) = O.take a ++ [x] ++ O.drop a := by
                    rw [hnext, ← hO]
                    exact (ins_new (by rw [hO]; exact ha) (by rw [hO]; exact hal) (fun h => by
                      have h' : a < O.length := by rw [← hO]; exact h
                      have e : (insAll (XK K i p j))[a] = O[a] := by simp only [hO]
                      rw [e]
                      exact ⟨hstop h', hneq h'⟩)).symm
                  refine Next.by (j + 1) (by omega) (by omega) (by refine Weak.by [(0, some _), (1, some _), (2, some _), (3, some _)] (by ((repeat' first | exact rfl | exact trivial | refine And.intro ?_ ?_) <;> (repeat' first | exact rfl | exact trivial | refine And.intro ?_ ?_)); all_goals ((first | (rw [hnew, edges_app, edges_app, ← cut_take, ← cut_drop]; rfl) | (simp; done)))) (by ((repeat' first | exact rfl | exact trivial | refine And.intro ?_ ?_) <;> (repeat' first | exact rfl | exact trivial | refine And.intro ?_ ?_)); all_goals ((first | (rw [hnew, edges_app, edges_app, ← cut_take, ← cut_drop]; rfl) | (simp; done)))) (by rfl))
              · have g1 : ¬ a < O.length := by have := of_decide_eq_false g1; rw [edges_length] at this; omega
                have hneq : ∀ h : a < O.length, O[a] ≠ x := fun h => absurd h g1
                refine Seg.by (by kernel_rfl) ?_
                refine Rng.by a (edges O).length rfl rfl (by rw [edges_length]; omega) (Nat.le_refl _) ?_
                refine Pick.T (by rw [cut_drop]; simp [edges_length, cut]; omega) ?_
                refine Rng.by 0 a rfl rfl (by omega) (by rw [edges_length]; omega) ?_
                refine Pick.T (by rw [cut_take]; simp [edges_length, cut]; omega) ?_
                refine Pick.T (by rw [cut_take]; simp [edges_length, cut]; omega) ?_
                refine Pick.T (by rw [cut_take, cut_drop]; simp [edges_length, cut]; omega) ?_
                refine Seg.by (by kernel_rfl) ?_
                refine Pick.T (inI64_of (by omega) (by omega)) ?_
                have hnew : insAll (XK K i p (j + 1)) = O.take a ++ [x] ++ O.drop a := by
                  rw [hnext, ← hO]
                  exact (ins_new (by rw [hO]; exact ha) (by rw [hO]; exact hal) (fun h => by
                    have h' : a < O.length := by rw [← hO]; exact h
                    have e : (insAll (XK K i p j))[a] = O[a] := by simp only [hO]
                    rw [e]
                    exact ⟨hstop h', hneq h'⟩)).symm
                refine Next.by (j + 1) (by omega) (by omega) (by refine Weak.by [(0, some _), (1, some _), (2, some _), (3, some _)] (by ((repeat' first | exact rfl | exact trivial | refine And.intro ?_ ?_) <;> (repeat' first | exact rfl | exact trivial | refine And.intro ?_ ?_)); all_goals ((first | (rw [hnew, edges_app, edges_app, ← cut_take, ← cut_drop]; rfl) | (simp; done)))) (by ((repeat' first | exact rfl | exact trivial | refine And.intro ?_ ?_) <;> (repeat' first | exact rfl | exact trivial | refine And.intro ?_ ?_)); all_goals ((first | (rw [hnew, edges_app, edges_app, ← cut_take, ← cut_drop]; rfl) | (simp; done)))) (by rfl))
          · have h3 : O[a].1 ≠ x.1 := by simpa using h3
            have hstop : ∀ h : a < O.length, ¬ ltE O[a] x := fun _ h => by unfold ltE at h; omega
            refine Seg.by (by kernel_rfl) ?_
            refine Pick.by (fun g1 => ?_) (fun g1 => ?_)
            · have g1 : a < O.length := by have := of_decide_eq_true g1; rw [edges_length] at this; omega
              refine Idx.by a rfl (by rw [edges_length]; exact g1) ?_
              refine Look.by _ (edges_get (List.getElem?_eq_getElem g1)) ?_
              refine Seg.by (by kernel_rfl) ?_
              refine Pick.by (fun g2 => ?_) (fun g2 => ?_)
              · have g2 : O[a].1 = x.1 ∧ O[a].2 = x.2 := by simpa using g2
                have g2 : O[a] = x := Prod.ext g2.1 g2.2
                have hsame : insAll (XK K i p (j + 1)) = O := by
                  rw [hnext, ← ins_old (by rw [hO, ← g2]; exact List.getElem_mem g1), hO]
                refine Pick.T (inI64_of (by omega) (by omega)) ?_
                refine Next.by (j + 1) (by omega) (by omega) (by refine Weak.by [(0, some _), (1, some _), (2, some _), (3, some _)] (by ((repeat' first | exact rfl | exact trivial | refine And.intro ?_ ?_) <;> (repeat' first | exact rfl | exact trivial | refine And.intro ?_ ?_)); all_goals ((first | (rw [hsame]; done) | (simp; done)))) (by ((repeat' first | exact rfl | exact trivial | refine And.intro ?_ ?_) <;> (repeat' first | exact rfl | exact trivial | refine And.intro ?_ ?_)); all_goals ((first | (rw [hsame]; done) | (simp; done)))) (by rfl))
              · have g2 : O[a] ≠ x := fun e => by rw [e] at g2; simp at g2
                have hneq : ∀ h : a < O.length, O[a] ≠ x := fun _ => g2
                refine Rng.by a (edges O).length rfl rfl (by rw [edges_length]; omega) (Nat.le_refl _) ?_
                refine Pick.T (by rw [cut_drop]; simp [edges_length, cut]; omega) ?_
                refine Rng.by 0 a rfl rfl (by omega) (by rw [edges_length]; omega) ?_
                refine Pick.T (by rw [cut_take]; simp [edges_length, cut]; omega) ?_
                refine Pick.T (by rw [cut_take]; simp [edges_length, cut]; omega) ?_
                refine Pick.T (by rw [cut_take, cut_drop]; simp [edges_length, cut]; omega) ?_
                refine Seg.by (by kernel_rfl) ?_
                refine Pick.T (inI64_of (by omega) (by omega)) ?_
                have hnew : insAll (XK K i p (j + 1)) = O.take a ++ [x] ++ O.drop a := by
                  rw [hnext, ← hO]
                  exact (ins_new (by rw [hO]; exact ha) (by rw [hO]; exact hal) (fun h => by
                    have h' : a < O.length := by rw [← hO]; exact h
                    have e : (insAll (XK K i p j))[a] = O[a] := by simp only [hO]
                    rw [e]
                    exact ⟨hstop h', hneq h'⟩)).symm
                refine Next.by (j + 1) (by omega) (by omega) (by refine Weak.by [(0, some _), (1, some _), (2, some _), (3, some _)] (by ((repeat' first | exact rfl | exact trivial | refine And.intro ?_ ?_) <;> (repeat' first | exact rfl | exact trivial | refine And.intro ?_ ?_)); all_goals ((first | (rw [hnew, edges_app, edges_app, ← cut_take, ← cut_drop]; rfl) | (simp; done)))) (by ((repeat' first | exact rfl | exact trivial | refine And.intro ?_ ?_) <;> (repeat' first | exact rfl | exact trivial | refine And.intro ?_ ?_)); all_goals ((first | (rw [hnew, edges_app, edges_app, ← cut_take, ← cut_drop]; rfl) | (simp; done)))) (by rfl))
            · have g1 : ¬ a < O.length := by have := of_decide_eq_false g1; rw [edges_length] at this; omega
              have hneq : ∀ h : a < O.length, O[a] ≠ x := fun h => absurd h g1
              refine Seg.by (by kernel_rfl) ?_
              refine Rng.by a (edges O).length rfl rfl (by rw [edges_length]; omega) (Nat.le_refl _) ?_
              refine Pick.T (by rw [cut_drop]; simp [edges_length, cut]; omega) ?_
              refine Rng.by 0 a rfl rfl (by omega) (by rw [edges_length]; omega) ?_
              refine Pick.T (by rw [cut_take]; simp [edges_length, cut]; omega) ?_
              refine Pick.T (by rw [cut_take]; simp [edges_length, cut]; omega) ?_
              refine Pick.T (by rw [cut_take, cut_drop]; simp [edges_length, cut]; omega) ?_
              refine Seg.by (by kernel_rfl) ?_
              refine Pick.T (inI64_of (by omega) (by omega)) ?_
              have hnew : insAll (XK K i p (j + 1)) = O.take a ++ [x] ++ O.drop a := by
                rw [hnext, ← hO]
                exact (ins_new (by rw [hO]; exact ha) (by rw [hO]; exact hal) (fun h => by
                  have h' : a < O.length := by rw [← hO]; exact h
                  have e : (insAll (XK K i p j))[a] = O[a] := by simp only [hO]
                  rw [e]
                  exact ⟨hstop h', hneq h'⟩)).symm
              refine Next.by (j + 1) (by omega) (by omega) (by refine Weak.by [(0, some _), (1, some _), (2, some _), (3, some _)] (by ((repeat' first | exact rfl | exact trivial | refine And.intro ?_ ?_) <;> (repeat' first | exact rfl | exact trivial | refine And.intro ?_ ?_)); all_goals ((first | (rw [hnew, edges_app, edges_app, ← cut_take, ← cut_drop]; rfl) | (simp; done)))) (by ((repeat' first | exact rfl | exact trivial | refine And.intro ?_ ?_) <;> (repeat' first | exact rfl | exact trivial | refine And.intro ?_ ?_)); all_goals ((first | (rw [hnew, edges_app, edges_app, ← cut_take, ← cut_drop]; rfl) | (simp; done)))) (by rfl))
      · have h1 : ¬ a < O.length := by have := of_decide_eq_false h1; rw [edges_length] at this; omega
        have hstop : ∀ h : a < O.length, ¬ ltE O[a] x := fun h => absurd h h1
        refine Seg.by (by kernel_rfl) ?_
        refine Pick.by (fun g1 => ?_) (fun g1 => ?_)
        · have g1 : a < O.length := by have := of_decide_eq_true g1; rw [edges_length] at this; omega
          refine Idx.by a rfl (by rw [edges_length]; exact g1) ?_
          refine Look.by _ (edges_get (List.getElem?_eq_getElem g1)) ?_
          refine Seg.by (by kernel_rfl) ?_
          refine Pick.by (fun g2 => ?_) (fun g2 => ?_)
          · have g2 : O[a].1 = x.1 ∧ O[a].2 = x.2 := by simpa using g2
            have g2 : O[a] = x := Prod.ext g2.1 g2.2
            have hsame : insAll (XK K i p (j + 1)) = O := by
              rw [hnext, ← ins_old (by rw [hO, ← g2]; exact List.getElem_mem g1), hO]
            refine Pick.T (inI64_of (by omega) (by omega)) ?_
            refine Next.by (j + 1) (by omega) (by omega) (by refine Weak.by [(0, some _), (1, some _), (2, some _), (3, some _)] (by ((repeat' first | exact rfl | exact trivial | refine And.intro ?_ ?_) <;> (repeat' first | exact rfl | exact trivial | refine And.intro ?_ ?_)); all_goals ((first | (rw [hsame]; done) | (simp; done)))) (by ((repeat' first | exact rfl | exact trivial | refine And.intro ?_ ?_) <;> (repeat' first | exact rfl | exact trivial | refine And.intro ?_ ?_)); all_goals ((first | (rw [hsame]; done) | (simp; done)))) (by rfl))
          · have g2 : O[a] ≠ x := fun e => by rw [e] at g2; simp at g2
            have hneq : ∀ h : a < O.length, O[a] ≠ x := fun _ => g2
            refine Rng.by a (edges O).length rfl rfl (by rw [edges_length]; omega) (Nat.le_refl _) ?_
            refine Pick.T (by rw [cut_drop]; simp [edges_length, cut]; omega) ?_
            refine Rng.by 0 a rfl rfl (by omega) (by rw [edges_length]; omega) ?_
            refine Pick.T (by rw [cut_take]; simp [edges_length, cut]; omega) ?_
            refine Pick.T (by rw [cut_take]; simp [edges_length, cut]; omega) ?_
            refine Pick.T (by rw [cut_take, cut_drop]; simp [edges_length, cut]; omega) ?_
            refine Seg.by (by kernel_rfl) ?_
            refine Pick.T (inI64_of (by omega) (by omega)) ?_
            have hnew : insAll (XK K i p (j + 1)) = O.take a ++ [x] ++ O.drop a := by
              rw [hnext, ← hO]
              exact (ins_new (by rw [hO]; exact ha) (by rw [hO]; exact hal) (fun h => by
                have h' : a < O.length := by rw [← hO]; exact h
                have e : (insAll (XK K i p j))[a] = O[a] := by simp only [hO]
                rw [e]
                exact ⟨hstop h', hneq h'⟩)).symm
            refine Next.by (j + 1) (by omega) (by omega) (by refine Weak.by [(0, some _), (1, some _), (2, some _), (3, some _)] (by ((repeat' first | exact rfl | exact trivial | refine And.intro ?_ ?_) <;> (repeat' first | exact rfl | exact trivial | refine And.intro ?_ ?_)); all_goals ((first | (rw [hnew, edges_app, edges_app, ← cut_take, ← cut_drop]; rfl) | (simp; done)))) (by ((repeat' first | exact rfl | exact trivial | refine And.intro ?_ ?_) <;> (repeat' first | exact rfl | exact trivial | refine And.intro ?_ ?_)); all_goals ((first | (rw [hnew, edges_app, edges_app, ← cut_take, ← cut_drop]; rfl) | (simp; done)))) (by rfl))
        · have g1 : ¬ a < O.length := by have := of_decide_eq_false g1; rw [edges_length] at this; omega
          have hneq : ∀ h : a < O.length, O[a] ≠ x := fun h => absurd h g1
          refine Seg.by (by kernel_rfl) ?_
          refine Rng.by a (edges O).length rfl rfl (by rw [edges_length]; omega) (Nat.le_refl _) ?_
          refine Pick.T (by rw [cut_drop]; simp [edges_length, cut]; omega) ?_
          refine Rng.by 0 a rfl rfl (by omega) (by rw [edges_length]; omega) ?_
          refine Pick.T (by rw [cut_take]; simp [edges_length, cut]; omega) ?_
          refine Pick.T (by rw [cut_take]; simp [edges_length, cut]; omega) ?_
          refine Pick.T (by rw [cut_take, cut_drop]; simp [edges_length, cut]; omega) ?_
          refine Seg.by (by kernel_rfl) ?_
          refine Pick.T (inI64_of (by omega) (by omega)) ?_
          have hnew : insAll (XK K i p (j + 1)) = O.take a ++ [x] ++ O.drop a := by
            rw [hnext, ← hO]
            exact (ins_new (by rw [hO]; exact ha) (by rw [hO]; exact hal) (fun h => by
              have h' : a < O.length := by rw [← hO]; exact h
              have e : (insAll (XK K i p j))[a] = O[a] := by simp only [hO]
              rw [e]
              exact ⟨hstop h', hneq h'⟩)).symm
          refine Next.by (j + 1) (by omega) (by omega) (by refine Weak.by [(0, some _), (1, some _), (2, some _), (3, some _)] (by ((repeat' first | exact rfl | exact trivial | refine And.intro ?_ ?_) <;> (repeat' first | exact rfl | exact trivial | refine And.intro ?_ ?_)); all_goals ((first | (rw [hnew, edges_app, edges_app, ← cut_take, ← cut_drop]; rfl) | (simp; done)))) (by ((repeat' first | exact rfl | exact trivial | refine And.intro ?_ ?_) <;> (repeat' first | exact rfl | exact trivial | refine And.intro ?_ ?_)); all_goals ((first | (rw [hnew, edges_app, edges_app, ← cut_take, ← cut_drop]; rfl) | (simp; done)))) (by rfl))
    · have hjg : p.length ≤ j := by have := of_decide_eq_false hc2; rw [ints_length] at this; omega
      have htk : XK K i p j = segs (K.take (i + 1)) := by
        unfold XK
        have h1 : (segsR p).take (j - 1) = segsR p := List.take_of_length_le (by rw [segsR_length]; omega)
        rw [h1, List.take_succ_eq_append_getElem hlt, hp, segs_snoc]
      rw [htk]
      refine Pick.T (inI64_of (by omega) (by omega)) ?_
      refine Next.by (i + 1) (by omega) (by omega) (by refine Weak.by [(0, some _), (1, some _), (2, some _), (3, some _)] (by ((repeat' first | exact rfl | exact trivial | refine And.intro ?_ ?_) <;> (repeat' first | exact rfl | exact trivial | refine And.intro ?_ ?_))) (by ((repeat' first | exact rfl | exact trivial | refine And.intro ?_ ?_) <;> (repeat' first | exact rfl | exact trivial | refine And.intro ?_ ?_))) (by rfl))
  · have hge : K.length ≤ i := by have := of_decide_eq_false hc; rw [rowsI_length] at this; omega
    rw [List.take_of_length_le hge]
    exact ⟨rfl, rfl, rfl⟩
end Go.Sh

set_option linter.unusedVariables false
set_option linter.unusedSimpArgs false
namespace Go.Sh
open Go.Proofs
/-! ### carcanetlaw09.TopoParts -/
theorem modF_small {k : Int} {Ts : List Int} {L : List (List Int)} (h : fewL L) : small (modF k Ts L).2 := by
  unfold modF
  split
  · rename_i hs
    obtain ⟨hs, _⟩ := hs
    have hT : Ts.length ≤ 4 := by rcases hs with hs | hs <;> omega
    have hin : ∀ j, (innerL (L.getD j [])).length ≤ 5000 := fun j => by
      rw [innerL_length, List.getD_eq_getElem?_getD]
      cases hx : L[j]? with
      | none => simp
      | some y => have := h.2 y (List.mem_of_getElem? hx); simp; omega
    dsimp only
    split
    · refine ⟨by simp; omega, fun x hx => ?_⟩
      obtain ⟨t, _, rfl⟩ := List.mem_map.1 hx
      have : ∀ l : List Nat, (l.flatMap fun j => innerL (L.getD j [])).length ≤ l.length * 5000 := fun l => by
        induction l with
        | nil => simp
        | cons x l ih =>
          rw [List.flatMap_cons, List.length_append, List.length_cons, Nat.succ_mul]
          have := hin x
          omega
      have h1 := this ((List.range L.length).filter fun j => fromT 1 j == t)
      have h2 : ((List.range L.length).filter fun j => fromT 1 j == t).length ≤ 100 := Nat.le_trans (List.length_filter_le _ _) (by simp; exact h.1)
      have h3 := Nat.mul_le_mul_right 5000 h2
      rw [List.length_cons]
      omega
    · refine ⟨by have := h.1; simp; omega, fun x hx => ?_⟩
      rcases List.mem_append.1 hx with hx | hx
      · obtain ⟨t, _, rfl⟩ := List.mem_map.1 hx; simp
      · obtain ⟨p, hp, rfl⟩ := List.mem_map.1 hx
        rw [innerL_length]
        have := h.2 p hp
        omega
  · exact ⟨by simp, fun x hx => by simp at hx⟩
noncomputable def TPartsF := conF (fun _ : Sb => True) (fun a => [sbV false a.1 a.2.1 a.2.2]) (fun _ => .one (.s (.b true)))
theorem TParts_ok : SoundP Try.prog 8 TPartsF := by
  refine con_pure (X := { Γ := [(27, Shown9C), (28, Small9C), (31, ModC), (32, ModC), (34, EdgC), (35, EdgC), (33, SameEC), (36, SameRowsC)], T := T, nt := 38 }) cr_none hmix hT (sound_cons Shown9_ok (sound_cons Small9_ok (sound_cons Mod_ok (sound_cons Mod9_ok (sound_cons Edg_ok (sound_cons Edg9_ok (sound_cons SameE_ok (sound_cons SameRows_ok sound_nil)))))))) Try.func8 (by rfl) (by rfl) (by rfl) 3 ?_
  rintro ⟨k, Ts, L⟩ -
  dsimp only
  refine ⟨⟨Nat.le_of_ble_eq_true rfl, Nat.le_of_ble_eq_true rfl⟩, ?_⟩
  refine Call.by _ _ Shown9C_at ?_
  refine Call.by _ _ (Small9C_at k Ts L) ?_
  have hfw := cutP_few L
  have hsm := modF_small (k := k) (Ts := Ts.take 6) hfw
  have hsl : (insAll (segs (cutP L))).length ≤ 1000000 := by
    refine Nat.le_trans (insAll_len _) ?_
    have h1 := segs_length (L := cutP L) (m := 5000) hfw.2
    have h2 := Nat.mul_le_mul_right 5000 hfw.1
    omega
  refine Call.by _ _ (ModC_at hfw) ?_
  refine Call.by _ _ (ModC_at hfw) ?_
  refine Call.by _ _ (EdgC_at hfw) ?_
  refine Call.by _ _ (EdgC_at hfw) ?_
  have hE := SameEC_at (l := insAll (segs (cutP L))) (m := insAll (segs (cutP L))) hsl
  rw [decide_eq_true rfl] at hE
  refine Call.by _ _ hE ?_
  refine Pick.T (by simp) ?_
  have hRw := SameRowsC_at hsm hsm
  rw [decide_eq_true rfl] at hRw
  refine Call.by _ _ hRw ?_
  refine Seg.by (by kernel_rfl) ?_
  exact ⟨rfl, rfl⟩
end Go.Sh

set_option linter.unusedVariables false
set_option linter.unusedSimpArgs false
namespace Go.Sh
open Go.Proofs
/-! ### carcanetlaw08.MinorMoves -/
def i64 (x : Int) : Prop := -9223372036854775808 ≤ x ∧ x ≤ 9223372036854775807
def rows64 (S : List (List Int)) : Prop := ∀ l ∈ S, ∀ x ∈ l, i64 x
def clI (x : Int) : Int := mnI x 4611686018427387904
def clP (j : Nat) (row : List Int) : List Int := (row.take j).map clI ++ row.drop j
theorem clP_all (row : List Int) (j : Nat) (h : row.length ≤ j) : clP j row = row.map clI := by
  unfold clP
  rw [List.take_of_length_le h, List.drop_eq_nil_of_le h, List.append_nil]
theorem clP_zero (row : List Int) : clP 0 row = row := by simp [clP]
def ClI (S : List (List Int)) (i j : Nat) (R : List (List Int)) : Prop := R.length = S.length ∧ ∀ r row, S[r]? = some row → R[r]? = some (if r < i then row.map clI else if r = i then clP j row else row)
theorem ClI.at {S R : List (List Int)} {i j : Nat} (h : ClI S i j R) {row : List Int} (hi : S[i]? = some row) : R[i]? = some (clP j row) := by
  have := h.2 i row hi
  rwa [if_neg (by omega), if_pos rfl] at this
theorem ClI.step {S R : List (List Int)} {i j : Nat} (h : ClI S i j R) {row : List Int} (hi : S[i]? = some row) : ClI S i (j + 1) (R.set i (clP (j + 1) row)) := by
  refine ⟨by rw [List.length_set]; exact h.1, fun r w hr => ?_⟩
  rw [List.getElem?_set]
  by_cases e : i = r
  · subst e
    rw [hi] at hr
    injection hr with hr
    subst hr
    rw [if_pos rfl, if_pos (by rw [h.1]; exact (List.getElem?_eq_some_iff.1 hi).1), if_neg (by omega), if_pos rfl]
  · rw [if_neg e, h.2 r w hr, if_neg (show ¬ r = i by omega), if_neg (show ¬ r = i by omega)]
theorem ClI.next {S R : List (List Int)} {i j : Nat} (h : ClI S i j R) {row : List Int} (hi : S[i]? = some row) (hj : row.length ≤ j) : ClI S (i + 1) 0 R := by
  refine ⟨h.1, fun r w hr => ?_⟩
  rw [h.2 r w hr]
  by_cases e : r < i
  · rw [if_pos e, if_pos (by omega)]
  · by_cases e2 : r = i
    · subst e2
      rw [hi] at hr
      injection hr with hr
      subst hr
      rw [if_neg e, if_pos rfl, if_pos (by omega), clP_all _ _ hj]
    · rw [if_neg e, if_neg e2, if_neg (by omega)]
      split
      · rw [clP_zero]
      · rfl
theorem ClI.done {S R : List (List Int)} {i : Nat} (h : ClI S i 0 R) (hi : S.length ≤ i) : R = S.map fun l => l.map clI := by
  apply List.ext_getElem?
  intro r
  by_cases hr : r < S.length
  · rw [h.2 r _ (List.getElem?_eq_getElem hr), if_pos (by omega)]
    simp [hr]
  · rw [List.getElem?_eq_none (by rw [h.1]; omega), List.getElem?_eq_none (by simp; omega)]
theorem ClI.zero (S : List (List Int)) : ClI S 0 0 S := ⟨rfl, fun r row h => by
  rw [if_neg (by omega), clP_zero]
  split <;> exact h⟩
end Go.Sh

set_option linter.unusedVariables false
set_option linter.unusedSimpArgs false
namespace Go.Sh
open Go.Proofs
/-! ### what is handed in, as data -/
theorem VTy.struct {T : Tab} {t : Nat} {ti : TI} {fs : List (Nat × Nat)} {v : V} (ht : lk T t = some ti) (hk : ti.kind = .struct fs) (h : VTy T t v) : ∃ cs, v = .agg cs ∧ All2 (fun (f : Nat × Nat) c => CTy T f.2 c) fs cs := by
  unfold VTy at h
  rw [ht] at h
  simp only at h
  rw [hk] at h
  exact h
theorem VTy.cell {T : Tab} {t : Nat} {ti : TI} {v : V} (ht : lk T t = some ti) (hk : ∀ fs, ti.kind ≠ .struct fs ∧ ∀ n e, ti.kind ≠ .array n e) (h : VTy T t v) : ∃ c, v = .one c ∧ CTy T t c := by
  unfold VTy at h
  rw [ht] at h
  simp only at h
  cases hq : ti.kind with
  | struct fs => exact absurd hq (hk fs).1
  | array n e => exact absurd hq ((hk []).2 n e)
  | _ => rw [hq] at h; exact h
theorem VTy.array {T : Tab} {t : Nat} {ti : TI} {n e : Nat} {v : V} (ht : lk T t = some ti) (hk : ti.kind = .array n e) (h : VTy T t v) : ∃ cs, v = .agg cs ∧ cs.length = n ∧ ∀ c ∈ cs, CTy T e c := by
  unfold VTy at h
  rw [ht] at h
  simp only at h
  rw [hk] at h
  exact h
theorem ScTy.int {T : Tab} {t : Nat} {ti : TI} {k : IntKind} {x : Sc} (ht : lk T t = some ti) (hk : ti.kind = .int k) (h : ScTy T t x) : ∃ n, x = .i k n ∧ (Lit.int k n).wf = true := by
  unfold ScTy at h
  rw [ht] at h
  simp only at h
  rw [hk] at h
  cases x with
  | i k' n => obtain ⟨rfl, h⟩ := h; exact ⟨n, rfl, h⟩
  | b _ => exact h.elim
theorem CTy.sc {T : Tab} {t : Nat} {c : C} (hs : sliceE T t = none) (h : CTy T t c) : ∃ x, c = .s x ∧ ScTy T t x := by
  unfold CTy at h
  rw [hs] at h
  exact h
theorem CTy.flat {T : Tab} {t e : Nat} {c : C} (hs : sliceE T t = some e) (hs2 : sliceE T e = none) (h : CTy T t c) : ∃ rows, c = .flat false (sizeT T e) rows ∧ FlatTy T e rows := by
  unfold CTy at h
  rw [hs] at h
  simp only at h
  rw [hs2] at h
  exact h
theorem CTy.nest {T : Tab} {t e e2 : Nat} {c : C} (hs : sliceE T t = some e) (hs2 : sliceE T e = some e2) (h : CTy T t c) : ∃ rows, c = .nest false (sizeT T e2) rows ∧ rows.length ≤ maxLen ∧ ∀ fl ∈ rows, FlatTy T e2 fl := by
  unfold CTy at h
  rw [hs] at h
  simp only at h
  rw [hs2] at h
  exact h
theorem i64_wf {n : Int} (h : (Lit.int .i64 n).wf = true) : i64 n := by
  simp [Lit.wf, IntKind.min, IntKind.max, IntKind.signed, IntKind.bits] at h
  exact h
theorem list_ex {α β : Type} {P : α → β → Prop} : ∀ {l : List α}, (∀ x ∈ l, ∃ y, P x y) → ∃ m : List β, All2 P l m := by
  intro l
  induction l with
  | nil => intro _; exact ⟨[], All2.nil⟩
  | cons x l ih =>
    intro h
    obtain ⟨y, hy⟩ := h x (by simp)
    obtain ⟨m, hm⟩ := ih fun x hx => h x (by simp [hx])
    exact ⟨y :: m, All2.cons' hy hm⟩
theorem All2.map_eq {α β : Type} {f : β → α} {l : List α} {m : List β} (h : All2 (fun x y => x = f y) l m) : l = m.map f := by
  apply List.ext_getElem?
  intro i
  rw [List.getElem?_map]
  by_cases hi : i < l.length
  · have him : i < m.length := by rw [← h.1]; exact hi
    rw [List.getElem?_eq_getElem hi, List.getElem?_eq_getElem him, Option.map_some, h.2 i _ _ (List.getElem?_eq_getElem hi) (List.getElem?_eq_getElem him)]
  · rw [List.getElem?_eq_none (by omega), List.getElem?_eq_none (by rw [← h.1]; omega)]; rfl
theorem All2.mem {α β : Type} {R : α → β → Prop} {l : List α} {m : List β} (h : All2 R l m) {y : β} (hy : y ∈ m) : ∃ x ∈ l, R x y := by
  obtain ⟨i, hi⟩ := List.mem_iff_getElem?.1 hy
  have hl := (List.getElem?_eq_some_iff.1 hi).1
  rw [← h.1] at hl
  exact ⟨_, List.getElem_mem hl, h.2 i _ y (List.getElem?_eq_getElem hl) hi⟩
/-! #### at this program's types -/
theorem row_int {row : Row} (h : RowTy T 3 row) : ∃ n, row = [.i .i64 n] ∧ i64 n := by
  obtain ⟨x, rfl, hx⟩ := h
  obtain ⟨n, rfl, hw⟩ := ScTy.int (t := 3) rfl rfl hx
  exact ⟨n, rfl, i64_wf hw⟩
theorem ints_of {fl : Flat} (h : FlatTy T 3 fl) : ∃ l : List Int, fl = ints l ∧ l.length ≤ maxLen ∧ ∀ x ∈ l, i64 x := by
  obtain ⟨m, hm⟩ := list_ex (P := fun row n => row = [Sc.i .i64 n] ∧ i64 n) fun row hr => row_int (h.2 row hr)
  refine ⟨m, All2.map_eq (f := fun n => [Sc.i .i64 n]) (hm.imp fun _ _ _ k => k.1), by rw [← hm.1]; exact h.1, fun x hx => ?_⟩
  obtain ⟨_, _, k⟩ := hm.mem hx
  exact k.2
theorem rows_of {rows : List Flat} (h : ∀ fl ∈ rows, FlatTy T 3 fl) : ∃ S : List (List Int), rows = rowsI S ∧ rows64 S ∧ ∀ l ∈ S, l.length ≤ maxLen := by
  obtain ⟨m, hm⟩ := list_ex (P := fun (fl : Flat) l => fl = ints l ∧ l.length ≤ maxLen ∧ ∀ x ∈ l, i64 x) fun fl hf => ints_of (h fl hf)
  refine ⟨m, All2.map_eq (hm.imp fun _ _ _ k => k.1), fun l hl => ?_, fun l hl => ?_⟩
  · obtain ⟨_, _, k⟩ := hm.mem hl; exact k.2.2
  · obtain ⟨_, _, k⟩ := hm.mem hl; exact k.2.1
theorem All2.two {α β : Type} {R : α → β → Prop} {a b : α} {m : List β} (h : All2 R [a, b] m) : ∃ x y, m = [x, y] ∧ R a x ∧ R b y := by
  obtain ⟨h1, h2⟩ := h
  match m, h1, h2 with
  | [x, y], _, h2 => exact ⟨x, y, rfl, h2 0 a x rfl rfl, h2 1 b y rfl rfl⟩
theorem All2.one {α β : Type} {R : α → β → Prop} {a : α} {m : List β} (h : All2 R [a] m) : ∃ x, m = [x] ∧ R a x := by
  obtain ⟨h1, h2⟩ := h
  match m, h1, h2 with
  | [x], _, h2 => exact ⟨x, rfl, h2 0 a x rfl rfl⟩
theorem All2.three {α β : Type} {R : α → β → Prop} {a b c : α} {m : List β} (h : All2 R [a, b, c] m) : ∃ x y z, m = [x, y, z] ∧ R a x ∧ R b y ∧ R c z := by
  obtain ⟨h1, h2⟩ := h
  match m, h1, h2 with
  | [x, y, z], _, h2 => exact ⟨x, y, z, rfl, h2 0 a x rfl rfl, h2 1 b y rfl rfl, h2 2 c z rfl rfl⟩
end Go.Sh

set_option linter.unusedVariables false
namespace Go.Sh
open Go.Proofs
theorem own : ownKnob Try.prog.godebug = none := by kernel_rfl
theorem laidOut : laidOutB Try.prog = true := by kernel_rfl
set_option maxRecDepth 100000 in
/-- A law whose function answers true, whatever comes. -/
theorem law_row {s : ChangeSpec} {f : FuncId} {fn : Func} {conds : List PathCond} {apart fresh handsOn : Bool} {ts : List TypeId} {F : List V → Option (V × List V)} (hf : Try.prog.funcs[f]? = some fn) (hin : Try.prog.inits.idxOf? f = none) (hv : s.vars = [])
    (hts : fn.params.toList = ts) (ha : ts.all (argB T) = true) (hr : ts.all (fun t => Try.prog.readableRec t && Nat.blt t Try.prog.types.size) = true) (hres : fn.resultTypes = #[4])
    (hsp : ∀ (H : Type) (ds : List (DataW H)), ds.length = ts.length → (s.fn H ds).results = [.lit (.bool true)] ∧ (s.fn H ds).args = ds ∧ (s.fn H ds).vars = [])
    (hS : SoundP Try.prog f F) (hF : LawV T ts F) (os : Os) (started : os.Started) (H : Type) (enc : TypeId × Value → H) (a : Assume)
    (hw : ∃ (w : World) (tape : Tape) (i : Input), w.os = os ∧ (w.forCall tape i).Shaped Try.checked.prog ∧ i.vars = [] ∧ Input.okWide Try.checked.prog (w.forCall tape i) .any w.heap.size f i ∧
      s.pre6 enc Try.checked.prog fn conds apart (w.forCall tape i).memory i.args ∧ a.holds Try.checked.prog (lone (Frame.enter Try.checked.prog f i.args .normal) [] (w.forCall tape i))) :
    ReturnsInHanded a Try.checked os f .any (s.pre6 enc Try.checked.prog fn conds apart) (s.post enc Try.checked.prog fn apart fresh handsOn false) := by
  refine returnsInHanded_of_change (C := Try.checked) own started hin hf hw ?_
  intro W base args ds gs before hval hW _ _
  refine law_contract (P := Try.prog) (conds := conds) hT laidOut hv hts ha (fun t ht => ?_) hres Try.underlying4 (hsp H) hS hF hval hW
  have := List.all_eq_true.1 hr t ht
  simp only [Bool.and_eq_true] at this
  exact ⟨this.1, Nat.le_of_ble_eq_true this.2⟩
end Go.Sh

set_option linter.unusedVariables false
namespace Go.Sh
open Go.Proofs
/-! ### more of what is handed in, as data: subdivisions -/
theorem sub_of {v : V} (h : VTy T 40 v) : ∃ k Ts L, v = sbV false k Ts L ∧ i64 k := by
  obtain ⟨cs, rfl, hcs⟩ := VTy.struct (t := 40) rfl rfl h
  obtain ⟨x, y, z, rfl, hx, hy, hz⟩ := All2.three hcs
  obtain ⟨q, rfl, hq⟩ := CTy.sc (t := 3) rfl hx
  obtain ⟨n, rfl, hw⟩ := ScTy.int (t := 3) rfl rfl hq
  obtain ⟨rows, rfl, hr⟩ := CTy.flat (t := 30) (e := 3) rfl rfl hy
  obtain ⟨U, rfl, _, _⟩ := ints_of hr
  obtain ⟨rows, rfl, _, hr⟩ := CTy.nest (t := 38) (e := 30) (e2 := 3) rfl rfl hz
  obtain ⟨S, rfl, hS, _⟩ := rows_of hr
  exact ⟨n, U, S, rfl, i64_wf hw⟩
end Go.Sh
