/- What the functions answer that the statement reaches. No condition. -/
import Derived.Test.YtdbpjkehidechaaGreatFn1
import Derived.Shelf.SlSortCmp.NoneTotal
import Derived.Ground.SlsfProg
import Derived.Deep.RegionLaw
set_option linter.unusedVariables false
set_option linter.unusedSimpArgs false
set_option linter.unusedSectionVars false
namespace Go.Sh
open Go.Proofs
noncomputable def SubC : Con := conP 2 (fun a : (Int × List Ed) × (Int × List Int × List (List Int)) => fewL a.2.2.2) (fun a => [grV a.1.1 a.1.2, sbV false a.2.1 a.2.2.1 a.2.2.2]) (fun a => .one (.s (.b (subB a.1.1 a.1.2 a.2.1 a.2.2.1 a.2.2.2))))
theorem SubC_at {n : Int} {E : List Ed} {k : Int} {Ts : List Int} {L : List (List Int)} (h : fewL L) : SubC.F [grV n E, sbV false k Ts L] = some (.one (.s (.b (subB n E k Ts L))), []) :=
 conP_at (a := ((n, E), (k, Ts, L))) (fun a b _ _ h => by
  obtain ⟨⟨n, E⟩, k, Ts, L⟩ := a;obtain ⟨⟨n', E'⟩, k', Ts', L'⟩ := b;simp at h;obtain ⟨h1, h2⟩ := h;obtain ⟨rfl, rfl⟩ := grV_inj h1;obtain ⟨rfl, rfl, rfl⟩ := sbV_inj h2
  rfl) h
theorem noS {n : Int} {E : List Ed} {k : Int} {Ts : List Int} {L : List (List Int)} (h : ¬ SubP n E k Ts L) : Sc.b false = Sc.b (subB n E k Ts L) := by rw [subB_no h]
theorem prsT_len {k : Int} (h : k = 1 \/ k = 2) : (prsT k).length = (if k = 1 then 6 else 3) := by rcases h with rfl | rfl <;> rfl
theorem prsT_in {k : Int} (h : k = 1 \/ k = 2) {p : Ed} (hp : p ∈ prsT k) : (0 <= p.1 /\ p.1 < (if k = 1 then 4 else 2)) /\ 0 <= p.2 /\ p.2 < (if k = 1 then 4 else 2) := by
 rcases h with rfl | rfl
 ·revert p; decide
 ·revert p; decide
def IsT (k : Int) (Ts : List Int) (L : List (List Int)) : Prop := (Ts.length : Int) = (if k = 1 then 4 else 2) /\ L.length = (prsT k).length
theorem shape_iff {k : Int} {Ts : List Int} {L : List (List Int)} (h : k = 1 \/ k = 2) : shapeP k Ts L ↔ IsT k Ts L := by
 unfold shapeP IsT
 rw [prsT_len h]
 rcases h with rfl | rfl <;> simp <;> omega
set_option maxHeartbeats 4000000 in
theorem Sub_ok : SoundC Tryz.prog T 23 SubC := by
 refine sound_con (X := { Γ := [(54, TopsC), (57, PathC), (58, ApartC)], T := T, nt := 98, ext := [53] }) (new_ok Tryz.pairs_call) hmix hT (sound_cons Tops_ok (sound_cons Path_ok (sound_cons Apart_ok sound_nil))) Tryz.func23 (by rfl) (by rfl) (by rfl) (by rfl) 5 ?_
 rintro ⟨⟨n, E⟩, k, Ts, L⟩ ⟨hL, hLr⟩
 dsimp only at hL hLr ⊢
 refine two_le ?_
 by_cases hk : k = 1 \/ k = 2
 ·have hpr : Tryz.prsR k = some (2, edges (prsT k)) := if_pos hk;refine ⟨rfl, _, some (2, edges (prsT k)), rfl, congrArg some hpr, ?_⟩;have hpl := prsT_len hk;have hp6 : 0 < (prsT k).length /\ (prsT k).length <= 6 := by rw [hpl]; split <;> omega
  refine Pick.T (by rw [qeq]; simpa using hp6.1) ?_;refine Call.by _ _ (TopsC_at k) ?_;refine Pick.by (fun h1 => ?_) (fun h1 => ?_)
  ·have h1 : ¬ (Ts.length : Int) = (if k = 1 then 4 else 2) := by simpa [qiq] using h1
   refine Seg.by (by kernel_rfl) ?_;refine ⟨rfl, ?_⟩;show Sc.b false = Sc.b (subB n E k Ts L)
   exact noS fun h => h1 ((shape_iff hk).1 h.1).1
  have h1 : (Ts.length : Int) = (if k = 1 then 4 else 2) := by simpa [qiq] using h1
  refine Seg.by (by kernel_rfl) ?_;refine Pick.by (fun h2 => ?_) (fun h2 => ?_)
  ·have h2 : ¬ L.length = (prsT k).length := by intro e; rw [qrq, qeq, e] at h2; simp at h2
   refine ⟨rfl, ?_⟩;show Sc.b false = Sc.b (subB n E k Ts L)
   exact noS fun h => h2 ((shape_iff hk).1 h.1).2
  have h2 : L.length = (prsT k).length := by
   have h2 : ((L.length : Nat) : Int) = ((prsT k).length : Nat) := by simpa [qrq, qeq] using h2
   omega
  have hsh : shapeP k Ts L := (shape_iff hk).2 ⟨h1, h2⟩;refine LoopP.intro (α := Nat) (fun i => i <= L.length /\ ∀ j p, j < i -> L[j]? = some p -> fitP n E k Ts j p) (fun i => L.length - i) (fun i => [(2, .ptr 0 0), (3, .ptr 2 0), (5, .sl 5 none none), (33, .sl 4 none none), (34, .s (.i .i64 L.length)), (35, .s (.i .i64 i))])
   (fun i => [(0, some (.blk [.s (.i .i64 n), .sl 1 none none])), (1, some (.flat false 2 (edges E))), (2, some (.blk [.s (.i .i64 k), .sl 3 none none, .sl 4 none none])), (3, some (.flat false 1 (ints Ts))), (4, some (.nest false 1 (rowsI L) [] [])), (5, some (.flat true 2 (edges (prsT k))))]) 6 0 ⟨by omega, fun j p h => by omega⟩ (by refine Weak.bw (sg 0 [_,_,_,_,_,_]) (by ((repeat' first|exact rfl|exact trivial|apply And.intro) <;> (repeat' first|exact rfl|exact trivial|apply And.intro)); all_goals (exact sc_eq (by rw [qrq])))) ?_
  rintro i ⟨hi, hft⟩;refine Pick.by (fun hc => ?_) (fun hc => ?_)
  ·have hlt : i < L.length := by have := of_decide_eq_true hc; omega
   have hro : (rowsI L)[i]? = some (ints L[i]) := qgq (qEq hlt);have hrl := hLr _ (List.getElem_mem hlt);obtain ⟨p, hp⟩ : ∃ p, L[i] = p := ⟨_, rfl⟩;have hLi : L[i]? = some p := by rw [qEq hlt, hp]
   rw [hp] at hro hrl;have hil : i < (prsT k).length := by omega
   obtain ⟨⟨qa, qb⟩, hq⟩ : ∃ q, (prsT k)[i] = q := ⟨_, rfl⟩;have hqi := prsT_in hk (List.getElem_mem hil);rw [hq] at hqi;dsimp only at hqi;rw [<- h1] at hqi;have hqg : (prsT k).getD i (0, 0) = (qa, qb) := by rw [qDq, qEq hil, hq]; rfl
   have hqe : (edges (prsT k))[i]? = some [.i .i64 qa, .i .i64 qb] := edges_get (by rw [qEq hil, hq]);have hta : Ts[qa.toNat]? = some (Ts.getD qa.toNat 0) := by rw [qDq, qEq (by omega)]; rfl
   have htb : Ts[qb.toNat]? = some (Ts.getD qb.toNat 0) := by rw [qDq, qEq (by omega)]; rfl
   refine Idx.by i rfl (by rw [qrq]; exact hlt) ?_;refine Pick.T (by simpa [qrq] using hlt) ?_;refine Idx.by i rfl (by rw [qeq]; exact hil) ?_;refine Idx.by 0 rfl (by decide) ?_;refine Look.by _ hqe ?_;refine Idx.by qa.toNat (by show qa = _; omega) (by rw [qiq]; omega) ?_;refine Look.by _ (qhq hta) ?_;refine Idx.by i rfl (by rw [qeq]; exact hil) ?_;refine Idx.by 1 rfl (by decide) ?_;refine Look.by _ hqe ?_;refine Idx.by qb.toNat (by show qb = _; omega) (by rw [qiq]; omega) ?_;refine Look.by _ (qhq htb) ?_;refine Seg.by (by kernel_rfl) ?_;refine Look.by _ hro ?_;refine Call.by _ _ (PathC_at (n := n) (E := E) (l := p) (by omega)) ?_;refine Pick.by (fun h3 => ?_) (fun h3 => ?_)
   ·have h3 : ¬ PathP n E p := by have h3 : (!pathB n E p) = true := h3; intro h; rw [pathB_iff.2 h] at h3; cases h3
    refine ⟨rfl, ?_⟩;show Sc.b false = Sc.b (subB n E k Ts L)
    exact noS fun h => h3 (h.2.1 _ _ hLi).1
   have h3 : PathP n E p := by have h3 : (!pathB n E p) = false := h3; exact pathB_iff.1 (by simpa using h3)
   have hpl : 0 < p.length := List.length_pos_iff.2 h3.2.1;have hp0 : p[0]? = some (p.headD 0) := by cases p with | nil => simp at hpl | cons a l => rfl
   have hpe : p[p.length - 1]? = some (p.getLastD 0) := by rw [List.getLastD_eq_getLast?, List.getLast?_eq_getElem?, qEq (by omega)]; rfl
   refine Look.by _ hro ?_;refine Idx.by 0 rfl (by rw [qiq]; exact hpl) ?_;refine Look.by _ hro ?_;refine Look.by _ (qhq hp0) ?_;refine Pick.by (fun h4 => ?_) (fun h4 => ?_)
   ·have h4 : p.headD 0 ≠ Ts.getD qa.toNat 0 := by intro e; rw [e] at h4; simp at h4
    refine ⟨rfl, ?_⟩;show Sc.b false = Sc.b (subB n E k Ts L)
    exact noS fun h => h4 (by have := (h.2.1 _ _ hLi).2.1; rw [hqg] at this; exact this)
   have h4 : p.headD 0 = Ts.getD qa.toNat 0 := by
    have h4 : (!(p.headD 0 == Ts.getD qa.toNat 0)) = false := h4;simpa only [Bool.not_eq_false', beq_iff_eq] using h4
   refine Look.by _ hro ?_;refine Pick.T (inI64_of (by rw [qiq]; omega) (by rw [qiq]; omega)) ?_;refine Look.by _ hro ?_;refine Idx.by (p.length - 1) (by rw [qiq]; omega) (by rw [qiq]; omega) ?_;refine Look.by _ hro ?_;refine Look.by _ (qhq hpe) ?_;refine Pick.by (fun h5 => ?_) (fun h5 => ?_)
   ·have h5 : p.getLastD 0 ≠ Ts.getD qb.toNat 0 := by intro e; rw [e] at h5; simp at h5
    refine ⟨rfl, ?_⟩;show Sc.b false = Sc.b (subB n E k Ts L)
    exact noS fun h => h5 (by have := (h.2.1 _ _ hLi).2.2.1; rw [hqg] at this; exact this)
   have h5 : p.getLastD 0 = Ts.getD qb.toNat 0 := by
    have h5 : (!(p.getLastD 0 == Ts.getD qb.toNat 0)) = false := h5;simpa only [Bool.not_eq_false', beq_iff_eq] using h5
   refine Look.by _ hro ?_;refine Pick.by (fun h6 => ?_) (fun h6 => ?_)
   ·have h6 : p.length < 2 := by have := of_decide_eq_true h6; rw [qiq] at this; omega
    refine ⟨rfl, ?_⟩;show Sc.b false = Sc.b (subB n E k Ts L)
    exact noS fun h => (by have := (h.2.1 _ _ hLi).2.2.2; omega)
   have h6 : 2 <= p.length := by have := of_decide_eq_false h6; rw [qiq] at this; omega
   have hfit : (k = 2 -> 3 <= p.length) -> ∀ j p, j < i + 1 -> L[j]? = some p -> fitP n E k Ts j p := fun h j p' hj hp' => by
    rcases Nat.lt_or_ge j i with hji | hji
    ·exact hft j p' hji hp'
    ·obtain rfl : j = i := by omega
     rw [hLi] at hp'; injection hp' with hp'; subst hp'
     refine ⟨h3, ?_, ?_, ?_⟩
     ·rw [hqg]; exact h4
     ·rw [hqg]; exact h5
     ·rcases hk with rfl | rfl
      ·omega
      ·have := h rfl; omega
   refine Pick.by (fun h7 => ?_) (fun h7 => ?_)
   ·have h7 : k = 2 := by simpa using h7
    refine Look.by _ hro ?_;refine Pick.by (fun h8 => ?_) (fun h8 => ?_)
    ·have h8 : p.length < 3 := by have := of_decide_eq_true h8; rw [qiq] at this; omega
     refine ⟨rfl, ?_⟩;show Sc.b false = Sc.b (subB n E k Ts L)
     exact noS fun h => (by have := (h.2.1 _ _ hLi).2.2.2; omega)
    have h8 : 3 <= p.length := by have := of_decide_eq_false h8; rw [qiq] at this; omega
    refine Pick.n ?_;refine Next.by (i + 1) ⟨by omega, hfit fun _ => h8⟩ (by omega) (by refine Weak.ba (sg 0 [_,_,_,_,_,_]))
   ·have h7 : k ≠ 2 := by intro e; rw [e] at h7; simp at h7
    refine Pick.n ?_;refine Next.by (i + 1) ⟨by omega, hfit fun e => absurd e h7⟩ (by omega) (by refine Weak.ba (sg 0 [_,_,_,_,_,_]))
  ·have hge : L.length <= i := by have := of_decide_eq_false hc; omega
   refine Call.by _ _ (ApartC_at (few_app ⟨hL, hLr⟩)) ?_;refine ⟨rfl, ?_⟩;show Sc.b (apartB L) = Sc.b (subB n E k Ts L)
   have hfa : ∀ j p, L[j]? = some p -> fitP n E k Ts j p := fun j p hj => hft j p (by have := (qSq.1 hj).1; omega) hj
   congr 1
   rw [Bool.eq_iff_iff, apartB_iff, subB_iff];exact ⟨fun h => ⟨hsh, hfa, h⟩, fun h => h.2.2⟩
 ·have hpr : Tryz.prsR k = none := if_neg hk;refine ⟨rfl, _, none, rfl, congrArg some hpr, ?_⟩;refine Seg.by (by kernel_rfl) ?_;refine ⟨rfl, ?_⟩;show Sc.b false = Sc.b (subB n E k Ts L)
  exact noS fun h => hk (by rcases h.1 with h | h; exact .inl h.1; exact .inr h.1)
end Go.Sh
namespace Go.Sh
open Go.Proofs Go.Sort Go.Shelf Go.RowKit
def encE (p : Ed) : List Value := [.int .i64 p.1, .int .i64 p.2]
theorem edges_even (l : List Ed) : ∀ (i : Nat) (row : Row), (edges l)[i]? = some row -> row.length = 2 := fun i row h => by
 simp only [edges, List.getElem?_map, Option.map_eq_some_iff] at h
 obtain ⟨x, _, rfl⟩ := h
 rfl
theorem frm_grow [Fwd] (hD : Fwd.D) {w w' : World} (h : Frm (fun _ => False) w w') : ∃ q os, w' = grow (w.drewN q) os := by
 refine ⟨w'.drawn - w.drawn, w'.heap.extract w.heap.size w'.heap.size, ?_⟩
 have hd : w.drawn <= w'.drawn := h.tape.2 hD
 have hh : w'.heap = w.heap ++ w'.heap.extract w.heap.size w'.heap.size := by
  apply Array.ext_getElem?
  intro i;have hs := h.size;rcases Nat.lt_or_ge i w.heap.size with hi | hi
  ·rw [Array.getElem?_append_left hi]; exact h.block i hi (fun h => h)
  ·rw [Array.getElem?_append_right hi, Array.getElem?_extract];split
   ·congr 1; omega
   ·rw [Array.getElem?_eq_none]; omega
 have h1 := h.os; have h2 := h.tape.1; have h3 := h.output
 obtain ⟨a1, a2, a3, a4, a5⟩ := w
 obtain ⟨b1, b2, b3, b4, b5⟩ := w'
 simp only at h1 h2 h3 hd
 subst h1 h2 h3
 unfold grow World.drewN
 simp only at hh ⊢
 rw [<- hh]
 congr 1
 omega
end Go.Sh
namespace Go.Sh
open Go.Proofs Go.Sort Go.Shelf Go.RowKit
theorem put_heap {α : Type} [Inhabited α] (enc : α -> Value) (w : World) (q b off : Nat) (d : Array α) (os : Array Obj) {x : Nat} (hx : x < w.heap.size) :
  (grow (putRow enc (Sort.ahead w q) b off d) os).heap[x]? = (w.heap[x]?).map fun o => if x = b then onCells (putCells enc off d) o else o := by
 show ((w.heap.modify b (onCells (putCells enc off d))) ++ os)[x]? = _
 rw [Array.getElem?_append_left (by simpa using hx), Array.getElem?_modify]
 by_cases e : b = x
 ·simp [e]
 ·have : ¬ x = b := fun h => e h.symm
  simp [e, this]
noncomputable def sortL (cf : List Int -> List Int -> Int) (L : List (List Int)) : List (List Int) := L.mergeSort fun x y => !(ltOf cf) y x
theorem sortL_perm (cf : List Int -> List Int -> Int) (L : List (List Int)) : (sortL cf L).Perm L := List.mergeSort_perm L _
open Classical in
noncomputable def sortN (cf : List Int -> List Int -> Int) (l : List Flat) : List Flat := if h : ∃ L : List (List Int), l = rowsI L then rowsI (sortL cf h.choose) else l
theorem sortN_rows (cf : List Int -> List Int -> Int) (L : List (List Int)) : sortN cf (rowsI L) = rowsI (sortL cf L) := by
 have h : ∃ L' : List (List Int), rowsI L = rowsI L' := ⟨L, rfl⟩
 unfold sortN
 rw [dif_pos h, <- rowsI_inj h.choose_spec]
def sortNP (good : List Int -> Prop) (cf : List Int -> List Int -> Int) (l : List Flat) : Prop := ∃ L : List (List Int), l = rowsI L /\ (∀ r ∈ L, good r) /\ L.Pairwise (fun x y => ltOf cf x y = true \/ ltOf cf y x = true) /\ L.length <= 1000000
theorem nest_sort {P : Program} {ρ : Ren} (LS : SlLaysF.n6 P ρ) {f c : Nat} (hf : ρ.f 6 = f) (hfn : ∃ fn, P.funcs[f]? = some fn /\ fn.name ≠ "runtime.NumGoroutine" /\ fn.body ≠ none)
  (eg : ∀ args w, (callFunc c args).run P w = .ok (.enter c args) w) (good : List Int -> Prop) (cf : List Int -> List Int -> Int) (hO : SWO (ltOf cf))
  (hC : ∀ (x y : List Int) (A B : Option Addr) (ca cb : Nat) (W : World), good x -> good y -> FlatOk W noLab none A ca 1 (ints x) -> FlatOk W noLab none B cb 1 (ints y) ->
   Calls P c #[.slice A x.length ca, .slice B y.length cb] W fun e w' => e = .returned (.int .i64 (cf x y)) /\ ∃ q os', w' = grow (W.drewN q) os') :
  NestFnCall P f c 1 (sortNP good cf) (sortN cf) := by
 refine ⟨hfn, ?_⟩
 rintro l ⟨L, rfl, hg, hD, hl⟩ w own n A cap rb rc h hown
 rw [sortN_rows]
 subst hf
 rcases Nat.eq_zero_or_pos L.length with h0 | h0
 ·have : L = [] := List.eq_nil_of_length_eq_zero h0;subst this;refine (AnyF.slices_SortFunc_none { LS with } A cap _ w).mono ?_;rintro e w' ⟨rfl, rfl⟩;refine ⟨rfl, Frm.refl _ _, id, id, fun i hi => ⟨hi, rfl⟩, fun i hi => ⟨hi, rfl⟩, by simp [sortL], fun i fl hi => ?_, fun i fl hi => ?_, ?_⟩
  ·simp [sortL, rowsI] at hi
  ·simp [sortL, rowsI] at hi
  ·rcases h.room rfl with ⟨h1, _⟩ | h1
   ·exact .inl ⟨h1, by simp [sortL, rowsI]⟩
   ·exact .inr h1
 ·obtain ⟨m, hm⟩ : ∃ m, L.length = m + 1 := ⟨L.length - 1, by omega⟩;rcases h.room rfl with ⟨_, h1⟩ | ⟨b, off, arr, T', hA, ho, hh, hsz⟩
  ·have : L = [] := by simpa [rowsI] using h1
   rw [this] at h0; simp at h0
  have hbl : b < w.heap.size := hown b _ ho
  let el : Fin (m + 1) -> List Int := fun i => L[i.1]'(by omega)
  let enc : Fin (m + 1) -> Value := fun i => .slice (rb i.1) (el i).length (rc i.1)
  let cf' : Fin (m + 1) -> Fin (m + 1) -> Int := fun i j => cf (el i) (el j)
  have hfits := h.fits;rw [qrq] at hfits;have hrow : ∀ i : Fin (m + 1), (rowsI L)[i.1]? = some (ints (el i)) := fun i => qgq (qEq (by omega))
  have hmem : ∀ i : Fin (m + 1), el i ∈ L := fun i => List.getElem_mem _
  have hlt : ∀ i j : Fin (m + 1), ltOf cf' i j = ltOf cf (el i) (el j) := fun i j => rfl
  have hO' : SWO (ltOf cf') := ⟨fun x => hO.irrefl _, fun x y z => hO.trans _ _ _, fun x y z => hO.ntrans _ _ _⟩;have hT : ∀ x y, (ltOf cf') x y = false -> (ltOf cf') y x = false -> x = y := fun x y h1 h2 => by
   rw [List.pairwise_iff_getElem] at hD;rcases Nat.lt_trichotomy x.1 y.1 with hxy | hxy | hxy
   ·have := hD x.1 y.1 (by omega) (by omega) hxy;rw [hlt] at h1 h2;rcases this with k | k
    ·rw [show ltOf cf L[x.1] L[y.1] = false from h1] at k; simp at k
    ·rw [show ltOf cf L[y.1] L[x.1] = false from h2] at k; simp at k
   ·exact Fin.ext hxy
   ·have := hD y.1 x.1 (by omega) (by omega) hxy;rw [hlt] at h1 h2;rcases this with k | k
    ·rw [show ltOf cf L[y.1] L[x.1] = false from h2] at k; simp at k
    ·rw [show ltOf cf L[x.1] L[y.1] = false from h1] at k; simp at k
  have hd : ((List.finRange (m + 1)).toArray).size = m + 1 := by simp
  have hcell : ∀ i : Fin (m + 1), w.cell? ⟨b, off + i.1, none⟩ = some (enc i) := fun i => by
   obtain ⟨a, v, q1, q2, q3, q4⟩ := h.head i.1 _ (hrow i);rw [hA] at q1; injection q1 with q1; subst q1
   rw [Addr.add_plain] at q3;rw [q3, q4 (by simp), qiq]
  have hH : Holds enc w b off (List.finRange (m + 1)).toArray := fun j hj => by
   rw [hd] at hj;refine ⟨?_, by simp [World.frozen?, hh]⟩;rw [getElem!_pos _ j (by rw [hd]; exact hj)];have hj' : (List.finRange (m + 1)).toArray[j]'(by rw [hd]; exact hj) = ⟨j, hj⟩ := by simp
   rw [hj', hcell ⟨j, hj⟩]
  have hfl : ∀ (q : Nat) (os : Array Obj) (d' : Array (Fin (m + 1))) (i : Fin (m + 1)), FlatOk (sortWorld enc w b off q d' os) noLab none (rb i.1) (rc i.1) 1 (ints (el i)) := fun q os d' i => by
   have hr := h.row i.1 _ (hrow i) (by simp);refine ⟨hr.fits, hr.pos, hr.even, fun i' row j x hi hj => ?_, fun hs => by simp at hs⟩;obtain ⟨a, k1, k2, k3⟩ := hr.cell i' row j x hi hj;refine ⟨a, k1, rfl, ?_⟩;have hab : a.block < w.heap.size := hown _ _ k2;have hne : a.block ≠ b := fun e => by rw [e, ho] at k2; injection k2 with k2; injection k2 with _ k2; simp at k2
   rw [cell_of_block (w := w)]
   ·exact k3
   ·rw [Addr.add_block];show (grow (putRow enc (Sort.ahead w q) b off d') os).heap[a.block]? = _
    rw [put_heap enc w q b off d' os hab];simp [hne]
  have hcmp : CmpLays1 P c #[] enc cf' b off (List.finRange (m + 1)).toArray.size w := fun q os dk hs x y =>
   hC (el x) (el y) _ _ _ _ _ (hg _ (hmem x)) (hg _ (hmem y)) (hfl q os dk x) (hfl q os dk y)
  have hS := Any.slices_SortFunc_total LS enc (fun _ => rfl) cf' hO' c #[] b off cap (List.finRange (m + 1)).toArray w eg hcmp hH hbl (by rw [hd]; omega) hT;rw [qrq, hm, hA];rw [hd] at hS;refine hS.mono ?_;rintro e w' ⟨rfl, q, os, rfl⟩;obtain ⟨M, hM⟩ : ∃ M, (List.finRange (m + 1)).mergeSort (fun x y => !(ltOf cf') y x) = M := ⟨_, rfl⟩;simp only [hM];have hperm : M.Perm (List.finRange (m + 1)) := by rw [<- hM]; exact List.mergeSort_perm _ _
  have hML : M.length = m + 1 := by rw [hperm.length_eq]; simp
  have hnd : M.Nodup := hperm.nodup_iff.2 (List.nodup_finRange _);have hall : ∀ i : Fin (m + 1), i ∈ M := fun i => hperm.mem_iff.2 (List.mem_finRange i)
  have hmap : sortL cf L = M.map el := by
   have hLm : L = (List.finRange (m + 1)).map el := by
    apply List.ext_getElem
    ·simp [hm]
    ·intro i h1 h2; simp [el]
   rw [<- hM, List.map_mergeSort (r := fun x y => !(ltOf cf') y x) (s := fun x y => !(ltOf cf) y x) (f := el) (fun a _ b _ => rfl), <- hLm]
   rfl
  have hlen : (rowsI (sortL cf L)).length = m + 1 := by rw [hmap]; simp [rowsI, hML]
  let s : Nat -> Nat := fun i => if h : i < M.length then (M[i]).1 else i
  let t : Nat -> Nat := fun j => if h : j < m + 1 then M.idxOf ⟨j, h⟩ else j
  have hs : ∀ i, (hi : i < m + 1) -> s i = (M[i]'(by omega)).1 := fun i hi => by simp only [s]; rw [dif_pos (by omega)]
  have hget : ∀ i fl, (rowsI (sortL cf L))[i]? = some fl -> i < m + 1 /\ ∃ hi : i < M.length, fl = ints (el M[i]) := fun i fl hi => by
   have hil := (qSq.1 hi).1;rw [hlen] at hil;refine ⟨hil, by omega, ?_⟩;rw [hmap] at hi;simp only [rowsI, List.getElem?_map, qEq (show i < M.length by omega), Option.map_some, Option.some.injEq] at hi;exact hi.symm
  refine ⟨trivial, ⟨rfl, .of rfl, rfl, ?_, fun x hx hn => ?_⟩, s, t, fun i hi => ⟨by rw [hs i hi]; exact (M[i]'(by omega)).2, ?_⟩, fun i hi => ?_, hlen, fun i fl hi => ?_, fun i fl hi => ?_, .inr ⟨b, off, putCells enc off M.toArray arr, T', rfl, ho, ?_, by simp [putCells]; omega⟩⟩
  ·show w.heap.size <= ((w.heap.modify b _) ++ os).size
   simp
  ·show (grow (putRow enc (Sort.ahead w q) b off M.toArray) os).heap[x]? = _
   rw [put_heap enc w q b off M.toArray os hx];have : x ≠ b := fun e => hn (by rw [e]; exact ho)
   simp [this]
  ·have hsi := hs i hi;simp only [t];rw [dif_pos (by rw [hsi]; exact (M[i]'(by omega)).2)];have : (⟨s i, by rw [hsi]; exact (M[i]'(by omega)).2⟩ : Fin (m + 1)) = M[i]'(by omega) := Fin.ext hsi;rw [this];exact hnd.idxOf_getElem i (by omega)
  ·have hti : t i = M.idxOf ⟨i, hi⟩ := by simp only [t]; rw [dif_pos hi]
   have hlt' : M.idxOf (⟨i, hi⟩ : Fin (m + 1)) < M.length := List.idxOf_lt_length_of_mem (hall _);refine ⟨by omega, ?_⟩;rw [hti, hs _ (by omega), List.getElem_idxOf hlt']
  ·obtain ⟨hi1, hi2, rfl⟩ := hget i fl hi;rw [hs i hi1];exact hrow _
  ·obtain ⟨hi1, hi2, rfl⟩ := hget i fl hi;refine ⟨_, rfl, ?_⟩;rw [Addr.add_plain, hs i hi1];show (grow (putRow enc (Sort.ahead w q) b off M.toArray) os).cell? _ = _
   simp only [World.cell?, put_heap enc w q b off M.toArray os hbl, hh, Option.map_some, if_true, onCells];show (putCells enc off M.toArray arr)[off + i]? = _
   unfold putCells;rw [Array.getElem?_mapIdx, Array.getElem?_eq_getElem (by omega), Option.map_some, if_pos (by simp; omega), qiq];rw [getElem!_pos _ _ (by simp; omega)];simp [enc]
  ·show (grow (putRow enc (Sort.ahead w q) b off M.toArray) os).heap[b]? = _
   rw [put_heap enc w q b off M.toArray os hbl, hh];simp [onCells]
end Go.Sh
namespace Go.Sh
theorem nodup_lenG {α : Type} [DecidableEq α] {l : List α} : ∀ {m : List α}, l.Nodup -> (∀ x ∈ l, x ∈ m) -> l.length <= m.length := by
 induction l with
 | nil => intro m _ _; simp
 | cons x l ih =>
  intro m h s;rw [List.nodup_cons] at h;have hx := s x (by simp);have := ih (m := m.erase x) h.2 fun y hy => (List.mem_erase_of_ne (fun (e : y = x) => h.1 (by rw [<- e]; exact hy))).2 (s y (by simp [hy]))
  rw [List.length_erase_of_mem hx] at this;have := List.length_pos_of_mem hx;simp; omega
theorem range_len {n : Int} {l : List Int} (h : l.Nodup) (hr : ∀ v ∈ l, 0 <= v /\ v < n) : l.length <= n.toNat := by
 have := nodup_lenG (m := (List.range n.toNat).map fun (i : Nat) => (i : Int)) h fun v hv => by
  have := hr v hv;exact List.mem_map.2 ⟨v.toNat, List.mem_range.2 (by omega), by omega⟩
 simpa using this
end Go.Sh
namespace Go.Sh
open Go.Proofs
def nxtT (E : List Ed) (p : List Int) : Int := (nearL E (p.getLastD 0)).getD 0 0 + (nearL E (p.getLastD 0)).getD 1 0 - p.getD (p.length - 2) 0
def goT (E : List Ed) : Nat -> List Int -> List Int
 | 0, p => p
 | f + 1, p => if (nearL E (p.getLastD 0)).length = 2 then goT E f (p ++ [nxtT E p]) else p
structure FolT (n : Int) (E : List Ed) (t : Int) (p : List Int) : Prop where
 two : 2 <= p.length
 hd : p.getD 0 0 = t
 st : stepsE E p
 nd : p.dropLast.Nodup
 deg : ∀ i, 1 <= i -> i + 1 < p.length -> (nearL E (p.getD i 0)).length = 2
 ne : ∀ i, i + 2 < p.length -> p.getD i 0 ≠ p.getD (i + 2) 0
theorem adj_ne {n : Int} {E : List Ed} (hR : RightP n E) {x y : Int} (h : adjE E x y) : x ≠ y := by
 rcases h with h | h <;> (have := hR.2.2.2.1 _ h; unfold okE at this; dsimp only at this; omega)
theorem near_nodup {n : Int} {E : List Ed} (hR : RightP n E) (v : Int) : (nearL E v).Nodup :=
 (near_sorted hR.2.2.2.1 hR.2.2.2.2).imp fun h => by omega
theorem lastD_get {p : List Int} (h : 0 < p.length) : p.getLastD 0 = p.getD (p.length - 1) 0 := by
 rw [List.getLastD_eq_getLast?, List.getLast?_eq_getElem?, qDq]
theorem two_near {n : Int} {E : List Ed} (hR : RightP n E) {v a : Int} (h : (nearL E v).length = 2) (ha : adjE E v a) :
  adjE E v ((nearL E v).getD 0 0 + (nearL E v).getD 1 0 - a) /\ (nearL E v).getD 0 0 + (nearL E v).getD 1 0 - a ≠ a /\ ∀ b, adjE E v b -> b = a \/ b = (nearL E v).getD 0 0 + (nearL E v).getD 1 0 - a := by
 have hm : a ∈ nearL E v := mem_nearL.2 ha
 have hnd := near_nodup hR v
 obtain ⟨c, d, hcd⟩ : ∃ c d, nearL E v = [c, d] := by
  match hq : nearL E v, h with
  | [c, d], _ => exact ⟨c, d, rfl⟩
 have hall : ∀ b, adjE E v b ↔ b = c \/ b = d := fun b => by rw [<- mem_nearL, hcd]; simp
 rw [hcd] at hm hnd ⊢
 have hne : c ≠ d := by simpa using hnd
 simp only [List.getD_cons_zero, List.getD_cons_succ]
 simp only [List.mem_cons, List.not_mem_nil, or_false] at hm
 rcases hm with rfl | rfl
 ·rw [show a + d - a = d by omega];exact ⟨(hall d).2 (.inr rfl), Ne.symm hne, fun b hb => (hall b).1 hb⟩
 ·rw [show c + a - a = c by omega];exact ⟨(hall c).2 (.inl rfl), hne, fun b hb => ((hall b).1 hb).symm⟩
theorem getD_snoc {p : List Int} {x : Int} {i : Nat} : (p ++ [x]).getD i 0 = if i < p.length then p.getD i 0 else if i = p.length then x else 0 := by
 simp only [qDq, List.getElem?_append]
 by_cases h : i < p.length
 ·rw [if_pos h, if_pos h]
 ·rw [if_neg h, if_neg h];by_cases h2 : i = p.length
  ·subst h2; simp
  ·rw [if_neg h2, List.getElem?_eq_none (by simp; omega)]; rfl
section
variable {n : Int} {E : List Ed} {t : Int} {p : List Int}
theorem FolT.last_new (h : FolT n E t p) (hR : RightP n E) (ht : (nearL E t).length ≠ 2) (h2 : (nearL E (p.getLastD 0)).length = 2) : p.Nodup := by
 have h0 := h.two
 have hne0 : p ≠ [] := by intro e; rw [e] at h0; simp at h0
 have hl := lastD_get (p := p) (by omega)
 rw [hl] at h2
 have hdl : ∀ i, i + 1 < p.length -> p.dropLast[i]? = some (p.getD i 0) := fun i hi => by
  rw [List.getElem?_dropLast, if_pos (by omega), qEq (by omega), getD_at (by omega)]
 have hinj : ∀ i j, i + 1 < p.length -> j + 1 < p.length -> p.getD i 0 = p.getD j 0 -> i = j := fun i j hi hj e => by
  have hi' : i < p.dropLast.length := by simp; omega
  exact (List.getElem?_inj hi' h.nd).1 (by rw [hdl i hi, hdl j hj, e])
 have hlast : ∀ j, j + 1 < p.length -> p.getD (p.length - 1) 0 ≠ p.getD j 0 := fun j hj e => by
  rcases Nat.eq_zero_or_pos j with rfl | hj0
  ·rw [e, h.hd] at h2; exact ht h2
  have hdj := h.deg j hj0 hj;have s1 := h.st (j - 1) (by omega);rw [show j - 1 + 1 = j by omega] at s1;have s2 := h.st j (by omega);have s3 := h.st (p.length - 2) (by omega);rw [show p.length - 2 + 1 = p.length - 1 by omega, e] at s3;have hall := (two_near hR hdj s1.symm).2.2;have hne := h.ne (j - 1) (by omega);rw [show j - 1 + 2 = j + 1 by omega] at hne;have e2 := (hall _ s2).resolve_left (Ne.symm hne);rcases hall _ s3.symm with k | k
  ·have := hinj _ _ (by omega) (by omega) k; omega
  ·rw [<- e2] at k;rcases Nat.lt_or_ge (j + 2) p.length with hj2 | hj2
   ·have := hinj _ _ (by omega) (by omega) k;have hx := h.ne j (by omega);rw [show j + 2 = p.length - 1 by omega] at hx;exact hx e.symm
   ·have hj3 : j + 1 = p.length - 1 := by omega
    rw [hj3, e] at s2;exact adj_ne hR s2 rfl
 have hsp : p = p.dropLast ++ [p.getLast hne0] := (List.dropLast_concat_getLast hne0).symm
 rw [hsp, List.nodup_append]
 refine ⟨h.nd, by simp, fun a ha b hb e => ?_⟩
 simp only [List.mem_singleton] at hb
 subst hb
 obtain ⟨j, hj, hja⟩ := List.mem_iff_getElem.1 ha
 rw [List.length_dropLast] at hj
 refine hlast j (by omega) ?_
 rw [getD_at (by omega), getD_at (by omega), <- List.getLast_eq_getElem hne0, <- e, <- hja]
 simp
theorem FolT.next (h : FolT n E t p) (hR : RightP n E) (ht : (nearL E t).length ≠ 2) (h2 : (nearL E (p.getLastD 0)).length = 2) : FolT n E t (p ++ [nxtT E p]) := by
 have h0 := h.two
 have hl := lastD_get (p := p) (by omega)
 have hnd := h.last_new hR ht h2
 have s3 := h.st (p.length - 2) (by omega)
 rw [show p.length - 2 + 1 = p.length - 1 by omega, <- hl] at s3
 obtain ⟨q1, q2, _⟩ := two_near hR h2 s3.symm
 refine ⟨by simp; omega, ?_, fun i hi => ?_, by simpa using hnd, fun i h1 hi => ?_, fun i hi => ?_⟩
 ·rw [getD_snoc, if_pos (by omega)]; exact h.hd
 ·simp at hi;rw [getD_snoc, getD_snoc, if_pos (by omega)];by_cases hi2 : i + 1 < p.length
  ·rw [if_pos hi2]; exact h.st i hi2
  ·rw [if_neg hi2, if_pos (by omega), show i = p.length - 1 by omega, <- hl];exact q1
 ·simp at hi;rw [getD_snoc, if_pos (by omega)];by_cases hi2 : i + 1 < p.length
  ·exact h.deg i h1 hi2
  ·rw [show i = p.length - 1 by omega, <- hl]; exact h2
 ·simp at hi;rw [getD_snoc, getD_snoc, if_pos (by omega)];by_cases hi2 : i + 2 < p.length
  ·rw [if_pos hi2]; exact h.ne i hi2
  ·rw [if_neg hi2, if_pos (by omega), show i = p.length - 2 by omega];exact Ne.symm q2
theorem FolT.inN (h : FolT n E t p) (hR : RightP n E) : ∀ x ∈ p, 0 <= x /\ x < n := fun x hx => by
 obtain ⟨i, hi, rfl⟩ := List.mem_iff_getElem.1 hx
 have h0 := h.two
 rw [<- getD_at hi]
 by_cases h1 : i + 1 < p.length
 ·exact (adj_in hR (h.st i h1)).1
 ·have := (adj_in hR (h.st (i - 1) (by omega))).2
  rwa [show i - 1 + 1 = i by omega] at this
theorem FolT.len (h : FolT n E t p) (hR : RightP n E) : p.length <= n.toNat + 1 := by
 have := range_len h.nd fun x hx => h.inN hR x ((List.dropLast_sublist _).subset hx)
 simp at this; omega
theorem FolT.len2 (h : FolT n E t p) (hR : RightP n E) (ht : (nearL E t).length ≠ 2) (h2 : (nearL E (p.getLastD 0)).length = 2) : p.length <= n.toNat :=
 range_len (h.last_new hR ht h2) (h.inN hR)
theorem FolT.start {x : Int} (hx : x ∈ nearL E t) : FolT n E t [t, x] where
 two := by simp
 hd := rfl
 st i hi := by
  have hi : i + 1 < 2 := hi;have : i = 0 := by omega
  subst this;exact mem_nearL.1 hx
 nd := by simp
 deg i h1 hi := by
  have hi : i + 1 < 2 := hi;omega
 ne i hi := by
  have hi : i + 2 < 2 := hi;omega
end
theorem goT_stop {E : List Ed} {f : Nat} {p : List Int} (h : (nearL E (p.getLastD 0)).length ≠ 2) : goT E f p = p := by
 cases f with
 | zero => rfl
 | succ f => exact if_neg h
theorem goT_step {E : List Ed} {f : Nat} {p : List Int} (h : (nearL E (p.getLastD 0)).length = 2) : goT E (f + 1) p = goT E f (p ++ [nxtT E p]) := if_pos h
theorem goT_fol {n : Int} {E : List Ed} {t : Int} (hR : RightP n E) (ht : (nearL E t).length ≠ 2) : ∀ (f : Nat) {p : List Int}, FolT n E t p -> n.toNat + 2 <= f + p.length -> FolT n E t (goT E f p) /\ (nearL E ((goT E f p).getLastD 0)).length ≠ 2 /\ ∃ r, goT E f p = p ++ r := by
 intro f
 induction f with
 | zero =>
  intro p h hf;have := h.len hR;omega
 | succ f ih =>
  intro p h hf;by_cases h2 : (nearL E (p.getLastD 0)).length = 2
  ·rw [goT_step h2];obtain ⟨q1, q2, r, q3⟩ := ih (h.next hR ht h2) (by simp; omega);exact ⟨q1, q2, nxtT E p :: r, by rw [q3]; simp⟩
  ·rw [goT_stop h2];exact ⟨h, h2, [], by simp⟩
def topsK (E : List Ed) (k : Nat) : List Int := ((List.range k).filter fun v => (nearL E (v : Nat)).length == 3).map fun (v : Nat) => (v : Int)
def degOk (E : List Ed) (v : Nat) : Prop := (nearL E (v : Nat)).length = 0 \/ (nearL E (v : Nat)).length = 2 \/ (nearL E (v : Nat)).length = 3
def degsOk (n : Int) (E : List Ed) : Prop := ∀ v : Nat, (v : Int) < n -> degOk E v
def pathT (n : Int) (E : List Ed) (t x : Int) : List Int := goT E n.toNat [t, x]
def keepT (n : Int) (E : List Ed) (t : Int) (l : List Int) : List (List Int) := (l.map fun x => pathT n E t x).filter fun p => decide (t < p.getLastD 0)
def pathsT (n : Int) (E : List Ed) (T : List Int) : List (List Int) := T.flatMap fun t => keepT n E t (nearL E t)
def usedT (L : List (List Int)) : Nat := (L.map fun p => p.length - 1).sum
def cmpT (p q : List Int) : Int := orI [cmpI (p.headD 0) (q.headD 0), cmpI (p.getLastD 0) (q.getLastD 0), cmpI (p.getD 1 0) (q.getD 1 0)]
def ltT (p q : List Int) : Prop := p.headD 0 < q.headD 0 \/ (p.headD 0 = q.headD 0 /\ (p.getLastD 0 < q.getLastD 0 \/ (p.getLastD 0 = q.getLastD 0 /\ p.getD 1 0 < q.getD 1 0)))
theorem cmpT_lt (p q : List Int) : cmpT p q < 0 ↔ ltT p q := by
 unfold cmpT orI cmpI ltT
 repeat' split
 all_goals simp_all
 all_goals omega
theorem ltT_t {x y : List Int} : ltOf cmpT x y = true ↔ ltT x y := by unfold ltOf; rw [decide_eq_true_iff, cmpT_lt]
theorem ltT_f {x y : List Int} : ltOf cmpT x y = false ↔ ¬ ltT x y := by unfold ltOf; rw [decide_eq_false_iff_not, cmpT_lt]
theorem swoT : Go.Sort.SWO (ltOf cmpT) where
 irrefl x := by rw [ltT_f]; unfold ltT; omega
 trans x y z h1 h2 := by rw [ltT_t] at *; unfold ltT at *; omega
 ntrans x y z h1 h2 := by rw [ltT_f] at *; unfold ltT at *; omega
theorem parts_T {p q : List Int} (h : p.headD 0 ≠ q.headD 0 \/ p.getD 1 0 ≠ q.getD 1 0) : ltOf cmpT p q = true \/ ltOf cmpT q p = true := by
 rw [ltT_t, ltT_t]; unfold ltT; omega
def kindT (T : List Int) : Int := if T.length = 4 then 1 else if T.length = 2 then 2 else 0
def ReadP (n : Int) (E : List Ed) : Prop := RightP n E /\ degsOk n E /\ kindT (topsK E n.toNat) ≠ 0 /\ usedT (pathsT n E (topsK E n.toNat)) = E.length /\
 SubP n E (kindT (topsK E n.toNat)) (topsK E n.toNat) (sortL cmpT (pathsT n E (topsK E n.toNat)))
open Classical in
noncomputable def readF (n : Int) (E : List Ed) : (Int × List Int × List (List Int)) × Bool :=
 if ReadP n E then ((kindT (topsK E n.toNat), topsK E n.toNat, sortL cmpT (pathsT n E (topsK E n.toNat))), true) else ((0, [], []), false)
theorem readF_no {n : Int} {E : List Ed} (h : ¬ ReadP n E) : readF n E = ((0, [], []), false) := if_neg h
theorem readF_yes {n : Int} {E : List Ed} (h : ReadP n E) : readF n E = ((kindT (topsK E n.toNat), topsK E n.toNat, sortL cmpT (pathsT n E (topsK E n.toNat))), true) := if_pos h
theorem mem_topsK {E : List Ed} {k : Nat} {t : Int} : t ∈ topsK E k ↔ 0 <= t /\ t < k /\ (nearL E t).length = 3 := by
 unfold topsK
 rw [List.mem_map]
 constructor
 ·rintro ⟨v, hv, rfl⟩;rw [List.mem_filter, List.mem_range] at hv;exact ⟨by omega, by omega, by simpa using hv.2⟩
 ·rintro ⟨h0, h1, h2⟩;exact ⟨t.toNat, by rw [List.mem_filter, List.mem_range, show ((t.toNat : Nat) : Int) = t by omega]; exact ⟨by omega, by simpa using h2⟩, by omega⟩
theorem topsK_sorted (E : List Ed) (k : Nat) : (topsK E k).Pairwise (· < ·) := by
 unfold topsK
 rw [List.pairwise_map]
 exact (List.pairwise_lt_range.filter _).imp fun h => by omega
theorem topsK_succ (E : List Ed) (k : Nat) : topsK E (k + 1) = topsK E k ++ (if (nearL E (k : Nat)).length = 3 then [(k : Int)] else []) := by
 unfold topsK
 rw [List.range_succ, List.filter_append, List.map_append]
 congr 1
 by_cases h : (nearL E (k : Nat)).length = 3 <;> simp [h]
theorem pathT_is {n : Int} {E : List Ed} (hR : RightP n E) {t x : Int} (ht : (nearL E t).length = 3) (hx : x ∈ nearL E t) :
  FolT n E t (pathT n E t x) /\ (nearL E ((pathT n E t x).getLastD 0)).length ≠ 2 /\ ∃ r, pathT n E t x = t :: x :: r := by
 obtain ⟨h1, h2, r, h3⟩ := goT_fol hR (by omega) n.toNat (FolT.start hx) (by simp)
 exact ⟨h1, h2, r, h3⟩
theorem mem_keepT {n : Int} {E : List Ed} {t : Int} {l : List Int} {p : List Int} : p ∈ keepT n E t l ↔ (∃ x ∈ l, p = pathT n E t x) /\ t < p.getLastD 0 := by
 unfold keepT
 rw [List.mem_filter, List.mem_map, decide_eq_true_iff]
 exact and_congr_left fun _ => ⟨fun ⟨x, hx, e⟩ => ⟨x, hx, e.symm⟩, fun ⟨x, hx, e⟩ => ⟨x, hx, e.symm⟩⟩
theorem keepT_snoc (n : Int) (E : List Ed) (t : Int) (l : List Int) (x : Int) : keepT n E t (l ++ [x]) = keepT n E t l ++ (if t < (pathT n E t x).getLastD 0 then [pathT n E t x] else []) := by
 unfold keepT
 rw [List.map_append, List.filter_append]
 congr 1
 rw [List.map_cons, List.map_nil]
 by_cases h : t < (pathT n E t x).getLastD 0
 ·rw [if_pos h, List.filter_cons, if_pos (decide_eq_true h)]; rfl
 ·rw [if_neg h, List.filter_cons, if_neg (by rw [decide_eq_true_iff]; exact h)]; rfl
theorem paths_keys {n : Int} {E : List Ed} (hR : RightP n E) {T : List Int} (hT : ∀ t ∈ T, (nearL E t).length = 3) (hnd : T.Nodup) :
  (pathsT n E T).Pairwise (fun x y => ltOf cmpT x y = true \/ ltOf cmpT y x = true) := by
 unfold pathsT
 rw [List.pairwise_flatMap]
 refine ⟨fun t ht => ?_, ?_⟩
 ·unfold keepT;refine List.Pairwise.filter _ ?_;rw [List.pairwise_map];refine List.Pairwise.imp_of_mem ?_ (near_nodup hR t);intro x y hx hy hne;obtain ⟨_, _, r, hr⟩ := pathT_is hR (hT t ht) hx;obtain ⟨_, _, q, hq⟩ := pathT_is hR (hT t ht) hy;rw [hr, hq];exact parts_T (.inr (by simpa using hne))
 ·refine List.Pairwise.imp_of_mem ?_ hnd;intro t u ht hu hne p hp q hq;obtain ⟨⟨x, hx, rfl⟩, _⟩ := mem_keepT.1 hp;obtain ⟨⟨y, hy, rfl⟩, _⟩ := mem_keepT.1 hq;obtain ⟨_, _, r, hr⟩ := pathT_is hR (hT t ht) hx;obtain ⟨_, _, q, hq⟩ := pathT_is hR (hT u hu) hy;rw [hr, hq];exact parts_T (.inl (by simpa using hne))
end Go.Sh
namespace Go.Sh
open Go.Proofs
theorem headD_at {p : List Int} (h : 0 < p.length) : p.headD 0 = p.getD 0 0 := by cases p with | nil => simp at h | cons a l => rfl
theorem lastD_at {p : List Int} : p.getLastD 0 = p.getD (p.length - 1) 0 := by
 rw [List.getLastD_eq_getLast?, List.getLast?_eq_getElem?, qDq]
theorem getD_mem {p : List Int} {i : Nat} (h : i < p.length) : p.getD i 0 ∈ p := by rw [getD_at h]; exact List.getElem_mem h
section
variable {n : Int} {E : List Ed} {k : Int} {T : List Int} {L : List (List Int)}
theorem cnt_at {L : List (List Int)} {v : Int} {i j : Nat} {p q : List Int} (hp : L[i]? = some p) (hq : L[j]? = some q) (hij : i ≠ j) (hv : v ∈ p) (hw : v ∈ q) : 2 <= L.flatten.count v := by
 induction L generalizing i j with
 | nil => simp at hp
 | cons x L ih =>
  rw [List.flatten_cons, List.count_append]
  cases i with
  | zero =>
   simp at hp; subst hp
   cases j with
   | zero => exact absurd rfl hij
   | succ j =>
    simp at hq;have h1 : 0 < x.count v := List.count_pos_iff.2 hv;have h2 : 0 < L.flatten.count v := List.count_pos_iff.2 (List.mem_flatten.2 ⟨q, qMq hq, hw⟩);omega
  | succ i =>
   simp at hp
   cases j with
   | zero =>
    simp at hq; subst hq
    have h1 : 0 < x.count v := List.count_pos_iff.2 hw;have h2 : 0 < L.flatten.count v := List.count_pos_iff.2 (List.mem_flatten.2 ⟨p, qMq hp, hv⟩);omega
   | succ j =>
    simp at hq;have := ih hp hq (by omega);omega
theorem ends_out {p : List Int} (hn : p.Nodup) {v : Int} (hv : v ∈ innerL p) : v ≠ p.headD 0 /\ v ≠ p.getLastD 0 := by
 obtain ⟨i, hi, rfl⟩ := mem_inner.1 hv
 rw [headD_at (by omega), lastD_at, getD_at (by omega), getD_at (by omega)]
 constructor
 ·intro e;have := (List.getElem_inj hn).1 e;omega
 ·intro e;have := (List.getElem_inj hn).1 e;omega
theorem inner_end (h : SubP n E k T L) {i j : Nat} {p q : List Int} (hp : L[i]? = some p) (hq : L[j]? = some q) {v : Int} (hv : v ∈ innerL p) : v ≠ q.headD 0 /\ v ≠ q.getLastD 0 := by
 obtain ⟨hs, hf, ha⟩ := h
 have hvp : v ∈ p := by obtain ⟨x, hx, rfl⟩ := mem_inner.1 hv; exact List.getElem_mem _
 by_cases hij : i = j
 ·subst hij;rw [hp] at hq; injection hq with hq; subst hq
  exact ends_out (hf _ _ hp).1.2.2.2.1 hv
 ·have hc := ha p (qMq hp) v hv;have hqn := (hf _ _ hq).1.2.1;have hql : 0 < q.length := List.length_pos_iff.2 hqn;constructor
  ·intro e;have := cnt_at hp hq hij hvp (by rw [e, headD_at hql]; exact getD_mem hql);omega
  ·intro e;have := cnt_at hp hq hij hvp (by rw [e, lastD_at]; exact getD_mem (by omega));omega
end
theorem adj_sym {E : List Ed} {x y : Int} (h : adjE E x y) : adjE E y x := h.elim .inr .inl
theorem path_ends {n : Int} {E : List Ed} {p : List Int} (h : PathP n E p) : (0 <= p.headD 0 /\ p.headD 0 < n) /\ (0 <= p.getLastD 0 /\ p.getLastD 0 < n) := by
 have hl : 0 < p.length := List.length_pos_iff.2 h.2.1
 exact ⟨h.2.2.1, by rw [lastD_at]; exact path_in h _ (getD_mem (by omega))⟩
end Go.Sh
namespace Go.Sh
open Go.Proofs
end Go.Sh
namespace Go.Sh
open Go.Proofs Go.RowKit
attribute [local go_sem] Oper.semAt_some
end Go.Sh
namespace Go.Sh
open Go.Proofs
end Go.Sh
namespace Go.Sh
open Go.Proofs Go.Sort Go.Shelf Go.RowKit
theorem segsR_length (p : List Int) : (segsR p).length = p.length - 1 := by simp [segsR]
end Go.Sh
namespace Go.Sh
open Go.Proofs Go.Sort Go.Shelf Go.RowKit
def goodT (x : List Int) : Prop := 2 <= x.length /\ x.length <= 1000000
theorem hd_get {x : List Int} (h : 0 < x.length) : x[0]? = some (x.headD 0) := by cases x with | nil => simp at h | cons a l => rfl
theorem last_get {x : List Int} (h : 0 < x.length) : x[x.length - 1]? = some (x.getLastD 0) := by rw [List.getLastD_eq_getLast?, List.getLast?_eq_getElem?, qEq (by omega)]; rfl
theorem getD_get {x : List Int} {i : Nat} (h : i < x.length) : x[i]? = some (x.getD i 0) := by rw [qDq, qEq h]; rfl
theorem CloT_p [Fwd] : SoundP Tryz.prog 28 (conF (fun a : List Int × List Int => goodT a.1 /\ goodT a.2) (fun a => [.one (.flat false 1 (ints a.1)), .one (.flat false 1 (ints a.2))]) (fun a => .one (.s (.i .i64 (cmpT a.1 a.2))))) := by
 refine con_pure (X := { Γ := [(30, CompareC), (29, OrC)], T := T, nt := 34 }) cr_none hmix hT (sound_cons Compare_ok (sound_cons Or_ok sound_nil)) Tryz.func28 (by rfl) (by rfl) (by rfl) 2 ?_
 rintro ⟨x, y⟩ ⟨⟨hx, hx2⟩, hy, hy2⟩
 dsimp only at hx hx2 hy hy2 ⊢
 refine two_le ?_
 refine Idx.by 0 rfl (by rw [qiq]; omega) ?_
 refine Look.by _ (qhq (hd_get (by omega))) ?_
 refine Idx.by 0 rfl (by rw [qiq]; omega) ?_
 refine Look.by _ (qhq (hd_get (by omega))) ?_
 refine Call.by _ _ (CompareC_at _ _) ?_
 refine Pick.T (inI64_of (by rw [qiq]; omega) (by rw [qiq]; omega)) ?_
 refine Idx.by (x.length - 1) (by rw [qiq]; omega) (by rw [qiq]; omega) ?_
 refine Look.by _ (qhq (last_get (by omega))) ?_
 refine Pick.T (inI64_of (by rw [qiq]; omega) (by rw [qiq]; omega)) ?_
 refine Idx.by (y.length - 1) (by rw [qiq]; omega) (by rw [qiq]; omega) ?_
 refine Look.by _ (qhq (last_get (by omega))) ?_
 refine Call.by _ _ (CompareC_at _ _) ?_
 refine Idx.by 1 rfl (by rw [qiq]; omega) ?_
 refine Look.by _ (qhq (getD_get (by omega))) ?_
 refine Idx.by 1 rfl (by rw [qiq]; omega) ?_
 refine Look.by _ (qhq (getD_get (by omega))) ?_
 refine Call.by _ _ (CompareC_at _ _) ?_
 refine Call.by _ _ (OrC_at (l := [cmpI (x.headD 0) (y.headD 0), cmpI (x.getLastD 0) (y.getLastD 0), cmpI (x.getD 1 0) (y.getD 1 0)]) (by simp)) ?_
 refine Seg.by (by kernel_rfl) ?_
 refine ⟨rfl, ?_⟩
 show _ = _
 rfl
theorem cloT_call (x y : List Int) (A B : Option Addr) (ca cb : Nat) (W : World) (hx : goodT x) (hy : goodT y) (h1 : FlatOk W noLab none A ca 1 (ints x)) (h2 : FlatOk W noLab none B cb 1 (ints y)) :
  Calls Tryz.prog 28 #[.slice A x.length ca, .slice B y.length cb] W fun e w' => e = .returned (.int .i64 (cmpT x y)) /\ ∃ q os', w' = grow (W.drewN q) os' := by
 letI : Fwd := ⟨True⟩
 have hF : conF (fun a : List Int × List Int => goodT a.1 /\ goodT a.2) (fun a => [V.one (.flat false 1 (ints a.1)), .one (.flat false 1 (ints a.2))]) (fun a => V.one (C.s (.i .i64 (cmpT a.1 a.2)))) [.one (.flat false 1 (ints x)), .one (.flat false 1 (ints y))] = some (.one (.s (.i .i64 (cmpT x y))), []) :=
  conF_at (a := (x, y)) (fun a b _ _ h => by simp at h; rw [ints_inj h.1, ints_inj h.2]) ⟨hx, hy⟩
 refine (CloT_p _ _ _ hF W #[.slice A x.length ca, .slice B y.length cb] ⟨⟨⟨A, ca, fun _ => none, fun _ => 0⟩, by rw [qiq], h1⟩, ⟨⟨B, cb, fun _ => none, fun _ => 0⟩, by rw [qiq], h2⟩, trivial⟩).mono ?_
 rintro e w' ⟨u, lab, rfl, hf, _, hu⟩
 obtain ⟨p, hu⟩ := hu
 refine ⟨?_, frm_grow trivial hf⟩
 show Ending.returned u = _
 rw [show u = (Sc.i .i64 (cmpT x y)).val from hu]
 rfl
theorem SortT_row : NestFnCall Tryz.prog 27 28 1 (sortNP goodT cmpT) (sortN cmpT) :=
 nest_sort Tryz.laysSortR rfl ⟨_, Tryz.func27, by decide, by simp [Tryz.f27]⟩
  (enters_of Tryz.func28 (by kernel_rfl) rfl) goodT cmpT swoT cloT_call
end Go.Sh
namespace Go.Sh
open Go.Proofs
noncomputable def ReadC : Con := conP 1 (fun a : Int × List Ed => a.2.length <= 1000000) (fun a => [grV a.1 a.2]) (fun a => .tup [sbV true (readF a.1 a.2).1.1 (readF a.1 a.2).1.2.1 (readF a.1 a.2).1.2.2, .one (.s (.b (readF a.1 a.2).2))])
theorem ReadC_at {n : Int} {E : List Ed} (h : E.length <= 1000000) : ReadC.F [grV n E] = some (.tup [sbV true (readF n E).1.1 (readF n E).1.2.1 (readF n E).1.2.2, .one (.s (.b (readF n E).2))], []) :=
 conP_at (a := (n, E)) (fun x y _ _ h => by
  obtain ⟨n, E⟩ := x;obtain ⟨n', E'⟩ := y;simp at h;obtain ⟨rfl, rfl⟩ := grV_inj h
  rfl) h
def nbK (n : Nat) (E : List Ed) (k : Nat) : List (List Int) := ((List.range k).map fun (v : Nat) => nearL E (v : Int)) ++ List.replicate (n - k) []
theorem nbK_len {n : Nat} {E : List Ed} {k : Nat} (h : k <= n) : (nbK n E k).length = n := by simp [nbK]; omega
theorem nbK_end (n : Nat) (E : List Ed) : nbK n E n = nbrs n E := by simp [nbK, nbrs]
theorem nbK_zero (n : Nat) (E : List Ed) : nbK n E 0 = List.replicate n [] := by simp [nbK]
theorem nbK_set {n : Nat} {E : List Ed} {k : Nat} (h : k < n) : (nbK n E k).set k (nearL E (k : Int)) = nbK n E (k + 1) := by
 apply List.ext_getElem?
 intro i
 unfold nbK
 rw [List.getElem?_set]
 have hl : (((List.range k).map fun (v : Nat) => nearL E (v : Int)) ++ List.replicate (n - k) []).length = n := by simp; omega
 by_cases h1 : k = i
 ·subst h1;rw [if_pos rfl, if_pos (by rw [hl]; exact h), qLq (by simp), List.getElem?_map, List.getElem?_range (by omega)]; rfl
 ·rw [if_neg h1];by_cases h2 : i < k
  ·rw [qLq (by simpa using h2), qLq (by simp; omega), List.getElem?_map, List.getElem?_map, List.getElem?_range h2, List.getElem?_range (by omega)]
  ·rw [qRq (by simp; omega), qRq (by simp; omega), List.getElem?_replicate, List.getElem?_replicate];simp;by_cases h3 : i < n
   ·rw [if_pos (by omega), if_pos (by omega)]
   ·rw [if_neg (by omega), if_neg (by omega)]
theorem nb_get {n : Nat} {E : List Ed} {v : Nat} (h : v < n) : (rowsI (nbrs n E))[v]? = some (ints (nearL E (v : Int))) := by
 refine qgq ?_
 unfold nbrs
 rw [List.getElem?_map, List.getElem?_range h]; rfl
theorem keepT_len (n : Int) (E : List Ed) (t : Int) (l : List Int) : (keepT n E t l).length <= l.length := by
 unfold keepT
 exact Nat.le_trans (List.length_filter_le _ _) (by simp)
theorem pathsT_snoc (n : Int) (E : List Ed) (T : List Int) (t : Int) : pathsT n E (T ++ [t]) = pathsT n E T ++ keepT n E t (nearL E t) := by simp [pathsT]
theorem pathsT_len {n : Int} {E : List Ed} : ∀ {T : List Int}, (∀ t ∈ T, (nearL E t).length = 3) -> (pathsT n E T).length <= 3 * T.length
 | [], _ => by simp [pathsT]
 | t :: T, h => by
  have ih := pathsT_len (n := n) (T := T) fun x hx => h x (List.mem_cons_of_mem _ hx)
  have h1 := keepT_len n E t (nearL E t);have h2 := h t (by simp);unfold pathsT at ih ⊢;rw [List.flatMap_cons, List.length_append, List.length_cons];omega
theorem keepT_row {n : Int} {E : List Ed} (hR : RightP n E) {t : Int} (ht : (nearL E t).length = 3) {l : List Int} (hl : ∀ x ∈ l, x ∈ nearL E t) {p : List Int} (hp : p ∈ keepT n E t l) : 2 <= p.length /\ p.length <= n.toNat + 1 := by
 obtain ⟨⟨x, hx, rfl⟩, _⟩ := mem_keepT.1 hp
 obtain ⟨h1, _, _⟩ := pathT_is hR ht (hl x hx)
 exact ⟨h1.two, h1.len hR⟩
theorem pathsT_row {n : Int} {E : List Ed} (hR : RightP n E) {T : List Int} (hT : ∀ t ∈ T, (nearL E t).length = 3) {p : List Int} (hp : p ∈ pathsT n E T) : 2 <= p.length /\ p.length <= n.toNat + 1 := by
 obtain ⟨t, ht, hp⟩ := List.mem_flatMap.1 hp
 exact keepT_row hR (hT t ht) (fun x hx => hx) hp
theorem usedT_le {m : Nat} : ∀ {L : List (List Int)}, (∀ p ∈ L, p.length <= m + 1) -> usedT L <= L.length * m
 | [], _ => by simp [usedT]
 | p :: L, h => by
  have ih := usedT_le (m := m) (L := L) fun x hx => h x (List.mem_cons_of_mem _ hx)
  have h1 := h p (by simp);simp only [usedT, List.map_cons, List.sum_cons, List.length_cons] at ih ⊢;rw [Nat.succ_mul];omega
theorem usedT_snoc (L : List (List Int)) (p : List Int) : usedT (L ++ [p]) = usedT L + (p.length - 1) := by simp [usedT]
set_option maxHeartbeats 4000000 in
theorem Read_ok : SoundC Tryz.prog T 9 ReadC := by
 refine sound_con (X := { Γ := [(25, RightC), (26, NearGC), (23, SubC)], T := T, nt := 149, ext := [27] }) (nestFn_ok SortT_row) hmix hT (sound_cons RightG_ok (sound_cons Near_ok (sound_cons Sub_ok sound_nil))) Tryz.func9 (by rfl) (by rfl) (by rfl) (by rfl) 2 ?_
 rintro ⟨n, E⟩ hl
 dsimp only at hl ⊢
 refine two_le ?_
 refine Call.by _ _ (RightC_at n E) ?_
 refine Pick.by (fun h1 => ?_) (fun h1 => ?_)
 ·have h1 : ¬ RightP n E := by simpa using h1
  have hv := readF_no (n := n) (E := E) (fun h => h1 h.1);dsimp only;rw [hv];exact ⟨rfl, rfl, ⟨rfl, ⟨rfl, rfl⟩, ⟨rfl, rfl⟩, trivial⟩, rfl, trivial⟩
 have h1 : RightP n E := by simpa using h1
 obtain ⟨hn0, hn1, hE4, hokE, hsrt⟩ := id h1
 refine Pick.T (by simp) ?_
 refine Idx.by n.toNat (by omega) (by omega) ?_
 refine LoopP.intro (α := Nat) (fun k => k <= n.toNat) (fun k => n.toNat - k) (fun k => [(1, .ptr 0 0), (2, .ptr 2 0), (4, .ptr 3 0), (5, .sl 4 none none), (24, .s (.i .i64 n.toNat)), (25, .s (.i .i64 k))])
  (fun k => [(0, some (.blk [.s (.i .i64 n), .sl 1 none none])), (1, some (.flat false 2 (edges E))), (2, some (.blk [.s (.i .i64 0), .nils, .nils])), (3, some (.blk [.s (.i .i64 0), .nils, .nils])), (4, some (.nest true 1 (rowsI (nbK n.toNat E k)) [] []))]) 5 0 (by omega) (by refine Weak.bw (sg 0 [_,_,_,_,_]) (by ((repeat' first|exact rfl|exact trivial|apply And.intro) <;> (repeat' first|exact rfl|exact trivial|apply And.intro)); all_goals ((first|exact sc_eq (by rw [List.length_replicate]) | (rw [nbK_zero]; simp [rowsI, ints]; done))))) ?_
 rintro k hk
 have hkl : (rowsI (nbK n.toNat E k)).length = n.toNat := by rw [qrq, nbK_len hk]
 refine Pick.by (fun hc => ?_) (fun hc => ?_)
 ·have hlt : k < n.toNat := by have := of_decide_eq_true hc; omega
  refine Call.by _ _ (NearGC_at (n := n) (E := E) (k : Int) hl) ?_;refine Idx.by k rfl (by rw [hkl]; exact hlt) ?_;refine Pick.T (by rw [hkl]; simpa using hlt) ?_;refine Pick.n ?_;have hng : nearG n E (k : Int) = nearL E k := if_pos h1;refine Next.by (k + 1) (by omega) (by omega) (by refine Weak.bw (sg 0 [_,_,_,_,_]) (by ((repeat' first|exact rfl|exact trivial|apply And.intro) <;> (repeat' first|exact rfl|exact trivial|apply And.intro)); all_goals ((rw [<- nbK_set hlt, rowsI_set, hng]))))
 have hge : k = n.toNat := by have := of_decide_eq_false hc; omega
 subst hge
 rw [nbK_end] at hkl ⊢
 refine LoopP.intro (α := Nat) (fun k => k <= n.toNat /\ ∀ v : Nat, v < k -> degOk E v) (fun k => n.toNat - k) (fun k => [(1, .ptr 0 0), (2, .ptr 2 0), (4, .ptr 3 0), (5, .sl 4 none none), (35, .sl 4 none none), (36, .s (.i .i64 n.toNat)), (37, .s (.i .i64 k))])
  (fun k => [(0, some (.blk [.s (.i .i64 n), .sl 1 none none])), (1, some (.flat false 2 (edges E))), (2, some (.blk [.s (.i .i64 0), .nils, .nils])), (3, some (.blk [.s (.i .i64 0), .sl 5 none none, .nils])), (4, some (.nest true 1 (rowsI (nbrs n.toNat E)) [] [])), (5, some (.flat true 1 (ints (topsK E k))))]) 6 0 ⟨by omega, fun v h => by omega⟩ (by refine Weak.bw [(0, some _), (1, some _), (2, some _), (3, some _), (4, some _), (5, none)] (by ((repeat' first|exact rfl|exact trivial|apply And.intro) <;> (repeat' first|exact rfl|exact trivial|apply And.intro)); all_goals ((first|exact sc_eq (by rw [hkl]) | done)))) ?_
 rintro k ⟨hk, hdg⟩
 have htl : (topsK E k).length <= k := by unfold topsK; rw [List.length_map]; exact Nat.le_trans (List.length_filter_le _ _) (by simp)
 refine Pick.by (fun hc => ?_) (fun hc => ?_)
 ·have hlt : k < n.toNat := by have := of_decide_eq_true hc; omega
  have hro := nb_get (E := E) hlt;have hnl := nearL_length E k;have hnx : degOk E k -> ∀ v : Nat, v < k + 1 -> degOk E v := fun h v hv => by
   rcases Nat.lt_or_ge v k with h2 | h2
   ·exact hdg v h2
   ·obtain rfl : v = k := by omega
    exact h
  have hst := topsK_succ E k;refine Idx.by k rfl (by rw [hkl]; exact hlt) ?_;refine Pick.T (by rw [hkl]; simpa using hlt) ?_;refine Look.by _ hro ?_;refine Pick.by (fun h3 => ?_) (fun h3 => ?_)
  ·have h3 : (nearL E (k : Int)).length = 0 := by rw [qiq] at h3; have := beq_iff_eq.1 h3; omega
   rw [if_neg (by omega), List.append_nil] at hst;refine Pick.n ?_;refine Next.by (k + 1) ⟨by omega, hnx (.inl h3)⟩ (by omega) (by refine Weak.bw (sg 0 [_,_,_,_,_,_]) (by ((repeat' first|exact rfl|exact trivial|apply And.intro) <;> (repeat' first|exact rfl|exact trivial|apply And.intro)); all_goals ((rw [hst]))))
  refine Pick.by (fun h4 => ?_) (fun h4 => ?_)
  ·have h4 : (nearL E (k : Int)).length = 2 := by rw [qiq] at h4; have := beq_iff_eq.1 h4; omega
   rw [if_neg (by omega), List.append_nil] at hst;refine Pick.n ?_;refine Next.by (k + 1) ⟨by omega, hnx (.inr (.inl h4))⟩ (by omega) (by refine Weak.bw (sg 0 [_,_,_,_,_,_]) (by ((repeat' first|exact rfl|exact trivial|apply And.intro) <;> (repeat' first|exact rfl|exact trivial|apply And.intro)); all_goals ((rw [hst]))))
  refine Pick.by (fun h5 => ?_) (fun h5 => ?_)
  ·have h5 : (nearL E (k : Int)).length = 3 := by rw [qiq] at h5; have := beq_iff_eq.1 h5; omega
   rw [if_pos h5] at hst;refine Pick.T (by simp [cut, qiq] at htl ⊢; omega) ?_;refine Pick.n ?_;refine Next.by (k + 1) ⟨by omega, hnx (.inr (.inr h5))⟩ (by omega) (by refine Weak.bw (sg 0 [_,_,_,_,_,_]) (by ((repeat' first|exact rfl|exact trivial|apply And.intro) <;> (repeat' first|exact rfl|exact trivial|apply And.intro)); all_goals ((rw [hst, ints_snoc]; rfl))))
  ·have hno : ¬ degOk E k := by
    rw [qiq] at h3 h4 h5;have h3 := beq_eq_false_iff_ne.1 h3;have h4 := beq_eq_false_iff_ne.1 h4;have h5 := beq_eq_false_iff_ne.1 h5;unfold degOk;omega
   have hv := readF_no (n := n) (E := E) (fun h => hno (h.2.1 k (by omega)));dsimp only;rw [hv];exact ⟨rfl, rfl, ⟨rfl, ⟨rfl, rfl⟩, ⟨rfl, rfl⟩, trivial⟩, rfl, trivial⟩
 have hge : k = n.toNat := by have := of_decide_eq_false hc; omega
 subst hge
 have hdegs : degsOk n E := fun v hv => hdg v (by omega)
 have hTs3 : ∀ t ∈ topsK E n.toNat, 0 <= t /\ t < n /\ (nearL E t).length = 3 := fun t ht => by
  have := mem_topsK.1 ht;exact ⟨this.1, by omega, this.2.2⟩
 have hTsn : (topsK E n.toNat).Nodup := (topsK_sorted E n.toNat).imp fun h => by omega
 obtain ⟨Ts, hTs⟩ : ∃ Ts, topsK E n.toNat = Ts := ⟨_, rfl⟩
 rw [hTs] at hTs3 hTsn htl ⊢
 have hTd : ∀ t ∈ Ts, (nearL E t).length = 3 := fun t ht => (hTs3 t ht).2.2
 refine Pick.by (fun h4 => ?_) (fun h4 => ?_)
 ·have h4 : Ts.length = 4 := by rw [qiq] at h4; have := beq_iff_eq.1 h4; omega
  have hkd : kindT Ts = 1 := if_pos h4;refine LoopP.intro (α := Nat) (fun i => i <= Ts.length) (fun i => Ts.length - i) (fun i => [(1, .ptr 0 0), (2, .ptr 2 0), (4, .ptr 3 0), (5, .sl 4 none none), (9, .s (.i .i64 (usedT (pathsT n E (Ts.take i)) : Nat))), (68, .sl 5 none none), (69, .s (.i .i64 Ts.length)), (70, .s (.i .i64 i))])
   (fun i => [(0, some (.blk [.s (.i .i64 n), .sl 1 none none])), (1, some (.flat false 2 (edges E))), (2, some (.blk [.s (.i .i64 0), .nils, .nils])), (3, some (.blk [.s (.i .i64 1), .sl 5 none none, .sl 6 none none])), (4, some (.nest true 1 (rowsI (nbrs n.toNat E)) [] [])), (5, some (.flat true 1 (ints Ts))), (6, some (.nest true 1 (rowsI (pathsT n E (Ts.take i))) [] []))]) 7 0 (by omega) (by refine Weak.bw [(0, some _), (1, some _), (2, some _), (3, some _), (4, some _), (5, some _), (6, none)] (by ((repeat' first|exact rfl|exact trivial|apply And.intro) <;> (repeat' first|exact rfl|exact trivial|apply And.intro)); all_goals ((first|exact sc_eq (by rw [qiq]) | done)))) ?_
  rintro i hi;refine Pick.by (fun hc => ?_) (fun hc => ?_)
  ·have hlt : i < Ts.length := by have := of_decide_eq_true hc; omega
   obtain ⟨t, ht⟩ : ∃ t, Ts[i] = t := ⟨_, rfl⟩;have htm : t ∈ Ts := by rw [<- ht]; exact List.getElem_mem hlt
   have hti : Ts[i]? = some t := by rw [qEq hlt, ht]
   obtain ⟨t0, t1, t2⟩ := hTs3 t htm;have htn := nb_get (n := n.toNat) (E := E) (v := t.toNat) (by omega);rw [Int.toNat_of_nonneg t0] at htn;refine Idx.by i rfl (by rw [qiq]; exact hlt) ?_;refine Look.by _ (qhq hti) ?_;refine Idx.by t.toNat (by show t = _; omega) (by rw [hkl]; omega) ?_;refine Pick.T (by rw [hkl]; simp; omega) ?_;refine Look.by _ htn ?_;have hk0 : pathsT n E (Ts.take i) ++ keepT n E t ((nearL E t).take 0) = pathsT n E (Ts.take i) := by rw [List.take_zero]; simp [keepT]
   refine LoopP.intro (α := Nat) (fun j => j <= (nearL E t).length) (fun j => (nearL E t).length - j) (fun j => [(1, .ptr 0 0), (2, .ptr 2 0), (4, .ptr 3 0), (5, .sl 4 none none), (9, .s (.i .i64 (usedT (pathsT n E (Ts.take i) ++ keepT n E t ((nearL E t).take j)) : Nat))), (11, .s (.i .i64 t)), (68, .sl 5 none none), (69, .s (.i .i64 Ts.length)), (70, .s (.i .i64 i)), (77, .sl 4 (some (t.toNat, 0)) none), (78, .s (.i .i64 (nearL E t).length)), (79, .s (.i .i64 j))])
    (fun j => [(0, some (.blk [.s (.i .i64 n), .sl 1 none none])), (1, some (.flat false 2 (edges E))), (2, some (.blk [.s (.i .i64 0), .nils, .nils])), (3, some (.blk [.s (.i .i64 1), .sl 5 none none, .sl 6 none none])), (4, some (.nest true 1 (rowsI (nbrs n.toNat E)) [] [])), (5, some (.flat true 1 (ints Ts))), (6, some (.nest true 1 (rowsI (pathsT n E (Ts.take i) ++ keepT n E t ((nearL E t).take j))) [] []))]) 7 0 (by omega) (by refine Weak.bw (sg 0 [_,_,_,_,_,_,_]) (by ((repeat' first|exact rfl|exact trivial|apply And.intro) <;> (repeat' first|exact rfl|exact trivial|apply And.intro)); all_goals ((first|exact sc_eq (by rw [qiq]) | exact sc_eq (by rw [hk0]) | (rw [hk0]; done) | (simp; done))))) ?_
   rintro j hj;refine Pick.by (fun hc2 => ?_) (fun hc2 => ?_)
   ·have hjl : j < (nearL E t).length := by have := of_decide_eq_true hc2; omega
    obtain ⟨x0, hx0⟩ : ∃ x, (nearL E t)[j] = x := ⟨_, rfl⟩;have hxm : x0 ∈ nearL E t := by rw [<- hx0]; exact List.getElem_mem hjl
    have hxg : (nearL E t)[j]? = some x0 := by rw [qEq hjl, hx0]
    refine Look.by _ htn ?_;refine Idx.by j rfl (by rw [qiq]; exact hjl) ?_;refine Look.by _ htn ?_;refine Look.by _ (qhq hxg) ?_;refine LoopP.intro (α := List Int) (fun p => FolT n E t p /\ ∃ f, n.toNat + 2 <= f + p.length /\ goT E f p = pathT n E t x0) (fun p => n.toNat + 2 - p.length) (fun p => [(1, .ptr 0 0), (2, .ptr 2 0), (4, .ptr 3 0), (5, .sl 4 none none), (9, .s (.i .i64 (usedT (pathsT n E (Ts.take i) ++ keepT n E t ((nearL E t).take j)) : Nat))), (11, .s (.i .i64 t)), (13, .s (.i .i64 (p.getLastD 0))), (14, .sl 7 none none), (68, .sl 5 none none), (69, .s (.i .i64 Ts.length)), (70, .s (.i .i64 i)), (77, .sl 4 (some (t.toNat, 0)) none), (78, .s (.i .i64 (nearL E t).length)), (79, .s (.i .i64 j))])
     (fun p => [(0, some (.blk [.s (.i .i64 n), .sl 1 none none])), (1, some (.flat false 2 (edges E))), (2, some (.blk [.s (.i .i64 0), .nils, .nils])), (3, some (.blk [.s (.i .i64 1), .sl 5 none none, .sl 6 none none])), (4, some (.nest true 1 (rowsI (nbrs n.toNat E)) [] [])), (5, some (.flat true 1 (ints Ts))), (6, some (.nest true 1 (rowsI (pathsT n E (Ts.take i) ++ keepT n E t ((nearL E t).take j))) [] [])), (7, some (.flat true 1 (ints p)))]) 8 [t, x0] ⟨FolT.start hxm, n.toNat, by simp, rfl⟩ (by refine Weak.bw (sg 0 [_,_,_,_,_,_,_,_]) (by ((repeat' first|exact rfl|exact trivial|apply And.intro) <;> (repeat' first|exact rfl|exact trivial|apply And.intro)); all_goals ((first | (simp; done))))) ?_
    rintro p ⟨hF, f, hf, hg⟩;have hp2 := hF.two;have hpn := hF.len h1;obtain ⟨xl, hxl⟩ : ∃ x, p.getLastD 0 = x := ⟨_, rfl⟩;have hxr : 0 <= xl /\ xl < n := by rw [<- hxl, lastD_get (by omega)]; exact hF.inN h1 _ (by rw [getD_at (by omega)]; exact List.getElem_mem _)
    have hxt := nb_get (n := n.toNat) (E := E) (v := xl.toNat) (by omega);rw [Int.toNat_of_nonneg hxr.1] at hxt;rw [hxl];refine Idx.by xl.toNat (by show xl = _; omega) (by rw [hkl]; omega) ?_;refine Pick.T (by rw [hkl]; simp; omega) ?_;refine Look.by _ hxt ?_;refine Pick.by (fun h2 => ?_) (fun h2 => ?_)
    ·have h2 : (nearL E xl).length = 2 := by rw [qiq] at h2; have := beq_iff_eq.1 h2; omega
     obtain ⟨c, hcc⟩ : ∃ c, (nearL E xl).getD 0 0 = c := ⟨_, rfl⟩;obtain ⟨d, hdd⟩ : ∃ d, (nearL E xl).getD 1 0 = d := ⟨_, rfl⟩;obtain ⟨q, hqq⟩ : ∃ q, p.getD (p.length - 2) 0 = q := ⟨_, rfl⟩;have hcg : (nearL E xl)[0]? = some c := by rw [getD_get (by omega), hcc]
     have hdg2 : (nearL E xl)[1]? = some d := by rw [getD_get (by omega), hdd]
     have hqg : p[p.length - 2]? = some q := by rw [getD_get (by omega), hqq]
     have hcr := (adj_in h1 (mem_nearL.1 (qMq hcg))).2;have hdr := (adj_in h1 (mem_nearL.1 (qMq hdg2))).2;have hqr := hF.inN h1 q (qMq hqg);have hnx : nxtT E p = c + d - q := by unfold nxtT; rw [hxl, hcc, hdd, hqq]
     refine Idx.by xl.toNat (by show xl = _; omega) (by rw [hkl]; omega) ?_;refine Pick.T (by rw [hkl]; simp; omega) ?_;refine Look.by _ hxt ?_;refine Idx.by 0 rfl (by rw [qiq]; omega) ?_;refine Look.by _ hxt ?_;refine Look.by _ (qhq hcg) ?_;refine Idx.by xl.toNat (by show xl = _; omega) (by rw [hkl]; omega) ?_;refine Pick.T (by rw [hkl]; simp; omega) ?_;refine Look.by _ hxt ?_;refine Idx.by 1 rfl (by rw [qiq]; omega) ?_;refine Look.by _ hxt ?_;refine Look.by _ (qhq hdg2) ?_;refine Pick.n ?_;refine Pick.T (inI64_of (by rw [qiq]; omega) (by rw [qiq]; omega)) ?_;refine Idx.by (p.length - 2) (by rw [qiq]; omega) (by rw [qiq]; omega) ?_;refine Look.by _ (qhq hqg) ?_;refine Pick.n ?_;refine Seg.by (by kernel_rfl) ?_;refine Pick.T (by simp [cut, qiq]; omega) ?_;have h2' : (nearL E (p.getLastD 0)).length = 2 := by rw [hxl]; exact h2
     have hlen := hF.len2 h1 (by omega) h2';obtain ⟨f', rfl⟩ : ∃ f', f = f' + 1 := ⟨f - 1, by omega⟩;rw [goT_step h2'] at hg;have hla : (p ++ [nxtT E p]).getLastD 0 = c + d - q := by rw [List.getLastD_concat, hnx]
     refine Next.by (p ++ [nxtT E p]) ⟨hF.next h1 (by omega) h2', f', by simp; omega, hg⟩ (by simp; omega) (by refine Weak.bw (sg 0 [_,_,_,_,_,_,_,_]) (by ((repeat' first|exact rfl|exact trivial|apply And.intro) <;> (repeat' first|exact rfl|exact trivial|apply And.intro)); all_goals ((first|exact sc_eq hla | (rw [hnx, ints_snoc]; rfl) | (simp; done)))))
    ·have h2 : (nearL E xl).length ≠ 2 := by rw [qiq] at h2; have := beq_eq_false_iff_ne.1 h2; omega
     have hpp : p = pathT n E t x0 := by rw [<- hg, goT_stop (by rw [hxl]; exact h2)]
     have hstk : keepT n E t ((nearL E t).take (j + 1)) = keepT n E t ((nearL E t).take j) ++ (if t < xl then [p] else []) := by
      rw [qTq hjl, hx0, keepT_snoc, <- hpp, hxl]
     have hkl2 := keepT_len n E t ((nearL E t).take j);have htk : ((nearL E t).take j).length <= 3 := by rw [List.length_take]; omega
     have hpl := pathsT_len (n := n) (T := Ts.take i) fun y hy => hTd y (List.mem_of_mem_take hy)
     have hti3 : (Ts.take i).length <= 4 := by rw [List.length_take]; omega
     have hall : ∀ r ∈ pathsT n E (Ts.take i) ++ keepT n E t ((nearL E t).take j), r.length <= n.toNat + 1 := fun r hr => by
      rcases List.mem_append.1 hr with hr | hr
      ·exact (pathsT_row h1 (fun y hy => hTd y (List.mem_of_mem_take hy)) hr).2
      ·exact (keepT_row h1 t2 (fun y hy => List.mem_of_mem_take hy) hr).2
     have hul := usedT_le hall;have hll : (pathsT n E (Ts.take i) ++ keepT n E t ((nearL E t).take j)).length <= 15 := by rw [List.length_append]; omega
     have hub : usedT (pathsT n E (Ts.take i) ++ keepT n E t ((nearL E t).take j)) <= 15000 := Nat.le_trans hul (Nat.le_trans (Nat.mul_le_mul hll (show n.toNat <= 1000 by omega)) (by decide));refine Pick.by (fun h3 => ?_) (fun h3 => ?_)
     ·have h3 : ¬ t < xl := by have := of_decide_eq_true h3; omega
      rw [if_neg h3, List.append_nil] at hstk;refine Pick.n ?_;refine Next.by (j + 1) (by omega) (by omega) (by refine Weak.bw (sg 0 [_,_,_,_,_,_,_]) (by ((repeat' first|exact rfl|exact trivial|apply And.intro) <;> (repeat' first|exact rfl|exact trivial|apply And.intro)); all_goals ((first|exact sc_eq (by rw [hstk]) | (rw [hstk]; done) | (rw [hstk]; rfl) | (simp; done)))))
     ·have h3 : t < xl := by have := of_decide_eq_false h3; omega
      rw [if_pos h3] at hstk;refine Pick.T (decide_eq_true (by rw [qrq]; simp only [List.length_cons, List.length_nil]; omega)) ?_;have hus : usedT (pathsT n E (Ts.take i) ++ (keepT n E t ((nearL E t).take j) ++ [p])) = usedT (pathsT n E (Ts.take i) ++ keepT n E t ((nearL E t).take j)) + (p.length - 1) := by rw [<- List.append_assoc, usedT_snoc]
      have hil : ((ints p).length : Int) = p.length := by rw [qiq]
      refine Pick.T (inI64_of (by rw [hil]; omega) (by rw [hil]; omega)) ?_;refine Pick.T (inI64_of (by rw [hil]; omega) (by rw [hil]; omega)) ?_;refine Pick.n ?_;refine Next.by (j + 1) (by omega) (by omega) (by refine Weak.bw (sg 0 [_,_,_,_,_,_,_]) (by ((repeat' first|exact rfl|exact trivial|apply And.intro) <;> (repeat' first|exact rfl|exact trivial|apply And.intro)); all_goals ((first|exact sc_eq (by rw [hstk, hus, hil]; omega) | (rw [hstk, <- List.append_assoc, rowsI_snoc]; done) | (rw [hstk, <- List.append_assoc, rowsI_snoc]; rfl) | (simp; done)))))
   ·have hjg : (nearL E t).length <= j := by have := of_decide_eq_false hc2; omega
    rw [List.take_of_length_le hjg];refine Pick.n ?_;have hstp : pathsT n E (Ts.take (i + 1)) = pathsT n E (Ts.take i) ++ keepT n E t (nearL E t) := by rw [qTq hlt, ht, pathsT_snoc]
    refine Next.by (i + 1) (by omega) (by omega) (by refine Weak.bw (sg 0 [_,_,_,_,_,_,_]) (by ((repeat' first|exact rfl|exact trivial|apply And.intro) <;> (repeat' first|exact rfl|exact trivial|apply And.intro)); all_goals ((first|exact sc_eq (by rw [hstp]) | (rw [hstp]; done) | (rw [hstp]; rfl)))))
  ·have hge : Ts.length <= i := by have := of_decide_eq_false hc; omega
   rw [List.take_of_length_le hge];have hpl := pathsT_len (n := n) hTd;have hsn : sortNP goodT cmpT (rowsI (pathsT n E Ts)) := ⟨_, rfl, fun r hr => by have := pathsT_row h1 hTd hr; exact ⟨this.1, by omega⟩, paths_keys h1 hTd hTsn, by omega⟩;have hsp := sortL_perm cmpT (pathsT n E Ts);have hfew : fewL (sortL cmpT (pathsT n E Ts)) := ⟨by rw [hsp.length_eq]; omega, fun r hr => by have := pathsT_row h1 hTd (hsp.mem_iff.1 hr); omega⟩;refine ⟨rfl, rfl, _, _, rfl, hsn, ?_⟩;rw [sortN_rows];refine Pick.by (fun h6 => ?_) (fun h6 => ?_)
   ·have h6 : usedT (pathsT n E Ts) ≠ E.length := by intro e; rw [qeq, e] at h6; simp at h6
    have hv := readF_no (n := n) (E := E) (fun h => h6 (by rw [<- hTs]; exact h.2.2.2.1));dsimp only;rw [hv];exact ⟨rfl, rfl, ⟨rfl, ⟨rfl, rfl⟩, ⟨rfl, rfl⟩, trivial⟩, rfl, trivial⟩
   have h6 : usedT (pathsT n E Ts) = E.length := by
    have h6 : (!((usedT (pathsT n E Ts) : Int) == ((edges E).length : Nat))) = false := h6;rw [qeq] at h6;have : (usedT (pathsT n E Ts) : Int) = (E.length : Nat) := by simpa only [Bool.not_eq_false', beq_iff_eq] using h6
    omega
   refine Call.by _ _ (SubC_at (n := n) (E := E) (k := 1) (Ts := Ts) hfew) ?_;refine Pick.by (fun h7 => ?_) (fun h7 => ?_)
   ·have h7 : ¬ SubP n E 1 Ts (sortL cmpT (pathsT n E Ts)) := by
     have h7 : (!subB n E 1 Ts (sortL cmpT (pathsT n E Ts))) = true := h7;intro h; rw [subB_iff.2 h] at h7; cases h7
    have hv := readF_no (n := n) (E := E) (fun h => h7 (by have := h.2.2.2.2; rw [hTs, hkd] at this; exact this));dsimp only;rw [hv];exact ⟨rfl, rfl, ⟨rfl, ⟨rfl, rfl⟩, ⟨rfl, rfl⟩, trivial⟩, rfl, trivial⟩
   ·have h7 : SubP n E 1 Ts (sortL cmpT (pathsT n E Ts)) := by
     have h7 : (!subB n E 1 Ts (sortL cmpT (pathsT n E Ts))) = false := h7;exact subB_iff.1 (by simpa using h7)
    have hv := readF_yes (n := n) (E := E) ⟨h1, hdegs, by rw [hTs, hkd]; decide, by rw [hTs]; exact h6, by rw [hTs, hkd]; exact h7⟩;rw [hTs, hkd] at hv;dsimp only;rw [hv];exact ⟨rfl, rfl, ⟨rfl, ⟨rfl, rfl⟩, ⟨rfl, rfl⟩, trivial⟩, rfl, trivial⟩
 have h4 : Ts.length ≠ 4 := by rw [qiq] at h4; have := beq_eq_false_iff_ne.1 h4; omega
 refine Pick.by (fun h5 => ?_) (fun h5 => ?_)
 ·have h5 : Ts.length = 2 := by rw [qiq] at h5; have := beq_iff_eq.1 h5; omega
  have hkd : kindT Ts = 2 := by unfold kindT; rw [if_neg h4, if_pos h5]
  refine LoopP.intro (α := Nat) (fun i => i <= Ts.length) (fun i => Ts.length - i) (fun i => [(1, .ptr 0 0), (2, .ptr 2 0), (4, .ptr 3 0), (5, .sl 4 none none), (9, .s (.i .i64 (usedT (pathsT n E (Ts.take i)) : Nat))), (68, .sl 5 none none), (69, .s (.i .i64 Ts.length)), (70, .s (.i .i64 i))])
   (fun i => [(0, some (.blk [.s (.i .i64 n), .sl 1 none none])), (1, some (.flat false 2 (edges E))), (2, some (.blk [.s (.i .i64 0), .nils, .nils])), (3, some (.blk [.s (.i .i64 2), .sl 5 none none, .sl 6 none none])), (4, some (.nest true 1 (rowsI (nbrs n.toNat E)) [] [])), (5, some (.flat true 1 (ints Ts))), (6, some (.nest true 1 (rowsI (pathsT n E (Ts.take i))) [] []))]) 7 0 (by omega) (by refine Weak.bw [(0, some _), (1, some _), (2, some _), (3, some _), (4, some _), (5, some _), (6, none)] (by ((repeat' first|exact rfl|exact trivial|apply And.intro) <;> (repeat' first|exact rfl|exact trivial|apply And.intro)); all_goals ((first|exact sc_eq (by rw [qiq]) | done)))) ?_
  rintro i hi;refine Pick.by (fun hc => ?_) (fun hc => ?_)
  ·have hlt : i < Ts.length := by have := of_decide_eq_true hc; omega
   obtain ⟨t, ht⟩ : ∃ t, Ts[i] = t := ⟨_, rfl⟩;have htm : t ∈ Ts := by rw [<- ht]; exact List.getElem_mem hlt
   have hti : Ts[i]? = some t := by rw [qEq hlt, ht]
   obtain ⟨t0, t1, t2⟩ := hTs3 t htm;have htn := nb_get (n := n.toNat) (E := E) (v := t.toNat) (by omega);rw [Int.toNat_of_nonneg t0] at htn;refine Idx.by i rfl (by rw [qiq]; exact hlt) ?_;refine Look.by _ (qhq hti) ?_;refine Idx.by t.toNat (by show t = _; omega) (by rw [hkl]; omega) ?_;refine Pick.T (by rw [hkl]; simp; omega) ?_;refine Look.by _ htn ?_;have hk0 : pathsT n E (Ts.take i) ++ keepT n E t ((nearL E t).take 0) = pathsT n E (Ts.take i) := by rw [List.take_zero]; simp [keepT]
   refine LoopP.intro (α := Nat) (fun j => j <= (nearL E t).length) (fun j => (nearL E t).length - j) (fun j => [(1, .ptr 0 0), (2, .ptr 2 0), (4, .ptr 3 0), (5, .sl 4 none none), (9, .s (.i .i64 (usedT (pathsT n E (Ts.take i) ++ keepT n E t ((nearL E t).take j)) : Nat))), (11, .s (.i .i64 t)), (68, .sl 5 none none), (69, .s (.i .i64 Ts.length)), (70, .s (.i .i64 i)), (77, .sl 4 (some (t.toNat, 0)) none), (78, .s (.i .i64 (nearL E t).length)), (79, .s (.i .i64 j))])
    (fun j => [(0, some (.blk [.s (.i .i64 n), .sl 1 none none])), (1, some (.flat false 2 (edges E))), (2, some (.blk [.s (.i .i64 0), .nils, .nils])), (3, some (.blk [.s (.i .i64 2), .sl 5 none none, .sl 6 none none])), (4, some (.nest true 1 (rowsI (nbrs n.toNat E)) [] [])), (5, some (.flat true 1 (ints Ts))), (6, some (.nest true 1 (rowsI (pathsT n E (Ts.take i) ++ keepT n E t ((nearL E t).take j))) [] []))]) 7 0 (by omega) (by refine Weak.bw (sg 0 [_,_,_,_,_,_,_]) (by ((repeat' first|exact rfl|exact trivial|apply And.intro) <;> (repeat' first|exact rfl|exact trivial|apply And.intro)); all_goals ((first|exact sc_eq (by rw [qiq]) | exact sc_eq (by rw [hk0]) | (rw [hk0]; done) | (simp; done))))) ?_
   rintro j hj;refine Pick.by (fun hc2 => ?_) (fun hc2 => ?_)
   ·have hjl : j < (nearL E t).length := by have := of_decide_eq_true hc2; omega
    obtain ⟨x0, hx0⟩ : ∃ x, (nearL E t)[j] = x := ⟨_, rfl⟩;have hxm : x0 ∈ nearL E t := by rw [<- hx0]; exact List.getElem_mem hjl
    have hxg : (nearL E t)[j]? = some x0 := by rw [qEq hjl, hx0]
    refine Look.by _ htn ?_;refine Idx.by j rfl (by rw [qiq]; exact hjl) ?_;refine Look.by _ htn ?_;refine Look.by _ (qhq hxg) ?_;refine LoopP.intro (α := List Int) (fun p => FolT n E t p /\ ∃ f, n.toNat + 2 <= f + p.length /\ goT E f p = pathT n E t x0) (fun p => n.toNat + 2 - p.length) (fun p => [(1, .ptr 0 0), (2, .ptr 2 0), (4, .ptr 3 0), (5, .sl 4 none none), (9, .s (.i .i64 (usedT (pathsT n E (Ts.take i) ++ keepT n E t ((nearL E t).take j)) : Nat))), (11, .s (.i .i64 t)), (13, .s (.i .i64 (p.getLastD 0))), (14, .sl 7 none none), (68, .sl 5 none none), (69, .s (.i .i64 Ts.length)), (70, .s (.i .i64 i)), (77, .sl 4 (some (t.toNat, 0)) none), (78, .s (.i .i64 (nearL E t).length)), (79, .s (.i .i64 j))])
     (fun p => [(0, some (.blk [.s (.i .i64 n), .sl 1 none none])), (1, some (.flat false 2 (edges E))), (2, some (.blk [.s (.i .i64 0), .nils, .nils])), (3, some (.blk [.s (.i .i64 2), .sl 5 none none, .sl 6 none none])), (4, some (.nest true 1 (rowsI (nbrs n.toNat E)) [] [])), (5, some (.flat true 1 (ints Ts))), (6, some (.nest true 1 (rowsI (pathsT n E (Ts.take i) ++ keepT n E t ((nearL E t).take j))) [] [])), (7, some (.flat true 1 (ints p)))]) 8 [t, x0] ⟨FolT.start hxm, n.toNat, by simp, rfl⟩ (by refine Weak.bw (sg 0 [_,_,_,_,_,_,_,_]) (by ((repeat' first|exact rfl|exact trivial|apply And.intro) <;> (repeat' first|exact rfl|exact trivial|apply And.intro)); all_goals ((first | (simp; done))))) ?_
    rintro p ⟨hF, f, hf, hg⟩;have hp2 := hF.two;have hpn := hF.len h1;obtain ⟨xl, hxl⟩ : ∃ x, p.getLastD 0 = x := ⟨_, rfl⟩;have hxr : 0 <= xl /\ xl < n := by rw [<- hxl, lastD_get (by omega)]; exact hF.inN h1 _ (by rw [getD_at (by omega)]; exact List.getElem_mem _)
    have hxt := nb_get (n := n.toNat) (E := E) (v := xl.toNat) (by omega);rw [Int.toNat_of_nonneg hxr.1] at hxt;rw [hxl];refine Idx.by xl.toNat (by show xl = _; omega) (by rw [hkl]; omega) ?_;refine Pick.T (by rw [hkl]; simp; omega) ?_;refine Look.by _ hxt ?_;refine Pick.by (fun h2 => ?_) (fun h2 => ?_)
    ·have h2 : (nearL E xl).length = 2 := by rw [qiq] at h2; have := beq_iff_eq.1 h2; omega
     obtain ⟨c, hcc⟩ : ∃ c, (nearL E xl).getD 0 0 = c := ⟨_, rfl⟩;obtain ⟨d, hdd⟩ : ∃ d, (nearL E xl).getD 1 0 = d := ⟨_, rfl⟩;obtain ⟨q, hqq⟩ : ∃ q, p.getD (p.length - 2) 0 = q := ⟨_, rfl⟩;have hcg : (nearL E xl)[0]? = some c := by rw [getD_get (by omega), hcc]
     have hdg2 : (nearL E xl)[1]? = some d := by rw [getD_get (by omega), hdd]
     have hqg : p[p.length - 2]? = some q := by rw [getD_get (by omega), hqq]
     have hcr := (adj_in h1 (mem_nearL.1 (qMq hcg))).2;have hdr := (adj_in h1 (mem_nearL.1 (qMq hdg2))).2;have hqr := hF.inN h1 q (qMq hqg);have hnx : nxtT E p = c + d - q := by unfold nxtT; rw [hxl, hcc, hdd, hqq]
     refine Idx.by xl.toNat (by show xl = _; omega) (by rw [hkl]; omega) ?_;refine Pick.T (by rw [hkl]; simp; omega) ?_;refine Look.by _ hxt ?_;refine Idx.by 0 rfl (by rw [qiq]; omega) ?_;refine Look.by _ hxt ?_;refine Look.by _ (qhq hcg) ?_;refine Idx.by xl.toNat (by show xl = _; omega) (by rw [hkl]; omega) ?_;refine Pick.T (by rw [hkl]; simp; omega) ?_;refine Look.by _ hxt ?_;refine Idx.by 1 rfl (by rw [qiq]; omega) ?_;refine Look.by _ hxt ?_;refine Look.by _ (qhq hdg2) ?_;refine Pick.n ?_;refine Pick.T (inI64_of (by rw [qiq]; omega) (by rw [qiq]; omega)) ?_;refine Idx.by (p.length - 2) (by rw [qiq]; omega) (by rw [qiq]; omega) ?_;refine Look.by _ (qhq hqg) ?_;refine Pick.n ?_;refine Seg.by (by kernel_rfl) ?_;refine Pick.T (by simp [cut, qiq]; omega) ?_;have h2' : (nearL E (p.getLastD 0)).length = 2 := by rw [hxl]; exact h2
     have hlen := hF.len2 h1 (by omega) h2';obtain ⟨f', rfl⟩ : ∃ f', f = f' + 1 := ⟨f - 1, by omega⟩;rw [goT_step h2'] at hg;have hla : (p ++ [nxtT E p]).getLastD 0 = c + d - q := by rw [List.getLastD_concat, hnx]
     refine Next.by (p ++ [nxtT E p]) ⟨hF.next h1 (by omega) h2', f', by simp; omega, hg⟩ (by simp; omega) (by refine Weak.bw (sg 0 [_,_,_,_,_,_,_,_]) (by ((repeat' first|exact rfl|exact trivial|apply And.intro) <;> (repeat' first|exact rfl|exact trivial|apply And.intro)); all_goals ((first|exact sc_eq hla | (rw [hnx, ints_snoc]; rfl) | (simp; done)))))
    ·have h2 : (nearL E xl).length ≠ 2 := by rw [qiq] at h2; have := beq_eq_false_iff_ne.1 h2; omega
     have hpp : p = pathT n E t x0 := by rw [<- hg, goT_stop (by rw [hxl]; exact h2)]
     have hstk : keepT n E t ((nearL E t).take (j + 1)) = keepT n E t ((nearL E t).take j) ++ (if t < xl then [p] else []) := by
      rw [qTq hjl, hx0, keepT_snoc, <- hpp, hxl]
     have hkl2 := keepT_len n E t ((nearL E t).take j);have htk : ((nearL E t).take j).length <= 3 := by rw [List.length_take]; omega
     have hpl := pathsT_len (n := n) (T := Ts.take i) fun y hy => hTd y (List.mem_of_mem_take hy)
     have hti3 : (Ts.take i).length <= 4 := by rw [List.length_take]; omega
     have hall : ∀ r ∈ pathsT n E (Ts.take i) ++ keepT n E t ((nearL E t).take j), r.length <= n.toNat + 1 := fun r hr => by
      rcases List.mem_append.1 hr with hr | hr
      ·exact (pathsT_row h1 (fun y hy => hTd y (List.mem_of_mem_take hy)) hr).2
      ·exact (keepT_row h1 t2 (fun y hy => List.mem_of_mem_take hy) hr).2
     have hul := usedT_le hall;have hll : (pathsT n E (Ts.take i) ++ keepT n E t ((nearL E t).take j)).length <= 15 := by rw [List.length_append]; omega
     have hub : usedT (pathsT n E (Ts.take i) ++ keepT n E t ((nearL E t).take j)) <= 15000 := Nat.le_trans hul (Nat.le_trans (Nat.mul_le_mul hll (show n.toNat <= 1000 by omega)) (by decide));refine Pick.by (fun h3 => ?_) (fun h3 => ?_)
     ·have h3 : ¬ t < xl := by have := of_decide_eq_true h3; omega
      rw [if_neg h3, List.append_nil] at hstk;refine Pick.n ?_;refine Next.by (j + 1) (by omega) (by omega) (by refine Weak.bw (sg 0 [_,_,_,_,_,_,_]) (by ((repeat' first|exact rfl|exact trivial|apply And.intro) <;> (repeat' first|exact rfl|exact trivial|apply And.intro)); all_goals ((first|exact sc_eq (by rw [hstk]) | (rw [hstk]; done) | (rw [hstk]; rfl) | (simp; done)))))
     ·have h3 : t < xl := by have := of_decide_eq_false h3; omega
      rw [if_pos h3] at hstk;refine Pick.T (decide_eq_true (by rw [qrq]; simp only [List.length_cons, List.length_nil]; omega)) ?_;have hus : usedT (pathsT n E (Ts.take i) ++ (keepT n E t ((nearL E t).take j) ++ [p])) = usedT (pathsT n E (Ts.take i) ++ keepT n E t ((nearL E t).take j)) + (p.length - 1) := by rw [<- List.append_assoc, usedT_snoc]
      have hil : ((ints p).length : Int) = p.length := by rw [qiq]
      refine Pick.T (inI64_of (by rw [hil]; omega) (by rw [hil]; omega)) ?_;refine Pick.T (inI64_of (by rw [hil]; omega) (by rw [hil]; omega)) ?_;refine Pick.n ?_;refine Next.by (j + 1) (by omega) (by omega) (by refine Weak.bw (sg 0 [_,_,_,_,_,_,_]) (by ((repeat' first|exact rfl|exact trivial|apply And.intro) <;> (repeat' first|exact rfl|exact trivial|apply And.intro)); all_goals ((first|exact sc_eq (by rw [hstk, hus, hil]; omega) | (rw [hstk, <- List.append_assoc, rowsI_snoc]; done) | (rw [hstk, <- List.append_assoc, rowsI_snoc]; rfl) | (simp; done)))))
   ·have hjg : (nearL E t).length <= j := by have := of_decide_eq_false hc2; omega
    rw [List.take_of_length_le hjg];refine Pick.n ?_;have hstp : pathsT n E (Ts.take (i + 1)) = pathsT n E (Ts.take i) ++ keepT n E t (nearL E t) := by rw [qTq hlt, ht, pathsT_snoc]
    refine Next.by (i + 1) (by omega) (by omega) (by refine Weak.bw (sg 0 [_,_,_,_,_,_,_]) (by ((repeat' first|exact rfl|exact trivial|apply And.intro) <;> (repeat' first|exact rfl|exact trivial|apply And.intro)); all_goals ((first|exact sc_eq (by rw [hstp]) | (rw [hstp]; done) | (rw [hstp]; rfl)))))
  ·have hge : Ts.length <= i := by have := of_decide_eq_false hc; omega
   rw [List.take_of_length_le hge];have hpl := pathsT_len (n := n) hTd;have hsn : sortNP goodT cmpT (rowsI (pathsT n E Ts)) := ⟨_, rfl, fun r hr => by have := pathsT_row h1 hTd hr; exact ⟨this.1, by omega⟩, paths_keys h1 hTd hTsn, by omega⟩;have hsp := sortL_perm cmpT (pathsT n E Ts);have hfew : fewL (sortL cmpT (pathsT n E Ts)) := ⟨by rw [hsp.length_eq]; omega, fun r hr => by have := pathsT_row h1 hTd (hsp.mem_iff.1 hr); omega⟩;refine ⟨rfl, rfl, _, _, rfl, hsn, ?_⟩;rw [sortN_rows];refine Pick.by (fun h6 => ?_) (fun h6 => ?_)
   ·have h6 : usedT (pathsT n E Ts) ≠ E.length := by intro e; rw [qeq, e] at h6; simp at h6
    have hv := readF_no (n := n) (E := E) (fun h => h6 (by rw [<- hTs]; exact h.2.2.2.1));dsimp only;rw [hv];exact ⟨rfl, rfl, ⟨rfl, ⟨rfl, rfl⟩, ⟨rfl, rfl⟩, trivial⟩, rfl, trivial⟩
   have h6 : usedT (pathsT n E Ts) = E.length := by
    have h6 : (!((usedT (pathsT n E Ts) : Int) == ((edges E).length : Nat))) = false := h6;rw [qeq] at h6;have : (usedT (pathsT n E Ts) : Int) = (E.length : Nat) := by simpa only [Bool.not_eq_false', beq_iff_eq] using h6
    omega
   refine Call.by _ _ (SubC_at (n := n) (E := E) (k := 2) (Ts := Ts) hfew) ?_;refine Pick.by (fun h7 => ?_) (fun h7 => ?_)
   ·have h7 : ¬ SubP n E 2 Ts (sortL cmpT (pathsT n E Ts)) := by
     have h7 : (!subB n E 2 Ts (sortL cmpT (pathsT n E Ts))) = true := h7;intro h; rw [subB_iff.2 h] at h7; cases h7
    have hv := readF_no (n := n) (E := E) (fun h => h7 (by have := h.2.2.2.2; rw [hTs, hkd] at this; exact this));dsimp only;rw [hv];exact ⟨rfl, rfl, ⟨rfl, ⟨rfl, rfl⟩, ⟨rfl, rfl⟩, trivial⟩, rfl, trivial⟩
   ·have h7 : SubP n E 2 Ts (sortL cmpT (pathsT n E Ts)) := by
     have h7 : (!subB n E 2 Ts (sortL cmpT (pathsT n E Ts))) = false := h7;exact subB_iff.1 (by simpa using h7)
    have hv := readF_yes (n := n) (E := E) ⟨h1, hdegs, by rw [hTs, hkd]; decide, by rw [hTs]; exact h6, by rw [hTs, hkd]; exact h7⟩;rw [hTs, hkd] at hv;dsimp only;rw [hv];exact ⟨rfl, rfl, ⟨rfl, ⟨rfl, rfl⟩, ⟨rfl, rfl⟩, trivial⟩, rfl, trivial⟩
 ·have h5 : Ts.length ≠ 2 := by rw [qiq] at h5; have := beq_eq_false_iff_ne.1 h5; omega
  have hv := readF_no (n := n) (E := E) (fun h => h.2.2.1 (by rw [hTs]; unfold kindT; rw [if_neg h4, if_neg h5]));dsimp only;rw [hv];exact ⟨rfl, rfl, ⟨rfl, ⟨rfl, rfl⟩, ⟨rfl, rfl⟩, trivial⟩, rfl, trivial⟩
abbrev Sb := Int × List Int × List (List Int)
def L9 : List (List Int) := [[0, 1], [0, 2], [0, 3], [1, 2], [1, 4, 3], [2, 3]]
instance (E : List Ed) (a b : Int) : Decidable (adjE E a b) := by unfold adjE; exact inferInstance
theorem edN_eq {a b c d : Int} (h : edN (a, b) = edN (c, d)) : (a = c /\ b = d) \/ (a = d /\ b = c) := by
 unfold edN mnI mxI at h
 dsimp only at h
 injection h with h1 h2
 split at h1 <;> split at h1 <;> split at h2 <;> split at h2 <;> omega
theorem mem_segsR {p : List Int} {x : Ed} : x ∈ segsR p ↔ ∃ i, i + 1 < p.length /\ x = edN (p.getD i 0, p.getD (i + 1) 0) := by
 unfold segsR
 rw [List.mem_map]
 constructor
 ·rintro ⟨i, hi, rfl⟩;rw [List.mem_range] at hi;exact ⟨i, by omega, rfl⟩
 ·rintro ⟨i, hi, rfl⟩;exact ⟨i, by rw [List.mem_range]; omega, rfl⟩
theorem getD_inj {p : List Int} (hn : p.Nodup) {i j : Nat} (hi : i < p.length) (hj : j < p.length) (h : p.getD i 0 = p.getD j 0) : i = j := by
 rw [getD_at hi, getD_at hj] at h
 exact (List.getElem_inj hn).1 h
theorem segsR_nodup {p : List Int} (hn : p.Nodup) : (segsR p).Nodup := by
 unfold segsR
 rw [List.nodup_iff_pairwise_ne, List.pairwise_map]
 refine List.Pairwise.imp_of_mem ?_ (List.nodup_iff_pairwise_ne.1 List.nodup_range)
 intro i j hi hj hne e
 rw [List.mem_range] at hi hj
 rcases edN_eq e with ⟨h, _⟩ | ⟨h1, h2⟩
 ·exact hne (getD_inj hn (by omega) (by omega) h)
 ·have := getD_inj hn (by omega) (by omega) h1;have := getD_inj hn (by omega) (by omega) h2;omega
theorem seg_two {n : Int} {E : List Ed} {k : Int} {Ts : List Int} {L : List (List Int)} (h : SubP n E k Ts L) {i j : Nat} {p q : List Int} (hp : L[i]? = some p) (hq : L[j]? = some q) (hij : i ≠ j) {x : Ed} (hx : x ∈ segsR p) (hy : x ∈ segsR q) : p.length = 2 := by
 obtain ⟨a, ha, rfl⟩ := mem_segsR.1 hx
 obtain ⟨b, hb, e⟩ := mem_segsR.1 hy
 have hu : p.getD a 0 ∈ q /\ p.getD (a + 1) 0 ∈ q := by
  rcases edN_eq e with ⟨h1, h2⟩ | ⟨h1, h2⟩
  ·rw [h1, h2]; exact ⟨getD_mem (by omega), getD_mem hb⟩
  ·rw [h1, h2]; exact ⟨getD_mem hb, getD_mem (by omega)⟩
 refine Decidable.byContradiction fun hne => ?_
 have hno : ∀ v, v ∈ innerL p -> v ∈ q -> False := fun v hv hvq => by
  have hvp : v ∈ p := by obtain ⟨z, hz, rfl⟩ := mem_inner.1 hv; exact List.getElem_mem _
  have := cnt_at hp hq hij hvp hvq;have := h.2.2 p (qMq hp) v hv;omega
 cases a with
 | zero =>
  refine hno _ (mem_inner.2 ⟨0, by omega, ?_⟩) hu.2;rw [getD_at (by omega)]
 | succ a =>
  refine hno _ (mem_inner.2 ⟨a, by omega, ?_⟩) hu.1;rw [getD_at (by omega)]
theorem prs_inj : ∀ i, i < 6 -> ∀ j, j < 6 -> (((prsT 1).getD i (0, 0)).1 = ((prsT 1).getD j (0, 0)).1 /\ ((prsT 1).getD i (0, 0)).2 = ((prsT 1).getD j (0, 0)).2 -> i = j) /\ ¬ (((prsT 1).getD i (0, 0)).1 = ((prsT 1).getD j (0, 0)).2 /\ ((prsT 1).getD i (0, 0)).2 = ((prsT 1).getD j (0, 0)).1) := by decide
theorem prs_lt : ∀ i, i < 6 -> (0 <= ((prsT 1).getD i (0, 0)).1 /\ ((prsT 1).getD i (0, 0)).1 < 4) /\ 0 <= ((prsT 1).getD i (0, 0)).2 /\ ((prsT 1).getD i (0, 0)).2 < 4 := by decide
theorem segs_apart {n : Int} {E : List Ed} {k : Int} {Ts : List Int} {L : List (List Int)} (h : SubP n E k Ts L) {i j : Nat} {p q : List Int} (hp : L[i]? = some p) (hq : L[j]? = some q) (hij : i ≠ j) {x : Ed} (hx : x ∈ segsR p) (hy : x ∈ segsR q) : False := by
 have hp2 := seg_two h hp hq hij hx hy
 have hq2 := seg_two h hq hp (Ne.symm hij) hy hx
 obtain ⟨P1, hd1, ls1, z1⟩ := h.2.1 i p hp
 obtain ⟨P2, hd2, ls2, z2⟩ := h.2.1 j q hq
 have hnd := sub_tops h
 rcases h.1 with ⟨rfl, hT, hL⟩ | ⟨rfl, hT, hL⟩
 ·have hi : i < 6 := by rw [<- hL]; exact (qSq.1 hp).1
  have hj : j < 6 := by rw [<- hL]; exact (qSq.1 hq).1
  obtain ⟨a, ha, rfl⟩ := mem_segsR.1 hx;obtain ⟨b, hb, e⟩ := mem_segsR.1 hy;obtain rfl : a = 0 := by omega
  obtain rfl : b = 0 := by omega
  rw [headD_at (by omega)] at hd1 hd2;rw [lastD_at, hp2] at ls1;rw [lastD_at, hq2] at ls2;have hd1' := hd1; have ls1' := ls1
  rw [hd1, ls1, hd2, ls2] at e;have l1 := prs_lt i hi;have l2 := prs_lt j hj;obtain ⟨q1, q2⟩ := prs_inj i hi j hj;rcases edN_eq e with ⟨e1, e2⟩ | ⟨e1, e2⟩
  ·have := getD_inj hnd (by omega) (by omega) e1;have := getD_inj hnd (by omega) (by omega) e2;exact hij (q1 ⟨by omega, by omega⟩)
  ·have := getD_inj hnd (by omega) (by omega) e1;have := getD_inj hnd (by omega) (by omega) e2;exact q2 ⟨by omega, by omega⟩
 ·omega
theorem segs_nodup {n : Int} {E : List Ed} {k : Int} {Ts : List Int} {L : List (List Int)} (h : SubP n E k Ts L) : (segs L).Nodup := by
 unfold segs
 rw [List.nodup_iff_pairwise_ne, List.pairwise_flatMap]
 refine ⟨fun p hp => ?_, ?_⟩
 ·obtain ⟨i, hi, rfl⟩ := List.mem_iff_getElem.1 hp;exact List.nodup_iff_pairwise_ne.1 (segsR_nodup (h.2.1 i _ (qEq hi)).1.2.2.2.1)
 ·rw [List.pairwise_iff_getElem];intro i j hi hj hij x hx y hy e;subst e;exact segs_apart h (qEq hi) (qEq hj) (by omega) hx hy
theorem adj_edN {n : Int} {E : List Ed} (hR : RightP n E) {a b : Int} (h : adjE E a b) : edN (a, b) ∈ E := by
 have hok : ∀ p ∈ E, p.1 < p.2 := fun p hp => (hR.2.2.2.1 p hp).2.1
 unfold edN mnI mxI
 dsimp only
 rcases h with h | h
 ·have := hok _ h;dsimp only at this;rw [if_neg (by omega), if_pos (by omega)];exact h
 ·have := hok _ h;dsimp only at this;rw [if_pos (by omega), if_neg (by omega)];exact h
theorem segs_sub {n : Int} {E : List Ed} {k : Int} {Ts : List Int} {L : List (List Int)} (h : SubP n E k Ts L) : ∀ x ∈ segs L, x ∈ E := fun x hx => by
 obtain ⟨p, hp, hxp⟩ := List.mem_flatMap.1 hx
 obtain ⟨i, hi, rfl⟩ := List.mem_iff_getElem.1 hp
 obtain ⟨hP, _⟩ := h.2.1 i _ (qEq hi)
 obtain ⟨a, ha, rfl⟩ := mem_segsR.1 hxp
 exact adj_edN hP.1 (hP.2.2.2.2 a ha)
theorem nodup_same {α : Type} [DecidableEq α] {l m : List α} (hl : l.Nodup) (hm : m.Nodup) (hs : ∀ x ∈ l, x ∈ m) (he : l.length = m.length) : ∀ x ∈ m, x ∈ l := fun x hx => by
 refine Decidable.byContradiction fun hno => ?_
 have h1 : (x :: l).Nodup := List.nodup_cons.2 ⟨hno, hl⟩
 have := nodup_lenG h1 (m := m) (fun y hy => by rcases List.mem_cons.1 hy with rfl | hy; exact hx; exact hs y hy)
 simp at this
 omega
theorem segs_len (L : List (List Int)) : (segs L).length = usedT L := by
 unfold segs usedT
 rw [List.length_flatMap]
 congr 1
 exact List.map_congr_left fun p _ => segsR_length p
theorem used_perm {L M : List (List Int)} (h : L.Perm M) : usedT L = usedT M := by
 unfold usedT
 induction h with
 | nil => rfl
 | cons x _ ih => simp only [List.map_cons, List.sum_cons, ih]
 | swap x y l => simp only [List.map_cons, List.sum_cons]; omega
 | trans _ _ h1 h2 => exact h1.trans h2
theorem ltE_nodup {E : List Ed} (h : E.Pairwise ltE) : E.Nodup := List.nodup_iff_pairwise_ne.2 (h.imp fun h => ltE_ne h)
theorem read_edges {n : Int} {E : List Ed} (h : ReadP n E) : insAll (segs (sortL cmpT (pathsT n E (topsK E n.toNat)))) = E := by
 obtain ⟨hR, _, _, hu, hs⟩ := h
 have hlen : (segs (sortL cmpT (pathsT n E (topsK E n.toNat)))).length = E.length := by rw [segs_len, used_perm (sortL_perm _ _), hu]
 have hE := ltE_nodup hR.2.2.2.2
 have hsub := segs_sub hs
 refine (insAll_of hR.2.2.2.2 fun x => ⟨fun hx => ?_, fun hx => hsub x hx⟩).symm
 exact nodup_same (segs_nodup hs) hE hsub hlen x hx
def i64 (x : Int) : Prop := -9223372036854775808 <= x /\ x <= 9223372036854775807
end Go.Sh
namespace Go.Sh
abbrev Add := Int × Int × Int
def keyP (a b : Int) (e : Add) : Prop := (a = e.1 /\ b = e.2.1) \/ (a = e.2.1 /\ b = e.1)
instance (a b : Int) (e : Add) : Decidable (keyP a b e) := by unfold keyP; infer_instance
def inKeys (r : List Add) (a b : Int) : Prop := ∃ e ∈ r, keyP a b e
instance (r : List Add) (a b : Int) : Decidable (inKeys r a b) := by unfold inKeys; infer_instance
def sameP (a b c d : Int) : Prop := (a = c /\ b = d) \/ (a = d /\ b = c)
end Go.Sh
namespace Go.Sh
open Go.Proofs
noncomputable def MayC : Con := conP 3 (fun a : (List (List Int) × List Bool) × Int => a.1.2.length = a.1.1.length) (fun a => [restV false a.1.1 a.1.2, .one (.s (.i .i64 a.2))]) (fun a => .one (.s (.b (mayB a.1.1 a.1.2 a.2))))
theorem MayC_at {N : List (List Int)} {G : List Bool} (v : Int) (h : G.length = N.length) : MayC.F [restV false N G, .one (.s (.i .i64 v))] = some (.one (.s (.b (mayB N G v))), []) :=
 conP_at (a := ((N, G), v)) (fun x y _ _ h => by
  obtain ⟨⟨N, G⟩, v⟩ := x;obtain ⟨⟨N', G'⟩, v'⟩ := y;simp at h;obtain ⟨h1, h2⟩ := h;obtain ⟨rfl, rfl⟩ := restV_inj h1;subst h2
  rfl) h
theorem May_ok : SoundC Tryz.prog T 96 MayC := by
 refine sound_con (X := { Γ := [], T := T, nt := 31 }) cr_none hmix hT sound_nil Tryz.func96 (by rfl) (by rfl) (by rfl) (by rfl) 3 ?_
 rintro ⟨⟨N, G⟩, v⟩ hl
 dsimp only at hl ⊢
 refine two_le ?_
 have val : ∀ c : Bool, c = mayB N G v -> Sc.b c = Sc.b (mayB N G v) := fun c h => by rw [h]
 refine Pick.by (fun h1 => ?_) (fun h1 => ?_)
 ·have h1 : 0 <= v := by simpa using h1
  refine Pick.by (fun h2 => ?_) (fun h2 => ?_)
  ·have h2 : v < N.length := by rw [qrq] at h2; simpa using h2
   obtain ⟨hm, hg⟩ := rowAt_mem h1 h2;refine Idx.by v.toNat (by omega) (by rw [bools_length]; omega) ?_;refine Look.by _ (bools_get (goneAt_get hl h1 h2)) ?_;refine Pick.by (fun h3 => ?_) (fun h3 => ?_)
   ·have h3 : goneAt G v = false := by have h3 : (!goneAt G v) = true := h3; simpa using h3
    refine Idx.by v.toNat (by omega) (by rw [qrq]; omega) ?_;refine Pick.T (by rw [qrq]; simp; omega) ?_;refine Look.by _ (qgq hg) ?_;refine ⟨rfl, val _ ?_⟩;show decide (((ints (rowAt N v)).length : Int) <= 2) = _
    unfold mayB;rw [decide_eq_true h1, decide_eq_true h2, h3, qiq];simp only [Bool.not_false, Bool.true_and];exact decide_eq_decide.2 (by omega)
   ·have h3 : goneAt G v = true := by have h3 : (!goneAt G v) = false := h3; simpa using h3
    refine ⟨rfl, val _ ?_⟩;unfold mayB;rw [h3]; simp
  ·have h2 : ¬ v < N.length := by rw [qrq] at h2; simpa using h2
   refine ⟨rfl, val _ ?_⟩;unfold mayB;rw [decide_eq_false h2]; simp
 ·have h1 : ¬ 0 <= v := by simpa using h1
  refine ⟨rfl, val _ ?_⟩;unfold mayB;rw [decide_eq_false h1]; simp
def stpV (s : Stp) : V := .agg [.s (.i .i64 s.1), .s (.i .i64 s.2.1), .s (.i .i64 s.2.2.1), .s (.b s.2.2.2)]
noncomputable def StepC : Con := conP 3 (fun a : (List (List Int) × List Bool) × Int => Wf a.1.1 a.1.2 /\ 0 <= a.2 /\ a.2 < a.1.1.length) (fun a => [restV false a.1.1 a.1.2, .one (.s (.i .i64 a.2))]) (fun a => stpV (stepF a.1.1 a.2))
theorem StepC_at {N : List (List Int)} {G : List Bool} {v : Int} (h : Wf N G /\ 0 <= v /\ v < N.length) : StepC.F [restV false N G, .one (.s (.i .i64 v))] = some (stpV (stepF N v), []) :=
 conP_at (a := ((N, G), v)) (fun x y _ _ h => by
  obtain ⟨⟨N, G⟩, v⟩ := x;obtain ⟨⟨N', G'⟩, v'⟩ := y;simp at h;obtain ⟨h1, h2⟩ := h;obtain ⟨rfl, rfl⟩ := restV_inj h1;subst h2
  rfl) h
theorem Step_ok : SoundC Tryz.prog T 99 StepC := by
 refine sound_con (X := { Γ := [(82, SearchC)], T := T, nt := 46 }) cr_none hmix hT (sound_cons Search_ok sound_nil) Tryz.func99 (by rfl) (by rfl) (by rfl) (by rfl) 3 ?_
 rintro ⟨⟨N, G⟩, v⟩ ⟨hW, h0, h1⟩
 dsimp only at hW h0 h1 ⊢
 refine two_le ?_
 obtain ⟨hm, hg⟩ := rowAt_mem h0 h1
 have hrv := hW.rows v
 have hst : stepF N v = (v, (rowAt N v).getD 0 (-1), (rowAt N v).getD 1 (-1), decide (1 < (rowAt N v).length) && !(rowAt N ((rowAt N v).getD 0 (-1))).elem ((rowAt N v).getD 1 (-1))) := rfl
 refine Idx.by v.toNat (by omega) (by rw [qrq]; omega) ?_
 refine Pick.T (by rw [qrq]; simp; omega) ?_
 refine Look.by _ (qgq hg) ?_
 generalize hl : rowAt N v = l at *
 refine Pick.by (fun h2 => ?_) (fun h2 => ?_)
 ·have h2 : 0 < l.length := by rw [qiq] at h2; simpa using h2
  obtain ⟨a, ha⟩ : ∃ a, l[0]? = some a := ⟨_, qEq h2⟩;have ha' : l.getD 0 (-1) = a := by rw [qDq, ha]; rfl
  have har := hrv.2 a (qMq ha);refine Look.by _ (qgq hg) ?_;refine Idx.by 0 rfl (by rw [qiq]; exact h2) ?_;refine Look.by _ (qgq hg) ?_;refine Look.by _ (qhq ha) ?_;refine Look.by _ (qgq hg) ?_;refine Pick.by (fun h3 => ?_) (fun h3 => ?_)
  ·have h3 : 1 < l.length := by rw [qiq] at h3; have h3 : decide ((l.length : Int) > 1) = true := h3; have := of_decide_eq_true h3; omega
   obtain ⟨b, hb⟩ : ∃ b, l[1]? = some b := ⟨_, qEq h3⟩;have hb' : l.getD 1 (-1) = b := by rw [qDq, hb]; rfl
   obtain ⟨_, hga⟩ := rowAt_mem har.1 har.2;have hra := hW.rows a;have hla := hW.row_len a;have hmo := hW.most;refine Look.by _ (qgq hg) ?_;refine Idx.by 1 rfl (by rw [qiq]; exact h3) ?_;refine Look.by _ (qgq hg) ?_;refine Look.by _ (qhq hb) ?_;refine Idx.by a.toNat (by omega) (by rw [qrq]; omega) ?_;refine Pick.T (by rw [qrq]; simp; omega) ?_;refine Look.by _ (qgq hga) ?_;refine Call.by _ _ (SearchC_at (l := rowAt N a) (x := b) ⟨hra.1.imp fun h => by omega, by omega⟩) ?_;refine Seg.by (by kernel_rfl) ?_;rw [hst, ha', hb', decide_eq_true h3, Bool.true_and];refine ⟨rfl, ?_⟩
   (repeat' first|exact rfl|exact trivial|apply And.intro)
  ·have h3 : ¬ 1 < l.length := by rw [qiq] at h3; have h3 : decide ((l.length : Int) > 1) = false := h3; have := of_decide_eq_false h3; omega
   have hb' : l.getD 1 (-1) = -1 := by rw [qDq, List.getElem?_eq_none (by omega)]; rfl
   rw [hst, ha', hb', decide_eq_false h3, Bool.false_and];refine ⟨rfl, ?_⟩
   (repeat' first|exact rfl|exact trivial|apply And.intro)
 ·have h2 : l.length = 0 := by rw [qiq] at h2; have h2 : decide ((l.length : Int) > 0) = false := h2; have := of_decide_eq_false h2; omega
  have hnil := List.eq_nil_of_length_eq_zero h2;rw [hst, hnil];refine Look.by _ (qgq hg) ?_;refine Pick.F (by rw [hnil]; simp [ints]) ?_;refine ⟨rfl, ?_⟩
  (repeat' first|exact rfl|exact trivial|apply And.intro)
def Heap (l : List Int) : Prop := ∀ i x y, 0 < i -> l[(i - 1) / 2]? = some x -> l[i]? = some y -> x <= y
structure HUp (l : List Int) (i : Nat) : Prop where
 ok : ∀ j x y, 0 < j -> j ≠ i -> l[(j - 1) / 2]? = some x -> l[j]? = some y -> x <= y
 by_ : ∀ j x y, 0 < j -> 0 < i -> (j - 1) / 2 = i -> l[(i - 1) / 2]? = some x -> l[j]? = some y -> x <= y
structure HDn (l : List Int) (i : Nat) : Prop where
 ok : ∀ j x y, 0 < j -> (j - 1) / 2 ≠ i -> l[(j - 1) / 2]? = some x -> l[j]? = some y -> x <= y
 by_ : ∀ j x y, 0 < j -> 0 < i -> (j - 1) / 2 = i -> l[(i - 1) / 2]? = some x -> l[j]? = some y -> x <= y
theorem heap_head {l : List Int} (h : Heap l) {a : Int} (ha : l[0]? = some a) : ∀ (i : Nat) (y : Int), l[i]? = some y -> a <= y := by
 intro i
 induction i using Nat.strongRecOn with
 | ind i ih =>
  intro y hy;by_cases hi : i = 0
  ·subst hi; rw [ha] at hy; injection hy with hy; omega
  ·have hlt := (qSq.1 hy).1;have hp : (i - 1) / 2 < l.length := by omega
   have := ih ((i - 1) / 2) (by omega) _ (qEq hp);have := h i _ _ (by omega) (qEq hp) hy;omega
theorem swap_get {l : List Int} {i j : Nat} {x y : Int} (hi : l[i]? = some x) (hj : l[j]? = some y) (hne : i ≠ j) (k : Nat) : ((l.set i y).set j x)[k]? = if k = j then some x else if k = i then some y else l[k]? := by
 have h1 := (qSq.1 hi).1
 have h2 := (qSq.1 hj).1
 rw [List.getElem?_set]
 by_cases e : j = k
 ·subst e;rw [if_pos rfl, if_pos (by rw [List.length_set]; exact h2), if_pos rfl]
 ·rw [if_neg e, if_neg (fun h => e h.symm), List.getElem?_set];by_cases e2 : i = k
  ·subst e2;rw [if_pos rfl, if_pos h1, if_pos rfl]
  ·rw [if_neg e2, if_neg (fun h => e2 h.symm)]
theorem set_perm {l : List Int} {i : Nat} {x y : Int} (hi : l[i]? = some x) : (y :: l).Perm (x :: l.set i y) := by
 induction l generalizing i with
 | nil => simp at hi
 | cons a l ih =>
  cases i with
  | zero => simp at hi; subst hi; simp only [List.set_cons_zero]; exact List.Perm.swap _ _ _
  | succ i =>
   rw [List.set_cons_succ];exact (List.Perm.swap a y l).trans (((ih (by simpa using hi)).cons a).trans (List.Perm.swap x a _))
theorem swap_perm {l : List Int} {i j : Nat} {x y : Int} (hi : l[i]? = some x) (hj : l[j]? = some y) (hne : i ≠ j) : ((l.set i y).set j x).Perm l := by
 have h1 := set_perm (y := y) hi
 have h2 : (l.set i y)[j]? = some y := by rw [qNq hne]; exact hj
 have h3 := set_perm (y := x) h2
 exact ((h1.trans h3).cons_inv).symm
theorem up_start {l : List Int} (h : Heap l) (x : Int) : HUp (l ++ [x]) l.length := by
 refine ⟨fun j u v hj hne hu hv => ?_, fun j u v hj hi hp hu hv => ?_⟩
 ·have hlt := (qSq.1 hv).1;simp at hlt;rw [qLq (by omega)] at hu hv;exact h j u v hj hu hv
 ·have hlt := (qSq.1 hv).1;simp at hlt;omega
theorem up_done {l : List Int} {i : Nat} (h : HUp l i) (hs : i = 0 \/ ∀ x y, l[(i - 1) / 2]? = some x -> l[i]? = some y -> x <= y) : Heap l := by
 intro j x y hj hx hy
 by_cases e : j = i
 ·subst e;rcases hs with hs | hs
  ·omega
  ·exact hs x y hx hy
 ·exact h.ok j x y hj e hx hy
theorem up_step {l : List Int} {i : Nat} {x y : Int} (h : HUp l i) (hi : 0 < i) (hx : l[(i - 1) / 2]? = some x) (hy : l[i]? = some y) (hlt : y < x) : HUp ((l.set i x).set ((i - 1) / 2) y) ((i - 1) / 2) := by
 have hne : i ≠ (i - 1) / 2 := by omega
 have get := swap_get hy hx hne
 refine ⟨fun j u v hj hjp hu hv => ?_, fun j u v hj hip hp hu hv => ?_⟩
 ·rw [get] at hu hv;rw [if_neg hjp] at hv;by_cases e : j = i
  ·subst e;rw [if_pos rfl] at hu hv;injection hu with hu; injection hv with hv; omega
  ·rw [if_neg e] at hv;by_cases e2 : (j - 1) / 2 = (i - 1) / 2
   ·rw [if_pos e2] at hu;injection hu with hu
    have := h.ok j x v hj e (by rw [e2]; exact hx) hv;omega
   ·rw [if_neg e2] at hu;by_cases e3 : (j - 1) / 2 = i
    ·rw [if_pos e3] at hu;injection hu with hu
     have := h.by_ j x v hj hi e3 hx hv;omega
    ·rw [if_neg e3] at hu;exact h.ok j u v hj e hu hv
 ·rw [get] at hu hv;rw [if_neg (by omega), if_neg (by omega)] at hu;rw [if_neg (show ¬ j = (i - 1) / 2 by omega)] at hv;have hpp := h.ok ((i - 1) / 2) u x hip (by omega) hu hx;by_cases e : j = i
  ·rw [if_pos e] at hv;injection hv with hv; omega
  ·rw [if_neg e] at hv;have := h.ok j x v hj e (by rw [hp]; exact hx) hv;omega
theorem dn_done {l : List Int} {i : Nat} (h : HDn l i) (hs : ∀ j x y, 0 < j -> (j - 1) / 2 = i -> l[i]? = some x -> l[j]? = some y -> x <= y) : Heap l := by
 intro j x y hj hx hy
 by_cases e : (j - 1) / 2 = i
 ·exact hs j x y hj e (e ▸ hx) hy
 ·exact h.ok j x y hj e hx hy
theorem dn_step {l : List Int} {i k : Nat} {x y : Int} (h : HDn l i) (hk : 0 < k) (hp : (k - 1) / 2 = i) (hx : l[i]? = some x) (hy : l[k]? = some y) (hlt : y < x) (hmin : ∀ j z, 0 < j -> (j - 1) / 2 = i -> l[j]? = some z -> y <= z) : HDn ((l.set i y).set k x) k := by
 have hne : i ≠ k := by omega
 have get := swap_get hx hy hne
 refine ⟨fun j u v hj hjp hu hv => ?_, fun j u v hj hip hjk hu hv => ?_⟩
 ·rw [get] at hu hv;rw [if_neg hjp] at hu;by_cases e : j = k
  ·subst e;rw [if_pos rfl] at hv;rw [if_pos hp] at hu;injection hu with hu; injection hv with hv; omega
  ·rw [if_neg e] at hv;by_cases e2 : (j - 1) / 2 = i
   ·rw [if_pos e2] at hu;injection hu with hu
    by_cases e3 : j = i
    ·omega
    ·rw [if_neg e3] at hv;have := hmin j v hj e2 hv;omega
   ·rw [if_neg e2] at hu;by_cases e3 : j = i
    ·rw [if_pos e3] at hv;injection hv with hv
     subst e3;have := h.by_ k u y hk hj hp hu hy;omega
    ·rw [if_neg e3] at hv;exact h.ok j u v hj e2 hu hv
 ·rw [get] at hu hv;rw [hp, if_neg hne, if_pos rfl] at hu;injection hu with hu
  rw [if_neg (show ¬ j = k by omega), if_neg (show ¬ j = i by omega)] at hv;have := h.ok j y v hj (by omega) (by rw [hjk]; exact hy) hv;omega
theorem dn_start {l : List Int} {x : Int} (h : Heap l) (m : Nat) : HDn ((l.set 0 x).take m) 0 := by
 refine ⟨fun j u v hj hjp hu hv => ?_, fun j u v _ hi => by omega⟩
 rw [List.getElem?_take] at hu hv
 by_cases h1 : (j - 1) / 2 < m
 case neg => rw [if_neg h1] at hu; simp at hu
 by_cases h2 : j < m
 case neg => rw [if_neg h2] at hv; simp at hv
 rw [if_pos h1] at hu
 rw [if_pos h2] at hv
 rw [qNq (by omega)] at hu hv
 exact h j u v hj hu hv
theorem take_perm {l : List Int} {a x : Int} {k : Nat} (h0 : l[0]? = some a) (hx : l[k]? = some x) (hk : l.length = k + 1) : (a :: (l.set 0 x).take k).Perm l := by
 have h1 := set_perm (y := x) h0
 have h2 : l.set 0 x = (l.set 0 x).take k ++ [x] := by
  have hk2 : k < (l.set 0 x).length := by rw [List.length_set]; omega
  have h3 := List.take_append_drop k (l.set 0 x);rw [List.drop_eq_getElem_cons hk2, List.drop_eq_nil_of_le (by rw [List.length_set]; omega)] at h3;have h4 : (l.set 0 x)[k] = x := by
   have : (l.set 0 x)[k]? = some x := by
    rw [List.getElem?_set];split
    ·rename_i e; subst e; rw [if_pos (by omega)]
    ·exact hx
   rw [qEq hk2] at this;injection this
  rw [h4] at h3;exact h3.symm
 rw [h2] at h1
 have h3 : (x :: l).Perm (x :: (a :: (l.set 0 x).take k)) := by
  refine h1.trans ?_;rw [<- List.cons_append];exact List.perm_append_comm
 exact h3.cons_inv.symm
structure Sift (l : List Int) (a : Int) (k : Nat) (c : List Int) (i : Nat) : Prop where
 len : k <= c.length
 perm : (a :: c.take k).Perm l
 down : HDn (c.take k) i
theorem sift_done {l c : List Int} {a : Int} {k i : Nat} (h : Sift l a k c i) (hs : ∀ j x y, 0 < j -> (j - 1) / 2 = i -> (c.take k)[i]? = some x -> (c.take k)[j]? = some y -> x <= y) : Heap (c.take k) := dn_done h.down hs
theorem tk_get {c : List Int} {k j : Nat} (h : j < k) : (c.take k)[j]? = c[j]? := by rw [List.getElem?_take, if_pos h]
theorem sift_step {l c : List Int} {a : Int} {k i j : Nat} {x y : Int} (h : Sift l a k c i) (hj : 0 < j) (hp : (j - 1) / 2 = i) (hjk : j < k) (hx : c[i]? = some x) (hy : c[j]? = some y) (hlt : y < x) (hmin : ∀ t z, 0 < t -> (t - 1) / 2 = i -> t < k -> c[t]? = some z -> y <= z) : Sift l a k ((c.set i y).set j x) j := by
 have hik : i < k := by omega
 have e : ((c.set i y).set j x).take k = ((c.take k).set i y).set j x := by rw [List.take_set, List.take_set]
 refine ⟨by rw [List.length_set, List.length_set]; exact h.len, ?_, ?_⟩
 ·rw [e];exact ((swap_perm (by rw [tk_get hik]; exact hx) (by rw [tk_get hjk]; exact hy) (by omega)).cons a).trans h.perm
 ·rw [e];refine dn_step h.down hj hp (by rw [tk_get hik]; exact hx) (by rw [tk_get hjk]; exact hy) hlt fun t z ht htp hz => ?_
  have htk : t < k := by
   have := (qSq.1 hz).1;rw [List.length_take] at this;omega
  exact hmin t z ht htp htk (by rw [<- tk_get htk]; exact hz)
def stps (l : List Stp) : Flat := l.map fun s => [.i .i64 s.1, .i .i64 s.2.1, .i .i64 s.2.2.1, .b s.2.2.2]
def logV (own : Bool) (l : List Stp) (f : List Int) (E : List Ed) : V := .agg [.flat own 4 (stps l), .flat own 1 (ints f), .flat own 2 (edges E)]
def firstMay (N : List (List Int)) (G : List Bool) : Option Nat := (List.range N.length).find? fun v => mayB N G v
def runS : Nat -> List (List Int) -> List Bool -> List Stp × List (List Int) × List Bool
 | 0, N, G => ([], N, G)
 | f + 1, N, G => match firstMay N G with
  | none => ([], N, G)
  | some v => (stepF N v :: (runS f (doN N (stepF N v)) (doG G (stepF N v))).1, (runS f (doN N (stepF N v)) (doG G (stepF N v))).2)
def runR (n : Int) (E : List Ed) : List Stp × List (List Int) × List Bool := runS n.toNat (nbrs n.toNat E) (List.replicate n.toNat false)
theorem live_step {N : List (List Int)} {G : List Bool} (hW : Wf N G) {v : Int} (hm : MayP N G v) : (doG G (stepF N v)).countP (!·) + 1 = G.countP (!·) := by
 have hlt : v.toNat < G.length := by rw [hW.len]; have := hm.hi; have := hm.lo; omega
 have h0 : G[v.toNat] = false := by
  have := goneAt_get hW.len hm.lo hm.hi;rw [hm.there, qEq hlt] at this;injection this
 have e : doG G (stepF N v) = G.set v.toNat true := rfl
 rw [e]
 have key : ∀ (G : List Bool) (i : Nat) (h : i < G.length), G[i] = false -> (G.set i true).countP (!·) + 1 = G.countP (!·) := by
  intro G
  induction G with
  | nil => intro i h; simp at h
  | cons g G ih =>
   intro i h hg
   cases i with
   | zero =>
    have hg : g = false := hg;subst hg;simp [List.countP_cons]
   | succ i =>
    have := ih i (by simpa using h) (by simpa using hg);rw [List.set_cons_succ, List.countP_cons, List.countP_cons];omega
 exact key G _ hlt h0
theorem firstMay_some {N : List (List Int)} {G : List Bool} {v : Int} (h : mayB N G v = true) (hmin : ∀ u, mayB N G u = true -> v <= u) : firstMay N G = some v.toNat := by
 have hm := mayB_iff.1 h
 have h0 := hm.lo
 have h1 := hm.hi
 unfold firstMay
 rw [List.find?_eq_some_iff_append]
 refine ⟨by rw [Int.toNat_of_nonneg h0]; exact h, List.range v.toNat, (List.range' (v.toNat + 1) (N.length - (v.toNat + 1))), ?_, fun u hu => ?_⟩
 ·rw [List.range_eq_range', List.range_eq_range'];have : N.length = v.toNat + (1 + (N.length - (v.toNat + 1))) := by omega
  conv => lhs; rw [this]
  rw [<- List.range'_append_1, <- List.range'_append_1];simp
 ·have hu := List.mem_range.1 hu
  cases hc : mayB N G u with
  | false => rfl
  | true => have := hmin u hc; omega
theorem firstMay_none {N : List (List Int)} {G : List Bool} (h : ∀ u, mayB N G u ≠ true) : firstMay N G = none := by
 unfold firstMay
 rw [List.find?_eq_none]
 intro u _
 exact h u
theorem heap_least {l c : List Int} {a : Int} {k : Nat} {N : List (List Int)} {G : List Bool} (hc : Heap (c.take k)) (hl : Heap l) (ha : l[0]? = some a) (hp : (a :: c.take k).Perm l) (hm : ∀ v, mayB N G v = true -> v ∈ l) {v : Int} (hv : mayB N G v = true) : a <= v := by
 obtain ⟨i, hi⟩ := List.mem_iff_getElem?.1 (hm v hv)
 exact heap_head hl ha i v hi
theorem runS_go {f v : Nat} {N : List (List Int)} {G : List Bool} (h : firstMay N G = some v) : runS (f + 1) N G = (stepF N v :: (runS f (doN N (stepF N v)) (doG G (stepF N v))).1, (runS f (doN N (stepF N v)) (doG G (stepF N v))).2) := by
 simp only [runS, h]
theorem runS_end {f : Nat} {N : List (List Int)} {G : List Bool} (h : firstMay N G = none) : runS f N G = ([], N, G) := by
 cases f with
 | zero => rfl
 | succ f => simp only [runS, h]
theorem run_step {R : List Stp × List (List Int) × List Bool} {st : List Stp} {n : Nat} {N : List (List Int)} {G : List Bool} {v : Int} (h : R = (st ++ (runS (n - st.length) N G).1, (runS (n - st.length) N G).2)) (hW : Wf N G) (hv : mayB N G v = true) (hst : st.length + 1 <= n) (hmin : ∀ u, mayB N G u = true -> v <= u) :
  R = ((st ++ [stepF N v]) ++ (runS (n - (st ++ [stepF N v]).length) (doN N (stepF N v)) (doG G (stepF N v))).1, (runS (n - (st ++ [stepF N v]).length) (doN N (stepF N v)) (doG G (stepF N v))).2) := by
 have e : n - st.length = (n - (st ++ [stepF N v]).length) + 1 := by simp; omega
 have e2 : ((v.toNat : Nat) : Int) = v := Int.toNat_of_nonneg (mayB_iff.1 hv).lo
 rw [h, e, runS_go (firstMay_some hv hmin), e2]
 simp only [List.append_assoc, List.cons_append, List.nil_append]
theorem may_step {N : List (List Int)} {G : List Bool} (hW : Wf N G) {v : Int} (hm : MayP N G v) (hs : (rowAt N v = [] /\ (stepF N v).2.1 = -1 /\ (stepF N v).2.2.1 = -1 /\ (stepF N v).2.2.2 = false) \/ (∃ a, rowAt N v = [a] /\ (stepF N v).2.1 = a /\ (stepF N v).2.2.1 = -1 /\ (stepF N v).2.2.2 = false) \/
  (∃ a b, rowAt N v = [a, b] /\ a < b /\ (stepF N v).2.1 = a /\ (stepF N v).2.2.1 = b /\ (stepF N v).2.2.2 = !(rowAt N a).elem b)) {u : Int} (hu : mayB (doN N (stepF N v)) (doG G (stepF N v)) u = true) {Q : Prop} (hk : mayB N G u = true -> u ≠ v -> Q) : Q \/ u = (stepF N v).2.1 \/ u = (stepF N v).2.2.1 := by
 have hp := mayB_iff.1 hu
 have h0 := hp.lo
 have h1 := hp.hi
 rw [doN_length] at h1
 have h2 := hp.there
 rw [do_gone hW hm h0] at h2
 have hne : u ≠ v := fun e => by rw [if_pos e] at h2; cases h2
 rw [if_neg hne] at h2
 by_cases hA : u = (stepF N v).2.1
 ·exact .inr (.inl hA)
 by_cases hB : u = (stepF N v).2.2.1
 ·exact .inr (.inr hB)
 refine .inl (hk (mayB_iff.2 ⟨h0, h1, h2, ?_⟩) hne)
 have hnot : u ∉ rowAt N v := fun hin => by
  rcases hs with ⟨e, _⟩ | ⟨a, e, ea, _⟩ | ⟨a, b, e, _, ea, eb, _⟩
  ·rw [e] at hin; simp at hin
  ·rw [e] at hin; simp at hin; exact hA (by rw [ea, hin])
  ·rw [e] at hin; simp at hin
   rcases hin with h | h
   ·exact hA (by rw [ea, h])
   ·exact hB (by rw [eb, h])
 have hv : v ∉ rowAt N u := fun hin => hnot (hW.sym u v h0 hm.lo hin)
 obtain ⟨s1, s2⟩ := do_row hW hm h0
 have hsub : ∀ y ∈ rowAt N u, y ∈ rowAt (doN N (stepF N v)) u := fun y hy => (s2 y).2 ⟨hne, .inl ⟨hy, fun e => hv (e ▸ hy)⟩⟩
 have hnd : (rowAt N u).Nodup := (hW.rows u).1.imp fun hab => by omega
 exact Nat.le_trans (nodup_len hnd hsub) hp.two
theorem heap_nil : Heap [] := fun i x y _ h => by simp at h
theorem cut_ints {sub : Option (Nat × Nat)} {m : List Int} : cut sub (ints m) = ints (cut sub m) := by
 cases sub with
 | none => rfl
 | some p => simp [cut, ints, List.map_take, List.map_drop]
theorem stps_snoc (l : List Stp) (s : Stp) : stps (l ++ [s]) = stps l ++ [[.i .i64 s.1, .i .i64 s.2.1, .i .i64 s.2.2.1, .b s.2.2.2]] := by simp [stps]
theorem stps_length (l : List Stp) : (stps l).length = l.length := by simp [stps]
def leftK (G : List Bool) (j : Nat) : List Int := ((List.range j).filter fun v => !G.getD v false).map fun (v : Nat) => (v : Int)
def edgesK (N : List (List Int)) (G : List Bool) (j : Nat) : List Ed := (leftK G j).flatMap (outE N)
theorem leftK_succ (G : List Bool) (j : Nat) : leftK G (j + 1) = leftK G j ++ (if G.getD j false then [] else [(j : Int)]) := by
 unfold leftK
 rw [List.range_succ, List.filter_append, List.map_append]
 congr 1
 cases h : G.getD j false <;> simp [List.filter_cons, h] <;> simp_all
theorem edgesK_succ (N : List (List Int)) (G : List Bool) (j : Nat) : edgesK N G (j + 1) = edgesK N G j ++ (if G.getD j false then [] else outE N j) := by
 unfold edgesK
 rw [leftK_succ, List.flatMap_append]
 congr 1
 cases G.getD j false <;> simp
theorem leftK_len (G : List Bool) (j : Nat) : (leftK G j).length <= j := by
 unfold leftK
 rw [List.length_map]
 exact Nat.le_trans (List.length_filter_le _ _) (by simp)
theorem outE_len (N : List (List Int)) (v : Int) : (outE N v).length <= (rowAt N v).length := by
 unfold outE
 rw [List.length_map]
 exact List.length_filter_le _ _
theorem edgesK_len {N : List (List Int)} {G : List Bool} (hW : Wf N G) (j : Nat) : (edgesK N G j).length <= j * 1000 := by
 induction j with
 | zero => simp [edgesK, leftK]
 | succ j ih =>
  rw [edgesK_succ, List.length_append];have h1 := outE_len N j;have h2 := hW.row_len j;have h3 := hW.most;have : (if G.getD j false then [] else outE N j).length <= 1000 := by
   split
   ·simp
   ·omega
  omega
theorem goneAt_nat {G : List Bool} (j : Nat) : goneAt G (j : Int) = G.getD j false := by unfold goneAt; rw [Int.toNat_natCast]
open Classical in
noncomputable def runO (n : Int) (E : List Ed) : List Stp × List Int × List Ed := if RightP n E then ((runR n E).1, leftF (runR n E).2.2, edgesF (runR n E).2.1 (runR n E).2.2) else ([], [], [])
noncomputable def RunC : Con := conP 2 (fun _ : Int × List Ed => True) (fun a => [grV a.1 a.2]) (fun a => logV true (runO a.1 a.2).1 (runO a.1 a.2).2.1 (runO a.1 a.2).2.2)
theorem RunC_at (n : Int) (E : List Ed) : RunC.F [grV n E] = some (logV true (runO n E).1 (runO n E).2.1 (runO n E).2.2, []) :=
 conP_at (a := (n, E)) (fun x y _ _ h => by
  obtain ⟨n, E⟩ := x;obtain ⟨n', E'⟩ := y;simp at h;obtain ⟨rfl, rfl⟩ := grV_inj h
  rfl) trivial
noncomputable def XRun : Cx := { Γ := [(25, RightC), (95, BeginC), (96, MayC), (99, StepC), (125, turnC (fun l _ => l.Pairwise (· <= ·) /\ l.length <= 1000000) (fun l x => l.erase x)), (126, turnC (fun l _ => l.Pairwise (· <= ·) /\ l.length <= 1000000) insAt)], T := T, nt := 66, inl := [(97, inlF Tryz.f97), (98, inlF Tryz.f98), (100, inlF Tryz.f100), (101, inlF Tryz.f101)], join := [82000, 56000], jc := [82050, 70031, 66059, 66024] }
theorem XRun_sound : Sound Tryz.prog T XRun.Γ := sound_cons RightG_ok (sound_cons Begin_ok (sound_cons May_ok (sound_cons Step_ok (sound_cons (turn_sound Without_call) (sound_cons (turn_sound With_call) sound_nil)))))
theorem XRun_ok : CrOk Tryz.prog (callAt 1 XRun) := callAt_ok hmix hT XRun_sound (inl_cons Tryz.func97 (by rfl) (by rfl) (by rfl) (inl_cons Tryz.func98 (by rfl) (by rfl) (by rfl) (inl_cons Tryz.func100 (by rfl) (by rfl) (by rfl) (inl_cons Tryz.func101 (by rfl) (by rfl) (by rfl) inl_nil)))) cr_none 1
theorem may_range {N : List (List Int)} {G : List Bool} {n x : Int} (h : N.length = n.toNat) (k : mayB N G x = true) : 0 <= x /\ x < n := by
 have h1 := (mayB_iff.1 k).lo
 have h2 := (mayB_iff.1 k).hi
 omega
theorem skip_may {i : Nat} {x a b v : Int} {P : Prop} (hx : (i = 0 /\ x = a) \/ (i = 1 /\ x = b)) (hne : v ≠ x) (k : P \/ (i <= 0 /\ v = a) \/ (i <= 1 /\ v = b)) : P \/ (i + 1 <= 0 /\ v = a) \/ (i + 1 <= 1 /\ v = b) := by
 rcases k with k | ⟨k1, k2⟩ | ⟨k1, k2⟩
 ·exact .inl k
 ·rcases hx with ⟨_, e⟩ | ⟨e0, _⟩
  ·exact absurd (by rw [k2, e]) hne
  ·omega
 ·rcases hx with ⟨e0, _⟩ | ⟨_, e⟩
  ·exact .inr (.inr ⟨by omega, k2⟩)
  ·exact absurd (by rw [k2, e]) hne
theorem put_may {i : Nat} {x a b v : Int} {P Q : Prop} (hx : (i = 0 /\ x = a) \/ (i = 1 /\ x = b)) (h : P \/ v = x -> Q) (k : P \/ (i <= 0 /\ v = a) \/ (i <= 1 /\ v = b)) : Q \/ (i + 1 <= 0 /\ v = a) \/ (i + 1 <= 1 /\ v = b) := by
 rcases k with k | ⟨k1, k2⟩ | ⟨k1, k2⟩
 ·exact .inl (h (.inl k))
 ·rcases hx with ⟨_, e⟩ | ⟨e0, _⟩
  ·exact .inl (h (.inr (by rw [k2, e])))
  ·omega
 ·rcases hx with ⟨e0, _⟩ | ⟨_, e⟩
  ·exact .inr (.inr ⟨by omega, k2⟩)
  ·exact .inl (h (.inr (by rw [k2, e])))
set_option maxHeartbeats 4000000 in
theorem Run_ok : SoundC Tryz.prog T 70 RunC := by
 refine sound_con (X := XRun) (cr := callAt 1 XRun) XRun_ok hmix hT XRun_sound Tryz.func70 (by rfl) (by rfl) (by rfl) (by rfl) 2 ?_
 rintro ⟨n, E⟩ -
 dsimp only
 refine two_le ?_
 refine Call.by _ _ (RightC_at n E) ?_
 refine Pick.by (fun h1 => ?_) (fun h1 => ?_)
 ·have h1 : ¬ RightP n E := by have h1 : (!decide (RightP n E)) = true := h1; simpa using h1
  have hv : runO n E = ([], [], []) := if_neg h1;rw [hv];refine ⟨rfl, ?_⟩
  (repeat' first|exact rfl|exact trivial|apply And.intro)
 have hR : RightP n E := by have h1 : (!decide (RightP n E)) = false := h1; simpa using h1
 have hv : runO n E = ((runR n E).1, leftF (runR n E).2.2, edgesF (runR n E).2.1 (runR n E).2.2) := if_pos hR
 rw [hv]
 refine Call.by _ _ (BeginC_at hR) ?_
 have hn0 := hR.1
 have hn1 := hR.2.1
 have hW := begin_wf hR
 have hNl := nbrs_length n.toNat E
 have hGl : (List.replicate n.toNat false).length = (nbrs n.toNat E).length := by rw [hNl]; simp
 refine LoopP.intro (α := Nat × List Int) (fun a => a.1 <= n.toNat /\ a.2.length <= a.1 /\ Heap a.2 /\ (∀ v ∈ a.2, 0 <= v /\ v < n) /\ ∀ v : Int, v < a.1 -> mayB (nbrs n.toNat E) (List.replicate n.toNat false) v = true -> v ∈ a.2) (fun a => n.toNat - a.1) (fun a => [(2, .ptr 0 0), (3, .ptr 1 0), (4, .ptr 4 0), (18, .s (.i .i64 n)), (19, .s (.i .i64 a.1))])
  (fun a => [(0, some (.blk [.nils, .nils, .nils])), (1, some (.blk [.sl 2 none none, .sl 3 none none])), (2, some (.nest true 1 (rowsI (nbrs n.toNat E)) [] [])), (3, some (.flat true 1 (bools (List.replicate n.toNat false)))), (4, some (.blk [.sl 5 none none])), (5, some (.flat true 1 (ints a.2)))]) 6 (0, []) ⟨by omega, by simp, heap_nil, by simp, fun v h1 h2 => by rw [mayB_iff] at h2; have := h2.lo; omega⟩ (by refine Weak.ba [(0, some _), (1, some _), (2, some _), (3, some _), (4, some _), (5, none)]) ?_
 rintro ⟨i, l⟩ ⟨hi, hl, hH, hr, hm⟩
 dsimp only at hi hl hH hr hm ⊢
 refine Pick.by (fun hc => ?_) (fun hc => ?_)
 ·have hlt : i < n.toNat := by simp at hc; omega
  refine Call.by _ _ (MayC_at (i : Int) hGl) ?_;refine JoinP.intro (α := List Int) (fun l => l.length <= i + 1 /\ Heap l /\ (∀ v ∈ l, 0 <= v /\ v < n) /\ ∀ v : Int, v < (i + 1 : Nat) -> mayB (nbrs n.toNat E) (List.replicate n.toNat false) v = true -> v ∈ l) (fun l => [(2, .ptr 0 0), (3, .ptr 1 0), (4, .ptr 4 0), (18, .s (.i .i64 n)), (19, .s (.i .i64 i))])
   (fun l => [(0, some (.blk [.nils, .nils, .nils])), (1, some (.blk [.sl 2 none none, .sl 3 none none])), (2, some (.nest true 1 (rowsI (nbrs n.toNat E)) [] [])), (3, some (.flat true 1 (bools (List.replicate n.toNat false)))), (4, some (.blk [.sl 5 none none])), (5, some (.flat true 1 (ints l)))]) 6 ?_ ?_
  rotate_left
  ·rintro l' ⟨a1, a2, a3, a4⟩;refine Pick.n ?_;exact Next.by (i + 1, l') ⟨by dsimp only; omega, a1, a2, a3, a4⟩ (by dsimp only; omega) (by refine Weak.ba (sg 0 [_,_,_,_,_,_]))
  refine Pick.by (fun h2 => ?_) (fun h2 => ?_)
  ·refine Pick.T (by simp [cut, qiq]; omega) ?_;have hraw : ints l = ints l := rfl;have hlen0 : (ints l ++ [[Sc.i .i64 ((i : Nat) : Int)]]) = ints (l ++ [((i : Nat) : Int)]) := by rw [hraw, ints_snoc]
   refine Pick.T (by show inI64 ((((ints l ++ [[Sc.i .i64 ((i : Nat) : Int)]]).length : Nat) : Int) - 1) = true; rw [hlen0, qiq]; simp; exact inI64_of (by omega) (by omega)) ?_;have hlen1 : ((l.length : Nat) : Int) = (((ints l ++ [[Sc.i .i64 ((i : Nat) : Int)]]).length : Nat) : Int) - 1 := by rw [hlen0, qiq]; simp
   refine JoinP.intro (α := List Int) (fun a => Heap a /\ a.length = l.length + 1 /\ ∀ v, v ∈ a ↔ v ∈ l \/ v = ((i : Nat) : Int)) (fun a => [(0, .ptr 4 0), (4, .sl 6 none none), (1000002, .ptr 0 0), (1000003, .ptr 1 0), (1000004, .ptr 4 0), (1000018, .s (.i .i64 n)), (1000019, .s (.i .i64 i))])
    (fun a => [(0, some (.blk [.nils, .nils, .nils])), (1, some (.blk [.sl 2 none none, .sl 3 none none])), (2, some (.nest true 1 (rowsI (nbrs n.toNat E)) [] [])), (3, some (.flat true 1 (bools (List.replicate n.toNat false)))), (4, some (.blk [.sl 5 none none])), (6, some (.flat true 1 (ints a)))]) 7 ?_ ?_
   rotate_left
   ·rintro m ⟨hHm, hml2, hmem⟩;exact ⟨m, ⟨by omega, hHm, fun v hv => ((hmem v).1 hv).elim (hr v) fun e => by rw [e]; omega, fun v hv hmv => (hmem v).2 (if hvi : v < i then .inl (hm v hvi hmv) else .inr (by omega))⟩, by refine Weak.ba (sg 0 [_,_,_,_,_,_])⟩
   refine LoopP.intro (α := Nat × List Int) (fun a => a.2.Perm (l ++ [((i : Nat) : Int)]) /\ HUp a.2 a.1 /\ a.1 < a.2.length) (fun a => a.1) (fun a => [(0, .ptr 4 0), (4, .sl 6 none none), (5, .s (.i .i64 a.1)), (1000002, .ptr 0 0), (1000003, .ptr 1 0), (1000004, .ptr 4 0), (1000018, .s (.i .i64 n)), (1000019, .s (.i .i64 i))])
    (fun a => [(0, some (.blk [.nils, .nils, .nils])), (1, some (.blk [.sl 2 none none, .sl 3 none none])), (2, some (.nest true 1 (rowsI (nbrs n.toNat E)) [] [])), (3, some (.flat true 1 (bools (List.replicate n.toNat false)))), (4, some (.blk [.sl 5 none none])), (6, some (.flat true 1 (ints a.2)))]) 7 (l.length, l ++ [((i : Nat) : Int)]) ⟨List.Perm.refl _, up_start hH _, by simp⟩ (by refine Weak.bw (sg 0 [_,_,_,_,_,_,_]) (by ((repeat' first|exact rfl|exact trivial|apply And.intro) <;> (repeat' first|exact rfl|exact trivial|apply And.intro)); all_goals ((first | (exact hlen0.symm) | (exact sc_eq hlen1))))) ?_
   rintro ⟨p, m⟩ ⟨hperm, hup, hpm⟩;dsimp only at hperm hup hpm ⊢;have hml : m.length = l.length + 1 := by rw [hperm.length_eq]; simp
   have hpq : 0 < p -> ((p : Int) - 1).tdiv 2 = (((p - 1) / 2 : Nat) : Int) := fun h => by rw [show (p : Int) - 1 = ((p - 1 : Nat) : Int) by omega]; rfl
   have hput : Heap m -> Heap m /\ m.length = l.length + 1 /\ ∀ v, v ∈ m ↔ v ∈ l \/ v = ((i : Nat) : Int) := fun h => ⟨h, hml, fun v => by rw [hperm.mem_iff]; simp⟩
   refine Pick.by (fun hc1 => ?_) (fun hc1 => ?_)
   ·have hp0 : 0 < p := by simp at hc1; omega
    have hq := hpq hp0;have hql : (p - 1) / 2 < m.length := by omega
    obtain ⟨y, hy⟩ : ∃ y, m[p]? = some y := ⟨_, qEq hpm⟩;obtain ⟨z, hz⟩ : ∃ z, m[(p - 1) / 2]? = some z := ⟨_, qEq hql⟩;refine Idx.by p rfl (by rw [qiq]; exact hpm) ?_;refine Look.by _ (qhq hy) ?_;refine Pick.n ?_;refine Pick.n ?_;refine Idx.by ((p - 1) / 2) hq (by rw [qiq]; exact hql) ?_;refine Look.by _ (qhq hz) ?_;refine Seg.by (by kernel_rfl) ?_;refine Pick.by (fun hc2 => ?_) (fun hc2 => ?_)
    ·have hlt : y < z := by simpa using hc2
     have hsw : ints ((m.set p z).set ((p - 1) / 2) y) = ((ints m).set p [.i .i64 z]).set ((p - 1) / 2) [.i .i64 y] := by rw [ints_set, ints_set]
     refine Pick.n ?_;refine Pick.n ?_;refine Pick.n ?_;refine Pick.n ?_;refine Idx.by ((p - 1) / 2) hq (by rw [qiq]; exact hql) ?_;refine Look.by _ (qhq hz) ?_;refine Idx.by p rfl (by rw [qiq]; exact hpm) ?_;refine Look.by _ (qhq hy) ?_;refine Idx.by p rfl (by rw [qiq]; exact hpm) ?_;refine Look.by _ (qhq hy) ?_;refine Idx.by ((p - 1) / 2) hq (by rw [List.length_set, qiq]; exact hql) ?_;refine Look.by _ (by rw [qNq (by omega)]; exact qhq hz) ?_;refine Seg.by (by kernel_rfl) ?_;refine Pick.n ?_;refine Pick.n ?_;refine Next.by ((p - 1) / 2, (m.set p z).set ((p - 1) / 2) y) ⟨(swap_perm hy hz (by omega)).trans hperm, up_step hup hp0 hz hy hlt, by rw [List.length_set, List.length_set]; exact hql⟩ (by dsimp only; omega) (by refine Weak.bw (sg 0 [_,_,_,_,_,_,_]) (by ((repeat' first|exact rfl|exact trivial|apply And.intro) <;> (repeat' first|exact rfl|exact trivial|apply And.intro)); all_goals ((first | (exact hsw) | (exact sc_eq hq.symm)))))
    ·have hHm := hput (up_done hup (.inr fun x' y' hx' hy' => by
      rw [hz] at hx'; rw [hy] at hy'
      injection hx' with hx'; injection hy' with hy'
      have : ¬ y < z := by simpa using hc2
      omega))
     exact ⟨m, hHm, by refine Weak.ba (sg 0 [_,_,_,_,_,_,_])⟩
   ·have hp0 : p = 0 := by simp at hc1; omega
    refine Seg.by (by kernel_rfl) ?_;exact ⟨m, hput (up_done hup (.inl hp0)), by refine Weak.ba (sg 0 [_,_,_,_,_,_,_])⟩
  ·have h2 : mayB (nbrs n.toNat E) (List.replicate n.toNat false) i = false := h2;refine ⟨l, ⟨by omega, hH, hr, fun v hv hmv => ?_⟩, by refine Weak.ba (sg 0 [_,_,_,_,_,_])⟩;by_cases hvi : v < i
   ·exact hm v hvi hmv
   ·have : v = i := by omega
    rw [this, h2] at hmv; cases hmv
 ·have hin : i = n.toNat := by simp at hc; omega
  have hm : ∀ v : Int, mayB (nbrs n.toNat E) (List.replicate n.toNat false) v = true -> v ∈ l := fun v hv => hm v (by have := (mayB_iff.1 hv).hi; rw [hNl] at this; omega) hv
  have hl0 : l.length <= n.toNat := by omega
  have hrun : runR n E = ([] ++ (runS n.toNat (nbrs n.toNat E) (List.replicate n.toNat false)).1, (runS n.toNat (nbrs n.toNat E) (List.replicate n.toNat false)).2) := rfl;generalize hNN : nbrs n.toNat E = N at *
  generalize hGG : List.replicate n.toNat false = G at *
  refine LoopP.intro (α := List Stp × List (List Int) × List Bool × Option (Nat × Nat) × List Int) (fun a => Wf a.2.1 a.2.2.1 /\ a.2.1.length = n.toNat /\ runR n E = (a.1 ++ (runS (n.toNat - a.1.length) a.2.1 a.2.2.1).1, (runS (n.toNat - a.1.length) a.2.1 a.2.2.1).2) /\ a.1.length + a.2.2.1.countP (!·) <= n.toNat /\ (a.2.2.2.1 = none \/ ∃ L, a.2.2.2.1 = some (0, L) /\ L <= a.2.2.2.2.length) /\
    a.2.2.2.2.length <= 4000 /\ (cut a.2.2.2.1 a.2.2.2.2).length <= n.toNat + 2 * a.1.length /\ Heap (cut a.2.2.2.1 a.2.2.2.2) /\ (∀ v ∈ cut a.2.2.2.1 a.2.2.2.2, 0 <= v /\ v < n) /\ ∀ v : Int, mayB a.2.1 a.2.2.1 v = true -> v ∈ cut a.2.2.2.1 a.2.2.2.2)
   (fun a => 3 * (n.toNat - a.1.length) + (cut a.2.2.2.1 a.2.2.2.2).length) (fun a => [(2, .ptr 0 0), (3, .ptr 1 0), (4, .ptr 4 0), (6, .sl 6 none none)])
   (fun a => [(0, some (.blk [.nils, .nils, .nils])), (1, some (.blk [.sl 2 none none, .sl 3 none none])), (2, some (.nest true 1 (rowsI a.2.1) [] [])), (3, some (.flat true 1 (bools a.2.2.1))), (4, some (.blk [.sl 5 none a.2.2.2.1])), (5, some (.flat true 1 (ints a.2.2.2.2))), (6, some (.flat true 4 (stps a.1)))]) 7 ([], N, G, none, l)
   ⟨hW, hNl, by simpa using hrun, by rw [<- hGG]; simp [List.countP_replicate], .inl rfl, by show l.length <= _; omega, by show l.length <= _; omega, hH, hr, hm⟩ (by refine Weak.ba [(0, some _), (1, some _), (2, some _), (3, some _), (4, some _), (5, some _), (6, none)]) ?_
  clear hrun hl0 hH hr hm hW hNl hGl hl hi hc
  rintro ⟨st, N, G, sub, m⟩ ⟨hW, hNl, hrun, hlive, hsub, hm4, hl0, hH, hr, hm⟩;dsimp only at hW hNl hrun hlive hsub hm4 hl0 hH hr hm ⊢;rcases hsub with rfl | ⟨L, rfl, hL⟩
  ·generalize hlm : cut none m = l at *
   have hlm : m = l := hlm;refine Pick.by (fun hc => ?_) (fun hc => ?_)
   ·have hpos : 0 < l.length := by rw [qiq, hlm] at hc; simpa using hc
    obtain ⟨out, hout⟩ : ∃ a, l[0]? = some a := ⟨_, qEq hpos⟩;obtain ⟨last, hlst⟩ : ∃ k, l.length = k + 1 := ⟨l.length - 1, by omega⟩;obtain ⟨top, htop⟩ : ∃ a, l[last]? = some a := ⟨_, qEq (by omega)⟩;have hlast : (((ints m).length : Nat) : Int) - 1 = (last : Int) := by rw [qiq, hlm]; omega
    have hsift : Sift l out last (m.set 0 top) 0 := ⟨by rw [List.length_set, hlm]; omega, by rw [hlm]; exact take_perm hout htop hlst, by rw [hlm]; exact dn_start hH _⟩;have hil : (ints m).length = last + 1 := by rw [qiq, hlm]; exact hlst
    refine Idx.by 0 rfl (by omega) ?_;refine Look.by _ (by rw [hlm]; exact qhq hout) ?_;refine Pick.T (by rw [hlast]; exact inI64_of (by omega) (by omega)) ?_;refine Idx.by last hlast (by omega) ?_;refine Look.by _ (by rw [hlm]; exact qhq htop) ?_;refine Idx.by 0 rfl (by omega) ?_;refine Look.by _ (by rw [hlm]; exact qhq hout) ?_;refine Rng.by 0 last rfl hlast (by omega) (by rw [List.length_set]; omega) ?_;refine JoinP.intro (α := List Int) (fun c => c.length = m.length /\ last <= c.length /\ (out :: c.take last).Perm l /\ Heap (c.take last)) (fun c => [(0, .ptr 4 0), (3, .sl 5 none (some (0, last))), (4, .s (.i .i64 out)), (1000002, .ptr 0 0), (1000003, .ptr 1 0), (1000004, .ptr 4 0), (1000006, .sl 6 none none)])
     (fun c => [(0, some (.blk [.nils, .nils, .nils])), (1, some (.blk [.sl 2 none none, .sl 3 none none])), (2, some (.nest true 1 (rowsI N) [] [])), (3, some (.flat true 1 (bools G))), (4, some (.blk [.sl 5 none none])), (5, some (.flat true 1 (ints c))), (6, some (.flat true 4 (stps st)))]) 7 ?_ ?_
    rotate_left
    ·rintro c ⟨hcm, hlc, hperm, hHc⟩;have hGN := hW.len;have hq0 : ∀ v, v ∈ c.take last -> v ∈ l := fun v hv => hperm.mem_iff.1 (List.mem_cons_of_mem _ hv)
     have hq1 : ∀ v, v ∈ l -> v = out \/ v ∈ c.take last := fun v hv => by simpa using hperm.mem_iff.2 hv
     have hqr : ∀ v ∈ c.take last, 0 <= v /\ v < n := fun v hv => hr v (hq0 v hv)
     have hqc : cut (some (0, last)) c = c.take last := rfl;have hqlen : (c.take last).length = last := by rw [List.length_take]; omega
     have hor := hr out (qMq hout);refine Call.by _ _ (MayC_at out hGN) ?_;refine Pick.by (fun hmy => ?_) (fun hmy => ?_)
     ·have hmy : mayB N G out = false := by have hmy : (!mayB N G out) = true := hmy; simpa using hmy
      refine Next.by (st, N, G, some (0, last), c) ⟨hW, hNl, hrun, hlive, .inr ⟨last, rfl, hlc⟩, by dsimp only; omega, by dsimp only; rw [hqc]; omega, hHc, hqr, fun v hv => ?_⟩ (by dsimp only; rw [hqc]; omega) (by refine Weak.ba (sg 0 [_,_,_,_,_,_,_]));rcases hq1 v (hm v hv) with e | e
      ·rw [e, hmy] at hv; cases hv
      ·exact e
     have hmy : mayB N G out = true := by have hmy : (!mayB N G out) = false := hmy; simpa using hmy
     have hmp := mayB_iff.1 hmy;obtain ⟨hs1, hs2⟩ := step_two hW hmp rfl;refine Call.by _ _ (StepC_at ⟨hW, hmp.lo, hmp.hi⟩) ?_;have hlo := hmp.lo;have hhi := hmp.hi;have hrv := hW.rows out;have hnd : (rowAt N out).Nodup := hrv.1.imp fun hab => by omega
     have hNL := qrq N;have hmo := hW.most;have hrl := hW.row_len out;have hgv : (rowsI N)[(out).toNat]? = some (ints (rowAt N out)) := qgq (rowAt_mem hlo hhi).2;have hvv : out ∉ rowAt N out := hW.irr out hlo;have hpart : ∀ (di : Nat) (u : Int), 0 <= u -> rowAt (((rowAt N out).take di).foldl (cutF out) N) u = if u ∈ (rowAt N out).take di then (rowAt N u).erase out else rowAt N u := fun di u hu => cuts_row (hnd.sublist (List.take_sublist _ _)) (fun x hx => hrv.2 x (List.mem_of_mem_take hx)) hu
     have hplen : ∀ di : Nat, (rowsI (((rowAt N out).take di).foldl (cutF out) N)).length = N.length := fun di => by rw [qrq, cuts_length]
     have hpget : ∀ (di : Nat) (u : Int), 0 <= u -> u < N.length -> (rowsI (((rowAt N out).take di).foldl (cutF out) N))[u.toNat]? = some (ints (rowAt (((rowAt N out).take di).foldl (cutF out) N) u)) := fun di u h0 h1 => qgq (rowAt_mem h0 (by rw [cuts_length]; exact h1)).2
     refine Idx.by (out).toNat (by show (out : Int) = _; omega) (by omega) ?_;refine Pick.T (by rw [hNL]; simp; omega) ?_;refine Look.by _ hgv ?_;refine LoopP.intro (α := Nat) (fun di => di <= (rowAt N out).length) (fun di => (rowAt N out).length - di) (fun di => [(2, .ptr 8 0), (3, .ptr 9 0), (11, .sl 2 (some ((out).toNat, 0)) none), (12, .s (.i .i64 (rowAt N out).length)), (13, .s (.i .i64 di)), (1000002, .ptr 0 0), (1000003, .ptr 1 0), (1000004, .ptr 4 0), (1000006, .sl 6 none none), (1000008, .ptr 7 0)])
      (fun di => [(0, some (.blk [.nils, .nils, .nils])), (1, some (.blk [.sl 2 none none, .sl 3 none none])), (4, some (.blk [.sl 5 none (some (0, last))])), (5, some (.flat true 1 (ints c))), (6, some (.flat true 4 (stps st))), (7, some (.blk [.s (.i .i64 (stepF N out).1), .s (.i .i64 (stepF N out).2.1), .s (.i .i64 (stepF N out).2.2.1), .s (.b (stepF N out).2.2.2)])), (2, some (.nest true 1 (rowsI (((rowAt N out).take di).foldl (cutF out) N)) [] [])), (3, some (.flat true 1 (bools G))), (8, some (.blk [.sl 2 none none, .sl 3 none none])), (9, some (.blk [.s (.i .i64 (stepF N out).1), .s (.i .i64 (stepF N out).2.1), .s (.i .i64 (stepF N out).2.2.1), .s (.b (stepF N out).2.2.2)]))]) 10 0 (by omega) (by refine Weak.bw (sg 0 [_,_,_,_,_,_,_,_,_,_]) (by ((repeat' first|exact rfl|exact trivial|apply And.intro) <;> (repeat' first|exact rfl|exact trivial|apply And.intro)); all_goals ((first | (rw [qiq]; rfl) | (simp; done))))) ?_
     rintro di hi;refine Pick.by (fun hc1 => ?_) (fun hc1 => ?_)
     ·have hil : di < (rowAt N out).length := by simpa using hc1
      obtain ⟨x, hx⟩ : ∃ x, (rowAt N out)[di]? = some x := ⟨_, qEq hil⟩;have hxm := qMq hx;have hxr := hrv.2 x hxm;have hxv : x ≠ out := fun e => hvv (e ▸ hxm)
      have hgi : (rowsI (((rowAt N out).take di).foldl (cutF out) N))[(out).toNat]? = some (ints (rowAt N out)) := by
       rw [hpget di out hlo hhi, hpart di out hlo, if_neg fun h => hvv (List.mem_of_mem_take h)]
      have hrx := hpget di x hxr.1 hxr.2;have hstp : ((rowAt N out).take (di + 1)).foldl (cutF out) N = cutF out (((rowAt N out).take di).foldl (cutF out) N) x := by
       rw [qTq hil, List.foldl_append];have : (rowAt N out)[di] = x := by rw [qEq hil] at hx; injection hx
       rw [this]; rfl
      have hwx : (rowAt (((rowAt N out).take di).foldl (cutF out) N) x).Pairwise (· <= ·) /\ (rowAt (((rowAt N out).take di).foldl (cutF out) N) x).length <= 1000000 := by
       have h1 := hW.rows x;have h2 := hW.row_len x;rw [hpart di x hxr.1];split
       ·have h3 := List.length_erase_le (l := rowAt N x) (a := out);exact ⟨(erase_sorted h1.1).imp fun h => by omega, by omega⟩
       ·exact ⟨h1.1.imp fun h => by omega, by omega⟩
      have hpl := hplen di;refine Look.by _ hgi ?_;refine Idx.by di rfl (by rw [qiq]; exact hil) ?_;refine Look.by _ hgi ?_;refine Look.by _ (qhq hx) ?_;refine Idx.by x.toNat (by omega) (by omega) ?_;refine Pick.T (by rw [hpl]; simp; omega) ?_;refine Look.by _ hrx ?_;refine Call.by _ _ (turnC_at hwx) ?_;refine Idx.by x.toNat (by omega) (by omega) ?_;refine Pick.T (by rw [hpl]; simp; omega) ?_;refine Pick.T (by simp) ?_;refine Seg.by (by kernel_rfl) ?_;refine Pick.n ?_;refine Next.by (di + 1) (by omega) (by omega) (by refine Weak.bw (sg 0 [_,_,_,_,_,_,_,_,_,_]) (by ((repeat' first|exact rfl|exact trivial|apply And.intro) <;> (repeat' first|exact rfl|exact trivial|apply And.intro)); all_goals ((first | (rw [hstp]; unfold cutF; rw [rowsI_set]; rfl) | (simp; done) | (simp; omega)))))
     have hil : di = (rowAt N out).length := by simp at hc1; omega
     subst hil;rw [List.take_length];have hN1 : ∀ u : Int, 0 <= u -> rowAt ((rowAt N out).foldl (cutF out) N) u = (rowAt N u).erase out := fun u hu => by
      rw [cuts_row hnd hrv.2 hu];split
      ·rfl
      ·rename_i hno;rw [List.erase_of_not_mem];exact fun h => hno (hW.sym u out hu hlo h)
     have hl1 : (rowsI ((rowAt N out).foldl (cutF out) N)).length = N.length := by rw [qrq, cuts_length]
     refine JoinP.intro (α := Unit) (fun _ => True) (fun _ => [(2, .ptr 8 0), (3, .ptr 9 0), (1000002, .ptr 0 0), (1000003, .ptr 1 0), (1000004, .ptr 4 0), (1000006, .sl 6 none none), (1000008, .ptr 7 0)])
      (fun _ => [(0, some (.blk [.nils, .nils, .nils])), (1, some (.blk [.sl 2 none none, .sl 3 none none])), (4, some (.blk [.sl 5 none (some (0, last))])), (5, some (.flat true 1 (ints c))), (6, some (.flat true 4 (stps st))), (7, some (.blk [.s (.i .i64 (stepF N out).1), .s (.i .i64 (stepF N out).2.1), .s (.i .i64 (stepF N out).2.2.1), .s (.b (stepF N out).2.2.2)])), (2, some (.nest true 1 (rowsI (if (stepF N out).2.2.2 then joinF (joinF ((rowAt N out).foldl (cutF out) N) (stepF N out).2.1 (stepF N out).2.2.1) (stepF N out).2.2.1 (stepF N out).2.1 else (rowAt N out).foldl (cutF out) N)) [] [])), (3, some (.flat true 1 (bools G))), (8, some (.blk [.sl 2 none none, .sl 3 none none])), (9, some (.blk [.s (.i .i64 (stepF N out).1), .s (.i .i64 (stepF N out).2.1), .s (.i .i64 (stepF N out).2.2.1), .s (.b (stepF N out).2.2.2)]))]) 10 ?_ ?_
     rotate_left
     ·rintro ⟨⟩ -;have hl2 : (rowsI (if (stepF N out).2.2.2 then joinF (joinF ((rowAt N out).foldl (cutF out) N) (stepF N out).2.1 (stepF N out).2.2.1) (stepF N out).2.2.1 (stepF N out).2.1 else (rowAt N out).foldl (cutF out) N)).length = N.length := by
       rw [qrq];split
       ·rw [joinF_length, joinF_length, cuts_length]
       ·rw [cuts_length]
      have hdo : (rowsI (if (stepF N out).2.2.2 then joinF (joinF ((rowAt N out).foldl (cutF out) N) (stepF N out).2.1 (stepF N out).2.2.1) (stepF N out).2.2.1 (stepF N out).2.1 else (rowAt N out).foldl (cutF out) N)).set (out).toNat [] = rowsI (doN N (stepF N out)) := by
       unfold doN;rw [rowsI_set]; rfl
      have hdg : (bools G).set (out).toNat [.b true] = bools (doG G (stepF N out)) := by
       unfold doG bools;rw [List.map_set]; rfl
      generalize rowsI (if (stepF N out).2.2.2 then joinF (joinF ((rowAt N out).foldl (cutF out) N) (stepF N out).2.1 (stepF N out).2.2.1) (stepF N out).2.2.1 (stepF N out).2.1 else (rowAt N out).foldl (cutF out) N) = RR at hl2 hdo ⊢
      refine Idx.by (out).toNat (by show (out : Int) = _; omega) (by omega) ?_;refine Pick.T (by rw [hl2]; simp; omega) ?_;refine Idx.by (out).toNat (by show (out : Int) = _; omega) (by rw [bools_length, hW.len]; omega) ?_;refine Look.by _ (bools_get (goneAt_get hW.len hlo hhi)) ?_;refine Seg.by (by kernel_rfl) ?_;have hW2 := do_wf hW hmp;have hNl2 : (doN N (stepF N out)).length = n.toNat := by rw [doN_length]; exact hNl
      have hGN2 : (doG G (stepF N out)).length = (doN N (stepF N out)).length := hW2.len;have hlv := live_step hW hmp;have hst4 : st.length + 1 <= n.toNat := by omega
      have hrun2 := run_step hrun hW hmy hst4 (fun v hv => heap_least hHc hH hout hperm hm hv);have hmay2 : ∀ v, mayB (doN N (stepF N out)) (doG G (stepF N out)) v = true -> v ∈ c.take last \/ v = (stepF N out).2.1 \/ v = (stepF N out).2.2.1 := fun v hv => may_step hW hmp hs2 hv fun h2 hne => (hq1 v (hm v h2)).elim (fun e => absurd e hne) id
      generalize hN2 : doN N (stepF N out) = N2 at *
      generalize hG2 : doG G (stepF N out) = G2 at *
      generalize hsG : stepF N out = s at *
      refine Pick.T (by simp [cut, stps_length]; omega) ?_;refine LoopP.intro (α := Nat × Option (Nat × Nat) × List Int) (fun a => a.1 <= 2 /\ (a.2.1 = none \/ ∃ L, a.2.1 = some (0, L) /\ L <= a.2.2.length) /\ a.2.2.length <= 4000 /\ (cut a.2.1 a.2.2).length <= last + a.1 /\ Heap (cut a.2.1 a.2.2) /\ (∀ v ∈ cut a.2.1 a.2.2, 0 <= v /\ v < n) /\ ∀ v : Int, mayB N2 G2 v = true -> v ∈ cut a.2.1 a.2.2 \/ (a.1 <= 0 /\ v = s.2.1) \/ (a.1 <= 1 /\ v = s.2.2.1)) (fun a => 2 - a.1) (fun a => [(2, .ptr 0 0), (3, .ptr 1 0), (4, .ptr 4 0), (6, .sl 6 none none), (51, .sl 7 none none), (52, .s (.i .i64 2)), (53, .s (.i .i64 a.1))])
       (fun a => [(0, some (.blk [.nils, .nils, .nils])), (1, some (.blk [.sl 2 none none, .sl 3 none none])), (2, some (.nest true 1 (rowsI N2) [] [])), (3, some (.flat true 1 (bools G2))), (4, some (.blk [.sl 5 none a.2.1])), (5, some (.flat true 1 (ints a.2.2))), (6, some (.flat true 4 (stps (st ++ [s])))), (7, some (.flat true 1 (ints [s.2.1, s.2.2.1])))]) 8 (0, some (0, last), c)
       ⟨by dsimp only; omega, .inr ⟨last, rfl, hlc⟩, by dsimp only; omega, by dsimp only; rw [hqc]; omega, hHc, hqr, fun v hv => (hmay2 v hv).elim .inl fun h => h.elim (fun h => .inr (.inl ⟨by dsimp only; omega, h⟩)) fun h => .inr (.inr ⟨by dsimp only; omega, h⟩)⟩ (by refine Weak.bw (sg 0 [_,_,_,_,_,_,_,_]) (by ((repeat' first|exact rfl|exact trivial|apply And.intro) <;> (repeat' first|exact rfl|exact trivial|apply And.intro)); all_goals ((first | (exact stps_snoc st s) | (exact hdo.symm) | (exact hdg.symm))))) ?_
      rintro ⟨i, sub2, m2⟩ ⟨hi2, hsub2, hm24, hcl2, hH2, hr2, hmv2⟩;dsimp only at hi2 hsub2 hm24 hcl2 hH2 hr2 hmv2 ⊢;refine Pick.by (fun hc5 => ?_) (fun hc5 => ?_)
      ·have hi3 : i < 2 := by simp at hc5; omega
       obtain ⟨x, hx⟩ : ∃ x, [s.2.1, s.2.2.1][i]? = some x := ⟨_, qEq (show i < [s.2.1, s.2.2.1].length from hi3)⟩;have hxi : (i = 0 /\ x = s.2.1) \/ (i = 1 /\ x = s.2.2.1) := by
        have : i = 0 \/ i = 1 := by omega
        rcases this with e | e
        ·subst e; simp at hx; exact .inl ⟨rfl, hx.symm⟩
        ·subst e; simp at hx; exact .inr ⟨rfl, hx.symm⟩
       refine Idx.by i rfl (by rw [qiq]; exact hi3) ?_;refine Look.by _ (qhq hx) ?_;refine Call.by _ _ (MayC_at x hGN2) ?_;refine JoinP.intro (α := Option (Nat × Nat) × List Int) (fun b => (b.1 = none \/ ∃ L, b.1 = some (0, L) /\ L <= b.2.length) /\ b.2.length <= 4000 /\ (cut b.1 b.2).length <= last + i + 1 /\ Heap (cut b.1 b.2) /\ (∀ v ∈ cut b.1 b.2, 0 <= v /\ v < n) /\ ∀ v : Int, mayB N2 G2 v = true -> v ∈ cut b.1 b.2 \/ (i + 1 <= 0 /\ v = s.2.1) \/ (i + 1 <= 1 /\ v = s.2.2.1)) (fun b => [(2, .ptr 0 0), (3, .ptr 1 0), (4, .ptr 4 0), (6, .sl 6 none none), (51, .sl 7 none none), (52, .s (.i .i64 2)), (53, .s (.i .i64 i))])
        (fun b => [(0, some (.blk [.nils, .nils, .nils])), (1, some (.blk [.sl 2 none none, .sl 3 none none])), (2, some (.nest true 1 (rowsI N2) [] [])), (3, some (.flat true 1 (bools G2))), (4, some (.blk [.sl 5 none b.1])), (5, some (.flat true 1 (ints b.2))), (6, some (.flat true 4 (stps (st ++ [s])))), (7, some (.flat true 1 (ints [s.2.1, s.2.2.1])))]) 8 ?_ ?_
       rotate_left
       ·rintro ⟨sub3, m3⟩ hJ;refine Pick.n ?_;exact Next.by (i + 1, sub3, m3) ⟨by dsimp only; omega, hJ⟩ (by dsimp only; omega) (by refine Weak.ba (sg 0 [_,_,_,_,_,_,_,_]))
       refine Pick.by (fun hc6 => ?_) (fun hc6 => ?_)
       ·have hc6 : mayB N2 G2 x = true := hc6;have hxr2 : 0 <= x /\ x < n := may_range hNl2 hc6;have hH := hH2;refine Pick.T (by simp [cut, qiq]; omega) ?_;have hraw : cut sub2 (ints m2) = ints (cut sub2 m2) := cut_ints;have hlen0 : (cut sub2 (ints m2) ++ [[Sc.i .i64 x]]) = ints ((cut sub2 m2) ++ [x]) := by rw [hraw, ints_snoc]
        refine Pick.T (by show inI64 ((((cut sub2 (ints m2) ++ [[Sc.i .i64 x]]).length : Nat) : Int) - 1) = true; rw [hlen0, qiq]; simp; exact inI64_of (by omega) (by omega)) ?_;have hlen1 : (((cut sub2 m2).length : Nat) : Int) = (((cut sub2 (ints m2) ++ [[Sc.i .i64 x]]).length : Nat) : Int) - 1 := by rw [hlen0, qiq]; simp
        refine JoinP.intro (α := List Int) (fun a => Heap a /\ a.length = (cut sub2 m2).length + 1 /\ ∀ v, v ∈ a ↔ v ∈ (cut sub2 m2) \/ v = x) (fun a => [(0, .ptr 4 0), (4, .sl 8 none none), (1000002, .ptr 0 0), (1000003, .ptr 1 0), (1000004, .ptr 4 0), (1000006, .sl 6 none none), (1000051, .sl 7 none none), (1000052, .s (.i .i64 2)), (1000053, .s (.i .i64 i))])
         (fun a => [(0, some (.blk [.nils, .nils, .nils])), (1, some (.blk [.sl 2 none none, .sl 3 none none])), (2, some (.nest true 1 (rowsI N2) [] [])), (3, some (.flat true 1 (bools G2))), (4, some (.blk [.sl 5 none sub2])), (6, some (.flat true 4 (stps (st ++ [s])))), (7, some (.flat true 1 (ints [s.2.1, s.2.2.1]))), (8, some (.flat true 1 (ints a)))]) 9 ?_ ?_
        rotate_left
        ·rintro m ⟨hHm, hml2, hmem⟩;exact ⟨(none, m), ⟨.inl rfl, by dsimp only; omega, by show m.length <= _; omega, hHm, fun v hv => ((hmem v).1 hv).elim (hr2 v) fun e => by rw [e]; exact hxr2, fun v hv => put_may hxi (hmem v).2 (hmv2 v hv)⟩, by refine Weak.ba (sg 0 [_,_,_,_,_,_,_,_])⟩
        refine LoopP.intro (α := Nat × List Int) (fun a => a.2.Perm ((cut sub2 m2) ++ [x]) /\ HUp a.2 a.1 /\ a.1 < a.2.length) (fun a => a.1) (fun a => [(0, .ptr 4 0), (4, .sl 8 none none), (5, .s (.i .i64 a.1)), (1000002, .ptr 0 0), (1000003, .ptr 1 0), (1000004, .ptr 4 0), (1000006, .sl 6 none none), (1000051, .sl 7 none none), (1000052, .s (.i .i64 2)), (1000053, .s (.i .i64 i))])
         (fun a => [(0, some (.blk [.nils, .nils, .nils])), (1, some (.blk [.sl 2 none none, .sl 3 none none])), (2, some (.nest true 1 (rowsI N2) [] [])), (3, some (.flat true 1 (bools G2))), (4, some (.blk [.sl 5 none sub2])), (6, some (.flat true 4 (stps (st ++ [s])))), (7, some (.flat true 1 (ints [s.2.1, s.2.2.1]))), (8, some (.flat true 1 (ints a.2)))]) 9 ((cut sub2 m2).length, (cut sub2 m2) ++ [x]) ⟨List.Perm.refl _, up_start hH _, by simp⟩ (by refine Weak.bw (sg 0 [_,_,_,_,_,_,_,_,_]) (by ((repeat' first|exact rfl|exact trivial|apply And.intro) <;> (repeat' first|exact rfl|exact trivial|apply And.intro)); all_goals ((first | (exact hlen0.symm) | (exact sc_eq hlen1))))) ?_
        rintro ⟨p, m⟩ ⟨hperm, hup, hpm⟩;dsimp only at hperm hup hpm ⊢;have hml : m.length = (cut sub2 m2).length + 1 := by rw [hperm.length_eq]; simp
        have hpq : 0 < p -> ((p : Int) - 1).tdiv 2 = (((p - 1) / 2 : Nat) : Int) := fun h => by rw [show (p : Int) - 1 = ((p - 1 : Nat) : Int) by omega]; rfl
        have hput : Heap m -> Heap m /\ m.length = (cut sub2 m2).length + 1 /\ ∀ v, v ∈ m ↔ v ∈ (cut sub2 m2) \/ v = x := fun h => ⟨h, hml, fun v => by rw [hperm.mem_iff]; simp⟩
        refine Pick.by (fun hc1 => ?_) (fun hc1 => ?_)
        ·have hp0 : 0 < p := by simp at hc1; omega
         have hq := hpq hp0;have hql : (p - 1) / 2 < m.length := by omega
         obtain ⟨y, hy⟩ : ∃ y, m[p]? = some y := ⟨_, qEq hpm⟩;obtain ⟨z, hz⟩ : ∃ z, m[(p - 1) / 2]? = some z := ⟨_, qEq hql⟩;refine Idx.by p rfl (by rw [qiq]; exact hpm) ?_;refine Look.by _ (qhq hy) ?_;refine Pick.n ?_;refine Pick.n ?_;refine Idx.by ((p - 1) / 2) hq (by rw [qiq]; exact hql) ?_;refine Look.by _ (qhq hz) ?_;refine Seg.by (by kernel_rfl) ?_;refine Pick.by (fun hc2 => ?_) (fun hc2 => ?_)
         ·have hlt : y < z := by simpa using hc2
          have hsw : ints ((m.set p z).set ((p - 1) / 2) y) = ((ints m).set p [.i .i64 z]).set ((p - 1) / 2) [.i .i64 y] := by rw [ints_set, ints_set]
          refine Pick.n ?_;refine Pick.n ?_;refine Pick.n ?_;refine Pick.n ?_;refine Idx.by ((p - 1) / 2) hq (by rw [qiq]; exact hql) ?_;refine Look.by _ (qhq hz) ?_;refine Idx.by p rfl (by rw [qiq]; exact hpm) ?_;refine Look.by _ (qhq hy) ?_;refine Idx.by p rfl (by rw [qiq]; exact hpm) ?_;refine Look.by _ (qhq hy) ?_;refine Idx.by ((p - 1) / 2) hq (by rw [List.length_set, qiq]; exact hql) ?_;refine Look.by _ (by rw [qNq (by omega)]; exact qhq hz) ?_;refine Seg.by (by kernel_rfl) ?_;refine Pick.n ?_;refine Pick.n ?_;refine Next.by ((p - 1) / 2, (m.set p z).set ((p - 1) / 2) y) ⟨(swap_perm hy hz (by omega)).trans hperm, up_step hup hp0 hz hy hlt, by rw [List.length_set, List.length_set]; exact hql⟩ (by dsimp only; omega) (by refine Weak.bw (sg 0 [_,_,_,_,_,_,_,_,_]) (by ((repeat' first|exact rfl|exact trivial|apply And.intro) <;> (repeat' first|exact rfl|exact trivial|apply And.intro)); all_goals ((first | (exact hsw) | (exact sc_eq hq.symm)))))
         ·have hHm := hput (up_done hup (.inr fun x' y' hx' hy' => by
           rw [hz] at hx'; rw [hy] at hy'
           injection hx' with hx'; injection hy' with hy'
           have : ¬ y < z := by simpa using hc2
           omega))
          exact ⟨m, hHm, by refine Weak.ba (sg 0 [_,_,_,_,_,_,_,_,_])⟩
        ·have hp0 : p = 0 := by simp at hc1; omega
         refine Seg.by (by kernel_rfl) ?_;exact ⟨m, hput (up_done hup (.inl hp0)), by refine Weak.ba (sg 0 [_,_,_,_,_,_,_,_,_])⟩
       ·have hc6 : mayB N2 G2 x = false := hc6;exact ⟨(sub2, m2), ⟨hsub2, hm24, by dsimp only; omega, hH2, hr2, fun v hv => skip_may hxi (fun e => by rw [e, hc6] at hv; cases hv) (hmv2 v hv)⟩, by refine Weak.ba (sg 0 [_,_,_,_,_,_,_,_])⟩
      ·have hi3 : i = 2 := by simp at hc5; omega
       refine Next.by (st ++ [s], N2, G2, sub2, m2) ⟨hW2, hNl2, hrun2, by simp; omega, hsub2, hm24, by simp; omega, hH2, hr2, fun v hv => ?_⟩ (by simp; omega) (by refine Weak.ba (sg 0 [_,_,_,_,_,_,_]));rcases hmv2 v hv with h | ⟨h1, _⟩ | ⟨h1, _⟩
       ·exact h
       ·omega
       ·omega
     refine Pick.by (fun had => ?_) (fun had => ?_)
     ·have had : (stepF N out).2.2.2 = true := had;rw [if_pos had];rcases hs2 with ⟨_, _, _, e⟩ | ⟨_, _, _, _, e⟩ | ⟨a, b, hlv, hab, ea, eb, ec⟩
      ·rw [had] at e; cases e
      ·rw [had] at e; cases e
      have har := hrv.2 a (by rw [hlv]; simp);have hbr := hrv.2 b (by rw [hlv]; simp);have hra : (rowsI ((rowAt N out).foldl (cutF out) N))[a.toNat]? = some (ints ((rowAt N a).erase out)) := by
       have h1 := qgq (rowAt_mem (N := (rowAt N out).foldl (cutF out) N) har.1 (by rw [cuts_length]; exact har.2)).2;rw [hN1 a har.1] at h1;exact h1
      have hrb : (rowsI ((rowAt N out).foldl (cutF out) N))[b.toNat]? = some (ints ((rowAt N b).erase out)) := by
       have h1 := qgq (rowAt_mem (N := (rowAt N out).foldl (cutF out) N) hbr.1 (by rw [cuts_length]; exact hbr.2)).2;rw [hN1 b hbr.1] at h1;exact h1
      have hok : ∀ u, ((rowAt N u).erase out).Pairwise (· <= ·) /\ ((rowAt N u).erase out).length <= 1000000 := fun u => by
       have h1 := hW.rows u;have h2 := hW.row_len u;have h3 := List.length_erase_le (l := rowAt N u) (a := out);exact ⟨(erase_sorted h1.1).imp fun h => by omega, by omega⟩
      rw [ea, eb];have hj : rowsI (joinF (joinF ((rowAt N out).foldl (cutF out) N) a b) b a) = ((rowsI ((rowAt N out).foldl (cutF out) N)).set a.toNat (ints (insAt ((rowAt N a).erase out) b))).set b.toNat (ints (insAt ((rowAt N b).erase out) a)) := by
       have e1 : rowAt (joinF ((rowAt N out).foldl (cutF out) N) a b) b = (rowAt N b).erase out := by
        unfold joinF;rw [rowAt_set har.1 (by rw [cuts_length]; exact har.2) hbr.1, if_neg (by omega), hN1 b hbr.1]
       show rowsI ((joinF ((rowAt N out).foldl (cutF out) N) a b).set b.toNat (insAt (rowAt (joinF ((rowAt N out).foldl (cutF out) N) a b) b) a)) = _
       rw [e1, rowsI_set];unfold joinF;rw [rowsI_set, hN1 a har.1]
      have hma : (rowsI ((rowAt N out).foldl (cutF out) N)).set a.toNat (ints (insAt ((rowAt N a).erase out) b)) ≠ [] \/ True := .inr trivial;have hl3 : ((rowsI ((rowAt N out).foldl (cutF out) N)).set a.toNat (ints (insAt ((rowAt N a).erase out) b))).length = N.length := by rw [List.length_set, hl1]
      have hrb2 : ((rowsI ((rowAt N out).foldl (cutF out) N)).set a.toNat (ints (insAt ((rowAt N a).erase out) b)))[b.toNat]? = some (ints ((rowAt N b).erase out)) := by rw [qNq (by omega)]; exact hrb
      refine Idx.by a.toNat (by omega) (by omega) ?_;refine Pick.T (by rw [hl1]; simp; omega) ?_;refine Look.by _ hra ?_;refine Call.by _ _ (turnC_at (hok a)) ?_;refine Idx.by a.toNat (by omega) (by omega) ?_;refine Pick.T (by rw [hl1]; simp; omega) ?_;refine Pick.T (by simp) ?_;refine Seg.by (by kernel_rfl) ?_;refine Idx.by b.toNat (by omega) (by omega) ?_;refine Pick.T (by rw [hl3]; simp; omega) ?_;refine Look.by _ hrb2 ?_;refine Call.by _ _ (turnC_at (hok b)) ?_;refine Idx.by b.toNat (by omega) (by omega) ?_;refine Pick.T (by rw [hl3]; simp; omega) ?_;refine Pick.T (by simp) ?_;refine Seg.by (by kernel_rfl) ?_;exact ⟨(), trivial, by refine Weak.bw (sg 0 [_,_,_,_,_,_,_,_,_,_]) (by ((repeat' first|exact rfl|exact trivial|apply And.intro) <;> (repeat' first|exact rfl|exact trivial|apply And.intro)); all_goals ((exact hj)))⟩
     ·have had : (stepF N out).2.2.2 = false := had;rw [if_neg (by rw [had]; simp)];exact ⟨(), trivial, by refine Weak.ba (sg 0 [_,_,_,_,_,_,_,_,_,_])⟩
    refine LoopP.intro (α := Nat × List Int) (fun a => Sift l out last a.2 a.1 /\ a.1 <= last /\ a.2.length = m.length) (fun a => last + 1 - a.1) (fun a => [(0, .ptr 4 0), (3, .sl 5 none (some (0, last))), (4, .s (.i .i64 out)), (5, .s (.i .i64 last)), (6, .s (.i .i64 a.1)), (1000002, .ptr 0 0), (1000003, .ptr 1 0), (1000004, .ptr 4 0), (1000006, .sl 6 none none)])
     (fun a => [(0, some (.blk [.nils, .nils, .nils])), (1, some (.blk [.sl 2 none none, .sl 3 none none])), (2, some (.nest true 1 (rowsI N) [] [])), (3, some (.flat true 1 (bools G))), (4, some (.blk [.sl 5 none none])), (5, some (.flat true 1 (ints a.2))), (6, some (.flat true 4 (stps st)))]) 7 (0, m.set 0 top) ⟨hsift, by dsimp only; omega, by rw [List.length_set]⟩ (by refine Weak.bw (sg 0 [_,_,_,_,_,_,_]) (by ((repeat' first|exact rfl|exact trivial|apply And.intro) <;> (repeat' first|exact rfl|exact trivial|apply And.intro)); all_goals ((first | (rw [ints_set]; rfl) | (exact sc_eq hlast.symm))))) ?_
    rintro ⟨i, c⟩ ⟨hsf, hil, hcm⟩;dsimp only at hsf hil hcm ⊢;refine Pick.n ?_;refine Pick.n ?_;refine Pick.by (fun hc1 => ?_) (fun hc1 => ?_)
    ·have hch : 2 * i + 1 < last := by simp at hc1; omega
     obtain ⟨x, hx⟩ : ∃ x, c[i]? = some x := ⟨_, qEq (by have := hsf.len; omega)⟩;obtain ⟨y1, hy1⟩ : ∃ y, c[2 * i + 1]? = some y := ⟨_, qEq (by have := hsf.len; omega)⟩;refine Pick.n ?_;refine Pick.n ?_;refine Pick.n ?_;have hk1 : (2 * (i : Int) + 1) = ((2 * i + 1 : Nat) : Int) := by omega
     have hk2 : (2 * (i : Int) + 1 + 1) = ((2 * i + 2 : Nat) : Int) := by omega
     have hjoin : ∀ k, (k = 2 * i + 1 \/ k = 2 * i + 2) -> k < last -> (∀ y, c[k]? = some y -> ∀ t z, 0 < t -> (t - 1) / 2 = i -> t < last -> c[t]? = some z -> y <= z) -> (k = 2 * i + 1 \/ k = 2 * i + 2) /\ k < last /\ ∀ y, c[k]? = some y -> ∀ t z, 0 < t -> (t - 1) / 2 = i -> t < last -> c[t]? = some z -> y <= z := fun k a b d => ⟨a, b, d⟩
     refine Pick.by (fun hc2 => ?_) (fun hc2 => ?_)
     ·have hch2 : 2 * i + 2 < last := by simp at hc2; omega
      obtain ⟨y2, hy2⟩ : ∃ y, c[2 * i + 2]? = some y := ⟨_, qEq (by have := hsf.len; omega)⟩;refine Pick.n ?_;refine Idx.by (2 * i + 2) (by omega) (by omega) ?_;refine Look.by _ (by rw [Nat.zero_add]; exact qhq hy2) ?_;refine Idx.by (2 * i + 1) (by omega) (by omega) ?_;refine Look.by _ (by rw [Nat.zero_add]; exact qhq hy1) ?_;refine Seg.by (by kernel_rfl) ?_;refine JoinP.intro (α := Nat) (fun k => (k = 2 * i + 1 \/ k = 2 * i + 2) /\ k < last /\ ∀ y, c[k]? = some y -> ∀ t z, 0 < t -> (t - 1) / 2 = i -> t < last -> c[t]? = some z -> y <= z) (fun k => [(0, .ptr 4 0), (3, .sl 5 none (some (0, last))), (4, .s (.i .i64 out)), (5, .s (.i .i64 last)), (6, .s (.i .i64 i)), (7, .s (.i .i64 k)), (1000002, .ptr 0 0), (1000003, .ptr 1 0), (1000004, .ptr 4 0), (1000006, .sl 6 none none)])
       (fun k => [(0, some (.blk [.nils, .nils, .nils])), (1, some (.blk [.sl 2 none none, .sl 3 none none])), (2, some (.nest true 1 (rowsI N) [] [])), (3, some (.flat true 1 (bools G))), (4, some (.blk [.sl 5 none none])), (5, some (.flat true 1 (ints c))), (6, some (.flat true 4 (stps st)))]) 7 ?_ ?_
      rotate_left
      ·rintro k ⟨hkk, hkl, hM⟩;obtain ⟨y, hy⟩ : ∃ y, c[k]? = some y := ⟨_, qEq (by have := hsf.len; omega)⟩;have hmin := hM y hy;refine Idx.by i rfl (by omega) ?_;refine Look.by _ (by rw [Nat.zero_add]; exact qhq hx) ?_;refine Idx.by k rfl (by omega) ?_;refine Look.by _ (by rw [Nat.zero_add]; exact qhq hy) ?_;refine Seg.by (by kernel_rfl) ?_;refine Pick.by (fun hc4 => ?_) (fun hc4 => ?_)
       ·have hle : x <= y := by simpa using hc4
        refine ⟨c, ⟨hcm, hsf.len, hsf.perm, sift_done hsf fun t u v ht htp hu hv => ?_⟩, by refine Weak.ba (sg 0 [_,_,_,_,_,_,_])⟩;have htk : t < last := by
         have := (qSq.1 hv).1;rw [List.length_take] at this;omega
        rw [tk_get (by omega), hx] at hu;injection hu with hu
        have := hmin t v ht htp htk (by rw [<- tk_get htk]; exact hv);omega
       ·have hlt : y < x := by simpa using hc4
        refine Idx.by k rfl (by omega) ?_;refine Look.by _ (by rw [Nat.zero_add]; exact qhq hy) ?_;refine Idx.by i rfl (by omega) ?_;refine Look.by _ (by rw [Nat.zero_add]; exact qhq hx) ?_;refine Idx.by i rfl (by omega) ?_;refine Look.by _ (by rw [Nat.zero_add]; exact qhq hx) ?_;refine Idx.by k rfl (by omega) ?_;refine Look.by _ (by rw [Nat.zero_add, Nat.zero_add, qNq (by omega)]; exact qhq hy) ?_;refine Seg.by (by kernel_rfl) ?_;refine Next.by (k, (c.set i y).set k x) ⟨sift_step hsf (by omega) (by omega) hkl hx hy hlt hmin, by dsimp only; omega, by rw [List.length_set, List.length_set]; exact hcm⟩ (by dsimp only; omega) (by refine Weak.bw (sg 0 [_,_,_,_,_,_,_]) (by ((repeat' first|exact rfl|exact trivial|apply And.intro) <;> (repeat' first|exact rfl|exact trivial|apply And.intro)); all_goals ((rw [Nat.zero_add, Nat.zero_add, ints_set, ints_set]; rfl))))
      refine Pick.by (fun hc3 => ?_) (fun hc3 => ?_)
      ·have hlt2 : y2 < y1 := by simpa using hc3
       refine Pick.n ?_;refine ⟨2 * i + 2, hjoin _ (.inr rfl) hch2 fun y hy t z ht htp htl hz => ?_, by refine Weak.bw (sg 0 [_,_,_,_,_,_,_]) (by ((repeat' first|exact rfl|exact trivial|apply And.intro) <;> (repeat' first|exact rfl|exact trivial|apply And.intro)); all_goals ((exact sc_eq hk2.symm)))⟩;have : t = 2 * i + 1 \/ t = 2 * i + 2 := by omega
       rcases this with rfl | rfl
       ·rw [hy2] at hy; rw [hy1] at hz; injection hy with hy; injection hz with hz; omega
       ·rw [hy] at hz; injection hz with hz; omega
      ·have hlt2 : ¬ y2 < y1 := by simpa using hc3
       refine ⟨2 * i + 1, hjoin _ (.inl rfl) hch fun y hy t z ht htp htl hz => ?_, by refine Weak.bw (sg 0 [_,_,_,_,_,_,_]) (by ((repeat' first|exact rfl|exact trivial|apply And.intro) <;> (repeat' first|exact rfl|exact trivial|apply And.intro)); all_goals ((exact sc_eq hk1.symm)))⟩;have : t = 2 * i + 1 \/ t = 2 * i + 2 := by omega
       rcases this with rfl | rfl
       ·rw [hy] at hz; injection hz with hz; omega
       ·rw [hy1] at hy; rw [hy2] at hz; injection hy with hy; injection hz with hz; omega
     ·have hch2 : ¬ 2 * i + 2 < last := by simp at hc2; omega
      refine Seg.by (by kernel_rfl) ?_;refine JoinP.intro (α := Nat) (fun k => (k = 2 * i + 1 \/ k = 2 * i + 2) /\ k < last /\ ∀ y, c[k]? = some y -> ∀ t z, 0 < t -> (t - 1) / 2 = i -> t < last -> c[t]? = some z -> y <= z) (fun k => [(0, .ptr 4 0), (3, .sl 5 none (some (0, last))), (4, .s (.i .i64 out)), (5, .s (.i .i64 last)), (6, .s (.i .i64 i)), (7, .s (.i .i64 k)), (1000002, .ptr 0 0), (1000003, .ptr 1 0), (1000004, .ptr 4 0), (1000006, .sl 6 none none)])
       (fun k => [(0, some (.blk [.nils, .nils, .nils])), (1, some (.blk [.sl 2 none none, .sl 3 none none])), (2, some (.nest true 1 (rowsI N) [] [])), (3, some (.flat true 1 (bools G))), (4, some (.blk [.sl 5 none none])), (5, some (.flat true 1 (ints c))), (6, some (.flat true 4 (stps st)))]) 7 ?_ ?_
      rotate_left
      ·rintro k ⟨hkk, hkl, hM⟩;obtain ⟨y, hy⟩ : ∃ y, c[k]? = some y := ⟨_, qEq (by have := hsf.len; omega)⟩;have hmin := hM y hy;refine Idx.by i rfl (by omega) ?_;refine Look.by _ (by rw [Nat.zero_add]; exact qhq hx) ?_;refine Idx.by k rfl (by omega) ?_;refine Look.by _ (by rw [Nat.zero_add]; exact qhq hy) ?_;refine Seg.by (by kernel_rfl) ?_;refine Pick.by (fun hc4 => ?_) (fun hc4 => ?_)
       ·have hle : x <= y := by simpa using hc4
        refine ⟨c, ⟨hcm, hsf.len, hsf.perm, sift_done hsf fun t u v ht htp hu hv => ?_⟩, by refine Weak.ba (sg 0 [_,_,_,_,_,_,_])⟩;have htk : t < last := by
         have := (qSq.1 hv).1;rw [List.length_take] at this;omega
        rw [tk_get (by omega), hx] at hu;injection hu with hu
        have := hmin t v ht htp htk (by rw [<- tk_get htk]; exact hv);omega
       ·have hlt : y < x := by simpa using hc4
        refine Idx.by k rfl (by omega) ?_;refine Look.by _ (by rw [Nat.zero_add]; exact qhq hy) ?_;refine Idx.by i rfl (by omega) ?_;refine Look.by _ (by rw [Nat.zero_add]; exact qhq hx) ?_;refine Idx.by i rfl (by omega) ?_;refine Look.by _ (by rw [Nat.zero_add]; exact qhq hx) ?_;refine Idx.by k rfl (by omega) ?_;refine Look.by _ (by rw [Nat.zero_add, Nat.zero_add, qNq (by omega)]; exact qhq hy) ?_;refine Seg.by (by kernel_rfl) ?_;refine Next.by (k, (c.set i y).set k x) ⟨sift_step hsf (by omega) (by omega) hkl hx hy hlt hmin, by dsimp only; omega, by rw [List.length_set, List.length_set]; exact hcm⟩ (by dsimp only; omega) (by refine Weak.bw (sg 0 [_,_,_,_,_,_,_]) (by ((repeat' first|exact rfl|exact trivial|apply And.intro) <;> (repeat' first|exact rfl|exact trivial|apply And.intro)); all_goals ((rw [Nat.zero_add, Nat.zero_add, ints_set, ints_set]; rfl))))
      refine ⟨2 * i + 1, hjoin _ (.inl rfl) hch fun y hy t z ht htp htl hz => ?_, by refine Weak.bw (sg 0 [_,_,_,_,_,_,_]) (by ((repeat' first|exact rfl|exact trivial|apply And.intro) <;> (repeat' first|exact rfl|exact trivial|apply And.intro)); all_goals ((exact sc_eq hk1.symm)))⟩;have : t = 2 * i + 1 := by omega
      rw [this, hy] at hz; injection hz with hz; omega
    ·have hch : ¬ 2 * i + 1 < last := by simp at hc1; omega
     refine ⟨c, ⟨hcm, hsf.len, hsf.perm, sift_done hsf fun t u v ht htp hu hv => ?_⟩, by refine Weak.ba (sg 0 [_,_,_,_,_,_,_])⟩;have := (qSq.1 hv).1;rw [List.length_take] at this;omega
   ·have hz : l.length = 0 := by rw [qiq, hlm] at hc; simpa using hc
    have hno : ∀ u, mayB N G u ≠ true := fun u hu => by
     have := hm u hu;rw [List.eq_nil_of_length_eq_zero hz] at this;simp at this
    rw [runS_end (firstMay_none hno), List.append_nil] at hrun;rw [hrun];have hst4 : st.length <= 1000 := by omega
    have hGN := hW.len;have hmo := hW.most;have hNL := qrq N;refine LoopP.intro (α := Nat) (fun j => j <= N.length) (fun j => N.length - j) (fun j => [(2, .ptr 2 0), (4, .ptr 1 0), (5, .ptr 3 0), (13, .sl 4 none none), (14, .s (.i .i64 N.length)), (15, .s (.i .i64 j)), (1000002, .ptr 0 0)])
     (fun j => [(0, some (.blk [.nils, .nils, .nils])), (1, some (.blk [.nils, .nils, .nils])), (2, some (.blk [.sl 4 none none, .sl 5 none none])), (3, some (.blk [.sl 6 none none, .sl 7 none none, .sl 8 none none])), (4, some (.nest true 1 (rowsI N) [] [])), (5, some (.flat true 1 (bools G))), (6, some (.flat true 4 (stps st))), (7, some (.flat true 1 (ints (leftK G j)))), (8, some (.flat true 2 (edges (edgesK N G j))))]) 9 0 (by omega) (by refine Weak.bw [(0, some _), (1, some _), (2, some _), (3, some _), (4, some _), (5, some _), (6, some _), (7, none), (8, none)] (by ((repeat' first|exact rfl|exact trivial|apply And.intro) <;> (repeat' first|exact rfl|exact trivial|apply And.intro)); all_goals ((first | (rw [hNL]; rfl) | done)))) ?_
    rintro j hj;have hlk := leftK_len G j;have hek := edgesK_len hW j;refine Pick.by (fun hd1 => ?_) (fun hd1 => ?_)
    ·have hjl : j < N.length := by simpa using hd1
     have hgj : (bools G)[j]? = some [.b (G.getD j false)] := by
      refine bools_get ?_;rw [qDq, qEq (by omega)]; rfl
     have hrj : (rowsI N)[j]? = some (ints (rowAt N j)) := by
      have := (rowAt_mem (N := N) (v := (j : Int)) (by omega) (by omega)).2;exact qgq this
     have hrl := hW.row_len (j : Int);refine Idx.by j rfl (by omega) ?_;refine Pick.T (by rw [hNL]; simp; omega) ?_;refine Idx.by j rfl (by rw [bools_length]; omega) ?_;refine Look.by _ hgj ?_;refine Pick.by (fun hd2 => ?_) (fun hd2 => ?_)
     ·have hd2 : G.getD j false = true := hd2;refine Pick.n ?_;refine Next.by (j + 1) (by omega) (by omega) (by refine Weak.bw (sg 0 [_,_,_,_,_,_,_,_,_]) (by ((repeat' first|exact rfl|exact trivial|apply And.intro) <;> (repeat' first|exact rfl|exact trivial|apply And.intro)); all_goals ((first | (rw [leftK_succ, if_pos hd2, List.append_nil]) | (rw [edgesK_succ, if_pos hd2, List.append_nil])))))
     have hd2 : G.getD j false = false := hd2;have hl1 : leftK G (j + 1) = leftK G j ++ [(j : Int)] := by rw [leftK_succ, if_neg (by rw [hd2]; simp)]
     have he1 : edgesK N G (j + 1) = edgesK N G j ++ outE N j := by rw [edgesK_succ, if_neg (by rw [hd2]; simp)]
     refine Pick.T (by simp [cut, qiq]; omega) ?_;refine Look.by _ hrj ?_;refine LoopP.intro (α := Nat) (fun k => k <= (rowAt N j).length) (fun k => (rowAt N j).length - k) (fun k => [(2, .ptr 2 0), (4, .ptr 1 0), (5, .ptr 3 0), (6, .s (.i .i64 j)), (13, .sl 4 none none), (14, .s (.i .i64 N.length)), (15, .s (.i .i64 j)), (31, .sl 4 (some (j, 0)) none), (32, .s (.i .i64 (rowAt N j).length)), (33, .s (.i .i64 k)), (1000002, .ptr 0 0)])
      (fun k => [(0, some (.blk [.nils, .nils, .nils])), (1, some (.blk [.nils, .nils, .nils])), (2, some (.blk [.sl 4 none none, .sl 5 none none])), (3, some (.blk [.sl 6 none none, .sl 7 none none, .sl 8 none none])), (4, some (.nest true 1 (rowsI N) [] [])), (5, some (.flat true 1 (bools G))), (6, some (.flat true 4 (stps st))), (7, some (.flat true 1 (ints (leftK G (j + 1))))), (8, some (.flat true 2 (edges (edgesK N G j ++ (((rowAt N j).take k).filter fun x => decide (x > (j : Int))).map fun x => ((j : Int), x)))))]) 9 0 (by omega) (by refine Weak.bw (sg 0 [_,_,_,_,_,_,_,_,_]) (by ((repeat' first|exact rfl|exact trivial|apply And.intro) <;> (repeat' first|exact rfl|exact trivial|apply And.intro)); all_goals ((first | (rw [hl1, ints_snoc]; rfl) | (rw [List.take_zero]; simp; done) | (rw [qiq]; rfl) | (simp; done))))) ?_
     rintro k hk;have hpl : ((((rowAt N j).take k).filter fun x => decide (x > (j : Int))).map fun x => ((j : Int), x)).length <= 1000 := by
      rw [List.length_map];refine Nat.le_trans (List.length_filter_le _ _) ?_;rw [List.length_take]; omega
     refine Pick.by (fun hd3 => ?_) (fun hd3 => ?_)
     ·have hkl : k < (rowAt N j).length := by simpa using hd3
      obtain ⟨x, hx⟩ : ∃ x, (rowAt N j)[k]? = some x := ⟨_, qEq hkl⟩;have hxe : (rowAt N j)[k] = x := by rw [qEq hkl] at hx; injection hx
      refine Look.by _ hrj ?_;refine Idx.by k rfl (by rw [qiq]; exact hkl) ?_;refine Look.by _ hrj ?_;refine Look.by _ (qhq hx) ?_;refine Pick.by (fun hd4 => ?_) (fun hd4 => ?_)
      ·have hd4 : x > (j : Int) := by simpa using hd4
       refine Pick.T (by simp [cut, qeq] at hpl ⊢; omega) ?_;refine Pick.n ?_;refine Next.by (k + 1) (by omega) (by omega) (by refine Weak.bw (sg 0 [_,_,_,_,_,_,_,_,_]) (by ((repeat' first|exact rfl|exact trivial|apply And.intro) <;> (repeat' first|exact rfl|exact trivial|apply And.intro)); all_goals ((first | (rw [qTq hkl, hxe, List.filter_append, List.map_append, List.filter_cons, if_pos (by simpa using hd4), List.filter_nil, <- List.append_assoc]; exact edges_snoc _ _) | (simp; done)))))
      ·have hd4 : ¬ x > (j : Int) := by simpa using hd4
       refine Pick.n ?_;refine Next.by (k + 1) (by omega) (by omega) (by refine Weak.bw (sg 0 [_,_,_,_,_,_,_,_,_]) (by ((repeat' first|exact rfl|exact trivial|apply And.intro) <;> (repeat' first|exact rfl|exact trivial|apply And.intro)); all_goals ((first | (rw [qTq hkl, hxe, List.filter_append, List.map_append, List.filter_cons, if_neg (by simpa using hd4), List.filter_nil, List.map_nil, List.append_nil]) | (simp; done)))))
     ·have hkl : k = (rowAt N j).length := by simp at hd3; omega
      have hfull : edgesK N G (j + 1) = edgesK N G j ++ (((rowAt N j).take k).filter fun x => decide (x > (j : Int))).map fun x => ((j : Int), x) := by rw [he1, hkl, List.take_length]; rfl
      refine Pick.n ?_;refine Next.by (j + 1) (by omega) (by omega) (by refine Weak.bw (sg 0 [_,_,_,_,_,_,_,_,_]) (by ((repeat' first|exact rfl|exact trivial|apply And.intro) <;> (repeat' first|exact rfl|exact trivial|apply And.intro)); all_goals ((rw [hfull]))))
    have hjl : j = N.length := by simp at hd1; omega
    subst hjl;have e1 : leftF G = leftK G N.length := by unfold leftF leftK; rw [hGN]
    have e2 : edgesF N G = edgesK N G N.length := by unfold edgesF edgesK; rw [e1]
    refine ⟨rfl, ?_⟩
    (repeat' first|exact rfl|exact trivial|apply And.intro)
    all_goals (first | exact congrArg ints e1 | exact congrArg edges e2)
  ·have hlm : m.take L = cut (some (0, L)) m := rfl;generalize cut (some (0, L)) m = l at *
   have hLl : l.length = L := by rw [<- hlm, List.length_take]; omega
   have hget : ∀ j, j < L -> l[j]? = m[j]? := fun j hj => by rw [<- hlm, List.getElem?_take, if_pos hj]
   refine Pick.by (fun hc => ?_) (fun hc => ?_)
   ·have hpos : 0 < l.length := by rw [hLl]; simpa using hc
    obtain ⟨out, hout⟩ : ∃ a, l[0]? = some a := ⟨_, qEq hpos⟩;obtain ⟨last, hlst⟩ : ∃ k, l.length = k + 1 := ⟨l.length - 1, by omega⟩;obtain ⟨top, htop⟩ : ∃ a, l[last]? = some a := ⟨_, qEq (by omega)⟩;have hlast : (L : Int) - 1 = (last : Int) := by omega
    have hout2 : m[0]? = some out := by rw [<- hget 0 (by omega)]; exact hout
    have htop2 : m[last]? = some top := by rw [<- hget last (by omega)]; exact htop
    have hsift : Sift l out last (m.set 0 top) 0 := by
     have e : (m.set 0 top).take last = (l.set 0 top).take last := by
      rw [<- hlm, List.take_set, List.take_set, List.take_take, Nat.min_eq_left (by omega)]
     exact ⟨by rw [List.length_set]; omega, by rw [e]; exact take_perm hout htop hlst, by rw [e]; exact dn_start hH _⟩
    refine Idx.by 0 rfl (by omega) ?_;refine Look.by _ (qhq hout2) ?_;refine Pick.T (by rw [hlast]; exact inI64_of (by omega) (by omega)) ?_;refine Idx.by last hlast (by omega) ?_;refine Look.by _ (by rw [Nat.zero_add]; exact qhq htop2) ?_;refine Idx.by 0 rfl (by omega) ?_;refine Look.by _ (qhq hout2) ?_;refine Rng.by 0 last rfl hlast (by omega) (by omega) ?_;refine JoinP.intro (α := List Int) (fun c => c.length = m.length /\ last <= c.length /\ (out :: c.take last).Perm l /\ Heap (c.take last)) (fun c => [(0, .ptr 4 0), (3, .sl 5 none (some (0, last))), (4, .s (.i .i64 out)), (1000002, .ptr 0 0), (1000003, .ptr 1 0), (1000004, .ptr 4 0), (1000006, .sl 6 none none)])
     (fun c => [(0, some (.blk [.nils, .nils, .nils])), (1, some (.blk [.sl 2 none none, .sl 3 none none])), (2, some (.nest true 1 (rowsI N) [] [])), (3, some (.flat true 1 (bools G))), (4, some (.blk [.sl 5 none (some (0, L))])), (5, some (.flat true 1 (ints c))), (6, some (.flat true 4 (stps st)))]) 7 ?_ ?_
    rotate_left
    ·rintro c ⟨hcm, hlc, hperm, hHc⟩;have hGN := hW.len;have hq0 : ∀ v, v ∈ c.take last -> v ∈ l := fun v hv => hperm.mem_iff.1 (List.mem_cons_of_mem _ hv)
     have hq1 : ∀ v, v ∈ l -> v = out \/ v ∈ c.take last := fun v hv => by simpa using hperm.mem_iff.2 hv
     have hqr : ∀ v ∈ c.take last, 0 <= v /\ v < n := fun v hv => hr v (hq0 v hv)
     have hqc : cut (some (0, last)) c = c.take last := rfl;have hqlen : (c.take last).length = last := by rw [List.length_take]; omega
     have hor := hr out (qMq hout);refine Call.by _ _ (MayC_at out hGN) ?_;refine Pick.by (fun hmy => ?_) (fun hmy => ?_)
     ·have hmy : mayB N G out = false := by have hmy : (!mayB N G out) = true := hmy; simpa using hmy
      refine Next.by (st, N, G, some (0, last), c) ⟨hW, hNl, hrun, hlive, .inr ⟨last, rfl, hlc⟩, by dsimp only; omega, by dsimp only; rw [hqc]; omega, hHc, hqr, fun v hv => ?_⟩ (by dsimp only; rw [hqc]; omega) (by refine Weak.ba (sg 0 [_,_,_,_,_,_,_]));rcases hq1 v (hm v hv) with e | e
      ·rw [e, hmy] at hv; cases hv
      ·exact e
     have hmy : mayB N G out = true := by have hmy : (!mayB N G out) = false := hmy; simpa using hmy
     have hmp := mayB_iff.1 hmy;obtain ⟨hs1, hs2⟩ := step_two hW hmp rfl;refine Call.by _ _ (StepC_at ⟨hW, hmp.lo, hmp.hi⟩) ?_;have hlo := hmp.lo;have hhi := hmp.hi;have hrv := hW.rows out;have hnd : (rowAt N out).Nodup := hrv.1.imp fun hab => by omega
     have hNL := qrq N;have hmo := hW.most;have hrl := hW.row_len out;have hgv : (rowsI N)[(out).toNat]? = some (ints (rowAt N out)) := qgq (rowAt_mem hlo hhi).2;have hvv : out ∉ rowAt N out := hW.irr out hlo;have hpart : ∀ (di : Nat) (u : Int), 0 <= u -> rowAt (((rowAt N out).take di).foldl (cutF out) N) u = if u ∈ (rowAt N out).take di then (rowAt N u).erase out else rowAt N u := fun di u hu => cuts_row (hnd.sublist (List.take_sublist _ _)) (fun x hx => hrv.2 x (List.mem_of_mem_take hx)) hu
     have hplen : ∀ di : Nat, (rowsI (((rowAt N out).take di).foldl (cutF out) N)).length = N.length := fun di => by rw [qrq, cuts_length]
     have hpget : ∀ (di : Nat) (u : Int), 0 <= u -> u < N.length -> (rowsI (((rowAt N out).take di).foldl (cutF out) N))[u.toNat]? = some (ints (rowAt (((rowAt N out).take di).foldl (cutF out) N) u)) := fun di u h0 h1 => qgq (rowAt_mem h0 (by rw [cuts_length]; exact h1)).2
     refine Idx.by (out).toNat (by show (out : Int) = _; omega) (by omega) ?_;refine Pick.T (by rw [hNL]; simp; omega) ?_;refine Look.by _ hgv ?_;refine LoopP.intro (α := Nat) (fun di => di <= (rowAt N out).length) (fun di => (rowAt N out).length - di) (fun di => [(2, .ptr 8 0), (3, .ptr 9 0), (11, .sl 2 (some ((out).toNat, 0)) none), (12, .s (.i .i64 (rowAt N out).length)), (13, .s (.i .i64 di)), (1000002, .ptr 0 0), (1000003, .ptr 1 0), (1000004, .ptr 4 0), (1000006, .sl 6 none none), (1000008, .ptr 7 0)])
      (fun di => [(0, some (.blk [.nils, .nils, .nils])), (1, some (.blk [.sl 2 none none, .sl 3 none none])), (4, some (.blk [.sl 5 none (some (0, last))])), (5, some (.flat true 1 (ints c))), (6, some (.flat true 4 (stps st))), (7, some (.blk [.s (.i .i64 (stepF N out).1), .s (.i .i64 (stepF N out).2.1), .s (.i .i64 (stepF N out).2.2.1), .s (.b (stepF N out).2.2.2)])), (2, some (.nest true 1 (rowsI (((rowAt N out).take di).foldl (cutF out) N)) [] [])), (3, some (.flat true 1 (bools G))), (8, some (.blk [.sl 2 none none, .sl 3 none none])), (9, some (.blk [.s (.i .i64 (stepF N out).1), .s (.i .i64 (stepF N out).2.1), .s (.i .i64 (stepF N out).2.2.1), .s (.b (stepF N out).2.2.2)]))]) 10 0 (by omega) (by refine Weak.bw (sg 0 [_,_,_,_,_,_,_,_,_,_]) (by ((repeat' first|exact rfl|exact trivial|apply And.intro) <;> (repeat' first|exact rfl|exact trivial|apply And.intro)); all_goals ((first | (rw [qiq]; rfl) | (simp; done))))) ?_
     rintro di hi;refine Pick.by (fun hc1 => ?_) (fun hc1 => ?_)
     ·have hil : di < (rowAt N out).length := by simpa using hc1
      obtain ⟨x, hx⟩ : ∃ x, (rowAt N out)[di]? = some x := ⟨_, qEq hil⟩;have hxm := qMq hx;have hxr := hrv.2 x hxm;have hxv : x ≠ out := fun e => hvv (e ▸ hxm)
      have hgi : (rowsI (((rowAt N out).take di).foldl (cutF out) N))[(out).toNat]? = some (ints (rowAt N out)) := by
       rw [hpget di out hlo hhi, hpart di out hlo, if_neg fun h => hvv (List.mem_of_mem_take h)]
      have hrx := hpget di x hxr.1 hxr.2;have hstp : ((rowAt N out).take (di + 1)).foldl (cutF out) N = cutF out (((rowAt N out).take di).foldl (cutF out) N) x := by
       rw [qTq hil, List.foldl_append];have : (rowAt N out)[di] = x := by rw [qEq hil] at hx; injection hx
       rw [this]; rfl
      have hwx : (rowAt (((rowAt N out).take di).foldl (cutF out) N) x).Pairwise (· <= ·) /\ (rowAt (((rowAt N out).take di).foldl (cutF out) N) x).length <= 1000000 := by
       have h1 := hW.rows x;have h2 := hW.row_len x;rw [hpart di x hxr.1];split
       ·have h3 := List.length_erase_le (l := rowAt N x) (a := out);exact ⟨(erase_sorted h1.1).imp fun h => by omega, by omega⟩
       ·exact ⟨h1.1.imp fun h => by omega, by omega⟩
      have hpl := hplen di;refine Look.by _ hgi ?_;refine Idx.by di rfl (by rw [qiq]; exact hil) ?_;refine Look.by _ hgi ?_;refine Look.by _ (qhq hx) ?_;refine Idx.by x.toNat (by omega) (by omega) ?_;refine Pick.T (by rw [hpl]; simp; omega) ?_;refine Look.by _ hrx ?_;refine Call.by _ _ (turnC_at hwx) ?_;refine Idx.by x.toNat (by omega) (by omega) ?_;refine Pick.T (by rw [hpl]; simp; omega) ?_;refine Pick.T (by simp) ?_;refine Seg.by (by kernel_rfl) ?_;refine Pick.n ?_;refine Next.by (di + 1) (by omega) (by omega) (by refine Weak.bw (sg 0 [_,_,_,_,_,_,_,_,_,_]) (by ((repeat' first|exact rfl|exact trivial|apply And.intro) <;> (repeat' first|exact rfl|exact trivial|apply And.intro)); all_goals ((first | (rw [hstp]; unfold cutF; rw [rowsI_set]; rfl) | (simp; done) | (simp; omega)))))
     have hil : di = (rowAt N out).length := by simp at hc1; omega
     subst hil;rw [List.take_length];have hN1 : ∀ u : Int, 0 <= u -> rowAt ((rowAt N out).foldl (cutF out) N) u = (rowAt N u).erase out := fun u hu => by
      rw [cuts_row hnd hrv.2 hu];split
      ·rfl
      ·rename_i hno;rw [List.erase_of_not_mem];exact fun h => hno (hW.sym u out hu hlo h)
     have hl1 : (rowsI ((rowAt N out).foldl (cutF out) N)).length = N.length := by rw [qrq, cuts_length]
     refine JoinP.intro (α := Unit) (fun _ => True) (fun _ => [(2, .ptr 8 0), (3, .ptr 9 0), (1000002, .ptr 0 0), (1000003, .ptr 1 0), (1000004, .ptr 4 0), (1000006, .sl 6 none none), (1000008, .ptr 7 0)])
      (fun _ => [(0, some (.blk [.nils, .nils, .nils])), (1, some (.blk [.sl 2 none none, .sl 3 none none])), (4, some (.blk [.sl 5 none (some (0, last))])), (5, some (.flat true 1 (ints c))), (6, some (.flat true 4 (stps st))), (7, some (.blk [.s (.i .i64 (stepF N out).1), .s (.i .i64 (stepF N out).2.1), .s (.i .i64 (stepF N out).2.2.1), .s (.b (stepF N out).2.2.2)])), (2, some (.nest true 1 (rowsI (if (stepF N out).2.2.2 then joinF (joinF ((rowAt N out).foldl (cutF out) N) (stepF N out).2.1 (stepF N out).2.2.1) (stepF N out).2.2.1 (stepF N out).2.1 else (rowAt N out).foldl (cutF out) N)) [] [])), (3, some (.flat true 1 (bools G))), (8, some (.blk [.sl 2 none none, .sl 3 none none])), (9, some (.blk [.s (.i .i64 (stepF N out).1), .s (.i .i64 (stepF N out).2.1), .s (.i .i64 (stepF N out).2.2.1), .s (.b (stepF N out).2.2.2)]))]) 10 ?_ ?_
     rotate_left
     ·rintro ⟨⟩ -;have hl2 : (rowsI (if (stepF N out).2.2.2 then joinF (joinF ((rowAt N out).foldl (cutF out) N) (stepF N out).2.1 (stepF N out).2.2.1) (stepF N out).2.2.1 (stepF N out).2.1 else (rowAt N out).foldl (cutF out) N)).length = N.length := by
       rw [qrq];split
       ·rw [joinF_length, joinF_length, cuts_length]
       ·rw [cuts_length]
      have hdo : (rowsI (if (stepF N out).2.2.2 then joinF (joinF ((rowAt N out).foldl (cutF out) N) (stepF N out).2.1 (stepF N out).2.2.1) (stepF N out).2.2.1 (stepF N out).2.1 else (rowAt N out).foldl (cutF out) N)).set (out).toNat [] = rowsI (doN N (stepF N out)) := by
       unfold doN;rw [rowsI_set]; rfl
      have hdg : (bools G).set (out).toNat [.b true] = bools (doG G (stepF N out)) := by
       unfold doG bools;rw [List.map_set]; rfl
      generalize rowsI (if (stepF N out).2.2.2 then joinF (joinF ((rowAt N out).foldl (cutF out) N) (stepF N out).2.1 (stepF N out).2.2.1) (stepF N out).2.2.1 (stepF N out).2.1 else (rowAt N out).foldl (cutF out) N) = RR at hl2 hdo ⊢
      refine Idx.by (out).toNat (by show (out : Int) = _; omega) (by omega) ?_;refine Pick.T (by rw [hl2]; simp; omega) ?_;refine Idx.by (out).toNat (by show (out : Int) = _; omega) (by rw [bools_length, hW.len]; omega) ?_;refine Look.by _ (bools_get (goneAt_get hW.len hlo hhi)) ?_;refine Seg.by (by kernel_rfl) ?_;have hW2 := do_wf hW hmp;have hNl2 : (doN N (stepF N out)).length = n.toNat := by rw [doN_length]; exact hNl
      have hGN2 : (doG G (stepF N out)).length = (doN N (stepF N out)).length := hW2.len;have hlv := live_step hW hmp;have hst4 : st.length + 1 <= n.toNat := by omega
      have hrun2 := run_step hrun hW hmy hst4 (fun v hv => heap_least hHc hH hout hperm hm hv);have hmay2 : ∀ v, mayB (doN N (stepF N out)) (doG G (stepF N out)) v = true -> v ∈ c.take last \/ v = (stepF N out).2.1 \/ v = (stepF N out).2.2.1 := fun v hv => may_step hW hmp hs2 hv fun h2 hne => (hq1 v (hm v h2)).elim (fun e => absurd e hne) id
      generalize hN2 : doN N (stepF N out) = N2 at *
      generalize hG2 : doG G (stepF N out) = G2 at *
      generalize hsG : stepF N out = s at *
      refine Pick.T (by simp [cut, stps_length]; omega) ?_;refine LoopP.intro (α := Nat × Option (Nat × Nat) × List Int) (fun a => a.1 <= 2 /\ (a.2.1 = none \/ ∃ L, a.2.1 = some (0, L) /\ L <= a.2.2.length) /\ a.2.2.length <= 4000 /\ (cut a.2.1 a.2.2).length <= last + a.1 /\ Heap (cut a.2.1 a.2.2) /\ (∀ v ∈ cut a.2.1 a.2.2, 0 <= v /\ v < n) /\ ∀ v : Int, mayB N2 G2 v = true -> v ∈ cut a.2.1 a.2.2 \/ (a.1 <= 0 /\ v = s.2.1) \/ (a.1 <= 1 /\ v = s.2.2.1)) (fun a => 2 - a.1) (fun a => [(2, .ptr 0 0), (3, .ptr 1 0), (4, .ptr 4 0), (6, .sl 6 none none), (51, .sl 7 none none), (52, .s (.i .i64 2)), (53, .s (.i .i64 a.1))])
       (fun a => [(0, some (.blk [.nils, .nils, .nils])), (1, some (.blk [.sl 2 none none, .sl 3 none none])), (2, some (.nest true 1 (rowsI N2) [] [])), (3, some (.flat true 1 (bools G2))), (4, some (.blk [.sl 5 none a.2.1])), (5, some (.flat true 1 (ints a.2.2))), (6, some (.flat true 4 (stps (st ++ [s])))), (7, some (.flat true 1 (ints [s.2.1, s.2.2.1])))]) 8 (0, some (0, last), c)
       ⟨by dsimp only; omega, .inr ⟨last, rfl, hlc⟩, by dsimp only; omega, by dsimp only; rw [hqc]; omega, hHc, hqr, fun v hv => (hmay2 v hv).elim .inl fun h => h.elim (fun h => .inr (.inl ⟨by dsimp only; omega, h⟩)) fun h => .inr (.inr ⟨by dsimp only; omega, h⟩)⟩ (by refine Weak.bw (sg 0 [_,_,_,_,_,_,_,_]) (by ((repeat' first|exact rfl|exact trivial|apply And.intro) <;> (repeat' first|exact rfl|exact trivial|apply And.intro)); all_goals ((first | (exact stps_snoc st s) | (exact hdo.symm) | (exact hdg.symm))))) ?_
      rintro ⟨i, sub2, m2⟩ ⟨hi2, hsub2, hm24, hcl2, hH2, hr2, hmv2⟩;dsimp only at hi2 hsub2 hm24 hcl2 hH2 hr2 hmv2 ⊢;refine Pick.by (fun hc5 => ?_) (fun hc5 => ?_)
      ·have hi3 : i < 2 := by simp at hc5; omega
       obtain ⟨x, hx⟩ : ∃ x, [s.2.1, s.2.2.1][i]? = some x := ⟨_, qEq (show i < [s.2.1, s.2.2.1].length from hi3)⟩;have hxi : (i = 0 /\ x = s.2.1) \/ (i = 1 /\ x = s.2.2.1) := by
        have : i = 0 \/ i = 1 := by omega
        rcases this with e | e
        ·subst e; simp at hx; exact .inl ⟨rfl, hx.symm⟩
        ·subst e; simp at hx; exact .inr ⟨rfl, hx.symm⟩
       refine Idx.by i rfl (by rw [qiq]; exact hi3) ?_;refine Look.by _ (qhq hx) ?_;refine Call.by _ _ (MayC_at x hGN2) ?_;refine JoinP.intro (α := Option (Nat × Nat) × List Int) (fun b => (b.1 = none \/ ∃ L, b.1 = some (0, L) /\ L <= b.2.length) /\ b.2.length <= 4000 /\ (cut b.1 b.2).length <= last + i + 1 /\ Heap (cut b.1 b.2) /\ (∀ v ∈ cut b.1 b.2, 0 <= v /\ v < n) /\ ∀ v : Int, mayB N2 G2 v = true -> v ∈ cut b.1 b.2 \/ (i + 1 <= 0 /\ v = s.2.1) \/ (i + 1 <= 1 /\ v = s.2.2.1)) (fun b => [(2, .ptr 0 0), (3, .ptr 1 0), (4, .ptr 4 0), (6, .sl 6 none none), (51, .sl 7 none none), (52, .s (.i .i64 2)), (53, .s (.i .i64 i))])
        (fun b => [(0, some (.blk [.nils, .nils, .nils])), (1, some (.blk [.sl 2 none none, .sl 3 none none])), (2, some (.nest true 1 (rowsI N2) [] [])), (3, some (.flat true 1 (bools G2))), (4, some (.blk [.sl 5 none b.1])), (5, some (.flat true 1 (ints b.2))), (6, some (.flat true 4 (stps (st ++ [s])))), (7, some (.flat true 1 (ints [s.2.1, s.2.2.1])))]) 8 ?_ ?_
       rotate_left
       ·rintro ⟨sub3, m3⟩ hJ;refine Pick.n ?_;exact Next.by (i + 1, sub3, m3) ⟨by dsimp only; omega, hJ⟩ (by dsimp only; omega) (by refine Weak.ba (sg 0 [_,_,_,_,_,_,_,_]))
       refine Pick.by (fun hc6 => ?_) (fun hc6 => ?_)
       ·have hc6 : mayB N2 G2 x = true := hc6;have hxr2 : 0 <= x /\ x < n := may_range hNl2 hc6;have hH := hH2;refine Pick.T (by simp [cut, qiq]; omega) ?_;have hraw : cut sub2 (ints m2) = ints (cut sub2 m2) := cut_ints;have hlen0 : (cut sub2 (ints m2) ++ [[Sc.i .i64 x]]) = ints ((cut sub2 m2) ++ [x]) := by rw [hraw, ints_snoc]
        refine Pick.T (by show inI64 ((((cut sub2 (ints m2) ++ [[Sc.i .i64 x]]).length : Nat) : Int) - 1) = true; rw [hlen0, qiq]; simp; exact inI64_of (by omega) (by omega)) ?_;have hlen1 : (((cut sub2 m2).length : Nat) : Int) = (((cut sub2 (ints m2) ++ [[Sc.i .i64 x]]).length : Nat) : Int) - 1 := by rw [hlen0, qiq]; simp
        refine JoinP.intro (α := List Int) (fun a => Heap a /\ a.length = (cut sub2 m2).length + 1 /\ ∀ v, v ∈ a ↔ v ∈ (cut sub2 m2) \/ v = x) (fun a => [(0, .ptr 4 0), (4, .sl 8 none none), (1000002, .ptr 0 0), (1000003, .ptr 1 0), (1000004, .ptr 4 0), (1000006, .sl 6 none none), (1000051, .sl 7 none none), (1000052, .s (.i .i64 2)), (1000053, .s (.i .i64 i))])
         (fun a => [(0, some (.blk [.nils, .nils, .nils])), (1, some (.blk [.sl 2 none none, .sl 3 none none])), (2, some (.nest true 1 (rowsI N2) [] [])), (3, some (.flat true 1 (bools G2))), (4, some (.blk [.sl 5 none sub2])), (6, some (.flat true 4 (stps (st ++ [s])))), (7, some (.flat true 1 (ints [s.2.1, s.2.2.1]))), (8, some (.flat true 1 (ints a)))]) 9 ?_ ?_
        rotate_left
        ·rintro m ⟨hHm, hml2, hmem⟩;exact ⟨(none, m), ⟨.inl rfl, by dsimp only; omega, by show m.length <= _; omega, hHm, fun v hv => ((hmem v).1 hv).elim (hr2 v) fun e => by rw [e]; exact hxr2, fun v hv => put_may hxi (hmem v).2 (hmv2 v hv)⟩, by refine Weak.ba (sg 0 [_,_,_,_,_,_,_,_])⟩
        refine LoopP.intro (α := Nat × List Int) (fun a => a.2.Perm ((cut sub2 m2) ++ [x]) /\ HUp a.2 a.1 /\ a.1 < a.2.length) (fun a => a.1) (fun a => [(0, .ptr 4 0), (4, .sl 8 none none), (5, .s (.i .i64 a.1)), (1000002, .ptr 0 0), (1000003, .ptr 1 0), (1000004, .ptr 4 0), (1000006, .sl 6 none none), (1000051, .sl 7 none none), (1000052, .s (.i .i64 2)), (1000053, .s (.i .i64 i))])
         (fun a => [(0, some (.blk [.nils, .nils, .nils])), (1, some (.blk [.sl 2 none none, .sl 3 none none])), (2, some (.nest true 1 (rowsI N2) [] [])), (3, some (.flat true 1 (bools G2))), (4, some (.blk [.sl 5 none sub2])), (6, some (.flat true 4 (stps (st ++ [s])))), (7, some (.flat true 1 (ints [s.2.1, s.2.2.1]))), (8, some (.flat true 1 (ints a.2)))]) 9 ((cut sub2 m2).length, (cut sub2 m2) ++ [x]) ⟨List.Perm.refl _, up_start hH _, by simp⟩ (by refine Weak.bw (sg 0 [_,_,_,_,_,_,_,_,_]) (by ((repeat' first|exact rfl|exact trivial|apply And.intro) <;> (repeat' first|exact rfl|exact trivial|apply And.intro)); all_goals ((first | (exact hlen0.symm) | (exact sc_eq hlen1))))) ?_
        rintro ⟨p, m⟩ ⟨hperm, hup, hpm⟩;dsimp only at hperm hup hpm ⊢;have hml : m.length = (cut sub2 m2).length + 1 := by rw [hperm.length_eq]; simp
        have hpq : 0 < p -> ((p : Int) - 1).tdiv 2 = (((p - 1) / 2 : Nat) : Int) := fun h => by rw [show (p : Int) - 1 = ((p - 1 : Nat) : Int) by omega]; rfl
        have hput : Heap m -> Heap m /\ m.length = (cut sub2 m2).length + 1 /\ ∀ v, v ∈ m ↔ v ∈ (cut sub2 m2) \/ v = x := fun h => ⟨h, hml, fun v => by rw [hperm.mem_iff]; simp⟩
        refine Pick.by (fun hc1 => ?_) (fun hc1 => ?_)
        ·have hp0 : 0 < p := by simp at hc1; omega
         have hq := hpq hp0;have hql : (p - 1) / 2 < m.length := by omega
         obtain ⟨y, hy⟩ : ∃ y, m[p]? = some y := ⟨_, qEq hpm⟩;obtain ⟨z, hz⟩ : ∃ z, m[(p - 1) / 2]? = some z := ⟨_, qEq hql⟩;refine Idx.by p rfl (by rw [qiq]; exact hpm) ?_;refine Look.by _ (qhq hy) ?_;refine Pick.n ?_;refine Pick.n ?_;refine Idx.by ((p - 1) / 2) hq (by rw [qiq]; exact hql) ?_;refine Look.by _ (qhq hz) ?_;refine Seg.by (by kernel_rfl) ?_;refine Pick.by (fun hc2 => ?_) (fun hc2 => ?_)
         ·have hlt : y < z := by simpa using hc2
          have hsw : ints ((m.set p z).set ((p - 1) / 2) y) = ((ints m).set p [.i .i64 z]).set ((p - 1) / 2) [.i .i64 y] := by rw [ints_set, ints_set]
          refine Pick.n ?_;refine Pick.n ?_;refine Pick.n ?_;refine Pick.n ?_;refine Idx.by ((p - 1) / 2) hq (by rw [qiq]; exact hql) ?_;refine Look.by _ (qhq hz) ?_;refine Idx.by p rfl (by rw [qiq]; exact hpm) ?_;refine Look.by _ (qhq hy) ?_;refine Idx.by p rfl (by rw [qiq]; exact hpm) ?_;refine Look.by _ (qhq hy) ?_;refine Idx.by ((p - 1) / 2) hq (by rw [List.length_set, qiq]; exact hql) ?_;refine Look.by _ (by rw [qNq (by omega)]; exact qhq hz) ?_;refine Seg.by (by kernel_rfl) ?_;refine Pick.n ?_;refine Pick.n ?_;refine Next.by ((p - 1) / 2, (m.set p z).set ((p - 1) / 2) y) ⟨(swap_perm hy hz (by omega)).trans hperm, up_step hup hp0 hz hy hlt, by rw [List.length_set, List.length_set]; exact hql⟩ (by dsimp only; omega) (by refine Weak.bw (sg 0 [_,_,_,_,_,_,_,_,_]) (by ((repeat' first|exact rfl|exact trivial|apply And.intro) <;> (repeat' first|exact rfl|exact trivial|apply And.intro)); all_goals ((first | (exact hsw) | (exact sc_eq hq.symm)))))
         ·have hHm := hput (up_done hup (.inr fun x' y' hx' hy' => by
           rw [hz] at hx'; rw [hy] at hy'
           injection hx' with hx'; injection hy' with hy'
           have : ¬ y < z := by simpa using hc2
           omega))
          exact ⟨m, hHm, by refine Weak.ba (sg 0 [_,_,_,_,_,_,_,_,_])⟩
        ·have hp0 : p = 0 := by simp at hc1; omega
         refine Seg.by (by kernel_rfl) ?_;exact ⟨m, hput (up_done hup (.inl hp0)), by refine Weak.ba (sg 0 [_,_,_,_,_,_,_,_,_])⟩
       ·have hc6 : mayB N2 G2 x = false := hc6;exact ⟨(sub2, m2), ⟨hsub2, hm24, by dsimp only; omega, hH2, hr2, fun v hv => skip_may hxi (fun e => by rw [e, hc6] at hv; cases hv) (hmv2 v hv)⟩, by refine Weak.ba (sg 0 [_,_,_,_,_,_,_,_])⟩
      ·have hi3 : i = 2 := by simp at hc5; omega
       refine Next.by (st ++ [s], N2, G2, sub2, m2) ⟨hW2, hNl2, hrun2, by simp; omega, hsub2, hm24, by simp; omega, hH2, hr2, fun v hv => ?_⟩ (by simp; omega) (by refine Weak.ba (sg 0 [_,_,_,_,_,_,_]));rcases hmv2 v hv with h | ⟨h1, _⟩ | ⟨h1, _⟩
       ·exact h
       ·omega
       ·omega
     refine Pick.by (fun had => ?_) (fun had => ?_)
     ·have had : (stepF N out).2.2.2 = true := had;rw [if_pos had];rcases hs2 with ⟨_, _, _, e⟩ | ⟨_, _, _, _, e⟩ | ⟨a, b, hlv, hab, ea, eb, ec⟩
      ·rw [had] at e; cases e
      ·rw [had] at e; cases e
      have har := hrv.2 a (by rw [hlv]; simp);have hbr := hrv.2 b (by rw [hlv]; simp);have hra : (rowsI ((rowAt N out).foldl (cutF out) N))[a.toNat]? = some (ints ((rowAt N a).erase out)) := by
       have h1 := qgq (rowAt_mem (N := (rowAt N out).foldl (cutF out) N) har.1 (by rw [cuts_length]; exact har.2)).2;rw [hN1 a har.1] at h1;exact h1
      have hrb : (rowsI ((rowAt N out).foldl (cutF out) N))[b.toNat]? = some (ints ((rowAt N b).erase out)) := by
       have h1 := qgq (rowAt_mem (N := (rowAt N out).foldl (cutF out) N) hbr.1 (by rw [cuts_length]; exact hbr.2)).2;rw [hN1 b hbr.1] at h1;exact h1
      have hok : ∀ u, ((rowAt N u).erase out).Pairwise (· <= ·) /\ ((rowAt N u).erase out).length <= 1000000 := fun u => by
       have h1 := hW.rows u;have h2 := hW.row_len u;have h3 := List.length_erase_le (l := rowAt N u) (a := out);exact ⟨(erase_sorted h1.1).imp fun h => by omega, by omega⟩
      rw [ea, eb];have hj : rowsI (joinF (joinF ((rowAt N out).foldl (cutF out) N) a b) b a) = ((rowsI ((rowAt N out).foldl (cutF out) N)).set a.toNat (ints (insAt ((rowAt N a).erase out) b))).set b.toNat (ints (insAt ((rowAt N b).erase out) a)) := by
       have e1 : rowAt (joinF ((rowAt N out).foldl (cutF out) N) a b) b = (rowAt N b).erase out := by
        unfold joinF;rw [rowAt_set har.1 (by rw [cuts_length]; exact har.2) hbr.1, if_neg (by omega), hN1 b hbr.1]
       show rowsI ((joinF ((rowAt N out).foldl (cutF out) N) a b).set b.toNat (insAt (rowAt (joinF ((rowAt N out).foldl (cutF out) N) a b) b) a)) = _
       rw [e1, rowsI_set];unfold joinF;rw [rowsI_set, hN1 a har.1]
      have hma : (rowsI ((rowAt N out).foldl (cutF out) N)).set a.toNat (ints (insAt ((rowAt N a).erase out) b)) ≠ [] \/ True := .inr trivial;have hl3 : ((rowsI ((rowAt N out).foldl (cutF out) N)).set a.toNat (ints (insAt ((rowAt N a).erase out) b))).length = N.length := by rw [List.length_set, hl1]
      have hrb2 : ((rowsI ((rowAt N out).foldl (cutF out) N)).set a.toNat (ints (insAt ((rowAt N a).erase out) b)))[b.toNat]? = some (ints ((rowAt N b).erase out)) := by rw [qNq (by omega)]; exact hrb
      refine Idx.by a.toNat (by omega) (by omega) ?_;refine Pick.T (by rw [hl1]; simp; omega) ?_;refine Look.by _ hra ?_;refine Call.by _ _ (turnC_at (hok a)) ?_;refine Idx.by a.toNat (by omega) (by omega) ?_;refine Pick.T (by rw [hl1]; simp; omega) ?_;refine Pick.T (by simp) ?_;refine Seg.by (by kernel_rfl) ?_;refine Idx.by b.toNat (by omega) (by omega) ?_;refine Pick.T (by rw [hl3]; simp; omega) ?_;refine Look.by _ hrb2 ?_;refine Call.by _ _ (turnC_at (hok b)) ?_;refine Idx.by b.toNat (by omega) (by omega) ?_;refine Pick.T (by rw [hl3]; simp; omega) ?_;refine Pick.T (by simp) ?_;refine Seg.by (by kernel_rfl) ?_;exact ⟨(), trivial, by refine Weak.bw (sg 0 [_,_,_,_,_,_,_,_,_,_]) (by ((repeat' first|exact rfl|exact trivial|apply And.intro) <;> (repeat' first|exact rfl|exact trivial|apply And.intro)); all_goals ((exact hj)))⟩
     ·have had : (stepF N out).2.2.2 = false := had;rw [if_neg (by rw [had]; simp)];exact ⟨(), trivial, by refine Weak.ba (sg 0 [_,_,_,_,_,_,_,_,_,_])⟩
    refine LoopP.intro (α := Nat × List Int) (fun a => Sift l out last a.2 a.1 /\ a.1 <= last /\ a.2.length = m.length) (fun a => last + 1 - a.1) (fun a => [(0, .ptr 4 0), (3, .sl 5 none (some (0, last))), (4, .s (.i .i64 out)), (5, .s (.i .i64 last)), (6, .s (.i .i64 a.1)), (1000002, .ptr 0 0), (1000003, .ptr 1 0), (1000004, .ptr 4 0), (1000006, .sl 6 none none)])
     (fun a => [(0, some (.blk [.nils, .nils, .nils])), (1, some (.blk [.sl 2 none none, .sl 3 none none])), (2, some (.nest true 1 (rowsI N) [] [])), (3, some (.flat true 1 (bools G))), (4, some (.blk [.sl 5 none (some (0, L))])), (5, some (.flat true 1 (ints a.2))), (6, some (.flat true 4 (stps st)))]) 7 (0, m.set 0 top) ⟨hsift, by dsimp only; omega, by rw [List.length_set]⟩ (by refine Weak.bw (sg 0 [_,_,_,_,_,_,_]) (by ((repeat' first|exact rfl|exact trivial|apply And.intro) <;> (repeat' first|exact rfl|exact trivial|apply And.intro)); all_goals ((first | (rw [ints_set]; rfl) | (exact sc_eq hlast.symm))))) ?_
    rintro ⟨i, c⟩ ⟨hsf, hil, hcm⟩;dsimp only at hsf hil hcm ⊢;refine Pick.n ?_;refine Pick.n ?_;refine Pick.by (fun hc1 => ?_) (fun hc1 => ?_)
    ·have hch : 2 * i + 1 < last := by simp at hc1; omega
     obtain ⟨x, hx⟩ : ∃ x, c[i]? = some x := ⟨_, qEq (by have := hsf.len; omega)⟩;obtain ⟨y1, hy1⟩ : ∃ y, c[2 * i + 1]? = some y := ⟨_, qEq (by have := hsf.len; omega)⟩;refine Pick.n ?_;refine Pick.n ?_;refine Pick.n ?_;have hk1 : (2 * (i : Int) + 1) = ((2 * i + 1 : Nat) : Int) := by omega
     have hk2 : (2 * (i : Int) + 1 + 1) = ((2 * i + 2 : Nat) : Int) := by omega
     have hjoin : ∀ k, (k = 2 * i + 1 \/ k = 2 * i + 2) -> k < last -> (∀ y, c[k]? = some y -> ∀ t z, 0 < t -> (t - 1) / 2 = i -> t < last -> c[t]? = some z -> y <= z) -> (k = 2 * i + 1 \/ k = 2 * i + 2) /\ k < last /\ ∀ y, c[k]? = some y -> ∀ t z, 0 < t -> (t - 1) / 2 = i -> t < last -> c[t]? = some z -> y <= z := fun k a b d => ⟨a, b, d⟩
     refine Pick.by (fun hc2 => ?_) (fun hc2 => ?_)
     ·have hch2 : 2 * i + 2 < last := by simp at hc2; omega
      obtain ⟨y2, hy2⟩ : ∃ y, c[2 * i + 2]? = some y := ⟨_, qEq (by have := hsf.len; omega)⟩;refine Pick.n ?_;refine Idx.by (2 * i + 2) (by omega) (by omega) ?_;refine Look.by _ (by rw [Nat.zero_add]; exact qhq hy2) ?_;refine Idx.by (2 * i + 1) (by omega) (by omega) ?_;refine Look.by _ (by rw [Nat.zero_add]; exact qhq hy1) ?_;refine Seg.by (by kernel_rfl) ?_;refine JoinP.intro (α := Nat) (fun k => (k = 2 * i + 1 \/ k = 2 * i + 2) /\ k < last /\ ∀ y, c[k]? = some y -> ∀ t z, 0 < t -> (t - 1) / 2 = i -> t < last -> c[t]? = some z -> y <= z) (fun k => [(0, .ptr 4 0), (3, .sl 5 none (some (0, last))), (4, .s (.i .i64 out)), (5, .s (.i .i64 last)), (6, .s (.i .i64 i)), (7, .s (.i .i64 k)), (1000002, .ptr 0 0), (1000003, .ptr 1 0), (1000004, .ptr 4 0), (1000006, .sl 6 none none)])
       (fun k => [(0, some (.blk [.nils, .nils, .nils])), (1, some (.blk [.sl 2 none none, .sl 3 none none])), (2, some (.nest true 1 (rowsI N) [] [])), (3, some (.flat true 1 (bools G))), (4, some (.blk [.sl 5 none (some (0, L))])), (5, some (.flat true 1 (ints c))), (6, some (.flat true 4 (stps st)))]) 7 ?_ ?_
      rotate_left
      ·rintro k ⟨hkk, hkl, hM⟩;obtain ⟨y, hy⟩ : ∃ y, c[k]? = some y := ⟨_, qEq (by have := hsf.len; omega)⟩;have hmin := hM y hy;refine Idx.by i rfl (by omega) ?_;refine Look.by _ (by rw [Nat.zero_add]; exact qhq hx) ?_;refine Idx.by k rfl (by omega) ?_;refine Look.by _ (by rw [Nat.zero_add]; exact qhq hy) ?_;refine Seg.by (by kernel_rfl) ?_;refine Pick.by (fun hc4 => ?_) (fun hc4 => ?_)
       ·have hle : x <= y := by simpa using hc4
        refine ⟨c, ⟨hcm, hsf.len, hsf.perm, sift_done hsf fun t u v ht htp hu hv => ?_⟩, by refine Weak.ba (sg 0 [_,_,_,_,_,_,_])⟩;have htk : t < last := by
         have := (qSq.1 hv).1;rw [List.length_take] at this;omega
        rw [tk_get (by omega), hx] at hu;injection hu with hu
        have := hmin t v ht htp htk (by rw [<- tk_get htk]; exact hv);omega
       ·have hlt : y < x := by simpa using hc4
        refine Idx.by k rfl (by omega) ?_;refine Look.by _ (by rw [Nat.zero_add]; exact qhq hy) ?_;refine Idx.by i rfl (by omega) ?_;refine Look.by _ (by rw [Nat.zero_add]; exact qhq hx) ?_;refine Idx.by i rfl (by omega) ?_;refine Look.by _ (by rw [Nat.zero_add]; exact qhq hx) ?_;refine Idx.by k rfl (by omega) ?_;refine Look.by _ (by rw [Nat.zero_add, Nat.zero_add, qNq (by omega)]; exact qhq hy) ?_;refine Seg.by (by kernel_rfl) ?_;refine Next.by (k, (c.set i y).set k x) ⟨sift_step hsf (by omega) (by omega) hkl hx hy hlt hmin, by dsimp only; omega, by rw [List.length_set, List.length_set]; exact hcm⟩ (by dsimp only; omega) (by refine Weak.bw (sg 0 [_,_,_,_,_,_,_]) (by ((repeat' first|exact rfl|exact trivial|apply And.intro) <;> (repeat' first|exact rfl|exact trivial|apply And.intro)); all_goals ((rw [Nat.zero_add, Nat.zero_add, ints_set, ints_set]; rfl))))
      refine Pick.by (fun hc3 => ?_) (fun hc3 => ?_)
      ·have hlt2 : y2 < y1 := by simpa using hc3
       refine Pick.n ?_;refine ⟨2 * i + 2, hjoin _ (.inr rfl) hch2 fun y hy t z ht htp htl hz => ?_, by refine Weak.bw (sg 0 [_,_,_,_,_,_,_]) (by ((repeat' first|exact rfl|exact trivial|apply And.intro) <;> (repeat' first|exact rfl|exact trivial|apply And.intro)); all_goals ((exact sc_eq hk2.symm)))⟩;have : t = 2 * i + 1 \/ t = 2 * i + 2 := by omega
       rcases this with rfl | rfl
       ·rw [hy2] at hy; rw [hy1] at hz; injection hy with hy; injection hz with hz; omega
       ·rw [hy] at hz; injection hz with hz; omega
      ·have hlt2 : ¬ y2 < y1 := by simpa using hc3
       refine ⟨2 * i + 1, hjoin _ (.inl rfl) hch fun y hy t z ht htp htl hz => ?_, by refine Weak.bw (sg 0 [_,_,_,_,_,_,_]) (by ((repeat' first|exact rfl|exact trivial|apply And.intro) <;> (repeat' first|exact rfl|exact trivial|apply And.intro)); all_goals ((exact sc_eq hk1.symm)))⟩;have : t = 2 * i + 1 \/ t = 2 * i + 2 := by omega
       rcases this with rfl | rfl
       ·rw [hy] at hz; injection hz with hz; omega
       ·rw [hy1] at hy; rw [hy2] at hz; injection hy with hy; injection hz with hz; omega
     ·have hch2 : ¬ 2 * i + 2 < last := by simp at hc2; omega
      refine Seg.by (by kernel_rfl) ?_;refine JoinP.intro (α := Nat) (fun k => (k = 2 * i + 1 \/ k = 2 * i + 2) /\ k < last /\ ∀ y, c[k]? = some y -> ∀ t z, 0 < t -> (t - 1) / 2 = i -> t < last -> c[t]? = some z -> y <= z) (fun k => [(0, .ptr 4 0), (3, .sl 5 none (some (0, last))), (4, .s (.i .i64 out)), (5, .s (.i .i64 last)), (6, .s (.i .i64 i)), (7, .s (.i .i64 k)), (1000002, .ptr 0 0), (1000003, .ptr 1 0), (1000004, .ptr 4 0), (1000006, .sl 6 none none)])
       (fun k => [(0, some (.blk [.nils, .nils, .nils])), (1, some (.blk [.sl 2 none none, .sl 3 none none])), (2, some (.nest true 1 (rowsI N) [] [])), (3, some (.flat true 1 (bools G))), (4, some (.blk [.sl 5 none (some (0, L))])), (5, some (.flat true 1 (ints c))), (6, some (.flat true 4 (stps st)))]) 7 ?_ ?_
      rotate_left
      ·rintro k ⟨hkk, hkl, hM⟩;obtain ⟨y, hy⟩ : ∃ y, c[k]? = some y := ⟨_, qEq (by have := hsf.len; omega)⟩;have hmin := hM y hy;refine Idx.by i rfl (by omega) ?_;refine Look.by _ (by rw [Nat.zero_add]; exact qhq hx) ?_;refine Idx.by k rfl (by omega) ?_;refine Look.by _ (by rw [Nat.zero_add]; exact qhq hy) ?_;refine Seg.by (by kernel_rfl) ?_;refine Pick.by (fun hc4 => ?_) (fun hc4 => ?_)
       ·have hle : x <= y := by simpa using hc4
        refine ⟨c, ⟨hcm, hsf.len, hsf.perm, sift_done hsf fun t u v ht htp hu hv => ?_⟩, by refine Weak.ba (sg 0 [_,_,_,_,_,_,_])⟩;have htk : t < last := by
         have := (qSq.1 hv).1;rw [List.length_take] at this;omega
        rw [tk_get (by omega), hx] at hu;injection hu with hu
        have := hmin t v ht htp htk (by rw [<- tk_get htk]; exact hv);omega
       ·have hlt : y < x := by simpa using hc4
        refine Idx.by k rfl (by omega) ?_;refine Look.by _ (by rw [Nat.zero_add]; exact qhq hy) ?_;refine Idx.by i rfl (by omega) ?_;refine Look.by _ (by rw [Nat.zero_add]; exact qhq hx) ?_;refine Idx.by i rfl (by omega) ?_;refine Look.by _ (by rw [Nat.zero_add]; exact qhq hx) ?_;refine Idx.by k rfl (by omega) ?_;refine Look.by _ (by rw [Nat.zero_add, Nat.zero_add, qNq (by omega)]; exact qhq hy) ?_;refine Seg.by (by kernel_rfl) ?_;refine Next.by (k, (c.set i y).set k x) ⟨sift_step hsf (by omega) (by omega) hkl hx hy hlt hmin, by dsimp only; omega, by rw [List.length_set, List.length_set]; exact hcm⟩ (by dsimp only; omega) (by refine Weak.bw (sg 0 [_,_,_,_,_,_,_]) (by ((repeat' first|exact rfl|exact trivial|apply And.intro) <;> (repeat' first|exact rfl|exact trivial|apply And.intro)); all_goals ((rw [Nat.zero_add, Nat.zero_add, ints_set, ints_set]; rfl))))
      refine ⟨2 * i + 1, hjoin _ (.inl rfl) hch fun y hy t z ht htp htl hz => ?_, by refine Weak.bw (sg 0 [_,_,_,_,_,_,_]) (by ((repeat' first|exact rfl|exact trivial|apply And.intro) <;> (repeat' first|exact rfl|exact trivial|apply And.intro)); all_goals ((exact sc_eq hk1.symm)))⟩;have : t = 2 * i + 1 := by omega
      rw [this, hy] at hz; injection hz with hz; omega
    ·have hch : ¬ 2 * i + 1 < last := by simp at hc1; omega
     refine ⟨c, ⟨hcm, hsf.len, hsf.perm, sift_done hsf fun t u v ht htp hu hv => ?_⟩, by refine Weak.ba (sg 0 [_,_,_,_,_,_,_])⟩;have := (qSq.1 hv).1;rw [List.length_take] at this;omega
   ·have hz : l.length = 0 := by rw [hLl]; simpa using hc
    have hno : ∀ u, mayB N G u ≠ true := fun u hu => by
     have := hm u hu;rw [List.eq_nil_of_length_eq_zero hz] at this;simp at this
    rw [runS_end (firstMay_none hno), List.append_nil] at hrun;rw [hrun];have hst4 : st.length <= 1000 := by omega
    have hGN := hW.len;have hmo := hW.most;have hNL := qrq N;refine LoopP.intro (α := Nat) (fun j => j <= N.length) (fun j => N.length - j) (fun j => [(2, .ptr 2 0), (4, .ptr 1 0), (5, .ptr 3 0), (13, .sl 4 none none), (14, .s (.i .i64 N.length)), (15, .s (.i .i64 j)), (1000002, .ptr 0 0)])
     (fun j => [(0, some (.blk [.nils, .nils, .nils])), (1, some (.blk [.nils, .nils, .nils])), (2, some (.blk [.sl 4 none none, .sl 5 none none])), (3, some (.blk [.sl 6 none none, .sl 7 none none, .sl 8 none none])), (4, some (.nest true 1 (rowsI N) [] [])), (5, some (.flat true 1 (bools G))), (6, some (.flat true 4 (stps st))), (7, some (.flat true 1 (ints (leftK G j)))), (8, some (.flat true 2 (edges (edgesK N G j))))]) 9 0 (by omega) (by refine Weak.bw [(0, some _), (1, some _), (2, some _), (3, some _), (4, some _), (5, some _), (6, some _), (7, none), (8, none)] (by ((repeat' first|exact rfl|exact trivial|apply And.intro) <;> (repeat' first|exact rfl|exact trivial|apply And.intro)); all_goals ((first | (rw [hNL]; rfl) | done)))) ?_
    rintro j hj;have hlk := leftK_len G j;have hek := edgesK_len hW j;refine Pick.by (fun hd1 => ?_) (fun hd1 => ?_)
    ·have hjl : j < N.length := by simpa using hd1
     have hgj : (bools G)[j]? = some [.b (G.getD j false)] := by
      refine bools_get ?_;rw [qDq, qEq (by omega)]; rfl
     have hrj : (rowsI N)[j]? = some (ints (rowAt N j)) := by
      have := (rowAt_mem (N := N) (v := (j : Int)) (by omega) (by omega)).2;exact qgq this
     have hrl := hW.row_len (j : Int);refine Idx.by j rfl (by omega) ?_;refine Pick.T (by rw [hNL]; simp; omega) ?_;refine Idx.by j rfl (by rw [bools_length]; omega) ?_;refine Look.by _ hgj ?_;refine Pick.by (fun hd2 => ?_) (fun hd2 => ?_)
     ·have hd2 : G.getD j false = true := hd2;refine Pick.n ?_;refine Next.by (j + 1) (by omega) (by omega) (by refine Weak.bw (sg 0 [_,_,_,_,_,_,_,_,_]) (by ((repeat' first|exact rfl|exact trivial|apply And.intro) <;> (repeat' first|exact rfl|exact trivial|apply And.intro)); all_goals ((first | (rw [leftK_succ, if_pos hd2, List.append_nil]) | (rw [edgesK_succ, if_pos hd2, List.append_nil])))))
     have hd2 : G.getD j false = false := hd2;have hl1 : leftK G (j + 1) = leftK G j ++ [(j : Int)] := by rw [leftK_succ, if_neg (by rw [hd2]; simp)]
     have he1 : edgesK N G (j + 1) = edgesK N G j ++ outE N j := by rw [edgesK_succ, if_neg (by rw [hd2]; simp)]
     refine Pick.T (by simp [cut, qiq]; omega) ?_;refine Look.by _ hrj ?_;refine LoopP.intro (α := Nat) (fun k => k <= (rowAt N j).length) (fun k => (rowAt N j).length - k) (fun k => [(2, .ptr 2 0), (4, .ptr 1 0), (5, .ptr 3 0), (6, .s (.i .i64 j)), (13, .sl 4 none none), (14, .s (.i .i64 N.length)), (15, .s (.i .i64 j)), (31, .sl 4 (some (j, 0)) none), (32, .s (.i .i64 (rowAt N j).length)), (33, .s (.i .i64 k)), (1000002, .ptr 0 0)])
      (fun k => [(0, some (.blk [.nils, .nils, .nils])), (1, some (.blk [.nils, .nils, .nils])), (2, some (.blk [.sl 4 none none, .sl 5 none none])), (3, some (.blk [.sl 6 none none, .sl 7 none none, .sl 8 none none])), (4, some (.nest true 1 (rowsI N) [] [])), (5, some (.flat true 1 (bools G))), (6, some (.flat true 4 (stps st))), (7, some (.flat true 1 (ints (leftK G (j + 1))))), (8, some (.flat true 2 (edges (edgesK N G j ++ (((rowAt N j).take k).filter fun x => decide (x > (j : Int))).map fun x => ((j : Int), x)))))]) 9 0 (by omega) (by refine Weak.bw (sg 0 [_,_,_,_,_,_,_,_,_]) (by ((repeat' first|exact rfl|exact trivial|apply And.intro) <;> (repeat' first|exact rfl|exact trivial|apply And.intro)); all_goals ((first | (rw [hl1, ints_snoc]; rfl) | (rw [List.take_zero]; simp; done) | (rw [qiq]; rfl) | (simp; done))))) ?_
     rintro k hk;have hpl : ((((rowAt N j).take k).filter fun x => decide (x > (j : Int))).map fun x => ((j : Int), x)).length <= 1000 := by
      rw [List.length_map];refine Nat.le_trans (List.length_filter_le _ _) ?_;rw [List.length_take]; omega
     refine Pick.by (fun hd3 => ?_) (fun hd3 => ?_)
     ·have hkl : k < (rowAt N j).length := by simpa using hd3
      obtain ⟨x, hx⟩ : ∃ x, (rowAt N j)[k]? = some x := ⟨_, qEq hkl⟩;have hxe : (rowAt N j)[k] = x := by rw [qEq hkl] at hx; injection hx
      refine Look.by _ hrj ?_;refine Idx.by k rfl (by rw [qiq]; exact hkl) ?_;refine Look.by _ hrj ?_;refine Look.by _ (qhq hx) ?_;refine Pick.by (fun hd4 => ?_) (fun hd4 => ?_)
      ·have hd4 : x > (j : Int) := by simpa using hd4
       refine Pick.T (by simp [cut, qeq] at hpl ⊢; omega) ?_;refine Pick.n ?_;refine Next.by (k + 1) (by omega) (by omega) (by refine Weak.bw (sg 0 [_,_,_,_,_,_,_,_,_]) (by ((repeat' first|exact rfl|exact trivial|apply And.intro) <;> (repeat' first|exact rfl|exact trivial|apply And.intro)); all_goals ((first | (rw [qTq hkl, hxe, List.filter_append, List.map_append, List.filter_cons, if_pos (by simpa using hd4), List.filter_nil, <- List.append_assoc]; exact edges_snoc _ _) | (simp; done)))))
      ·have hd4 : ¬ x > (j : Int) := by simpa using hd4
       refine Pick.n ?_;refine Next.by (k + 1) (by omega) (by omega) (by refine Weak.bw (sg 0 [_,_,_,_,_,_,_,_,_]) (by ((repeat' first|exact rfl|exact trivial|apply And.intro) <;> (repeat' first|exact rfl|exact trivial|apply And.intro)); all_goals ((first | (rw [qTq hkl, hxe, List.filter_append, List.map_append, List.filter_cons, if_neg (by simpa using hd4), List.filter_nil, List.map_nil, List.append_nil]) | (simp; done)))))
     ·have hkl : k = (rowAt N j).length := by simp at hd3; omega
      have hfull : edgesK N G (j + 1) = edgesK N G j ++ (((rowAt N j).take k).filter fun x => decide (x > (j : Int))).map fun x => ((j : Int), x) := by rw [he1, hkl, List.take_length]; rfl
      refine Pick.n ?_;refine Next.by (j + 1) (by omega) (by omega) (by refine Weak.bw (sg 0 [_,_,_,_,_,_,_,_,_]) (by ((repeat' first|exact rfl|exact trivial|apply And.intro) <;> (repeat' first|exact rfl|exact trivial|apply And.intro)); all_goals ((rw [hfull]))))
    have hjl : j = N.length := by simp at hd1; omega
    subst hjl;have e1 : leftF G = leftK G N.length := by unfold leftF leftK; rw [hGN]
    have e2 : edgesF N G = edgesK N G N.length := by unfold edgesF edgesK; rw [e1]
    refine ⟨rfl, ?_⟩
    (repeat' first|exact rfl|exact trivial|apply And.intro)
    all_goals (first | exact congrArg ints e1 | exact congrArg edges e2)
end Go.Sh
namespace Go.Sh
open Go.Proofs Go.RowKit
attribute [local go_sem] Oper.semAt_some
open Classical in
noncomputable def narrowB (n : Int) (E : List Ed) : Bool := decide (RightP n E) && decide ((runO n E).2.1 = [])
noncomputable def NarrowC : Con := conP 2 (fun _ : Int × List Ed => True) (fun a => [grV a.1 a.2]) (fun a => .one (.s (.b (narrowB a.1 a.2))))
theorem NarrowC_at (n : Int) (E : List Ed) : NarrowC.F [grV n E] = some (.one (.s (.b (narrowB n E))), []) :=
 conP_at (a := (n, E)) (fun x y _ _ h => by
  obtain ⟨n, E⟩ := x;obtain ⟨n', E'⟩ := y;simp at h;obtain ⟨rfl, rfl⟩ := grV_inj h
  rfl) trivial
theorem Narrow_ok : SoundC Tryz.prog T 40 NarrowC := by
 refine sound_con (X := { Γ := [(25, RightC), (70, RunC)], T := T, nt := 12 }) cr_none hmix hT (sound_cons RightG_ok (sound_cons Run_ok sound_nil)) Tryz.func40 (by rfl) (by rfl) (by rfl) (by rfl) 2 ?_
 rintro ⟨n, E⟩ -
 refine two_le ?_
 refine Call.by _ _ (RightC_at n E) ?_
 refine Pick.by (fun h1 => ?_) (fun h1 => ?_)
 ·have h1 : RightP n E := by have h1 : decide (RightP n E) = true := h1; simpa using h1
  refine Call.by _ _ (RunC_at n E) ?_;refine ⟨rfl, ?_⟩;show Sc.b ((((ints (runO n E).2.1).length : Nat) : Int) == 0) = Sc.b (narrowB n E)
  unfold narrowB;rw [decide_eq_true h1, Bool.true_and, qiq]
  congr 1
  rw [Bool.eq_iff_iff];simp
 ·have h1 : ¬ RightP n E := by have h1 : decide (RightP n E) = false := h1; simpa using h1
  refine ⟨rfl, ?_⟩;show Sc.b false = Sc.b (narrowB n E)
  unfold narrowB;rw [decide_eq_false h1, Bool.false_and]
end Go.Sh
namespace Go.Sh
def inAt (I : List Bool) (v : Nat) : Bool := I.getD v false
def matAt (M : List (List Bool)) (u v : Nat) : Bool := (M.getD u []).getD v false
def setM (M : List (List Bool)) (u v : Nat) : List (List Bool) := M.set u ((M.getD u []).set v true)
def nearM (I : List Bool) (M : List (List Bool)) (v : Nat) : List Int := ((List.range I.length).filter fun x => inAt I x && matAt M v x).map fun (x : Nat) => (x : Int)
structure Sqr (n : Nat) (M : List (List Bool)) : Prop where
 len : M.length = n
 row : ∀ r ∈ M, r.length = n
theorem Sqr.at_ {n : Nat} {M : List (List Bool)} (h : Sqr n M) {u : Nat} (hu : u < n) : M[u]? = some (M.getD u []) /\ (M.getD u []).length = n := by
 have hlt : u < M.length := by rw [h.len]; exact hu
 rw [qDq, qEq hlt]
 exact ⟨rfl, h.row _ (List.getElem_mem hlt)⟩
theorem Sqr.set {n : Nat} {M : List (List Bool)} (h : Sqr n M) {u v : Nat} (hu : u < n) : Sqr n (setM M u v) := by
 refine ⟨by rw [setM, List.length_set]; exact h.len, fun r hr => ?_⟩
 rcases List.mem_or_eq_of_mem_set hr with hr | rfl
 ·exact h.row r hr
 ·rw [List.length_set]; exact (h.at_ hu).2
theorem setM_at {n : Nat} {M : List (List Bool)} (h : Sqr n M) {u v : Nat} (hu : u < n) (hv : v < n) (a b : Nat) : matAt (setM M u v) a b = (matAt M a b || (decide (a = u) && decide (b = v))) := by
 unfold matAt setM
 have hl := (h.at_ hu).2
 rw [qDq (l := M.set u _), List.getElem?_set]
 by_cases e : u = a
 ·subst e;rw [if_pos rfl, if_pos (by rw [h.len]; exact hu)];simp only [Option.getD_some];rw [qDq, List.getElem?_set];by_cases e2 : v = b
  ·subst e2;rw [if_pos rfl, if_pos (by rw [hl]; exact hv)]; simp
  ·rw [if_neg e2, <- qDq];have : ¬ b = v := fun h => e2 h.symm
   simp [this]
 ·rw [if_neg e];have : ¬ a = u := fun h => e h.symm
  simp [this, qDq]
structure Sim (n : Nat) (N : List (List Int)) (G I : List Bool) (M : List (List Bool)) : Prop where
 wf : Wf N G
 len : N.length = n
 il : I.length = n
 sq : Sqr n M
 inn : ∀ v, v < n -> inAt I v = !goneAt G v
 adj : ∀ u v, u < n -> v < n -> inAt I u = true -> inAt I v = true -> (matAt M u v = true ↔ (v : Int) ∈ rowAt N u)
theorem sorted_eq : ∀ {l m : List Int}, l.Pairwise (· < ·) -> m.Pairwise (· < ·) -> (∀ x, x ∈ l ↔ x ∈ m) -> l = m := by
 intro l
 induction l with
 | nil =>
  intro m _ _ h
  cases m with
  | nil => rfl
  | cons b m => have := (h b).2 (by simp); simp at this
 | cons a l ih =>
  intro m hl hm h
  cases m with
  | nil => have := (h a).1 (by simp); simp at this
  | cons b m =>
   rw [List.pairwise_cons] at hl hm;have hab : a = b := by
    rcases List.mem_cons.1 ((h a).1 (by simp)) with e | e
    ·exact e
    ·rcases List.mem_cons.1 ((h b).2 (by simp)) with e2 | e2
     ·exact e2.symm
     ·have := hl.1 b e2; have := hm.1 a e; omega
   subst hab;rw [ih hl.2 hm.2 fun x => ?_];have := h x;simp only [List.mem_cons] at this;constructor
   ·intro hx;rcases this.1 (.inr hx) with e | e
    ·have := hl.1 x hx; omega
    ·exact e
   ·intro hx;rcases this.2 (.inr hx) with e | e
    ·have := hm.1 x hx; omega
    ·exact e
theorem range_cast_sorted {p : Nat -> Bool} (n : Nat) : (((List.range n).filter p).map fun (x : Nat) => (x : Int)).Pairwise (· < ·) := by
 rw [List.pairwise_map]
 exact (List.Pairwise.sublist List.filter_sublist List.pairwise_lt_range).imp fun h => by omega
theorem mem_range_cast {p : Nat -> Bool} {n : Nat} {x : Int} : x ∈ ((List.range n).filter p).map (fun (x : Nat) => (x : Int)) ↔ ∃ k : Nat, k < n /\ p k = true /\ x = k := by
 rw [List.mem_map]
 constructor
 ·rintro ⟨k, hk, rfl⟩;rw [List.mem_filter, List.mem_range] at hk;exact ⟨k, hk.1, hk.2, rfl⟩
 ·rintro ⟨k, h1, h2, rfl⟩;exact ⟨k, by rw [List.mem_filter, List.mem_range]; exact ⟨h1, h2⟩, rfl⟩
section
variable {n : Nat} {N : List (List Int)} {G I : List Bool} {M : List (List Bool)}
theorem Sim.inRow (h : Sim n N G I M) {u : Nat} {x : Int} (hx : x ∈ rowAt N u) : 0 <= x /\ x < n /\ inAt I x.toNat = true := by
 have hr := (h.wf.rows u).2 x hx
 rw [h.len] at hr
 refine ⟨hr.1, hr.2, ?_⟩
 rw [h.inn _ (by omega), Int.toNat_of_nonneg hr.1]
 cases hg : goneAt G x with
 | false => rfl
 | true =>
  have h1 := h.wf.gone x hr.1 hg;have h2 := h.wf.sym u x (by omega) hr.1 hx;rw [h1] at h2; simp at h2
theorem Sim.near (h : Sim n N G I M) {v : Nat} (hv : v < n) (hi : inAt I v = true) : nearM I M v = rowAt N v := by
 refine sorted_eq (range_cast_sorted _) (h.wf.rows v).1 fun x => ?_
 unfold nearM
 rw [mem_range_cast, h.il]
 constructor
 ·rintro ⟨k, h1, h2, rfl⟩;rw [Bool.and_eq_true] at h2;exact (h.adj v k hv h1 hi h2.1).1 h2.2
 ·intro hx;obtain ⟨h0, h1, h2⟩ := h.inRow hx;refine ⟨x.toNat, by omega, ?_, by omega⟩;rw [h2, Bool.true_and];exact (h.adj v x.toNat hv (by omega) hi h2).2 (by rw [Int.toNat_of_nonneg h0]; exact hx)
theorem Sim.may (h : Sim n N G I M) (v : Nat) (hv : v < n) : mayB N G v = (inAt I v && decide ((nearM I M v).length <= 2)) := by
 unfold mayB
 rw [decide_eq_true (show (0 : Int) <= (v : Int) by omega), decide_eq_true (show (v : Int) < (N.length : Int) by rw [h.len]; omega), Bool.true_and, Bool.true_and, <- h.inn v hv]
 cases hi : inAt I v with
 | false => rfl
 | true => rw [h.near hv hi]
theorem Sim.step (h : Sim n N G I M) {v : Nat} (hv : v < n) (hi : inAt I v = true) {a b : Int} (hl : rowAt N v = [a, b]) : (stepF N v).2.2.2 = !matAt M a.toNat b.toNat := by
 have ha := h.inRow (u := v) (x := a) (by rw [hl]; simp)
 have hb := h.inRow (u := v) (x := b) (by rw [hl]; simp)
 have key := h.adj a.toNat b.toNat (by omega) (by omega) ha.2.2 hb.2.2
 rw [Int.toNat_of_nonneg hb.1, Int.toNat_of_nonneg ha.1] at key
 show (decide (1 < (rowAt N v).length) && !(rowAt N ((rowAt N v).getD 0 (-1))).elem ((rowAt N v).getD 1 (-1))) = _
 rw [hl]
 show (decide (1 < 2) && !(rowAt N a).elem b) = _
 rw [show decide (1 < 2) = true from rfl, Bool.true_and]
 congr 1
 rw [Bool.eq_iff_iff, key]
 simp
def goM (N : List (List Int)) (M : List (List Bool)) (v : Nat) : List (List Bool) := match rowAt N v with
 | [a, b] => setM (setM M a.toNat b.toNat) b.toNat a.toNat
 | _ => M
theorem Sim.go (h : Sim n N G I M) {v : Nat} (hv : v < n) (hm : MayP N G v) : Sim n (doN N (stepF N v)) (doG G (stepF N v)) (I.set v false) (goM N M v) := by
 have hi : inAt I v = true := by rw [h.inn v hv, hm.there]; rfl
 obtain ⟨_, hc⟩ := step_two h.wf hm rfl
 have hset : ∀ u, inAt (I.set v false) u = (inAt I u && decide (u ≠ v)) := fun u => by
  unfold inAt;rw [qDq, List.getElem?_set];by_cases e : v = u
  ·subst e;rw [if_pos rfl, if_pos (by rw [h.il]; exact hv)]; simp
  ·rw [if_neg e, <- qDq];have : u ≠ v := fun h => e h.symm
   simp [this]
 have hsq : Sqr n (goM N M v) := by
  unfold goM;split
  ·rename_i a b hl;have ha := h.inRow (u := v) (x := a) (by rw [hl]; simp);have hb := h.inRow (u := v) (x := b) (by rw [hl]; simp);exact (h.sq.set (by omega)).set (by omega)
  ·exact h.sq
 refine ⟨do_wf h.wf hm, by rw [doN_length]; exact h.len, by rw [List.length_set]; exact h.il, hsq, fun u hu => ?_, fun u w hu hw hiu hiw => ?_⟩
 ·rw [hset, do_gone h.wf hm (by omega), h.inn u hu];by_cases e : u = v
  ·subst e; simp
  ·rw [if_neg (by omega)]; simp [e]
 ·rw [hset] at hiu hiw;simp only [Bool.and_eq_true, decide_eq_true_eq] at hiu hiw;obtain ⟨_, hrow⟩ := do_row h.wf hm (show (0 : Int) <= (u : Int) by omega);rw [hrow];have hadj := h.adj u w hu hw hiu.1 hiw.1;have hne1 : (u : Int) ≠ (v : Int) := by have := hiu.2; omega
  have hne2 : (w : Int) ≠ (v : Int) := by have := hiw.2; omega
  rcases hc with ⟨hl, _, _, hd⟩ | ⟨a, hl, _, _, hd⟩ | ⟨a, b, hl, hab, ea, eb, ed⟩
  ·unfold goM;rw [hl, hd];dsimp only;rw [hadj];simp [hne1, hne2]
  ·unfold goM;rw [hl, hd];dsimp only;rw [hadj];simp [hne1, hne2]
  ·have ha := h.inRow (u := v) (x := a) (by rw [hl]; simp);have hb := h.inRow (u := v) (x := b) (by rw [hl]; simp);unfold goM;rw [hl];dsimp only;rw [setM_at (h.sq.set (by omega)) (by omega) (by omega), setM_at h.sq (by omega) (by omega), ea, eb];simp only [Bool.or_eq_true, Bool.and_eq_true, decide_eq_true_eq];rw [hadj];have e1 : (u : Int) = a ↔ u = a.toNat := by omega
   have e2 : (w : Int) = b ↔ w = b.toNat := by omega
   have e3 : (u : Int) = b ↔ u = b.toNat := by omega
   have e4 : (w : Int) = a ↔ w = a.toNat := by omega
   cases hd : (stepF N v).2.2.2 with
   | true =>
    rw [e1, e2, e3, e4];constructor
    ·rintro ((h1 | h1) | h1)
     ·exact ⟨hne1, .inl ⟨h1, hne2⟩⟩
     ·exact ⟨hne1, .inr ⟨rfl, .inl h1⟩⟩
     ·exact ⟨hne1, .inr ⟨rfl, .inr h1⟩⟩
    ·rintro ⟨_, ⟨h1, _⟩ | ⟨_, h1 | h1⟩⟩
     ·exact .inl (.inl h1)
     ·exact .inl (.inr h1)
     ·exact .inr h1
   | false =>
    rw [hd] at ed;have hba : b ∈ rowAt N a := by
     cases hx : (rowAt N a).elem b with
     | false => rw [hx] at ed; cases ed
     | true => simpa using hx
    have hab2 : a ∈ rowAt N b := h.wf.sym a b ha.1 hb.1 hba;constructor
    ·rintro ((h1 | h1) | h1)
     ·exact ⟨hne1, .inl ⟨h1, hne2⟩⟩
     ·refine ⟨hne1, .inl ⟨?_, hne2⟩⟩;rw [e1.2 h1.1, e2.2 h1.2]; exact hba
     ·refine ⟨hne1, .inl ⟨?_, hne2⟩⟩;rw [e3.2 h1.1, e4.2 h1.2]; exact hab2
    ·rintro ⟨_, ⟨h1, _⟩ | ⟨h1, _⟩⟩
     ·exact .inl (.inl h1)
     ·cases h1
end
def matF (n : Nat) (E : List Ed) : List (List Bool) := E.foldl (fun M x => setM (setM M x.1.toNat x.2.toNat) x.2.toNat x.1.toNat) (List.replicate n (List.replicate n false))
theorem mat_fold {n : Int} : ∀ (E : List Ed) (M : List (List Bool)), Sqr n.toNat M -> (∀ x ∈ E, okE n x) -> Sqr n.toNat (E.foldl (fun M x => setM (setM M x.1.toNat x.2.toNat) x.2.toNat x.1.toNat) M) /\
  ∀ u v : Nat, matAt (E.foldl (fun M x => setM (setM M x.1.toNat x.2.toNat) x.2.toNat x.1.toNat) M) u v = true ↔ matAt M u v = true \/ adjE E u v := by
 intro E
 induction E with
 | nil => intro M h _; exact ⟨h, fun u v => by simp [adjE]⟩
 | cons x E ih =>
  intro M h hE;obtain ⟨h1, h2, h3⟩ := hE x (by simp);have s1 := h.set (v := x.2.toNat) (show x.1.toNat < n.toNat by omega);have s2 := s1.set (v := x.1.toNat) (show x.2.toNat < n.toNat by omega);obtain ⟨i1, i2⟩ := ih _ s2 fun y hy => hE y (by simp [hy])
  refine ⟨i1, fun u v => ?_⟩;rw [List.foldl_cons, i2, setM_at s1 (by omega) (by omega), setM_at h (by omega) (by omega)];obtain ⟨a, b⟩ := x;dsimp only at h1 h2 h3;simp only [Bool.or_eq_true, Bool.and_eq_true, decide_eq_true_eq, adjE, List.mem_cons, Prod.mk.injEq];constructor
  ·rintro (((h | ⟨e1, e2⟩) | ⟨e1, e2⟩) | h)
   ·exact .inl h
   ·exact .inr (.inl (.inl ⟨by omega, by omega⟩))
   ·exact .inr (.inr (.inl ⟨by omega, by omega⟩))
   ·rcases h with h | h
    ·exact .inr (.inl (.inr h))
    ·exact .inr (.inr (.inr h))
  ·rintro (h | (⟨e1, e2⟩ | h) | (⟨e1, e2⟩ | h))
   ·exact .inl (.inl (.inl h))
   ·exact .inl (.inl (.inr ⟨by omega, by omega⟩))
   ·exact .inr (.inl h)
   ·exact .inl (.inr ⟨by omega, by omega⟩)
   ·exact .inr (.inr h)
theorem sqr_zero (n : Nat) : Sqr n (List.replicate n (List.replicate n false)) := ⟨by simp, fun r hr => by rw [List.eq_of_mem_replicate hr]; simp⟩
theorem zero_at (n u v : Nat) : matAt (List.replicate n (List.replicate n false)) u v = false := by
 unfold matAt
 simp only [qDq, List.getElem?_replicate]
 by_cases hu : u < n
 ·rw [if_pos hu, Option.getD_some, List.getElem?_replicate];split <;> rfl
 ·rw [if_neg hu]; rfl
theorem sim_begin {n : Int} {E : List Ed} (h : RightP n E) : Sim n.toNat (nbrs n.toNat E) (List.replicate n.toNat false) (List.replicate n.toNat true) (matF n.toNat E) := by
 have hE : ∀ p ∈ E, okE n p := fun p hp => h.2.2.2.1 p hp
 obtain ⟨m1, m2⟩ := mat_fold E _ (sqr_zero n.toNat) hE
 refine ⟨begin_wf h, nbrs_length _ _, by simp, m1, fun v hv => ?_, fun u v hu hv _ _ => ?_⟩
 ·rw [goneAt_nat];unfold inAt;rw [qDq, qDq, List.getElem?_replicate, List.getElem?_replicate, if_pos hv, if_pos hv]; rfl
 ·rw [nbrs_row (by omega) (by omega), mem_nearL];have := m2 u v;rw [zero_at] at this;simpa [matF] using this
end Go.Sh
namespace Go.Sh
open Go.Proofs
def brows (M : List (List Bool)) : List Flat := M.map bools
theorem brows_length (M : List (List Bool)) : (brows M).length = M.length := by simp [brows]
theorem brows_at {n : Nat} {M : List (List Bool)} (h : Sqr n M) {u : Nat} (hu : u < n) : (brows M)[u]? = some (bools (M.getD u [])) := by
 unfold brows
 rw [List.getElem?_map, (h.at_ hu).1]; rfl
theorem brow_at {n : Nat} {M : List (List Bool)} (h : Sqr n M) {u v : Nat} (hu : u < n) (hv : v < n) : (bools (M.getD u []))[v]? = some [.b (matAt M u v)] := by
 refine bools_get ?_
 have hl := (h.at_ hu).2
 unfold matAt
 rw [qDq (l := M.getD u []), qEq (by omega)]; rfl
theorem brows_set (M : List (List Bool)) (u v : Nat) : brows (setM M u v) = (brows M).set u ((bools (M.getD u [])).set v [.b true]) := by
 unfold brows setM
 rw [List.map_set]
 congr 1
 unfold bools
 rw [List.map_set]
section
variable {n : Nat} {N : List (List Int)} {G I : List Bool} {M : List (List Bool)}
theorem in_get (h : Sim n N G I M) {x : Nat} (hx : x < n) : (bools I)[x]? = some [.b (inAt I x)] := by
 refine bools_get ?_
 have := h.il
 unfold inAt
 rw [qDq, qEq (by omega)]; rfl
theorem brows_get (h : Sim n N G I M) {u : Nat} (hu : u < n) : (brows M)[u]? = some (bools (M.getD u [])) := brows_at h.sq hu
theorem mat_get (h : Sim n N G I M) {u v : Nat} (hu : u < n) (hv : v < n) : (bools (M.getD u []))[v]? = some [.b (matAt M u v)] := brow_at h.sq hu hv
end
theorem in_step {n k : Nat} (h : k < n) : bools (List.replicate (k + 1) true ++ List.replicate (n - (k + 1)) false) = (bools (List.replicate k true ++ List.replicate (n - k) false)).set k [.b true] := by
 have e : (List.replicate k true ++ List.replicate (n - k) false).set k true = List.replicate (k + 1) true ++ List.replicate (n - (k + 1)) false := by
  rw [show n - k = (n - (k + 1)) + 1 by omega, List.replicate_succ (n := n - (k + 1)), List.replicate_succ', List.append_assoc, List.set_append_right _ _ (by simp)];simp
 rw [<- e]
 unfold bools
 rw [List.map_set]
def innerK (I : List Bool) (M : List (List Bool)) (j x : Nat) : List Ed := ((List.range x).filter fun y => decide (j < y) && (inAt I y && matAt M j y)).map fun (y : Nat) => ((j : Int), (y : Int))
theorem innerK_start (I : List Bool) (M : List (List Bool)) (j : Nat) : innerK I M j (j + 1) = [] := by
 unfold innerK
 rw [List.filter_eq_nil_iff.2, List.map_nil]
 intro a ha
 rw [List.mem_range] at ha
 rw [decide_eq_false (by omega)]; simp
theorem innerK_succ {I : List Bool} {M : List (List Bool)} {j x : Nat} (h : j + 1 <= x) : innerK I M j (x + 1) = innerK I M j x ++ (if (inAt I x && matAt M j x) = true then [((j : Int), (x : Int))] else []) := by
 unfold innerK
 rw [List.range_succ, List.filter_append, List.map_append, List.filter_cons, List.filter_nil, decide_eq_true (show j < x by omega), Bool.true_and]
 split <;> rfl
theorem innerK_len (I : List Bool) (M : List (List Bool)) (j x : Nat) : (innerK I M j x).length <= x := by
 unfold innerK
 rw [List.length_map]
 exact Nat.le_trans (List.length_filter_le _ _) (by simp)
theorem innerK_end {n : Nat} {N : List (List Int)} {G I : List Bool} {M : List (List Bool)} (h : Sim n N G I M) {j : Nat} (hj : j < n) (hi : inAt I j = true) : innerK I M j n = outE N j := by
 unfold innerK outE
 rw [<- h.near hj hi]
 unfold nearM
 rw [h.il, List.filter_map, List.map_map, List.filter_filter]
 congr 1
 apply List.filter_congr
 intro y _
 simp only [Function.comp]
 congr 1
 exact decide_eq_decide.2 (by omega)
theorem mu_lt {n k v : Nat} (h : k + 1 <= n) : (n - (k + 1)) * (n + 1) + (n - 0) < (n - k) * (n + 1) + (n - v) := by
 obtain ⟨d, hd⟩ : ∃ d, n - (k + 1) = d := ⟨_, rfl⟩
 rw [hd, show n - k = d + 1 by omega, Nat.succ_mul]
 omega
noncomputable def Run10C : Con := conP 2 (fun _ : Int × List Ed => True) (fun a => [grV a.1 a.2]) (fun a => logV true (runO a.1 a.2).1 (runO a.1 a.2).2.1 (runO a.1 a.2).2.2)
theorem Run10C_at (n : Int) (E : List Ed) : Run10C.F [grV n E] = some (logV true (runO n E).1 (runO n E).2.1 (runO n E).2.2, []) := RunC_at n E
noncomputable def XR10 : Cx := { Γ := [(31, RightC)], T := T, nt := 33, inl := [(102, inlF Tryz.f102), (103, inlF Tryz.f103), (104, inlF Tryz.f104), (105, inlF Tryz.f105), (127, inlF Tryz.f127)] }
theorem XR10_ok : CrOk Tryz.prog (callAt 2 XR10) := callAt_ok hmix hT (sound_cons Right3_ok sound_nil) (inl_cons Tryz.func102 (by rfl) (by rfl) (by rfl) (inl_cons Tryz.func103 (by rfl) (by rfl) (by rfl) (inl_cons Tryz.func104 (by rfl) (by rfl) (by rfl) (inl_cons Tryz.func105 (by rfl) (by rfl) (by rfl) (inl_cons Tryz.func127 (by rfl) (by rfl) (by rfl) inl_nil))))) cr_none 2
set_option maxHeartbeats 4000000 in
theorem Run10_ok : SoundC Tryz.prog T 71 Run10C := by
 refine sound_con (X := XR10) (cr := callAt 2 XR10) XR10_ok hmix hT (sound_cons Right3_ok sound_nil) Tryz.func71 (by rfl) (by rfl) (by rfl) (by rfl) 2 ?_
 rintro ⟨n, E⟩ -
 dsimp only
 refine two_le ?_
 refine Call.by _ _ (RightC_at n E) ?_
 refine Pick.by (fun h1 => ?_) (fun h1 => ?_)
 ·have h1 : ¬ RightP n E := by have h1 : (!decide (RightP n E)) = true := h1; simpa using h1
  have hv : runO n E = ([], [], []) := if_neg h1;rw [hv];refine ⟨rfl, ?_⟩
  (repeat' first|exact rfl|exact trivial|apply And.intro)
 have hR : RightP n E := by have h1 : (!decide (RightP n E)) = false := h1; simpa using h1
 have hv : runO n E = ((runR n E).1, leftF (runR n E).2.2, edgesF (runR n E).2.1 (runR n E).2.2) := if_pos hR
 rw [hv]
 have hn0 := hR.1
 have hn1 := hR.2.1
 have hE4 := hR.2.2.1
 refine Pick.T (by simp) ?_
 refine Idx.by n.toNat (by omega) (by omega) ?_
 refine LoopP.intro (α := Nat) (fun k => k <= n.toNat) (fun k => n.toNat - k) (fun k => [(1, .ptr 0 0), (3, .ptr 2 0), (4, .s (.i .i64 k)), (1000001, .ptr 5 0), (1000002, .ptr 6 0)])
  (fun k => [(0, some (.blk [.s (.i .i64 n), .sl 1 none none])), (1, some (.flat false 2 (edges E))), (2, some (.blk [.sl 3 none none, .sl 4 none none])), (3, some (.flat true 1 (bools (List.replicate k true ++ List.replicate (n.toNat - k) false)))), (4, some (.nest true 1 (brows (List.replicate k (List.replicate n.toNat false))) [] [])), (5, some (.blk [.s (.i .i64 n), .sl 1 none none])), (6, some (.blk [.nils, .nils, .nils]))]) 7 0 (by omega) (by refine Weak.bw [(0, some _), (1, some _), (2, some _), (3, some _), (4, none), (5, some _), (6, some _)] (by ((repeat' first|exact rfl|exact trivial|apply And.intro) <;> (repeat' first|exact rfl|exact trivial|apply And.intro)); all_goals ((simp [bools]; done)))) ?_
 rintro k hk
 refine Pick.by (fun hb1 => ?_) (fun hb1 => ?_)
 ·have hkl : k < n.toNat := by simp at hb1; omega
  refine Idx.by k rfl (by rw [bools_length]; simp; omega) ?_;refine Look.by [.b false] (by refine bools_get ?_; rw [qRq (by simp), List.length_replicate, Nat.sub_self, List.getElem?_replicate, if_pos (by omega)]) ?_;refine Pick.T (by simp) ?_;refine Idx.by n.toNat (by omega) (by omega) ?_;refine Pick.T (by simp [brows]; omega) ?_;refine Seg.by (by kernel_rfl) ?_;refine Pick.n ?_;refine Next.by (k + 1) (by omega) (by omega) (by refine Weak.bw (sg 0 [_,_,_,_,_,_,_]) (by ((repeat' first|exact rfl|exact trivial|apply And.intro) <;> (repeat' first|exact rfl|exact trivial|apply And.intro)); all_goals ((first | (exact in_step hkl) | (rw [List.replicate_succ']; unfold brows; rw [List.map_append]; simp [bools]; done)))))
 have hkl : k = n.toNat := by simp at hb1; omega
 subst hkl
 rw [Nat.sub_self, List.replicate_zero, List.append_nil]
 refine LoopP.intro (α := Nat) (fun k => k <= E.length) (fun k => E.length - k) (fun k => [(1, .ptr 0 0), (3, .ptr 2 0), (5, .s (.i .i64 k)), (1000001, .ptr 5 0), (1000002, .ptr 6 0)])
  (fun k => [(0, some (.blk [.s (.i .i64 n), .sl 1 none none])), (1, some (.flat false 2 (edges E))), (2, some (.blk [.sl 3 none none, .sl 4 none none])), (3, some (.flat true 1 (bools (List.replicate n.toNat true)))), (4, some (.nest true 1 (brows (matF n.toNat (E.take k))) [] [])), (5, some (.blk [.s (.i .i64 n), .sl 1 none none])), (6, some (.blk [.nils, .nils, .nils]))]) 7 0 (by omega) (by refine Weak.ba (sg 0 [_,_,_,_,_,_,_])) ?_
 rintro k hk
 have hsq := (mat_fold (n := n) (E.take k) _ (sqr_zero n.toNat) fun x hx => hR.2.2.2.1 x (List.mem_of_mem_take hx)).1
 have hsq : Sqr n.toNat (matF n.toNat (E.take k)) := hsq
 refine Pick.by (fun hb2 => ?_) (fun hb2 => ?_)
 ·have hkl : k < E.length := by simpa [qeq] using hb2
  obtain ⟨o1, o2, o3⟩ := hR.2.2.2.1 _ (List.getElem_mem hkl);have hget := edges_get (qEq hkl);have hst : matF n.toNat (E.take (k + 1)) = setM (setM (matF n.toNat (E.take k)) E[k].1.toNat E[k].2.toNat) E[k].2.toNat E[k].1.toNat := by
   rw [qTq hkl, matF, List.foldl_append]; rfl
  obtain ⟨a, ha⟩ : ∃ a : Nat, E[k].1 = a := ⟨E[k].1.toNat, by omega⟩;obtain ⟨b, hb⟩ : ∃ b : Nat, E[k].2 = b := ⟨E[k].2.toNat, by omega⟩;rw [ha, hb] at hget hst;rw [Int.toNat_natCast, Int.toNat_natCast] at hst;generalize matF n.toNat (E.take k) = M at hsq hst ⊢
  have han : a < n.toNat := by omega
  have hbn : b < n.toNat := by omega
  have hs2 := hsq.set (v := b) han;refine Idx.by k rfl (by rw [qeq]; exact hkl) ?_;refine Look.by _ hget ?_;refine Idx.by a rfl (by rw [brows_length, hsq.len]; exact han) ?_;refine Pick.T (by rw [brows_length, hsq.len]; simpa using han) ?_;refine Idx.by k rfl (by rw [qeq]; exact hkl) ?_;refine Look.by _ hget ?_;refine Look.by _ (brows_at hsq han) ?_;refine Idx.by b rfl (by rw [bools_length, (hsq.at_ han).2]; exact hbn) ?_;refine Look.by _ (brows_at hsq han) ?_;refine Look.by _ (brow_at hsq han hbn) ?_;refine Seg.by (by kernel_rfl) ?_;refine Idx.by k rfl (by rw [qeq]; exact hkl) ?_;refine Look.by _ hget ?_;have hs1 : (brows M).set a ((bools (M.getD a [])).set b [.b true]) = brows (setM M a b) := (brows_set M a b).symm;have hl1 : ((brows M).set a ((bools (M.getD a [])).set b [.b true])).length = n.toNat := by rw [List.length_set, brows_length, hsq.len]
  refine Idx.by b rfl (by show b < ((brows M).set a ((bools (M.getD a [])).set b [.b true])).length; rw [hl1]; exact hbn) ?_;refine Pick.T (by show decide (b < ((brows M).set a ((bools (M.getD a [])).set b [.b true])).length) = true; rw [hl1]; simpa using hbn) ?_;refine Idx.by k rfl (by rw [qeq]; exact hkl) ?_;refine Look.by _ hget ?_;refine Look.by _ (by show ((brows M).set a ((bools (M.getD a [])).set b [.b true]))[b]? = _; rw [hs1]; exact brows_at hs2 hbn) ?_;refine Idx.by a rfl (by rw [bools_length, (hs2.at_ hbn).2]; exact han) ?_;refine Look.by _ (by show ((brows M).set a ((bools (M.getD a [])).set b [.b true]))[b]? = _; rw [hs1]; exact brows_at hs2 hbn) ?_;refine Look.by _ (brow_at hs2 hbn han) ?_;refine Seg.by (by kernel_rfl) ?_;refine Pick.n ?_;refine Next.by (k + 1) (by omega) (by omega) (by refine Weak.bw (sg 0 [_,_,_,_,_,_,_]) (by ((repeat' first|exact rfl|exact trivial|apply And.intro) <;> (repeat' first|exact rfl|exact trivial|apply And.intro)); all_goals ((rw [hst, brows_set, brows_set]; rfl))))
 have hkl : k = E.length := by simp [qeq] at hb2; omega
 subst hkl
 have hS : Sim n.toNat (nbrs n.toNat E) (List.replicate n.toNat false) (List.replicate n.toNat true) (matF n.toNat (E.take E.length)) := by rw [List.take_length]; exact sim_begin hR
 generalize matF n.toNat (E.take E.length) = M at hS ⊢
 clear hsq hk hb1 hb2
 have hrun : runR n E = ([] ++ (runS (n.toNat - ([] : List Stp).length) (nbrs n.toNat E) (List.replicate n.toNat false)).1, (runS (n.toNat - ([] : List Stp).length) (nbrs n.toNat E) (List.replicate n.toNat false)).2) := rfl
 have hlv : ([] : List Stp).length + (List.replicate n.toNat false).countP (!·) <= n.toNat := by simp [List.countP_replicate]
 generalize nbrs n.toNat E = N at hS hrun
 generalize List.replicate n.toNat false = G at hS hrun hlv
 generalize List.replicate n.toNat true = I at hS ⊢
 refine LoopP.intro (α := List Stp × List (List Int) × List Bool × List Bool × List (List Bool) × Nat) (fun a => Sim n.toNat a.2.1 a.2.2.1 a.2.2.2.1 a.2.2.2.2.1 /\ runR n E = (a.1 ++ (runS (n.toNat - a.1.length) a.2.1 a.2.2.1).1, (runS (n.toNat - a.1.length) a.2.1 a.2.2.1).2) /\ a.1.length + a.2.2.1.countP (!·) <= n.toNat /\ a.2.2.2.2.2 <= n.toNat /\ ∀ u : Int, u < a.2.2.2.2.2 -> mayB a.2.1 a.2.2.1 u = false)
  (fun a => (n.toNat - a.1.length) * (n.toNat + 1) + (n.toNat - a.2.2.2.2.2)) (fun a => [(1, .ptr 0 0), (2, .ptr 5 0), (3, .ptr 2 0), (4, .sl 6 none none), (5, .s (.i .i64 a.2.2.2.2.2))])
  (fun a => [(0, some (.blk [.s (.i .i64 n), .sl 1 none none])), (1, some (.flat false 2 (edges E))), (2, some (.blk [.sl 3 none none, .sl 4 none none])), (3, some (.flat true 1 (bools a.2.2.2.1))), (4, some (.nest true 1 (brows a.2.2.2.2.1) [] [])), (5, some (.blk [.nils, .nils, .nils])), (6, some (.flat true 4 (stps a.1)))]) 7 ([], N, G, I, M, 0)
  ⟨hS, hrun, hlv, by simp, fun u hu => by unfold mayB; rw [decide_eq_false (by dsimp only at hu; omega)]; rfl⟩ (by refine Weak.ba [(0, some _), (1, some _), (2, some _), (3, some _), (4, some _), (5, some _), (6, none)]) ?_
 clear hS hrun hlv N G I M
 rintro ⟨st, N, G, I, M, v⟩ ⟨hS, hrun, hlv, hvn, hno⟩
 dsimp only at hS hrun hlv hvn hno ⊢
 refine Pick.by (fun hc => ?_) (fun hc => ?_)
 ·have hwv : v < n.toNat := by simp at hc; omega
  refine Pick.T (by rw [bools_length, hS.il]; simp; omega) ?_;refine Idx.by v rfl (by rw [bools_length, hS.il]; exact hwv) ?_;refine Look.by _ (in_get hS hwv) ?_;have hmay := hS.may v hwv;refine Pick.by (fun hi => ?_) (fun hi => ?_)
  rotate_left
  ·have hi : inAt I v = false := hi;have hmf : mayB N G v = false := by rw [hmay, hi]; rfl
   refine Pick.n ?_;refine Next.by (st, N, G, I, M, v + 1) ⟨hS, hrun, hlv, by dsimp only; omega, fun u hu => ?_⟩ (by dsimp only; omega) (by refine Weak.ba (sg 0 [_,_,_,_,_,_,_]));dsimp only at hu ⊢;by_cases e : u < v
   ·exact hno u e
   ·have : u = v := by omega
    rw [this]; exact hmf
  have hi : inAt I v = true := hi;rw [hi, Bool.true_and] at hmay;refine LoopP.intro (α := Nat) (fun x => x <= n.toNat) (fun x => n.toNat - x) (fun x => [(0, .ptr 2 0), (1, .s (.i .i64 v)), (5, .sl 7 none none), (6, .s (.i .i64 x)), (1000025, .s (.b true)), (2000001, .ptr 0 0), (2000002, .ptr 5 0), (2000003, .ptr 2 0), (2000004, .sl 6 none none), (2000005, .s (.i .i64 v))])
   (fun x => [(0, some (.blk [.s (.i .i64 n), .sl 1 none none])), (1, some (.flat false 2 (edges E))), (2, some (.blk [.sl 3 none none, .sl 4 none none])), (3, some (.flat true 1 (bools I))), (4, some (.nest true 1 (brows M) [] [])), (5, some (.blk [.nils, .nils, .nils])), (6, some (.flat true 4 (stps st))), (7, some (.flat true 1 (ints (((List.range x).filter fun y => inAt I y && matAt M v y).map fun (y : Nat) => (y : Int)))))]) 8 0 (by omega) (by refine Weak.ba (sg 0 [_,_,_,_,_,_,_,_])) ?_
  rintro x hx;have hnl : ((((List.range x).filter fun y => inAt I y && matAt M v y).map fun (y : Nat) => (y : Int))).length <= x := by
   rw [List.length_map];exact Nat.le_trans (List.length_filter_le _ _) (by simp)
  have hsucc : ∀ p : Nat -> Bool, (((List.range (x + 1)).filter p).map fun (y : Nat) => (y : Int)) = (((List.range x).filter p).map fun (y : Nat) => (y : Int)) ++ (if p x = true then [(x : Int)] else []) := fun p => by
   rw [List.range_succ, List.filter_append, List.map_append, List.filter_cons, List.filter_nil];split <;> rfl
  refine Pick.by (fun hn1 => ?_) (fun hn1 => ?_)
  ·have hxl : x < n.toNat := by rw [bools_length, hS.il] at hn1; simp at hn1; omega
   refine Idx.by x rfl (by rw [bools_length, hS.il]; exact hxl) ?_;refine Look.by _ (in_get hS hxl) ?_;refine Pick.by (fun hn2 => ?_) (fun hn2 => ?_)
   ·have hn2 : inAt I x = true := hn2;refine Idx.by v (by first | rfl | omega) (by rw [brows_length, hS.sq.len]; exact hwv) ?_;refine Pick.T (by rw [brows_length, hS.sq.len]; simpa using hwv) ?_;refine Look.by _ (brows_get hS hwv) ?_;refine Idx.by x rfl (by rw [bools_length, (hS.sq.at_ hwv).2]; exact hxl) ?_;refine Look.by _ (brows_get hS hwv) ?_;refine Look.by _ (mat_get hS hwv hxl) ?_;refine Pick.by (fun hn3 => ?_) (fun hn3 => ?_)
    ·have hn3 : matAt M v x = true := hn3;refine Pick.T (by simp [cut, qiq] at hnl ⊢; omega) ?_;refine Pick.n ?_;refine Next.by (x + 1) (by omega) (by omega) (by refine Weak.bw (sg 0 [_,_,_,_,_,_,_,_]) (by ((repeat' first|exact rfl|exact trivial|apply And.intro) <;> (repeat' first|exact rfl|exact trivial|apply And.intro)); all_goals ((rw [hsucc, if_pos (by rw [hn2, hn3]; rfl), ints_snoc]; rfl))))
    ·have hn3 : matAt M v x = false := hn3;refine Pick.n ?_;refine Next.by (x + 1) (by omega) (by omega) (by refine Weak.bw (sg 0 [_,_,_,_,_,_,_,_]) (by ((repeat' first|exact rfl|exact trivial|apply And.intro) <;> (repeat' first|exact rfl|exact trivial|apply And.intro)); all_goals ((rw [hsucc, if_neg (by rw [hn2, hn3]; decide), List.append_nil]))))
   ·have hn2 : inAt I x = false := hn2;refine Pick.n ?_;refine Next.by (x + 1) (by omega) (by omega) (by refine Weak.bw (sg 0 [_,_,_,_,_,_,_,_]) (by ((repeat' first|exact rfl|exact trivial|apply And.intro) <;> (repeat' first|exact rfl|exact trivial|apply And.intro)); all_goals ((rw [hsucc, if_neg (by rw [hn2]; simp), List.append_nil]))))
  have hxe : x = n.toNat := by rw [bools_length, hS.il] at hn1; simp at hn1; omega
  subst hxe;have hln : (((ints (((List.range n.toNat).filter fun y => inAt I y && matAt M v y).map fun (y : Nat) => (y : Int))).length : Nat) : Int) = ((nearM I M v).length : Int) := by unfold nearM; rw [hS.il, qiq]
  refine Pick.by (fun h2 => ?_) (fun h2 => ?_)
  ·have h2 : (!decide ((((ints (((List.range n.toNat).filter fun y => inAt I y && matAt M v y).map fun (y : Nat) => (y : Int))).length : Nat) : Int) <= 2)) = true := h2;have hmf : mayB N G v = false := by rw [hln] at h2; rw [hmay]; simp at h2 ⊢; omega
   refine Pick.n ?_;refine Next.by (st, N, G, I, M, v + 1) ⟨hS, hrun, hlv, by dsimp only; omega, fun u hu => ?_⟩ (by dsimp only; omega) (by refine Weak.ba (sg 0 [_,_,_,_,_,_,_]));dsimp only at hu ⊢;by_cases e : u < v
   ·exact hno u e
   ·have : u = v := by omega
    rw [this]; exact hmf
  have hmt : mayB N G v = true := by
   have h2 : (!decide ((((ints (((List.range n.toNat).filter fun y => inAt I y && matAt M v y).map fun (y : Nat) => (y : Int))).length : Nat) : Int) <= 2)) = false := h2;rw [hln] at h2; rw [hmay]; simp at h2 ⊢; omega
  clear hln hmay h2
  have hlive := live_step hS.wf (mayB_iff.1 hmt);have hst1 : st.length + 1 <= n.toNat := by omega
  have hmin : ∀ u, mayB N G u = true -> (v : Int) <= u := fun u hu => by
   by_cases e : u < v
   ·rw [hno u e] at hu; cases hu
   ·omega
  refine LoopP.intro (α := Nat) (fun x => x <= n.toNat) (fun x => n.toNat - x) (fun x => [(0, .ptr 2 0), (1, .s (.i .i64 v)), (5, .sl 8 none none), (6, .s (.i .i64 x)), (1000000, .ptr 2 0), (1000001, .s (.i .i64 v)), (1000004, .ptr 7 0), (2000001, .ptr 0 0), (2000002, .ptr 5 0), (2000003, .ptr 2 0), (2000004, .sl 6 none none), (2000005, .s (.i .i64 v))])
   (fun x => [(0, some (.blk [.s (.i .i64 n), .sl 1 none none])), (1, some (.flat false 2 (edges E))), (2, some (.blk [.sl 3 none none, .sl 4 none none])), (3, some (.flat true 1 (bools I))), (4, some (.nest true 1 (brows M) [] [])), (5, some (.blk [.nils, .nils, .nils])), (6, some (.flat true 4 (stps st))), (7, some (.blk [.s (.i .i64 0), .s (.i .i64 0), .s (.i .i64 0), .s (.b false)])), (8, some (.flat true 1 (ints (((List.range x).filter fun y => inAt I y && matAt M v y).map fun (y : Nat) => (y : Int)))))]) 9 0 (by omega) (by refine Weak.ba (sg 0 [_,_,_,_,_,_,_,_,_])) ?_
  rintro x hx;have hnl : ((((List.range x).filter fun y => inAt I y && matAt M v y).map fun (y : Nat) => (y : Int))).length <= x := by
   rw [List.length_map];exact Nat.le_trans (List.length_filter_le _ _) (by simp)
  have hsucc : ∀ p : Nat -> Bool, (((List.range (x + 1)).filter p).map fun (y : Nat) => (y : Int)) = (((List.range x).filter p).map fun (y : Nat) => (y : Int)) ++ (if p x = true then [(x : Int)] else []) := fun p => by
   rw [List.range_succ, List.filter_append, List.map_append, List.filter_cons, List.filter_nil];split <;> rfl
  refine Pick.by (fun hn1 => ?_) (fun hn1 => ?_)
  ·have hxl : x < n.toNat := by rw [bools_length, hS.il] at hn1; simp at hn1; omega
   refine Idx.by x rfl (by rw [bools_length, hS.il]; exact hxl) ?_;refine Look.by _ (in_get hS hxl) ?_;refine Pick.by (fun hn2 => ?_) (fun hn2 => ?_)
   ·have hn2 : inAt I x = true := hn2;refine Idx.by v (by first | rfl | omega) (by rw [brows_length, hS.sq.len]; exact hwv) ?_;refine Pick.T (by rw [brows_length, hS.sq.len]; simpa using hwv) ?_;refine Look.by _ (brows_get hS hwv) ?_;refine Idx.by x rfl (by rw [bools_length, (hS.sq.at_ hwv).2]; exact hxl) ?_;refine Look.by _ (brows_get hS hwv) ?_;refine Look.by _ (mat_get hS hwv hxl) ?_;refine Pick.by (fun hn3 => ?_) (fun hn3 => ?_)
    ·have hn3 : matAt M v x = true := hn3;refine Pick.T (by simp [cut, qiq] at hnl ⊢; omega) ?_;refine Pick.n ?_;refine Next.by (x + 1) (by omega) (by omega) (by refine Weak.bw (sg 0 [_,_,_,_,_,_,_,_,_]) (by ((repeat' first|exact rfl|exact trivial|apply And.intro) <;> (repeat' first|exact rfl|exact trivial|apply And.intro)); all_goals ((rw [hsucc, if_pos (by rw [hn2, hn3]; rfl), ints_snoc]; rfl))))
    ·have hn3 : matAt M v x = false := hn3;refine Pick.n ?_;refine Next.by (x + 1) (by omega) (by omega) (by refine Weak.bw (sg 0 [_,_,_,_,_,_,_,_,_]) (by ((repeat' first|exact rfl|exact trivial|apply And.intro) <;> (repeat' first|exact rfl|exact trivial|apply And.intro)); all_goals ((rw [hsucc, if_neg (by rw [hn2, hn3]; decide), List.append_nil]))))
   ·have hn2 : inAt I x = false := hn2;refine Pick.n ?_;refine Next.by (x + 1) (by omega) (by omega) (by refine Weak.bw (sg 0 [_,_,_,_,_,_,_,_,_]) (by ((repeat' first|exact rfl|exact trivial|apply And.intro) <;> (repeat' first|exact rfl|exact trivial|apply And.intro)); all_goals ((rw [hsucc, if_neg (by rw [hn2]; simp), List.append_nil]))))
  have hxe : x = n.toNat := by rw [bools_length, hS.il] at hn1; simp at hn1; omega
  subst hxe;have hmp := mayB_iff.1 hmt;have hL : (((List.range n.toNat).filter fun y => inAt I y && matAt M v y).map fun (y : Nat) => (y : Int)) = rowAt N v := by
   rw [<- hS.near hwv hi]; unfold nearM; rw [hS.il]
  have hgo := hS.go hwv hmp;obtain ⟨hs1, hs2⟩ := step_two hS.wf hmp rfl;rw [hL];refine Idx.by v rfl (by rw [bools_length, hS.il]; exact hwv) ?_;refine Look.by _ (in_get hS hwv) ?_;have hI2 : bools (I.set v false) = (bools I).set v [.b false] := by unfold bools; rw [List.map_set]
  rcases hs2 with ⟨hl, ea, eb, ed⟩ | ⟨a, hl, ea, eb, ed⟩ | ⟨a, b, hl, hab, ea, eb, ed⟩
  ·have hM : brows (goM N M v) = brows M := by unfold goM; rw [hl]
   rw [hl];refine Pick.T (by simp [cut, stps_length]; omega) ?_;refine Next.by (st ++ [stepF N v], doN N (stepF N v), doG G (stepF N v), I.set v false, goM N M v, 0) ⟨hgo, run_step hrun hS.wf hmt hst1 hmin, by dsimp only; rw [List.length_append, List.length_singleton]; omega, by dsimp only; omega, fun u hu => by unfold mayB; rw [decide_eq_false (by dsimp only at hu; omega)]; rfl⟩ (by dsimp only; rw [List.length_append, List.length_singleton]; exact mu_lt hst1) (by refine Weak.bw (sg 0 [_,_,_,_,_,_,_]) (by ((repeat' first|exact rfl|exact trivial|apply And.intro) <;> (repeat' first|exact rfl|exact trivial|apply And.intro)); all_goals ((first | (exact hM) | (rw [hI2]; rfl) | (rw [stps_snoc, hs1, ea, eb, ed]; rfl)))))
  ·have hM : brows (goM N M v) = brows M := by unfold goM; rw [hl]
   rw [hl];refine Idx.by 0 rfl (by simp [ints]) ?_;refine Look.by [.i .i64 a] rfl ?_;refine Pick.T (by simp [cut, stps_length]; omega) ?_;refine Next.by (st ++ [stepF N v], doN N (stepF N v), doG G (stepF N v), I.set v false, goM N M v, 0) ⟨hgo, run_step hrun hS.wf hmt hst1 hmin, by dsimp only; rw [List.length_append, List.length_singleton]; omega, by dsimp only; omega, fun u hu => by unfold mayB; rw [decide_eq_false (by dsimp only at hu; omega)]; rfl⟩ (by dsimp only; rw [List.length_append, List.length_singleton]; exact mu_lt hst1) (by refine Weak.bw (sg 0 [_,_,_,_,_,_,_]) (by ((repeat' first|exact rfl|exact trivial|apply And.intro) <;> (repeat' first|exact rfl|exact trivial|apply And.intro)); all_goals ((first | (exact hM) | (rw [hI2]; rfl) | (rw [stps_snoc, hs1, ea, eb, ed]; rfl)))))
  ·have ed := hS.step hwv hi hl;obtain ⟨a0, a1, a2⟩ := hS.inRow (u := v) (x := a) (by rw [hl]; simp);obtain ⟨b0, b1, b2⟩ := hS.inRow (u := v) (x := b) (by rw [hl]; simp);obtain ⟨a, rfl⟩ : ∃ c : Nat, a = c := ⟨a.toNat, by omega⟩;obtain ⟨b, rfl⟩ : ∃ c : Nat, b = c := ⟨b.toNat, by omega⟩;rw [Int.toNat_natCast, Int.toNat_natCast] at ed;have han : a < n.toNat := by omega
   have hbn : b < n.toNat := by omega
   have hs2 := hS.sq.set (v := b) han;have hM : brows (goM N M v) = ((brows M).set a ((bools (M.getD a [])).set b [.b true])).set b ((bools ((setM M a b).getD b [])).set a [.b true]) := by
    unfold goM; rw [hl]; dsimp only; rw [Int.toNat_natCast, Int.toNat_natCast, brows_set, brows_set]
   have hq1 : (brows M).set a ((bools (M.getD a [])).set b [.b true]) = brows (setM M a b) := (brows_set M a b).symm;have hq2 : ((brows M).set a ((bools (M.getD a [])).set b [.b true])).length = n.toNat := by rw [List.length_set, brows_length, hS.sq.len]
   rw [hl];refine Idx.by 0 rfl (by simp [ints]) ?_;refine Look.by [.i .i64 a] rfl ?_;refine Idx.by 1 rfl (by simp [ints]) ?_;refine Look.by [.i .i64 b] rfl ?_;refine Idx.by 0 rfl (by simp [ints]) ?_;refine Look.by [.i .i64 a] rfl ?_;refine Idx.by a rfl (by rw [brows_length, hS.sq.len]; exact han) ?_;refine Pick.T (by rw [brows_length, hS.sq.len]; simp; omega) ?_;refine Idx.by 1 rfl (by simp [ints]) ?_;refine Look.by [.i .i64 b] rfl ?_;refine Look.by _ (brows_at hS.sq han) ?_;refine Idx.by b rfl (by rw [bools_length, (hS.sq.at_ han).2]; exact hbn) ?_;refine Look.by _ (brows_at hS.sq han) ?_;refine Look.by _ (brow_at hS.sq han hbn) ?_;refine Seg.by (by kernel_rfl) ?_;refine Idx.by 0 rfl (by simp [ints]) ?_;refine Look.by [.i .i64 a] rfl ?_;refine Idx.by a rfl (by rw [brows_length, hS.sq.len]; exact han) ?_;refine Pick.T (by rw [brows_length, hS.sq.len]; simp; omega) ?_;refine Idx.by 1 rfl (by simp [ints]) ?_;refine Look.by [.i .i64 b] rfl ?_;refine Look.by _ (brows_at hS.sq han) ?_;refine Idx.by b rfl (by rw [bools_length, (hS.sq.at_ han).2]; exact hbn) ?_;refine Look.by _ (brows_at hS.sq han) ?_;refine Look.by _ (brow_at hS.sq han hbn) ?_;refine Seg.by (by kernel_rfl) ?_;refine Idx.by 1 rfl (by simp [ints]) ?_;refine Look.by [.i .i64 b] rfl ?_;refine Idx.by b rfl (by show b < ((brows M).set a ((bools (M.getD a [])).set b [.b true])).length; rw [hq2]; exact hbn) ?_;refine Pick.T (by show decide (b < ((brows M).set a ((bools (M.getD a [])).set b [.b true])).length) = true; rw [hq2]; simp; omega) ?_;refine Idx.by 0 rfl (by simp [ints]) ?_;refine Look.by [.i .i64 a] rfl ?_;refine Look.by _ (by show ((brows M).set a ((bools (M.getD a [])).set b [.b true]))[b]? = _; rw [hq1]; exact brows_at hs2 hbn) ?_;refine Idx.by a rfl (by rw [bools_length, (hs2.at_ hbn).2]; exact han) ?_;refine Look.by _ (by show ((brows M).set a ((bools (M.getD a [])).set b [.b true]))[b]? = _; rw [hq1]; exact brows_at hs2 hbn) ?_;refine Look.by _ (brow_at hs2 hbn han) ?_;refine Seg.by (by kernel_rfl) ?_;refine Pick.T (by simp [cut, stps_length]; omega) ?_;refine Next.by (st ++ [stepF N v], doN N (stepF N v), doG G (stepF N v), I.set v false, goM N M v, 0) ⟨hgo, run_step hrun hS.wf hmt hst1 hmin, by dsimp only; rw [List.length_append, List.length_singleton]; omega, by dsimp only; omega, fun u hu => by unfold mayB; rw [decide_eq_false (by dsimp only at hu; omega)]; rfl⟩ (by dsimp only; rw [List.length_append, List.length_singleton]; exact mu_lt hst1) (by refine Weak.bw (sg 0 [_,_,_,_,_,_,_]) (by ((repeat' first|exact rfl|exact trivial|apply And.intro) <;> (repeat' first|exact rfl|exact trivial|apply And.intro)); all_goals ((first | (exact hM) | (rw [hI2]; rfl) | (rw [stps_snoc, hs1, ea, eb, ed]; rfl)))))
 ·have hvn : v = n.toNat := by simp at hc; omega
  have hno : ∀ u, mayB N G u ≠ true := fun u hu => by
   have h3 := (mayB_iff.1 hu).hi;rw [hS.len] at h3;rw [hno u (by omega)] at hu; cases hu
  rw [runS_end (firstMay_none hno), List.append_nil] at hrun;rw [hrun]
  clear hno hrun
  have hst4 : st.length <= 1000 := by omega
  have hmo := hS.wf.most;have hNn := hS.len;refine LoopP.intro (α := Nat) (fun j => j <= n.toNat) (fun j => n.toNat - j) (fun j => [(0, .ptr 2 0), (4, .ptr 7 0), (5, .ptr 8 0), (6, .s (.i .i64 j)), (1000001, .ptr 0 0), (1000002, .ptr 5 0)])
   (fun j => [(0, some (.blk [.s (.i .i64 n), .sl 1 none none])), (1, some (.flat false 2 (edges E))), (2, some (.blk [.sl 3 none none, .sl 4 none none])), (3, some (.flat true 1 (bools I))), (4, some (.nest true 1 (brows M) [] [])), (5, some (.blk [.nils, .nils, .nils])), (6, some (.flat true 4 (stps st))), (7, some (.blk [.nils, .nils, .nils])), (8, some (.blk [.sl 6 none none, .sl 9 none none, .sl 10 none none])), (9, some (.flat true 1 (ints (leftK G j)))), (10, some (.flat true 2 (edges (edgesK N G j))))]) 11 0 (by omega) (by refine Weak.ba [(0, some _), (1, some _), (2, some _), (3, some _), (4, some _), (5, some _), (6, some _), (7, some _), (8, some _), (9, none), (10, none)]) ?_
  rintro j hj;have hlk := leftK_len G j;have hek := edgesK_len hS.wf j;refine Pick.by (fun hd1 => ?_) (fun hd1 => ?_)
  ·have hjl : j < n.toNat := by rw [bools_length, hS.il] at hd1; simp at hd1; omega
   have hgj := hS.inn j hjl;rw [goneAt_nat] at hgj;refine Idx.by j rfl (by rw [bools_length, hS.il]; exact hjl) ?_;refine Look.by _ (in_get hS hjl) ?_;refine Pick.by (fun hd2 => ?_) (fun hd2 => ?_)
   ·have hd2 : (!inAt I j) = true := hd2;have hd2 : G.getD j false = true := by rw [hgj] at hd2; simpa using hd2
    refine Pick.n ?_;refine Next.by (j + 1) (by omega) (by omega) (by refine Weak.bw (sg 0 [_,_,_,_,_,_,_,_,_,_,_]) (by ((repeat' first|exact rfl|exact trivial|apply And.intro) <;> (repeat' first|exact rfl|exact trivial|apply And.intro)); all_goals ((first | (rw [leftK_succ, if_pos hd2, List.append_nil]) | (rw [edgesK_succ, if_pos hd2, List.append_nil])))))
   have hd2 : (!inAt I j) = false := hd2;have hij : inAt I j = true := by simpa using hd2
   have hd2 : G.getD j false = false := by rw [hgj] at hd2; simpa using hd2
   have hl1 : leftK G (j + 1) = leftK G j ++ [(j : Int)] := by rw [leftK_succ, if_neg (by rw [hd2]; simp)]
   have he1 : edgesK N G (j + 1) = edgesK N G j ++ outE N j := by rw [edgesK_succ, if_neg (by rw [hd2]; simp)]
   refine Pick.T (by simp [cut, qiq]; omega) ?_;refine Pick.n ?_;refine LoopP.intro (α := Nat) (fun x => j + 1 <= x /\ x <= n.toNat) (fun x => n.toNat - x) (fun x => [(0, .ptr 2 0), (4, .ptr 7 0), (5, .ptr 8 0), (6, .s (.i .i64 j)), (7, .s (.i .i64 x)), (1000001, .ptr 0 0), (1000002, .ptr 5 0)])
    (fun x => [(0, some (.blk [.s (.i .i64 n), .sl 1 none none])), (1, some (.flat false 2 (edges E))), (2, some (.blk [.sl 3 none none, .sl 4 none none])), (3, some (.flat true 1 (bools I))), (4, some (.nest true 1 (brows M) [] [])), (5, some (.blk [.nils, .nils, .nils])), (6, some (.flat true 4 (stps st))), (7, some (.blk [.nils, .nils, .nils])), (8, some (.blk [.sl 6 none none, .sl 9 none none, .sl 10 none none])), (9, some (.flat true 1 (ints (leftK G (j + 1))))), (10, some (.flat true 2 (edges (edgesK N G j ++ innerK I M j x))))]) 11 (j + 1) ⟨by omega, by omega⟩ (by refine Weak.bw (sg 0 [_,_,_,_,_,_,_,_,_,_,_]) (by ((repeat' first|exact rfl|exact trivial|apply And.intro) <;> (repeat' first|exact rfl|exact trivial|apply And.intro)); all_goals ((first | (rw [hl1, ints_snoc]; rfl) | (rw [innerK_start, List.append_nil]))))) ?_
   rintro x ⟨hx1, hx⟩;have hil := innerK_len I M j x;refine Pick.by (fun hd3 => ?_) (fun hd3 => ?_)
   ·have hxl : x < n.toNat := by rw [bools_length, hS.il] at hd3; simp at hd3; omega
    refine Idx.by x rfl (by rw [bools_length, hS.il]; exact hxl) ?_;refine Look.by _ (in_get hS hxl) ?_;refine Pick.by (fun hd4 => ?_) (fun hd4 => ?_)
    ·have hd4 : inAt I x = true := hd4;refine Idx.by j rfl (by rw [brows_length, hS.sq.len]; exact hjl) ?_;refine Pick.T (by rw [brows_length, hS.sq.len]; simp; omega) ?_;refine Look.by _ (brows_get hS hjl) ?_;refine Idx.by x rfl (by rw [bools_length, (hS.sq.at_ hjl).2]; exact hxl) ?_;refine Look.by _ (brows_get hS hjl) ?_;refine Look.by _ (mat_get hS hjl hxl) ?_;refine Pick.by (fun hd5 => ?_) (fun hd5 => ?_)
     ·have hd5 : matAt M j x = true := hd5;refine Pick.T (by simp [cut, qeq] at hil ⊢; omega) ?_;refine Pick.n ?_;refine Next.by (x + 1) ⟨by omega, by omega⟩ (by omega) (by refine Weak.bw (sg 0 [_,_,_,_,_,_,_,_,_,_,_]) (by ((repeat' first|exact rfl|exact trivial|apply And.intro) <;> (repeat' first|exact rfl|exact trivial|apply And.intro)); all_goals ((rw [innerK_succ hx1, if_pos (by rw [hd4, hd5]; rfl), <- List.append_assoc, edges_snoc]; rfl))))
     ·have hd5 : matAt M j x = false := hd5;refine Pick.n ?_;refine Next.by (x + 1) ⟨by omega, by omega⟩ (by omega) (by refine Weak.bw (sg 0 [_,_,_,_,_,_,_,_,_,_,_]) (by ((repeat' first|exact rfl|exact trivial|apply And.intro) <;> (repeat' first|exact rfl|exact trivial|apply And.intro)); all_goals ((rw [innerK_succ hx1, if_neg (by rw [hd4, hd5]; decide), List.append_nil]))))
    ·have hd4 : inAt I x = false := hd4;refine Pick.n ?_;refine Next.by (x + 1) ⟨by omega, by omega⟩ (by omega) (by refine Weak.bw (sg 0 [_,_,_,_,_,_,_,_,_,_,_]) (by ((repeat' first|exact rfl|exact trivial|apply And.intro) <;> (repeat' first|exact rfl|exact trivial|apply And.intro)); all_goals ((rw [innerK_succ hx1, if_neg (by rw [hd4]; simp), List.append_nil]))))
   ·have hxe : x = n.toNat := by rw [bools_length, hS.il] at hd3; simp at hd3; omega
    refine Pick.n ?_;refine Next.by (j + 1) (by omega) (by omega) (by refine Weak.bw (sg 0 [_,_,_,_,_,_,_,_,_,_,_]) (by ((repeat' first|exact rfl|exact trivial|apply And.intro) <;> (repeat' first|exact rfl|exact trivial|apply And.intro)); all_goals ((rw [he1, hxe, innerK_end hS hjl hij]))))
  have hje : j = n.toNat := by rw [bools_length, hS.il] at hd1; simp at hd1; omega
  subst hje;have hGl : G.length = n.toNat := by rw [hS.wf.len, hS.len]
  have e1 : leftF G = leftK G n.toNat := by unfold leftF leftK; rw [hGl]
  have e2 : edgesF N G = edgesK N G n.toNat := by unfold edgesF edgesK; rw [e1]
  refine ⟨rfl, ?_⟩
  (repeat' first|exact rfl|exact trivial|apply And.intro)
  all_goals (first | exact congrArg ints e1 | exact congrArg edges e2)
end Go.Sh
namespace Go.Sh
open Go.Proofs
theorem Narrow10_ok : SoundC Tryz.prog T 42 NarrowC := by
 refine sound_con (X := { Γ := [(31, RightC), (71, Run10C)], T := T, nt := 14 }) cr_none hmix hT (sound_cons Right3_ok (sound_cons Run10_ok sound_nil)) Tryz.func42 (by rfl) (by rfl) (by rfl) (by rfl) 2 ?_
 rintro ⟨n, E⟩ -
 refine two_le ?_
 refine Call.by _ _ (Run10C_at n E) ?_
 refine Call.by _ _ (RightC_at n E) ?_
 refine Pick.by (fun h1 => ?_) (fun h1 => ?_)
 ·have h1 : RightP n E := by have h1 : decide (RightP n E) = true := h1; simpa using h1
  refine ⟨rfl, ?_⟩;show Sc.b ((((ints (runO n E).2.1).length : Nat) : Int) == 0) = Sc.b (narrowB n E)
  unfold narrowB;rw [decide_eq_true h1, Bool.true_and, qiq]
  congr 1
  rw [Bool.eq_iff_iff];simp
 ·have h1 : ¬ RightP n E := by have h1 : decide (RightP n E) = false := h1; simpa using h1
  refine ⟨rfl, ?_⟩;show Sc.b false = Sc.b (narrowB n E)
  unfold narrowB;rw [decide_eq_false h1, Bool.false_and]
end Go.Sh
namespace Go.Sh
end Go.Sh
namespace Go.Sh
end Go.Sh
namespace Go.Sh
end Go.Sh
namespace Go.Sh
theorem inner_not {p : List Int} {i : Nat} (hi : i < p.length) (h : p.getD i 0 ∉ innerL p) : i = 0 \/ i + 1 = p.length := by
 rcases Nat.eq_zero_or_pos i with h0 | h0
 ·exact .inl h0
 ·refine .inr ?_;by_cases h1 : i + 1 = p.length
  ·exact h1
  ·exact absurd (mem_inner.2 ⟨i - 1, by omega, by rw [getD_at hi]; congr 1; omega⟩) h
theorem pairs_apart {n : Int} {E : List Ed} {k : Int} {T : List Int} {L : List (List Int)} (h : SubP n E k T L) {i j s t : Nat} {p q : List Int} (hp : L[i]? = some p) (hq : L[j]? = some q) (hij : i ≠ j) (hs : s + 1 < p.length) (ht : t + 1 < q.length) : ¬ sameP (p.getD s 0) (p.getD (s + 1) 0) (q.getD t 0) (q.getD (t + 1) 0) := by
 intro hS
 have hT := sub_tops h
 obtain ⟨hsh, hf, ha⟩ := id h
 have no1 : ∀ v, v ∈ p -> v ∈ q -> v ∉ innerL p := fun v h1 h2 h3 => by
  have := ha p (qMq hp) v h3;have := cnt_at hp hq hij h1 h2;omega
 have no2 : ∀ v, v ∈ p -> v ∈ q -> v ∉ innerL q := fun v h1 h2 h3 => by
  have := ha q (qMq hq) v h3;have := cnt_at hp hq hij h1 h2;omega
 have q0 := getD_mem (p := q) (i := t) (by omega)
 have q1 := getD_mem (p := q) (i := t + 1) ht
 have p0 := getD_mem (p := p) (i := s) (by omega)
 have p1 := getD_mem (p := p) (i := s + 1) hs
 have a1 : p.getD s 0 ∈ q := by rcases hS with ⟨k, _⟩ | ⟨k, _⟩ <;> rw [k] <;> assumption
 have a2 : p.getD (s + 1) 0 ∈ q := by rcases hS with ⟨_, k⟩ | ⟨_, k⟩ <;> rw [k] <;> assumption
 have b1 : q.getD t 0 ∈ p := by rcases hS with ⟨k, k'⟩ | ⟨k, k'⟩ <;> first | (rw [<- k]; assumption) | (rw [<- k']; assumption)
 have b2 : q.getD (t + 1) 0 ∈ p := by rcases hS with ⟨k, k'⟩ | ⟨k, k'⟩ <;> first | (rw [<- k']; assumption) | (rw [<- k]; assumption)
 have c1 := inner_not (by omega) (no1 _ p0 a1)
 have c2 := inner_not hs (no1 _ p1 a2)
 have c3 := inner_not (by omega) (no2 _ b1 q0)
 have c4 := inner_not ht (no2 _ b2 q1)
 have hs0 : s = 0 := by omega
 have ht0 : t = 0 := by omega
 have lp : p.length = 2 := by omega
 have lq : q.length = 2 := by omega
 subst hs0 ht0
 obtain ⟨_, f1, f2, f3⟩ := hf i p hp
 obtain ⟨_, g1, g2, g3⟩ := hf j q hq
 rw [headD_at (by omega)] at f1 g1
 rw [lastD_at, lp] at f2
 rw [lastD_at, lq] at g2
 have f2 : p.getD (0 + 1) 0 = _ := f2
 have g2 : q.getD (0 + 1) 0 = _ := g2
 rw [f1, f2, g1, g2] at hS
 have hi := (qSq.1 hp).1
 have hj := (qSq.1 hq).1
 rcases hsh with ⟨rfl, hT4, hL⟩ | ⟨rfl, hT2, hL⟩
 ·match T, hT4, hT with
  | [a, b, c, d], _, hT =>
   simp only [List.nodup_cons, List.mem_cons, List.not_mem_nil, or_false, not_or, List.nodup_nil, not_false_eq_true, and_true] at hT;obtain ⟨⟨n1, n2, n3⟩, ⟨n4, n5⟩, n6⟩ := hT;have hi6 : i = 0 \/ i = 1 \/ i = 2 \/ i = 3 \/ i = 4 \/ i = 5 := by omega
   have hj6 : j = 0 \/ j = 1 \/ j = 2 \/ j = 3 \/ j = 4 \/ j = 5 := by omega
   unfold sameP at hS;rcases hi6 with rfl | rfl | rfl | rfl | rfl | rfl <;> rcases hj6 with rfl | rfl | rfl | rfl | rfl | rfl <;> first | exact hij rfl | (simp [prsT] at hS; omega)
 ·omega
end Go.Sh
