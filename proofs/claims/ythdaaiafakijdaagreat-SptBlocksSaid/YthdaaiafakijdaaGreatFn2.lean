/- What the functions answer that the statement reaches. No condition. -/
import Derived.Test.YthdaaiafakijdaaGreatFn1
import Derived.RangeFuncBox
import Derived.RangeFuncLeaves
import Derived.Shelf.Abstract
import Derived.WalkKit
import Derived.OwnWalkIn
import Derived.TacticsInMore
import Derived.LoopNIn
import Derived.LoopIn
import Derived.Maps.AppendAt
import Derived.Test.YthdaaiafakijdaaGreatProg
import Derived.Shelf.Sort.Plain
import Derived.Shelf.Slices.In.SortNone
import Derived.Shelf.Slices.CompactI
import Derived.Ground.NamesProg
import Derived.Ground.Names2Prog
import Derived.Sort.OwnSorted
import Derived.Shelf.SlIterI.Sorted
import Derived.Deep.RegionLaw
set_option linter.unusedVariables false
set_option linter.unusedSimpArgs false
set_option linter.unusedSectionVars false
namespace Go.Sh
open Go.Proofs
def placeF (n : Nat) (l : List Int) : List Int := (List.range n).map fun (v : Nat) => if (v : Int) ∈ l then ((l.idxOf (v : Int) : Nat) : Int) + 1 else 0
theorem placeF_len {n : Nat} {l : List Int} : (placeF n l).length = n := by simp [placeF]
theorem placeF_zero {n : Nat} : ints (placeF n []) = List.replicate n [.i .i64 0] := by
 have : placeF n [] = List.replicate n 0 := by
  rw [List.eq_replicate_iff];refine ⟨placeF_len, fun x hx => ?_⟩;obtain ⟨v, _, rfl⟩ := List.mem_map.1 hx;simp
 rw [this]; simp [ints]
theorem placeF_at {n : Nat} {l : List Int} {v : Int} (h0 : 0 <= v) (h1 : v.toNat < n) : (placeF n l).getD v.toNat 0 = if v ∈ l then ((l.idxOf v : Nat) : Int) + 1 else 0 := by
 unfold placeF
 rw [qDq, List.getElem?_map, List.getElem?_range h1]
 show (if ((v.toNat : Nat) : Int) ∈ l then _ else _) = _
 rw [Int.toNat_of_nonneg h0]
theorem placeF_snoc {n : Nat} {l : List Int} {v : Int} (h0 : 0 <= v) (h1 : v.toNat < n) (hv : v ∉ l) : placeF n (l ++ [v]) = (placeF n l).set v.toNat ((l.length : Nat) + 1) := by
 apply List.ext_getElem?
 intro i
 by_cases hi : i < n
 ·unfold placeF;rw [List.getElem?_set, List.getElem?_map, List.getElem?_range hi, List.getElem?_map, List.getElem?_range hi, List.length_map, List.length_range];by_cases e : v.toNat = i
  ·subst e;rw [if_pos rfl, if_pos hi, Option.map_some, Int.toNat_of_nonneg h0, if_pos (by simp), List.idxOf_append, if_neg hv];simp
  ·rw [if_neg e, Option.map_some, Option.map_some];have hne : (i : Int) ≠ v := fun h => e (by omega)
   by_cases hm : (i : Int) ∈ l
   ·rw [if_pos (by simp [hm]), if_pos hm, List.idxOf_append, if_pos hm]
   ·rw [if_neg (by simp [hm, hne]), if_neg hm]
 ·rw [List.getElem?_eq_none (by rw [placeF_len]; omega), List.getElem?_eq_none (by rw [List.length_set, placeF_len]; omega)]
def ownP (l : List Int) (e : Ed) : Bool := l.elem e.1 && l.elem e.2
def ownG (l : List Int) (E : List Ed) : List Ed := (E.filter (ownP l)).map fun e => (((l.idxOf e.1 : Nat) : Int), ((l.idxOf e.2 : Nat) : Int))
theorem ownG_snoc {l : List Int} {E : List Ed} {e : Ed} : ownG l (E ++ [e]) = if e.1 ∈ l /\ e.2 ∈ l then ownG l E ++ [(((l.idxOf e.1 : Nat) : Int), ((l.idxOf e.2 : Nat) : Int))] else ownG l E := by
 unfold ownG
 rw [List.filter_append]
 by_cases h : e.1 ∈ l /\ e.2 ∈ l
 ·have : ownP l e = true := by unfold ownP; simp [h.1, h.2]
  rw [if_pos h]; simp [this]
 ·have : ownP l e = false := by unfold ownP; rw [Bool.and_eq_false_iff]; by_cases h1 : e.1 ∈ l <;> by_cases h2 : e.2 ∈ l <;> simp_all
  rw [if_neg h]; simp [this]
theorem ownG_len {l : List Int} {E : List Ed} : (ownG l E).length <= E.length := by unfold ownG; rw [List.length_map]; exact List.length_filter_le _ _
def PlaceP (n : Int) (l : List Int) : Prop := l.Nodup /\ ∀ v ∈ l, 0 <= v /\ v < n
def TwoP (n : Int) (E : List Ed) (l : List Int) : Prop := RightP n E /\ 2 <= l.length /\ PlaceP n l /\ Bic (nbrs l.length (normE (ownG l E)))
noncomputable def twoB (n : Int) (E : List Ed) (l : List Int) : Bool := @decide (TwoP n E l) (Classical.propDecidable _)
theorem twoB_no {n : Int} {E : List Ed} {l : List Int} (h : ¬ TwoP n E l) : Sc.b false = Sc.b (twoB n E l) := by
 congr 1; symm; exact @decide_eq_false _ (Classical.propDecidable _) h
theorem twoB_iff {n : Int} {E : List Ed} {l : List Int} : twoB n E l = true ↔ TwoP n E l := by unfold twoB; exact @decide_eq_true_iff _ (Classical.propDecidable _)
noncomputable def TwoC : Con := conP 2 (fun a : (Int × List Ed) × List Int => a.2.length <= 1000) (fun a => [grV a.1.1 a.1.2, .one (.flat false 1 (ints a.2))]) (fun a => .one (.s (.b (twoB a.1.1 a.1.2 a.2))))
theorem TwoC_at {n : Int} {E : List Ed} {l : List Int} (h : l.length <= 1000) : TwoC.F [grV n E, .one (.flat false 1 (ints l))] = some (.one (.s (.b (twoB n E l))), []) :=
 conP_at (a := ((n, E), l)) (fun x y _ _ h => by
  obtain ⟨⟨n, E⟩, l⟩ := x;obtain ⟨⟨n', E'⟩, l'⟩ := y;simp at h;obtain ⟨h1, h2⟩ := h;obtain ⟨rfl, rfl⟩ := grV_inj h1;rw [ints_inj h2]) h
noncomputable def XTwo : Cx := { Γ := [(49, RightC), (77, NormC)], T := T, nt := 118, inl := [(24, inlF Tryz.f24)], ext := [64], base := orCR (frameCR 61 16 (SpecD 61 fuelD)) (fnestFnCR 64 65 1 (sortNP goodL cmpL) (sortN cmpL)) }
theorem XTwo_s : Sound Tryz.prog T XTwo.Γ := sound_cons RightG_ok (sound_cons NormG_ok sound_nil)
theorem XTwo_ok : CrOk Tryz.prog (callAt 2 XTwo) := callAt_ok hmix hT XTwo_s (inl_cons Tryz.func24 (by rfl) (by rfl) (by rfl) inl_nil) (or_ok (frame_ok (visit_spec fuelD)) (fnestFn_ok SortB_row)) 2
set_option maxRecDepth 200000 in
set_option maxHeartbeats 4000000 in
theorem Two_ok : SoundC Tryz.prog T 33 TwoC := by
 refine sound_con (X := XTwo) (cr := callAt 2 XTwo) XTwo_ok hmix hT XTwo_s Tryz.func33 (by rfl) (by rfl) (by rfl) (by rfl) 3 ?_
 rintro ⟨⟨n, E⟩, l⟩ hl
 dsimp only at hl ⊢
 refine two_le ?_
 refine Call.by _ _ (RightC_at n E) ?_
 refine Pick.by (fun h1 => ?_) (fun h1 => ?_)
 ·have h1 : ¬ RightP n E := by have h1 : (!decide (RightP n E)) = true := h1; simpa using h1
  refine ⟨rfl, ?_⟩;exact twoB_no fun h => h1 h.1
 have h1 : RightP n E := by have h1 : (!decide (RightP n E)) = false := h1; simpa using h1
 have hll := qiq l
 refine Pick.by (fun h2 => ?_) (fun h2 => ?_)
 ·have h2 : l.length < 2 := by have := of_decide_eq_true h2; omega
  refine ⟨rfl, ?_⟩;exact twoB_no fun h => by have := h.2.1; omega
 have h2 : 2 <= l.length := by have := of_decide_eq_false h2; omega
 have hn0 := h1.1
 have hn1 := h1.2.1
 have hEl := h1.2.2.1
 refine Pick.T (by simp) ?_
 refine Idx.by n.toNat (by omega) (by omega) ?_
 refine LoopP.intro (α := Nat) (fun i => i <= l.length /\ PlaceP n (l.take i)) (fun i => l.length - i) (fun i => [(1, .sl 2 none none), (2, .ptr 0 0), (5, .sl 3 none none), (23, .sl 2 none none), (24, .s (.i .i64 l.length)), (25, .s (.i .i64 i))])
  (fun i => [(0, some (.blk [.s (.i .i64 n), .sl 1 none none])), (1, some (.flat false 2 (edges E))), (2, some (.flat false 1 (ints l))), (3, some (.flat true 1 (ints (placeF n.toNat (l.take i)))))]) 4 0 ⟨by omega, by simp, by simp⟩ (by refine Weak.bw (sg 0 [_,_,_,_]) (by ((repeat' first|exact rfl|exact trivial|apply And.intro) <;> (repeat' first|exact rfl|exact trivial|apply And.intro)); all_goals ((first|exact sc_eq (by rw [qiq]) | exact placeF_zero.symm | exact placeF_zero)))) ?_
 rintro i ⟨hi, hp⟩
 refine Pick.by (fun hc => ?_) (fun hc => ?_)
 ·have hlt : i < l.length := by have := of_decide_eq_true hc; omega
  obtain ⟨v, hv⟩ : ∃ v, l[i] = v := ⟨_, rfl⟩;have hli : l[i]? = some v := by rw [qEq hlt, hv]
  have hvm : v ∈ l := qMq hli;have hts : l.take (i + 1) = l.take i ++ [v] := by rw [List.take_add_one, hli]; rfl
  refine Idx.by i rfl (by rw [qiq]; exact hlt) ?_;refine Look.by _ (qhq hli) ?_;refine Pick.by (fun h3 => ?_) (fun h3 => ?_)
  ·have h3 : v < 0 := of_decide_eq_true h3;refine ⟨rfl, ?_⟩;exact twoB_no fun h => by have := (h.2.2.1.2 v hvm).1; omega
  have h3 : ¬ v < 0 := of_decide_eq_false h3;refine Pick.by (fun h4 => ?_) (fun h4 => ?_)
  ·have h4 : n <= v := of_decide_eq_true h4;refine ⟨rfl, ?_⟩;exact twoB_no fun h => by have := (h.2.2.1.2 v hvm).2; omega
  have h4 : ¬ n <= v := of_decide_eq_false h4;have hpl : (ints (placeF n.toNat (l.take i))).length = n.toNat := by rw [qiq, placeF_len]
  have hpg : (ints (placeF n.toNat (l.take i)))[v.toNat]? = some [.i .i64 ((placeF n.toNat (l.take i)).getD v.toNat 0)] := qhq (by rw [qDq, qEq (by rw [placeF_len]; omega)]; rfl);have hpv := placeF_at (n := n.toNat) (l := l.take i) (v := v) (by omega) (by omega);refine Idx.by v.toNat (by omega) (by rw [hpl]; omega) ?_;refine Look.by _ hpg ?_;refine Pick.by (fun h5 => ?_) (fun h5 => ?_)
  ·have h5 : 0 < (placeF n.toNat (l.take i)).getD v.toNat 0 := of_decide_eq_true h5;have hvi : v ∈ l.take i := Classical.byContradiction fun hc => by rw [hpv, if_neg hc] at h5; omega
   refine ⟨rfl, ?_⟩;refine twoB_no fun h => ?_
   have hn : (l.take (i + 1)).Nodup := h.2.2.1.1.sublist (List.take_sublist _ _);rw [hts, List.nodup_append] at hn;exact hn.2.2 v hvi v (by simp) rfl
  have h5 : ¬ 0 < (placeF n.toNat (l.take i)).getD v.toNat 0 := of_decide_eq_false h5;have hvi : v ∉ l.take i := fun hc => by rw [hpv, if_pos hc] at h5; omega
  refine Pick.n ?_;refine Idx.by v.toNat (by omega) (by rw [hpl]; omega) ?_;refine Look.by _ hpg ?_;refine Pick.n ?_;have hpp : PlaceP n (l.take (i + 1)) := by
   rw [hts];refine ⟨List.nodup_append.2 ⟨hp.1, by simp, fun a ha b hb e => by simp at hb; subst hb; exact hvi (e ▸ ha)⟩, fun x hx => ?_⟩;rcases List.mem_append.1 hx with hx | hx
   ·exact hp.2 x hx
   ·have : x = v := by simpa using hx
    omega
  have hst : ints (placeF n.toNat (l.take (i + 1))) = List.set (ints (placeF n.toNat (l.take i))) v.toNat [.i .i64 ((i : Int) + 1)] := by
   rw [hts, placeF_snoc (by omega) (by omega) hvi, ints_set, List.length_take, Nat.min_eq_left (by omega)]
  refine Next.by (i + 1) ⟨by omega, hpp⟩ (by omega) (by refine Weak.bw (sg 0 [_,_,_,_]) (by ((repeat' first|exact rfl|exact trivial|apply And.intro) <;> (repeat' first|exact rfl|exact trivial|apply And.intro)); all_goals ((first|exact sc_eq (by omega) | exact hst))))
 have hil : i = l.length := by have := of_decide_eq_false hc; omega
 subst hil
 rw [List.take_length] at hp ⊢
 refine LoopP.intro (α := Nat) (fun j => j <= E.length) (fun j => E.length - j) (fun j => [(1, .sl 2 none none), (5, .sl 3 none none), (8, .ptr 4 0), (55, .sl 1 none none), (56, .s (.i .i64 E.length)), (57, .s (.i .i64 j))])
  (fun j => [(1, some (.flat false 2 (edges E))), (2, some (.flat false 1 (ints l))), (3, some (.flat false 1 (ints (placeF n.toNat l)))), (4, some (.blk [.s (.i .i64 l.length), .sl 5 none none])), (5, some (.flat true 2 (edges (ownG l (E.take j)))))]) 6 0 (by omega) (by refine Weak.bf [3] [(1, some _), (2, some _), (3, some _), (4, some _), (5, none)] (by ((repeat' first|exact rfl|exact trivial|apply And.intro) <;> (repeat' first|exact rfl|exact trivial|apply And.intro)); all_goals ((first|exact sc_eq (by rw [qeq]) | exact sc_eq (by rw [qiq])))) (by rfl)) ?_
 rintro j hj
 have hpg : ∀ {v : Int}, 0 <= v -> v < n -> (ints (placeF n.toNat l))[v.toNat]? = some [.i .i64 ((placeF n.toNat l).getD v.toNat 0)] := fun {v} h0 h1 => qhq (by rw [qDq, qEq (by rw [placeF_len]; omega)]; rfl)
 have hpl : (ints (placeF n.toNat l)).length = n.toNat := by rw [qiq, placeF_len]
 have hpv : ∀ {v : Int}, 0 <= v -> v < n -> (placeF n.toNat l).getD v.toNat 0 = if v ∈ l then ((l.idxOf v : Nat) : Int) + 1 else 0 := fun h0 h1 => placeF_at h0 (by omega)
 have hix : ∀ {v : Int}, v ∈ l -> l.idxOf v < l.length := fun h => List.idxOf_lt_length_of_mem h
 refine Pick.by (fun hc => ?_) (fun hc => ?_)
 ·have hlt : j < E.length := by have := of_decide_eq_true hc; omega
  obtain ⟨x, hx⟩ : ∃ x, E[j] = x := ⟨_, rfl⟩;have hEj : E[j]? = some x := by rw [qEq hlt, hx]
  have hok := h1.2.2.2.1 x (qMq hEj);unfold okE at hok;have hts : ownG l (E.take (j + 1)) = if x.1 ∈ l /\ x.2 ∈ l then ownG l (E.take j) ++ [(((l.idxOf x.1 : Nat) : Int), ((l.idxOf x.2 : Nat) : Int))] else ownG l (E.take j) := by
   rw [List.take_add_one, hEj]; exact ownG_snoc
  have hol : (ownG l (E.take j)).length <= 4000 := Nat.le_trans ownG_len (by rw [List.length_take]; omega);refine Idx.by j rfl (by rw [qeq]; exact hlt) ?_;refine Look.by _ (edges_get hEj) ?_;refine Idx.by x.1.toNat (by omega) (by rw [hpl]; omega) ?_;refine Look.by _ (hpg (by omega) (by omega)) ?_;have skip : ¬ (x.1 ∈ l /\ x.2 ∈ l) -> edges (ownG l (E.take (j + 1))) = edges (ownG l (E.take j)) := fun h => by rw [hts, if_neg h]
  refine Pick.by (fun h3 => ?_) (fun h3 => ?_)
  ·have h3 : 0 < (placeF n.toNat l).getD x.1.toNat 0 := of_decide_eq_true h3;have m1 : x.1 ∈ l := Classical.byContradiction fun hc => by rw [hpv (by omega) (by omega), if_neg hc] at h3; omega
   refine Idx.by x.2.toNat (by omega) (by rw [hpl]; omega) ?_;refine Look.by _ (hpg (by omega) (by omega)) ?_;refine Pick.by (fun h4 => ?_) (fun h4 => ?_)
   ·have h4 : 0 < (placeF n.toNat l).getD x.2.toNat 0 := of_decide_eq_true h4;have m2 : x.2 ∈ l := Classical.byContradiction fun hc => by rw [hpv (by omega) (by omega), if_neg hc] at h4; omega
    have p1 := hpv (v := x.1) (by omega) (by omega);have p2 := hpv (v := x.2) (by omega) (by omega);rw [if_pos m1] at p1;rw [if_pos m2] at p2;have i1 := hix m1;have i2 := hix m2;refine Idx.by x.1.toNat (by omega) (by rw [hpl]; omega) ?_;refine Look.by _ (hpg (by omega) (by omega)) ?_;refine Pick.n ?_;refine Idx.by x.2.toNat (by omega) (by rw [hpl]; omega) ?_;refine Look.by _ (hpg (by omega) (by omega)) ?_;refine Pick.n ?_;refine Pick.T (by rw [decide_eq_true_iff, qeq]; show _ + 1 <= _; omega) ?_;refine Seg.by (by kernel_rfl) ?_;refine Pick.n ?_;refine Next.by (j + 1) (by omega) (by omega) (by refine Weak.bw [(1, some _), (2, some _), (3, some _), (4, some _), (5, some _)] (by ((repeat' first|exact rfl|exact trivial|apply And.intro) <;> (repeat' first|exact rfl|exact trivial|apply And.intro)); all_goals ((first|exact sc_eq (by omega) | (rw [hts, if_pos ⟨m1, m2⟩, edges_snoc]; dsimp only; rw [p1, p2, Int.add_sub_cancel, Int.add_sub_cancel]; rfl)))))
   ·have h4 : ¬ 0 < (placeF n.toNat l).getD x.2.toNat 0 := of_decide_eq_false h4;have m2 : x.2 ∉ l := fun hc => by rw [hpv (by omega) (by omega), if_pos hc] at h4; omega
    refine Pick.n ?_;refine Next.by (j + 1) (by omega) (by omega) (by refine Weak.bw [(1, some _), (2, some _), (3, some _), (4, some _), (5, some _)] (by ((repeat' first|exact rfl|exact trivial|apply And.intro) <;> (repeat' first|exact rfl|exact trivial|apply And.intro)); all_goals ((first|exact sc_eq (by omega) | exact skip (fun h => m2 h.2)))))
  ·have h3 : ¬ 0 < (placeF n.toNat l).getD x.1.toNat 0 := of_decide_eq_false h3;have m1 : x.1 ∉ l := fun hc => by rw [hpv (by omega) (by omega), if_pos hc] at h3; omega
   refine Pick.n ?_;refine Next.by (j + 1) (by omega) (by omega) (by refine Weak.bw [(1, some _), (2, some _), (3, some _), (4, some _), (5, some _)] (by ((repeat' first|exact rfl|exact trivial|apply And.intro) <;> (repeat' first|exact rfl|exact trivial|apply And.intro)); all_goals ((first|exact sc_eq (by omega) | exact skip (fun h => m1 h.1)))))
 have hjl : j = E.length := by have := of_decide_eq_false hc; omega
 subst hjl
 rw [List.take_length]
 have hol : (ownG l E).length <= 4000 := Nat.le_trans ownG_len hEl
 have hoR : ∀ p ∈ ownG l E, inR (l.length : Int) p := fun p hp => by
  unfold ownG at hp;obtain ⟨e, he, rfl⟩ := List.mem_map.1 hp;have hm := (List.mem_filter.1 he).2;unfold ownP at hm;simp only [Bool.and_eq_true, List.elem_eq_mem, decide_eq_true_eq] at hm;have q1 := hix hm.1;have q2 := hix hm.2;unfold inR;dsimp only;omega
 have hFl : (normE (ownG l E)).length <= 4000 := Nat.le_trans (normE_length _) hol
 have hno : normF (l.length : Int) (ownG l E) = (((l.length : Int), normE (ownG l E)), 0) := by
  unfold normF;rw [if_neg (by omega), if_neg (by omega), if_pos hoR, if_neg (by omega)]
 have hRF : RightP (l.length : Int) (normE (ownG l E)) := ⟨by omega, by omega, hFl, normE_ok hoR, normE_sorted _⟩
 have hcn := NormC_at (n := (l.length : Int)) (l := ownG l E) (by omega)
 rw [hno] at hcn
 obtain ⟨F, hF⟩ : ∃ F, normE (ownG l E) = F := ⟨_, rfl⟩
 rw [hF] at hcn hRF hFl
 have hTF : TwoP n E l ↔ Bic (nbrs l.length F) := by
  unfold TwoP;rw [hF];exact ⟨fun h => h.2.2.2, fun h => ⟨h1, h2, hp, h⟩⟩
 refine Call.by _ _ hcn ?_
 refine Call.by _ _ (RightC_at (l.length : Int) F) ?_
 refine Pick.F (by rw [decide_eq_true hRF]; rfl) ?_
 obtain ⟨m, hm⟩ : ∃ m, l.length = m := ⟨_, rfl⟩
 have hm1 : m <= 1000 := by omega
 rw [hm] at hRF hTF ⊢
 have hok2 := hRF.2.2.2.1
 refine Pick.T (beq_self_eq_true _) ?_
 refine Idx.by m rfl (by omega) ?_
 refine LoopP.intro (α := Nat) (fun i => i <= F.length) (fun i => F.length - i) (fun i => [(1, .ptr 0 0), (2, .ptr 2 0), (3, .ptr 3 0), (4, .ptr 4 0), (21, .sl 1 none none), (22, .s (.i .i64 F.length)), (23, .s (.i .i64 i)), (1000001, .sl 6 none none)])
  (fun i => [(0, some (.blk [.s (.i .i64 m), .sl 1 none none])), (1, some (.flat true 2 (edges F))), (2, some (.blk [.nils, .nils])), (3, some (.blk [.nils, .nils])), (4, some (.blk [.sl 5 none none])), (5, some (.nest true 1 (rowsI (nbrs m (F.take i))) [] [])), (6, some (.flat false 1 (ints l)))]) 7 0 (by omega) (by refine Weak.bw (sg 0 [_,_,_,_,_,_,_]) (by ((repeat' first|exact rfl|exact trivial|apply And.intro) <;> (repeat' first|exact rfl|exact trivial|apply And.intro)); all_goals ((first|exact sc_eq (by rw [qeq]) | (simp [nbrs, nearL, rowsI, ints, List.map_const']; done))))) ?_
 rintro i hi
 refine Pick.by (fun hc => ?_) (fun hc => ?_)
 ·have hlt : i < F.length := by have := of_decide_eq_true hc; omega
  have hok := hok2 _ (List.getElem_mem hlt);have hget := edges_get (qEq hlt);have hnl2 : ∀ v, (nearL (F.take i) v).length <= 8000 := fun v => by have := nearL_length (F.take i) v; rw [List.length_take] at this; omega
  have hst : nbrs m (F.take (i + 1)) = nbrs m (F.take i ++ [F[i]]) := by rw [qTq hlt]
  obtain ⟨⟨a, b⟩, hab⟩ : ∃ p, F[i] = p := ⟨_, rfl⟩;rw [hab] at hok hget hst;rw [nbrs_snoc hok rfl] at hst;unfold okE at hok;obtain ⟨o1, o2, o3⟩ := hok;dsimp only at o1 o2 o3 hget hst;have hrw : ∀ v : Int, 0 <= v -> v < m -> (rowsI (nbrs m (F.take i)))[v.toNat]? = some (ints (nearL (F.take i) v)) := fun v h0 h1 => by
   refine qgq ?_;unfold nbrs;rw [List.getElem?_map, List.getElem?_range (by omega)];show some (nearL (F.take i) (v.toNat : Int)) = _
   rw [Int.toNat_of_nonneg h0]
  have hrl : (rowsI (nbrs m (F.take i))).length = m := by rw [qrq, nbrs_length]
  refine Idx.by i rfl (by rw [qeq]; exact hlt) ?_;refine Look.by _ hget ?_;refine Idx.by a.toNat (by omega) (by rw [hrl]; omega) ?_;refine Pick.T (by rw [hrl]; simp; omega) ?_;refine Look.by _ (hrw a (by omega) (by omega)) ?_;refine Pick.T (by simp [cut, qiq]; have := hnl2 a; omega) ?_;refine Idx.by a.toNat (by omega) (by rw [hrl]; omega) ?_;refine Pick.T (by rw [hrl]; simp; omega) ?_;refine Pick.T (by simp) ?_;refine Seg.by (by kernel_rfl) ?_;have hset : (rowsI (nbrs m (F.take i))).set a.toNat (ints (nearL (F.take i) a) ++ [[.i .i64 b]]) = rowsI ((nbrs m (F.take i)).set a.toNat (nearL (F.take i) a ++ [b])) := by rw [rowsI_set, ints_snoc]
  have hrl2 : ((rowsI (nbrs m (F.take i))).set a.toNat (ints (nearL (F.take i) a) ++ [[.i .i64 b]])).length = m := by rw [List.length_set, hrl]
  refine Idx.by b.toNat (by omega) (by show b.toNat < ((rowsI (nbrs m (F.take i))).set a.toNat (ints (nearL (F.take i) a) ++ [[.i .i64 b]])).length; rw [hrl2]; omega) ?_;refine Pick.T (by show decide (b.toNat < ((rowsI (nbrs m (F.take i))).set a.toNat (ints (nearL (F.take i) a) ++ [[.i .i64 b]])).length) = true; rw [hrl2]; simp; omega) ?_;refine Look.by (ints (nearL (F.take i) b)) (by show ((rowsI (nbrs m (F.take i))).set a.toNat (ints (nearL (F.take i) a) ++ [[.i .i64 b]]))[b.toNat]? = _; rw [qNq (by omega)]; exact hrw b (by omega) (by omega)) ?_;refine Pick.T (by simp [cut, qiq]; have := hnl2 b; omega) ?_;refine Idx.by b.toNat (by omega) (by show b.toNat < ((rowsI (nbrs m (F.take i))).set a.toNat (ints (nearL (F.take i) a) ++ [[.i .i64 b]])).length; rw [hrl2]; omega) ?_;refine Pick.T (by show decide (b.toNat < ((rowsI (nbrs m (F.take i))).set a.toNat (ints (nearL (F.take i) a) ++ [[.i .i64 b]])).length) = true; rw [hrl2]; simp; omega) ?_;refine Pick.T (by simp) ?_;refine Seg.by (by kernel_rfl) ?_;refine Pick.n ?_;have hfin : rowsI (nbrs m (F.take (i + 1))) = ((rowsI (nbrs m (F.take i))).set a.toNat (ints (nearL (F.take i) a) ++ [[.i .i64 b]])).set b.toNat (ints (nearL (F.take i) b) ++ [[.i .i64 a]]) := by
   rw [hst, hset, <- ints_snoc, <- rowsI_set]
  refine Next.by (i + 1) (by omega) (by omega) (by refine Weak.bw (sg 0 [_,_,_,_,_,_,_]) (by ((repeat' first|exact rfl|exact trivial|apply And.intro) <;> (repeat' first|exact rfl|exact trivial|apply And.intro)); all_goals ((first|exact sc_eq (by omega) | exact hfin))))
 have hiF : i = F.length := by have := of_decide_eq_false hc; omega
 subst hiF
 rw [List.take_length]
 refine Pick.T (beq_self_eq_true _) ?_
 refine Idx.by m rfl (by omega) ?_
 refine Pick.T (beq_self_eq_true _) ?_
 refine Idx.by m rfl (by omega) ?_
 obtain ⟨sF, hsF, hStd, hone⟩ := tree_nbrs hRF
 rw [Int.toNat_natCast] at hsF hStd hone
 have hN : (nbrs m F).length = m := nbrs_length m F
 have hroot : rootsD (nbrs m F) ((List.range m).drop 0) (zeroD (nbrs m F)) = some sF := by
  have : treeD (nbrs m F) = some sF := hsF;unfold treeD at this
  rwa [hN] at this
 have zi : ints (List.replicate (nbrs m F).length 0) = List.replicate m [.i .i64 0] := by rw [hN]; simp [ints]
 refine LoopP.intro (α := Nat × DS × Bool) (fun a => a.1 <= m /\ rootsD (nbrs m F) ((List.range m).drop a.1) a.2.1 = some sF) (fun a => m - a.1) (fun a => [(1, .ptr 12 0), (2, .ptr 11 0), (3, .ptr 7 0), (4, .ptr 4 0), (7, .ptr 0 0), (8, .ptr 9 0), (9, .ptr 2 0), (10, .ptr 6 0), (62, .s (.i .i64 m)), (63, .s (.i .i64 a.1)), (1000001, .sl 13 none none)])
  (fun a => match a.2.2 with
   | false => [(0, some (.blk [.sl 1 none none])), (1, some (.flat true 1 (ints (a.2.1).dep))), (2, some (.blk [.sl 3 none none])), (3, some (.flat true 1 (ints (a.2.1).opn))), (4, some (.blk [.sl 5 none none])), (5, some (.nest true 1 (rowsI (nbrs m F)) [] [])), (6, some (.fnb true 61 [.ptr 0 0, .ptr 2 0, .ptr 4 0, .ptr 6 0, .ptr 7 0, .ptr 9 0])), (7, some (.blk [.nils, .sl 8 none none])), (8, some (.fnest true 1 (rowsI (a.2.1).out))), (9, some (.blk [.sl 10 none none])), (10, some (.flat true 1 (ints (a.2.1).inn))), (11, some (.blk [.nils, .nils])), (12, some (.blk [.s (.i .i64 m), .sl 14 none none])), (13, some (.flat false 1 (ints l))), (14, some (.flat false 2 (edges F)))]
   | true => [(0, some (.blk [.sl 1 none none])), (1, some (.flat true 1 (ints (a.2.1).dep))), (2, some (.blk [.sl 3 none none])), (3, some (.flat true 1 (ints (a.2.1).opn))), (4, some (.rblk [.sl 5 none none])), (5, some (.nest false 1 (rowsI (nbrs m F)) [] [])), (6, some (.fnb false 61 [.ptr 0 0, .ptr 2 0, .ptr 4 0, .ptr 6 0, .ptr 7 0, .ptr 9 0])), (7, some (.blk [.nils, .sl 8 none none])), (8, some (.fnest true 1 (rowsI (a.2.1).out))), (9, some (.blk [.sl 10 none none])), (10, some (.flat true 1 (ints (a.2.1).inn))), (11, some (.blk [.nils, .nils])), (12, some (.rblk [.s (.i .i64 m), .sl 14 none none])), (13, some (.flat false 1 (ints l))), (14, some (.flat false 2 (edges F)))]) 16 (0, zeroD (nbrs m F), false) ⟨Nat.zero_le _, hroot⟩ (by refine Weak.bf [1] [(0, some _), (1, some _), (2, some _), (3, none), (4, some _), (5, some _), (6, some _), (7, some _), (8, none), (9, some _), (10, some _), (11, some _), (12, some _), (13, some _), (14, some _)] (by ((repeat' first|exact rfl|exact trivial|apply And.intro) <;> (repeat' first|exact rfl|exact trivial|apply And.intro)); all_goals ((first | exact zi | (rw [zi]; rfl)))) (by rfl)) ?_
 rintro ⟨i, s, b⟩ ⟨hi, h⟩
 dsimp only at hi h ⊢
 let B := b
 cases b <;> dsimp only
 all_goals
  refine Pick.by (fun hc => ?_) (fun hc => ?_)
  ·have hlt : i < m := by have := of_decide_eq_true hc; omega
   have hdr : (List.range m).drop i = i :: (List.range m).drop (i + 1) := by rw [List.drop_eq_getElem_cons (by simpa using hlt), List.getElem_range]
   rw [hdr] at h;unfold rootsD at h;have hd : i < s.dep.length := by
    by_cases hd : i < s.dep.length
    ·exact hd
    ·rw [if_neg hd] at h; cases h
   rw [if_pos hd] at h;refine Idx.by i rfl (by rw [qiq]; exact hd) ?_;refine Look.by _ (qhq (x := s.dep.getD i 0) (by rw [qDq, qEq hd]; rfl)) ?_;refine Pick.by (fun h5 => ?_) (fun h5 => ?_)
   ·have h5 : s.dep.getD i 0 = 0 := eq_of_beq h5;rw [if_pos h5] at h;have hv : ∃ s1 l1, visitF (nbrs m F) fuelD i (-1) { s with opn := [] } = some (s1, l1) := by
     cases hv : visitF (nbrs m F) fuelD i (-1) { s with opn := [] } with
     | none => rw [hv] at h; cases h
     | some p => exact ⟨p.1, p.2, rfl⟩
    obtain ⟨s1, l1, hv⟩ := hv;rw [hv] at h;simp only at h;refine .inl (frame_by (cvs := argD i (-1)) (xs := [.ptr 11 0]) (cEn := capD 61 (nbrs m F) { s with opn := [] }) (x := .i .i64 l1) (cEn' := capD 61 (nbrs m F) s1) ⟨nbrs m F, i, -1, { s with opn := [] }, s1, l1, hv, rfl, rfl, rfl, rfl, rfl⟩ [4, 5, 6, 12]
     [(0, some 0), (1, some 1), (2, some 2), (4, some 4), (5, some 5), (6, some 6), (7, some 7), (8, some 8), (9, some 9), (10, some 10), (11, some 11), (12, some 12), (13, some 13), (14, some 14)]
     [(1, .ptr 12 0), (2, .ptr 11 0), (3, .ptr 7 0), (4, .ptr 4 0), (7, .ptr 0 0), (8, .ptr 9 0), (9, .ptr 2 0), (10, .ptr 6 0), (62, .s (.i .i64 m)), (63, .s (.i .i64 i)), (1000001, .sl 13 none none)]
     [(0, some (.blk [.sl 1 none none])), (1, some (.flat true 1 (ints s.dep))), (2, some (.blk [.nils])), (4, some (.rblk [.sl 5 none none])), (5, some (.nest false 1 (rowsI (nbrs m F)) [] [])), (6, some (.fnb false 61 [.ptr 0 0, .ptr 2 0, .ptr 4 0, .ptr 6 0, .ptr 7 0, .ptr 9 0])), (7, some (.blk [.nils, .sl 8 none none])), (8, some (.fnest true 1 (rowsI s.out))), (9, some (.blk [.sl 10 none none])), (10, some (.flat true 1 (ints s.inn))), (11, some (.blk [.nils, .nils])), (12, some (.rblk [.s (.i .i64 m), .sl 14 none none])), (13, some (.flat false 1 (ints l))), (14, some (.flat false 2 (edges F)))] 16 (argD i (-1)) [2] [.ptr 11 0]
     [(0, some 0), (1, some 1), (2, some 2), (3, none), (4, some 4), (5, some 5), (6, some 6), (7, some 7), (8, some 8), (9, some 9), (10, some 10), (11, some 11)]
     [(0, some 0), (17, some 1), (2, some 2), (19, some 3), (7, some 7), (24, some 8), (9, some 9), (26, some 10), (11, some 11)]
     [(0, some (.blk [.sl 17 none none])), (17, some (.flat true 1 (ints s1.dep))), (2, some (.blk [.sl 19 none none])), (19, some (.flat true 1 (ints s1.opn))), (7, some (.blk [.nils, .sl 24 none none])), (24, some (.fnest true 1 (rowsI s1.out))), (9, some (.blk [.sl 26 none none])), (26, some (.flat true 1 (ints s1.inn))), (11, some (.blk [.nils, .nils]))]
     rfl (by (repeat' first|exact rfl|exact trivial|apply And.intro); all_goals (first|exact sc_eq (by first | omega | (rw [qiq])) | exact List.not_mem_nil | (intro c hc; simp at hc; done))) rfl ⟨rfl, trivial⟩ (by (repeat' first|exact rfl|exact trivial|apply And.intro); all_goals (first|exact sc_eq (by first | omega | (rw [qiq])) | exact List.not_mem_nil | (intro c hc; simp at hc; done))) rfl rfl (by (repeat' first|exact rfl|exact trivial|apply And.intro); all_goals (first|exact sc_eq (by first | omega | (rw [qiq])) | exact List.not_mem_nil | (intro c hc; simp at hc; done))) rfl rfl rfl rfl rfl ?_)
    refine Pick.n ?_;refine Next.by (i + 1, s1, true) ⟨by dsimp only; omega, h⟩ (by dsimp only; omega) (by refine Weak.bw (sg 0 [_,_,_,_,_,_,_,_,_,_,_,_,_,_,_]) (by ((repeat' first|exact rfl|exact trivial|apply And.intro) <;> (repeat' first|exact rfl|exact trivial|apply And.intro)); all_goals ((first|exact sc_eq (by omega) | exact List.not_mem_nil | (intro c hc; simp at hc; done)))))
   ·have h5 : ¬ s.dep.getD i 0 = 0 := ne_of_beq_false h5;rw [if_neg h5] at h;refine Pick.n ?_;refine Next.by (i + 1, s, B) ⟨by dsimp only; omega, h⟩ (by dsimp only; omega) (by refine Weak.bw (sg 0 [_,_,_,_,_,_,_,_,_,_,_,_,_,_,_]) (by ((repeat' first|exact rfl|exact trivial|apply And.intro) <;> (repeat' first|exact rfl|exact trivial|apply And.intro)); all_goals ((first|exact sc_eq (by omega) | exact List.not_mem_nil | (intro c hc; simp at hc; done)))))
  have him : i = m := by have := of_decide_eq_false hc; omega
  subst him;rw [List.drop_eq_nil_of_le (by simp)] at h;injection h with h
  subst h;have hcv : ∀ L ∈ s.out, L.length <= i := fun L hL => by
   obtain ⟨q1, _, q2, _⟩ := hStd.two L hL;have := len_subD (m := (List.range i).map fun (v : Nat) => (v : Int)) q1 fun x hx => by
    have := ok_nbrs.1 (q2 x hx);exact List.mem_map.2 ⟨x.toNat, List.mem_range.2 (by omega), by omega⟩
   simpa using this
  have hpot := hStd.pot;have hcd := cntD_le (l := s.dep);rw [hStd.dl, hN] at hcd;refine .inr ⟨rfl, rfl, rowsI s.out, rfl, ⟨s.out, rfl, fun r hr => by have := hcv r hr; unfold goodL; omega, hStd.pw.imp fun {a b} hab => by
   have h1 := cmpL_neg a b;have h2 : cmpL a b ≠ 0 := fun e => hab (cmpL_zero e)
   rcases Int.lt_or_gt_of_ne h2 with h3 | h3
   ·exact .inl (decide_eq_true h3)
   ·exact .inr (decide_eq_true (by omega)), by omega⟩, ?_⟩
  rw [sortN_rows];obtain ⟨SO, hSO⟩ : ∃ SO, sortL cmpL s.out = SO := ⟨_, rfl⟩;have hSp : SO.Perm s.out := by rw [<- hSO]; exact sortL_perm _ _
  rw [hSO];have hSl : SO.length = s.out.length := hSp.length_eq;refine LoopP.intro (α := Nat × List Int) (fun a => a.1 <= i /\ a.2.length <= a.1) (fun a => i - a.1) (fun a => [(2, .ptr 11 0), (3, .ptr 7 0), (8, .ptr 9 0), (79, .s (.i .i64 i)), (80, .s (.i .i64 a.1)), (1000001, .sl 13 none none)])
   (fun a => [(7, some (.blk [.sl 15 none none, .sl 8 none none])), (8, some (.fnest true 1 (rowsI SO))), (9, some (.blk [.sl 10 none none])), (10, some (.flat true 1 (ints s.inn))), (11, some (.blk [.nils, .nils])), (13, some (.flat false 1 (ints l))), (15, some (.flat true 1 (ints a.2)))]) 16 (0, []) ⟨Nat.zero_le _, Nat.le_refl _⟩ (by refine Weak.bw [(7, some _), (8, some _), (9, some _), (10, some _), (11, some _), (13, some _), (15, none)] (by ((repeat' first|exact rfl|exact trivial|apply And.intro) <;> (repeat' first|exact rfl|exact trivial|apply And.intro)); all_goals ((first|exact sc_eq (by omega) | rfl)))) ?_
  rintro ⟨j, cs⟩ ⟨hj, hcs⟩;dsimp only at hj hcs ⊢;refine Pick.by (fun hc => ?_) (fun hc => ?_)
  ·have hlt : j < i := by have := of_decide_eq_true hc; omega
   have hjl : j < s.inn.length := by rw [hStd.il, hN]; exact hlt
   refine Idx.by j rfl (by rw [qiq]; exact hjl) ?_;refine Look.by _ (qhq (x := s.inn.getD j 0) (by rw [qDq, qEq hjl]; rfl)) ?_;refine Pick.by (fun h5 => ?_) (fun h5 => ?_)
   ·refine Pick.T (by rw [decide_eq_true_iff, qiq]; show _ + 1 <= _; omega) ?_;refine Pick.n ?_;refine Next.by (j + 1, cs ++ [(j : Int)]) ⟨by dsimp only; omega, by dsimp only; rw [List.length_append]; show _ + 1 <= _; omega⟩ (by dsimp only; omega) (by refine Weak.bw [(7, some _), (8, some _), (9, some _), (10, some _), (11, some _), (13, some _), (15, some _)] (by ((repeat' first|exact rfl|exact trivial|apply And.intro) <;> (repeat' first|exact rfl|exact trivial|apply And.intro)); all_goals ((first|exact sc_eq (by omega) | exact ints_snoc _ _))))
   ·refine Pick.n ?_;refine Next.by (j + 1, cs) ⟨by dsimp only; omega, by dsimp only; omega⟩ (by dsimp only; omega) (by refine Weak.bw [(7, some _), (8, some _), (9, some _), (10, some _), (11, some _), (13, some _), (15, some _)] (by ((repeat' first|exact rfl|exact trivial|apply And.intro) <;> (repeat' first|exact rfl|exact trivial|apply And.intro)); all_goals ((first|exact sc_eq (by omega)))))
  refine Pick.by (fun h6 => ?_) (fun h6 => ?_)
  ·have h6 : SO.length = 1 := by have := eq_of_beq h6; rw [qrq] at this; omega
   obtain ⟨L, hL⟩ := List.length_eq_one_iff.1 h6;have hso : s.out = [L] := by
    rw [hL] at hSp;exact (List.singleton_perm.1 hSp).symm
   subst hL;refine Idx.by 0 rfl (by rw [qrq]; exact Nat.one_pos) ?_;refine Look.by _ (qgq (x := L) rfl) ?_;refine ⟨rfl, ?_⟩;show Sc.b (((ints L).length : Int) == ((ints l).length : Int)) = Sc.b (twoB n E l)
   rw [qiq, qiq, hm];by_cases hq : L.length = i
   ·rw [twoB_iff.2 (hTF.2 ((hone (by omega)).1 ⟨by rw [hso]; rfl, by rw [hso]; exact hq⟩)), hq];simp
   ·refine (congrArg Sc.b (beq_false_of_ne (by omega))).trans (twoB_no fun h => hq ?_);have := ((hone (by omega)).2 (hTF.1 h)).2;rw [hso] at this;exact this
  ·have h6 : ¬ SO.length = 1 := by have := ne_of_beq_false h6; rw [qrq] at this; omega
   refine ⟨rfl, ?_⟩;refine twoB_no fun h => h6 ?_
   rw [hSl];exact ((hone (by omega)).2 (hTF.1 h)).1
def withL (l : List Int) (E : List Ed) : List Ed := E.filter (ownP l)
theorem withL_snoc {l : List Int} {E : List Ed} {e : Ed} : withL l (E ++ [e]) = if ownP l e = true then withL l E ++ [e] else withL l E := by
 unfold withL; rw [List.filter_append]
 by_cases h : ownP l e = true
 ·rw [if_pos h]; simp [h]
 ·rw [if_neg h]; simp [h]
theorem withL_len {l : List Int} {E : List Ed} : (withL l E).length <= E.length := List.length_filter_le _ _
noncomputable def WithC (n0 : Nat) (pre : (Int × List Ed) -> List Int -> Prop) : Con := conP n0 (fun a : (Int × List Ed) × List Int => a.1.2.length <= 4000 /\ a.2.length <= 1000 /\ pre a.1 a.2) (fun a => [grV a.1.1 a.1.2, .one (.flat false 1 (ints a.2))]) (fun a => .one (.flat true 2 (edges (withL a.2 a.1.2))))
theorem WithC_at {k : Nat} {pre : (Int × List Ed) -> List Int -> Prop} {n : Int} {E : List Ed} {l : List Int} (h : E.length <= 4000 /\ l.length <= 1000 /\ pre (n, E) l) : (WithC k pre).F [grV n E, .one (.flat false 1 (ints l))] = some (.one (.flat true 2 (edges (withL l E))), []) :=
 conP_at (a := ((n, E), l)) (fun x y _ _ h => by
  obtain ⟨⟨n, E⟩, l⟩ := x;obtain ⟨⟨n', E'⟩, l'⟩ := y;simp at h;obtain ⟨h1, h2⟩ := h;obtain ⟨rfl, rfl⟩ := grV_inj h1;rw [ints_inj h2]) h
noncomputable def Within13C : Con := WithC 2 fun _ _ => True
theorem Within13_ok : SoundC Tryz.prog T 27 Within13C := by
 refine sound_con (X := { Γ := [(73, InC)], T := T, nt := 41 }) cr_none hmix hT (sound_cons In_ok sound_nil) Tryz.func27 (by rfl) (by rfl) (by rfl) (by rfl) 3 ?_
 rintro ⟨⟨n, E⟩, l⟩ ⟨hE, hl, -⟩
 dsimp only at hE hl ⊢
 refine two_le ?_
 refine LoopP.intro (α := Nat) (fun i => i <= E.length) (fun i => E.length - i) (fun i => [(1, .sl 2 none none), (2, .ptr 0 0), (5, .sl 3 none none), (6, .s (.i .i64 i))])
  (fun i => [(0, some (.blk [.s (.i .i64 n), .sl 1 none none])), (1, some (.flat false 2 (edges E))), (2, some (.flat false 1 (ints l))), (3, some (.flat true 2 (edges (withL l (E.take i)))))]) 4 0 (by omega) (by refine Weak.ba [(0, some _), (1, some _), (2, some _), (3, none)]) ?_
 rintro i hi
 refine Pick.by (fun hc => ?_) (fun hc => ?_)
 ·have hlt : i < E.length := by have := of_decide_eq_true hc; rw [qeq] at this; omega
  obtain ⟨x, hx⟩ : ∃ x, E[i] = x := ⟨_, rfl⟩;have hEi : E[i]? = some x := by rw [qEq hlt, hx]
  have hts : E.take (i + 1) = E.take i ++ [x] := by rw [List.take_add_one, hEi]; rfl
  have hwl : (withL l (E.take i)).length <= 4000 := Nat.le_trans withL_len (by rw [List.length_take]; omega);have skip : ¬ ownP l x = true -> edges (withL l (E.take (i + 1))) = edges (withL l (E.take i)) := fun h => by rw [hts, withL_snoc, if_neg h]
  refine Idx.by i rfl (by rw [qeq]; exact hlt) ?_;refine Look.by _ (edges_get hEi) ?_;refine Call.by _ _ (InC_at x.1 (by omega)) ?_;refine Pick.by (fun h1 => ?_) (fun h1 => ?_)
  ·refine Idx.by i rfl (by rw [qeq]; exact hlt) ?_;refine Look.by _ (edges_get hEi) ?_;refine Call.by _ _ (InC_at x.2 (by omega)) ?_;refine Pick.by (fun h2 => ?_) (fun h2 => ?_)
   ·have hp : ownP l x = true := by unfold ownP; rw [h1, h2]; rfl
    refine Idx.by i rfl (by rw [qeq]; exact hlt) ?_;refine Look.by _ (edges_get hEi) ?_;refine Pick.T (by rw [decide_eq_true_iff, qeq]; show _ + 1 <= _; omega) ?_;refine Pick.n ?_;refine Next.by (i + 1) (by omega) (by omega) (by refine Weak.bw (sg 0 [_,_,_,_]) (by ((repeat' first|exact rfl|exact trivial|apply And.intro) <;> (repeat' first|exact rfl|exact trivial|apply And.intro)); all_goals ((first|exact sc_eq (by omega) | (rw [hts, withL_snoc, if_pos hp, edges_snoc]; rfl)))))
   ·have hp : ¬ ownP l x = true := by unfold ownP; rw [h2]; simp
    refine Pick.n ?_;refine Next.by (i + 1) (by omega) (by omega) (by refine Weak.bw (sg 0 [_,_,_,_]) (by ((repeat' first|exact rfl|exact trivial|apply And.intro) <;> (repeat' first|exact rfl|exact trivial|apply And.intro)); all_goals ((first|exact sc_eq (by omega) | exact skip hp))))
  ·have hp : ¬ ownP l x = true := by unfold ownP; rw [h1]; simp
   refine Pick.n ?_;refine Next.by (i + 1) (by omega) (by omega) (by refine Weak.bw (sg 0 [_,_,_,_]) (by ((repeat' first|exact rfl|exact trivial|apply And.intro) <;> (repeat' first|exact rfl|exact trivial|apply And.intro)); all_goals ((first|exact sc_eq (by omega) | exact skip hp))))
 ·have hil : i = E.length := by have := of_decide_eq_false hc; rw [qeq] at this; omega
  subst hil;rw [List.take_length];refine ⟨rfl, ?_⟩
  (repeat' first|exact rfl|exact trivial|apply And.intro)
def markF (n : Nat) (l : List Int) : List Int := (List.range n).map fun (v : Nat) => if (v : Int) ∈ l then 1 else 0
theorem markF_len {n : Nat} {l : List Int} : (markF n l).length = n := by simp [markF]
theorem markF_zero {n : Nat} : ints (markF n []) = List.replicate n [.i .i64 0] := by
 have : markF n [] = List.replicate n 0 := by
  rw [List.eq_replicate_iff];refine ⟨markF_len, fun x hx => ?_⟩;obtain ⟨v, _, rfl⟩ := List.mem_map.1 hx;simp
 rw [this]; simp [ints]
theorem markF_at {n : Nat} {l : List Int} {v : Int} (h0 : 0 <= v) (h1 : v.toNat < n) : (markF n l).getD v.toNat 0 = if v ∈ l then 1 else 0 := by
 unfold markF
 rw [qDq, List.getElem?_map, List.getElem?_range h1]
 show (if ((v.toNat : Nat) : Int) ∈ l then (1 : Int) else 0) = _
 rw [Int.toNat_of_nonneg h0]
theorem markF_snoc {n : Nat} {l : List Int} {v : Int} (h0 : 0 <= v) (h1 : v.toNat < n) : markF n (l ++ [v]) = (markF n l).set v.toNat 1 := by
 apply List.ext_getElem?
 intro i
 by_cases hi : i < n
 ·unfold markF;rw [List.getElem?_set, List.getElem?_map, List.getElem?_range hi, List.getElem?_map, List.getElem?_range hi, List.length_map, List.length_range];by_cases e : v.toNat = i
  ·subst e;rw [if_pos rfl, if_pos hi, Option.map_some, Int.toNat_of_nonneg h0, if_pos (by simp)]
  ·rw [if_neg e, Option.map_some, Option.map_some];have hne : (i : Int) ≠ v := fun h => e (by omega)
   by_cases hm : (i : Int) ∈ l
   ·rw [if_pos (by simp [hm]), if_pos hm]
   ·rw [if_neg (by simp [hm, hne]), if_neg hm]
 ·rw [List.getElem?_eq_none (by rw [markF_len]; omega), List.getElem?_eq_none (by rw [List.length_set, markF_len]; omega)]
noncomputable def OwnC : Con := WithC 2 fun g l => RightP g.1 g.2 /\ ∀ v ∈ l, 0 <= v /\ v < g.1
theorem Own_ok : SoundC Tryz.prog T 66 OwnC := by
 refine sound_con (X := { Γ := [], T := T, nt := 49 }) cr_none hmix hT sound_nil Tryz.func66 (by rfl) (by rfl) (by rfl) (by rfl) 3 ?_
 rintro ⟨⟨n, E⟩, l⟩ ⟨hE, hl, h1, hr⟩
 dsimp only at hE hl h1 hr ⊢
 have hn0 := h1.1
 have hn1 := h1.2.1
 refine two_le ?_
 refine Pick.T (by simp) ?_
 refine Idx.by n.toNat (by omega) (by omega) ?_
 refine LoopP.intro (α := Nat) (fun i => i <= l.length) (fun i => l.length - i) (fun i => [(1, .sl 2 none none), (2, .ptr 0 0), (5, .sl 3 none none), (14, .sl 2 none none), (15, .s (.i .i64 l.length)), (16, .s (.i .i64 i))])
  (fun i => [(0, some (.blk [.s (.i .i64 n), .sl 1 none none])), (1, some (.flat false 2 (edges E))), (2, some (.flat false 1 (ints l))), (3, some (.flat true 1 (ints (markF n.toNat (l.take i)))))]) 4 0 (by omega) (by refine Weak.bw (sg 0 [_,_,_,_]) (by ((repeat' first|exact rfl|exact trivial|apply And.intro) <;> (repeat' first|exact rfl|exact trivial|apply And.intro)); all_goals ((first|exact sc_eq (by rw [qiq]) | exact markF_zero.symm | exact markF_zero)))) ?_
 rintro i hi
 refine Pick.by (fun hc => ?_) (fun hc => ?_)
 ·have hlt : i < l.length := by have := of_decide_eq_true hc; omega
  obtain ⟨v, hv⟩ : ∃ v, l[i] = v := ⟨_, rfl⟩;have hli : l[i]? = some v := by rw [qEq hlt, hv]
  have hvr := hr v (qMq hli);have hts : l.take (i + 1) = l.take i ++ [v] := by rw [List.take_add_one, hli]; rfl
  have hml : (ints (markF n.toNat (l.take i))).length = n.toNat := by rw [qiq, markF_len]
  refine Idx.by i rfl (by rw [qiq]; exact hlt) ?_;refine Look.by _ (qhq hli) ?_;refine Idx.by v.toNat (by omega) (by rw [hml]; omega) ?_;refine Look.by _ (qhq (x := (markF n.toNat (l.take i)).getD v.toNat 0) (by rw [qDq, qEq (by rw [markF_len]; omega)]; rfl)) ?_;refine Pick.n ?_;have hst : ints (markF n.toNat (l.take (i + 1))) = List.set (ints (markF n.toNat (l.take i))) v.toNat [.i .i64 1] := by rw [hts, markF_snoc (by omega) (by omega), ints_set]
  refine Next.by (i + 1) (by omega) (by omega) (by refine Weak.bw (sg 0 [_,_,_,_]) (by ((repeat' first|exact rfl|exact trivial|apply And.intro) <;> (repeat' first|exact rfl|exact trivial|apply And.intro)); all_goals ((first|exact sc_eq (by omega) | exact hst))))
 have hil : i = l.length := by have := of_decide_eq_false hc; omega
 subst hil
 rw [List.take_length]
 refine LoopP.intro (α := Nat) (fun j => j <= E.length) (fun j => E.length - j) (fun j => [(5, .sl 3 none none), (8, .sl 4 none none), (25, .sl 1 none none), (26, .s (.i .i64 E.length)), (27, .s (.i .i64 j))])
  (fun j => [(1, some (.flat false 2 (edges E))), (3, some (.flat true 1 (ints (markF n.toNat l)))), (4, some (.flat true 2 (edges (withL l (E.take j)))))]) 5 0 (by omega) (by refine Weak.bw [(1, some _), (3, some _), (4, none)] (by ((repeat' first|exact rfl|exact trivial|apply And.intro) <;> (repeat' first|exact rfl|exact trivial|apply And.intro)); all_goals ((first|exact sc_eq (by rw [qeq]))))) ?_
 rintro j hj
 refine Pick.by (fun hc => ?_) (fun hc => ?_)
 ·have hlt : j < E.length := by have := of_decide_eq_true hc; omega
  obtain ⟨x, hx⟩ : ∃ x, E[j] = x := ⟨_, rfl⟩;have hEj : E[j]? = some x := by rw [qEq hlt, hx]
  have hok := h1.2.2.2.1 x (qMq hEj);unfold okE at hok;have hts : E.take (j + 1) = E.take j ++ [x] := by rw [List.take_add_one, hEj]; rfl
  have hwl : (withL l (E.take j)).length <= 4000 := Nat.le_trans withL_len (by rw [List.length_take]; omega);have hml : (ints (markF n.toNat l)).length = n.toNat := by rw [qiq, markF_len]
  have hmg : ∀ {v : Int}, 0 <= v -> v < n -> (ints (markF n.toNat l))[v.toNat]? = some [.i .i64 (if v ∈ l then 1 else 0)] := fun {v} h0 h1 => by
   refine qhq ?_;rw [<- markF_at (n := n.toNat) (l := l) h0 (by omega), qDq, qEq (by rw [markF_len]; omega)]; rfl
  refine Idx.by j rfl (by rw [qeq]; exact hlt) ?_;refine Look.by _ (edges_get hEj) ?_;refine Idx.by x.1.toNat (by omega) (by rw [hml]; omega) ?_;refine Look.by _ (hmg (by omega) (by omega)) ?_;refine Idx.by x.2.toNat (by omega) (by rw [hml]; omega) ?_;refine Look.by _ (hmg (by omega) (by omega)) ?_;have hsum : ((if x.1 ∈ l then (1 : Int) else 0) + (if x.2 ∈ l then 1 else 0) = 2) ↔ ownP l x = true := by
   unfold ownP;by_cases m1 : x.1 ∈ l <;> by_cases m2 : x.2 ∈ l <;> simp [m1, m2]
  refine Pick.T (by split <;> split <;> exact inI64_of (by omega) (by omega)) ?_;refine Seg.by (by kernel_rfl) ?_;refine Pick.by (fun h2 => ?_) (fun h2 => ?_)
  ·have hp : ownP l x = true := hsum.1 (eq_of_beq h2);refine Pick.T (by rw [decide_eq_true_iff, qeq]; show _ + 1 <= _; omega) ?_;refine Pick.n ?_;refine Next.by (j + 1) (by omega) (by omega) (by refine Weak.bw [(1, some _), (3, some _), (4, some _)] (by ((repeat' first|exact rfl|exact trivial|apply And.intro) <;> (repeat' first|exact rfl|exact trivial|apply And.intro)); all_goals ((first|exact sc_eq (by omega) | (rw [hts, withL_snoc, if_pos hp, edges_snoc]; rfl)))))
  ·have hp : ¬ ownP l x = true := fun h => ne_of_beq_false h2 (hsum.2 h)
   refine Pick.n ?_;refine Next.by (j + 1) (by omega) (by omega) (by refine Weak.bw [(1, some _), (3, some _), (4, some _)] (by ((repeat' first|exact rfl|exact trivial|apply And.intro) <;> (repeat' first|exact rfl|exact trivial|apply And.intro)); all_goals ((first|exact sc_eq (by omega) | (rw [hts, withL_snoc, if_neg hp])))))
 ·have hjl : j = E.length := by have := of_decide_eq_false hc; omega
  subst hjl;rw [List.take_length];refine ⟨rfl, ?_⟩
  (repeat' first|exact rfl|exact trivial|apply And.intro)
def pairF (a b : Int) : Ed := (if b < a then b else a, if b > a then b else a)
noncomputable def PairC : Con := conP 2 (fun _ : Int × Int => True) (fun a => [.one (.s (.i .i64 a.1)), .one (.s (.i .i64 a.2))]) (fun a => .agg [.s (.i .i64 (pairF a.1 a.2).1), .s (.i .i64 (pairF a.1 a.2).2)])
theorem PairC_at (a b : Int) : PairC.F [.one (.s (.i .i64 a)), .one (.s (.i .i64 b))] = some (.agg [.s (.i .i64 (pairF a b).1), .s (.i .i64 (pairF a b).2)], []) :=
 conP_at (a := (a, b)) (fun x y _ _ h => by
  obtain ⟨x1, x2⟩ := x;obtain ⟨y1, y2⟩ := y;simp at h;obtain ⟨rfl, rfl⟩ := h
  rfl) trivial
theorem Pair_ok : SoundC Tryz.prog T 71 PairC := by
 refine sound_con (X := { Γ := [], T := T, nt := 12 }) cr_none hmix hT sound_nil Tryz.func71 (by rfl) (by rfl) (by rfl) (by rfl) 2 ?_
 rintro ⟨a, b⟩ -
 refine two_le ?_
 exact ⟨rfl, rfl, rfl, trivial⟩
def midL : List (Ed × Ed) -> (Int × Ed) × Bool
 | [] => ((0, (0, 0)), false)
 | (s, t) :: r => if s.2 = t.1 /\ s.1 ≠ t.2 then ((s.2, pairF s.1 t.2), true) else midL r
def sides (x : Ed) : List Ed := [x, (x.2, x.1)]
def middleF (x y : Ed) : (Int × Ed) × Bool := midL ((sides x).flatMap fun s => (sides y).map fun t => (s, t))
def ed2V (x : Ed) : V := .agg [.s (.i .i64 x.1), .s (.i .i64 x.2)]
noncomputable def MiddleC : Con := conP 2 (fun _ : Ed × Ed => True) (fun a => [ed2V a.1, ed2V a.2]) (fun a => .tup [.one (.s (.i .i64 (middleF a.1 a.2).1.1)), ed2V (middleF a.1 a.2).1.2, .one (.s (.b (middleF a.1 a.2).2))])
theorem ed2V_inj {x y : Ed} (h : ed2V x = ed2V y) : x = y := by
 unfold ed2V at h
 simp at h
 exact Prod.ext h.1 h.2
theorem MiddleC_at (x y : Ed) : MiddleC.F [ed2V x, ed2V y] = some (.tup [.one (.s (.i .i64 (middleF x y).1.1)), ed2V (middleF x y).1.2, .one (.s (.b (middleF x y).2))], []) :=
 conP_at (a := (x, y)) (fun u v _ _ h => by
  obtain ⟨u1, u2⟩ := u;obtain ⟨v1, v2⟩ := v;simp at h;rw [ed2V_inj h.1, ed2V_inj h.2]) trivial
theorem Middle_ok : SoundC Tryz.prog T 72 MiddleC := by
 refine sound_con (X := { Γ := [(71, PairC)], T := T, nt := 57 }) cr_none hmix hT (sound_cons Pair_ok sound_nil) Tryz.func72 (by rfl) (by rfl) (by rfl) (by rfl) 4 ?_
 rintro ⟨⟨a, b⟩, c, d⟩ -
 dsimp only
 refine two_le ?_
 refine LoopP.intro (α := Nat) (fun i => i <= 2 /\ midL (((sides (a, b)).drop i).flatMap fun s => (sides (c, d)).map fun t => (s, t)) = middleF (a, b) (c, d)) (fun i => 2 - i) (fun i => [(3, .ptr 0 0), (5, .ptr 1 0), (17, .sl 2 none none), (18, .s (.i .i64 2)), (19, .s (.i .i64 i))])
  (fun i => [(0, some (.blk [.s (.i .i64 c), .s (.i .i64 d)])), (1, some (.blk [.s (.i .i64 0), .s (.i .i64 0)])), (2, some (.flat true 2 (edges (sides (a, b)))))]) 3 0 ⟨by omega, rfl⟩ (by refine Weak.ba (sg 0 [_,_,_])) ?_
 rintro i ⟨hi, he⟩
 have hl2 : ∀ x : Ed, (sides x).length = 2 := fun _ => rfl
 refine Pick.by (fun hc => ?_) (fun hc => ?_)
 ·have hlt : i < 2 := by have := of_decide_eq_true hc; omega
  obtain ⟨⟨s1, s2⟩, hs⟩ : ∃ s, (sides (a, b))[i]'(by rw [hl2]; exact hlt) = s := ⟨_, rfl⟩;have hsi : (sides (a, b))[i]? = some (s1, s2) := by rw [qEq (by rw [hl2]; exact hlt), hs]
  rw [List.drop_eq_getElem_cons (by rw [hl2]; exact hlt), hs, List.flatMap_cons] at he;obtain ⟨rest, hrest⟩ : ∃ rest, (((sides (a, b)).drop (i + 1)).flatMap fun s => (sides (c, d)).map fun t => (s, t)) = rest := ⟨_, rfl⟩;rw [hrest] at he;refine Idx.by i rfl (by rw [qeq, hl2]; exact hlt) ?_;refine Look.by _ (edges_get hsi) ?_;refine LoopP.intro (α := Nat) (fun j => j <= 2 /\ midL ((((sides (c, d)).drop j).map fun t => ((s1, s2), t)) ++ rest) = middleF (a, b) (c, d)) (fun j => 2 - j) (fun j => [(3, .ptr 0 0), (5, .ptr 1 0), (8, .ptr 3 0), (17, .sl 2 none none), (18, .s (.i .i64 2)), (19, .s (.i .i64 i)), (29, .sl 4 none none), (30, .s (.i .i64 2)), (31, .s (.i .i64 j))])
   (fun j => [(0, some (.blk [.s (.i .i64 c), .s (.i .i64 d)])), (1, some (.blk [.s (.i .i64 0), .s (.i .i64 0)])), (2, some (.flat true 2 (edges (sides (a, b))))), (3, some (.blk [.s (.i .i64 s1), .s (.i .i64 s2)])), (4, some (.flat true 2 (edges (sides (c, d)))))]) 5 0 ⟨by omega, he⟩ (by refine Weak.ba (sg 0 [_,_,_,_,_])) ?_
  rintro j ⟨hj, hk⟩;refine Pick.by (fun hc2 => ?_) (fun hc2 => ?_)
  ·have hlt2 : j < 2 := by have := of_decide_eq_true hc2; omega
   obtain ⟨⟨t1, t2⟩, ht⟩ : ∃ t, (sides (c, d))[j]'(by rw [hl2]; exact hlt2) = t := ⟨_, rfl⟩;have htj : (sides (c, d))[j]? = some (t1, t2) := by rw [qEq (by rw [hl2]; exact hlt2), ht]
   rw [List.drop_eq_getElem_cons (by rw [hl2]; exact hlt2), ht, List.map_cons, List.cons_append] at hk;have hk : (if s2 = t1 /\ s1 ≠ t2 then ((s2, pairF s1 t2), true) else midL ((((sides (c, d)).drop (j + 1)).map fun t => ((s1, s2), t)) ++ rest)) = middleF (a, b) (c, d) := hk;refine Idx.by j rfl (by rw [qeq, hl2]; exact hlt2) ?_;refine Look.by _ (edges_get htj) ?_;refine Pick.by (fun h1 => ?_) (fun h1 => ?_)
   ·have h1 : s2 = t1 := eq_of_beq h1;refine Pick.by (fun h2 => ?_) (fun h2 => ?_)
    ·have h2 : s1 ≠ t2 := by simpa using h2
     rw [if_pos ⟨h1, h2⟩] at hk;refine Call.by _ _ (PairC_at s1 t2) ?_;refine Seg.by (by kernel_rfl) ?_;dsimp only;rw [<- hk];refine ⟨rfl, ?_⟩
     (repeat' first|exact rfl|exact trivial|apply And.intro)
    ·have h2 : ¬ s1 ≠ t2 := by simpa using h2
     rw [if_neg (fun h => h2 h.2)] at hk;refine Pick.n ?_;refine Next.by (j + 1) ⟨by omega, hk⟩ (by omega) (by refine Weak.bw (sg 0 [_,_,_,_,_]) (by ((repeat' first|exact rfl|exact trivial|apply And.intro) <;> (repeat' first|exact rfl|exact trivial|apply And.intro)); all_goals (exact sc_eq (by omega))))
   ·have h1 : s2 ≠ t1 := ne_of_beq_false h1;rw [if_neg (fun h => h1 h.1)] at hk;refine Pick.n ?_;refine Next.by (j + 1) ⟨by omega, hk⟩ (by omega) (by refine Weak.bw (sg 0 [_,_,_,_,_]) (by ((repeat' first|exact rfl|exact trivial|apply And.intro) <;> (repeat' first|exact rfl|exact trivial|apply And.intro)); all_goals (exact sc_eq (by omega))))
  ·have hj2 : j = 2 := by have := of_decide_eq_false hc2; omega
   subst hj2;have hk : midL rest = middleF (a, b) (c, d) := hk;rw [<- hrest] at hk;refine Pick.n ?_;refine Next.by (i + 1) ⟨by omega, hk⟩ (by omega) (by refine Weak.bw (sg 0 [_,_,_]) (by ((repeat' first|exact rfl|exact trivial|apply And.intro) <;> (repeat' first|exact rfl|exact trivial|apply And.intro)); all_goals (exact sc_eq (by omega))))
 ·have hi2 : i = 2 := by have := of_decide_eq_false hc; omega
  subst hi2;have he : ((0, ((0, 0) : Ed)), false) = middleF (a, b) (c, d) := he;rw [<- he];refine ⟨rfl, ?_⟩
  (repeat' first|exact rfl|exact trivial|apply And.intro)
abbrev Nd := Int × Int × Int
def nods (l : List Nd) : Flat := l.map fun x => [.i .i64 x.1, .i .i64 x.2.1, .i .i64 x.2.2]
theorem nods_length (l : List Nd) : (nods l).length = l.length := by simp [nods]
theorem nods_get {l : List Nd} {i : Nat} {x : Nd} (h : l[i]? = some x) : (nods l)[i]? = some [.i .i64 x.1, .i .i64 x.2.1, .i .i64 x.2.2] := by simp [nods, h]
theorem nods_snoc (l : List Nd) (x : Nd) : nods (l ++ [x]) = nods l ++ [[.i .i64 x.1, .i .i64 x.2.1, .i .i64 x.2.2]] := by simp [nods]
theorem nods_inj {l m : List Nd} (h : nods l = nods m) : l = m := by
 refine (List.map_inj_right fun a b e => ?_).1 h
 obtain ⟨a1, a2, a3⟩ := a
 obtain ⟨b1, b2, b3⟩ := b
 simp at e
 obtain ⟨rfl, rfl, rfl⟩ := e
 rfl
def idxI (l : List Int) (x : Int) : Int := if x ∈ l then (l.idxOf x : Int) else -1
theorem idxI_at {l : List Int} {x : Int} {k : Nat} (hk : k < l.length) (h : x = l[k]) (hn : x ∉ l.take k) : idxI l x = k := by
 unfold idxI
 rw [if_pos (by rw [h]; exact List.getElem_mem hk)]
 congr 1
 have e : l = l.take k ++ x :: l.drop (k + 1) := by rw [h, <- List.drop_eq_getElem_cons hk, List.take_append_drop]
 rw [e, List.idxOf_append, if_neg hn, List.idxOf_cons_self, List.length_take]
 omega
theorem not_take_succ {α : Type} {l : List α} {x : α} {k : Nat} (hk : k < l.length) (hn : x ∉ l.take k) (h : x ≠ l[k]) : x ∉ l.take (k + 1) := by
 rw [qTq hk, List.mem_append]
 rintro (h1 | h1)
 ·exact hn h1
 ·exact h (by simpa using h1)
noncomputable def IndexC : Con := conP 2 (fun a : List Int × Int => a.1.length <= 1000000) (fun a => [.one (.flat false 1 (ints a.1)), .one (.s (.i .i64 a.2))]) (fun a => .one (.s (.i .i64 (idxI a.1 a.2))))
theorem IndexC_at {l : List Int} (x : Int) (h : l.length <= 1000000) : IndexC.F [.one (.flat false 1 (ints l)), .one (.s (.i .i64 x))] = some (.one (.s (.i .i64 (idxI l x))), []) :=
 conP_at (a := (l, x)) (fun a b _ _ h => by simp at h; rw [ints_inj h.1, h.2]) h
theorem Index_ok : SoundC Tryz.prog T 70 IndexC := by
 refine sound_con (X := { Γ := [], T := T, nt := 19 }) cr_none hmix hT sound_nil Tryz.func70 (by rfl) (by rfl) (by rfl) (by rfl) 2 ?_
 rintro ⟨l, x⟩ hl
 dsimp only at hl ⊢
 refine two_le ?_
 refine LoopP.intro (α := Nat) (fun k => k <= l.length /\ x ∉ l.take k) (fun k => l.length - k) (fun k => [(0, .sl 0 none none), (1, .s (.i .i64 x)), (7, .s (.i .i64 l.length)), (8, .s (.i .i64 k))]) (fun k => [(0, some (.flat false 1 (ints l)))]) 1 0 ⟨by omega, by simp⟩ (by refine Weak.bw [(0, some _)] (by ((repeat' first|exact rfl|exact trivial|apply And.intro) <;> (repeat' first|exact rfl|exact trivial|apply And.intro)); all_goals (exact sc_eq (by rw [qiq])))) ?_
 rintro k ⟨hk, hn⟩
 refine Pick.by (fun hc => ?_) (fun hc => ?_)
 ·have hlt : k < l.length := by simpa using hc
  refine Idx.by k rfl (by rw [qiq]; exact hlt) ?_;refine Look.by _ (qhq (qEq hlt)) ?_;refine Pick.by (fun h => ?_) (fun h => ?_)
  ·have h : x = l[k] := by simpa using h
   refine ⟨rfl, ?_⟩;show Sc.i .i64 (k : Int) = Sc.i .i64 (idxI l x)
   rw [idxI_at hlt h hn]
  ·have h : x ≠ l[k] := by simpa using h
   refine Pick.n ?_;refine Next.by (k + 1) ⟨by omega, not_take_succ hlt hn h⟩ (by omega) (by refine Weak.ba [(0, some _)])
 ·have hge : l.length <= k := by simpa using hc
  rw [List.take_of_length_le hge] at hn;refine ⟨rfl, ?_⟩;show Sc.i .i64 (-1) = Sc.i .i64 (idxI l x)
  unfold idxI;rw [if_neg hn]
end Go.Sh
namespace Go.Sh
abbrev Nr := List (Int × List Int)
abbrev Th := List (List Int × Int)
def encN (N : Nr) : List (Int × Flat) := N.map fun p => (p.1, ints p.2)
def nget : Nr -> Int -> List Int
 | [], _ => []
 | (k, v) :: r, x => if k = x then v else nget r x
def nput : Nr -> Int -> List Int -> Nr
 | [], x, v => [(x, v)]
 | (k, u) :: r, x, v => if k = x then (k, v) :: r else (k, u) :: nput r x v
theorem fget_enc (N : Nr) (x : Int) : fget (encN N) x = ints (nget N x) := by
 induction N with
 | nil => rfl
 | cons p r ih =>
  obtain ⟨k, v⟩ := p;simp only [encN, List.map_cons, fget, nget] at ih ⊢;by_cases h : k = x
  ·rw [if_pos h, if_pos h]
  ·rw [if_neg h, if_neg h, ih]
theorem fput_enc (N : Nr) (x : Int) (v : List Int) : fput (encN N) x (ints v) = encN (nput N x v) := by
 induction N with
 | nil => rfl
 | cons p r ih =>
  obtain ⟨k, u⟩ := p;simp only [encN, List.map_cons, fput, nput] at ih ⊢;by_cases h : k = x
  ·rw [if_pos h, if_pos h]; rfl
  ·rw [if_neg h, if_neg h, ih]; rfl
theorem nget_put (N : Nr) (x y : Int) (v : List Int) : nget (nput N x v) y = if x = y then v else nget N y := by
 induction N with
 | nil => simp [nput, nget]
 | cons p r ih =>
  obtain ⟨k, u⟩ := p;simp only [nput];by_cases hk : k = x
  ·subst hk;rw [if_pos rfl];simp only [nget];split <;> rfl
  ·rw [if_neg hk];simp only [nget, ih];by_cases h1 : k = y
   ·subst h1; rw [if_pos rfl, if_neg (Ne.symm hk), if_pos rfl]
   ·rw [if_neg h1, if_neg h1]
theorem mapHas_put (l : Th) (x y : List Int) (v : Int) : mapHas (mapPut l x v) y = (decide (x = y) || mapHas l y) := by
 induction l with
 | nil => by_cases h : x = y <;> simp [mapPut, mapHas, h]
 | cons p r ih =>
  obtain ⟨k, u⟩ := p;simp only [mapPut];by_cases hk : k = x
  ·subst hk;rw [if_pos rfl];by_cases h : k = y <;> simp [mapHas, h]
  ·rw [if_neg hk];simp only [mapHas, ih];by_cases h1 : k = y
   ·subst h1; simp
   ·simp [h1]
def keyE (p : Ed) : List Int := [p.1, p.2]
theorem keyE_inj {p q : Ed} : keyE p = keyE q ↔ p = q := by
 unfold keyE
 simp
 exact ⟨fun h => Prod.ext h.1 h.2, fun h => by rw [h]; exact ⟨rfl, rfl⟩⟩
theorem pairF_comm (a b : Int) : pairF a b = pairF b a := by
 unfold pairF
 by_cases h : b < a
 ·rw [if_pos h, if_neg (show ¬ b > a by omega), if_neg (show ¬ a < b by omega), if_pos (show a > b by omega)]
 ·by_cases h2 : a < b
  ·rw [if_neg h, if_pos (show b > a by omega), if_pos h2, if_neg (show ¬ a > b by omega)]
  ·have : a = b := by omega
   subst this; rfl
theorem pairF_le {a b : Int} (h : a <= b) : pairF a b = (a, b) := by
 unfold pairF
 rw [if_neg (by omega)]
 by_cases h2 : b > a
 ·rw [if_pos h2]
 ·rw [if_neg h2]; have : a = b := by omega
  rw [this]
theorem pairF_ge {a b : Int} (h : b <= a) : pairF a b = (b, a) := by rw [pairF_comm, pairF_le h]
theorem pairF_inj {a b c d : Int} : pairF a b = pairF c d ↔ (a = c /\ b = d) \/ (a = d /\ b = c) := by
 rcases Int.le_total a b with h | h <;> rcases Int.le_total c d with k | k <;>
  (first | rw [pairF_le h] | rw [pairF_ge h]) <;> (first | rw [pairF_le k] | rw [pairF_ge k]) <;> simp only [Prod.mk.injEq] <;> omega
theorem pairF_lt {a b : Int} (h : a ≠ b) : (pairF a b).1 < (pairF a b).2 := by
 rcases Int.le_total a b with k | k
 ·rw [pairF_le k]; show a < b; omega
 ·rw [pairF_ge k]; show b < a; omega
theorem pairF_two (a b : Int) : ((pairF a b).1 = a /\ (pairF a b).2 = b) \/ ((pairF a b).1 = b /\ (pairF a b).2 = a) := by
 rcases Int.le_total a b with k | k
 ·rw [pairF_le k]; exact .inl ⟨rfl, rfl⟩
 ·rw [pairF_ge k]; exact .inr ⟨rfl, rfl⟩
theorem pairF_self (p : Ed) (h : p.1 < p.2) : pairF p.1 p.2 = p := pairF_le (by omega)
theorem pairF_idem (a b : Int) : pairF (pairF a b).1 (pairF a b).2 = pairF a b := by
 refine pairF_le ?_
 rcases Int.le_total a b with k | k
 ·rw [pairF_le k]; exact k
 ·rw [pairF_ge k]; exact k
def stT : List Ed -> Th
 | [] => []
 | x :: r => mapPut (stT r) (keyE x) (r.length : Nat)
def stN : List Ed -> Nr
 | [] => []
 | x :: r => nput (nput (stN r) x.1 (nget (stN r) x.1 ++ [x.2])) x.2 (nget (nput (stN r) x.1 (nget (stN r) x.1 ++ [x.2])) x.2 ++ [x.1])
theorem stN_near {n : Int} : ∀ {r : List Ed}, (∀ p ∈ r, okE n p) -> ∀ v, nget (stN r) v = nearL r.reverse v := by
 intro r
 induction r with
 | nil => intro _ v; rfl
 | cons x r ih =>
  intro h v;have ih := ih fun p hp => h p (List.mem_cons_of_mem _ hp)
  have hx := h x List.mem_cons_self;unfold okE at hx;rw [List.reverse_cons, nearL_snoc];simp only [stN, nget_put, ih];unfold nearX;by_cases h1 : x.1 = v
  ·have h2 : x.2 ≠ v := by omega
   rw [if_neg h2, if_pos h1, if_pos h1, if_neg h2, h1]; simp
  ·by_cases h2 : x.2 = v
   ·rw [if_pos h2, if_neg (show ¬ x.1 = x.2 by omega), if_neg h1, if_pos h2, h2]; simp
   ·rw [if_neg h2, if_neg h1, if_neg h1, if_neg h2]; simp
theorem stT_has : ∀ {r : List Ed} {e : Ed}, mapHas (stT r) (keyE e) = true ↔ e ∈ r := by
 intro r
 induction r with
 | nil => intro e; simp [stT, mapHas]
 | cons x r ih =>
  intro e;simp only [stT, mapHas_put, Bool.or_eq_true, ih, decide_eq_true_eq, keyE_inj, List.mem_cons];exact or_congr eq_comm Iff.rfl
theorem stT_get : ∀ {r : List Ed}, r.Nodup -> ∀ {i : Nat} {e : Ed}, r.reverse[i]? = some e -> mapGet (stT r) (keyE e) = i := by
 intro r
 induction r with
 | nil => intro _ i e h; simp at h
 | cons x r ih =>
  intro hn i e h;have hn := List.nodup_cons.1 hn;rw [List.reverse_cons] at h;simp only [stT, mapGet_put, keyE_inj];rcases Nat.lt_trichotomy i r.length with hi | hi | hi
  ·rw [qLq (by simpa using hi)] at h;have hm : e ∈ r := by simpa using qMq h
   rw [if_neg (fun k => hn.1 (by rw [k]; exact hm))];exact ih hn.2 h
  ·rw [qRq (by simp; omega)] at h;simp [hi] at h;rw [if_pos h, hi]
  ·rw [List.getElem?_eq_none (by simp; omega)] at h;simp at h
structure Sp where
 left : List Int
 near : Nr
 thing : Th
 out : List Nd
def cutV (v : Int) (N : Nr) (x : Int) : Nr := nput N x ((nget N x).erase v)
def cutsV (v : Int) (l : List Int) (N : Nr) : Nr := l.foldl (cutV v) N
theorem cuts_get {v : Int} : ∀ {l : List Int} {N : Nr}, l.Nodup -> ∀ {u : Int}, nget (cutsV v l N) u = if u ∈ l then (nget N u).erase v else nget N u := by
 intro l
 induction l with
 | nil => intro N _ u; simp [cutsV]
 | cons x l ih =>
  intro N hn u;have hn := List.nodup_cons.1 hn;show nget (cutsV v l (cutV v N x)) u = _
  rw [ih hn.2];unfold cutV;rw [nget_put];by_cases hu : u = x
  ·subst hu;rw [if_neg hn.1, if_pos rfl, if_pos List.mem_cons_self]
  ·rw [if_neg (Ne.symm hu)];by_cases hm : u ∈ l
   ·rw [if_pos hm, if_pos (List.mem_cons_of_mem _ hm)]
   ·rw [if_neg hm, if_neg (by simp [hu, hm])]
def joinN (N : Nr) (a b : Int) : Nr := nput (nput N a (nget N a ++ [b])) b (nget (nput N a (nget N a ++ [b])) b ++ [a])
theorem join_get {N : Nr} {a b u : Int} (h : a ≠ b) : nget (joinN N a b) u = if u = a then nget N a ++ [b] else if u = b then nget N b ++ [a] else nget N u := by
 unfold joinN
 rw [nget_put, nget_put, nget_put]
 by_cases h1 : u = a
 ·subst h1; rw [if_pos rfl, if_neg (Ne.symm h), if_pos rfl]
 ·by_cases h2 : u = b
  ·subst h2; rw [if_pos rfl, if_neg h1, if_pos rfl, if_neg h]
  ·rw [if_neg (Ne.symm h2), if_neg (Ne.symm h1), if_neg h1, if_neg h2]
def endsS (s : Sp) (v : Int) : Ed := pairF ((nget s.near v).getD 0 0) ((nget s.near v).getD 1 0)
def stepS (m : Nat) (s : Sp) (k : Nat) : Sp :=
 let v := s.left.getD k 0
 let e := endsS s v
 let N1 := cutsV v (nget s.near v) s.near
 let o1 := s.out ++ [((1, mapGet s.thing (keyE (pairF v e.1)), mapGet s.thing (keyE (pairF v e.2))) : Nd)]
 if mapHas s.thing (keyE e) = true then
  { left := s.left.eraseIdx k, near := N1, thing := mapPut s.thing (keyE e) ((m : Int) + (o1.length : Int)), out := o1 ++ [(2, mapGet s.thing (keyE e), (m : Int) + (o1.length : Int) - 1)] }
 else { left := s.left.eraseIdx k, near := joinN N1 e.1 e.2, thing := mapPut s.thing (keyE e) ((m : Int) + (o1.length : Int) - 1), out := o1 }
def pickS (s : Sp) : Option Nat := s.left.findIdx? fun v => decide ((nget s.near v).length = 2)
def runSp (c : Int) (m : Nat) : Nat -> Sp -> List Nd × Int
 | 0, s => (s.out, 0)
 | f + 1, s => if s.left.length <= 2 then (s.out, 0) else match pickS s with
  | none => ([], c)
  | some k => runSp c m f (stepS m s k)
theorem runSp_stop {c : Int} {m f : Nat} {s : Sp} (h : s.left.length <= 2) : runSp c m f s = (s.out, 0) := by
 cases f with
 | zero => rfl
 | succ f => exact if_pos h
structure SpI (s : Sp) : Prop where
 nl : s.left.Nodup
 nd : ∀ v ∈ s.left, (nget s.near v).Nodup
 sym : ∀ v ∈ s.left, ∀ x ∈ nget s.near v, x ∈ s.left /\ x ≠ v /\ v ∈ nget s.near x
 th : ∀ a ∈ s.left, ∀ b ∈ s.left, a ≠ b -> (mapHas s.thing (keyE (pairF a b)) = true ↔ b ∈ nget s.near a)
structure PickP (s : Sp) (k : Nat) (v p q : Int) : Prop where
 at_ : s.left[k]? = some v
 near : nget s.near v = [p, q]
 mem : v ∈ s.left
 pm : p ∈ s.left
 qm : q ∈ s.left
 pv : p ≠ v
 qv : q ≠ v
 pq : p ≠ q
 vp : v ∈ nget s.near p
 vq : v ∈ nget s.near q
theorem SpI.pick {s : Sp} (h : SpI s) {k : Nat} (hk : pickS s = some k) : ∃ v p q, PickP s k v p q := by
 obtain ⟨hlt, hp, -⟩ := List.findIdx?_eq_some_iff_getElem.1 hk
 have hp := of_decide_eq_true hp
 have hm : s.left[k] ∈ s.left := List.getElem_mem hlt
 obtain ⟨p, q, hpq⟩ : ∃ p q, nget s.near s.left[k] = [p, q] := by
  match hh : nget s.near s.left[k], hp with
  | [p, q], _ => exact ⟨p, q, rfl⟩
 have hn := h.nd _ hm
 rw [hpq] at hn
 obtain ⟨p1, p2, p3⟩ := h.sym _ hm p (by rw [hpq]; simp)
 obtain ⟨q1, q2, q3⟩ := h.sym _ hm q (by rw [hpq]; simp)
 exact ⟨s.left[k], p, q, ⟨qEq hlt, hpq, hm, p1, q1, p2, q2, by simp at hn; exact hn, p3, q3⟩⟩
theorem eraseIdx_erase {l : List Int} {k : Nat} {v : Int} (hn : l.Nodup) (h : l[k]? = some v) : l.eraseIdx k = l.erase v := by
 obtain ⟨hk, rfl⟩ := qSq.1 h
 have h : l = l.take k ++ l[k] :: l.drop (k + 1) := by rw [<- List.drop_eq_getElem_cons hk, List.take_append_drop]
 obtain ⟨x, hx⟩ : ∃ x, l[k] = x := ⟨_, rfl⟩
 rw [hx] at h ⊢
 have hm : x ∉ l.take k := fun hm => by
  rw [h, List.nodup_append] at hn;exact hn.2.2 x hm x (by simp) rfl
 rw [List.eraseIdx_eq_take_drop_succ]
 conv => rhs; rw [h]
 rw [List.erase_append_right _ hm, List.erase_cons_head]
theorem SpI.step {s : Sp} (h : SpI s) (m : Nat) {k : Nat} {v p q : Int} (hp : PickP s k v p q) : SpI (stepS m s k) /\ (stepS m s k).left = s.left.erase v /\ (stepS m s k).left.length + 1 = s.left.length := by
 have hv : s.left.getD k 0 = v := by rw [qDq, hp.at_]; rfl
 have hE := eraseIdx_erase h.nl hp.at_
 have hmem : ∀ {x : Int}, x ∈ s.left.erase v ↔ x ∈ s.left /\ x ≠ v := fun {x} => by rw [h.nl.mem_erase_iff]; exact And.comm
 have hlen : (s.left.erase v).length + 1 = s.left.length := by
  have := List.length_erase_of_mem hp.mem;have : 0 < s.left.length := List.length_pos_of_mem hp.mem;omega
 have hends : endsS s v = pairF p q := by unfold endsS; rw [hp.near]; rfl
 have hnpq : [p, q].Nodup := by simp [hp.pq]
 have hN1 : ∀ u, nget (cutsV v (nget s.near v) s.near) u = if u = p \/ u = q then (nget s.near u).erase v else nget s.near u := fun u => by
  rw [hp.near, cuts_get hnpq];by_cases hu : u = p \/ u = q
  ·rw [if_pos (by simpa using hu), if_pos hu]
  ·rw [if_neg (by simpa using hu), if_neg hu]
 have hadj : ∀ {u x : Int}, u ∈ s.left -> u ≠ v -> (x ∈ nget (cutsV v (nget s.near v) s.near) u ↔ x ∈ nget s.near u /\ x ≠ v) := fun {u x} hu huv => by
  rw [hN1];by_cases hu2 : u = p \/ u = q
  ·rw [if_pos hu2, (h.nd u hu).mem_erase_iff]; exact And.comm
  ·rw [if_neg hu2];refine ⟨fun hx => ⟨hx, fun e => ?_⟩, And.left⟩;subst e;have := (h.sym u hu x hx).2.2;rw [hp.near] at this;exact hu2 (by simpa using this)
 have hnd1 : ∀ u ∈ s.left, (nget (cutsV v (nget s.near v) s.near) u).Nodup := fun u hu => by
  rw [hN1]; split
  ·exact (h.nd u hu).erase v
  ·exact h.nd u hu
 have hpair : keyE (endsS s v) = keyE (pairF p q) := by rw [hends]
 have hpv : p ∈ s.left.erase v := hmem.2 ⟨hp.pm, hp.pv⟩
 have hqv : q ∈ s.left.erase v := hmem.2 ⟨hp.qm, hp.qv⟩
 have hthpq := h.th p hp.pm q hp.qm hp.pq
 by_cases hc : mapHas s.thing (keyE (endsS s v)) = true
 ·have hst : stepS m s k = { left := s.left.erase v, near := cutsV v (nget s.near v) s.near, thing := mapPut s.thing (keyE (endsS s v)) ((m : Int) + ((s.out ++ [((1, mapGet s.thing (keyE (pairF v (endsS s v).1)), mapGet s.thing (keyE (pairF v (endsS s v).2))) : Nd)]).length : Int)), out := (s.out ++ [((1, mapGet s.thing (keyE (pairF v (endsS s v).1)), mapGet s.thing (keyE (pairF v (endsS s v).2))) : Nd)]) ++ [(2, mapGet s.thing (keyE (endsS s v)), (m : Int) + ((s.out ++ [((1, mapGet s.thing (keyE (pairF v (endsS s v).1)), mapGet s.thing (keyE (pairF v (endsS s v).2))) : Nd)]).length : Int) - 1)] } := by
   unfold stepS;simp only [hv, hE];rw [if_pos hc]
  rw [hst];rw [hpair] at hc;have hpq : q ∈ nget s.near p := hthpq.1 hc;refine ⟨⟨h.nl.erase v, fun u hu => hnd1 u (hmem.1 hu).1, fun u hu x hx => ?_, fun a ha b hb hab => ?_⟩, rfl, hlen⟩
  ·obtain ⟨hu1, hu2⟩ := hmem.1 hu;obtain ⟨hx1, hx2⟩ := (hadj hu1 hu2).1 hx;obtain ⟨y1, y2, y3⟩ := h.sym u hu1 x hx1;exact ⟨hmem.2 ⟨y1, hx2⟩, y2, (hadj y1 hx2).2 ⟨y3, hu2⟩⟩
  ·obtain ⟨a1, a2⟩ := hmem.1 ha;obtain ⟨b1, b2⟩ := hmem.1 hb;show mapHas (mapPut _ _ _) _ = true ↔ _
   rw [mapHas_put, hpair, Bool.or_eq_true, decide_eq_true_eq, keyE_inj, pairF_inj, h.th a a1 b b1 hab, hadj a1 a2];refine ⟨fun hx => ?_, fun hx => .inr hx.1⟩;rcases hx with (⟨rfl, rfl⟩ | ⟨rfl, rfl⟩) | hx
   ·exact ⟨hpq, b2⟩
   ·exact ⟨(h.sym p hp.pm q hpq).2.2, b2⟩
   ·exact ⟨hx, b2⟩
 ·have hst : stepS m s k = { left := s.left.erase v, near := joinN (cutsV v (nget s.near v) s.near) (endsS s v).1 (endsS s v).2, thing := mapPut s.thing (keyE (endsS s v)) ((m : Int) + ((s.out ++ [((1, mapGet s.thing (keyE (pairF v (endsS s v).1)), mapGet s.thing (keyE (pairF v (endsS s v).2))) : Nd)]).length : Int) - 1), out := s.out ++ [((1, mapGet s.thing (keyE (pairF v (endsS s v).1)), mapGet s.thing (keyE (pairF v (endsS s v).2))) : Nd)] } := by
   unfold stepS;simp only [hv, hE];rw [if_neg hc]
  rw [hst];rw [hpair] at hc;have hpq : ¬ q ∈ nget s.near p := fun k => hc (hthpq.2 k)
  have hqp : ¬ p ∈ nget s.near q := fun k => hpq (h.sym q hp.qm p k).2.2
  have hj : ∀ u, nget (joinN (cutsV v (nget s.near v) s.near) (endsS s v).1 (endsS s v).2) u = if u = p then nget (cutsV v (nget s.near v) s.near) p ++ [q] else if u = q then nget (cutsV v (nget s.near v) s.near) q ++ [p] else nget (cutsV v (nget s.near v) s.near) u := fun u => by
   rw [hends];have hne := hp.pq;rcases pairF_two p q with ⟨e1, e2⟩ | ⟨e1, e2⟩
   ·rw [e1, e2, join_get hne]
   ·rw [e1, e2, join_get (Ne.symm hne)];by_cases u1 : u = p
    ·rw [if_pos u1, if_neg (by rw [u1]; exact hne), if_pos u1]
    ·by_cases u2 : u = q
     ·rw [if_pos u2, if_neg u1, if_pos u2]
     ·rw [if_neg u2, if_neg u1, if_neg u1, if_neg u2]
  have hadj2 : ∀ {u x : Int}, u ∈ s.left -> u ≠ v -> (x ∈ nget (joinN (cutsV v (nget s.near v) s.near) (endsS s v).1 (endsS s v).2) u ↔ (x ∈ nget s.near u /\ x ≠ v) \/ (u = p /\ x = q) \/ (u = q /\ x = p)) := fun {u x} hu huv => by
   have hne := hp.pq;rw [hj];by_cases u1 : u = p
   ·subst u1;rw [if_pos rfl, List.mem_append, hadj hu huv, List.mem_singleton];constructor
    ·rintro (h | h)
     ·exact .inl h
     ·exact .inr (.inl ⟨rfl, h⟩)
    ·rintro (h | ⟨_, h⟩ | ⟨h, _⟩)
     ·exact .inl h
     ·exact .inr h
     ·exact absurd h hne
   ·rw [if_neg u1];by_cases u2 : u = q
    ·subst u2;rw [if_pos rfl, List.mem_append, hadj hu huv, List.mem_singleton];constructor
     ·rintro (h | h)
      ·exact .inl h
      ·exact .inr (.inr ⟨rfl, h⟩)
     ·rintro (h | ⟨h, _⟩ | ⟨_, h⟩)
      ·exact .inl h
      ·exact absurd h u1
      ·exact .inr h
    ·rw [if_neg u2, hadj hu huv];constructor
     ·exact .inl
     ·rintro (h | ⟨h, _⟩ | ⟨h, _⟩)
      ·exact h
      ·exact absurd h u1
      ·exact absurd h u2
  refine ⟨⟨h.nl.erase v, fun u hu => ?_, fun u hu x hx => ?_, fun a ha b hb hab => ?_⟩, rfl, hlen⟩
  ·obtain ⟨hu1, hu2⟩ := hmem.1 hu;show (nget (joinN _ _ _) u).Nodup
   rw [hj];have ap : ∀ {y : Int} {w : Int}, w ∈ s.left -> w ≠ v -> y ∉ nget s.near w -> (nget (cutsV v (nget s.near v) s.near) w ++ [y]).Nodup := fun {y w} hw hwv hy => by
    refine List.nodup_append.2 ⟨hnd1 w hw, by simp, fun a ha b hb => ?_⟩;simp at hb;subst hb;rintro rfl;exact hy ((hadj hw hwv).1 ha).1
   split
   ·exact ap hp.pm hp.pv hpq
   ·split
    ·exact ap hp.qm hp.qv hqp
    ·exact hnd1 u hu1
  ·obtain ⟨hu1, hu2⟩ := hmem.1 hu;have hne := hp.pq;rcases (hadj2 hu1 hu2).1 hx with ⟨hx1, hx2⟩ | ⟨rfl, rfl⟩ | ⟨rfl, rfl⟩
   ·obtain ⟨y1, y2, y3⟩ := h.sym u hu1 x hx1;exact ⟨hmem.2 ⟨y1, hx2⟩, y2, (hadj2 y1 hx2).2 (.inl ⟨y3, hu2⟩)⟩
   ·exact ⟨hqv, Ne.symm hne, (hadj2 hp.qm hp.qv).2 (.inr (.inr ⟨rfl, rfl⟩))⟩
   ·exact ⟨hpv, hne, (hadj2 hp.pm hp.pv).2 (.inr (.inl ⟨rfl, rfl⟩))⟩
  ·obtain ⟨a1, a2⟩ := hmem.1 ha;obtain ⟨b1, b2⟩ := hmem.1 hb;show mapHas (mapPut _ _ _) _ = true ↔ _
   rw [mapHas_put, hpair, Bool.or_eq_true, decide_eq_true_eq, keyE_inj, pairF_inj, h.th a a1 b b1 hab, hadj2 a1 a2];constructor
   ·rintro ((⟨rfl, rfl⟩ | ⟨rfl, rfl⟩) | hx)
    ·exact .inr (.inl ⟨rfl, rfl⟩)
    ·exact .inr (.inr ⟨rfl, rfl⟩)
    ·exact .inl ⟨hx, b2⟩
   ·rintro (⟨hx, _⟩ | ⟨rfl, rfl⟩ | ⟨rfl, rfl⟩)
    ·exact .inr hx
    ·exact .inl (.inl ⟨rfl, rfl⟩)
    ·exact .inl (.inr ⟨rfl, rfl⟩)
def startS (E : List Ed) (l : List Int) : Sp := { left := sortI l, near := stN (withL l E).reverse, thing := stT (withL l E).reverse, out := [] }
theorem with_mem {l : List Int} {E : List Ed} {a b : Int} : adjE (withL l E) a b ↔ adjE E a b /\ a ∈ l /\ b ∈ l := by
 unfold adjE withL ownP
 simp only [List.mem_filter, Bool.and_eq_true, List.elem_eq_mem, decide_eq_true_eq]
 constructor
 ·rintro (⟨h, h1, h2⟩ | ⟨h, h1, h2⟩)
  ·exact ⟨.inl h, h1, h2⟩
  ·exact ⟨.inr h, h2, h1⟩
 ·rintro ⟨h | h, h1, h2⟩
  ·exact .inl ⟨h, h1, h2⟩
  ·exact .inr ⟨h, h2, h1⟩
theorem withL_ok {n : Int} {l : List Int} {E : List Ed} (hR : RightP n E) : (∀ p ∈ withL l E, okE n p) /\ (withL l E).Pairwise ltE := ⟨fun p hp => hR.2.2.2.1 p (List.mem_filter.1 hp).1, hR.2.2.2.2.filter _⟩
theorem start_near {n : Int} {l : List Int} {E : List Ed} (hR : RightP n E) (v : Int) : nget (startS E l).near v = nearL (withL l E) v := by
 have := stN_near (r := (withL l E).reverse) (n := n) (fun p hp => (withL_ok hR).1 p (by simpa using hp)) v
 rw [List.reverse_reverse] at this
 exact this
theorem adj_ne {n : Int} {E : List Ed} (hR : RightP n E) {a b : Int} (h : adjE E a b) : a ≠ b := by
 rintro rfl
 rcases h with h | h <;> have := hR.2.2.2.1 _ h <;> unfold okE at this <;> omega
theorem start_ok {n : Int} {l : List Int} {E : List Ed} (hR : RightP n E) (hl : l.Nodup) : SpI (startS E l) := by
 have hm : ∀ {x : Int}, x ∈ (startS E l).left ↔ x ∈ l := fun {x} => (List.mergeSort_perm l _).mem_iff
 refine ⟨(List.mergeSort_perm l _).nodup_iff.2 hl, fun v hv => ?_, fun v hv x hx => ?_, fun a ha b hb hab => ?_⟩
 ·rw [start_near hR];exact (near_sorted (withL_ok hR).1 (withL_ok hR).2).imp fun h => by omega
 ·rw [start_near hR, mem_nearL] at hx;obtain ⟨h1, h2, h3⟩ := with_mem.1 hx;refine ⟨hm.2 h3, Ne.symm (adj_ne hR h1), ?_⟩;rw [start_near hR, mem_nearL];exact Or.symm hx
 ·rw [start_near hR, mem_nearL];show mapHas (stT _) _ = true ↔ _
  rw [stT_has, List.mem_reverse];unfold adjE;have key : ∀ {x y : Int}, x < y -> (pairF x y ∈ withL l E ↔ (x, y) ∈ withL l E \/ (y, x) ∈ withL l E) := fun {x y} hxy => by
   rw [pairF_le (by omega)];refine ⟨.inl, fun h => ?_⟩;rcases h with h | h
   ·exact h
   ·have := (withL_ok hR).1 _ h;unfold okE at this;omega
  rcases Int.lt_or_lt_of_ne hab with h | h
  ·exact key h
  ·rw [pairF_comm, key h]; exact or_comm
end Go.Sh
namespace Go.Sh
open Go.Proofs
def cntN (t : List Nd) (a : Int) : Nat := t.countP (fun x => x.2.1 == a) + t.countP (fun x => x.2.2 == a)
def OnceP (m : Nat) (t : List Nd) : Prop := ∀ i, i < m + t.length -> cntN t (i : Int) = if i = m + t.length - 1 then 0 else 1
instance (m : Nat) (t : List Nd) : Decidable (OnceP m t) := by unfold OnceP; infer_instance
theorem cntN_snoc {t : List Nd} {x : Nd} {a : Int} : cntN (t ++ [x]) a = cntN t a + (if x.2.1 = a then 1 else 0) + (if x.2.2 = a then 1 else 0) := by
 unfold cntN
 rw [List.countP_append, List.countP_append, List.countP_singleton, List.countP_singleton]
 simp only [beq_iff_eq]
 omega
end Go.Sh
namespace Go.Sh
section
variable {n : Int} {E : List Ed} {l : List Int}
theorem idx_get {v : Int} (hv : v ∈ l) : l[l.idxOf v]? = some v := by
 have h := List.idxOf_lt_length_of_mem hv
 rw [qEq h, List.getElem_idxOf h]
theorem idx_inj {a b : Int} (ha : a ∈ l) (hb : b ∈ l) (h : l.idxOf a = l.idxOf b) : a = b := by
 have h1 := idx_get ha
 have h2 := idx_get hb
 rw [h, h2] at h1
 injection h1 with h1
 exact h1.symm
theorem idx_of {i : Nat} (hn : l.Nodup) (hi : i < l.length) : l.idxOf l[i] = i := hn.idxOf_getElem i hi
theorem edN_two {x y : Int} {p : Ed} (h : (x, y) = edN p) : (x = p.1 /\ y = p.2) \/ (x = p.2 /\ y = p.1) := by
 unfold edN mnI mxI at h
 injection h with h1 h2
 split at h1 <;> split at h2 <;> first | omega | exact .inl ⟨h1, h2⟩ | exact .inr ⟨h1, h2⟩
theorem edN_adj {L : List Ed} {p : Ed} (hp : p ∈ L) (hne : p.1 ≠ p.2) : adjE (normE L) p.1 p.2 := by
 have h : edN p ∈ normE L := mem_normE.2 ⟨p, hp, hne, rfl⟩
 have : edN p = (p.1, p.2) \/ edN p = (p.2, p.1) := by
  unfold edN mnI mxI;by_cases h : p.1 < p.2
  ·simp [h]; omega
  ·simp [h]; omega
 rcases this with e | e
 ·exact .inl (e ▸ h)
 ·exact .inr (e ▸ h)
theorem own_adj (hR : RightP n E) {a b : Int} (ha : a ∈ l) (hb : b ∈ l) : adjE (normE (ownG l E)) ((l.idxOf a : Nat) : Int) ((l.idxOf b : Nat) : Int) ↔ adjE E a b := by
 have hmem : ∀ p, p ∈ ownG l E ↔ ∃ e ∈ E, e.1 ∈ l /\ e.2 ∈ l /\ p = (((l.idxOf e.1 : Nat) : Int), ((l.idxOf e.2 : Nat) : Int)) := fun p => by
  unfold ownG ownP;rw [List.mem_map];constructor
  ·rintro ⟨e, he, rfl⟩;obtain ⟨h1, h2⟩ := List.mem_filter.1 he;simp only [Bool.and_eq_true, List.elem_eq_mem, decide_eq_true_eq] at h2;exact ⟨e, h1, h2.1, h2.2, rfl⟩
  ·rintro ⟨e, h1, h2, h3, rfl⟩;exact ⟨e, List.mem_filter.2 ⟨h1, by simp [h2, h3]⟩, rfl⟩
 have key : ∀ x y : Int, x ∈ l -> y ∈ l -> (((l.idxOf x : Nat) : Int), ((l.idxOf y : Nat) : Int)) ∈ normE (ownG l E) -> adjE E x y := fun x y hx hy h => by
  obtain ⟨p, hp, hne, he⟩ := mem_normE.1 h;obtain ⟨e, h1, h2, h3, rfl⟩ := (hmem p).1 hp;rcases edN_two he with ⟨q1, q2⟩ | ⟨q1, q2⟩
  ·have e1 := idx_inj hx h2 (by dsimp only at q1; omega);have e2 := idx_inj hy h3 (by dsimp only at q2; omega);rw [e1, e2]; exact .inl h1
  ·have e1 := idx_inj hx h3 (by dsimp only at q1; omega);have e2 := idx_inj hy h2 (by dsimp only at q2; omega);rw [e1, e2]; exact .inr h1
 constructor
 ·rintro (h | h)
  ·exact key a b ha hb h
  ·exact (key b a hb ha h).symm
 ·have fwd : ∀ x y : Int, x ∈ l -> y ∈ l -> (x, y) ∈ E -> adjE (normE (ownG l E)) ((l.idxOf x : Nat) : Int) ((l.idxOf y : Nat) : Int) := fun x y hx hy h => by
   have hok := hR.2.2.2.1 _ h;unfold okE at hok;refine edN_adj (p := (((l.idxOf x : Nat) : Int), ((l.idxOf y : Nat) : Int))) ((hmem _).2 ⟨(x, y), h, hx, hy, rfl⟩) fun e => ?_
   have := idx_inj hx hy (by dsimp only at e; omega);dsimp only at hok;omega
  rintro (h | h)
  ·exact fwd a b ha hb h
  ·exact (fwd b a hb ha h).symm
def nearO (l : List Int) (E : List Ed) : List (List Int) := nbrs l.length (normE (ownG l E))
theorem okO {v : Int} : okD (nearO l E) v ↔ 0 <= v /\ v < l.length := ok_nbrs
theorem nbO {v w : Int} (hv : okD (nearO l E) v) : w ∈ nbD (nearO l E) v ↔ adjE (normE (ownG l E)) v w := by
 unfold nearO at hv ⊢
 rw [nbD_nbrs hv]; exact mem_nearL
theorem rch_iff (hR : RightP n E) (hn : l.Nodup) (hG : GraphD (nearO l E)) {k : List Int} (hk : ∀ x ∈ k, x ∈ l) {a b : Int} (ha : a ∈ k) (hb : b ∈ k) :
  Rch E k a b ↔ RchD (nearO l E) (fun i => ∃ v ∈ k, i = ((l.idxOf v : Nat) : Int)) ((l.idxOf a : Nat) : Int) ((l.idxOf b : Nat) : Int) := by
 have hok : ∀ v ∈ k, okD (nearO l E) ((l.idxOf v : Nat) : Int) := fun v hv => okO.2 ⟨by omega, by have := List.idxOf_lt_length_of_mem (hk v hv); omega⟩
 constructor
 ·intro h;have : ∀ {b : Int}, Rch E k a b -> b ∈ k /\ RchD (nearO l E) (fun i => ∃ v ∈ k, i = ((l.idxOf v : Nat) : Int)) ((l.idxOf a : Nat) : Int) ((l.idxOf b : Nat) : Int) := by
   intro b h
   induction h with
   | base => exact ⟨ha, .refl ⟨a, ha, rfl⟩⟩
   | step _ h2 h3 ih => exact ⟨h3, ih.2.trans (.one ⟨_, ih.1, rfl⟩ ⟨_, h3, rfl⟩ ((nbO (hok _ ih.1)).2 ((own_adj hR (hk _ ih.1) (hk _ h3)).2 h2)))⟩
  exact (this h).2
 ·intro h;have : ∀ {i j : Int}, RchD (nearO l E) (fun i => ∃ v ∈ k, i = ((l.idxOf v : Nat) : Int)) i j -> ∀ {c x y : Int}, Rch E k c x -> x ∈ k -> i = ((l.idxOf x : Nat) : Int) -> y ∈ k -> j = ((l.idxOf y : Nat) : Int) -> Rch E k c y := by
   intro i j h
   induction h with
   | refl _ =>
    intro c x y h1 h2 e1 h3 e2;have := idx_inj (hk x h2) (hk y h3) (by omega);rw [<- this]; exact h1
   | step _ hb hr ih =>
    intro c x y h1 h2 e1 h3 e2;obtain ⟨z, hz, ez⟩ := hr.left;subst e1;rw [ez] at hb;have hadj := (own_adj hR (hk x h2) (hk z hz)).1 ((nbO (hok x h2)).1 hb);exact ih (.step h1 hadj hz) hz ez h3 e2
  exact this h .base ha rfl hb rfl
theorem img_all (hn : l.Nodup) {i : Int} : okD (nearO l E) i ↔ ∃ v ∈ l, i = ((l.idxOf v : Nat) : Int) := by
 rw [okO]
 constructor
 ·rintro ⟨h0, h1⟩;have hi : i.toNat < l.length := by omega
  exact ⟨l[i.toNat], List.getElem_mem _, by rw [idx_of hn hi]; omega⟩
 ·rintro ⟨v, hv, rfl⟩;have := List.idxOf_lt_length_of_mem hv;omega
theorem img_but (hn : l.Nodup) {c : Int} (hc : c ∈ l) {i : Int} : (okD (nearO l E) i /\ i ≠ ((l.idxOf c : Nat) : Int)) ↔ ∃ v ∈ l.erase c, i = ((l.idxOf v : Nat) : Int) := by
 rw [img_all hn]
 constructor
 ·rintro ⟨⟨v, hv, rfl⟩, hne⟩;exact ⟨v, (List.mem_erase_of_ne (fun e => hne (by rw [e]))).2 hv, rfl⟩
 ·rintro ⟨v, hv, rfl⟩;have h := (hn.mem_erase_iff).1 hv;exact ⟨⟨v, h.2, rfl⟩, fun e => h.1 (idx_inj h.2 hc (by omega))⟩
def AllC (E : List Ed) (k : List Int) : Prop := ∀ a ∈ k, ∀ b ∈ k, Rch E k a b
theorem bic_iff (hR : RightP n E) (hn : l.Nodup) (hG : GraphD (nearO l E)) : Bic (nearO l E) ↔ AllC E l /\ ∀ c ∈ l, AllC E (l.erase c) := by
 have h1 : ∀ x, (∃ v ∈ l, x = ((l.idxOf v : Nat) : Int)) ↔ okD (nearO l E) x := fun x => (img_all hn).symm
 constructor
 ·intro hB;refine ⟨fun a ha b hb => (rch_iff hR hn hG (fun _ h => h) ha hb).2 ((hB.1 _ _ ((h1 _).1 ⟨a, ha, rfl⟩) ((h1 _).1 ⟨b, hb, rfl⟩)).mono fun x hx => (h1 x).2 hx), fun c hc a ha b hb => ?_⟩;have m : ∀ x ∈ l.erase c, x ∈ l := fun x hx => List.mem_of_mem_erase hx
  have ia := (img_but (E := E) hn hc).2 ⟨a, ha, rfl⟩;have ib := (img_but (E := E) hn hc).2 ⟨b, hb, rfl⟩;have ic : okD (nearO l E) ((l.idxOf c : Nat) : Int) := (h1 _).1 ⟨c, hc, rfl⟩;exact (rch_iff hR hn hG m ha hb).2 ((hB.2 _ ic _ _ ia.1 ib.1 ia.2 ib.2).mono fun x hx => (img_but hn hc).1 hx)
 ·rintro ⟨hA, hC⟩;refine ⟨fun i j hi hj => ?_, fun c hc i j hi hj hic hjc => ?_⟩
  ·obtain ⟨a, ha, rfl⟩ := (h1 i).2 hi;obtain ⟨b, hb, rfl⟩ := (h1 j).2 hj;exact ((rch_iff hR hn hG (fun _ h => h) ha hb).1 (hA a ha b hb)).mono fun x hx => (h1 x).1 hx
  ·obtain ⟨z, hz, rfl⟩ := (h1 c).2 hc;obtain ⟨a, ha, rfl⟩ := (img_but hn hz).1 ⟨hi, hic⟩;obtain ⟨b, hb, rfl⟩ := (img_but hn hz).1 ⟨hj, hjc⟩;exact ((rch_iff hR hn hG (fun x hx => List.mem_of_mem_erase hx) ha hb).1 (hC z hz a ha b hb)).mono fun x hx => (img_but hn hz).2 hx
theorem conn_all (hR : RightP n E) (hn : l.Nodup) (hG : GraphD (nearO l E)) {k : List Int} (hk : ∀ x ∈ k, x ∈ l) (h0 : k ≠ []) : Conn E k ↔ AllC E k := by
 obtain ⟨h, hh⟩ : ∃ h, k.headD 0 = h := ⟨_, rfl⟩
 have hm : h ∈ k := by rw [<- hh]; cases k with | nil => exact absurd rfl h0 | cons a k => simp
 unfold Conn
 rw [hh]
 refine ⟨fun hc a ha b hb => ?_, fun hA v hv => hA h hm v hv⟩
 have e1 := (rch_iff hR hn hG hk hm ha).1 (hc a ha)
 have e2 := (rch_iff hR hn hG hk hm hb).1 (hc b hb)
 refine (rch_iff hR hn hG hk ha hb).2 ((e1.symm hG fun x hx => ?_).trans e2)
 obtain ⟨v, hv, rfl⟩ := hx
 exact (img_all hn).2 ⟨v, hk v hv, rfl⟩
theorem graphO (hR : RightP n E) (hl : l.length <= 1000) : GraphD (nearO l E) := by
 have hoR : ∀ p ∈ ownG l E, inR (l.length : Int) p := fun p hp => by
  unfold ownG at hp;obtain ⟨e, he, rfl⟩ := List.mem_map.1 hp;have hm := (List.mem_filter.1 he).2;unfold ownP at hm;simp only [Bool.and_eq_true, List.elem_eq_mem, decide_eq_true_eq] at hm;have q1 := List.idxOf_lt_length_of_mem hm.1;have q2 := List.idxOf_lt_length_of_mem hm.2;unfold inR;dsimp only;omega
 have := graph_nbrs (m := (l.length : Int)) (E := normE (ownG l E)) ⟨by omega, by omega, Nat.le_trans (normE_length _) (Nat.le_trans ownG_len hR.2.2.1), normE_ok hoR, normE_sorted _⟩
 rwa [Int.toNat_natCast] at this
theorem two_iff (hl : l.length <= 1000) : TwoP n E l ↔ 2 <= l.length /\ WholeP n E l /\ ∀ c ∈ l, WholeP n E (l.erase c) := by
 unfold TwoP
 constructor
 ·rintro ⟨hR, h2, hp, hB⟩;have hG := graphO (E := E) hR hl;have hB' := (bic_iff hR hp.1 hG).1 hB;have ne : l ≠ [] := fun e => by rw [e] at h2; simp at h2
  refine ⟨h2, ⟨hR, ne, hp.1, hp.2, (conn_all hR hp.1 hG (fun _ h => h) ne).2 hB'.1⟩, fun c hc => ?_⟩;have hle := List.length_erase_of_mem hc;have nee : l.erase c ≠ [] := fun e => by rw [e] at hle; simp at hle; omega
  exact ⟨hR, nee, hp.1.erase c, fun v hv => hp.2 v (List.mem_of_mem_erase hv), (conn_all hR hp.1 hG (fun x hx => List.mem_of_mem_erase hx) nee).2 (hB'.2 c hc)⟩
 ·rintro ⟨h2, hW, hC⟩;obtain ⟨hR, ne, hn, hr, hc⟩ := hW;have hG := graphO (E := E) hR hl;refine ⟨hR, h2, ⟨hn, hr⟩, (bic_iff hR hn hG).2 ⟨(conn_all hR hn hG (fun _ h => h) ne).1 hc, fun c hcl => ?_⟩⟩;obtain ⟨_, nee, _, _, hcc⟩ := hC c hcl;exact (conn_all hR hn hG (fun x hx => List.mem_of_mem_erase hx) nee).1 hcc
end
end Go.Sh
namespace Go.Sh
structure Ck where
 poles : List Ed
 used : List Int
 mid : Th
def Ck.pol (s : Ck) (i : Int) : Ed := s.poles.getD i.toNat (0, 0)
def Ck.usd (s : Ck) (i : Int) : Int := s.used.getD i.toNat 0
def FreeP (s : Ck) (x : Nd) : Prop := x.2.1 ≠ x.2.2 /\ 0 <= x.2.1 /\ 0 <= x.2.2 /\ x.2.1 < s.poles.length /\ x.2.2 < s.poles.length /\ s.usd x.2.1 + s.usd x.2.2 <= 0
instance (s : Ck) (x : Nd) : Decidable (FreeP s x) := by unfold FreeP; infer_instance
def midIn (m : Th) (v : Int) : Th := mapPut m [v] (mapGet m [v] + 1)
def ckStep (s : Ck) (x : Nd) : Option Ck :=
 if FreeP s x then
  (if x.1 = 1 then (if (middleF (s.pol x.2.1) (s.pol x.2.2)).2 = true then
    some { poles := s.poles ++ [(middleF (s.pol x.2.1) (s.pol x.2.2)).1.2], used := (s.used.set x.2.1.toNat 1).set x.2.2.toNat 1, mid := midIn s.mid (middleF (s.pol x.2.1) (s.pol x.2.2)).1.1 } else none)
   else if x.1 = 2 then (if s.pol x.2.1 = s.pol x.2.2 then
      some { poles := s.poles ++ [s.pol x.2.1], used := (s.used.set x.2.1.toNat 1).set x.2.2.toNat 1, mid := s.mid } else none)
   else none)
 else none
def ckRun : List Nd -> Ck -> Option Ck
 | [], s => some s
 | x :: t, s => match ckStep s x with
  | some s' => ckRun t s'
  | none => none
def ckStart (E : List Ed) (k : Nat) : Ck := { poles := E, used := List.replicate (E.length + k) 0, mid := [] }
def ckLast (s : Ck) : Ed := s.poles.getD (s.poles.length - 1) (0, 0)
def CkEnd (l : List Int) (s : Ck) : Prop := ∀ v ∈ l, mapGet s.mid [v] = if v = (ckLast s).1 \/ v = (ckLast s).2 then 0 else 1
instance (l : List Int) (s : Ck) : Decidable (CkEnd l s) := by unfold CkEnd; infer_instance
def ckB (E : List Ed) (l : List Int) (t : List Nd) : Bool := match ckRun t (ckStart (withL l E) t.length) with
 | some s => decide (CkEnd l s)
 | none => false
noncomputable def ckF (n : Int) (E : List Ed) (l : List Int) (t : List Nd) : Bool := twoB n E l && (decide (t.length + 1 = (withL l E).length) && ckB E l t)
def NodP (x y : Nd) : Prop := y = x \/ y = (x.1, x.2.2, x.2.1)
def Prop2 (x : Ed) : Prop := x.1 < x.2
theorem midL_iff : ∀ {L : List (Ed × Ed)}, (midL L).2 = true ↔ ∃ p ∈ L, p.1.2 = p.2.1 /\ p.1.1 ≠ p.2.2 := by
 intro L
 induction L with
 | nil => simp [midL]
 | cons p L ih =>
  obtain ⟨s, t⟩ := p;simp only [midL];by_cases h : s.2 = t.1 /\ s.1 ≠ t.2
  ·rw [if_pos h];exact ⟨fun _ => ⟨(s, t), List.mem_cons_self, h⟩, fun _ => rfl⟩
  ·rw [if_neg h, ih];constructor
   ·rintro ⟨p, hp, hh⟩; exact ⟨p, List.mem_cons_of_mem _ hp, hh⟩
   ·rintro ⟨p, hp, hh⟩;rcases List.mem_cons.1 hp with rfl | hp
    ·exact absurd hh h
    ·exact ⟨p, hp, hh⟩
theorem midL_get : ∀ {L : List (Ed × Ed)}, (midL L).2 = true -> ∃ p ∈ L, p.1.2 = p.2.1 /\ p.1.1 ≠ p.2.2 /\ midL L = ((p.1.2, pairF p.1.1 p.2.2), true) := by
 intro L
 induction L with
 | nil => intro h; simp [midL] at h
 | cons p L ih =>
  obtain ⟨s, t⟩ := p;intro h;simp only [midL] at h ⊢;by_cases hc : s.2 = t.1 /\ s.1 ≠ t.2
  ·rw [if_pos hc];exact ⟨(s, t), List.mem_cons_self, hc.1, hc.2, rfl⟩
  ·rw [if_neg hc] at h ⊢;obtain ⟨p, hp, h1, h2, h3⟩ := ih h;exact ⟨p, List.mem_cons_of_mem _ hp, h1, h2, h3⟩
def MidP (x y : Ed) (m a b : Int) : Prop := x = pairF a m /\ y = pairF m b /\ a ≠ b /\ a ≠ m /\ b ≠ m
theorem mem_sides2 {x y : Ed} {p : Ed × Ed} : p ∈ ((sides x).flatMap fun s => (sides y).map fun t => (s, t)) ↔ (p.1 = x \/ p.1 = (x.2, x.1)) /\ (p.2 = y \/ p.2 = (y.2, y.1)) := by
 have side : ∀ {x s : Ed}, s ∈ sides x ↔ s = x \/ s = (x.2, x.1) := fun {x s} => by
  unfold sides;rw [List.mem_cons, List.mem_singleton]
 rw [List.mem_flatMap]
 constructor
 ·rintro ⟨s, hs, hm⟩;obtain ⟨t, ht, e⟩ := List.mem_map.1 hm;subst e;exact ⟨side.1 hs, side.1 ht⟩
 ·rintro ⟨h1, h2⟩;exact ⟨p.1, side.2 h1, List.mem_map.2 ⟨p.2, side.2 h2, rfl⟩⟩
theorem side_pair {x s : Ed} (hx : Prop2 x) (h : s = x \/ s = (x.2, x.1)) : x = pairF s.1 s.2 /\ s.1 ≠ s.2 := by
 unfold Prop2 at hx
 rcases h with rfl | rfl
 ·exact ⟨(pairF_self _ hx).symm, by omega⟩
 ·exact ⟨by rw [pairF_comm]; exact (pairF_self _ hx).symm, by show x.2 ≠ x.1; omega⟩
theorem pair_side {x : Ed} {a b : Int} (h : x = pairF a b) : (a, b) = x \/ (a, b) = (x.2, x.1) := by
 rcases pairF_two a b with ⟨h1, h2⟩ | ⟨h1, h2⟩
 ·left; rw [h]; exact (Prod.ext h1 h2).symm
 ·right; rw [h, h1, h2]
theorem middle_yes {x y : Ed} (hx : Prop2 x) (hy : Prop2 y) (h : (middleF x y).2 = true) : ∃ m a b, MidP x y m a b /\ middleF x y = ((m, pairF a b), true) := by
 obtain ⟨⟨s, t⟩, hp, h1, h2, h3⟩ := midL_get h
 obtain ⟨hs, ht⟩ := mem_sides2.1 hp
 obtain ⟨q1, q2⟩ := side_pair hx hs
 obtain ⟨q3, q4⟩ := side_pair hy ht
 dsimp only at h1 h2 h3 q1 q2 q3 q4
 refine ⟨s.2, s.1, t.2, ⟨q1, by rw [h1]; exact q3, h2, q2, by rw [h1]; exact Ne.symm q4⟩, h3⟩
theorem middle_no {x y : Ed} {m a b : Int} (h : MidP x y m a b) : (middleF x y).2 = true := by
 obtain ⟨h1, h2, h3, _, _⟩ := h
 exact midL_iff.2 ⟨((a, m), (m, b)), mem_sides2.2 ⟨pair_side h1, pair_side h2⟩, rfl, h3⟩
theorem MidP.uniq {x y : Ed} {m a b m' a' b' : Int} (h : MidP x y m a b) (k : MidP x y m' a' b') : m = m' /\ a = a' /\ b = b' := by
 obtain ⟨h1, h2, h3, h4, h5⟩ := h
 obtain ⟨k1, k2, k3, k4, k5⟩ := k
 rw [h1, pairF_inj] at k1
 rw [h2, pairF_inj] at k2
 omega
theorem MidP.swap {x y : Ed} {m a b : Int} (h : MidP x y m a b) : MidP y x m b a := ⟨by rw [pairF_comm]; exact h.2.1, by rw [pairF_comm]; exact h.1, Ne.symm h.2.2.1, h.2.2.2.2, h.2.2.2.1⟩
def CkI (s : Ck) : Prop := ∀ x ∈ s.poles, Prop2 x
theorem CkI.pol {s : Ck} (h : CkI s) {i : Int} (h1 : i < s.poles.length) (h0 : 0 <= i) : Prop2 (s.pol i) /\ s.poles[i.toNat]? = some (s.pol i) := by
 unfold Ck.pol
 have hl : i.toNat < s.poles.length := by omega
 rw [qDq, qEq hl]
 exact ⟨h _ (List.getElem_mem hl), rfl⟩
inductive StepP (s : Ck) (x : Nd) (s' : Ck) : Prop
 | ser (m a b : Int) (op : x.1 = 1) (free : FreeP s x) (mid : MidP (s.pol x.2.1) (s.pol x.2.2) m a b) (is : s' = { poles := s.poles ++ [pairF a b], used := (s.used.set x.2.1.toNat 1).set x.2.2.toNat 1, mid := midIn s.mid m })
 | par (op : x.1 = 2) (free : FreeP s x) (same : s.pol x.2.1 = s.pol x.2.2) (is : s' = { poles := s.poles ++ [s.pol x.2.1], used := (s.used.set x.2.1.toNat 1).set x.2.2.toNat 1, mid := s.mid })
theorem ckStep_iff {s : Ck} (h : CkI s) {x : Nd} {s' : Ck} : ckStep s x = some s' ↔ StepP s x s' := by
 unfold ckStep
 by_cases hf : FreeP s x
 ·rw [if_pos hf];have p1 := (h.pol hf.2.2.2.1 hf.2.1).1;have p2 := (h.pol hf.2.2.2.2.1 hf.2.2.1).1;by_cases h1 : x.1 = 1
  ·rw [if_pos h1];by_cases hm : (middleF (s.pol x.2.1) (s.pol x.2.2)).2 = true
   ·rw [if_pos hm];obtain ⟨m, a, b, k, e⟩ := middle_yes p1 p2 hm;rw [e];constructor
    ·intro hs;injection hs with hs
     exact .ser m a b h1 hf k hs.symm
    ·rintro (⟨m', a', b', _, _, k', rfl⟩ | ⟨h2, _, _, _⟩)
     ·obtain ⟨rfl, rfl, rfl⟩ := k.uniq k'
      rfl
     ·omega
   ·rw [if_neg hm];constructor
    ·intro hs; simp at hs
    ·rintro (⟨m', a', b', _, _, k', rfl⟩ | ⟨h2, _, _, _⟩)
     ·exact absurd (middle_no k') hm
     ·omega
  ·rw [if_neg h1];by_cases h2 : x.1 = 2
   ·rw [if_pos h2];by_cases he : s.pol x.2.1 = s.pol x.2.2
    ·rw [if_pos he];constructor
     ·intro hs;injection hs with hs
      exact .par h2 hf he hs.symm
     ·rintro (⟨m', a', b', h3, _, k', rfl⟩ | ⟨_, _, _, rfl⟩)
      ·omega
      ·rfl
    ·rw [if_neg he];constructor
     ·intro hs; simp at hs
     ·rintro (⟨m', a', b', h3, _, k', rfl⟩ | ⟨_, _, he', rfl⟩)
      ·omega
      ·exact absurd he' he
   ·rw [if_neg h2];constructor
    ·intro hs; simp at hs
    ·rintro (⟨m', a', b', h3, _, k', rfl⟩ | ⟨h3, _, he', rfl⟩) <;> omega
 ·rw [if_neg hf];constructor
  ·intro hs; simp at hs
  ·rintro (⟨m', a', b', h3, hf', k', rfl⟩ | ⟨h3, hf', he', rfl⟩) <;> exact absurd hf' hf
theorem StepP.inv {s s' : Ck} {x : Nd} (h : CkI s) (hs : StepP s x s') : CkI s' := by
 cases hs with
 | ser m a b op free mid is =>
  subst is;intro y hy;rcases List.mem_append.1 hy with hy | hy
  ·exact h y hy
  ·rw [List.mem_singleton] at hy; subst hy; exact pairF_lt mid.2.2.1
 | par op free same is =>
  subst is;intro y hy;rcases List.mem_append.1 hy with hy | hy
  ·exact h y hy
  ·rw [List.mem_singleton] at hy; subst hy; exact (h.pol free.2.2.2.1 free.2.1).1
theorem set_comm2 {l : List Int} {i j : Nat} : (l.set i 1).set j 1 = (l.set j 1).set i (1 : Int) := by
 by_cases h : i = j
 ·subst h; rfl
 ·exact List.set_comm _ _ h
theorem StepP.turn {s s' : Ck} {x y : Nd} (hxy : NodP x y) (hs : StepP s x s') : StepP s y s' := by
 rcases hxy with rfl | rfl
 ·exact hs
 cases hs with
 | ser m a b op free mid is =>
  subst is;obtain ⟨f1, f2, f3, f4, f5, f6⟩ := free;exact .ser m b a op ⟨Ne.symm f1, f3, f2, f5, f4, by show s.usd x.2.2 + s.usd x.2.1 <= 0; omega⟩ mid.swap (by rw [pairF_comm a b, set_comm2])
 | par op free same is =>
  subst is;obtain ⟨f1, f2, f3, f4, f5, f6⟩ := free;exact .par op ⟨Ne.symm f1, f3, f2, f5, f4, by show s.usd x.2.2 + s.usd x.2.1 <= 0; omega⟩ same.symm (by rw [same, set_comm2])
theorem NodP.symm {x y : Nd} (h : NodP x y) : NodP y x := by
 rcases h with rfl | rfl
 ·exact .inl rfl
 ·exact .inr rfl
theorem start_inv {n : Int} {E : List Ed} {l : List Int} (hR : RightP n E) (k : Nat) : CkI (ckStart (withL l E) k) := fun x hx => by
 have := (withL_ok (l := l) hR).1 x hx
 unfold okE at this
 exact this.2.1
end Go.Sh
namespace Go.Sh
def othL (x y : List Int) : List Int := (x.filter fun a => !y.elem a) ++ (y.filter fun a => !x.elem a)
def polesR (E : List Ed) (t : List Nd) : Nat -> Int -> List Int × Bool
 | 0, _ => ([], false)
 | f + 1, at_ => if at_ < 0 \/ ((E.length + t.length : Nat) : Int) <= at_ then ([], false) else
   if at_ < E.length then ([(E.getD at_.toNat (0, 0)).1, (E.getD at_.toNat (0, 0)).2], true) else
   if at_ <= (t.getD (at_ - E.length).toNat (0, 0, 0)).2.1 \/ at_ <= (t.getD (at_ - E.length).toNat (0, 0, 0)).2.2 \/ (t.getD (at_ - E.length).toNat (0, 0, 0)).2.1 = (t.getD (at_ - E.length).toNat (0, 0, 0)).2.2 then ([], false) else
   if (polesR E t f (t.getD (at_ - E.length).toNat (0, 0, 0)).2.1).2 = false then ([], false) else
   if (polesR E t f (t.getD (at_ - E.length).toNat (0, 0, 0)).2.2).2 = false then ([], false) else
   if (t.getD (at_ - E.length).toNat (0, 0, 0)).1 = 2 /\ ((polesR E t f (t.getD (at_ - E.length).toNat (0, 0, 0)).2.1).1.countP fun a => (polesR E t f (t.getD (at_ - E.length).toNat (0, 0, 0)).2.2).1.elem a) = 2 then ((polesR E t f (t.getD (at_ - E.length).toNat (0, 0, 0)).2.1).1, true) else
   (othL (polesR E t f (t.getD (at_ - E.length).toNat (0, 0, 0)).2.1).1 (polesR E t f (t.getD (at_ - E.length).toNat (0, 0, 0)).2.2).1,
    decide ((t.getD (at_ - E.length).toNat (0, 0, 0)).1 = 1 /\ ((polesR E t f (t.getD (at_ - E.length).toNat (0, 0, 0)).2.1).1.countP fun a => (polesR E t f (t.getD (at_ - E.length).toNat (0, 0, 0)).2.2).1.elem a) = 1))
def nodeR (x : Nd) (p q : List Int × Bool) : List Int × Bool :=
 if p.2 = false then ([], false) else if q.2 = false then ([], false) else
 if x.1 = 2 /\ (p.1.countP fun a => q.1.elem a) = 2 then (p.1, true) else (othL p.1 q.1, decide (x.1 = 1 /\ (p.1.countP fun a => q.1.elem a) = 1))
theorem polesR_out {E : List Ed} {t : List Nd} {f : Nat} {i : Int} (h : i < 0 \/ ((E.length + t.length : Nat) : Int) <= i) : polesR E t f i = ([], false) := by
 cases f with
 | zero => rfl
 | succ f => simp only [polesR]; rw [if_pos h]
theorem polesR_edge {E : List Ed} {t : List Nd} {f : Nat} {i : Int} (h0 : 0 <= i) (h : i < E.length) : polesR E t (f + 1) i = ([(E.getD i.toNat (0, 0)).1, (E.getD i.toNat (0, 0)).2], true) := by
 simp only [polesR]
 rw [if_neg (by omega), if_pos h]
theorem polesR_node {E : List Ed} {t : List Nd} {f : Nat} {k : Nat} {x : Nd} (hk : t[k]? = some x) : polesR E t (f + 1) ((E.length + k : Nat) : Int) =
  if ((E.length + k : Nat) : Int) <= x.2.1 \/ ((E.length + k : Nat) : Int) <= x.2.2 \/ x.2.1 = x.2.2 then ([], false) else nodeR x (polesR E t f x.2.1) (polesR E t f x.2.2) := by
 have hkl := (qSq.1 hk).1
 have e1 : (((E.length + k : Nat) : Int) - (E.length : Int)).toNat = k := by omega
 have e2 : t.getD k (0, 0, 0) = x := by rw [qDq, hk]; rfl
 simp only [polesR, nodeR, e1, e2]
 rw [if_neg (by omega), if_neg (by omega)]
theorem polesR_fuel {E : List Ed} {t : List Nd} : ∀ {f g : Nat} {i : Int}, i < f -> i < g -> polesR E t f i = polesR E t g i := by
 intro f
 induction f with
 | zero => intro g i h _; rw [polesR_out (.inl (by omega)), polesR_out (.inl (by omega))]
 | succ f ih =>
  intro g i hf hg;by_cases h0 : i < 0 \/ ((E.length + t.length : Nat) : Int) <= i
  ·rw [polesR_out h0, polesR_out h0]
  ·obtain ⟨g, rfl⟩ : ∃ g', g = g' + 1 := ⟨g - 1, by omega⟩;by_cases h1 : i < E.length
   ·rw [polesR_edge (by omega) h1, polesR_edge (by omega) h1]
   ·obtain ⟨k, rfl⟩ : ∃ k : Nat, i = ((E.length + k : Nat) : Int) := ⟨(i - E.length).toNat, by omega⟩;have hk : t[k]? = some (t[k]'(by omega)) := qEq (by omega);rw [polesR_node hk, polesR_node hk];split
    ·rfl
    ·rename_i hc;rw [ih (g := g) (by omega) (by omega), ih (g := g) (i := (t[k]'(by omega)).2.2) (by omega) (by omega)]
def polR (E : List Ed) (t : List Nd) (i : Int) : List Int × Bool := polesR E t (E.length + t.length + 1) i
theorem polR_edge {E : List Ed} {t : List Nd} {i : Nat} {e : Ed} (h : E[i]? = some e) : polR E t i = ([e.1, e.2], true) := by
 have hl := (qSq.1 h).1
 unfold polR
 rw [polesR_edge (by omega) (by omega)]
 have : E.getD ((i : Nat) : Int).toNat (0, 0) = e := by rw [qDq, Int.toNat_natCast, h]; rfl
 rw [this]
theorem polR_out {E : List Ed} {t : List Nd} {i : Int} (h : i < 0 \/ ((E.length + t.length : Nat) : Int) <= i) : polR E t i = ([], false) := polesR_out h
theorem polR_node {E : List Ed} {t : List Nd} {k : Nat} {x : Nd} (hk : t[k]? = some x) : polR E t ((E.length + k : Nat) : Int) =
  if ((E.length + k : Nat) : Int) <= x.2.1 \/ ((E.length + k : Nat) : Int) <= x.2.2 \/ x.2.1 = x.2.2 then ([], false) else nodeR x (polR E t x.2.1) (polR E t x.2.2) := by
 have hkl := (qSq.1 hk).1
 unfold polR
 rw [polesR_node hk]
 split
 ·rfl
 ·rename_i hc;rw [polesR_fuel (g := E.length + t.length + 1) (by omega) (by omega), polesR_fuel (g := E.length + t.length + 1) (i := x.2.2) (by omega) (by omega)]
def serAt (E : List Ed) (t : List Nd) (v : Int) (x : Nd) : Bool := decide (x.1 = 1) && ((polR E t x.2.1).1.elem v && (polR E t x.2.2).1.elem v)
def timesR (E : List Ed) (t : List Nd) (v : Int) : Nat := t.countP (serAt E t v)
def RefP (E : List Ed) (l : List Int) (t : List Nd) : Prop := OnceP E.length t /\ (polR E t ((E.length + t.length : Nat) - 1 : Int)).2 = true /\ ∀ v ∈ l, (∀ k : Nat, k < t.length -> (polR E t ((E.length + k : Nat) : Int)).2 = true) /\ (v ∈ (polR E t ((E.length + t.length : Nat) - 1 : Int)).1 ↔ timesR E t v = 0) /\ timesR E t v <= 1
instance (E : List Ed) (l : List Int) (t : List Nd) : Decidable (RefP E l t) := by unfold RefP; infer_instance
def isPol (r : List Int × Bool) (e : Ed) : Prop := r.2 = true /\ (r.1 = [e.1, e.2] \/ r.1 = [e.2, e.1])
theorem isPol.mem {r : List Int × Bool} {e : Ed} (h : isPol r e) {v : Int} : v ∈ r.1 ↔ v = e.1 \/ v = e.2 := by
 rcases h.2 with h | h <;> rw [h] <;> simp
 exact or_comm
theorem isPol.pair {r : List Int × Bool} {a b : Int} (h : isPol r (pairF a b)) : r = ([a, b], true) \/ r = ([b, a], true) := by
 obtain ⟨p, q⟩ := r
 obtain ⟨rfl, h⟩ := h
 rcases pairF_two a b with ⟨h1, h2⟩ | ⟨h1, h2⟩ <;> rw [h1, h2] at h <;> rcases h with h | h <;> simp at h <;> subst h <;> simp
theorem pairF_pol {r : List Int × Bool} {a b : Int} (h : r = ([a, b], true) \/ r = ([b, a], true)) : isPol r (pairF a b) := by
 rcases pairF_two a b with ⟨h1, h2⟩ | ⟨h1, h2⟩ <;> rcases h with rfl | rfl <;> refine ⟨rfl, ?_⟩ <;> rw [h1, h2] <;> simp
theorem node_ser {x : Nd} {p q : List Int × Bool} {m a b : Int} (hx : x.1 = 1) (hp : isPol p (pairF a m)) (hq : isPol q (pairF m b)) (h1 : a ≠ b) (h2 : a ≠ m) (h3 : b ≠ m) : isPol (nodeR x p q) (pairF a b) := by
 refine pairF_pol ?_
 have hma := Ne.symm h2
 have hmb := Ne.symm h3
 have hba := Ne.symm h1
 rcases hp.pair with rfl | rfl <;> rcases hq.pair with rfl | rfl <;> simp [nodeR, hx, othL, List.filter, h1, h2, h3, hma, hmb, hba]
theorem node_par {x : Nd} {p q : List Int × Bool} {e : Ed} (hx : x.1 = 2) (hp : isPol p e) (hq : isPol q e) : nodeR x p q = p := by
 obtain ⟨p1, p2⟩ := p
 obtain ⟨q1, q2⟩ := q
 obtain ⟨rfl, hp⟩ := hp
 obtain ⟨rfl, hq⟩ := hq
 rcases hp with rfl | rfl <;> rcases hq with rfl | rfl <;> simp [nodeR, hx]
theorem node_inv {x : Nd} {p q : List Int × Bool} {e f : Ed} (he : Prop2 e) (hf : Prop2 f) (hp : isPol p e) (hq : isPol q f) (h : (nodeR x p q).2 = true) : (x.1 = 1 /\ ∃ m a b, MidP e f m a b) \/ (x.1 = 2 /\ e = f) := by
 unfold nodeR at h
 rw [if_neg (by rw [hp.1]; simp), if_neg (by rw [hq.1]; simp)] at h
 unfold Prop2 at he hf
 have cnt : (p.1.countP fun a => q.1.elem a) = (if e.1 = f.1 \/ e.1 = f.2 then 1 else 0) + (if e.2 = f.1 \/ e.2 = f.2 then 1 else 0) := by
  have hel : ∀ a, q.1.elem a = decide (a = f.1 \/ a = f.2) := fun a => by
   rw [List.elem_eq_mem]; exact decide_eq_decide.2 hq.mem
  rcases hp.2 with h | h <;> rw [h] <;> simp only [List.countP_cons, List.countP_nil, hel, decide_eq_true_eq] <;> omega
 rw [cnt] at h
 by_cases h2 : x.1 = 2 /\ ((if e.1 = f.1 \/ e.1 = f.2 then 1 else 0) + (if e.2 = f.1 \/ e.2 = f.2 then 1 else 0) : Nat) = 2
 ·right
  refine ⟨h2.1, ?_⟩;have h2 := h2.2;by_cases c1 : e.1 = f.1 \/ e.1 = f.2 <;> by_cases c2 : e.2 = f.1 \/ e.2 = f.2 <;> simp only [c1, c2, if_true, if_false] at h2 <;> first | omega | skip
  exact Prod.ext (by omega) (by omega)
 ·rw [if_neg h2] at h;obtain ⟨h3, h4⟩ := of_decide_eq_true h
  left
  refine ⟨h3, ?_⟩;by_cases c1 : e.1 = f.1 \/ e.1 = f.2
  ·have c2 : ¬ (e.2 = f.1 \/ e.2 = f.2) := fun c2 => by rw [if_pos c1, if_pos c2] at h4; omega
   rcases c1 with c1 | c1
   ·exact ⟨e.1, e.2, f.2, by rw [pairF_comm]; exact (pairF_self e he).symm, by rw [c1]; exact (pairF_self f hf).symm, by omega, by omega, by omega⟩
   ·exact ⟨e.1, e.2, f.1, by rw [pairF_comm]; exact (pairF_self e he).symm, by rw [c1, pairF_comm]; exact (pairF_self f hf).symm, by omega, by omega, by omega⟩
  ·have c2 : e.2 = f.1 \/ e.2 = f.2 := Classical.byContradiction fun c2 => by rw [if_neg c1, if_neg c2] at h4; omega
   rcases c2 with c2 | c2
   ·exact ⟨e.2, e.1, f.2, (pairF_self e he).symm, by rw [c2]; exact (pairF_self f hf).symm, by omega, by omega, by omega⟩
   ·exact ⟨e.2, e.1, f.1, (pairF_self e he).symm, by rw [c2, pairF_comm]; exact (pairF_self f hf).symm, by omega, by omega, by omega⟩
structure PreI (E : List Ed) (t : List Nd) (j : Nat) (s : Ck) : Prop where
 ck : CkI s
 len : s.poles.length = E.length + j
 pol : ∀ i : Nat, i < E.length + j -> isPol (polR E t i) (s.pol i)
 ulen : s.used.length = E.length + t.length
 usd : ∀ i : Nat, i < E.length + t.length -> s.usd i = cntN (t.take j) i /\ cntN (t.take j) i <= 1
 rng : ∀ x ∈ t.take j, 0 <= x.2.1 /\ 0 <= x.2.2 /\ x.2.1 < ((E.length + j : Nat) : Int) - 1 /\ x.2.2 < ((E.length + j : Nat) : Int) - 1
 mid : ∀ v, mapGet s.mid [v] = ((t.take j).countP (serAt E t v) : Nat)
theorem pre_start {E : List Ed} {t : List Nd} (hE : ∀ e ∈ E, Prop2 e) : PreI E t 0 (ckStart E t.length) := by
 refine ⟨hE, rfl, fun i hi => ?_, by simp [ckStart], fun i hi => ?_, fun x hx => by simp at hx, fun v => rfl⟩
 ·have hl : i < E.length := by omega
  have he : E[i]? = some E[i] := qEq hl;rw [polR_edge he];have : (ckStart E t.length).pol i = E[i] := by
   unfold Ck.pol ckStart;rw [Int.toNat_natCast, qDq, he]; rfl
  rw [this];exact ⟨rfl, .inl rfl⟩
 ·refine ⟨?_, by simp [cntN]⟩;show (List.replicate (E.length + t.length) (0 : Int)).getD ((i : Nat) : Int).toNat 0 = _
  rw [Int.toNat_natCast, qDq, List.getElem?_replicate, if_pos hi];simp [cntN]
theorem used2 {s : Ck} {L R : Int} {N : Nat} (hN : s.used.length = N) (h0 : 0 <= L) (h1 : L < N) (k0 : 0 <= R) (k1 : R < N) {i : Nat} (hi : i < N) : ((s.used.set L.toNat 1).set R.toNat 1).getD i 0 = if L = i \/ R = i then 1 else s.used.getD i 0 := by
 rw [qDq, List.getElem?_set, List.length_set, hN]
 by_cases c2 : R.toNat = i
 ·rw [if_pos c2, if_pos (by omega), if_pos (by omega)]; rfl
 ·rw [if_neg c2, List.getElem?_set, hN];by_cases c1 : L.toNat = i
  ·rw [if_pos c1, if_pos (by omega), if_pos (by omega)]; rfl
  ·rw [if_neg c1, if_neg (by omega), <- qDq]
theorem pol_app {s : Ck} {e : Ed} {P : List Ed} {used : List Int} {mid : Th} (hP : s.poles = P) {i : Nat} : Ck.pol { poles := P ++ [e], used := used, mid := mid } (i : Nat) = if i < P.length then s.pol i else if i = P.length then e else (0, 0) := by
 unfold Ck.pol
 rw [Int.toNat_natCast, qDq]
 rcases Nat.lt_trichotomy i P.length with h | h | h
 ·rw [if_pos h, qLq h, <- qDq, hP]
 ·rw [if_neg (by omega), if_pos h, h]; simp
 ·rw [if_neg (by omega), if_neg (by omega), List.getElem?_eq_none (by simp; omega)]; rfl
theorem pre_step {E : List Ed} {t : List Nd} {j : Nat} {s s' : Ck} {x : Nd} (h : PreI E t j s) (hx : t[j]? = some x) (hs : StepP s x s') : PreI E t (j + 1) s' := by
 have hjl := (qSq.1 hx).1
 have hts : t.take (j + 1) = t.take j ++ [x] := by rw [List.take_add_one, hx]; rfl
 have free : FreeP s x := by cases hs <;> assumption
 obtain ⟨f1, f2, f3, f4, f5, f6⟩ := free
 rw [h.len] at f4 f5
 obtain ⟨L, hL⟩ : ∃ L : Nat, x.2.1 = (L : Nat) := ⟨x.2.1.toNat, by omega⟩
 obtain ⟨R, hR⟩ : ∃ R : Nat, x.2.2 = (R : Nat) := ⟨x.2.2.toNat, by omega⟩
 have pL := h.pol L (by omega)
 have pR := h.pol R (by omega)
 have uL := h.usd L (by omega)
 have uR := h.usd R (by omega)
 rw [hL, hR] at f6
 have hn := polR_node (E := E) hx
 rw [if_neg (by omega), hL, hR] at hn
 have srt : ∀ v, serAt E t v x = (decide (x.1 = 1) && ((polR E t L).1.elem v && (polR E t R).1.elem v)) := fun v => by unfold serAt; rw [hL, hR]
 have cut : ∀ (e : Ed) (mid' : Th), s' = { poles := s.poles ++ [e], used := (s.used.set x.2.1.toNat 1).set x.2.2.toNat 1, mid := mid' } -> isPol (polR E t ((E.length + j : Nat) : Int)) e -> (∀ v, mapGet mid' [v] = ((t.take j).countP (serAt E t v) : Nat) + (if serAt E t v x = true then 1 else 0)) -> PreI E t (j + 1) s' := by
  intro e mid' hs' hpe hmid;have hck := hs.inv h.ck;subst hs';refine ⟨hck, by simp [h.len]; omega, fun i hi => ?_, by simp [h.ulen], fun i hi => ?_, fun y hy => ?_, fun v => ?_⟩
  ·rw [pol_app rfl, h.len];by_cases hi2 : i < E.length + j
   ·rw [if_pos hi2]; exact h.pol i hi2
   ·have : i = E.length + j := by omega
    subst this;rw [if_neg (by omega), if_pos rfl]; exact hpe
  ·have hu := h.usd i hi;have : Ck.usd { poles := s.poles ++ [e], used := (s.used.set x.2.1.toNat 1).set x.2.2.toNat 1, mid := mid' } (i : Nat) = if x.2.1 = i \/ x.2.2 = i then 1 else s.usd (i : Nat) := by
    unfold Ck.usd;rw [Int.toNat_natCast];exact used2 h.ulen f2 (by omega) f3 (by omega) hi
   rw [this, hts, cntN_snoc];by_cases c1 : x.2.1 = i
   ·have : x.2.2 ≠ i := by omega
    have : i = L := by omega
    subst this;rw [if_pos (.inl c1), if_pos c1, if_neg (by omega)];omega
   ·by_cases c2 : x.2.2 = i
    ·have : i = R := by omega
     subst this;rw [if_pos (.inr c2), if_neg c1, if_pos c2];omega
    ·rw [if_neg (by omega), if_neg c1, if_neg c2];omega
  ·rw [hts] at hy;rcases List.mem_append.1 hy with hy | hy
   ·have := h.rng y hy; omega
   ·rw [List.mem_singleton] at hy; subst hy; omega
  ·rw [hts, List.countP_append, List.countP_singleton];show mapGet mid' [v] = _
   rw [hmid v];split <;> omega
 cases hs with
 | ser m a b op free mid is =>
  rw [hL, hR] at mid;rw [mid.1] at pL;rw [mid.2.1] at pR;refine cut (pairF a b) (midIn s.mid m) is ?_ fun v => ?_
  ·rw [hn]; exact node_ser op pL pR mid.2.2.1 mid.2.2.2.1 mid.2.2.2.2
  ·unfold midIn;rw [mapGet_put, h.mid m];have e1 : (polR E t L).1.elem v = decide (v = a \/ v = m) := by
    rw [List.elem_eq_mem];refine decide_eq_decide.2 ?_;rcases pL.pair with e | e <;> rw [e] <;> simp
    exact or_comm
   have e2 : (polR E t R).1.elem v = decide (v = m \/ v = b) := by
    rw [List.elem_eq_mem];refine decide_eq_decide.2 ?_;rcases pR.pair with e | e <;> rw [e] <;> simp
    exact or_comm
   have e3 : serAt E t v x = decide (v = m) := by
    rw [srt, e1, e2, op];simp only [decide_true, Bool.true_and, <- Bool.decide_and];refine decide_eq_decide.2 ?_;have := mid.2.2;constructor
    ·rintro ⟨h1, h2⟩; omega
    ·rintro rfl; exact ⟨.inr rfl, .inl rfl⟩
   rw [e3];by_cases hv : v = m
   ·subst hv;rw [if_pos rfl, if_pos (by simp)]
   ·rw [if_neg (by simpa using Ne.symm hv), if_neg (by simpa using hv), h.mid v]; simp
 | par op free same is =>
  rw [hL, hR] at same;refine cut (s.pol x.2.1) s.mid is ?_ fun v => ?_
  ·rw [hn, hL, node_par op pL (by rw [same]; exact pR)]; exact pL
  ·rw [h.mid v, if_neg]
   ·simp
   ·rw [srt, op]; simp
theorem cnt_split {t : List Nd} {j : Nat} {x : Nd} (hx : t[j]? = some x) (a : Int) : cntN (t.take j) a + (if x.2.1 = a then 1 else 0) + (if x.2.2 = a then 1 else 0) <= cntN t a := by
 have hts : t.take (j + 1) = t.take j ++ [x] := by rw [List.take_add_one, hx]; rfl
 rw [<- cntN_snoc, <- hts]
 unfold cntN
 have h1 := (List.take_sublist (j + 1) t).countP_le (p := fun x => x.2.1 == a)
 have h2 := (List.take_sublist (j + 1) t).countP_le (p := fun x => x.2.2 == a)
 omega
theorem ref_step {E : List Ed} {t : List Nd} {j : Nat} {s : Ck} {x : Nd} (h : PreI E t j s) (hx : t[j]? = some x) (ho : OnceP E.length t) (hp : (polR E t ((E.length + j : Nat) : Int)).2 = true) : ∃ s', StepP s x s' := by
 have hjl := (qSq.1 hx).1
 rw [polR_node hx] at hp
 split at hp
 ·simp at hp
 rename_i hc
 have okL : 0 <= x.2.1 := by
  refine Classical.byContradiction fun hn => ?_
  rw [polR_out (.inl (by omega) : x.2.1 < 0 \/ _)] at hp;simp [nodeR] at hp
 have okR : 0 <= x.2.2 := by
  refine Classical.byContradiction fun hn => ?_
  rw [polR_out (.inl (by omega) : x.2.2 < 0 \/ _)] at hp;simp [nodeR] at hp
 obtain ⟨L, hL⟩ : ∃ L : Nat, x.2.1 = (L : Nat) := ⟨x.2.1.toNat, by omega⟩
 obtain ⟨R, hR⟩ : ∃ R : Nat, x.2.2 = (R : Nat) := ⟨x.2.2.toNat, by omega⟩
 have pL := h.pol L (by omega)
 have pR := h.pol R (by omega)
 have uL := h.usd L (by omega)
 have uR := h.usd R (by omega)
 have kL := cnt_split hx (L : Nat)
 have kR := cnt_split hx (R : Nat)
 rw [if_pos hL] at kL
 rw [if_pos hR] at kR
 have oL := ho L (by omega)
 have oR := ho R (by omega)
 have free : FreeP s x := by
  refine ⟨by omega, okL, okR, by rw [h.len]; omega, by rw [h.len]; omega, ?_⟩;rw [hL, hR, uL.1, uR.1];split at oL <;> split at oR <;> omega
 rw [hL, hR] at hp
 have q1 : Prop2 (s.pol L) := (h.ck.pol (by rw [h.len]; omega) (by omega)).1
 have q2 : Prop2 (s.pol R) := (h.ck.pol (by rw [h.len]; omega) (by omega)).1
 rcases node_inv q1 q2 pL pR hp with ⟨op, m, a, b, k⟩ | ⟨op, k⟩
 ·exact ⟨_, .ser m a b op free (by rw [hL, hR]; exact k) rfl⟩
 ·exact ⟨_, .par op free (by rw [hL, hR]; exact k) rfl⟩
theorem run_pre {E : List Ed} {t : List Nd} : ∀ (k j : Nat) {s : Ck}, t.length - j = k -> j <= t.length -> PreI E t j s -> (∀ s', ckRun (t.drop j) s = some s' -> PreI E t t.length s') /\ (OnceP E.length t -> (∀ i : Nat, i < t.length -> (polR E t ((E.length + i : Nat) : Int)).2 = true) -> ∃ s', ckRun (t.drop j) s = some s') := by
 intro k
 induction k with
 | zero =>
  intro j s hk hj h;have : j = t.length := by omega
  subst this;rw [List.drop_length];exact ⟨fun s' hs => by simp only [ckRun] at hs; injection hs with hs; subst hs; exact h, fun _ _ => ⟨s, rfl⟩⟩
 | succ k ih =>
  intro j s hk hj h;have hlt : j < t.length := by omega
  have hx : t[j]? = some t[j] := qEq hlt;rw [List.drop_eq_getElem_cons hlt];simp only [ckRun];constructor
  ·intro s' hs
   cases h1 : ckStep s t[j] with
   | none => rw [h1] at hs; simp at hs
   | some s1 =>
    rw [h1] at hs;exact (ih (j + 1) (by omega) (by omega) (pre_step h hx ((ckStep_iff h.ck).1 h1))).1 s' hs
  ·intro ho hp;obtain ⟨s1, h1⟩ := ref_step h hx ho (hp j hlt);obtain ⟨s', hs'⟩ := (ih (j + 1) (by omega) (by omega) (pre_step h hx h1)).2 ho hp;exact ⟨s', by rw [(ckStep_iff h.ck).2 h1]; exact hs'⟩
theorem cnt_sum {N : Nat} : ∀ {t : List Nd}, (∀ x ∈ t, 0 <= x.2.1 /\ 0 <= x.2.2 /\ x.2.1 < N /\ x.2.2 < N) -> ((List.range N).map fun i => cntN t (i : Nat)).sum = 2 * t.length := by
 have zs : ∀ l : List Nat, (l.map fun _ => 0).sum = 0 := fun l => by
  induction l with
  | nil => rfl
  | cons a l ih => rw [List.map_cons, List.sum_cons, ih]
 have one : ∀ {a : Int} {N : Nat}, 0 <= a -> a < N -> ((List.range N).map fun (i : Nat) => if a = (i : Int) then 1 else 0).sum = 1 := by
  intro a N h0
  induction N with
  | zero => intro h; omega
  | succ N ih =>
   intro h;rw [List.range_succ, List.map_append, List.sum_append];by_cases e : a = (N : Nat)
   ·have z : ((List.range N).map fun (i : Nat) => if a = (i : Int) then 1 else 0).sum = 0 := by
     rw [show ((List.range N).map fun (i : Nat) => if a = (i : Int) then 1 else 0) = (List.range N).map fun _ => 0 from List.map_congr_left fun i hi => if_neg (by have := List.mem_range.1 hi; omega)];exact zs _
    rw [z]; simp [e]
   ·rw [ih (by omega)]; simp [e]
 have add : ∀ (f g : Nat -> Nat) (l : List Nat), (l.map fun i => f i + g i).sum = (l.map f).sum + (l.map g).sum := by
  intro f g l
  induction l with
  | nil => rfl
  | cons a l ih => simp only [List.map_cons, List.sum_cons, ih]; omega
 intro t
 induction t with
 | nil => intro _; rw [show ((List.range N).map fun i => cntN [] (i : Nat)) = (List.range N).map fun _ => 0 from List.map_congr_left fun i _ => rfl]; exact zs _
 | cons x t ih =>
  intro h;have hx := h x List.mem_cons_self;have e : ((List.range N).map fun (i : Nat) => cntN (x :: t) (i : Int)) = (List.range N).map fun (i : Nat) => (cntN t (i : Int) + (if x.2.1 = (i : Int) then 1 else 0)) + (if x.2.2 = (i : Int) then 1 else 0) := by
   refine List.map_congr_left fun i _ => ?_
   unfold cntN;rw [List.countP_cons, List.countP_cons];simp only [beq_iff_eq];omega
  rw [e, add, add, ih fun y hy => h y (List.mem_cons_of_mem _ hy), one hx.1 hx.2.2.1, one hx.2.1 hx.2.2.2, List.length_cons];omega
end Go.Sh
namespace Go.Sh
structure MdL (vs : List Nat) (A : Nat -> Nat -> Prop) (c : Nat -> Nat) : Prop where
 some : ∀ i, i < 4 -> ∃ x, x ∈ vs /\ c x = i
 conn : ∀ i, i < 4 -> ∀ P : Nat -> Prop, (∃ x, x ∈ vs /\ c x = i /\ P x) -> (∀ x y, x ∈ vs -> y ∈ vs -> c x = i -> c y = i -> A x y -> P x -> P y) -> ∀ x, x ∈ vs -> c x = i -> P x
 meet : ∀ i j, i < j -> j < 4 -> ∃ x y, x ∈ vs /\ y ∈ vs /\ A x y /\ c x = i /\ c y = j
def D3 (vs : List Nat) (A : Nat -> Nat -> Prop) (x : Nat) : Prop := ∃ a b c, a ∈ vs /\ b ∈ vs /\ c ∈ vs /\ a ≠ b /\ a ≠ c /\ b ≠ c /\ A x a /\ A x b /\ A x c
theorem D3.but {vs : List Nat} {A : Nat -> Nat -> Prop} {x : Nat} (h : D3 vs A x) (v : Nat) : ∃ b c, b ∈ vs /\ c ∈ vs /\ b ≠ c /\ b ≠ v /\ c ≠ v /\ A x b /\ A x c := by
 obtain ⟨a, b, c, ha, hb, hc, h1, h2, h3, A1, A2, A3⟩ := h
 by_cases e : a = v
 ·exact ⟨b, c, hb, hc, h3, fun e2 => h1 (e.trans e2.symm), fun e2 => h2 (e.trans e2.symm), A2, A3⟩
 ·by_cases e2 : b = v
  ·exact ⟨a, c, ha, hc, h2, e, fun e3 => h3 (e2.trans e3.symm), A1, A3⟩
  ·exact ⟨a, b, ha, hb, h1, e, e2, A1, A2⟩
theorem D3.but2 {vs : List Nat} {A : Nat -> Nat -> Prop} {x : Nat} (h : D3 vs A x) (u v : Nat) : ∃ b, b ∈ vs /\ b ≠ u /\ b ≠ v /\ A x b := by
 obtain ⟨b, c, hb, hc, h1, h2, h3, A1, A2⟩ := h.but v
 by_cases e : b = u
 ·exact ⟨c, hc, fun e2 => h1 (e.trans e2.symm), h3, A2⟩
 ·exact ⟨b, hb, e, h2, A1⟩
def ctr (A : Nat -> Nat -> Prop) (v u : Nat) (x y : Nat) : Prop := A x y \/ (x = u /\ A v y /\ y ≠ u) \/ (y = u /\ A v x /\ x ≠ u)
structure Sm (A : Nat -> Nat -> Prop) : Prop where
 sym : ∀ x y, A x y -> A y x
 irr : ∀ x, ¬ A x x
theorem Sm.ne {A : Nat -> Nat -> Prop} (h : Sm A) {x y : Nat} (hA : A x y) : x ≠ y := fun e => h.irr x (by rw [<- e] at hA; exact hA)
theorem ctr_sm {A : Nat -> Nat -> Prop} (h : Sm A) (v u : Nat) : Sm (ctr A v u) := by
 refine ⟨fun x y hxy => ?_, fun x hxx => ?_⟩
 ·rcases hxy with k | ⟨k1, k2, k3⟩ | ⟨k1, k2, k3⟩
  ·exact .inl (h.sym _ _ k)
  ·exact .inr (.inr ⟨k1, k2, k3⟩)
  ·exact .inr (.inl ⟨k1, k2, k3⟩)
 ·rcases hxx with k | ⟨k1, _, k3⟩ | ⟨k1, _, k3⟩
  ·exact h.irr x k
  ·exact k3 k1
  ·exact k3 k1
def upd (c : Nat -> Nat) (v i x : Nat) : Nat := if x = v then i else c x
theorem upd_self (c : Nat -> Nat) (v i : Nat) : upd c v i v = i := if_pos rfl
theorem upd_ne (c : Nat -> Nat) {v i x : Nat} (h : x ≠ v) : upd c v i x = c x := if_neg h
theorem MdL.lift {vs : List Nat} {A : Nat -> Nat -> Prop} (hA : Sm A) {v u : Nat} (hv : v ∈ vs) (hu : u ∈ vs) (huv : A v u) {vs' : List Nat} (hvs : ∀ x, x ∈ vs' ↔ x ∈ vs /\ x ≠ v) {c : Nat -> Nat} (h : MdL vs' (ctr A v u) c) : MdL vs A (upd c v (c u)) := by
 have hne : u ≠ v := fun e => hA.irr v (by rw [e] at huv; exact huv)
 have hu' : u ∈ vs' := (hvs u).2 ⟨hu, hne⟩
 have cu : upd c v (c u) u = c u := upd_ne c hne
 have cv : upd c v (c u) v = c u := upd_self c v _
 have co : ∀ x, x ∈ vs' -> upd c v (c u) x = c x := fun x hx => upd_ne c ((hvs x).1 hx).2
 refine ⟨fun i hi => ?_, fun i hi P hP hcl x hx hcx => ?_, fun i j hij hj => ?_⟩
 ·obtain ⟨x, hx, hc⟩ := h.some i hi;exact ⟨x, ((hvs x).1 hx).1, by rw [co x hx]; exact hc⟩
 ·have hcl2 : ∀ x y, x ∈ vs' -> y ∈ vs' -> c x = i -> c y = i -> ctr A v u x y -> P x -> P y := fun x y hx hy ex ey hxy hPx => by
   have hx0 := ((hvs x).1 hx).1;have hy0 := ((hvs y).1 hy).1;rcases hxy with k | ⟨k1, k2, _⟩ | ⟨k1, k2, _⟩
   ·exact hcl x y hx0 hy0 (by rw [co x hx]; exact ex) (by rw [co y hy]; exact ey) k hPx
   ·subst k1;have hPv := hcl x v hx0 hv (by rw [co x hx]; exact ex) (by rw [cv]; exact ex) (hA.sym _ _ huv) hPx;exact hcl v y hv hy0 (by rw [cv]; exact ex) (by rw [co y hy]; exact ey) k2 hPv
   ·subst k1;have hPv := hcl x v hx0 hv (by rw [co x hx]; exact ex) (by rw [cv]; exact ey) (hA.sym _ _ k2) hPx;exact hcl v y hv hy0 (by rw [cv]; exact ey) (by rw [co y hy]; exact ey) huv hPv
  have hst : ∃ y, y ∈ vs' /\ c y = i /\ P y := by
   obtain ⟨y, hy, ey, hPy⟩ := hP;by_cases e : y = v
   ·subst e;rw [cv] at ey;exact ⟨u, hu', ey, hcl y u hy hu (by rw [cv]; exact ey) (by rw [cu]; exact ey) huv hPy⟩
   ·have := (hvs y).2 ⟨hy, e⟩;exact ⟨y, this, by rw [<- co y this]; exact ey, hPy⟩
  have hall := h.conn i hi P hst hcl2;by_cases e : x = v
  ·subst e;rw [cv] at hcx;exact hcl u x hu hx (by rw [cu]; exact hcx) (by rw [cv]; exact hcx) (hA.sym _ _ huv) (hall u hu' hcx)
  ·have := (hvs x).2 ⟨hx, e⟩;exact hall x this (by rw [<- co x this]; exact hcx)
 ·obtain ⟨x, y, hx, hy, hxy, ex, ey⟩ := h.meet i j hij hj;have hx0 := ((hvs x).1 hx).1;have hy0 := ((hvs y).1 hy).1;rcases hxy with k | ⟨k1, k2, _⟩ | ⟨k1, k2, _⟩
  ·exact ⟨x, y, hx0, hy0, k, by rw [co x hx]; exact ex, by rw [co y hy]; exact ey⟩
  ·subst k1;exact ⟨v, y, hv, hy0, k2, by rw [cv]; exact ex, by rw [co y hy]; exact ey⟩
  ·subst k1;exact ⟨x, v, hx0, hv, hA.sym _ _ k2, by rw [co x hx]; exact ex, by rw [cv]; exact ey⟩
open Classical in
theorem MdL.induced {vs vs' : List Nat} {A : Nat -> Nat -> Prop} (hs : ∀ x, x ∈ vs' -> x ∈ vs) {c : Nat -> Nat} (h : MdL vs' A c) : MdL vs A (fun x => if x ∈ vs' then c x else 4) := by
 have ci : ∀ x i, i < 4 -> ((if x ∈ vs' then c x else 4) = i ↔ x ∈ vs' /\ c x = i) := fun x i hi => by
  by_cases e : x ∈ vs'
  ·rw [if_pos e]; exact ⟨fun h => ⟨e, h⟩, fun h => h.2⟩
  ·rw [if_neg e]; exact ⟨fun h => by omega, fun h => absurd h.1 e⟩
 refine ⟨fun i hi => ?_, fun i hi P hP hcl x hx hcx => ?_, fun i j hij hj => ?_⟩
 ·obtain ⟨x, hx, hc⟩ := h.some i hi;exact ⟨x, hs x hx, (ci x i hi).2 ⟨hx, hc⟩⟩
 ·obtain ⟨hx', hcx'⟩ := (ci x i hi).1 hcx;obtain ⟨y, hy, hcy, hPy⟩ := hP;obtain ⟨hy', hcy'⟩ := (ci y i hi).1 hcy;refine h.conn i hi P ⟨y, hy', hcy', hPy⟩ (fun a b ha hb ea eb hab hPa => ?_) x hx' hcx';exact hcl a b (hs a ha) (hs b hb) ((ci a i hi).2 ⟨ha, ea⟩) ((ci b i hi).2 ⟨hb, eb⟩) hab hPa
 ·obtain ⟨x, y, hx, hy, hxy, ex, ey⟩ := h.meet i j hij hj;exact ⟨x, y, hs x hx, hs y hy, hxy, (ci x i (by omega)).2 ⟨hx, ex⟩, (ci y j hj).2 ⟨hy, ey⟩⟩
structure Twin (vs : List Nat) (A : Nat -> Nat -> Prop) (p q u v a b : Nat) : Prop where
 mem : u ∈ vs /\ v ∈ vs /\ a ∈ vs /\ b ∈ vs
 out : u ≠ p /\ u ≠ q /\ v ≠ p /\ v ≠ q
 ab : a ≠ b
 uv : A u v
 ua : A u a
 ub : A u b
 va : A v a
 vb : A v b
 nu : ∀ y, y ∈ vs -> A u y -> y = v \/ y = a \/ y = b
 nv : ∀ y, y ∈ vs -> A v y -> y = u \/ y = a \/ y = b
theorem Twin.swap {vs : List Nat} {A : Nat -> Nat -> Prop} {p q u v a b : Nat} (h : Twin vs A p q u v a b) : Twin vs A p q u v b a :=
 ⟨⟨h.mem.1, h.mem.2.1, h.mem.2.2.2, h.mem.2.2.1⟩, h.out, h.ab.symm, h.uv, h.ub, h.ua, h.vb, h.va, fun y hy k => (h.nu y hy k).imp id Or.symm, fun y hy k => (h.nv y hy k).imp id Or.symm⟩
inductive Rc (vs : List Nat) (A : Nat -> Nat -> Prop) (u v a b : Nat) : Nat -> Prop
 | base : Rc vs A u v a b a
 | step {x y : Nat} : Rc vs A u v a b x -> A x y -> y ∈ vs -> y ≠ u -> y ≠ v -> y ≠ b -> Rc vs A u v a b y
section
variable {vs : List Nat} {A : Nat -> Nat -> Prop} {p q u v a b : Nat}
theorem Rc.facts (hA : Sm A) (h : Twin vs A p q u v a b) {x : Nat} (hx : Rc vs A u v a b x) : x ∈ vs /\ x ≠ u /\ x ≠ v /\ x ≠ b := by
 induction hx with
 | base => exact ⟨h.mem.2.2.1, (hA.ne h.ua).symm, (hA.ne h.va).symm, h.ab⟩
 | step _ _ h1 h2 h3 h4 _ => exact ⟨h1, h2, h3, h4⟩
open Classical in
theorem Twin.model (hA : Sm A) (h : Twin vs A p q u v a b) {r : Nat} (hr : Rc vs A u v a b r) (hrb : A r b) : ∃ c, MdL vs A c := by
 let c : Nat -> Nat := fun x => if x = u then 0 else if x = v then 1 else if x = b then 2 else if Rc vs A u v a b x then 3 else 4
 obtain ⟨mu, mv, ma, mb⟩ := h.mem
 have nuv := hA.ne h.uv
 have nub := hA.ne h.ub
 have nvb := hA.ne h.vb
 have c0 : c u = 0 := if_pos rfl
 have c1 : c v = 1 := by show (if v = u then 0 else if v = v then 1 else _) = 1; rw [if_neg nuv.symm, if_pos rfl]
 have c2 : c b = 2 := by show (if b = u then 0 else if b = v then 1 else if b = b then 2 else _) = 2; rw [if_neg nub.symm, if_neg nvb.symm, if_pos rfl]
 have c3 : ∀ x, Rc vs A u v a b x -> c x = 3 := fun x hx => by
  obtain ⟨_, f1, f2, f3⟩ := hx.facts hA h;show (if x = u then 0 else if x = v then 1 else if x = b then 2 else if Rc vs A u v a b x then 3 else 4) = 3
  rw [if_neg f1, if_neg f2, if_neg f3, if_pos hx]
 have inv : ∀ x, (c x = 0 -> x = u) /\ (c x = 1 -> x = v) /\ (c x = 2 -> x = b) /\ (c x = 3 -> Rc vs A u v a b x) := fun x => by
  by_cases e0 : x = u
  ·subst e0; rw [c0]; exact ⟨fun _ => rfl, by omega, by omega, by omega⟩
  by_cases e1 : x = v
  ·subst e1; rw [c1]; exact ⟨by omega, fun _ => rfl, by omega, by omega⟩
  by_cases e2 : x = b
  ·subst e2; rw [c2]; exact ⟨by omega, by omega, fun _ => rfl, by omega⟩
  by_cases e3 : Rc vs A u v a b x
  ·rw [c3 x e3]; exact ⟨by omega, by omega, by omega, fun _ => e3⟩
  ·have : c x = 4 := by
    show (if x = u then 0 else if x = v then 1 else if x = b then 2 else if Rc vs A u v a b x then 3 else 4) = 4
    rw [if_neg e0, if_neg e1, if_neg e2, if_neg e3]
   rw [this]; exact ⟨by omega, by omega, by omega, by omega⟩
 have single : ∀ (i w : Nat), (∀ x, c x = i -> x = w) -> ∀ P : Nat -> Prop, (∃ x, x ∈ vs /\ c x = i /\ P x) -> ∀ x, x ∈ vs -> c x = i -> P x := fun i w hi P hP x _ hx => by
  obtain ⟨y, _, ey, hy⟩ := hP;rw [hi x hx]; rw [hi y ey] at hy; exact hy
 refine ⟨c, fun i hi => ?_, fun i hi P hP hcl => ?_, fun i j hij hj => ?_⟩
 ·match i, hi with
  | 0, _ => exact ⟨u, mu, c0⟩
  | 1, _ => exact ⟨v, mv, c1⟩
  | 2, _ => exact ⟨b, mb, c2⟩
  | 3, _ => exact ⟨a, ma, c3 a .base⟩
 ·match i, hi with
  | 0, _ => exact single 0 u (fun x => (inv x).1) P hP
  | 1, _ => exact single 1 v (fun x => (inv x).2.1) P hP
  | 2, _ => exact single 2 b (fun x => (inv x).2.2.1) P hP
  | 3, _ =>
   obtain ⟨y, hy, ey, hPy⟩ := hP;have hry := (inv y).2.2.2 ey;have back : ∀ {z : Nat}, Rc vs A u v a b z -> P z -> P a := by
    intro z hz
    induction hz with
    | base => exact id
    | @step x z hx hxz hz h1 h2 h3 ih =>
     intro hPz;refine ih (hcl z x hz (hx.facts hA h).1 (c3 z (.step hx hxz hz h1 h2 h3)) (c3 x hx) (hA.sym _ _ hxz) hPz)
   have hPa := back hry hPy;have forw : ∀ {z : Nat}, Rc vs A u v a b z -> P z := by
    intro z hz
    induction hz with
    | base => exact hPa
    | @step x z hx hxz hz h1 h2 h3 ih => exact hcl x z (hx.facts hA h).1 hz (c3 x hx) (c3 z (.step hx hxz hz h1 h2 h3)) hxz ih
   intro x _ hx;exact forw ((inv x).2.2.2 hx)
 ·have hc : (i = 0 /\ j = 1) \/ (i = 0 /\ j = 2) \/ (i = 0 /\ j = 3) \/ (i = 1 /\ j = 2) \/ (i = 1 /\ j = 3) \/ (i = 2 /\ j = 3) := by omega
  rcases hc with ⟨rfl, rfl⟩ | ⟨rfl, rfl⟩ | ⟨rfl, rfl⟩ | ⟨rfl, rfl⟩ | ⟨rfl, rfl⟩ | ⟨rfl, rfl⟩
  ·exact ⟨u, v, mu, mv, h.uv, c0, c1⟩
  ·exact ⟨u, b, mu, mb, h.ub, c0, c2⟩
  ·exact ⟨u, a, mu, ma, h.ua, c0, c3 a .base⟩
  ·exact ⟨v, b, mv, mb, h.vb, c1, c2⟩
  ·exact ⟨v, a, mv, ma, h.va, c1, c3 a .base⟩
  ·exact ⟨b, r, mb, (hr.facts hA h).1, hA.sym _ _ hrb, c2, c3 r hr⟩
end
structure Hyp (vs : List Nat) (A : Nat -> Nat -> Prop) (p q : Nat) : Prop where
 sm : Sm A
 nd : vs.Nodup
 pq : p ∈ vs /\ q ∈ vs /\ (p = q \/ A p q)
 deg : ∀ x, x ∈ vs -> x ≠ p -> x ≠ q -> D3 vs A x
 out : ∃ x, x ∈ vs /\ x ≠ p /\ x ≠ q
section
variable {vs : List Nat} {A : Nat -> Nat -> Prop} {p q : Nat}
open Classical in
theorem Twin.part {u v a b : Nat} (hH : Hyp vs A p q) (h : Twin vs A p q u v a b) (hno : ∀ r, Rc vs A u v a b r -> ¬ A r b) (hpq : ∀ r, Rc vs A u v a b r -> r ≠ p /\ r ≠ q) (ih : ∀ vs' A' p' q', vs'.length < vs.length -> Hyp vs' A' p' q' -> ∃ c, MdL vs' A' c) : ∃ c, MdL vs A c := by
 have hA := hH.sm
 let vs' := vs.filter fun x => decide (Rc vs A u v a b x)
 have hvs : ∀ x, x ∈ vs' ↔ Rc vs A u v a b x := fun x => by
  rw [List.mem_filter, decide_eq_true_eq];exact ⟨fun h => h.2, fun hx => ⟨(hx.facts hA h).1, hx⟩⟩
 have hlt : vs'.length < vs.length := by
  have h1 : vs' ≠ vs := fun e => by
   have : u ∈ vs' := by rw [e]; exact h.mem.1
   exact ((hvs u).1 this).facts hA h |>.2.1 rfl
  have h2 : vs'.length <= vs.length := List.length_filter_le _ _;rcases Nat.lt_or_ge vs'.length vs.length with k | k
  ·exact k
  ·exact absurd (List.filter_sublist.eq_of_length (Nat.le_antisymm h2 k)) h1
 have hstay : ∀ x y, Rc vs A u v a b x -> x ≠ a -> A x y -> y ∈ vs -> Rc vs A u v a b y := fun x y hx hxa hxy hy => by
  obtain ⟨f0, f1, f2, f3⟩ := hx.facts hA h;refine .step hx hxy hy (fun e => ?_) (fun e => ?_) (fun e => hno x hx (by rw [<- e]; exact hxy))
  ·rcases h.nu x f0 (hA.sym _ _ (by rw [<- e]; exact hxy)) with k | k | k
   ·exact f2 k
   ·exact hxa k
   ·exact f3 k
  ·rcases h.nv x f0 (hA.sym _ _ (by rw [<- e]; exact hxy)) with k | k | k
   ·exact f1 k
   ·exact hxa k
   ·exact f3 k
 have hH' : Hyp vs' A a a := by
  refine ⟨hA, hH.nd.sublist List.filter_sublist, ⟨(hvs a).2 .base, (hvs a).2 .base, .inl rfl⟩, fun x hx hxa _ => ?_, ?_⟩
  ·have hx := (hvs x).1 hx;have hp := hpq x hx;obtain ⟨y1, y2, y3, m1, m2, m3, n1, n2, n3, k1, k2, k3⟩ := hH.deg x (hx.facts hA h).1 hp.1 hp.2;exact ⟨y1, y2, y3, (hvs _).2 (hstay x y1 hx hxa k1 m1), (hvs _).2 (hstay x y2 hx hxa k2 m2), (hvs _).2 (hstay x y3 hx hxa k3 m3), n1, n2, n3, k1, k2, k3⟩
  ·have hp := hpq a .base;obtain ⟨y, hy, n1, n2, k⟩ := (hH.deg a h.mem.2.2.1 hp.1 hp.2).but2 u v;have : Rc vs A u v a b y := .step .base k hy n1 n2 fun e => hno a .base (by rw [<- e]; exact k)
   exact ⟨y, (hvs y).2 this, (hA.ne k).symm, (hA.ne k).symm⟩
 obtain ⟨c, hc⟩ := ih vs' A a a hlt hH'
 exact ⟨_, hc.induced fun x hx => ((hvs x).1 hx).facts hA h |>.1⟩
theorem Twin.done {u v a b : Nat} (hH : Hyp vs A p q) (h : Twin vs A p q u v a b) (ih : ∀ vs' A' p' q', vs'.length < vs.length -> Hyp vs' A' p' q' -> ∃ c, MdL vs' A' c) : ∃ c, MdL vs A c := by
 have hA := hH.sm
 by_cases h1 : ∃ r, Rc vs A u v a b r /\ A r b
 ·obtain ⟨r, hr, hrb⟩ := h1; exact h.model hA hr hrb
 by_cases h2 : ∃ r, Rc vs A u v b a r /\ A r a
 ·obtain ⟨r, hr, hrb⟩ := h2; exact h.swap.model hA hr hrb
 have no1 : ∀ r, Rc vs A u v a b r -> ¬ A r b := fun r hr k => h1 ⟨r, hr, k⟩
 have no2 : ∀ r, Rc vs A u v b a r -> ¬ A r a := fun r hr k => h2 ⟨r, hr, k⟩
 by_cases h3 : ∀ r, Rc vs A u v a b r -> r ≠ p /\ r ≠ q
 ·exact h.part hH no1 h3 ih
 refine h.swap.part hH no2 (fun s hs => ?_) ih
 have disj : ∀ {s : Nat}, Rc vs A u v b a s -> ¬ Rc vs A u v a b s := by
  intro s hs
  induction hs with
  | base => exact fun k => (k.facts hA h).2.2.2 rfl
  | @step x y hx hxy hy n1 n2 n3 ih2 =>
   intro k;obtain ⟨f0, f1, f2, f3⟩ := hx.facts hA h.swap;by_cases e : x = b
   ·exact no1 y k (by rw [<- e]; exact hA.sym _ _ hxy)
   ·exact ih2 (.step k (hA.sym _ _ hxy) f0 f1 f2 e)
 obtain ⟨r, hr⟩ := Classical.not_forall.1 h3
 obtain ⟨hr, hrpq⟩ := Classical.not_imp.1 hr
 have hrpq : r = p \/ r = q := by
  by_cases e : r = p
  ·exact .inl e
  ·exact .inr (Classical.byContradiction fun e2 => hrpq ⟨e, e2⟩)
 have hsr : ∀ w, (w = p \/ w = q) -> w ≠ s := fun w hw e => by
  subst e;obtain ⟨f0, f1, f2, f3⟩ := hs.facts hA h.swap;have hadj : r = w \/ A r w := by
   rcases hH.pq.2.2 with e | e
   ·left
    rcases hrpq with k | k <;> rcases hw with k2 | k2 <;> omega
   ·rcases hrpq with k | k <;> rcases hw with k2 | k2
    ·left; omega
    ·right; rw [k, k2]; exact e
    ·right; rw [k, k2]; exact hA.sym _ _ e
    ·left; omega
  rcases hadj with e | e
  ·exact disj hs (by rw [<- e]; exact hr)
  ·by_cases eb : w = b
   ·exact no1 r hr (by rw [<- eb]; exact e)
   ·exact disj hs (.step hr e f0 f1 f2 eb)
 exact ⟨fun e => hsr p (.inl rfl) e.symm, fun e => hsr q (.inr rfl) e.symm⟩
theorem ctr_fail {v u : Nat} (hH : Hyp vs A p q) (hv : v ∈ vs) (hu : u ∈ vs) (hvu : A v u) (hvp : v ≠ p) (hvq : v ≠ q) (ih : ∀ vs' A' p' q', vs'.length < vs.length -> Hyp vs' A' p' q' -> ∃ c, MdL vs' A' c) :
  (∃ c, MdL vs A c) \/ (∃ a b, Twin vs A p q u v a b) \/ ∃ w z, w ∈ vs /\ z ∈ vs /\ w ≠ p /\ w ≠ q /\ A w u /\ A w v /\ A w z /\ z ≠ u /\ z ≠ v /\ ∀ y, y ∈ vs -> A w y -> y = u \/ y = v \/ y = z := by
 have hA := hH.sm
 have hne : u ≠ v := (hA.ne hvu).symm
 let vs' := vs.erase v
 have hvs : ∀ x, x ∈ vs' ↔ x ∈ vs /\ x ≠ v := fun x => by
  show x ∈ vs.erase v ↔ _
  rw [hH.nd.mem_erase_iff]; exact And.comm
 have hlt : vs'.length < vs.length := by
  show (vs.erase v).length < _
  rw [List.length_erase_of_mem hv];have := List.length_pos_of_mem hv;omega
 have toA : ∀ x y, A x y -> ctr A v u x y := fun x y k => .inl k
 by_cases hall : ∀ x, x ∈ vs' -> x ≠ p -> x ≠ q -> D3 vs' (ctr A v u) x
 ·left
  have hH' : Hyp vs' (ctr A v u) p q := by
   refine ⟨ctr_sm hA v u, hH.nd.sublist List.erase_sublist, ⟨(hvs p).2 ⟨hH.pq.1, hvp.symm⟩, (hvs q).2 ⟨hH.pq.2.1, hvq.symm⟩, hH.pq.2.2.imp id (toA _ _)⟩, hall, ?_⟩;obtain ⟨y, hy, n1, n2, k⟩ := (hH.deg v hv hvp hvq).but2 p q;exact ⟨y, (hvs y).2 ⟨hy, (hA.ne k).symm⟩, n1, n2⟩
  obtain ⟨c, hc⟩ := ih _ _ _ _ hlt hH';exact ⟨_, hc.lift hA hv hu hvu hvs⟩
 right
 obtain ⟨w, hw⟩ := Classical.not_forall.1 hall
 obtain ⟨hw', hw⟩ := Classical.not_imp.1 hw
 obtain ⟨hwp, hw⟩ := Classical.not_imp.1 hw
 obtain ⟨hwq, hno⟩ := Classical.not_imp.1 hw
 obtain ⟨hwv, hwne⟩ := (hvs w).1 hw'
 by_cases hwu : w = u
 ·left
  subst hwu;obtain ⟨a, b, ma, mb, nab, na, nb, ka, kb⟩ := (hH.deg w hwv hwp hwq).but v;obtain ⟨d, e, md, me, nde, nd, ne, kd, ke⟩ := (hH.deg v hv hvp hvq).but w;have a' := (hvs a).2 ⟨ma, na⟩;have b' := (hvs b).2 ⟨mb, nb⟩;have hD : ∀ y, y ∈ vs -> y ≠ v -> ctr A v w w y -> y = a \/ y = b := fun y hy hyv k => Classical.byContradiction fun hc =>
   hno ⟨a, b, y, a', b', (hvs y).2 ⟨hy, hyv⟩, nab, fun e => hc (.inl e.symm), fun e => hc (.inr e.symm), toA _ _ ka, toA _ _ kb, k⟩
  have vd : ∀ y, y ∈ vs -> A v y -> y ≠ w -> y = a \/ y = b := fun y hy k hyw => hD y hy (hA.ne k).symm (.inr (.inl ⟨rfl, k, hyw⟩))
  have hva : A v a /\ A v b := by
   rcases vd d md kd nd with e1 | e1 <;> rcases vd e me ke ne with e2 | e2
   ·exact absurd (e1.trans e2.symm) nde
   ·subst e1; subst e2; exact ⟨kd, ke⟩
   ·subst e1; subst e2; exact ⟨ke, kd⟩
   ·exact absurd (e1.trans e2.symm) nde
  refine ⟨a, b, ⟨hwv, hv, ma, mb⟩, ⟨hwp, hwq, hvp, hvq⟩, nab, hA.sym _ _ hvu, ka, kb, hva.1, hva.2, fun y hy k => ?_, fun y hy k => ?_⟩
  ·by_cases e : y = v
   ·exact .inl e
   ·exact .inr (hD y hy e (toA _ _ k))
  ·by_cases e : y = w
   ·exact .inl e
   ·exact .inr (vd y hy k e)
 ·right
  have u' := (hvs u).2 ⟨hu, hne⟩;by_cases hwv2 : A w v
  ·have hcu : ctr A v u w u := .inr (.inr ⟨rfl, hA.sym _ _ hwv2, hwu⟩);obtain ⟨b, c, mb, mc, nbc, nb, nc, kb, kc⟩ := (hH.deg w hwv hwp hwq).but v;have key : ∀ z, z ∈ vs -> z ≠ u -> z ≠ v -> A w u -> A w z -> ∃ w z, w ∈ vs /\ z ∈ vs /\ w ≠ p /\ w ≠ q /\ A w u /\ A w v /\ A w z /\ z ≠ u /\ z ≠ v /\ ∀ y, y ∈ vs -> A w y -> y = u \/ y = v \/ y = z := fun z mz nz nzv ku kz => by
    refine ⟨w, z, hwv, mz, hwp, hwq, ku, hwv2, kz, nz, nzv, fun y hy k => Classical.byContradiction fun hc => ?_⟩;have y1 : y ≠ u := fun e => hc (.inl e)
    have y2 : y ≠ v := fun e => hc (.inr (.inl e))
    have y3 : y ≠ z := fun e => hc (.inr (.inr e))
    exact hno ⟨u, z, y, u', (hvs z).2 ⟨mz, nzv⟩, (hvs y).2 ⟨hy, y2⟩, nz.symm, y1.symm, y3.symm, toA _ _ ku, toA _ _ kz, toA _ _ k⟩
   by_cases eb : b = u
   ·subst eb; exact key c mc nbc.symm nc kb kc
   ·by_cases ec : c = u
    ·subst ec; exact key b mb nbc nb kc kb
    ·exact absurd ⟨u, b, c, u', (hvs b).2 ⟨mb, nb⟩, (hvs c).2 ⟨mc, nc⟩, fun e => eb e.symm, fun e => ec e.symm, nbc, hcu, toA _ _ kb, toA _ _ kc⟩ hno
  ·obtain ⟨a, b, c, ma, mb, mc, n1, n2, n3, k1, k2, k3⟩ := hH.deg w hwv hwp hwq;have ne : ∀ y, A w y -> y ≠ v := fun y k e => hwv2 (by rw [<- e]; exact k)
   exact absurd ⟨a, b, c, (hvs a).2 ⟨ma, ne a k1⟩, (hvs b).2 ⟨mb, ne b k2⟩, (hvs c).2 ⟨mc, ne c k3⟩, n1, n2, n3, toA _ _ k1, toA _ _ k2, toA _ _ k3⟩ hno
end
theorem dirac_aux : ∀ (n : Nat) (vs : List Nat) (A : Nat -> Nat -> Prop) (p q : Nat), vs.length = n -> Hyp vs A p q -> ∃ c, MdL vs A c := by
 intro n
 induction n using Nat.strongRecOn with
 | ind n ihn =>
  intro vs A p q hn hH;have ih : ∀ vs' A' p' q', vs'.length < vs.length -> Hyp vs' A' p' q' -> ∃ c, MdL vs' A' c := fun vs' A' p' q' h k => ihn _ (by omega) vs' A' p' q' rfl k
  have hA := hH.sm;obtain ⟨v, hv, hvp, hvq⟩ := hH.out;obtain ⟨u, _, _, hu, _, _, _, _, _, kvu, _, _⟩ := hH.deg v hv hvp hvq;rcases ctr_fail hH hv hu kvu hvp hvq ih with h | ⟨a, b, h⟩ | ⟨w, z, mw, mz, wp, wq, kwu, kwv, kwz, nzu, nzv, nw⟩
  ·exact h
  ·exact h.done hH ih
  ·-- w has just u, v, z; u and v are neighbours
   rcases ctr_fail hH mw mz kwz wp wq ih with h | ⟨a, b, h⟩ | ⟨x, t, mx, mt, xp, xq, kxz, kxw, kxt, ntz, ntw, nx⟩
   ·exact h
   ·exact h.done hH ih
   ·have hx : x = u \/ x = v := by
     rcases nw x mx (hA.sym _ _ kxw) with e | e | e
     ·exact .inl e
     ·exact .inr e
     ·exact absurd e (hA.ne kxz)
    have go : ∀ x o, x ∈ vs -> o ∈ vs -> x ≠ p -> x ≠ q -> A x z -> A x w -> A x o -> A w o -> o ≠ z -> (∀ y, y ∈ vs -> A x y -> y = z \/ y = w \/ y = t) -> (∀ y, y ∈ vs -> A w y -> y = x \/ y = o \/ y = z) -> ∃ c, MdL vs A c := by
     intro x o mx mo xp xq k1 k2 k3 k4 noz nx nw;have eo : o = t := by
      rcases nx o mo k3 with e | e | e
      ·exact absurd e noz
      ·exact absurd e (hA.ne k4).symm
      ·exact e
     refine Twin.done (u := x) (v := w) (a := o) (b := z) hH ⟨⟨mx, mw, mo, mz⟩, ⟨xp, xq, wp, wq⟩, noz, k2, k3, k1, k4, kwz, fun y hy k => ?_, nw⟩ ih;rcases nx y hy k with e | e | e
     ·exact .inr (.inr e)
     ·exact .inl e
     ·exact .inr (.inl (e.trans eo.symm))
    rcases hx with e | e
    ·subst e;exact go x v mx hv xp xq kxz kxw (hA.sym _ _ kvu) kwv nzv.symm nx nw
    ·subst e;exact go x u mx hu xp xq kxz kxw kvu kwu nzu.symm nx fun y hy k => by
      rcases nw y hy k with e | e | e
      ·exact .inr (.inl e)
      ·exact .inl e
      ·exact .inr (.inr e)
theorem dirac {vs : List Nat} {A : Nat -> Nat -> Prop} (hA : Sm A) (hn : vs.Nodup) (hd : ∀ x, x ∈ vs -> D3 vs A x) (h0 : vs ≠ []) : ∃ c, MdL vs A c := by
 obtain ⟨p, hp⟩ := List.exists_mem_of_ne_nil _ h0
 obtain ⟨y, _, _, hy, _, _, _, _, _, k, _, _⟩ := hd p hp
 exact dirac_aux vs.length vs A p p rfl ⟨hA, hn, ⟨hp, hp, .inl rfl⟩, fun x hx _ _ => hd x hx, y, hy, (hA.ne k).symm, (hA.ne k).symm⟩
end Go.Sh
namespace Go.Sh
open Go.Proofs
noncomputable def MayC : Con := conP 3 (fun a : (List (List Int) × List Bool) × Int => a.1.2.length = a.1.1.length) (fun a => [restV false a.1.1 a.1.2, .one (.s (.i .i64 a.2))]) (fun a => .one (.s (.b (mayB a.1.1 a.1.2 a.2))))
theorem MayC_at {N : List (List Int)} {G : List Bool} (v : Int) (h : G.length = N.length) : MayC.F [restV false N G, .one (.s (.i .i64 v))] = some (.one (.s (.b (mayB N G v))), []) :=
 conP_at (a := ((N, G), v)) (fun x y _ _ h => by
  obtain ⟨⟨N, G⟩, v⟩ := x;obtain ⟨⟨N', G'⟩, v'⟩ := y;simp at h;obtain ⟨h1, h2⟩ := h;obtain ⟨rfl, rfl⟩ := restV_inj h1;subst h2
  rfl) h
theorem May_ok : SoundC Tryz.prog T 98 MayC := by
 refine sound_con (X := { Γ := [], T := T, nt := 31 }) cr_none hmix hT sound_nil Tryz.func98 (by rfl) (by rfl) (by rfl) (by rfl) 3 ?_
 rintro ⟨⟨N, G⟩, v⟩ hl
 dsimp only at hl ⊢
 refine two_le ?_
 have val : ∀ c : Bool, c = mayB N G v -> Sc.b c = Sc.b (mayB N G v) := fun c h => by rw [h]
 refine Pick.by (fun h1 => ?_) (fun h1 => ?_)
 ·have h1 : 0 <= v := by simpa using h1
  refine Pick.by (fun h2 => ?_) (fun h2 => ?_)
  ·have h2 : v < N.length := by rw [qrq] at h2; simpa using h2
   obtain ⟨hm, hg⟩ := rowAt_mem h1 h2;refine Idx.by v.toNat (by omega) (by rw [bools_length]; omega) ?_;refine Look.by _ (bools_get (goneAt_get hl h1 h2)) ?_;refine Pick.by (fun h3 => ?_) (fun h3 => ?_)
   ·have h3 : goneAt G v = false := by have h3 : (!goneAt G v) = true := h3; simpa using h3
    refine Idx.by v.toNat (by omega) (by rw [qrq]; omega) ?_;refine Pick.T (by rw [qrq]; simp; omega) ?_;refine Look.by _ (qgq hg) ?_;refine ⟨rfl, val _ ?_⟩;show decide (((ints (rowAt N v)).length : Int) <= 2) = _
    unfold mayB;rw [decide_eq_true h1, decide_eq_true h2, h3, qiq];simp only [Bool.not_false, Bool.true_and];exact decide_eq_decide.2 (by omega)
   ·have h3 : goneAt G v = true := by have h3 : (!goneAt G v) = false := h3; simpa using h3
    refine ⟨rfl, val _ ?_⟩;unfold mayB;rw [h3]; simp
  ·have h2 : ¬ v < N.length := by rw [qrq] at h2; simpa using h2
   refine ⟨rfl, val _ ?_⟩;unfold mayB;rw [decide_eq_false h2]; simp
 ·have h1 : ¬ 0 <= v := by simpa using h1
  refine ⟨rfl, val _ ?_⟩;unfold mayB;rw [decide_eq_false h1]; simp
def stpV (s : Stp) : V := .agg [.s (.i .i64 s.1), .s (.i .i64 s.2.1), .s (.i .i64 s.2.2.1), .s (.b s.2.2.2)]
noncomputable def StepC : Con := conP 3 (fun a : (List (List Int) × List Bool) × Int => Wf a.1.1 a.1.2 /\ 0 <= a.2 /\ a.2 < a.1.1.length) (fun a => [restV false a.1.1 a.1.2, .one (.s (.i .i64 a.2))]) (fun a => stpV (stepF a.1.1 a.2))
theorem StepC_at {N : List (List Int)} {G : List Bool} {v : Int} (h : Wf N G /\ 0 <= v /\ v < N.length) : StepC.F [restV false N G, .one (.s (.i .i64 v))] = some (stpV (stepF N v), []) :=
 conP_at (a := ((N, G), v)) (fun x y _ _ h => by
  obtain ⟨⟨N, G⟩, v⟩ := x;obtain ⟨⟨N', G'⟩, v'⟩ := y;simp at h;obtain ⟨h1, h2⟩ := h;obtain ⟨rfl, rfl⟩ := restV_inj h1;subst h2
  rfl) h
theorem Step_ok : SoundC Tryz.prog T 101 StepC := by
 refine sound_con (X := { Γ := [(91, SearchC)], T := T, nt := 46 }) cr_none hmix hT (sound_cons Search_ok sound_nil) Tryz.func101 (by rfl) (by rfl) (by rfl) (by rfl) 3 ?_
 rintro ⟨⟨N, G⟩, v⟩ ⟨hW, h0, h1⟩
 dsimp only at hW h0 h1 ⊢
 refine two_le ?_
 obtain ⟨hm, hg⟩ := rowAt_mem h0 h1
 have hrv := hW.rows v
 have hst : stepF N v = (v, (rowAt N v).getD 0 (-1), (rowAt N v).getD 1 (-1), decide (1 < (rowAt N v).length) && !(rowAt N ((rowAt N v).getD 0 (-1))).elem ((rowAt N v).getD 1 (-1))) := rfl
 refine Idx.by v.toNat (by omega) (by rw [qrq]; omega) ?_
 refine Pick.T (by rw [qrq]; simp; omega) ?_
 refine Look.by _ (qgq hg) ?_
 generalize hl : rowAt N v = l at *
 refine Pick.by (fun h2 => ?_) (fun h2 => ?_)
 ·have h2 : 0 < l.length := by rw [qiq] at h2; simpa using h2
  obtain ⟨a, ha⟩ : ∃ a, l[0]? = some a := ⟨_, qEq h2⟩;have ha' : l.getD 0 (-1) = a := by rw [qDq, ha]; rfl
  have har := hrv.2 a (qMq ha);refine Look.by _ (qgq hg) ?_;refine Idx.by 0 rfl (by rw [qiq]; exact h2) ?_;refine Look.by _ (qgq hg) ?_;refine Look.by _ (qhq ha) ?_;refine Look.by _ (qgq hg) ?_;refine Pick.by (fun h3 => ?_) (fun h3 => ?_)
  ·have h3 : 1 < l.length := by rw [qiq] at h3; have h3 : decide ((l.length : Int) > 1) = true := h3; have := of_decide_eq_true h3; omega
   obtain ⟨b, hb⟩ : ∃ b, l[1]? = some b := ⟨_, qEq h3⟩;have hb' : l.getD 1 (-1) = b := by rw [qDq, hb]; rfl
   obtain ⟨_, hga⟩ := rowAt_mem har.1 har.2;have hra := hW.rows a;have hla := hW.row_len a;have hmo := hW.most;refine Look.by _ (qgq hg) ?_;refine Idx.by 1 rfl (by rw [qiq]; exact h3) ?_;refine Look.by _ (qgq hg) ?_;refine Look.by _ (qhq hb) ?_;refine Idx.by a.toNat (by omega) (by rw [qrq]; omega) ?_;refine Pick.T (by rw [qrq]; simp; omega) ?_;refine Look.by _ (qgq hga) ?_;refine Call.by _ _ (SearchC_at (l := rowAt N a) (x := b) ⟨hra.1.imp fun h => by omega, by omega⟩) ?_;refine Seg.by (by kernel_rfl) ?_;rw [hst, ha', hb', decide_eq_true h3, Bool.true_and];refine ⟨rfl, ?_⟩
   (repeat' first|exact rfl|exact trivial|apply And.intro)
  ·have h3 : ¬ 1 < l.length := by rw [qiq] at h3; have h3 : decide ((l.length : Int) > 1) = false := h3; have := of_decide_eq_false h3; omega
   have hb' : l.getD 1 (-1) = -1 := by rw [qDq, List.getElem?_eq_none (by omega)]; rfl
   rw [hst, ha', hb', decide_eq_false h3, Bool.false_and];refine ⟨rfl, ?_⟩
   (repeat' first|exact rfl|exact trivial|apply And.intro)
 ·have h2 : l.length = 0 := by rw [qiq] at h2; have h2 : decide ((l.length : Int) > 0) = false := h2; have := of_decide_eq_false h2; omega
  have hnil := List.eq_nil_of_length_eq_zero h2;rw [hst, hnil];refine Look.by _ (qgq hg) ?_;refine Pick.F (by rw [hnil]; simp [ints]) ?_;refine ⟨rfl, ?_⟩
  (repeat' first|exact rfl|exact trivial|apply And.intro)
theorem nodup_len {l : List Int} : ∀ {m : List Int}, l.Nodup -> (∀ x ∈ l, x ∈ m) -> l.length <= m.length := by
 induction l with
 | nil => intro m _ _; simp
 | cons x l ih =>
  intro m h s;rw [List.nodup_cons] at h;have hx := s x (by simp);have := ih (m := m.erase x) h.2 fun y hy => (List.mem_erase_of_ne (fun (e : y = x) => h.1 (by rw [<- e]; exact hy))).2 (s y (by simp [hy]))
  rw [List.length_erase_of_mem hx] at this;have := List.length_pos_of_mem hx;simp; omega
def Heap (l : List Int) : Prop := ∀ i x y, 0 < i -> l[(i - 1) / 2]? = some x -> l[i]? = some y -> x <= y
structure HUp (l : List Int) (i : Nat) : Prop where
 ok : ∀ j x y, 0 < j -> j ≠ i -> l[(j - 1) / 2]? = some x -> l[j]? = some y -> x <= y
 by_ : ∀ j x y, 0 < j -> 0 < i -> (j - 1) / 2 = i -> l[(i - 1) / 2]? = some x -> l[j]? = some y -> x <= y
structure HDn (l : List Int) (i : Nat) : Prop where
 ok : ∀ j x y, 0 < j -> (j - 1) / 2 ≠ i -> l[(j - 1) / 2]? = some x -> l[j]? = some y -> x <= y
 by_ : ∀ j x y, 0 < j -> 0 < i -> (j - 1) / 2 = i -> l[(i - 1) / 2]? = some x -> l[j]? = some y -> x <= y
theorem heap_head {l : List Int} (h : Heap l) {a : Int} (ha : l[0]? = some a) : ∀ (i : Nat) (y : Int), l[i]? = some y -> a <= y := by
 intro i
 induction i using Nat.strongRecOn with
 | ind i ih =>
  intro y hy;by_cases hi : i = 0
  ·subst hi; rw [ha] at hy; injection hy with hy; omega
  ·have hlt := (qSq.1 hy).1;have hp : (i - 1) / 2 < l.length := by omega
   have := ih ((i - 1) / 2) (by omega) _ (qEq hp);have := h i _ _ (by omega) (qEq hp) hy;omega
theorem swap_get {l : List Int} {i j : Nat} {x y : Int} (hi : l[i]? = some x) (hj : l[j]? = some y) (hne : i ≠ j) (k : Nat) : ((l.set i y).set j x)[k]? = if k = j then some x else if k = i then some y else l[k]? := by
 have h1 := (qSq.1 hi).1
 have h2 := (qSq.1 hj).1
 rw [List.getElem?_set]
 by_cases e : j = k
 ·subst e;rw [if_pos rfl, if_pos (by rw [List.length_set]; exact h2), if_pos rfl]
 ·rw [if_neg e, if_neg (fun h => e h.symm), List.getElem?_set];by_cases e2 : i = k
  ·subst e2;rw [if_pos rfl, if_pos h1, if_pos rfl]
  ·rw [if_neg e2, if_neg (fun h => e2 h.symm)]
theorem set_perm {l : List Int} {i : Nat} {x y : Int} (hi : l[i]? = some x) : (y :: l).Perm (x :: l.set i y) := by
 induction l generalizing i with
 | nil => simp at hi
 | cons a l ih =>
  cases i with
  | zero => simp at hi; subst hi; simp only [List.set_cons_zero]; exact List.Perm.swap _ _ _
  | succ i =>
   rw [List.set_cons_succ];exact (List.Perm.swap a y l).trans (((ih (by simpa using hi)).cons a).trans (List.Perm.swap x a _))
theorem swap_perm {l : List Int} {i j : Nat} {x y : Int} (hi : l[i]? = some x) (hj : l[j]? = some y) (hne : i ≠ j) : ((l.set i y).set j x).Perm l := by
 have h1 := set_perm (y := y) hi
 have h2 : (l.set i y)[j]? = some y := by rw [qNq hne]; exact hj
 have h3 := set_perm (y := x) h2
 exact ((h1.trans h3).cons_inv).symm
theorem up_start {l : List Int} (h : Heap l) (x : Int) : HUp (l ++ [x]) l.length := by
 refine ⟨fun j u v hj hne hu hv => ?_, fun j u v hj hi hp hu hv => ?_⟩
 ·have hlt := (qSq.1 hv).1;simp at hlt;rw [qLq (by omega)] at hu hv;exact h j u v hj hu hv
 ·have hlt := (qSq.1 hv).1;simp at hlt;omega
theorem up_done {l : List Int} {i : Nat} (h : HUp l i) (hs : i = 0 \/ ∀ x y, l[(i - 1) / 2]? = some x -> l[i]? = some y -> x <= y) : Heap l := by
 intro j x y hj hx hy
 by_cases e : j = i
 ·subst e;rcases hs with hs | hs
  ·omega
  ·exact hs x y hx hy
 ·exact h.ok j x y hj e hx hy
theorem up_step {l : List Int} {i : Nat} {x y : Int} (h : HUp l i) (hi : 0 < i) (hx : l[(i - 1) / 2]? = some x) (hy : l[i]? = some y) (hlt : y < x) : HUp ((l.set i x).set ((i - 1) / 2) y) ((i - 1) / 2) := by
 have hne : i ≠ (i - 1) / 2 := by omega
 have get := swap_get hy hx hne
 refine ⟨fun j u v hj hjp hu hv => ?_, fun j u v hj hip hp hu hv => ?_⟩
 ·rw [get] at hu hv;rw [if_neg hjp] at hv;by_cases e : j = i
  ·subst e;rw [if_pos rfl] at hu hv;injection hu with hu; injection hv with hv; omega
  ·rw [if_neg e] at hv;by_cases e2 : (j - 1) / 2 = (i - 1) / 2
   ·rw [if_pos e2] at hu;injection hu with hu
    have := h.ok j x v hj e (by rw [e2]; exact hx) hv;omega
   ·rw [if_neg e2] at hu;by_cases e3 : (j - 1) / 2 = i
    ·rw [if_pos e3] at hu;injection hu with hu
     have := h.by_ j x v hj hi e3 hx hv;omega
    ·rw [if_neg e3] at hu;exact h.ok j u v hj e hu hv
 ·rw [get] at hu hv;rw [if_neg (by omega), if_neg (by omega)] at hu;rw [if_neg (show ¬ j = (i - 1) / 2 by omega)] at hv;have hpp := h.ok ((i - 1) / 2) u x hip (by omega) hu hx;by_cases e : j = i
  ·rw [if_pos e] at hv;injection hv with hv; omega
  ·rw [if_neg e] at hv;have := h.ok j x v hj e (by rw [hp]; exact hx) hv;omega
theorem dn_done {l : List Int} {i : Nat} (h : HDn l i) (hs : ∀ j x y, 0 < j -> (j - 1) / 2 = i -> l[i]? = some x -> l[j]? = some y -> x <= y) : Heap l := by
 intro j x y hj hx hy
 by_cases e : (j - 1) / 2 = i
 ·exact hs j x y hj e (e ▸ hx) hy
 ·exact h.ok j x y hj e hx hy
theorem dn_step {l : List Int} {i k : Nat} {x y : Int} (h : HDn l i) (hk : 0 < k) (hp : (k - 1) / 2 = i) (hx : l[i]? = some x) (hy : l[k]? = some y) (hlt : y < x) (hmin : ∀ j z, 0 < j -> (j - 1) / 2 = i -> l[j]? = some z -> y <= z) : HDn ((l.set i y).set k x) k := by
 have hne : i ≠ k := by omega
 have get := swap_get hx hy hne
 refine ⟨fun j u v hj hjp hu hv => ?_, fun j u v hj hip hjk hu hv => ?_⟩
 ·rw [get] at hu hv;rw [if_neg hjp] at hu;by_cases e : j = k
  ·subst e;rw [if_pos rfl] at hv;rw [if_pos hp] at hu;injection hu with hu; injection hv with hv; omega
  ·rw [if_neg e] at hv;by_cases e2 : (j - 1) / 2 = i
   ·rw [if_pos e2] at hu;injection hu with hu
    by_cases e3 : j = i
    ·omega
    ·rw [if_neg e3] at hv;have := hmin j v hj e2 hv;omega
   ·rw [if_neg e2] at hu;by_cases e3 : j = i
    ·rw [if_pos e3] at hv;injection hv with hv
     subst e3;have := h.by_ k u y hk hj hp hu hy;omega
    ·rw [if_neg e3] at hv;exact h.ok j u v hj e2 hu hv
 ·rw [get] at hu hv;rw [hp, if_neg hne, if_pos rfl] at hu;injection hu with hu
  rw [if_neg (show ¬ j = k by omega), if_neg (show ¬ j = i by omega)] at hv;have := h.ok j y v hj (by omega) (by rw [hjk]; exact hy) hv;omega
theorem dn_start {l : List Int} {x : Int} (h : Heap l) (m : Nat) : HDn ((l.set 0 x).take m) 0 := by
 refine ⟨fun j u v hj hjp hu hv => ?_, fun j u v _ hi => by omega⟩
 rw [List.getElem?_take] at hu hv
 by_cases h1 : (j - 1) / 2 < m
 case neg => rw [if_neg h1] at hu; simp at hu
 by_cases h2 : j < m
 case neg => rw [if_neg h2] at hv; simp at hv
 rw [if_pos h1] at hu
 rw [if_pos h2] at hv
 rw [qNq (by omega)] at hu hv
 exact h j u v hj hu hv
theorem take_perm {l : List Int} {a x : Int} {k : Nat} (h0 : l[0]? = some a) (hx : l[k]? = some x) (hk : l.length = k + 1) : (a :: (l.set 0 x).take k).Perm l := by
 have h1 := set_perm (y := x) h0
 have h2 : l.set 0 x = (l.set 0 x).take k ++ [x] := by
  have hk2 : k < (l.set 0 x).length := by rw [List.length_set]; omega
  have h3 := List.take_append_drop k (l.set 0 x);rw [List.drop_eq_getElem_cons hk2, List.drop_eq_nil_of_le (by rw [List.length_set]; omega)] at h3;have h4 : (l.set 0 x)[k] = x := by
   have : (l.set 0 x)[k]? = some x := by
    rw [List.getElem?_set];split
    ·rename_i e; subst e; rw [if_pos (by omega)]
    ·exact hx
   rw [qEq hk2] at this;injection this
  rw [h4] at h3;exact h3.symm
 rw [h2] at h1
 have h3 : (x :: l).Perm (x :: (a :: (l.set 0 x).take k)) := by
  refine h1.trans ?_;rw [<- List.cons_append];exact List.perm_append_comm
 exact h3.cons_inv.symm
structure Sift (l : List Int) (a : Int) (k : Nat) (c : List Int) (i : Nat) : Prop where
 len : k <= c.length
 perm : (a :: c.take k).Perm l
 down : HDn (c.take k) i
theorem sift_done {l c : List Int} {a : Int} {k i : Nat} (h : Sift l a k c i) (hs : ∀ j x y, 0 < j -> (j - 1) / 2 = i -> (c.take k)[i]? = some x -> (c.take k)[j]? = some y -> x <= y) : Heap (c.take k) := dn_done h.down hs
theorem tk_get {c : List Int} {k j : Nat} (h : j < k) : (c.take k)[j]? = c[j]? := by rw [List.getElem?_take, if_pos h]
theorem sift_step {l c : List Int} {a : Int} {k i j : Nat} {x y : Int} (h : Sift l a k c i) (hj : 0 < j) (hp : (j - 1) / 2 = i) (hjk : j < k) (hx : c[i]? = some x) (hy : c[j]? = some y) (hlt : y < x) (hmin : ∀ t z, 0 < t -> (t - 1) / 2 = i -> t < k -> c[t]? = some z -> y <= z) : Sift l a k ((c.set i y).set j x) j := by
 have hik : i < k := by omega
 have e : ((c.set i y).set j x).take k = ((c.take k).set i y).set j x := by rw [List.take_set, List.take_set]
 refine ⟨by rw [List.length_set, List.length_set]; exact h.len, ?_, ?_⟩
 ·rw [e];exact ((swap_perm (by rw [tk_get hik]; exact hx) (by rw [tk_get hjk]; exact hy) (by omega)).cons a).trans h.perm
 ·rw [e];refine dn_step h.down hj hp (by rw [tk_get hik]; exact hx) (by rw [tk_get hjk]; exact hy) hlt fun t z ht htp hz => ?_
  have htk : t < k := by
   have := (qSq.1 hz).1;rw [List.length_take] at this;omega
  exact hmin t z ht htp htk (by rw [<- tk_get htk]; exact hz)
def stps (l : List Stp) : Flat := l.map fun s => [.i .i64 s.1, .i .i64 s.2.1, .i .i64 s.2.2.1, .b s.2.2.2]
def logV (own : Bool) (l : List Stp) (f : List Int) (E : List Ed) : V := .agg [.flat own 4 (stps l), .flat own 1 (ints f), .flat own 2 (edges E)]
def firstMay (N : List (List Int)) (G : List Bool) : Option Nat := (List.range N.length).find? fun v => mayB N G v
def runS : Nat -> List (List Int) -> List Bool -> List Stp × List (List Int) × List Bool
 | 0, N, G => ([], N, G)
 | f + 1, N, G => match firstMay N G with
  | none => ([], N, G)
  | some v => (stepF N v :: (runS f (doN N (stepF N v)) (doG G (stepF N v))).1, (runS f (doN N (stepF N v)) (doG G (stepF N v))).2)
def runR (n : Int) (E : List Ed) : List Stp × List (List Int) × List Bool := runS n.toNat (nbrs n.toNat E) (List.replicate n.toNat false)
theorem live_step {N : List (List Int)} {G : List Bool} (hW : Wf N G) {v : Int} (hm : MayP N G v) : (doG G (stepF N v)).countP (!·) + 1 = G.countP (!·) := by
 have hlt : v.toNat < G.length := by rw [hW.len]; have := hm.hi; have := hm.lo; omega
 have h0 : G[v.toNat] = false := by
  have := goneAt_get hW.len hm.lo hm.hi;rw [hm.there, qEq hlt] at this;injection this
 have e : doG G (stepF N v) = G.set v.toNat true := rfl
 rw [e]
 have key : ∀ (G : List Bool) (i : Nat) (h : i < G.length), G[i] = false -> (G.set i true).countP (!·) + 1 = G.countP (!·) := by
  intro G
  induction G with
  | nil => intro i h; simp at h
  | cons g G ih =>
   intro i h hg
   cases i with
   | zero =>
    have hg : g = false := hg;subst hg;simp [List.countP_cons]
   | succ i =>
    have := ih i (by simpa using h) (by simpa using hg);rw [List.set_cons_succ, List.countP_cons, List.countP_cons];omega
 exact key G _ hlt h0
theorem firstMay_some {N : List (List Int)} {G : List Bool} {v : Int} (h : mayB N G v = true) (hmin : ∀ u, mayB N G u = true -> v <= u) : firstMay N G = some v.toNat := by
 have hm := mayB_iff.1 h
 have h0 := hm.lo
 have h1 := hm.hi
 unfold firstMay
 rw [List.find?_eq_some_iff_append]
 refine ⟨by rw [Int.toNat_of_nonneg h0]; exact h, List.range v.toNat, (List.range' (v.toNat + 1) (N.length - (v.toNat + 1))), ?_, fun u hu => ?_⟩
 ·rw [List.range_eq_range', List.range_eq_range'];have : N.length = v.toNat + (1 + (N.length - (v.toNat + 1))) := by omega
  conv => lhs; rw [this]
  rw [<- List.range'_append_1, <- List.range'_append_1];simp
 ·have hu := List.mem_range.1 hu
  cases hc : mayB N G u with
  | false => rfl
  | true => have := hmin u hc; omega
theorem firstMay_none {N : List (List Int)} {G : List Bool} (h : ∀ u, mayB N G u ≠ true) : firstMay N G = none := by
 unfold firstMay
 rw [List.find?_eq_none]
 intro u _
 exact h u
theorem heap_least {l c : List Int} {a : Int} {k : Nat} {N : List (List Int)} {G : List Bool} (hc : Heap (c.take k)) (hl : Heap l) (ha : l[0]? = some a) (hp : (a :: c.take k).Perm l) (hm : ∀ v, mayB N G v = true -> v ∈ l) {v : Int} (hv : mayB N G v = true) : a <= v := by
 obtain ⟨i, hi⟩ := List.mem_iff_getElem?.1 (hm v hv)
 exact heap_head hl ha i v hi
theorem runS_go {f v : Nat} {N : List (List Int)} {G : List Bool} (h : firstMay N G = some v) : runS (f + 1) N G = (stepF N v :: (runS f (doN N (stepF N v)) (doG G (stepF N v))).1, (runS f (doN N (stepF N v)) (doG G (stepF N v))).2) := by
 simp only [runS, h]
theorem runS_end {f : Nat} {N : List (List Int)} {G : List Bool} (h : firstMay N G = none) : runS f N G = ([], N, G) := by
 cases f with
 | zero => rfl
 | succ f => simp only [runS, h]
theorem run_step {R : List Stp × List (List Int) × List Bool} {st : List Stp} {n : Nat} {N : List (List Int)} {G : List Bool} {v : Int} (h : R = (st ++ (runS (n - st.length) N G).1, (runS (n - st.length) N G).2)) (hW : Wf N G) (hv : mayB N G v = true) (hst : st.length + 1 <= n) (hmin : ∀ u, mayB N G u = true -> v <= u) :
  R = ((st ++ [stepF N v]) ++ (runS (n - (st ++ [stepF N v]).length) (doN N (stepF N v)) (doG G (stepF N v))).1, (runS (n - (st ++ [stepF N v]).length) (doN N (stepF N v)) (doG G (stepF N v))).2) := by
 have e : n - st.length = (n - (st ++ [stepF N v]).length) + 1 := by simp; omega
 have e2 : ((v.toNat : Nat) : Int) = v := Int.toNat_of_nonneg (mayB_iff.1 hv).lo
 rw [h, e, runS_go (firstMay_some hv hmin), e2]
 simp only [List.append_assoc, List.cons_append, List.nil_append]
theorem may_step {N : List (List Int)} {G : List Bool} (hW : Wf N G) {v : Int} (hm : MayP N G v) (hs : (rowAt N v = [] /\ (stepF N v).2.1 = -1 /\ (stepF N v).2.2.1 = -1 /\ (stepF N v).2.2.2 = false) \/ (∃ a, rowAt N v = [a] /\ (stepF N v).2.1 = a /\ (stepF N v).2.2.1 = -1 /\ (stepF N v).2.2.2 = false) \/
  (∃ a b, rowAt N v = [a, b] /\ a < b /\ (stepF N v).2.1 = a /\ (stepF N v).2.2.1 = b /\ (stepF N v).2.2.2 = !(rowAt N a).elem b)) {u : Int} (hu : mayB (doN N (stepF N v)) (doG G (stepF N v)) u = true) {Q : Prop} (hk : mayB N G u = true -> u ≠ v -> Q) : Q \/ u = (stepF N v).2.1 \/ u = (stepF N v).2.2.1 := by
 have hp := mayB_iff.1 hu
 have h0 := hp.lo
 have h1 := hp.hi
 rw [doN_length] at h1
 have h2 := hp.there
 rw [do_gone hW hm h0] at h2
 have hne : u ≠ v := fun e => by rw [if_pos e] at h2; cases h2
 rw [if_neg hne] at h2
 by_cases hA : u = (stepF N v).2.1
 ·exact .inr (.inl hA)
 by_cases hB : u = (stepF N v).2.2.1
 ·exact .inr (.inr hB)
 refine .inl (hk (mayB_iff.2 ⟨h0, h1, h2, ?_⟩) hne)
 have hnot : u ∉ rowAt N v := fun hin => by
  rcases hs with ⟨e, _⟩ | ⟨a, e, ea, _⟩ | ⟨a, b, e, _, ea, eb, _⟩
  ·rw [e] at hin; simp at hin
  ·rw [e] at hin; simp at hin; exact hA (by rw [ea, hin])
  ·rw [e] at hin; simp at hin
   rcases hin with h | h
   ·exact hA (by rw [ea, h])
   ·exact hB (by rw [eb, h])
 have hv : v ∉ rowAt N u := fun hin => hnot (hW.sym u v h0 hm.lo hin)
 obtain ⟨s1, s2⟩ := do_row hW hm h0
 have hsub : ∀ y ∈ rowAt N u, y ∈ rowAt (doN N (stepF N v)) u := fun y hy => (s2 y).2 ⟨hne, .inl ⟨hy, fun e => hv (e ▸ hy)⟩⟩
 have hnd : (rowAt N u).Nodup := (hW.rows u).1.imp fun hab => by omega
 exact Nat.le_trans (nodup_len hnd hsub) hp.two
theorem heap_nil : Heap [] := fun i x y _ h => by simp at h
theorem cut_ints {sub : Option (Nat × Nat)} {m : List Int} : cut sub (ints m) = ints (cut sub m) := by
 cases sub with
 | none => rfl
 | some p => simp [cut, ints, List.map_take, List.map_drop]
theorem stps_snoc (l : List Stp) (s : Stp) : stps (l ++ [s]) = stps l ++ [[.i .i64 s.1, .i .i64 s.2.1, .i .i64 s.2.2.1, .b s.2.2.2]] := by simp [stps]
theorem stps_length (l : List Stp) : (stps l).length = l.length := by simp [stps]
def leftK (G : List Bool) (j : Nat) : List Int := ((List.range j).filter fun v => !G.getD v false).map fun (v : Nat) => (v : Int)
def edgesK (N : List (List Int)) (G : List Bool) (j : Nat) : List Ed := (leftK G j).flatMap (outE N)
theorem leftK_succ (G : List Bool) (j : Nat) : leftK G (j + 1) = leftK G j ++ (if G.getD j false then [] else [(j : Int)]) := by
 unfold leftK
 rw [List.range_succ, List.filter_append, List.map_append]
 congr 1
 cases h : G.getD j false <;> simp [List.filter_cons, h] <;> simp_all
theorem edgesK_succ (N : List (List Int)) (G : List Bool) (j : Nat) : edgesK N G (j + 1) = edgesK N G j ++ (if G.getD j false then [] else outE N j) := by
 unfold edgesK
 rw [leftK_succ, List.flatMap_append]
 congr 1
 cases G.getD j false <;> simp
theorem leftK_len (G : List Bool) (j : Nat) : (leftK G j).length <= j := by
 unfold leftK
 rw [List.length_map]
 exact Nat.le_trans (List.length_filter_le _ _) (by simp)
theorem outE_len (N : List (List Int)) (v : Int) : (outE N v).length <= (rowAt N v).length := by
 unfold outE
 rw [List.length_map]
 exact List.length_filter_le _ _
theorem edgesK_len {N : List (List Int)} {G : List Bool} (hW : Wf N G) (j : Nat) : (edgesK N G j).length <= j * 1000 := by
 induction j with
 | zero => simp [edgesK, leftK]
 | succ j ih =>
  rw [edgesK_succ, List.length_append];have h1 := outE_len N j;have h2 := hW.row_len j;have h3 := hW.most;have : (if G.getD j false then [] else outE N j).length <= 1000 := by
   split
   ·simp
   ·omega
  omega
theorem goneAt_nat {G : List Bool} (j : Nat) : goneAt G (j : Int) = G.getD j false := by unfold goneAt; rw [Int.toNat_natCast]
open Classical in
noncomputable def runO (n : Int) (E : List Ed) : List Stp × List Int × List Ed := if RightP n E then ((runR n E).1, leftF (runR n E).2.2, edgesF (runR n E).2.1 (runR n E).2.2) else ([], [], [])
noncomputable def RunC : Con := conP 2 (fun _ : Int × List Ed => True) (fun a => [grV a.1 a.2]) (fun a => logV true (runO a.1 a.2).1 (runO a.1 a.2).2.1 (runO a.1 a.2).2.2)
theorem RunC_at (n : Int) (E : List Ed) : RunC.F [grV n E] = some (logV true (runO n E).1 (runO n E).2.1 (runO n E).2.2, []) :=
 conP_at (a := (n, E)) (fun x y _ _ h => by
  obtain ⟨n, E⟩ := x;obtain ⟨n', E'⟩ := y;simp at h;obtain ⟨rfl, rfl⟩ := grV_inj h
  rfl) trivial
noncomputable def XRun : Cx := { Γ := [(49, RightC), (97, BeginC), (98, MayC), (101, StepC), (134, turnC (fun l _ => l.Pairwise (· <= ·) /\ l.length <= 1000000) (fun l x => l.erase x)), (135, turnC (fun l _ => l.Pairwise (· <= ·) /\ l.length <= 1000000) insAt)], T := T, nt := 66, inl := [(99, inlF Tryz.f99), (100, inlF Tryz.f100), (102, inlF Tryz.f102), (103, inlF Tryz.f103)], join := [82000, 56000], jc := [82050, 70031, 66059, 66024] }
theorem XRun_sound : Sound Tryz.prog T XRun.Γ := sound_cons RightG_ok (sound_cons Begin_ok (sound_cons May_ok (sound_cons Step_ok (sound_cons (turn_sound Without_call) (sound_cons (turn_sound With_call) sound_nil)))))
theorem XRun_ok : CrOk Tryz.prog (callAt 1 XRun) := callAt_ok hmix hT XRun_sound (inl_cons Tryz.func99 (by rfl) (by rfl) (by rfl) (inl_cons Tryz.func100 (by rfl) (by rfl) (by rfl) (inl_cons Tryz.func102 (by rfl) (by rfl) (by rfl) (inl_cons Tryz.func103 (by rfl) (by rfl) (by rfl) inl_nil)))) cr_none 1
theorem may_range {N : List (List Int)} {G : List Bool} {n x : Int} (h : N.length = n.toNat) (k : mayB N G x = true) : 0 <= x /\ x < n := by
 have h1 := (mayB_iff.1 k).lo
 have h2 := (mayB_iff.1 k).hi
 omega
theorem skip_may {i : Nat} {x a b v : Int} {P : Prop} (hx : (i = 0 /\ x = a) \/ (i = 1 /\ x = b)) (hne : v ≠ x) (k : P \/ (i <= 0 /\ v = a) \/ (i <= 1 /\ v = b)) : P \/ (i + 1 <= 0 /\ v = a) \/ (i + 1 <= 1 /\ v = b) := by
 rcases k with k | ⟨k1, k2⟩ | ⟨k1, k2⟩
 ·exact .inl k
 ·rcases hx with ⟨_, e⟩ | ⟨e0, _⟩
  ·exact absurd (by rw [k2, e]) hne
  ·omega
 ·rcases hx with ⟨e0, _⟩ | ⟨_, e⟩
  ·exact .inr (.inr ⟨by omega, k2⟩)
  ·exact absurd (by rw [k2, e]) hne
theorem put_may {i : Nat} {x a b v : Int} {P Q : Prop} (hx : (i = 0 /\ x = a) \/ (i = 1 /\ x = b)) (h : P \/ v = x -> Q) (k : P \/ (i <= 0 /\ v = a) \/ (i <= 1 /\ v = b)) : Q \/ (i + 1 <= 0 /\ v = a) \/ (i + 1 <= 1 /\ v = b) := by
 rcases k with k | ⟨k1, k2⟩ | ⟨k1, k2⟩
 ·exact .inl (h (.inl k))
 ·rcases hx with ⟨_, e⟩ | ⟨e0, _⟩
  ·exact .inl (h (.inr (by rw [k2, e])))
  ·omega
 ·rcases hx with ⟨e0, _⟩ | ⟨_, e⟩
  ·exact .inr (.inr ⟨by omega, k2⟩)
  ·exact .inl (h (.inr (by rw [k2, e])))
set_option maxHeartbeats 4000000 in
theorem Run_ok : SoundC Tryz.prog T 74 RunC := by
 refine sound_con (X := XRun) (cr := callAt 1 XRun) XRun_ok hmix hT XRun_sound Tryz.func74 (by rfl) (by rfl) (by rfl) (by rfl) 2 ?_
 rintro ⟨n, E⟩ -
 dsimp only
 refine two_le ?_
 refine Call.by _ _ (RightC_at n E) ?_
 refine Pick.by (fun h1 => ?_) (fun h1 => ?_)
 ·have h1 : ¬ RightP n E := by have h1 : (!decide (RightP n E)) = true := h1; simpa using h1
  have hv : runO n E = ([], [], []) := if_neg h1;rw [hv];refine ⟨rfl, ?_⟩
  (repeat' first|exact rfl|exact trivial|apply And.intro)
 have hR : RightP n E := by have h1 : (!decide (RightP n E)) = false := h1; simpa using h1
 have hv : runO n E = ((runR n E).1, leftF (runR n E).2.2, edgesF (runR n E).2.1 (runR n E).2.2) := if_pos hR
 rw [hv]
 refine Call.by _ _ (BeginC_at hR) ?_
 have hn0 := hR.1
 have hn1 := hR.2.1
 have hW := begin_wf hR
 have hNl := nbrs_length n.toNat E
 have hGl : (List.replicate n.toNat false).length = (nbrs n.toNat E).length := by rw [hNl]; simp
 refine LoopP.intro (α := Nat × List Int) (fun a => a.1 <= n.toNat /\ a.2.length <= a.1 /\ Heap a.2 /\ (∀ v ∈ a.2, 0 <= v /\ v < n) /\ ∀ v : Int, v < a.1 -> mayB (nbrs n.toNat E) (List.replicate n.toNat false) v = true -> v ∈ a.2) (fun a => n.toNat - a.1) (fun a => [(2, .ptr 0 0), (3, .ptr 1 0), (4, .ptr 4 0), (18, .s (.i .i64 n)), (19, .s (.i .i64 a.1))])
  (fun a => [(0, some (.blk [.nils, .nils, .nils])), (1, some (.blk [.sl 2 none none, .sl 3 none none])), (2, some (.nest true 1 (rowsI (nbrs n.toNat E)) [] [])), (3, some (.flat true 1 (bools (List.replicate n.toNat false)))), (4, some (.blk [.sl 5 none none])), (5, some (.flat true 1 (ints a.2)))]) 6 (0, []) ⟨by omega, by simp, heap_nil, by simp, fun v h1 h2 => by rw [mayB_iff] at h2; have := h2.lo; omega⟩ (by refine Weak.ba [(0, some _), (1, some _), (2, some _), (3, some _), (4, some _), (5, none)]) ?_
 rintro ⟨i, l⟩ ⟨hi, hl, hH, hr, hm⟩
 dsimp only at hi hl hH hr hm ⊢
 refine Pick.by (fun hc => ?_) (fun hc => ?_)
 ·have hlt : i < n.toNat := by simp at hc; omega
  refine Call.by _ _ (MayC_at (i : Int) hGl) ?_;refine JoinP.intro (α := List Int) (fun l => l.length <= i + 1 /\ Heap l /\ (∀ v ∈ l, 0 <= v /\ v < n) /\ ∀ v : Int, v < (i + 1 : Nat) -> mayB (nbrs n.toNat E) (List.replicate n.toNat false) v = true -> v ∈ l) (fun l => [(2, .ptr 0 0), (3, .ptr 1 0), (4, .ptr 4 0), (18, .s (.i .i64 n)), (19, .s (.i .i64 i))])
   (fun l => [(0, some (.blk [.nils, .nils, .nils])), (1, some (.blk [.sl 2 none none, .sl 3 none none])), (2, some (.nest true 1 (rowsI (nbrs n.toNat E)) [] [])), (3, some (.flat true 1 (bools (List.replicate n.toNat false)))), (4, some (.blk [.sl 5 none none])), (5, some (.flat true 1 (ints l)))]) 6 ?_ ?_
  rotate_left
  ·rintro l' ⟨a1, a2, a3, a4⟩;refine Pick.n ?_;exact Next.by (i + 1, l') ⟨by dsimp only; omega, a1, a2, a3, a4⟩ (by dsimp only; omega) (by refine Weak.ba (sg 0 [_,_,_,_,_,_]))
  refine Pick.by (fun h2 => ?_) (fun h2 => ?_)
  ·refine Pick.T (by simp [cut, qiq]; omega) ?_;have hraw : ints l = ints l := rfl;have hlen0 : (ints l ++ [[Sc.i .i64 ((i : Nat) : Int)]]) = ints (l ++ [((i : Nat) : Int)]) := by rw [hraw, ints_snoc]
   refine Pick.T (by show inI64 ((((ints l ++ [[Sc.i .i64 ((i : Nat) : Int)]]).length : Nat) : Int) - 1) = true; rw [hlen0, qiq]; simp; exact inI64_of (by omega) (by omega)) ?_;have hlen1 : ((l.length : Nat) : Int) = (((ints l ++ [[Sc.i .i64 ((i : Nat) : Int)]]).length : Nat) : Int) - 1 := by rw [hlen0, qiq]; simp
   refine JoinP.intro (α := List Int) (fun a => Heap a /\ a.length = l.length + 1 /\ ∀ v, v ∈ a ↔ v ∈ l \/ v = ((i : Nat) : Int)) (fun a => [(0, .ptr 4 0), (4, .sl 6 none none), (1000002, .ptr 0 0), (1000003, .ptr 1 0), (1000004, .ptr 4 0), (1000018, .s (.i .i64 n)), (1000019, .s (.i .i64 i))])
    (fun a => [(0, some (.blk [.nils, .nils, .nils])), (1, some (.blk [.sl 2 none none, .sl 3 none none])), (2, some (.nest true 1 (rowsI (nbrs n.toNat E)) [] [])), (3, some (.flat true 1 (bools (List.replicate n.toNat false)))), (4, some (.blk [.sl 5 none none])), (6, some (.flat true 1 (ints a)))]) 7 ?_ ?_
   rotate_left
   ·rintro m ⟨hHm, hml2, hmem⟩;exact ⟨m, ⟨by omega, hHm, fun v hv => ((hmem v).1 hv).elim (hr v) fun e => by rw [e]; omega, fun v hv hmv => (hmem v).2 (if hvi : v < i then .inl (hm v hvi hmv) else .inr (by omega))⟩, by refine Weak.ba (sg 0 [_,_,_,_,_,_])⟩
   refine LoopP.intro (α := Nat × List Int) (fun a => a.2.Perm (l ++ [((i : Nat) : Int)]) /\ HUp a.2 a.1 /\ a.1 < a.2.length) (fun a => a.1) (fun a => [(0, .ptr 4 0), (4, .sl 6 none none), (5, .s (.i .i64 a.1)), (1000002, .ptr 0 0), (1000003, .ptr 1 0), (1000004, .ptr 4 0), (1000018, .s (.i .i64 n)), (1000019, .s (.i .i64 i))])
    (fun a => [(0, some (.blk [.nils, .nils, .nils])), (1, some (.blk [.sl 2 none none, .sl 3 none none])), (2, some (.nest true 1 (rowsI (nbrs n.toNat E)) [] [])), (3, some (.flat true 1 (bools (List.replicate n.toNat false)))), (4, some (.blk [.sl 5 none none])), (6, some (.flat true 1 (ints a.2)))]) 7 (l.length, l ++ [((i : Nat) : Int)]) ⟨List.Perm.refl _, up_start hH _, by simp⟩ (by refine Weak.bw (sg 0 [_,_,_,_,_,_,_]) (by ((repeat' first|exact rfl|exact trivial|apply And.intro) <;> (repeat' first|exact rfl|exact trivial|apply And.intro)); all_goals ((first | (exact hlen0.symm) | (exact sc_eq hlen1))))) ?_
   rintro ⟨p, m⟩ ⟨hperm, hup, hpm⟩;dsimp only at hperm hup hpm ⊢;have hml : m.length = l.length + 1 := by rw [hperm.length_eq]; simp
   have hpq : 0 < p -> ((p : Int) - 1).tdiv 2 = (((p - 1) / 2 : Nat) : Int) := fun h => by rw [show (p : Int) - 1 = ((p - 1 : Nat) : Int) by omega]; rfl
   have hput : Heap m -> Heap m /\ m.length = l.length + 1 /\ ∀ v, v ∈ m ↔ v ∈ l \/ v = ((i : Nat) : Int) := fun h => ⟨h, hml, fun v => by rw [hperm.mem_iff]; simp⟩
   refine Pick.by (fun hc1 => ?_) (fun hc1 => ?_)
   ·have hp0 : 0 < p := by simp at hc1; omega
    have hq := hpq hp0;have hql : (p - 1) / 2 < m.length := by omega
    obtain ⟨y, hy⟩ : ∃ y, m[p]? = some y := ⟨_, qEq hpm⟩;obtain ⟨z, hz⟩ : ∃ z, m[(p - 1) / 2]? = some z := ⟨_, qEq hql⟩;refine Idx.by p rfl (by rw [qiq]; exact hpm) ?_;refine Look.by _ (qhq hy) ?_;refine Pick.n ?_;refine Pick.n ?_;refine Idx.by ((p - 1) / 2) hq (by rw [qiq]; exact hql) ?_;refine Look.by _ (qhq hz) ?_;refine Seg.by (by kernel_rfl) ?_;refine Pick.by (fun hc2 => ?_) (fun hc2 => ?_)
    ·have hlt : y < z := by simpa using hc2
     have hsw : ints ((m.set p z).set ((p - 1) / 2) y) = ((ints m).set p [.i .i64 z]).set ((p - 1) / 2) [.i .i64 y] := by rw [ints_set, ints_set]
     refine Pick.n ?_;refine Pick.n ?_;refine Pick.n ?_;refine Pick.n ?_;refine Idx.by ((p - 1) / 2) hq (by rw [qiq]; exact hql) ?_;refine Look.by _ (qhq hz) ?_;refine Idx.by p rfl (by rw [qiq]; exact hpm) ?_;refine Look.by _ (qhq hy) ?_;refine Idx.by p rfl (by rw [qiq]; exact hpm) ?_;refine Look.by _ (qhq hy) ?_;refine Idx.by ((p - 1) / 2) hq (by rw [List.length_set, qiq]; exact hql) ?_;refine Look.by _ (by rw [qNq (by omega)]; exact qhq hz) ?_;refine Seg.by (by kernel_rfl) ?_;refine Pick.n ?_;refine Pick.n ?_;refine Next.by ((p - 1) / 2, (m.set p z).set ((p - 1) / 2) y) ⟨(swap_perm hy hz (by omega)).trans hperm, up_step hup hp0 hz hy hlt, by rw [List.length_set, List.length_set]; exact hql⟩ (by dsimp only; omega) (by refine Weak.bw (sg 0 [_,_,_,_,_,_,_]) (by ((repeat' first|exact rfl|exact trivial|apply And.intro) <;> (repeat' first|exact rfl|exact trivial|apply And.intro)); all_goals ((first | (exact hsw) | (exact sc_eq hq.symm)))))
    ·have hHm := hput (up_done hup (.inr fun x' y' hx' hy' => by
      rw [hz] at hx'; rw [hy] at hy'
      injection hx' with hx'; injection hy' with hy'
      have : ¬ y < z := by simpa using hc2
      omega))
     exact ⟨m, hHm, by refine Weak.ba (sg 0 [_,_,_,_,_,_,_])⟩
   ·have hp0 : p = 0 := by simp at hc1; omega
    refine Seg.by (by kernel_rfl) ?_;exact ⟨m, hput (up_done hup (.inl hp0)), by refine Weak.ba (sg 0 [_,_,_,_,_,_,_])⟩
  ·have h2 : mayB (nbrs n.toNat E) (List.replicate n.toNat false) i = false := h2;refine ⟨l, ⟨by omega, hH, hr, fun v hv hmv => ?_⟩, by refine Weak.ba (sg 0 [_,_,_,_,_,_])⟩;by_cases hvi : v < i
   ·exact hm v hvi hmv
   ·have : v = i := by omega
    rw [this, h2] at hmv; cases hmv
 ·have hin : i = n.toNat := by simp at hc; omega
  have hm : ∀ v : Int, mayB (nbrs n.toNat E) (List.replicate n.toNat false) v = true -> v ∈ l := fun v hv => hm v (by have := (mayB_iff.1 hv).hi; rw [hNl] at this; omega) hv
  have hl0 : l.length <= n.toNat := by omega
  have hrun : runR n E = ([] ++ (runS n.toNat (nbrs n.toNat E) (List.replicate n.toNat false)).1, (runS n.toNat (nbrs n.toNat E) (List.replicate n.toNat false)).2) := rfl;generalize hNN : nbrs n.toNat E = N at *
  generalize hGG : List.replicate n.toNat false = G at *
  refine LoopP.intro (α := List Stp × List (List Int) × List Bool × Option (Nat × Nat) × List Int) (fun a => Wf a.2.1 a.2.2.1 /\ a.2.1.length = n.toNat /\ runR n E = (a.1 ++ (runS (n.toNat - a.1.length) a.2.1 a.2.2.1).1, (runS (n.toNat - a.1.length) a.2.1 a.2.2.1).2) /\ a.1.length + a.2.2.1.countP (!·) <= n.toNat /\ (a.2.2.2.1 = none \/ ∃ L, a.2.2.2.1 = some (0, L) /\ L <= a.2.2.2.2.length) /\
    a.2.2.2.2.length <= 4000 /\ (cut a.2.2.2.1 a.2.2.2.2).length <= n.toNat + 2 * a.1.length /\ Heap (cut a.2.2.2.1 a.2.2.2.2) /\ (∀ v ∈ cut a.2.2.2.1 a.2.2.2.2, 0 <= v /\ v < n) /\ ∀ v : Int, mayB a.2.1 a.2.2.1 v = true -> v ∈ cut a.2.2.2.1 a.2.2.2.2)
   (fun a => 3 * (n.toNat - a.1.length) + (cut a.2.2.2.1 a.2.2.2.2).length) (fun a => [(2, .ptr 0 0), (3, .ptr 1 0), (4, .ptr 4 0), (6, .sl 6 none none)])
   (fun a => [(0, some (.blk [.nils, .nils, .nils])), (1, some (.blk [.sl 2 none none, .sl 3 none none])), (2, some (.nest true 1 (rowsI a.2.1) [] [])), (3, some (.flat true 1 (bools a.2.2.1))), (4, some (.blk [.sl 5 none a.2.2.2.1])), (5, some (.flat true 1 (ints a.2.2.2.2))), (6, some (.flat true 4 (stps a.1)))]) 7 ([], N, G, none, l)
   ⟨hW, hNl, by simpa using hrun, by rw [<- hGG]; simp [List.countP_replicate], .inl rfl, by show l.length <= _; omega, by show l.length <= _; omega, hH, hr, hm⟩ (by refine Weak.ba [(0, some _), (1, some _), (2, some _), (3, some _), (4, some _), (5, some _), (6, none)]) ?_
  clear hrun hl0 hH hr hm hW hNl hGl hl hi hc
  rintro ⟨st, N, G, sub, m⟩ ⟨hW, hNl, hrun, hlive, hsub, hm4, hl0, hH, hr, hm⟩;dsimp only at hW hNl hrun hlive hsub hm4 hl0 hH hr hm ⊢;rcases hsub with rfl | ⟨L, rfl, hL⟩
  case' inl =>
   generalize hlm : cut none m = l at *
   have hlm : m = l := hlm
   let sub : Option (Nat × Nat) := none
   refine Pick.by (fun hc => ?_) (fun hc => ?_)
   rotate_left
   have hz : l.length = 0 := by rw [qiq, hlm] at hc; simpa using hc
   rotate_left
   have hpos : 0 < l.length := by rw [qiq, hlm] at hc; simpa using hc
   obtain ⟨out, hout⟩ : ∃ a, l[0]? = some a := ⟨_, qEq hpos⟩;obtain ⟨last, hlst⟩ : ∃ k, l.length = k + 1 := ⟨l.length - 1, by omega⟩;obtain ⟨top, htop⟩ : ∃ a, l[last]? = some a := ⟨_, qEq (by omega)⟩;have hlast : (((ints m).length : Nat) : Int) - 1 = (last : Int) := by rw [qiq, hlm]; omega
   have hsift : Sift l out last (m.set 0 top) 0 := ⟨by rw [List.length_set, hlm]; omega, by rw [hlm]; exact take_perm hout htop hlst, by rw [hlm]; exact dn_start hH _⟩;have hil : (ints m).length = last + 1 := by rw [qiq, hlm]; exact hlst
   refine Idx.by 0 rfl (by omega) ?_;refine Look.by _ (by rw [hlm]; exact qhq hout) ?_;refine Pick.T (by rw [hlast]; exact inI64_of (by omega) (by omega)) ?_;refine Idx.by last hlast (by omega) ?_;refine Look.by _ (by rw [hlm]; exact qhq htop) ?_;refine Idx.by 0 rfl (by omega) ?_;refine Look.by _ (by rw [hlm]; exact qhq hout) ?_;refine Rng.by 0 last rfl hlast (by omega) (by rw [List.length_set]; omega) ?_
  case' inr =>
   have hlm : m.take L = cut (some (0, L)) m := rfl
   let sub : Option (Nat × Nat) := some (0, L)
   generalize cut (some (0, L)) m = l at *
   have hLl : l.length = L := by rw [<- hlm, List.length_take]; omega
   have hget : ∀ j, j < L -> l[j]? = m[j]? := fun j hj => by rw [<- hlm, List.getElem?_take, if_pos hj]
   refine Pick.by (fun hc => ?_) (fun hc => ?_)
   rotate_left
   have hz : l.length = 0 := by rw [hLl]; simpa using hc
   rotate_left
   have hpos : 0 < l.length := by rw [hLl]; simpa using hc
   obtain ⟨out, hout⟩ : ∃ a, l[0]? = some a := ⟨_, qEq hpos⟩;obtain ⟨last, hlst⟩ : ∃ k, l.length = k + 1 := ⟨l.length - 1, by omega⟩;obtain ⟨top, htop⟩ : ∃ a, l[last]? = some a := ⟨_, qEq (by omega)⟩;have hlast : (L : Int) - 1 = (last : Int) := by omega
   have hout2 : m[0]? = some out := by rw [<- hget 0 (by omega)]; exact hout
   have htop2 : m[last]? = some top := by rw [<- hget last (by omega)]; exact htop
   have hsift : Sift l out last (m.set 0 top) 0 := by
    have e : (m.set 0 top).take last = (l.set 0 top).take last := by
     rw [<- hlm, List.take_set, List.take_set, List.take_take, Nat.min_eq_left (by omega)]
    exact ⟨by rw [List.length_set]; omega, by rw [e]; exact take_perm hout htop hlst, by rw [e]; exact dn_start hH _⟩
   refine Idx.by 0 rfl (by omega) ?_;refine Look.by _ (qhq hout2) ?_;refine Pick.T (by rw [hlast]; exact inI64_of (by omega) (by omega)) ?_;refine Idx.by last hlast (by omega) ?_;refine Look.by _ (by rw [Nat.zero_add]; exact qhq htop2) ?_;refine Idx.by 0 rfl (by omega) ?_;refine Look.by _ (qhq hout2) ?_;refine Rng.by 0 last rfl hlast (by omega) (by omega) ?_
  any_goals
   have hz1 := hz;have hno : ∀ u, mayB N G u ≠ true := fun u hu => by
    have := hm u hu;rw [List.eq_nil_of_length_eq_zero hz] at this;simp at this
   rw [runS_end (firstMay_none hno), List.append_nil] at hrun;rw [hrun];have hst4 : st.length <= 1000 := by omega
   have hGN := hW.len;have hmo := hW.most;have hNL := qrq N;refine LoopP.intro (α := Nat) (fun j => j <= N.length) (fun j => N.length - j) (fun j => [(2, .ptr 2 0), (4, .ptr 1 0), (5, .ptr 3 0), (13, .sl 4 none none), (14, .s (.i .i64 N.length)), (15, .s (.i .i64 j)), (1000002, .ptr 0 0)])
    (fun j => [(0, some (.blk [.nils, .nils, .nils])), (1, some (.blk [.nils, .nils, .nils])), (2, some (.blk [.sl 4 none none, .sl 5 none none])), (3, some (.blk [.sl 6 none none, .sl 7 none none, .sl 8 none none])), (4, some (.nest true 1 (rowsI N) [] [])), (5, some (.flat true 1 (bools G))), (6, some (.flat true 4 (stps st))), (7, some (.flat true 1 (ints (leftK G j)))), (8, some (.flat true 2 (edges (edgesK N G j))))]) 9 0 (by omega) (by refine Weak.bw [(0, some _), (1, some _), (2, some _), (3, some _), (4, some _), (5, some _), (6, some _), (7, none), (8, none)] (by ((repeat' first|exact rfl|exact trivial|apply And.intro) <;> (repeat' first|exact rfl|exact trivial|apply And.intro)); all_goals ((first | (rw [hNL]; rfl) | done)))) ?_
   rintro j hj;have hlk := leftK_len G j;have hek := edgesK_len hW j;refine Pick.by (fun hd1 => ?_) (fun hd1 => ?_)
   ·have hjl : j < N.length := by simpa using hd1
    have hgj : (bools G)[j]? = some [.b (G.getD j false)] := by
     refine bools_get ?_;rw [qDq, qEq (by omega)]; rfl
    have hrj : (rowsI N)[j]? = some (ints (rowAt N j)) := by
     have := (rowAt_mem (N := N) (v := (j : Int)) (by omega) (by omega)).2;exact qgq this
    have hrl := hW.row_len (j : Int);refine Idx.by j rfl (by omega) ?_;refine Pick.T (by rw [hNL]; simp; omega) ?_;refine Idx.by j rfl (by rw [bools_length]; omega) ?_;refine Look.by _ hgj ?_;refine Pick.by (fun hd2 => ?_) (fun hd2 => ?_)
    ·have hd2 : G.getD j false = true := hd2;refine Pick.n ?_;refine Next.by (j + 1) (by omega) (by omega) (by refine Weak.bw (sg 0 [_,_,_,_,_,_,_,_,_]) (by ((repeat' first|exact rfl|exact trivial|apply And.intro) <;> (repeat' first|exact rfl|exact trivial|apply And.intro)); all_goals ((first | (rw [leftK_succ, if_pos hd2, List.append_nil]) | (rw [edgesK_succ, if_pos hd2, List.append_nil])))))
    have hd2 : G.getD j false = false := hd2;have hl1 : leftK G (j + 1) = leftK G j ++ [(j : Int)] := by rw [leftK_succ, if_neg (by rw [hd2]; simp)]
    have he1 : edgesK N G (j + 1) = edgesK N G j ++ outE N j := by rw [edgesK_succ, if_neg (by rw [hd2]; simp)]
    refine Pick.T (by simp [cut, qiq]; omega) ?_;refine Look.by _ hrj ?_;refine LoopP.intro (α := Nat) (fun k => k <= (rowAt N j).length) (fun k => (rowAt N j).length - k) (fun k => [(2, .ptr 2 0), (4, .ptr 1 0), (5, .ptr 3 0), (6, .s (.i .i64 j)), (13, .sl 4 none none), (14, .s (.i .i64 N.length)), (15, .s (.i .i64 j)), (31, .sl 4 (some (j, 0)) none), (32, .s (.i .i64 (rowAt N j).length)), (33, .s (.i .i64 k)), (1000002, .ptr 0 0)])
     (fun k => [(0, some (.blk [.nils, .nils, .nils])), (1, some (.blk [.nils, .nils, .nils])), (2, some (.blk [.sl 4 none none, .sl 5 none none])), (3, some (.blk [.sl 6 none none, .sl 7 none none, .sl 8 none none])), (4, some (.nest true 1 (rowsI N) [] [])), (5, some (.flat true 1 (bools G))), (6, some (.flat true 4 (stps st))), (7, some (.flat true 1 (ints (leftK G (j + 1))))), (8, some (.flat true 2 (edges (edgesK N G j ++ (((rowAt N j).take k).filter fun x => decide (x > (j : Int))).map fun x => ((j : Int), x)))))]) 9 0 (by omega) (by refine Weak.bw (sg 0 [_,_,_,_,_,_,_,_,_]) (by ((repeat' first|exact rfl|exact trivial|apply And.intro) <;> (repeat' first|exact rfl|exact trivial|apply And.intro)); all_goals ((first | (rw [hl1, ints_snoc]; rfl) | (rw [List.take_zero]; simp; done) | (rw [qiq]; rfl) | (simp; done))))) ?_
    rintro k hk;have hpl : ((((rowAt N j).take k).filter fun x => decide (x > (j : Int))).map fun x => ((j : Int), x)).length <= 1000 := by
     rw [List.length_map];refine Nat.le_trans (List.length_filter_le _ _) ?_;rw [List.length_take]; omega
    refine Pick.by (fun hd3 => ?_) (fun hd3 => ?_)
    ·have hkl : k < (rowAt N j).length := by simpa using hd3
     obtain ⟨x, hx⟩ : ∃ x, (rowAt N j)[k]? = some x := ⟨_, qEq hkl⟩;have hxe : (rowAt N j)[k] = x := by rw [qEq hkl] at hx; injection hx
     refine Look.by _ hrj ?_;refine Idx.by k rfl (by rw [qiq]; exact hkl) ?_;refine Look.by _ hrj ?_;refine Look.by _ (qhq hx) ?_;refine Pick.by (fun hd4 => ?_) (fun hd4 => ?_)
     ·have hd4 : x > (j : Int) := by simpa using hd4
      refine Pick.T (by simp [cut, qeq] at hpl ⊢; omega) ?_;refine Pick.n ?_;refine Next.by (k + 1) (by omega) (by omega) (by refine Weak.bw (sg 0 [_,_,_,_,_,_,_,_,_]) (by ((repeat' first|exact rfl|exact trivial|apply And.intro) <;> (repeat' first|exact rfl|exact trivial|apply And.intro)); all_goals ((first | (rw [qTq hkl, hxe, List.filter_append, List.map_append, List.filter_cons, if_pos (by simpa using hd4), List.filter_nil, <- List.append_assoc]; exact edges_snoc _ _) | (simp; done)))))
     ·have hd4 : ¬ x > (j : Int) := by simpa using hd4
      refine Pick.n ?_;refine Next.by (k + 1) (by omega) (by omega) (by refine Weak.bw (sg 0 [_,_,_,_,_,_,_,_,_]) (by ((repeat' first|exact rfl|exact trivial|apply And.intro) <;> (repeat' first|exact rfl|exact trivial|apply And.intro)); all_goals ((first | (rw [qTq hkl, hxe, List.filter_append, List.map_append, List.filter_cons, if_neg (by simpa using hd4), List.filter_nil, List.map_nil, List.append_nil]) | (simp; done)))))
    ·have hkl : k = (rowAt N j).length := by simp at hd3; omega
     have hfull : edgesK N G (j + 1) = edgesK N G j ++ (((rowAt N j).take k).filter fun x => decide (x > (j : Int))).map fun x => ((j : Int), x) := by rw [he1, hkl, List.take_length]; rfl
     refine Pick.n ?_;refine Next.by (j + 1) (by omega) (by omega) (by refine Weak.bw (sg 0 [_,_,_,_,_,_,_,_,_]) (by ((repeat' first|exact rfl|exact trivial|apply And.intro) <;> (repeat' first|exact rfl|exact trivial|apply And.intro)); all_goals ((rw [hfull]))))
   have hjl : j = N.length := by simp at hd1; omega
   subst hjl;have e1 : leftF G = leftK G N.length := by unfold leftF leftK; rw [hGN]
   have e2 : edgesF N G = edgesK N G N.length := by unfold edgesF edgesK; rw [e1]
   refine ⟨rfl, ?_⟩
   (repeat' first|exact rfl|exact trivial|apply And.intro)
   all_goals (first | exact congrArg ints e1 | exact congrArg edges e2)
  all_goals
   refine JoinP.intro (α := List Int) (fun c => c.length = m.length /\ last <= c.length /\ (out :: c.take last).Perm l /\ Heap (c.take last)) (fun c => [(0, .ptr 4 0), (3, .sl 5 none (some (0, last))), (4, .s (.i .i64 out)), (1000002, .ptr 0 0), (1000003, .ptr 1 0), (1000004, .ptr 4 0), (1000006, .sl 6 none none)])
    (fun c => [(0, some (.blk [.nils, .nils, .nils])), (1, some (.blk [.sl 2 none none, .sl 3 none none])), (2, some (.nest true 1 (rowsI N) [] [])), (3, some (.flat true 1 (bools G))), (4, some (.blk [.sl 5 none sub])), (5, some (.flat true 1 (ints c))), (6, some (.flat true 4 (stps st)))]) 7 ?_ ?_
   rotate_left
   ·rintro c ⟨hcm, hlc, hperm, hHc⟩;have hGN := hW.len;have hq0 : ∀ v, v ∈ c.take last -> v ∈ l := fun v hv => hperm.mem_iff.1 (List.mem_cons_of_mem _ hv)
    have hq1 : ∀ v, v ∈ l -> v = out \/ v ∈ c.take last := fun v hv => by simpa using hperm.mem_iff.2 hv
    have hqr : ∀ v ∈ c.take last, 0 <= v /\ v < n := fun v hv => hr v (hq0 v hv)
    have hqc : cut (some (0, last)) c = c.take last := rfl;have hqlen : (c.take last).length = last := by rw [List.length_take]; omega
    have hor := hr out (qMq hout);refine Call.by _ _ (MayC_at out hGN) ?_;refine Pick.by (fun hmy => ?_) (fun hmy => ?_)
    ·have hmy : mayB N G out = false := by have hmy : (!mayB N G out) = true := hmy; simpa using hmy
     refine Next.by (st, N, G, some (0, last), c) ⟨hW, hNl, hrun, hlive, .inr ⟨last, rfl, hlc⟩, by dsimp only; omega, by dsimp only; rw [hqc]; omega, hHc, hqr, fun v hv => ?_⟩ (by dsimp only; rw [hqc]; omega) (by refine Weak.ba (sg 0 [_,_,_,_,_,_,_]));rcases hq1 v (hm v hv) with e | e
     ·rw [e, hmy] at hv; cases hv
     ·exact e
    have hmy : mayB N G out = true := by have hmy : (!mayB N G out) = false := hmy; simpa using hmy
    have hmp := mayB_iff.1 hmy;obtain ⟨hs1, hs2⟩ := step_two hW hmp rfl;refine Call.by _ _ (StepC_at ⟨hW, hmp.lo, hmp.hi⟩) ?_;have hlo := hmp.lo;have hhi := hmp.hi;have hrv := hW.rows out;have hnd : (rowAt N out).Nodup := hrv.1.imp fun hab => by omega
    have hNL := qrq N;have hmo := hW.most;have hrl := hW.row_len out;have hgv : (rowsI N)[(out).toNat]? = some (ints (rowAt N out)) := qgq (rowAt_mem hlo hhi).2;have hvv : out ∉ rowAt N out := hW.irr out hlo;have hpart : ∀ (di : Nat) (u : Int), 0 <= u -> rowAt (((rowAt N out).take di).foldl (cutF out) N) u = if u ∈ (rowAt N out).take di then (rowAt N u).erase out else rowAt N u := fun di u hu => cuts_row (hnd.sublist (List.take_sublist _ _)) (fun x hx => hrv.2 x (List.mem_of_mem_take hx)) hu
    have hplen : ∀ di : Nat, (rowsI (((rowAt N out).take di).foldl (cutF out) N)).length = N.length := fun di => by rw [qrq, cuts_length]
    have hpget : ∀ (di : Nat) (u : Int), 0 <= u -> u < N.length -> (rowsI (((rowAt N out).take di).foldl (cutF out) N))[u.toNat]? = some (ints (rowAt (((rowAt N out).take di).foldl (cutF out) N) u)) := fun di u h0 h1 => qgq (rowAt_mem h0 (by rw [cuts_length]; exact h1)).2
    refine Idx.by (out).toNat (by show (out : Int) = _; omega) (by omega) ?_;refine Pick.T (by rw [hNL]; simp; omega) ?_;refine Look.by _ hgv ?_;refine LoopP.intro (α := Nat) (fun di => di <= (rowAt N out).length) (fun di => (rowAt N out).length - di) (fun di => [(2, .ptr 8 0), (3, .ptr 9 0), (11, .sl 2 (some ((out).toNat, 0)) none), (12, .s (.i .i64 (rowAt N out).length)), (13, .s (.i .i64 di)), (1000002, .ptr 0 0), (1000003, .ptr 1 0), (1000004, .ptr 4 0), (1000006, .sl 6 none none), (1000008, .ptr 7 0)])
     (fun di => [(0, some (.blk [.nils, .nils, .nils])), (1, some (.blk [.sl 2 none none, .sl 3 none none])), (4, some (.blk [.sl 5 none (some (0, last))])), (5, some (.flat true 1 (ints c))), (6, some (.flat true 4 (stps st))), (7, some (.blk [.s (.i .i64 (stepF N out).1), .s (.i .i64 (stepF N out).2.1), .s (.i .i64 (stepF N out).2.2.1), .s (.b (stepF N out).2.2.2)])), (2, some (.nest true 1 (rowsI (((rowAt N out).take di).foldl (cutF out) N)) [] [])), (3, some (.flat true 1 (bools G))), (8, some (.blk [.sl 2 none none, .sl 3 none none])), (9, some (.blk [.s (.i .i64 (stepF N out).1), .s (.i .i64 (stepF N out).2.1), .s (.i .i64 (stepF N out).2.2.1), .s (.b (stepF N out).2.2.2)]))]) 10 0 (by omega) (by refine Weak.bw (sg 0 [_,_,_,_,_,_,_,_,_,_]) (by ((repeat' first|exact rfl|exact trivial|apply And.intro) <;> (repeat' first|exact rfl|exact trivial|apply And.intro)); all_goals ((first | (rw [qiq]; rfl) | (simp; done))))) ?_
    rintro di hi;refine Pick.by (fun hc1 => ?_) (fun hc1 => ?_)
    ·have hil : di < (rowAt N out).length := by simpa using hc1
     obtain ⟨x, hx⟩ : ∃ x, (rowAt N out)[di]? = some x := ⟨_, qEq hil⟩;have hxm := qMq hx;have hxr := hrv.2 x hxm;have hxv : x ≠ out := fun e => hvv (e ▸ hxm)
     have hgi : (rowsI (((rowAt N out).take di).foldl (cutF out) N))[(out).toNat]? = some (ints (rowAt N out)) := by
      rw [hpget di out hlo hhi, hpart di out hlo, if_neg fun h => hvv (List.mem_of_mem_take h)]
     have hrx := hpget di x hxr.1 hxr.2;have hstp : ((rowAt N out).take (di + 1)).foldl (cutF out) N = cutF out (((rowAt N out).take di).foldl (cutF out) N) x := by
      rw [qTq hil, List.foldl_append];have : (rowAt N out)[di] = x := by rw [qEq hil] at hx; injection hx
      rw [this]; rfl
     have hwx : (rowAt (((rowAt N out).take di).foldl (cutF out) N) x).Pairwise (· <= ·) /\ (rowAt (((rowAt N out).take di).foldl (cutF out) N) x).length <= 1000000 := by
      have h1 := hW.rows x;have h2 := hW.row_len x;rw [hpart di x hxr.1];split
      ·have h3 := List.length_erase_le (l := rowAt N x) (a := out);exact ⟨(erase_sorted h1.1).imp fun h => by omega, by omega⟩
      ·exact ⟨h1.1.imp fun h => by omega, by omega⟩
     have hpl := hplen di;refine Look.by _ hgi ?_;refine Idx.by di rfl (by rw [qiq]; exact hil) ?_;refine Look.by _ hgi ?_;refine Look.by _ (qhq hx) ?_;refine Idx.by x.toNat (by omega) (by omega) ?_;refine Pick.T (by rw [hpl]; simp; omega) ?_;refine Look.by _ hrx ?_;refine Call.by _ _ (turnC_at hwx) ?_;refine Idx.by x.toNat (by omega) (by omega) ?_;refine Pick.T (by rw [hpl]; simp; omega) ?_;refine Pick.T (by simp) ?_;refine Seg.by (by kernel_rfl) ?_;refine Pick.n ?_;refine Next.by (di + 1) (by omega) (by omega) (by refine Weak.bw (sg 0 [_,_,_,_,_,_,_,_,_,_]) (by ((repeat' first|exact rfl|exact trivial|apply And.intro) <;> (repeat' first|exact rfl|exact trivial|apply And.intro)); all_goals ((first | (rw [hstp]; unfold cutF; rw [rowsI_set]; rfl) | (simp; done) | (simp; omega)))))
    have hil : di = (rowAt N out).length := by simp at hc1; omega
    subst hil;rw [List.take_length];have hN1 : ∀ u : Int, 0 <= u -> rowAt ((rowAt N out).foldl (cutF out) N) u = (rowAt N u).erase out := fun u hu => by
     rw [cuts_row hnd hrv.2 hu];split
     ·rfl
     ·rename_i hno;rw [List.erase_of_not_mem];exact fun h => hno (hW.sym u out hu hlo h)
    have hl1 : (rowsI ((rowAt N out).foldl (cutF out) N)).length = N.length := by rw [qrq, cuts_length]
    refine JoinP.intro (α := Unit) (fun _ => True) (fun _ => [(2, .ptr 8 0), (3, .ptr 9 0), (1000002, .ptr 0 0), (1000003, .ptr 1 0), (1000004, .ptr 4 0), (1000006, .sl 6 none none), (1000008, .ptr 7 0)])
     (fun _ => [(0, some (.blk [.nils, .nils, .nils])), (1, some (.blk [.sl 2 none none, .sl 3 none none])), (4, some (.blk [.sl 5 none (some (0, last))])), (5, some (.flat true 1 (ints c))), (6, some (.flat true 4 (stps st))), (7, some (.blk [.s (.i .i64 (stepF N out).1), .s (.i .i64 (stepF N out).2.1), .s (.i .i64 (stepF N out).2.2.1), .s (.b (stepF N out).2.2.2)])), (2, some (.nest true 1 (rowsI (if (stepF N out).2.2.2 then joinF (joinF ((rowAt N out).foldl (cutF out) N) (stepF N out).2.1 (stepF N out).2.2.1) (stepF N out).2.2.1 (stepF N out).2.1 else (rowAt N out).foldl (cutF out) N)) [] [])), (3, some (.flat true 1 (bools G))), (8, some (.blk [.sl 2 none none, .sl 3 none none])), (9, some (.blk [.s (.i .i64 (stepF N out).1), .s (.i .i64 (stepF N out).2.1), .s (.i .i64 (stepF N out).2.2.1), .s (.b (stepF N out).2.2.2)]))]) 10 ?_ ?_
    rotate_left
    ·rintro ⟨⟩ -;have hl2 : (rowsI (if (stepF N out).2.2.2 then joinF (joinF ((rowAt N out).foldl (cutF out) N) (stepF N out).2.1 (stepF N out).2.2.1) (stepF N out).2.2.1 (stepF N out).2.1 else (rowAt N out).foldl (cutF out) N)).length = N.length := by
      rw [qrq];split
      ·rw [joinF_length, joinF_length, cuts_length]
      ·rw [cuts_length]
     have hdo : (rowsI (if (stepF N out).2.2.2 then joinF (joinF ((rowAt N out).foldl (cutF out) N) (stepF N out).2.1 (stepF N out).2.2.1) (stepF N out).2.2.1 (stepF N out).2.1 else (rowAt N out).foldl (cutF out) N)).set (out).toNat [] = rowsI (doN N (stepF N out)) := by
      unfold doN;rw [rowsI_set]; rfl
     have hdg : (bools G).set (out).toNat [.b true] = bools (doG G (stepF N out)) := by
      unfold doG bools;rw [List.map_set]; rfl
     generalize rowsI (if (stepF N out).2.2.2 then joinF (joinF ((rowAt N out).foldl (cutF out) N) (stepF N out).2.1 (stepF N out).2.2.1) (stepF N out).2.2.1 (stepF N out).2.1 else (rowAt N out).foldl (cutF out) N) = RR at hl2 hdo ⊢
     refine Idx.by (out).toNat (by show (out : Int) = _; omega) (by omega) ?_;refine Pick.T (by rw [hl2]; simp; omega) ?_;refine Idx.by (out).toNat (by show (out : Int) = _; omega) (by rw [bools_length, hW.len]; omega) ?_;refine Look.by _ (bools_get (goneAt_get hW.len hlo hhi)) ?_;refine Seg.by (by kernel_rfl) ?_;have hW2 := do_wf hW hmp;have hNl2 : (doN N (stepF N out)).length = n.toNat := by rw [doN_length]; exact hNl
     have hGN2 : (doG G (stepF N out)).length = (doN N (stepF N out)).length := hW2.len;have hlv := live_step hW hmp;have hst4 : st.length + 1 <= n.toNat := by omega
     have hrun2 := run_step hrun hW hmy hst4 (fun v hv => heap_least hHc hH hout hperm hm hv);have hmay2 : ∀ v, mayB (doN N (stepF N out)) (doG G (stepF N out)) v = true -> v ∈ c.take last \/ v = (stepF N out).2.1 \/ v = (stepF N out).2.2.1 := fun v hv => may_step hW hmp hs2 hv fun h2 hne => (hq1 v (hm v h2)).elim (fun e => absurd e hne) id
     generalize hN2 : doN N (stepF N out) = N2 at *
     generalize hG2 : doG G (stepF N out) = G2 at *
     generalize hsG : stepF N out = s at *
     refine Pick.T (by simp [cut, stps_length]; omega) ?_;refine LoopP.intro (α := Nat × Option (Nat × Nat) × List Int) (fun a => a.1 <= 2 /\ (a.2.1 = none \/ ∃ L, a.2.1 = some (0, L) /\ L <= a.2.2.length) /\ a.2.2.length <= 4000 /\ (cut a.2.1 a.2.2).length <= last + a.1 /\ Heap (cut a.2.1 a.2.2) /\ (∀ v ∈ cut a.2.1 a.2.2, 0 <= v /\ v < n) /\ ∀ v : Int, mayB N2 G2 v = true -> v ∈ cut a.2.1 a.2.2 \/ (a.1 <= 0 /\ v = s.2.1) \/ (a.1 <= 1 /\ v = s.2.2.1)) (fun a => 2 - a.1) (fun a => [(2, .ptr 0 0), (3, .ptr 1 0), (4, .ptr 4 0), (6, .sl 6 none none), (51, .sl 7 none none), (52, .s (.i .i64 2)), (53, .s (.i .i64 a.1))])
      (fun a => [(0, some (.blk [.nils, .nils, .nils])), (1, some (.blk [.sl 2 none none, .sl 3 none none])), (2, some (.nest true 1 (rowsI N2) [] [])), (3, some (.flat true 1 (bools G2))), (4, some (.blk [.sl 5 none a.2.1])), (5, some (.flat true 1 (ints a.2.2))), (6, some (.flat true 4 (stps (st ++ [s])))), (7, some (.flat true 1 (ints [s.2.1, s.2.2.1])))]) 8 (0, some (0, last), c)
      ⟨by dsimp only; omega, .inr ⟨last, rfl, hlc⟩, by dsimp only; omega, by dsimp only; rw [hqc]; omega, hHc, hqr, fun v hv => (hmay2 v hv).elim .inl fun h => h.elim (fun h => .inr (.inl ⟨by dsimp only; omega, h⟩)) fun h => .inr (.inr ⟨by dsimp only; omega, h⟩)⟩ (by refine Weak.bw (sg 0 [_,_,_,_,_,_,_,_]) (by ((repeat' first|exact rfl|exact trivial|apply And.intro) <;> (repeat' first|exact rfl|exact trivial|apply And.intro)); all_goals ((first | (exact stps_snoc st s) | (exact hdo.symm) | (exact hdg.symm))))) ?_
     rintro ⟨i, sub2, m2⟩ ⟨hi2, hsub2, hm24, hcl2, hH2, hr2, hmv2⟩;dsimp only at hi2 hsub2 hm24 hcl2 hH2 hr2 hmv2 ⊢;refine Pick.by (fun hc5 => ?_) (fun hc5 => ?_)
     ·have hi3 : i < 2 := by simp at hc5; omega
      obtain ⟨x, hx⟩ : ∃ x, [s.2.1, s.2.2.1][i]? = some x := ⟨_, qEq (show i < [s.2.1, s.2.2.1].length from hi3)⟩;have hxi : (i = 0 /\ x = s.2.1) \/ (i = 1 /\ x = s.2.2.1) := by
       have : i = 0 \/ i = 1 := by omega
       rcases this with e | e
       ·subst e; simp at hx; exact .inl ⟨rfl, hx.symm⟩
       ·subst e; simp at hx; exact .inr ⟨rfl, hx.symm⟩
      refine Idx.by i rfl (by rw [qiq]; exact hi3) ?_;refine Look.by _ (qhq hx) ?_;refine Call.by _ _ (MayC_at x hGN2) ?_;refine JoinP.intro (α := Option (Nat × Nat) × List Int) (fun b => (b.1 = none \/ ∃ L, b.1 = some (0, L) /\ L <= b.2.length) /\ b.2.length <= 4000 /\ (cut b.1 b.2).length <= last + i + 1 /\ Heap (cut b.1 b.2) /\ (∀ v ∈ cut b.1 b.2, 0 <= v /\ v < n) /\ ∀ v : Int, mayB N2 G2 v = true -> v ∈ cut b.1 b.2 \/ (i + 1 <= 0 /\ v = s.2.1) \/ (i + 1 <= 1 /\ v = s.2.2.1)) (fun b => [(2, .ptr 0 0), (3, .ptr 1 0), (4, .ptr 4 0), (6, .sl 6 none none), (51, .sl 7 none none), (52, .s (.i .i64 2)), (53, .s (.i .i64 i))])
       (fun b => [(0, some (.blk [.nils, .nils, .nils])), (1, some (.blk [.sl 2 none none, .sl 3 none none])), (2, some (.nest true 1 (rowsI N2) [] [])), (3, some (.flat true 1 (bools G2))), (4, some (.blk [.sl 5 none b.1])), (5, some (.flat true 1 (ints b.2))), (6, some (.flat true 4 (stps (st ++ [s])))), (7, some (.flat true 1 (ints [s.2.1, s.2.2.1])))]) 8 ?_ ?_
      rotate_left
      ·rintro ⟨sub3, m3⟩ hJ;refine Pick.n ?_;exact Next.by (i + 1, sub3, m3) ⟨by dsimp only; omega, hJ⟩ (by dsimp only; omega) (by refine Weak.ba (sg 0 [_,_,_,_,_,_,_,_]))
      refine Pick.by (fun hc6 => ?_) (fun hc6 => ?_)
      ·have hc6 : mayB N2 G2 x = true := hc6;have hxr2 : 0 <= x /\ x < n := may_range hNl2 hc6;have hH := hH2;refine Pick.T (by simp [cut, qiq]; omega) ?_;have hraw : cut sub2 (ints m2) = ints (cut sub2 m2) := cut_ints;have hlen0 : (cut sub2 (ints m2) ++ [[Sc.i .i64 x]]) = ints ((cut sub2 m2) ++ [x]) := by rw [hraw, ints_snoc]
       refine Pick.T (by show inI64 ((((cut sub2 (ints m2) ++ [[Sc.i .i64 x]]).length : Nat) : Int) - 1) = true; rw [hlen0, qiq]; simp; exact inI64_of (by omega) (by omega)) ?_;have hlen1 : (((cut sub2 m2).length : Nat) : Int) = (((cut sub2 (ints m2) ++ [[Sc.i .i64 x]]).length : Nat) : Int) - 1 := by rw [hlen0, qiq]; simp
       refine JoinP.intro (α := List Int) (fun a => Heap a /\ a.length = (cut sub2 m2).length + 1 /\ ∀ v, v ∈ a ↔ v ∈ (cut sub2 m2) \/ v = x) (fun a => [(0, .ptr 4 0), (4, .sl 8 none none), (1000002, .ptr 0 0), (1000003, .ptr 1 0), (1000004, .ptr 4 0), (1000006, .sl 6 none none), (1000051, .sl 7 none none), (1000052, .s (.i .i64 2)), (1000053, .s (.i .i64 i))])
        (fun a => [(0, some (.blk [.nils, .nils, .nils])), (1, some (.blk [.sl 2 none none, .sl 3 none none])), (2, some (.nest true 1 (rowsI N2) [] [])), (3, some (.flat true 1 (bools G2))), (4, some (.blk [.sl 5 none sub2])), (6, some (.flat true 4 (stps (st ++ [s])))), (7, some (.flat true 1 (ints [s.2.1, s.2.2.1]))), (8, some (.flat true 1 (ints a)))]) 9 ?_ ?_
       rotate_left
       ·rintro m ⟨hHm, hml2, hmem⟩;exact ⟨(none, m), ⟨.inl rfl, by dsimp only; omega, by show m.length <= _; omega, hHm, fun v hv => ((hmem v).1 hv).elim (hr2 v) fun e => by rw [e]; exact hxr2, fun v hv => put_may hxi (hmem v).2 (hmv2 v hv)⟩, by refine Weak.ba (sg 0 [_,_,_,_,_,_,_,_])⟩
       refine LoopP.intro (α := Nat × List Int) (fun a => a.2.Perm ((cut sub2 m2) ++ [x]) /\ HUp a.2 a.1 /\ a.1 < a.2.length) (fun a => a.1) (fun a => [(0, .ptr 4 0), (4, .sl 8 none none), (5, .s (.i .i64 a.1)), (1000002, .ptr 0 0), (1000003, .ptr 1 0), (1000004, .ptr 4 0), (1000006, .sl 6 none none), (1000051, .sl 7 none none), (1000052, .s (.i .i64 2)), (1000053, .s (.i .i64 i))])
        (fun a => [(0, some (.blk [.nils, .nils, .nils])), (1, some (.blk [.sl 2 none none, .sl 3 none none])), (2, some (.nest true 1 (rowsI N2) [] [])), (3, some (.flat true 1 (bools G2))), (4, some (.blk [.sl 5 none sub2])), (6, some (.flat true 4 (stps (st ++ [s])))), (7, some (.flat true 1 (ints [s.2.1, s.2.2.1]))), (8, some (.flat true 1 (ints a.2)))]) 9 ((cut sub2 m2).length, (cut sub2 m2) ++ [x]) ⟨List.Perm.refl _, up_start hH _, by simp⟩ (by refine Weak.bw (sg 0 [_,_,_,_,_,_,_,_,_]) (by ((repeat' first|exact rfl|exact trivial|apply And.intro) <;> (repeat' first|exact rfl|exact trivial|apply And.intro)); all_goals ((first | (exact hlen0.symm) | (exact sc_eq hlen1))))) ?_
       rintro ⟨p, m⟩ ⟨hperm, hup, hpm⟩;dsimp only at hperm hup hpm ⊢;have hml : m.length = (cut sub2 m2).length + 1 := by rw [hperm.length_eq]; simp
       have hpq : 0 < p -> ((p : Int) - 1).tdiv 2 = (((p - 1) / 2 : Nat) : Int) := fun h => by rw [show (p : Int) - 1 = ((p - 1 : Nat) : Int) by omega]; rfl
       have hput : Heap m -> Heap m /\ m.length = (cut sub2 m2).length + 1 /\ ∀ v, v ∈ m ↔ v ∈ (cut sub2 m2) \/ v = x := fun h => ⟨h, hml, fun v => by rw [hperm.mem_iff]; simp⟩
       refine Pick.by (fun hc1 => ?_) (fun hc1 => ?_)
       ·have hp0 : 0 < p := by simp at hc1; omega
        have hq := hpq hp0;have hql : (p - 1) / 2 < m.length := by omega
        obtain ⟨y, hy⟩ : ∃ y, m[p]? = some y := ⟨_, qEq hpm⟩;obtain ⟨z, hz⟩ : ∃ z, m[(p - 1) / 2]? = some z := ⟨_, qEq hql⟩;refine Idx.by p rfl (by rw [qiq]; exact hpm) ?_;refine Look.by _ (qhq hy) ?_;refine Pick.n ?_;refine Pick.n ?_;refine Idx.by ((p - 1) / 2) hq (by rw [qiq]; exact hql) ?_;refine Look.by _ (qhq hz) ?_;refine Seg.by (by kernel_rfl) ?_;refine Pick.by (fun hc2 => ?_) (fun hc2 => ?_)
        ·have hlt : y < z := by simpa using hc2
         have hsw : ints ((m.set p z).set ((p - 1) / 2) y) = ((ints m).set p [.i .i64 z]).set ((p - 1) / 2) [.i .i64 y] := by rw [ints_set, ints_set]
         refine Pick.n ?_;refine Pick.n ?_;refine Pick.n ?_;refine Pick.n ?_;refine Idx.by ((p - 1) / 2) hq (by rw [qiq]; exact hql) ?_;refine Look.by _ (qhq hz) ?_;refine Idx.by p rfl (by rw [qiq]; exact hpm) ?_;refine Look.by _ (qhq hy) ?_;refine Idx.by p rfl (by rw [qiq]; exact hpm) ?_;refine Look.by _ (qhq hy) ?_;refine Idx.by ((p - 1) / 2) hq (by rw [List.length_set, qiq]; exact hql) ?_;refine Look.by _ (by rw [qNq (by omega)]; exact qhq hz) ?_;refine Seg.by (by kernel_rfl) ?_;refine Pick.n ?_;refine Pick.n ?_;refine Next.by ((p - 1) / 2, (m.set p z).set ((p - 1) / 2) y) ⟨(swap_perm hy hz (by omega)).trans hperm, up_step hup hp0 hz hy hlt, by rw [List.length_set, List.length_set]; exact hql⟩ (by dsimp only; omega) (by refine Weak.bw (sg 0 [_,_,_,_,_,_,_,_,_]) (by ((repeat' first|exact rfl|exact trivial|apply And.intro) <;> (repeat' first|exact rfl|exact trivial|apply And.intro)); all_goals ((first | (exact hsw) | (exact sc_eq hq.symm)))))
        ·have hHm := hput (up_done hup (.inr fun x' y' hx' hy' => by
          rw [hz] at hx'; rw [hy] at hy'
          injection hx' with hx'; injection hy' with hy'
          have : ¬ y < z := by simpa using hc2
          omega))
         exact ⟨m, hHm, by refine Weak.ba (sg 0 [_,_,_,_,_,_,_,_,_])⟩
       ·have hp0 : p = 0 := by simp at hc1; omega
        refine Seg.by (by kernel_rfl) ?_;exact ⟨m, hput (up_done hup (.inl hp0)), by refine Weak.ba (sg 0 [_,_,_,_,_,_,_,_,_])⟩
      ·have hc6 : mayB N2 G2 x = false := hc6;exact ⟨(sub2, m2), ⟨hsub2, hm24, by dsimp only; omega, hH2, hr2, fun v hv => skip_may hxi (fun e => by rw [e, hc6] at hv; cases hv) (hmv2 v hv)⟩, by refine Weak.ba (sg 0 [_,_,_,_,_,_,_,_])⟩
     ·have hi3 : i = 2 := by simp at hc5; omega
      refine Next.by (st ++ [s], N2, G2, sub2, m2) ⟨hW2, hNl2, hrun2, by simp; omega, hsub2, hm24, by simp; omega, hH2, hr2, fun v hv => ?_⟩ (by simp; omega) (by refine Weak.ba (sg 0 [_,_,_,_,_,_,_]));rcases hmv2 v hv with h | ⟨h1, _⟩ | ⟨h1, _⟩
      ·exact h
      ·omega
      ·omega
    refine Pick.by (fun had => ?_) (fun had => ?_)
    ·have had : (stepF N out).2.2.2 = true := had;rw [if_pos had];rcases hs2 with ⟨_, _, _, e⟩ | ⟨_, _, _, _, e⟩ | ⟨a, b, hlv, hab, ea, eb, ec⟩
     ·rw [had] at e; cases e
     ·rw [had] at e; cases e
     have har := hrv.2 a (by rw [hlv]; simp);have hbr := hrv.2 b (by rw [hlv]; simp);have hra : (rowsI ((rowAt N out).foldl (cutF out) N))[a.toNat]? = some (ints ((rowAt N a).erase out)) := by
      have h1 := qgq (rowAt_mem (N := (rowAt N out).foldl (cutF out) N) har.1 (by rw [cuts_length]; exact har.2)).2;rw [hN1 a har.1] at h1;exact h1
     have hrb : (rowsI ((rowAt N out).foldl (cutF out) N))[b.toNat]? = some (ints ((rowAt N b).erase out)) := by
      have h1 := qgq (rowAt_mem (N := (rowAt N out).foldl (cutF out) N) hbr.1 (by rw [cuts_length]; exact hbr.2)).2;rw [hN1 b hbr.1] at h1;exact h1
     have hok : ∀ u, ((rowAt N u).erase out).Pairwise (· <= ·) /\ ((rowAt N u).erase out).length <= 1000000 := fun u => by
      have h1 := hW.rows u;have h2 := hW.row_len u;have h3 := List.length_erase_le (l := rowAt N u) (a := out);exact ⟨(erase_sorted h1.1).imp fun h => by omega, by omega⟩
     rw [ea, eb];have hj : rowsI (joinF (joinF ((rowAt N out).foldl (cutF out) N) a b) b a) = ((rowsI ((rowAt N out).foldl (cutF out) N)).set a.toNat (ints (insAt ((rowAt N a).erase out) b))).set b.toNat (ints (insAt ((rowAt N b).erase out) a)) := by
      have e1 : rowAt (joinF ((rowAt N out).foldl (cutF out) N) a b) b = (rowAt N b).erase out := by
       unfold joinF;rw [rowAt_set har.1 (by rw [cuts_length]; exact har.2) hbr.1, if_neg (by omega), hN1 b hbr.1]
      show rowsI ((joinF ((rowAt N out).foldl (cutF out) N) a b).set b.toNat (insAt (rowAt (joinF ((rowAt N out).foldl (cutF out) N) a b) b) a)) = _
      rw [e1, rowsI_set];unfold joinF;rw [rowsI_set, hN1 a har.1]
     have hma : (rowsI ((rowAt N out).foldl (cutF out) N)).set a.toNat (ints (insAt ((rowAt N a).erase out) b)) ≠ [] \/ True := .inr trivial;have hl3 : ((rowsI ((rowAt N out).foldl (cutF out) N)).set a.toNat (ints (insAt ((rowAt N a).erase out) b))).length = N.length := by rw [List.length_set, hl1]
     have hrb2 : ((rowsI ((rowAt N out).foldl (cutF out) N)).set a.toNat (ints (insAt ((rowAt N a).erase out) b)))[b.toNat]? = some (ints ((rowAt N b).erase out)) := by rw [qNq (by omega)]; exact hrb
     refine Idx.by a.toNat (by omega) (by omega) ?_;refine Pick.T (by rw [hl1]; simp; omega) ?_;refine Look.by _ hra ?_;refine Call.by _ _ (turnC_at (hok a)) ?_;refine Idx.by a.toNat (by omega) (by omega) ?_;refine Pick.T (by rw [hl1]; simp; omega) ?_;refine Pick.T (by simp) ?_;refine Seg.by (by kernel_rfl) ?_;refine Idx.by b.toNat (by omega) (by omega) ?_;refine Pick.T (by rw [hl3]; simp; omega) ?_;refine Look.by _ hrb2 ?_;refine Call.by _ _ (turnC_at (hok b)) ?_;refine Idx.by b.toNat (by omega) (by omega) ?_;refine Pick.T (by rw [hl3]; simp; omega) ?_;refine Pick.T (by simp) ?_;refine Seg.by (by kernel_rfl) ?_;exact ⟨(), trivial, by refine Weak.bw (sg 0 [_,_,_,_,_,_,_,_,_,_]) (by ((repeat' first|exact rfl|exact trivial|apply And.intro) <;> (repeat' first|exact rfl|exact trivial|apply And.intro)); all_goals ((exact hj)))⟩
    ·have had : (stepF N out).2.2.2 = false := had;rw [if_neg (by rw [had]; simp)];exact ⟨(), trivial, by refine Weak.ba (sg 0 [_,_,_,_,_,_,_,_,_,_])⟩
   refine LoopP.intro (α := Nat × List Int) (fun a => Sift l out last a.2 a.1 /\ a.1 <= last /\ a.2.length = m.length) (fun a => last + 1 - a.1) (fun a => [(0, .ptr 4 0), (3, .sl 5 none (some (0, last))), (4, .s (.i .i64 out)), (5, .s (.i .i64 last)), (6, .s (.i .i64 a.1)), (1000002, .ptr 0 0), (1000003, .ptr 1 0), (1000004, .ptr 4 0), (1000006, .sl 6 none none)])
    (fun a => [(0, some (.blk [.nils, .nils, .nils])), (1, some (.blk [.sl 2 none none, .sl 3 none none])), (2, some (.nest true 1 (rowsI N) [] [])), (3, some (.flat true 1 (bools G))), (4, some (.blk [.sl 5 none sub])), (5, some (.flat true 1 (ints a.2))), (6, some (.flat true 4 (stps st)))]) 7 (0, m.set 0 top) ⟨hsift, by dsimp only; omega, by rw [List.length_set]⟩ (by refine Weak.bw (sg 0 [_,_,_,_,_,_,_]) (by ((repeat' first|exact rfl|exact trivial|apply And.intro) <;> (repeat' first|exact rfl|exact trivial|apply And.intro)); all_goals ((first | (rw [ints_set]; rfl) | (exact sc_eq hlast.symm))))) ?_
   rintro ⟨i, c⟩ ⟨hsf, hil, hcm⟩;dsimp only at hsf hil hcm ⊢;refine Pick.n ?_;refine Pick.n ?_;refine Pick.by (fun hc1 => ?_) (fun hc1 => ?_)
   ·have hch : 2 * i + 1 < last := by simp at hc1; omega
    obtain ⟨x, hx⟩ : ∃ x, c[i]? = some x := ⟨_, qEq (by have := hsf.len; omega)⟩;obtain ⟨y1, hy1⟩ : ∃ y, c[2 * i + 1]? = some y := ⟨_, qEq (by have := hsf.len; omega)⟩;refine Pick.n ?_;refine Pick.n ?_;refine Pick.n ?_;have hk1 : (2 * (i : Int) + 1) = ((2 * i + 1 : Nat) : Int) := by omega
    have hk2 : (2 * (i : Int) + 1 + 1) = ((2 * i + 2 : Nat) : Int) := by omega
    have hjoin : ∀ k, (k = 2 * i + 1 \/ k = 2 * i + 2) -> k < last -> (∀ y, c[k]? = some y -> ∀ t z, 0 < t -> (t - 1) / 2 = i -> t < last -> c[t]? = some z -> y <= z) -> (k = 2 * i + 1 \/ k = 2 * i + 2) /\ k < last /\ ∀ y, c[k]? = some y -> ∀ t z, 0 < t -> (t - 1) / 2 = i -> t < last -> c[t]? = some z -> y <= z := fun k a b d => ⟨a, b, d⟩
    refine Pick.by (fun hc2 => ?_) (fun hc2 => ?_)
    ·have hch2 : 2 * i + 2 < last := by simp at hc2; omega
     obtain ⟨y2, hy2⟩ : ∃ y, c[2 * i + 2]? = some y := ⟨_, qEq (by have := hsf.len; omega)⟩;refine Pick.n ?_;refine Idx.by (2 * i + 2) (by omega) (by omega) ?_;refine Look.by _ (by rw [Nat.zero_add]; exact qhq hy2) ?_;refine Idx.by (2 * i + 1) (by omega) (by omega) ?_;refine Look.by _ (by rw [Nat.zero_add]; exact qhq hy1) ?_;refine Seg.by (by kernel_rfl) ?_;refine JoinP.intro (α := Nat) (fun k => (k = 2 * i + 1 \/ k = 2 * i + 2) /\ k < last /\ ∀ y, c[k]? = some y -> ∀ t z, 0 < t -> (t - 1) / 2 = i -> t < last -> c[t]? = some z -> y <= z) (fun k => [(0, .ptr 4 0), (3, .sl 5 none (some (0, last))), (4, .s (.i .i64 out)), (5, .s (.i .i64 last)), (6, .s (.i .i64 i)), (7, .s (.i .i64 k)), (1000002, .ptr 0 0), (1000003, .ptr 1 0), (1000004, .ptr 4 0), (1000006, .sl 6 none none)])
      (fun k => [(0, some (.blk [.nils, .nils, .nils])), (1, some (.blk [.sl 2 none none, .sl 3 none none])), (2, some (.nest true 1 (rowsI N) [] [])), (3, some (.flat true 1 (bools G))), (4, some (.blk [.sl 5 none sub])), (5, some (.flat true 1 (ints c))), (6, some (.flat true 4 (stps st)))]) 7 ?_ ?_
     rotate_left
     ·rintro k ⟨hkk, hkl, hM⟩;obtain ⟨y, hy⟩ : ∃ y, c[k]? = some y := ⟨_, qEq (by have := hsf.len; omega)⟩;have hmin := hM y hy;refine Idx.by i rfl (by omega) ?_;refine Look.by _ (by rw [Nat.zero_add]; exact qhq hx) ?_;refine Idx.by k rfl (by omega) ?_;refine Look.by _ (by rw [Nat.zero_add]; exact qhq hy) ?_;refine Seg.by (by kernel_rfl) ?_;refine Pick.by (fun hc4 => ?_) (fun hc4 => ?_)
      ·have hle : x <= y := by simpa using hc4
       refine ⟨c, ⟨hcm, hsf.len, hsf.perm, sift_done hsf fun t u v ht htp hu hv => ?_⟩, by refine Weak.ba (sg 0 [_,_,_,_,_,_,_])⟩;have htk : t < last := by
        have := (qSq.1 hv).1;rw [List.length_take] at this;omega
       rw [tk_get (by omega), hx] at hu;injection hu with hu
       have := hmin t v ht htp htk (by rw [<- tk_get htk]; exact hv);omega
      ·have hlt : y < x := by simpa using hc4
       refine Idx.by k rfl (by omega) ?_;refine Look.by _ (by rw [Nat.zero_add]; exact qhq hy) ?_;refine Idx.by i rfl (by omega) ?_;refine Look.by _ (by rw [Nat.zero_add]; exact qhq hx) ?_;refine Idx.by i rfl (by omega) ?_;refine Look.by _ (by rw [Nat.zero_add]; exact qhq hx) ?_;refine Idx.by k rfl (by omega) ?_;refine Look.by _ (by rw [Nat.zero_add, Nat.zero_add, qNq (by omega)]; exact qhq hy) ?_;refine Seg.by (by kernel_rfl) ?_;refine Next.by (k, (c.set i y).set k x) ⟨sift_step hsf (by omega) (by omega) hkl hx hy hlt hmin, by dsimp only; omega, by rw [List.length_set, List.length_set]; exact hcm⟩ (by dsimp only; omega) (by refine Weak.bw (sg 0 [_,_,_,_,_,_,_]) (by ((repeat' first|exact rfl|exact trivial|apply And.intro) <;> (repeat' first|exact rfl|exact trivial|apply And.intro)); all_goals ((rw [Nat.zero_add, Nat.zero_add, ints_set, ints_set]; rfl))))
     refine Pick.by (fun hc3 => ?_) (fun hc3 => ?_)
     ·have hlt2 : y2 < y1 := by simpa using hc3
      refine Pick.n ?_;refine ⟨2 * i + 2, hjoin _ (.inr rfl) hch2 fun y hy t z ht htp htl hz => ?_, by refine Weak.bw (sg 0 [_,_,_,_,_,_,_]) (by ((repeat' first|exact rfl|exact trivial|apply And.intro) <;> (repeat' first|exact rfl|exact trivial|apply And.intro)); all_goals ((exact sc_eq hk2.symm)))⟩;have : t = 2 * i + 1 \/ t = 2 * i + 2 := by omega
      rcases this with rfl | rfl
      ·rw [hy2] at hy; rw [hy1] at hz; injection hy with hy; injection hz with hz; omega
      ·rw [hy] at hz; injection hz with hz; omega
     ·have hlt2 : ¬ y2 < y1 := by simpa using hc3
      refine ⟨2 * i + 1, hjoin _ (.inl rfl) hch fun y hy t z ht htp htl hz => ?_, by refine Weak.bw (sg 0 [_,_,_,_,_,_,_]) (by ((repeat' first|exact rfl|exact trivial|apply And.intro) <;> (repeat' first|exact rfl|exact trivial|apply And.intro)); all_goals ((exact sc_eq hk1.symm)))⟩;have : t = 2 * i + 1 \/ t = 2 * i + 2 := by omega
      rcases this with rfl | rfl
      ·rw [hy] at hz; injection hz with hz; omega
      ·rw [hy1] at hy; rw [hy2] at hz; injection hy with hy; injection hz with hz; omega
    ·have hch2 : ¬ 2 * i + 2 < last := by simp at hc2; omega
     refine Seg.by (by kernel_rfl) ?_;refine JoinP.intro (α := Nat) (fun k => (k = 2 * i + 1 \/ k = 2 * i + 2) /\ k < last /\ ∀ y, c[k]? = some y -> ∀ t z, 0 < t -> (t - 1) / 2 = i -> t < last -> c[t]? = some z -> y <= z) (fun k => [(0, .ptr 4 0), (3, .sl 5 none (some (0, last))), (4, .s (.i .i64 out)), (5, .s (.i .i64 last)), (6, .s (.i .i64 i)), (7, .s (.i .i64 k)), (1000002, .ptr 0 0), (1000003, .ptr 1 0), (1000004, .ptr 4 0), (1000006, .sl 6 none none)])
      (fun k => [(0, some (.blk [.nils, .nils, .nils])), (1, some (.blk [.sl 2 none none, .sl 3 none none])), (2, some (.nest true 1 (rowsI N) [] [])), (3, some (.flat true 1 (bools G))), (4, some (.blk [.sl 5 none sub])), (5, some (.flat true 1 (ints c))), (6, some (.flat true 4 (stps st)))]) 7 ?_ ?_
     rotate_left
     ·rintro k ⟨hkk, hkl, hM⟩;obtain ⟨y, hy⟩ : ∃ y, c[k]? = some y := ⟨_, qEq (by have := hsf.len; omega)⟩;have hmin := hM y hy;refine Idx.by i rfl (by omega) ?_;refine Look.by _ (by rw [Nat.zero_add]; exact qhq hx) ?_;refine Idx.by k rfl (by omega) ?_;refine Look.by _ (by rw [Nat.zero_add]; exact qhq hy) ?_;refine Seg.by (by kernel_rfl) ?_;refine Pick.by (fun hc4 => ?_) (fun hc4 => ?_)
      ·have hle : x <= y := by simpa using hc4
       refine ⟨c, ⟨hcm, hsf.len, hsf.perm, sift_done hsf fun t u v ht htp hu hv => ?_⟩, by refine Weak.ba (sg 0 [_,_,_,_,_,_,_])⟩;have htk : t < last := by
        have := (qSq.1 hv).1;rw [List.length_take] at this;omega
       rw [tk_get (by omega), hx] at hu;injection hu with hu
       have := hmin t v ht htp htk (by rw [<- tk_get htk]; exact hv);omega
      ·have hlt : y < x := by simpa using hc4
       refine Idx.by k rfl (by omega) ?_;refine Look.by _ (by rw [Nat.zero_add]; exact qhq hy) ?_;refine Idx.by i rfl (by omega) ?_;refine Look.by _ (by rw [Nat.zero_add]; exact qhq hx) ?_;refine Idx.by i rfl (by omega) ?_;refine Look.by _ (by rw [Nat.zero_add]; exact qhq hx) ?_;refine Idx.by k rfl (by omega) ?_;refine Look.by _ (by rw [Nat.zero_add, Nat.zero_add, qNq (by omega)]; exact qhq hy) ?_;refine Seg.by (by kernel_rfl) ?_;refine Next.by (k, (c.set i y).set k x) ⟨sift_step hsf (by omega) (by omega) hkl hx hy hlt hmin, by dsimp only; omega, by rw [List.length_set, List.length_set]; exact hcm⟩ (by dsimp only; omega) (by refine Weak.bw (sg 0 [_,_,_,_,_,_,_]) (by ((repeat' first|exact rfl|exact trivial|apply And.intro) <;> (repeat' first|exact rfl|exact trivial|apply And.intro)); all_goals ((rw [Nat.zero_add, Nat.zero_add, ints_set, ints_set]; rfl))))
     refine ⟨2 * i + 1, hjoin _ (.inl rfl) hch fun y hy t z ht htp htl hz => ?_, by refine Weak.bw (sg 0 [_,_,_,_,_,_,_]) (by ((repeat' first|exact rfl|exact trivial|apply And.intro) <;> (repeat' first|exact rfl|exact trivial|apply And.intro)); all_goals ((exact sc_eq hk1.symm)))⟩;have : t = 2 * i + 1 := by omega
     rw [this, hy] at hz; injection hz with hz; omega
   ·have hch : ¬ 2 * i + 1 < last := by simp at hc1; omega
    refine ⟨c, ⟨hcm, hsf.len, hsf.perm, sift_done hsf fun t u v ht htp hu hv => ?_⟩, by refine Weak.ba (sg 0 [_,_,_,_,_,_,_])⟩;have := (qSq.1 hv).1;rw [List.length_take] at this;omega
end Go.Sh
namespace Go.Sh
open Go.Proofs Go.RowKit
attribute [local go_sem] Oper.semAt_some
open Classical in
noncomputable def narrowB (n : Int) (E : List Ed) : Bool := decide (RightP n E) && decide ((runO n E).2.1 = [])
noncomputable def NarrowC : Con := conP 2 (fun _ : Int × List Ed => True) (fun a => [grV a.1 a.2]) (fun a => .one (.s (.b (narrowB a.1 a.2))))
theorem NarrowC_at (n : Int) (E : List Ed) : NarrowC.F [grV n E] = some (.one (.s (.b (narrowB n E))), []) :=
 conP_at (a := (n, E)) (fun x y _ _ h => by
  obtain ⟨n, E⟩ := x;obtain ⟨n', E'⟩ := y;simp at h;obtain ⟨rfl, rfl⟩ := grV_inj h
  rfl) trivial
theorem Narrow_ok : SoundC Tryz.prog T 28 NarrowC := by
 refine sound_con (X := { Γ := [(49, RightC), (74, RunC)], T := T, nt := 12 }) cr_none hmix hT (sound_cons RightG_ok (sound_cons Run_ok sound_nil)) Tryz.func28 (by rfl) (by rfl) (by rfl) (by rfl) 2 ?_
 rintro ⟨n, E⟩ -
 refine two_le ?_
 refine Call.by _ _ (RightC_at n E) ?_
 refine Pick.by (fun h1 => ?_) (fun h1 => ?_)
 ·have h1 : RightP n E := by have h1 : decide (RightP n E) = true := h1; simpa using h1
  refine Call.by _ _ (RunC_at n E) ?_;refine ⟨rfl, ?_⟩;show Sc.b ((((ints (runO n E).2.1).length : Nat) : Int) == 0) = Sc.b (narrowB n E)
  unfold narrowB;rw [decide_eq_true h1, Bool.true_and, qiq]
  congr 1
  rw [Bool.eq_iff_iff];simp
 ·have h1 : ¬ RightP n E := by have h1 : decide (RightP n E) = false := h1; simpa using h1
  refine ⟨rfl, ?_⟩;show Sc.b false = Sc.b (narrowB n E)
  unfold narrowB;rw [decide_eq_false h1, Bool.false_and]
end Go.Sh
namespace Go.Sh
theorem mem_range_cast {p : Nat -> Bool} {n : Nat} {x : Int} : x ∈ ((List.range n).filter p).map (fun (x : Nat) => (x : Int)) ↔ ∃ k : Nat, k < n /\ p k = true /\ x = k := by
 rw [List.mem_map]
 constructor
 ·rintro ⟨k, hk, rfl⟩;rw [List.mem_filter, List.mem_range] at hk;exact ⟨k, hk.1, hk.2, rfl⟩
 ·rintro ⟨k, h1, h2, rfl⟩;exact ⟨k, by rw [List.mem_filter, List.mem_range]; exact ⟨h1, h2⟩, rfl⟩
section
variable {n : Nat} {N : List (List Int)} {G I : List Bool} {M : List (List Bool)}
end
end Go.Sh
namespace Go.Sh
open Go.Proofs
section
variable {n : Nat} {N : List (List Int)} {G I : List Bool} {M : List (List Bool)}
end
end Go.Sh
namespace Go.Sh
open Go.Proofs
theorem firstMay_may {N : List (List Int)} {G : List Bool} {v : Nat} (h : firstMay N G = some v) : mayB N G v = true := by
 have := List.find?_some h
 simpa using this
theorem runS_wf : ∀ (f : Nat) {N : List (List Int)} {G : List Bool}, Wf N G -> Wf (runS f N G).2.1 (runS f N G).2.2 /\ (runS f N G).2.1.length = N.length /\ (runS f N G).1.length <= f := by
 intro f
 induction f with
 | zero => intro N G h; exact ⟨h, rfl, by simp [runS]⟩
 | succ f ih =>
  intro N G h
  cases hf : firstMay N G with
  | none => rw [runS_end hf]; exact ⟨h, rfl, by simp⟩
  | some v =>
   rw [runS_go hf];obtain ⟨h1, h2, h3⟩ := ih (do_wf h (mayB_iff.1 (firstMay_may hf)));exact ⟨h1, by rw [h2, doN_length], by simp; omega⟩
end Go.Sh
namespace Go.Sh
theorem mem_leftF {G : List Bool} {v : Int} : v ∈ leftF G ↔ 0 <= v /\ v < G.length /\ goneAt G v = false := by
 unfold leftF
 rw [mem_range_cast]
 constructor
 ·rintro ⟨k, h1, h2, rfl⟩;refine ⟨by omega, by omega, ?_⟩;rw [goneAt_nat];simpa using h2
 ·rintro ⟨h1, h2, h3⟩;refine ⟨v.toNat, by omega, ?_, by omega⟩;unfold goneAt at h3;rw [h3]; rfl
def live (G : List Bool) : Nat := G.countP (!·)
theorem first_no {N : List (List Int)} {G : List Bool} (h : firstMay N G = none) (u : Int) : mayB N G u = false := by
 cases hu : mayB N G u with
 | false => rfl
 | true =>
  have hm := mayB_iff.1 hu;unfold firstMay at h;rw [List.find?_eq_none] at h;have h0 := hm.lo;have h1 := hm.hi;have := h u.toNat (by rw [List.mem_range]; omega);rw [Int.toNat_of_nonneg h0] at this;exact absurd hu this
theorem live_pos {N : List (List Int)} {G : List Bool} (hW : Wf N G) {v : Int} (hm : mayB N G v = true) : 1 <= live G := by
 have := live_step hW (mayB_iff.1 hm)
 unfold live; omega
theorem run_end {N : List (List Int)} {G : List Bool} : ∀ {f : Nat}, Wf N G -> live G <= f -> ∀ u, mayB (runS f N G).2.1 (runS f N G).2.2 u = false := by
 intro f
 induction f generalizing N G with
 | zero =>
  intro h hf u
  cases hu : mayB N G u with
  | false => exact hu
  | true => have := live_pos h hu; omega
 | succ f ih =>
  intro h hf u
  cases hm : firstMay N G with
  | none => rw [runS_end hm]; exact first_no hm u
  | some v =>
   rw [runS_go hm];have hv := mayB_iff.1 (firstMay_may hm);have := live_step h hv;exact ih (do_wf h hv) (by unfold live at hf ⊢; omega) u
theorem run_count {f : Nat} : ∀ {N : List (List Int)} {G : List Bool}, Wf N G -> (runS f N G).1.length + live (runS f N G).2.2 = live G := by
 induction f with
 | zero => intro N G _; simp [runS]
 | succ f ih =>
  intro N G h
  cases hm : firstMay N G with
  | none => rw [runS_end hm]; simp
  | some v =>
   rw [runS_go hm];have hv := mayB_iff.1 (firstMay_may hm);have h1 := live_step h hv;have h2 := ih (do_wf h hv);unfold live at *;simp only [List.length_cons];omega
theorem live_zero (n : Nat) : live (List.replicate n false) = n := by unfold live; simp [List.countP_replicate]
end Go.Sh
namespace Go.Sh
open Go.Proofs
end Go.Sh
namespace Go.Proofs
open Go.RowKit Go.Shelf
attribute [local go_sem] Oper.semAt_some
def Tryz.upto {α : Type} (f : Nat -> α) (k : Nat) : List α := (List.range k).map f
theorem Tryz.upto_succ {α : Type} (f : Nat -> α) (k : Nat) : Tryz.upto f (k + 1) = Tryz.upto f k ++ [f k] := by simp [Tryz.upto, List.range_succ]
theorem Tryz.upto_length {α : Type} (f : Nat -> α) (k : Nat) : (Tryz.upto f k).length = k := by simp [Tryz.upto]
theorem Tryz.upto_all (zs : List Int) : Tryz.upto (fun j => zs[j]?.getD 0) zs.length = zs := by
 apply List.ext_getElem
 ·simp [Tryz.upto]
 ·intro i h1 h2;simp [Tryz.upto, h2]
theorem Tryz.upto_take (zs : List Int) {k : Nat} (hk : k <= zs.length) : Tryz.upto (fun j => zs[j]?.getD 0) k = zs.take k := by
 apply List.ext_getElem
 ·simp [Tryz.upto, hk]
 ·intro i h1 h2;have : i < zs.length := by simp [Tryz.upto] at h1; omega
  simp [Tryz.upto, this]
set_option maxRecDepth 100000 in
set_option maxHeartbeats 2000000 in
theorem Tryz.values1_in (F : Fence) (n : Nat) (h7 : F.fn 79) (hro : F.round = none) (hn : 1 <= n) (l Bs n₀ len cap : Nat) (a : Addr) (zs : List Int) (hreach : len * 8 <= 140737488351232) (hb : a.block < n₀) (J Jx : List Int -> World -> Prop)
  (hY : ∀ pre x W, J pre W -> pre.length < len -> YieldAt F (n - 1) Tryz.prog l #[.int .i64 x] W fun e W' =>
   (e = .returned (.bool true) /\ J (pre ++ [x]) W' /\ Below n₀ W W') \/ (e = .returned (.bool false) /\ Jx (pre ++ [x]) W'))
  (W : World) (hBs : W.cell? ⟨Bs, 0, none⟩ = some (.slice (some a) len cap)) (hc : ∀ j, j < len -> W.cell? (a.add j) = some (.int .i64 (zs[j]?.getD 0))) (h0 : J [] W) :
  CallsIn F n Tryz.prog 79 #[.func (.yield l) #[] #[], .pointer (some ⟨Bs, 0, none⟩)] W fun e W' => (∃ v, e = .returned v) /\
   ((∃ ys, ys = Tryz.upto (fun j => zs[j]?.getD 0) len /\ J ys W') \/ (∃ pre, (∃ k, k <= len /\ pre = Tryz.upto (fun j => zs[j]?.getD 0) k) /\ Jx pre W')) := by
 refine callsIn_of_wp Tryz.func79 rfl h7 ?_ hro
 simp only [Tryz.ntmps79, List.size_toArray, List.length_cons, List.length_nil, Nat.reduceAdd, Nat.reduceSub, Array.replicate_succ, Array.replicate_zero, List.push_toArray, List.append_toArray, List.nil_append, List.cons_append]
 gi_wp2
 gi_loopw [7] (fun i wr => ∃ k : Nat, k <= len /\ i = .int .i64 k /\ J (Tryz.upto (fun j => zs[j]?.getD 0) k) wr /\ Below n₀ W wr)
  (fun i _ => len - (intOf i).toNat)
 case atStart => exact ⟨0, Nat.zero_le _, rfl, h0, Below.refl _ _⟩
 case round =>
  obtain ⟨k, hk, rfl, hJs, hnx⟩ := hrel;have hcx : k < len -> wr.cell? (a.add k) = some (.int .i64 (zs[k]?.getD 0)) := fun h => (hnx.cell (p := a.add k) (by unfold Addr.add; split <;> exact hb)).trans (hc k h)
  by_cases hlt : k < len
  ·obtain ⟨fn, tmps, assign, body, hy, hR⟩ := hY _ (zs[k]?.getD 0) wr hJs (by rw [Tryz.upto_length]; exact hlt);have hcx' := hcx hlt
   gi_wp2
   refine hR.mono ?_;rintro e W3 (⟨rfl, hJ3, hk3⟩ | ⟨rfl, hJx3⟩)
   ·gi_wp2
    go_roundw
    case rel => exact ⟨k + 1, by omega, by simp, by rw [Tryz.upto_succ]; exact hJ3, hnx.trans hk3⟩
    case measure => simp [intOf]; omega
   ·gi_wp2
    refine bodyPost_ret (results_none rfl _ _ _) rfl ?_;exact ⟨⟨_, rfl⟩, .inr ⟨_, ⟨k + 1, by omega, (Tryz.upto_succ _ _).symm⟩, hJx3⟩⟩
  ·obtain rfl : k = len := by omega
   gi_wp2
   go_end0
   exact ⟨⟨_, rfl⟩, .inl ⟨_, rfl, hJs⟩⟩
set_option maxRecDepth 100000 in
set_option maxHeartbeats 1000000 in
theorem Tryz.values1_nil_in (F : Fence) (n : Nat) (h7 : F.fn 79) (hro : F.round = none) (l Bs : Nat) (a : Option Addr) (cap : Nat) (J : List Int -> World -> Prop) (W : World) (hBs : W.cell? ⟨Bs, 0, none⟩ = some (.slice a 0 cap)) (h0 : J [] W) :
  CallsIn F n Tryz.prog 79 #[.func (.yield l) #[] #[], .pointer (some ⟨Bs, 0, none⟩)] W fun e W' => (∃ v, e = .returned v) /\ J [] W' := by
 refine callsIn_of_wp Tryz.func79 rfl h7 ?_ hro
 simp only [Tryz.ntmps79, List.size_toArray, List.length_cons, List.length_nil, Nat.reduceAdd, Nat.reduceSub, Array.replicate_succ, Array.replicate_zero, List.push_toArray, List.append_toArray, List.nil_append, List.cons_append]
 gi_wp2
 gi_loopw [7] (fun i wr => i = .int .i64 0 /\ J [] wr) (fun _ _ => 0)
 case atStart => exact ⟨rfl, h0⟩
 case round =>
  obtain ⟨rfl, hJs⟩ := hrel
  gi_wp2
  go_end0
  exact ⟨⟨_, rfl⟩, hJs⟩
def Tryz.Ints (n₀ : Nat) (W : World) (sv : Value) (zs : List Int) : Prop :=
 (zs = [] /\ ∃ a cap, sv = .slice a 0 cap) \/ ∃ a cap, sv = .slice (some a) zs.length cap /\ a.block < n₀ /\ ∀ j, j < zs.length -> W.cell? (a.add j) = some (.int .i64 (zs[j]?.getD 0))
theorem Tryz.add_block (a : Addr) (j : Nat) : (a.add j).block = a.block := by unfold Addr.add; split <;> rfl
theorem Tryz.Ints.below {n₀ : Nat} {A B : World} (h : Below n₀ A B) {sv : Value} {zs : List Int} : Tryz.Ints n₀ A sv zs -> Tryz.Ints n₀ B sv zs
 | .inl e => .inl e
 | .inr ⟨a, cap, e, hb, hc⟩ => .inr ⟨a, cap, e, hb, fun j hj => (h.cell (p := a.add j) (by rw [Tryz.add_block]; exact hb)).trans (hc j hj)⟩
theorem Tryz.values_stops (F : Fence) (n : Nat) (h7 : F.fn 79) (hro : F.round = none) (hn : 1 <= n) (Bs n₀ : Nat) (sv : Value) (zs : List Int) (hreach : zs.length * 8 <= 140737488351232) (w : World) (hBs : Bs < w.heap.size) (hn₀ : n₀ <= w.heap.size)
  (hc : w.cell? ⟨Bs, 0, none⟩ = some sv) (hI : Tryz.Ints n₀ w sv zs) :
  SeqStopsK F n Tryz.prog 79 #[.pointer (some ⟨Bs, 0, none⟩)] (fun x : Int => #[Value.int .i64 x]) (Below n₀) (fun ys => ys = zs) (fun pre => pre <+: zs) zs.length w := fun l J Jx W hW _ _ hY h0 => by
 have hc' := (hW.cell (p := ⟨Bs, 0, none⟩) hBs).trans hc
 rcases hI.below (hW.mono hn₀) with ⟨rfl, a, cap, rfl⟩ | ⟨a, cap, rfl, hb, hcs⟩
 ·exact (Tryz.values1_nil_in F n h7 hro l Bs a cap J W hc' h0).mono fun e W' ⟨he, hj⟩ => ⟨he, .inl ⟨_, rfl, hj⟩⟩
 ·refine (Tryz.values1_in F n h7 hro hn l Bs n₀ zs.length cap a zs hreach hb J Jx hY W hc' hcs h0).mono ?_;rintro e W' ⟨he, ⟨ys, rfl, hj⟩ | ⟨pre, ⟨k, hk, rfl⟩, hj⟩⟩
  ·exact ⟨he, .inl ⟨_, Tryz.upto_all zs, hj⟩⟩
  ·exact ⟨he, .inr ⟨_, by rw [Tryz.upto_take zs hk]; exact List.take_prefix _ _, hj⟩⟩
end Go.Proofs
namespace Go.Proofs
open Go.RowKit Go.Shelf
attribute [local go_sem] Oper.semAt_some
theorem Tryz.info3 : (Tryz.prog.info? 3).map (fun i => (i.zero, i.size, i.bytes)) = some (some (.int .i64 0), 1, 8) := by kernel_rfl
set_option maxRecDepth 100000 in
set_option maxHeartbeats 2000000 in
theorem Tryz.appendSeq_in (F : Fence) (n : Nat) (h116 : F.fn 107) (h103 : F.fn 79) (hro : F.round = none) (hn : 3 <= n) (Bs n₀ : Nat) (sv : Value) (zs : List Int) (hlen : zs.length <= maxLen) (hreach : zs.length * 8 <= 140737488351232) (w : World) (hBs : Bs < w.heap.size) (hn₀ : n₀ <= w.heap.size)
  (hc : w.cell? ⟨Bs, 0, none⟩ = some sv) (hI : Tryz.Ints n₀ w sv zs) :
  CallsIn F n Tryz.prog 107 #[.slice none 0 0, .func (.func 79) #[] #[.pointer (some ⟨Bs, 0, none⟩)]] w fun e W' => ∃ v, e = .returned v /\ W'.ownsRow w.heap.size 3 1 v zs.length (zs.map (Value.int .i64)) /\ (v = .slice none 0 0 ↔ zs = []) /\ Below w.heap.size w W' := by
 have h1 : 1 <= n := by omega
 obtain ⟨i0, hi, hz0, hz1, hz2⟩ := info_parts Tryz.info3
 refine callsIn_of_wp_marks Tryz.func107 rfl h116 ?_ hro
 simp only [Tryz.ntmps107, List.size_toArray, List.length_cons, List.length_nil, Nat.reduceAdd, Nat.reduceSub, Array.replicate_succ, Array.replicate_zero, List.push_toArray, List.append_toArray, List.nil_append, List.cons_append]
 gi_wp2
 have bO := Boxed.new w 25 (.slice none 0 0)
 have hB0 : Below w.heap.size w (w.alloc (.cells #[.slice none 0 0] 25)) := ((Below.refl _ w).alloc (Nat.le_refl _) _)
 refine wpIn_rangeFunc_ownG hro h1 (gf := 79) (lb := #[.pointer (some ⟨Bs, 0, none⟩)]) rfl h103 (enters_of Tryz.func79 (by kernel_rfl) rfl)
  (Tryz.values_stops F (n - 1) h103 hro (by omega) Bs w.heap.size _ zs hreach _ (by simp; omega) (by simp) ((hB0.cell (p := ⟨Bs, 0, none⟩) hBs).trans hc) (by
   rcases hI.below (hB0.mono hn₀) with h | ⟨a, cap, e, hb, hcs⟩
   ·exact .inl h
   ·exact .inr ⟨a, cap, e, by omega, hcs⟩)) belowK_t (belowK_b (by simp)) (Below.refl _ _) (fun _ => rfl)
  (fun pre W => (∃ v, Boxed W w.heap.size 25 v /\ W.ownsRow w.heap.size 3 1 v pre.length (pre.map (Value.int .i64)) /\ (v = .slice none 0 0 ↔ pre = [])) /\ Below w.heap.size w W)
  (fun _ _ _ => False)
  (OwnFrom.and (Own.from (holdsRow_own w.heap.size w.heap.size 25 3 1 (fun pre : List Int => pre.length) (fun pre => pre.map (Value.int .i64)) (fun pre v => v = .slice none 0 0 ↔ pre = [])) _) (ownFrom_below (Nat.le_refl _) (by simp)))
  (fun _ _ _ _ _ hs _ _ => hs)
  ⟨⟨_, bO, World.ownsRow_nil _ _ _ _, by simp⟩, hB0⟩
  (fun x => { tmps := #[.slice none 0 0, .func (.func 79) #[] #[.pointer (some ⟨Bs, 0, none⟩)], .pointer (some ⟨w.heap.size, 0, none⟩), undef, .slice none 0 0, .int .i64 x, .func (.func 79) #[] #[.pointer (some ⟨Bs, 0, none⟩)], .int .i64 x, undef, undef, undef, undef, undef], defers := [] }) ?assign ?body ?done ?stop
 case assign =>
  intro l x W K hK
  gi_wp2
  exact hK
 case body =>
  rintro l pre x W ⟨⟨v, hv, hrow, hnil⟩, hB⟩ hlt;have hc := hv.cell
  gi_wp2_with (gi_at_builtin; refine wpListIn_append_own _ rfl _ _ 25 rfl w.heap.size 3 i0 (.int .i64 0) 1 8 Tryz.underlying25 hi hz0 hz1 hz2 rfl (by decide) _ _ _ rfl (hrow.alloc _) ⟨W.heap.size, 0, none⟩ 1 1 [.int .i64 x] rfl rfl (cell_one_new _ _ _) (by simp [Value.oneCell']) (by omega) (by omega) (by have := hB.size; simp; omega) ?_; intro v' w1 hown' hgrow _; obtain ⟨g', cap', rfl⟩ := ownsRow_succ hown'; obtain ⟨hv1, hv2, hr2, hk2, hb2⟩ := hv.appended (by decide) hrow hB.size (Nat.le_refl _) hown' hgrow; have hc1 := hv1.cell; have hf1 := hv1.frozen)
  exact ⟨hk2.from _, hb2, ⟨_, hv2, by simpa using hr2, by simp⟩, hB.trans hb2⟩
 case done =>
  rintro D ys W hD rfl ⟨⟨v, hv, hrow, hnil⟩, hB⟩ hK;have hc := hv.cell
  gi_wp2
  refine ⟨by simp, .inl ⟨_, _, rfl, run_takeDeferred hK, ?_⟩⟩;exact ⟨_, results_tmp rfl _ _ _, v, rfl, ownsRow_putObj hrow _ hK rfl, hnil, hB.trans (belowK_b (w := w) (Nat.le_refl _) W D _ _ (by simp at hD; omega) hK rfl rfl)⟩
 case stop =>
  rintro D c pre W _ _ h _;exact h.elim
end Go.Proofs
namespace Go.Proofs
open Go.RowKit Go.Shelf Go.Maps Go.Sort
attribute [local go_sem] Oper.semAt_some
set_option maxRecDepth 100000 in
set_option maxHeartbeats 2000000 in
theorem Tryz.collect_in (F : Fence) (n : Nat) (h102 : F.fn 78) (h116 : F.fn 107) (h103 : F.fn 79) (hro : F.round = none) (hn : 4 <= n) (Bs n₀ : Nat) (sv : Value) (zs : List Int) (hlen : zs.length <= maxLen) (hreach : zs.length * 8 <= 140737488351232) (w : World) (hBs : Bs < w.heap.size) (hn₀ : n₀ <= w.heap.size)
  (hc : w.cell? ⟨Bs, 0, none⟩ = some sv) (hI : Tryz.Ints n₀ w sv zs) :
  CallsIn F n Tryz.prog 78 #[.func (.func 79) #[] #[.pointer (some ⟨Bs, 0, none⟩)]] w fun e W' => ∃ v, e = .returned v /\ W'.ownsRow w.heap.size 3 1 v zs.length (zs.map (Value.int .i64)) /\ (v = .slice none 0 0 ↔ zs = []) /\ Below w.heap.size w W' := by
 have h1 : 1 <= n := by omega
 refine callsIn_of_wp Tryz.func78 rfl h102 ?_ hro
 simp only [Tryz.ntmps78, List.size_toArray, List.length_cons, List.length_nil, Nat.reduceAdd, Nat.reduceSub, Array.replicate_succ, Array.replicate_zero, List.push_toArray, List.append_toArray, List.nil_append, List.cons_append]
 gi_wp2_with (gi_at_call 107; refine (Tryz.appendSeq_in F (n - 1) h116 h103 hro (by omega) Bs n₀ sv zs hlen hreach w hBs hn₀ hc hI).mono ?_; rintro e w' ⟨v, rfl, hrow, hnil, hB⟩)
 go_ret
 exact ⟨v, rfl, hrow, hnil, hB⟩
def Tryz.SortsIn (F : Fence) (m : Nat) : Prop :=
 (∀ (blk off cap : Nat) (ss : List Int) (W : World), Holds (Value.int .i64) W blk off ss.toArray -> blk < W.heap.size -> ss.length < 4611686018427387904 ->
  CallsIn F m Tryz.prog 63 #[.slice (some ⟨blk, off, none⟩) ss.length cap] W fun e w' => e = .returned (.tuple #[]) /\ ∃ k os, w' = grow (putRow (Value.int .i64) (Sort.ahead W k) blk off (ss.mergeSort fun x y => decide (x <= y)).toArray) os) /\
 (∀ (p : Option Addr) (cap : Nat) (W : World), CallsIn F m Tryz.prog 63 #[.slice p 0 cap] W fun e w' => e = .returned (.tuple #[]) /\ w' = W)
theorem Tryz.sortsIn (m : Nat) : Tryz.SortsIn Fence.wide m :=
 ⟨fun blk off cap ss W h1 h2 h3 => callsIn_wide.2 (Any.slices_Sort_int Tryz.laysSort blk off cap ss W h1 h2 h3), fun p cap W => callsIn_wide.2 (Any.slices_Sort_int_none Tryz.laysSort p cap W)⟩
set_option maxRecDepth 100000 in
set_option maxHeartbeats 2000000 in
theorem Tryz.sorted_in (F : Fence) (n : Nat) (h92 : F.fn 35) (h84 : F.fn 63) (h102 : F.fn 78) (h116 : F.fn 107) (h103 : F.fn 79) (hro : F.round = none) (hn : 5 <= n) (hsort : Tryz.SortsIn F (n - 1)) (Bs n₀ : Nat) (sv : Value) (zs : List Int) (hlen : zs.length <= maxLen) (hreach : zs.length * 8 <= 140737488351232) (w : World) (hBs : Bs < w.heap.size) (hn₀ : n₀ <= w.heap.size)
  (hc : w.cell? ⟨Bs, 0, none⟩ = some sv) (hI : Tryz.Ints n₀ w sv zs) :
  CallsIn F n Tryz.prog 35 #[.func (.func 79) #[] #[.pointer (some ⟨Bs, 0, none⟩)]] w fun e W' => ∃ v, e = .returned v /\ W'.ownsRow w.heap.size 3 1 v zs.length ((zs.mergeSort (fun x y => decide (x <= y))).map (Value.int .i64)) /\ (v = .slice none 0 0 ↔ zs = []) /\ Below w.heap.size w W' := by
 have h1 : 1 <= n := by omega
 refine callsIn_of_wp Tryz.func35 rfl h92 ?_ hro
 simp only [Tryz.ntmps35, List.size_toArray, List.length_cons, List.length_nil, Nat.reduceAdd, Nat.reduceSub, Array.replicate_succ, Array.replicate_zero, List.push_toArray, List.append_toArray, List.nil_append, List.cons_append]
 gi_wp2_with (gi_at_call 78; refine (Tryz.collect_in F (n - 1) h102 h116 h103 hro (by omega) Bs n₀ sv zs hlen hreach w hBs hn₀ hc hI).mono ?_; rintro e W ⟨v, rfl, hrow, hnil, hb⟩)
 rcases hrow.2 with ⟨rfl, hz⟩ | ⟨gb, cap, cur, rfl, hbase, hgb, r1, r2, r3, r4⟩
 ·have hss : zs = [] := List.eq_nil_of_length_eq_zero hz;subst hss
  gi_wp2_with (gi_at_call 63; refine (hsort.2 none 0 W).mono ?_; rintro e w' ⟨rfl, rfl⟩)
  go_ret
  exact ⟨.slice none 0 0, rfl, by simpa using hrow, by simp, hb⟩
 ·have hH : Holds (Value.int .i64) W gb 0 zs.toArray := holds_of_block_i hgb (by simpa using r4);have hgl : gb < W.heap.size := (Array.getElem?_eq_some_iff.1 hgb).1;have hsz : zs.length < 4611686018427387904 := by omega
  have cS := hsort.1 gb 0 cap zs W hH hgl hsz
  gi_wp2_with (gi_at_call 63; refine cS.mono ?_; rintro e w' ⟨rfl, nn, os, rfl⟩)
  go_ret
  exact ⟨_, rfl, ownsRow_sorted_i (by simp) hbase hgb r1 r2 r3, hnil, hb.grown (grownBy_sorted_i _) hb.size (fun j hj => by cases hj; exact hbase)⟩
end Go.Proofs
namespace Go.Proofs
open Go.RowKit Go.Shelf Go.Maps Go.Sort
def Tryz.sortL (zs : List Int) : List Int := zs.mergeSort (fun x y => decide (x <= y))
open Go.Sh in
theorem Tryz.ints_of {w : World} {l : List Int} {A : Option Addr} {c : Nat} (h : FlatOk w noLab none A c 1 (ints l)) : Tryz.Ints w.heap.size w (.slice A l.length c) l := by
 cases l with
 | nil => exact .inl ⟨rfl, A, c, rfl⟩
 | cons x l =>
  obtain ⟨a, rfl, _, h0⟩ := h.cell 0 [.i .i64 x] 0 (.i .i64 x) rfl rfl;refine .inr ⟨a, c, rfl, ?_, fun j hj => ?_⟩
  ·have h0 : w.cell? (a.add (0 * 1 + 0)) = some (Sc.val (.i .i64 x)) := h0;have e : (a.add (0 * 1 + 0)).block = a.block := Tryz.add_block a _;rw [<- e];generalize a.add (0 * 1 + 0) = p at h0
   simp only [World.cell?] at h0;by_cases hp : p.block < w.heap.size
   ·exact hp
   ·rw [Array.getElem?_eq_none (by omega)] at h0;simp at h0
  ·have hg := List.getElem?_eq_getElem hj;obtain ⟨b, hb, _, hc⟩ := h.cell j [.i .i64 (x :: l)[j]] 0 (.i .i64 (x :: l)[j]) (qhq hg) rfl;injection hb with hb
   subst hb;rw [Nat.mul_one, Nat.add_zero] at hc;rw [hc, hg]; rfl
end Go.Proofs
namespace Go.Sh
open Go.Proofs
theorem ints_append (l m : List Int) : ints (l ++ m) = ints l ++ ints m := by simp [ints]
end Go.Sh
namespace Go.Sh
theorem nodup_lenG {α : Type} [DecidableEq α] {l : List α} : ∀ {m : List α}, l.Nodup -> (∀ x ∈ l, x ∈ m) -> l.length <= m.length := by
 induction l with
 | nil => intro m _ _; simp
 | cons x l ih =>
  intro m h s;rw [List.nodup_cons] at h;have hx := s x (by simp);have := ih (m := m.erase x) h.2 fun y hy => (List.mem_erase_of_ne (fun (e : y = x) => h.1 (by rw [<- e]; exact hy))).2 (s y (by simp [hy]))
  rw [List.length_erase_of_mem hx] at this;have := List.length_pos_of_mem hx;simp; omega
end Go.Sh
namespace Go.Sh
theorem MdL.mono {vs : List Nat} {A A' : Nat -> Nat -> Prop} {c : Nat -> Nat} (h : MdL vs A c) (hs : ∀ x y, x ∈ vs -> y ∈ vs -> A x y -> A' x y) : MdL vs A' c :=
 ⟨h.some, fun i hi P hP hcl => h.conn i hi P hP fun x y hx hy ex ey k => hcl x y hx hy ex ey (hs x y hx hy k), fun i j hij hj => by
  obtain ⟨x, y, hx, hy, k, e⟩ := h.meet i j hij hj;exact ⟨x, y, hx, hy, hs x y hx hy k, e⟩⟩
theorem MdL.off {vs vs' : List Nat} {A A' : Nat -> Nat -> Prop} {c : Nat -> Nat} {v : Nat} (h : MdL vs A c) (hc : 4 <= c v) (hv : ∀ x, x ≠ v -> (x ∈ vs ↔ x ∈ vs')) (hs : ∀ x y, x ≠ v -> y ≠ v -> A x y -> A' x y) : MdL vs' A' c := by
 have ne : ∀ x i, i < 4 -> c x = i -> x ≠ v := fun x i hi e k => by rw [k] at e; omega
 refine ⟨fun i hi => ?_, fun i hi P hP hcl x hx ex => ?_, fun i j hij hj => ?_⟩
 ·obtain ⟨x, hx, e⟩ := h.some i hi;exact ⟨x, (hv x (ne x i hi e)).1 hx, e⟩
 ·obtain ⟨y, hy, ey, hPy⟩ := hP;exact h.conn i hi P ⟨y, (hv y (ne y i hi ey)).2 hy, ey, hPy⟩ (fun a b ha hb ea eb k => hcl a b ((hv a (ne a i hi ea)).1 ha) ((hv b (ne b i hi eb)).1 hb) ea eb (hs a b (ne a i hi ea) (ne b i hi eb) k)) x ((hv x (ne x i hi ex)).2 hx) ex
 ·obtain ⟨x, y, hx, hy, k, ex, ey⟩ := h.meet i j hij hj;have nx := ne x i (by omega) ex;have ny := ne y j hj ey;exact ⟨x, y, (hv x nx).1 hx, (hv y ny).1 hy, hs x y nx ny k, ex, ey⟩
open Classical in
theorem MdL.down {vs vs' : List Nat} {A : Nat -> Nat -> Prop} (hA : Sm A) {v w : Nat} (hv : v ∈ vs) (hw : w ∈ vs) (hvw : A v w) (hvs : ∀ x, x ∈ vs' ↔ x ∈ vs /\ x ≠ v) {c : Nat -> Nat} (h : MdL vs A c) (hc : c v = c w) : MdL vs' (ctr A v w) c := by
 have hne : w ≠ v := (hA.ne hvw).symm
 have hw' := (hvs w).2 ⟨hw, hne⟩
 refine ⟨fun i hi => ?_, fun i hi P hP hcl x hx ex => ?_, fun i j hij hj => ?_⟩
 ·obtain ⟨x, hx, e⟩ := h.some i hi;by_cases k : x = v
  ·subst k; exact ⟨w, hw', by rw [<- hc]; exact e⟩
  ·exact ⟨x, (hvs x).2 ⟨hx, k⟩, e⟩
 ·obtain ⟨hx0, hxv⟩ := (hvs x).1 hx;obtain ⟨y, hy, ey, hPy⟩ := hP;obtain ⟨hy0, hyv⟩ := (hvs y).1 hy;have := h.conn i hi (fun z => if z = v then P w else P z) ⟨y, hy0, ey, by rw [if_neg hyv]; exact hPy⟩ (fun a b ha hb ea eb k hPa => by
   try dsimp only at hPa ⊢
   by_cases e1 : a = v
   ·subst e1;rw [if_pos rfl] at hPa;have nb : b ≠ a := (hA.ne k).symm;rw [if_neg nb];by_cases e2 : b = w
    ·rw [e2]; exact hPa
    ·exact hcl w b hw' ((hvs b).2 ⟨hb, nb⟩) (by rw [<- hc]; exact ea) eb (.inr (.inl ⟨rfl, k, e2⟩)) hPa
   ·rw [if_neg e1] at hPa;have ha' := (hvs a).2 ⟨ha, e1⟩;by_cases e2 : b = v
    ·subst e2;rw [if_pos rfl];by_cases e3 : a = w
     ·rw [<- e3]; exact hPa
     ·exact hcl a w ha' hw' ea (by rw [<- hc]; exact eb) (.inr (.inr ⟨rfl, hA.sym _ _ k, e3⟩)) hPa
    ·rw [if_neg e2];exact hcl a b ha' ((hvs b).2 ⟨hb, e2⟩) ea eb (.inl k) hPa) x hx0 ex
  try dsimp only at this
  rw [if_neg hxv] at this;exact this
 ·obtain ⟨x, y, hx, hy, k, ex, ey⟩ := h.meet i j hij hj;by_cases e1 : x = v
  ·subst e1;have ny : y ≠ x := (hA.ne k).symm;have nw : y ≠ w := fun e => by rw [e] at ey; omega
   exact ⟨w, y, hw', (hvs y).2 ⟨hy, ny⟩, .inr (.inl ⟨rfl, k, nw⟩), by rw [<- hc]; exact ex, ey⟩
  ·by_cases e2 : y = v
   ·subst e2;have nw : x ≠ w := fun e => by rw [e] at ex; omega
    exact ⟨x, w, (hvs x).2 ⟨hx, e1⟩, hw', .inr (.inr ⟨rfl, hA.sym _ _ k, nw⟩), ex, by rw [<- hc]; exact ey⟩
   ·exact ⟨x, y, (hvs x).2 ⟨hx, e1⟩, (hvs y).2 ⟨hy, e2⟩, .inl k, ex, ey⟩
structure Red (A A' : Nat -> Nat -> Prop) (v a b : Nat) (Q : Prop) : Prop where
 nb : ∀ y, A v y -> y = a \/ y = b
 iff : ∀ x y, A' x y ↔ x ≠ v /\ y ≠ v /\ (A x y \/ (Q /\ ((x = a /\ y = b) \/ (x = b /\ y = a))))
 q1 : Q -> A v a /\ A v b /\ a ≠ b
 q2 : A v a -> A v b -> a ≠ b -> A a b \/ Q
theorem Red.swap {A A' : Nat -> Nat -> Prop} (hA : Sm A) {v a b : Nat} {Q : Prop} (h : Red A A' v a b Q) : Red A A' v b a Q :=
 ⟨fun y k => (h.nb y k).symm, fun x y => (h.iff x y).trans ⟨fun ⟨k1, k2, k3⟩ => ⟨k1, k2, k3.imp id fun ⟨q, k⟩ => ⟨q, k.symm⟩⟩, fun ⟨k1, k2, k3⟩ => ⟨k1, k2, k3.imp id fun ⟨q, k⟩ => ⟨q, k.symm⟩⟩⟩, fun q => ⟨(h.q1 q).2.1, (h.q1 q).1, (h.q1 q).2.2.symm⟩, fun k1 k2 k3 => (h.q2 k2 k1 k3.symm).imp (hA.sym _ _) id⟩
section
variable {vs : List Nat} {A A' : Nat -> Nat -> Prop} {v a b : Nat} {Q : Prop}
theorem erase_mem (hn : vs.Nodup) (v : Nat) : ∀ x, x ∈ vs.erase v ↔ x ∈ vs /\ x ≠ v := fun x => by rw [hn.mem_erase_iff]; exact And.comm
theorem Red.back (hA : Sm A) (hn : vs.Nodup) (hv : v ∈ vs) (ha : a ∈ vs) (h : Red A A' v a b Q) {c : Nat -> Nat} (hc : MdL vs A' c) : ∃ c, MdL vs A c := by
 have iso : 4 <= c v := by
  rcases Nat.lt_or_ge (c v) 4 with hlt | hge
  ·exfalso
   have only : ∀ x, x ∈ vs -> c x = c v -> x = v := hc.conn (c v) hlt (fun x => x = v) ⟨v, hv, rfl, rfl⟩ fun x y _ _ _ _ k e => absurd e ((h.iff x y).1 k).1
   have two : ∀ i j, i < j -> j < 4 -> i ≠ c v /\ j ≠ c v := fun i j hij hj => by
    obtain ⟨x, y, hx, hy, k, ex, ey⟩ := hc.meet i j hij hj;obtain ⟨n1, n2, _⟩ := (h.iff x y).1 k;exact ⟨fun e => n1 (only x hx (ex.trans e)), fun e => n2 (only y hy (ey.trans e))⟩
   have t1 := two 0 1 (by omega) (by omega);have t2 := two 2 3 (by omega) (by omega);omega
  ·exact hge
 by_cases hQ : Q
 ·obtain ⟨k1, k2, k3⟩ := h.q1 hQ;have h1 : MdL (vs.erase v) (ctr A v a) c := hc.off iso (fun x hx => by rw [erase_mem hn]; exact ⟨fun k => ⟨k, hx⟩, fun k => k.1⟩) fun x y _ _ k => by
   obtain ⟨_, _, k | ⟨_, ⟨e1, e2⟩ | ⟨e1, e2⟩⟩⟩ := (h.iff x y).1 k
   ·exact .inl k
   ·exact .inr (.inl ⟨e1, by rw [e2]; exact k2, by rw [e2]; exact k3.symm⟩)
   ·exact .inr (.inr ⟨e2, by rw [e1]; exact k2, by rw [e1]; exact k3.symm⟩)
  exact ⟨_, h1.lift hA hv ha k1 (erase_mem hn v)⟩
 ·exact ⟨c, hc.mono fun x y _ _ k => by
   obtain ⟨_, _, k | ⟨q, _⟩⟩ := (h.iff x y).1 k
   ·exact k
   ·exact absurd q hQ⟩
theorem Red.go (hA : Sm A) (hn : vs.Nodup) (hv : v ∈ vs) (hin : ∀ x y, A x y -> x ∈ vs) (h : Red A A' v a b Q) {c : Nat -> Nat} (hc : MdL vs A c) : ∃ c, MdL vs A' c := by
 rcases Nat.lt_or_ge (c v) 4 with hlt | hge
 ·have main : ∀ {a b : Nat}, Red A A' v a b Q -> A v a -> c v = c a -> ∃ c, MdL vs A' c := by
   intro a b h kva hca;have h1 := hc.down hA hv (hin _ _ (hA.sym _ _ kva)) kva (erase_mem hn v) hca;have h2 : MdL (vs.erase v) A' c := h1.mono fun x y hx hy k => by
    obtain ⟨_, nx⟩ := (erase_mem hn v x).1 hx;obtain ⟨_, ny⟩ := (erase_mem hn v y).1 hy;rcases k with k | ⟨e1, k, n⟩ | ⟨e1, k, n⟩
    ·exact (h.iff x y).2 ⟨nx, ny, .inl k⟩
    ·subst e1;rcases h.nb y k with e | e
     ·exact absurd e n
     ·subst e;refine (h.iff x y).2 ⟨nx, ny, ?_⟩;rcases h.q2 kva k n.symm with k2 | q
      ·exact .inl k2
      ·exact .inr ⟨q, .inl ⟨rfl, rfl⟩⟩
    ·subst e1;rcases h.nb x k with e | e
     ·exact absurd e n
     ·subst e;refine (h.iff x y).2 ⟨nx, ny, ?_⟩;rcases h.q2 kva k n.symm with k2 | q
      ·exact .inl (hA.sym _ _ k2)
      ·exact .inr ⟨q, .inr ⟨rfl, rfl⟩⟩
   exact ⟨_, h2.induced fun x hx => ((erase_mem hn v x).1 hx).1⟩
  by_cases hex : ∃ w, A v w /\ c v = c w
  ·obtain ⟨w, kw, ew⟩ := hex;rcases h.nb w kw with e | e
   ·subst e; exact main h kw ew
   ·subst e; exact main (h.swap hA) kw ew
  ·exfalso
   have only : ∀ x, x ∈ vs -> c x = c v -> x = v := hc.conn (c v) hlt (fun x => x = v) ⟨v, hv, rfl, rfl⟩ fun x y _ _ _ ey k e => by
    subst e; exact absurd ⟨y, k, ey.symm⟩ hex
   have nbr : ∀ j, j < 4 -> j ≠ c v -> ∃ y, A v y /\ c y = j := fun j hj hne => by
    rcases Nat.lt_or_gt_of_ne hne with hlt2 | hgt
    ·obtain ⟨x, y, hx, hy, k, ex, ey⟩ := hc.meet j (c v) hlt2 hlt;rw [only y hy ey] at k;exact ⟨x, hA.sym _ _ k, ex⟩
    ·obtain ⟨x, y, hx, hy, k, ex, ey⟩ := hc.meet (c v) j hgt hj;rw [only x hx ex] at k;exact ⟨y, k, ey⟩
   have col : ∀ j, j < 4 -> j ≠ c v -> c a = j \/ c b = j := fun j hj hne => by
    obtain ⟨y, k, e⟩ := nbr j hj hne;rcases h.nb y k with e2 | e2
    ·left; rw [<- e2]; exact e
    ·right; rw [<- e2]; exact e
   by_cases e0 : c v = 0
   ·have := col 1 (by omega) (by omega); have := col 2 (by omega) (by omega); have := col 3 (by omega) (by omega); omega
   by_cases e1 : c v = 1
   ·have := col 0 (by omega) (by omega); have := col 2 (by omega) (by omega); have := col 3 (by omega) (by omega); omega
   by_cases e2 : c v = 2
   ·have := col 0 (by omega) (by omega); have := col 1 (by omega) (by omega); have := col 3 (by omega) (by omega); omega
   ·have := col 0 (by omega) (by omega); have := col 1 (by omega) (by omega); have := col 2 (by omega) (by omega); omega
 ·exact ⟨c, hc.off hge (fun x _ => Iff.rfl) fun x y nx ny k => (h.iff x y).2 ⟨nx, ny, .inl k⟩⟩
end
def adjN (N : List (List Int)) (x y : Nat) : Prop := (y : Int) ∈ rowAt N x
def K4 (N : List (List Int)) : Prop := ∃ c, MdL (List.range N.length) (adjN N) c
theorem adjN_sm {N : List (List Int)} {G : List Bool} (h : Wf N G) : Sm (adjN N) := ⟨fun x y k => h.sym x y (by omega) (by omega) k, fun x k => h.irr x (by omega) k⟩
theorem adjN_in {N : List (List Int)} {G : List Bool} (h : Wf N G) (x y : Nat) (k : adjN N x y) : x ∈ List.range N.length := by
 have := (h.rows y).2 x (h.sym x y (by omega) (by omega) k)
 rw [List.mem_range]; omega
theorem step_red {N : List (List Int)} {G : List Bool} (h : Wf N G) {v : Nat} (hm : MayP N G v) : ∃ a b Q, a < N.length /\ Red (adjN N) (adjN (doN N (stepF N v))) v a b Q := by
 obtain ⟨_, hc⟩ := step_two h hm rfl
 have hrow : ∀ x y : Nat, adjN (doN N (stepF N v)) x y ↔ (x : Int) ≠ v /\ (((y : Int) ∈ rowAt N x /\ (y : Int) ≠ v) \/ ((stepF N v).2.2.2 = true /\ (((x : Int) = (stepF N v).2.1 /\ (y : Int) = (stepF N v).2.2.1) \/ ((x : Int) = (stepF N v).2.2.1 /\ (y : Int) = (stepF N v).2.1)))) := fun x y => (do_row h hm (by omega)).2 y
 have hv0 := hm.hi
 rcases hc with ⟨hl, _, _, hd⟩ | ⟨a, hl, _, _, hd⟩ | ⟨a, b, hl, hab, ea, eb, hd⟩
 ·refine ⟨v, v, False, by omega, ⟨fun y k => ?_, fun x y => ?_, fun q => q.elim, fun k => ?_⟩⟩
  ·unfold adjN at k; rw [hl] at k; simp at k
  ·rw [hrow, hd];unfold adjN;constructor
   ·rintro ⟨n1, ⟨k, n2⟩ | ⟨e, _⟩⟩
    ·exact ⟨by omega, by omega, .inl k⟩
    ·cases e
   ·rintro ⟨n1, n2, k | ⟨q, _⟩⟩
    ·exact ⟨by omega, .inl ⟨k, by omega⟩⟩
    ·exact q.elim
  ·unfold adjN at k; rw [hl] at k; simp at k
 ·have har := (h.rows v).2 a (by rw [hl]; simp);obtain ⟨a, rfl⟩ : ∃ c : Nat, a = c := ⟨a.toNat, by omega⟩;refine ⟨a, a, False, by omega, ⟨fun y k => ?_, fun x y => ?_, fun q => q.elim, fun _ _ n => absurd rfl n⟩⟩
  ·unfold adjN at k; rw [hl] at k; simp at k; omega
  ·rw [hrow, hd];unfold adjN;constructor
   ·rintro ⟨n1, ⟨k, n2⟩ | ⟨e, _⟩⟩
    ·exact ⟨by omega, by omega, .inl k⟩
    ·cases e
   ·rintro ⟨n1, n2, k | ⟨q, _⟩⟩
    ·exact ⟨by omega, .inl ⟨k, by omega⟩⟩
    ·exact q.elim
 ·have har := (h.rows v).2 a (by rw [hl]; simp);have hbr := (h.rows v).2 b (by rw [hl]; simp);have hav : a ≠ v := fun e => h.irr v hm.lo (by rw [hl]; simp [e])
  have hbv : b ≠ v := fun e => h.irr v hm.lo (by rw [hl]; simp [e])
  obtain ⟨a, rfl⟩ : ∃ c : Nat, a = c := ⟨a.toNat, by omega⟩;obtain ⟨b, rfl⟩ : ∃ c : Nat, b = c := ⟨b.toNat, by omega⟩;refine ⟨a, b, (stepF N v).2.2.2 = true, by omega, ⟨fun y k => ?_, fun x y => ?_, fun q => ?_, fun _ _ _ => ?_⟩⟩
  ·unfold adjN at k; rw [hl] at k; simp at k; omega
  ·rw [hrow, ea, eb];unfold adjN;constructor
   ·rintro ⟨n1, ⟨k, n2⟩ | ⟨e, ⟨k1, k2⟩ | ⟨k1, k2⟩⟩⟩
    ·exact ⟨by omega, by omega, .inl k⟩
    ·exact ⟨by omega, by omega, .inr ⟨e, .inl ⟨by omega, by omega⟩⟩⟩
    ·exact ⟨by omega, by omega, .inr ⟨e, .inr ⟨by omega, by omega⟩⟩⟩
   ·rintro ⟨n1, n2, k | ⟨e, ⟨k1, k2⟩ | ⟨k1, k2⟩⟩⟩
    ·exact ⟨by omega, .inl ⟨k, by omega⟩⟩
    ·exact ⟨by omega, .inr ⟨e, .inl ⟨by omega, by omega⟩⟩⟩
    ·exact ⟨by omega, .inr ⟨e, .inr ⟨by omega, by omega⟩⟩⟩
  ·unfold adjN;rw [hl];exact ⟨by simp, by simp, by omega⟩
  ·unfold adjN;rw [hd]
   cases he : (rowAt N a).elem (b : Int) with
   | true => left; simpa using he
   | false => right; rfl
theorem K4_step {N : List (List Int)} {G : List Bool} (h : Wf N G) {v : Int} (hm : MayP N G v) : K4 (doN N (stepF N v)) ↔ K4 N := by
 have h0 := hm.lo
 have h1 := hm.hi
 obtain ⟨v, rfl⟩ : ∃ c : Nat, v = c := ⟨v.toNat, by omega⟩
 obtain ⟨a, b, Q, ha, hr⟩ := step_red h hm
 have hv : v ∈ List.range N.length := List.mem_range.2 (by omega)
 unfold K4
 rw [doN_length]
 exact ⟨fun ⟨c, hc⟩ => hr.back (adjN_sm h) List.nodup_range hv (List.mem_range.2 ha) hc, fun ⟨c, hc⟩ => hr.go (adjN_sm h) List.nodup_range hv (adjN_in h) hc⟩
theorem K4_run {f : Nat} : ∀ {N : List (List Int)} {G : List Bool}, Wf N G -> (K4 (runS f N G).2.1 ↔ K4 N) := by
 induction f with
 | zero => intro N G _; exact Iff.rfl
 | succ f ih =>
  intro N G h
  cases hm : firstMay N G with
  | none => rw [runS_end hm]
  | some v =>
   rw [runS_go hm];have hp := mayB_iff.1 (firstMay_may hm);exact (ih (do_wf h hp)).trans (K4_step h hp)
end Go.Sh
namespace Go.Sh
def opn (s : Ck) (i : Nat) : Prop := i < s.poles.length /\ s.usd (i : Nat) = 0
structure MoveP (s : Ck) (x : Nd) (s' : Ck) (e : Ed) : Prop where
 free : FreeP s x
 poles : s'.poles = s.poles ++ [e]
 used : s'.used = (s.used.set x.2.1.toNat 1).set x.2.2.toNat 1
theorem StepP.move {s s' : Ck} {x : Nd} (h : StepP s x s') : ∃ e, MoveP s x s' e := by
 cases h with
 | ser m a b op free mid is => subst is; exact ⟨_, free, rfl, rfl⟩
 | par op free same is => subst is; exact ⟨_, free, rfl, rfl⟩
theorem MoveP.pol {s s' : Ck} {x : Nd} {e : Ed} (h : MoveP s x s' e) {i : Nat} : s'.pol (i : Nat) = if i < s.poles.length then s.pol (i : Nat) else if i = s.poles.length then e else (0, 0) := by
 have := pol_app (s := s) (e := e) (P := s.poles) (used := s'.used) (mid := s'.mid) rfl (i := i)
 rw [<- this]
 unfold Ck.pol
 rw [h.poles]
theorem MoveP.usd {s s' : Ck} {x : Nd} {e : Ed} (h : MoveP s x s' e) {N : Nat} (hN : s.used.length = N) (hlt : s.poles.length <= N) {i : Nat} (hi : i < N) : s'.usd (i : Nat) = if x.2.1 = i \/ x.2.2 = i then 1 else s.usd (i : Nat) := by
 obtain ⟨f1, f2, f3, f4, f5, f6⟩ := h.free
 unfold Ck.usd
 rw [h.used, Int.toNat_natCast]
 exact used2 hN f2 (by omega) f3 (by omega) hi
theorem MoveP.opn {s s' : Ck} {x : Nd} {e : Ed} (h : MoveP s x s' e) {N : Nat} (hN : s.used.length = N) (hlt : s.poles.length < N) (hnew : s.usd (s.poles.length : Nat) = 0) (i : Nat) : opn s' i ↔ (opn s i /\ x.2.1 ≠ i /\ x.2.2 ≠ i) \/ i = s.poles.length := by
 unfold Go.Sh.opn
 rw [h.poles, List.length_append, List.length_singleton]
 obtain ⟨f1, f2, f3, f4, f5, f6⟩ := h.free
 constructor
 ·rintro ⟨h1, h2⟩;by_cases hi : i = s.poles.length
  ·exact .inr hi
  ·rw [h.usd hN (by omega) (by omega)] at h2;by_cases hc : x.2.1 = i \/ x.2.2 = i
   ·rw [if_pos hc] at h2; omega
   ·rw [if_neg hc] at h2;exact .inl ⟨⟨by omega, h2⟩, fun e => hc (.inl e), fun e => hc (.inr e)⟩
 ·rintro (⟨⟨h1, h2⟩, h3, h4⟩ | rfl)
  ·refine ⟨by omega, ?_⟩;rw [h.usd hN (by omega) (by omega), if_neg (by rintro (e | e); exact h3 e; exact h4 e)]; exact h2
  ·refine ⟨by omega, ?_⟩;rw [h.usd hN (by omega) hlt, if_neg (by omega)]; exact hnew
structure UseC (N : Nat) (s : Ck) : Prop where
 z : ∀ i : Nat, 0 <= s.usd (i : Nat)
 new : ∀ i : Nat, s.poles.length <= i -> i < N -> s.usd (i : Nat) = 0
theorem FreeP.opn {N : Nat} {s : Ck} {x : Nd} (h : FreeP s x) (u : UseC N s) : opn s x.2.1.toNat /\ opn s x.2.2.toNat := by
 obtain ⟨f1, f2, f3, f4, f5, f6⟩ := h
 have z1 := u.z x.2.1.toNat
 have z2 := u.z x.2.2.toNat
 rw [Int.toNat_of_nonneg f2] at z1
 rw [Int.toNat_of_nonneg f3] at z2
 exact ⟨⟨by omega, by rw [Int.toNat_of_nonneg f2]; omega⟩, by omega, by rw [Int.toNat_of_nonneg f3]; omega⟩
theorem MoveP.use {s s' : Ck} {x : Nd} {e : Ed} (h : MoveP s x s' e) {N : Nat} (hN : s.used.length = N) (hlt : s.poles.length < N) (u : UseC N s) : UseC N s' := by
 obtain ⟨f1, f2, f3, f4, f5, f6⟩ := h.free
 refine ⟨fun i => ?_, fun i h1 h2 => ?_⟩
 ·by_cases hi : i < N
  ·rw [h.usd hN (by omega) hi]; have := u.z i; split <;> omega
  ·unfold Ck.usd;rw [h.used, Int.toNat_natCast, qDq, List.getElem?_eq_none (by rw [List.length_set, List.length_set, hN]; omega)];exact Int.le_refl 0
 ·rw [h.poles, List.length_append, List.length_singleton] at h1;rw [h.usd hN (by omega) h2, if_neg (by omega)];exact u.new i (by omega) h2
end Go.Sh
namespace Go.Sh
end Go.Sh
namespace Go.Sh
open Go.Proofs
theorem isPol.two {r : List Int × Bool} {e : Ed} (he : Prop2 e) (h : isPol r e) : ∃ a b, r.1 = [a, b] /\ a ≠ b := by
 unfold Prop2 at he
 rcases h.2 with h | h
 ·exact ⟨_, _, h, by omega⟩
 ·exact ⟨_, _, h, by omega⟩
end Go.Sh
namespace Go.Proofs
open Go.RowKit Go.Shelf
attribute [local go_sem] Oper.semAt_some
end Go.Proofs
namespace Go.Proofs
open Go.RowKit Go.Shelf Go.Sh
attribute [local go_sem] Oper.semAt_some
end Go.Proofs
namespace Go.Proofs
open Go.RowKit Go.Shelf Go.Sh
attribute [local go_sem] Oper.semAt_some
end Go.Proofs
namespace Go.Sh
open Go.Proofs Go.RowKit Go.Shelf
end Go.Sh
namespace Go.Sh
open Go.Proofs Go.RowKit Go.Shelf
def unI (F : Flat) : List Int := F.map fun r => match r with
 | [.i _ x] => x
 | _ => 0
theorem unI_ints (l : List Int) : unI (ints l) = l := by
 unfold unI ints
 rw [List.map_map]
 conv => rhs; rw [<- List.map_id l]
 exact List.map_congr_left fun x _ => rfl
def srtF (F : Flat) : Flat := ints (sortI (unI F))
theorem srtF_ints (l : List Int) : srtF (ints l) = ints (sortI l) := by unfold srtF; rw [unI_ints]
def srtP (F : Flat) : Prop := ∃ l : List Int, F = ints l /\ l.length <= 1000000
theorem own_new {w w' : World} {x : Value} {L : List Int} {e : TypeId} (h : w'.ownsRow w.heap.size e 1 x L.length (L.map (Value.int .i64))) : newOut w w' x (some (1, ints L)) := by
 rcases h.2 with ⟨rfl, h0⟩ | ⟨g, cap, cur, rfl, hb, hg, h1, h2, h3, h4⟩
 ·have : L = [] := List.eq_nil_of_length_eq_zero h0;subst this;exact ⟨none, 0, rfl, fun key => ⟨by simp [ints], by omega, fun i row h => by simp [ints] at h, fun i row j x h => by simp [ints] at h, fun _ => .inl ⟨rfl, rfl⟩⟩⟩
 ·have hgl : g < w'.heap.size := (Array.getElem?_eq_some_iff.1 hg).1;refine ⟨some ⟨g, 0, none⟩, cap, by rw [qiq], fun key => ?_⟩;have hm : cap <= 9223372036854775807 := by unfold maxLen at h2; omega
  refine ⟨by rw [qiq]; exact h1, by omega, fun i row hi => ?_, fun i row j x hi hj => ?_, fun _ => .inr ⟨g, 0, cur, e, rfl, by simp [hb, hgl], hg, by show 0 + cap * 1 <= cur.size; omega, hm⟩⟩
  ·simp only [ints, List.getElem?_map, Option.map_eq_some_iff] at hi;obtain ⟨y, _, rfl⟩ := hi; rfl
  ·simp only [ints, List.getElem?_map, Option.map_eq_some_iff] at hi;obtain ⟨y, hy, rfl⟩ := hi;have hj0 : j = 0 := by
    cases j with
    | zero => rfl
    | succ j => simp at hj
   subst hj0;simp at hj;subst hj;refine ⟨_, rfl, by simp [hb, hgl], ?_⟩;rw [Addr.add_plain, cells_at hg];have hil := (qSq.1 hy).1;have h5 : (cur.toList.take (L.length * 1))[i]? = some (.int .i64 y) := by rw [h4, List.getElem?_map, hy]; rfl
   rw [List.getElem?_take_of_lt (by omega)] at h5;rw [Nat.mul_one, Nat.add_zero, Nat.zero_add, <- Array.getElem?_toList];exact h5
theorem Sorted_call : SeqCall Tryz.prog 35 79 1 srtP srtF := by
 refine ⟨⟨_, Tryz.func35, by decide, by simp [Tryz.f35]⟩, ?_⟩
 rintro l ⟨zs, rfl, hl⟩ w b arr T A cap hh ha hF
 have hbl : b < w.heap.size := (Array.getElem?_eq_some_iff.1 hh).1
 have hc : w.cell? ⟨b, 0, none⟩ = some (.slice A zs.length cap) := by
  rw [qiq] at ha;rw [show (⟨b, 0, none⟩ : Addr) = ⟨b, 0, none⟩ from rfl, cells_at hh, <- Array.getElem?_toList, ha]; rfl
 refine ((callsIn_wide (n := 6)).1 (Tryz.sorted_in Fence.wide 6 trivial trivial trivial trivial trivial rfl (by omega) (Tryz.sortsIn _) b w.heap.size _ zs (by unfold maxLen; omega) (by omega) w hbl (Nat.le_refl _) hc (Tryz.ints_of hF))).mono ?_
 rintro e w' ⟨v, rfl, hrow, hnil, hb⟩
 refine ⟨v, rfl, ⟨hb.os, .of hb.tape, hb.output, hb.size, fun k h _ => hb.block k h⟩, ?_⟩
 rw [srtF_ints]
 refine own_new (e := 3) ?_
 have e1 : (sortI zs).length = zs.length := (List.mergeSort_perm zs _).length_eq
 rw [e1]
 exact hrow
end Go.Sh
namespace Go.Sh
open Go.Proofs
def shapeP (k : Int) (T : List Int) (L : List (List Int)) : Prop := (k = 1 /\ T.length = 4 /\ L.length = 6) \/ (k = 2 /\ T.length = 2 /\ L.length = 3)
instance (k : Int) (T : List Int) (L : List (List Int)) : Decidable (shapeP k T L) := by unfold shapeP; exact inferInstance
end Go.Sh
namespace Go.Proofs
open Go.RowKit Go.Sh
attribute [local go_sem] Oper.semAt_some
end Go.Proofs
namespace Go.Sh
open Go.Proofs
section
variable {n : Int} {E : List Ed} {k : Int} {T : List Int} {L : List (List Int)}
end
end Go.Sh
namespace Go.Sh
open Go.Proofs
end Go.Sh
namespace Go.Sh
open Go.Proofs Go.RowKit
attribute [local go_sem] Oper.semAt_some
theorem iSI : (Tryz.prog.info? 3).map (fun i => (i.zero, i.size, i.bytes)) = some (some (.int .i64 0), 1, 8) := by kernel_rfl
end Go.Sh
namespace Go.Sh
open Go.Proofs Go.Shelf Go.RowKit
noncomputable def growN : Sc -> Option (Option (Nat × Flat)) := fun x => match x with
 | .i .i64 n => if 0 <= n /\ n <= 1000000000 then some (some (1, [])) else none
 | _ => none
theorem Grow_call : NilCall Tryz.prog 96 growN := by
 refine ⟨⟨_, Tryz.func96, by decide, by simp [Tryz.f96]⟩, ?_⟩
 intro x r hx w
 obtain ⟨n, rfl, h0, h1, rfl⟩ : ∃ n : Int, x = .i .i64 n /\ 0 <= n /\ n <= 1000000000 /\ r = some (1, []) := by
  unfold growN at hx;split at hx
  ·split at hx
   ·rename_i h;injection hx with hx
    exact ⟨_, rfl, h.1, h.2, hx.symm⟩
   ·simp at hx
  ·simp at hx
 obtain ⟨k, rfl⟩ : ∃ k : Nat, n = k := ⟨n.toNat, by omega⟩
 rcases Nat.eq_zero_or_pos k with rfl | hk
 ·refine (Any8.slices_Grow_room Tryz.laysGrow none 0 0 0 w (by omega) (by omega) (by omega) (by omega)).mono ?_;rintro e w' ⟨rfl, rfl⟩;exact ⟨_, rfl, Frm.refl _ _, none, 0, rfl, fun key => FlatOk.nil (by omega)⟩
 ·obtain ⟨i0, hi, hz0, hz1, hz2⟩ := info_parts iSI;refine (Any8.slices_Grow_grow Tryz.laysGrow i0 _ hi hz0 (by omega) none 0 0 k [] w (by omega) (by omega) (by rw [hz2]; omega) (by omega) (by simp) (fun _ => rfl) (fun a h => by simp at h)).mono ?_;rintro e w' ⟨rfl, rfl⟩;have hsz : (#[] ++ Builtin.zeroCells (Value.int .i64 0).cells (0 + k - 0) ++ Builtin.zeroCells (Value.int .i64 0).cells (grownCap w (0 + k) 0 3 - (0 + k)) : Array Value).size = grownCap w (0 + k) 0 3 := by
   have hG : 0 + k <= grownCap w (0 + k) 0 3 := grownCap_ge w _ _ _;generalize grownCap w (0 + k) 0 3 = G at hG ⊢
   simp [Builtin.zeroCells, Value.cells];omega
  have hle := grownCap_le_maxLen w (0 + k) 0 3 (by unfold maxLen; omega);refine ⟨_, rfl, ⟨rfl, ⟨rfl, fun _ => Nat.le_succ _⟩, rfl, by simp, fun b hb _ => heap_alloc_lt w.drew _ hb⟩, _, _, rfl, fun key => ?_⟩;refine { fits := Nat.zero_le _, pos := by omega, even := fun i row h => by simp at h, cell := fun i row j x h => by simp at h, room := fun _ => .inr ⟨w.heap.size, 0, _, _, rfl, ?_, heap_alloc_at w.drew _, ?_, ?_⟩ }
  ·rw [if_pos ⟨Nat.le_refl _, by simp⟩]
  ·show 0 + grownCap w (0 + k) 0 3 * 1 <= _
   refine Nat.le_trans ?_ (Nat.le_of_eq hsz.symm);omega
  ·show grownCap w (0 + k) 0 3 <= _
   unfold maxLen at hle; omega
noncomputable def XCat : Cx := { Γ := [], T := T, nt := 36, ext := [96], base := nilCR 96 growN }
theorem XCat_ok : CrOk Tryz.prog (callAt 1 XCat) := callAt_ok hmix hT sound_nil inl_nil (nil_ok Grow_call) 1
noncomputable def ConcatC : Con := conP 1 (fun L : List (List Int) => L.length <= 1000 /\ L.flatten.length <= 100000000) (fun L => [.one (.nest false 1 (rowsI L))]) (fun L => .one (.flat true 1 (ints L.flatten)))
theorem ConcatC_at {L : List (List Int)} (h : L.length <= 1000 /\ L.flatten.length <= 100000000) : ConcatC.F [.one (.nest false 1 (rowsI L))] = some (.one (.flat true 1 (ints L.flatten)), []) :=
 conP_at (a := L) (fun a b _ _ h => by simp at h; rw [rowsI_inj h]) h
theorem flat_take {L : List (List Int)} {i : Nat} (h : i < L.length) : (L.take (i + 1)).flatten = (L.take i).flatten ++ L[i] := by
 rw [qTq h, List.flatten_append]; simp
theorem flat_le (L : List (List Int)) (i : Nat) : (L.take i).flatten.length <= L.flatten.length := by
 conv => rhs; rw [<- List.take_append_drop i L, List.flatten_append, List.length_append]
 omega
set_option maxHeartbeats 1000000 in
theorem Concat_ok : SoundC Tryz.prog T 67 ConcatC := by
 refine sound_con (X := XCat) (cr := callAt 1 XCat) XCat_ok hmix hT sound_nil Tryz.func67 (by rfl) (by rfl) (by rfl) (by rfl) 1 ?_
 rintro L ⟨hL, hF⟩
 refine two_le ?_
 refine LoopP.intro (α := Nat) (fun i => i <= L.length) (fun i => L.length - i) (fun i => [(0, .sl 0 none none), (3, .s (.i .i64 ((L.take i).flatten.length : Nat))), (9, .sl 0 none none), (10, .s (.i .i64 L.length)), (11, .s (.i .i64 i))])
  (fun i => [(0, some (.nest false 1 (rowsI L) [] []))]) 1 0 (by omega) (by refine Weak.bw [(0, some _)] (by ((repeat' first|exact rfl|exact trivial|apply And.intro) <;> (repeat' first|exact rfl|exact trivial|apply And.intro)); all_goals (exact sc_eq (by rw [qrq])))) ?_
 rintro i hi
 have hfi := flat_le L i
 refine Pick.by (fun hc => ?_) (fun hc => ?_)
 ·have hlt : i < L.length := by have := of_decide_eq_true hc; omega
  have hpg : (rowsI L)[i]? = some (ints L[i]) := qgq (qEq hlt);have hft := flat_take hlt;have hfi2 := flat_le L (i + 1);rw [hft, List.length_append] at hfi2;refine Idx.by i rfl (by rw [qrq]; exact hlt) ?_;refine Pick.T (by simpa [qrq] using hlt) ?_;refine Look.by _ hpg ?_;refine Pick.T (inI64_of (by rw [qiq]; omega) (by rw [qiq]; omega)) ?_;refine Pick.n ?_;refine Next.by (i + 1) (by omega) (by omega) (by refine Weak.bw [(0, some _)] (by ((repeat' first|exact rfl|exact trivial|apply And.intro) <;> (repeat' first|exact rfl|exact trivial|apply And.intro)); all_goals (exact sc_eq (by rw [hft, List.length_append, qiq]; omega))))
 have hil : i = L.length := by have := of_decide_eq_false hc; omega
 subst hil
 rw [List.take_length]
 refine ⟨rfl, .i .i64 ((L.flatten.length : Nat) : Int), some (1, []), rfl, if_pos ⟨by omega, by omega⟩, ?_⟩
 refine LoopP.intro (α := Nat) (fun i => i <= L.length) (fun i => L.length - i) (fun i => [(6, .sl 1 none none), (25, .sl 0 none none), (26, .s (.i .i64 L.length)), (27, .s (.i .i64 i))])
  (fun i => [(0, some (.nest false 1 (rowsI L) [] [])), (1, some (.flat true 1 (ints (L.take i).flatten)))]) 2 0 (by omega) (by refine Weak.bw [(0, some _), (1, some _)] (by ((repeat' first|exact rfl|exact trivial|apply And.intro) <;> (repeat' first|exact rfl|exact trivial|apply And.intro)); all_goals ((first|exact sc_eq (by rw [qrq]) | rfl)))) ?_
 rintro i hi
 have hfi := flat_le L i
 refine Pick.by (fun hc => ?_) (fun hc => ?_)
 ·have hlt : i < L.length := by have := of_decide_eq_true hc; omega
  have hpg : (rowsI L)[i]? = some (ints L[i]) := qgq (qEq hlt);have hft := flat_take hlt;have hfi2 := flat_le L (i + 1);rw [hft, List.length_append] at hfi2;refine Idx.by i rfl (by rw [qrq]; exact hlt) ?_;refine Pick.T (by simpa [qrq] using hlt) ?_;refine Look.by _ hpg ?_;refine Pick.T (decide_eq_true (by rw [qiq, show (cut none (ints L[i])).length = L[i].length from qiq _]; omega)) ?_;refine Pick.n ?_;refine Next.by (i + 1) (by omega) (by omega) (by refine Weak.bw [(0, some _), (1, some _)] (by ((repeat' first|exact rfl|exact trivial|apply And.intro) <;> (repeat' first|exact rfl|exact trivial|apply And.intro)); all_goals ((rw [hft, ints_append]; rfl))))
 have hil : i = L.length := by have := of_decide_eq_false hc; omega
 subst hil
 rw [List.take_length]
 exact ⟨rfl, rfl, rfl⟩
end Go.Sh
