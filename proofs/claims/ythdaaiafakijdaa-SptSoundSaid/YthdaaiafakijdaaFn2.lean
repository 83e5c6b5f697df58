/- What the functions answer that the statement reaches. No condition. -/
import Derived.Test.YthdaaiafakijdaaFn1
import Derived.RangeFuncBox
import Derived.RangeFuncLeaves
import Derived.Shelf.Abstract
import Derived.WalkKit
import Derived.OwnWalkIn
import Derived.TacticsInMore
import Derived.LoopNIn
import Derived.LoopIn
import Derived.Maps.AppendAt
import Derived.Test.YthdaaiafakijdaaProg
import Derived.Shelf.Sort.Plain
import Derived.Shelf.Slices.In.SortNone
import Derived.Shelf.Slices.CompactI
import Derived.Ground.NamesProg
import Derived.Ground.Names2Prog
import Derived.Sort.OwnSorted
import Derived.Shelf.SlIterI.Sorted
import Derived.Deep.RegionLaw
import Derived.Sort.QuietIn
import Derived.Sort.QuietTacIn
set_option linter.unusedVariables false
set_option linter.unusedSimpArgs false
set_option linter.unusedSectionVars false
namespace Go.Sh
open Go.Proofs
def withL (l : List Int) (E : List Ed) : List Ed := E.filter (ownP l)
theorem withL_snoc {l : List Int} {E : List Ed} {e : Ed} : withL l (E ++ [e]) = if ownP l e = true then withL l E ++ [e] else withL l E := by
 unfold withL; rw [List.filter_append]
 by_cases h : ownP l e = true
 ·rw [if_pos h]; simp [h]
 ·rw [if_neg h]; simp [h]
theorem withL_len {l : List Int} {E : List Ed} : (withL l E).length <= E.length := List.length_filter_le _ _
noncomputable def WithC (n0 : Nat) (pre : (Int × List Ed) -> List Int -> Prop) : Con := conP n0 (fun a : (Int × List Ed) × List Int => a.1.2.length <= 4000 /\ a.2.length <= 1000 /\ pre a.1 a.2) (fun a => [grV a.1.1 a.1.2, .one (.flat false 1 (ints a.2))]) (fun a => .one (.flat true 2 (edges (withL a.2 a.1.2))))
theorem WithC_at {k : Nat} {pre : (Int × List Ed) -> List Int -> Prop} {n : Int} {E : List Ed} {l : List Int} (h : E.length <= 4000 /\ l.length <= 1000 /\ pre (n, E) l) : (WithC k pre).F [grV n E, .one (.flat false 1 (ints l))] = some (.one (.flat true 2 (edges (withL l E))), []) :=
 conP_at (a := ((n, E), l)) (fun x y _ _ h => by
  obtain ⟨⟨n, E⟩, l⟩ := x;obtain ⟨⟨n', E'⟩, l'⟩ := y;simp at h;obtain ⟨h1, h2⟩ := h;obtain ⟨rfl, rfl⟩ := grV_inj h1;rw [ints_inj h2]) h
def markF (n : Nat) (l : List Int) : List Int := (List.range n).map fun (v : Nat) => if (v : Int) ∈ l then 1 else 0
theorem markF_len {n : Nat} {l : List Int} : (markF n l).length = n := by simp [markF]
theorem markF_zero {n : Nat} : ints (markF n []) = List.replicate n [.i .i64 0] := by
 have : markF n [] = List.replicate n 0 := by
  rw [List.eq_replicate_iff];refine ⟨markF_len, fun x hx => ?_⟩;obtain ⟨v, _, rfl⟩ := List.mem_map.1 hx;simp
 rw [this]; simp [ints]
theorem markF_at {n : Nat} {l : List Int} {v : Int} (h0 : 0 <= v) (h1 : v.toNat < n) : (markF n l).getD v.toNat 0 = if v ∈ l then 1 else 0 := by
 unfold markF
 rw [qDq, List.getElem?_map, List.getElem?_range h1]
 show (if ((v.toNat : Nat) : Int) ∈ l then (1 : Int) else 0) = _
 rw [Int.toNat_of_nonneg h0]
theorem markF_snoc {n : Nat} {l : List Int} {v : Int} (h0 : 0 <= v) (h1 : v.toNat < n) : markF n (l ++ [v]) = (markF n l).set v.toNat 1 := by
 apply List.ext_getElem?
 intro i
 by_cases hi : i < n
 ·unfold markF;rw [List.getElem?_set, List.getElem?_map, List.getElem?_range hi, List.getElem?_map, List.getElem?_range hi, List.length_map, List.length_range];by_cases e : v.toNat = i
  ·subst e;rw [if_pos rfl, if_pos hi, Option.map_some, Int.toNat_of_nonneg h0, if_pos (by simp)]
  ·rw [if_neg e, Option.map_some, Option.map_some];have hne : (i : Int) ≠ v := fun h => e (by omega)
   by_cases hm : (i : Int) ∈ l
   ·rw [if_pos (by simp [hm]), if_pos hm]
   ·rw [if_neg (by simp [hm, hne]), if_neg hm]
 ·rw [List.getElem?_eq_none (by rw [markF_len]; omega), List.getElem?_eq_none (by rw [List.length_set, markF_len]; omega)]
noncomputable def OwnC : Con := WithC 2 fun g l => RightP g.1 g.2 /\ ∀ v ∈ l, 0 <= v /\ v < g.1
theorem Own_ok : SoundC Try.prog T 27 OwnC := by
 refine sound_con (X := { Γ := [], T := T, nt := 49 }) cr_none hmix hT sound_nil Try.func27 (by rfl) (by rfl) (by rfl) (by rfl) 3 ?_
 rintro ⟨⟨n, E⟩, l⟩ ⟨hE, hl, h1, hr⟩
 dsimp only at hE hl h1 hr ⊢
 have hn0 := h1.1
 have hn1 := h1.2.1
 refine two_le ?_
 refine Pick.T (by simp) ?_
 refine Idx.by n.toNat (by omega) (by omega) ?_
 refine LoopP.intro (α := Nat) (fun i => i <= l.length) (fun i => l.length - i) (fun i => [(1, .sl 2 none none), (2, .ptr 0 0), (5, .sl 3 none none), (14, .sl 2 none none), (15, .s (.i .i64 l.length)), (16, .s (.i .i64 i))])
  (fun i => [(0, some (.blk [.s (.i .i64 n), .sl 1 none none])), (1, some (.flat false 2 (edges E))), (2, some (.flat false 1 (ints l))), (3, some (.flat true 1 (ints (markF n.toNat (l.take i)))))]) 4 0 (by omega) (by refine Weak.bw (sg 0 [_,_,_,_]) (by ((repeat' first|exact rfl|exact trivial|apply And.intro) <;> (repeat' first|exact rfl|exact trivial|apply And.intro)); all_goals ((first|exact sc_eq (by rw [qiq]) | exact markF_zero.symm | exact markF_zero)))) ?_
 rintro i hi
 refine Pick.by (fun hc => ?_) (fun hc => ?_)
 ·have hlt : i < l.length := by have := of_decide_eq_true hc; omega
  obtain ⟨v, hv⟩ : ∃ v, l[i] = v := ⟨_, rfl⟩;have hli : l[i]? = some v := by rw [qEq hlt, hv]
  have hvr := hr v (qMq hli);have hts : l.take (i + 1) = l.take i ++ [v] := by rw [List.take_add_one, hli]; rfl
  have hml : (ints (markF n.toNat (l.take i))).length = n.toNat := by rw [qiq, markF_len]
  refine Idx.by i rfl (by rw [qiq]; exact hlt) ?_;refine Look.by _ (qhq hli) ?_;refine Idx.by v.toNat (by omega) (by rw [hml]; omega) ?_;refine Look.by _ (qhq (x := (markF n.toNat (l.take i)).getD v.toNat 0) (by rw [qDq, qEq (by rw [markF_len]; omega)]; rfl)) ?_;refine Pick.n ?_;have hst : ints (markF n.toNat (l.take (i + 1))) = List.set (ints (markF n.toNat (l.take i))) v.toNat [.i .i64 1] := by rw [hts, markF_snoc (by omega) (by omega), ints_set]
  refine Next.by (i + 1) (by omega) (by omega) (by refine Weak.bw (sg 0 [_,_,_,_]) (by ((repeat' first|exact rfl|exact trivial|apply And.intro) <;> (repeat' first|exact rfl|exact trivial|apply And.intro)); all_goals ((first|exact sc_eq (by omega) | exact hst))))
 have hil : i = l.length := by have := of_decide_eq_false hc; omega
 subst hil
 rw [List.take_length]
 refine LoopP.intro (α := Nat) (fun j => j <= E.length) (fun j => E.length - j) (fun j => [(5, .sl 3 none none), (8, .sl 4 none none), (25, .sl 1 none none), (26, .s (.i .i64 E.length)), (27, .s (.i .i64 j))])
  (fun j => [(1, some (.flat false 2 (edges E))), (3, some (.flat true 1 (ints (markF n.toNat l)))), (4, some (.flat true 2 (edges (withL l (E.take j)))))]) 5 0 (by omega) (by refine Weak.bw [(1, some _), (3, some _), (4, none)] (by ((repeat' first|exact rfl|exact trivial|apply And.intro) <;> (repeat' first|exact rfl|exact trivial|apply And.intro)); all_goals ((first|exact sc_eq (by rw [qeq]))))) ?_
 rintro j hj
 refine Pick.by (fun hc => ?_) (fun hc => ?_)
 ·have hlt : j < E.length := by have := of_decide_eq_true hc; omega
  obtain ⟨x, hx⟩ : ∃ x, E[j] = x := ⟨_, rfl⟩;have hEj : E[j]? = some x := by rw [qEq hlt, hx]
  have hok := h1.2.2.2.1 x (qMq hEj);unfold okE at hok;have hts : E.take (j + 1) = E.take j ++ [x] := by rw [List.take_add_one, hEj]; rfl
  have hwl : (withL l (E.take j)).length <= 4000 := Nat.le_trans withL_len (by rw [List.length_take]; omega);have hml : (ints (markF n.toNat l)).length = n.toNat := by rw [qiq, markF_len]
  have hmg : ∀ {v : Int}, 0 <= v -> v < n -> (ints (markF n.toNat l))[v.toNat]? = some [.i .i64 (if v ∈ l then 1 else 0)] := fun {v} h0 h1 => by
   refine qhq ?_;rw [<- markF_at (n := n.toNat) (l := l) h0 (by omega), qDq, qEq (by rw [markF_len]; omega)]; rfl
  refine Idx.by j rfl (by rw [qeq]; exact hlt) ?_;refine Look.by _ (edges_get hEj) ?_;refine Idx.by x.1.toNat (by omega) (by rw [hml]; omega) ?_;refine Look.by _ (hmg (by omega) (by omega)) ?_;refine Idx.by x.2.toNat (by omega) (by rw [hml]; omega) ?_;refine Look.by _ (hmg (by omega) (by omega)) ?_;have hsum : ((if x.1 ∈ l then (1 : Int) else 0) + (if x.2 ∈ l then 1 else 0) = 2) ↔ ownP l x = true := by
   unfold ownP;by_cases m1 : x.1 ∈ l <;> by_cases m2 : x.2 ∈ l <;> simp [m1, m2]
  refine Pick.T (by split <;> split <;> exact inI64_of (by omega) (by omega)) ?_;refine Seg.by (by kernel_rfl) ?_;refine Pick.by (fun h2 => ?_) (fun h2 => ?_)
  ·have hp : ownP l x = true := hsum.1 (eq_of_beq h2);refine Pick.T (by rw [decide_eq_true_iff, qeq]; show _ + 1 <= _; omega) ?_;refine Pick.n ?_;refine Next.by (j + 1) (by omega) (by omega) (by refine Weak.bw [(1, some _), (3, some _), (4, some _)] (by ((repeat' first|exact rfl|exact trivial|apply And.intro) <;> (repeat' first|exact rfl|exact trivial|apply And.intro)); all_goals ((first|exact sc_eq (by omega) | (rw [hts, withL_snoc, if_pos hp, edges_snoc]; rfl)))))
  ·have hp : ¬ ownP l x = true := fun h => ne_of_beq_false h2 (hsum.2 h)
   refine Pick.n ?_;refine Next.by (j + 1) (by omega) (by omega) (by refine Weak.bw [(1, some _), (3, some _), (4, some _)] (by ((repeat' first|exact rfl|exact trivial|apply And.intro) <;> (repeat' first|exact rfl|exact trivial|apply And.intro)); all_goals ((first|exact sc_eq (by omega) | (rw [hts, withL_snoc, if_neg hp])))))
 ·have hjl : j = E.length := by have := of_decide_eq_false hc; omega
  subst hjl;rw [List.take_length];refine ⟨rfl, ?_⟩
  (repeat' first|exact rfl|exact trivial|apply And.intro)
def pairF (a b : Int) : Ed := (if b < a then b else a, if b > a then b else a)
noncomputable def PairC : Con := conP 2 (fun _ : Int × Int => True) (fun a => [.one (.s (.i .i64 a.1)), .one (.s (.i .i64 a.2))]) (fun a => .agg [.s (.i .i64 (pairF a.1 a.2).1), .s (.i .i64 (pairF a.1 a.2).2)])
theorem PairC_at (a b : Int) : PairC.F [.one (.s (.i .i64 a)), .one (.s (.i .i64 b))] = some (.agg [.s (.i .i64 (pairF a b).1), .s (.i .i64 (pairF a b).2)], []) :=
 conP_at (a := (a, b)) (fun x y _ _ h => by
  obtain ⟨x1, x2⟩ := x;obtain ⟨y1, y2⟩ := y;simp at h;obtain ⟨rfl, rfl⟩ := h
  rfl) trivial
theorem Pair_ok : SoundC Try.prog T 34 PairC := by
 refine sound_con (X := { Γ := [], T := T, nt := 12 }) cr_none hmix hT sound_nil Try.func34 (by rfl) (by rfl) (by rfl) (by rfl) 2 ?_
 rintro ⟨a, b⟩ -
 refine two_le ?_
 exact ⟨rfl, rfl, rfl, trivial⟩
def midL : List (Ed × Ed) -> (Int × Ed) × Bool
 | [] => ((0, (0, 0)), false)
 | (s, t) :: r => if s.2 = t.1 /\ s.1 ≠ t.2 then ((s.2, pairF s.1 t.2), true) else midL r
def sides (x : Ed) : List Ed := [x, (x.2, x.1)]
def middleF (x y : Ed) : (Int × Ed) × Bool := midL ((sides x).flatMap fun s => (sides y).map fun t => (s, t))
def ed2V (x : Ed) : V := .agg [.s (.i .i64 x.1), .s (.i .i64 x.2)]
noncomputable def MiddleC : Con := conP 2 (fun _ : Ed × Ed => True) (fun a => [ed2V a.1, ed2V a.2]) (fun a => .tup [.one (.s (.i .i64 (middleF a.1 a.2).1.1)), ed2V (middleF a.1 a.2).1.2, .one (.s (.b (middleF a.1 a.2).2))])
theorem ed2V_inj {x y : Ed} (h : ed2V x = ed2V y) : x = y := by
 unfold ed2V at h
 simp at h
 exact Prod.ext h.1 h.2
theorem MiddleC_at (x y : Ed) : MiddleC.F [ed2V x, ed2V y] = some (.tup [.one (.s (.i .i64 (middleF x y).1.1)), ed2V (middleF x y).1.2, .one (.s (.b (middleF x y).2))], []) :=
 conP_at (a := (x, y)) (fun u v _ _ h => by
  obtain ⟨u1, u2⟩ := u;obtain ⟨v1, v2⟩ := v;simp at h;rw [ed2V_inj h.1, ed2V_inj h.2]) trivial
theorem Middle_ok : SoundC Try.prog T 38 MiddleC := by
 refine sound_con (X := { Γ := [(34, PairC)], T := T, nt := 57 }) cr_none hmix hT (sound_cons Pair_ok sound_nil) Try.func38 (by rfl) (by rfl) (by rfl) (by rfl) 4 ?_
 rintro ⟨⟨a, b⟩, c, d⟩ -
 dsimp only
 refine two_le ?_
 refine LoopP.intro (α := Nat) (fun i => i <= 2 /\ midL (((sides (a, b)).drop i).flatMap fun s => (sides (c, d)).map fun t => (s, t)) = middleF (a, b) (c, d)) (fun i => 2 - i) (fun i => [(3, .ptr 0 0), (5, .ptr 1 0), (17, .sl 2 none none), (18, .s (.i .i64 2)), (19, .s (.i .i64 i))])
  (fun i => [(0, some (.blk [.s (.i .i64 c), .s (.i .i64 d)])), (1, some (.blk [.s (.i .i64 0), .s (.i .i64 0)])), (2, some (.flat true 2 (edges (sides (a, b)))))]) 3 0 ⟨by omega, rfl⟩ (by refine Weak.ba (sg 0 [_,_,_])) ?_
 rintro i ⟨hi, he⟩
 have hl2 : ∀ x : Ed, (sides x).length = 2 := fun _ => rfl
 refine Pick.by (fun hc => ?_) (fun hc => ?_)
 ·have hlt : i < 2 := by have := of_decide_eq_true hc; omega
  obtain ⟨⟨s1, s2⟩, hs⟩ : ∃ s, (sides (a, b))[i]'(by rw [hl2]; exact hlt) = s := ⟨_, rfl⟩;have hsi : (sides (a, b))[i]? = some (s1, s2) := by rw [qEq (by rw [hl2]; exact hlt), hs]
  rw [List.drop_eq_getElem_cons (by rw [hl2]; exact hlt), hs, List.flatMap_cons] at he;obtain ⟨rest, hrest⟩ : ∃ rest, (((sides (a, b)).drop (i + 1)).flatMap fun s => (sides (c, d)).map fun t => (s, t)) = rest := ⟨_, rfl⟩;rw [hrest] at he;refine Idx.by i rfl (by rw [qeq, hl2]; exact hlt) ?_;refine Look.by _ (edges_get hsi) ?_;refine LoopP.intro (α := Nat) (fun j => j <= 2 /\ midL ((((sides (c, d)).drop j).map fun t => ((s1, s2), t)) ++ rest) = middleF (a, b) (c, d)) (fun j => 2 - j) (fun j => [(3, .ptr 0 0), (5, .ptr 1 0), (8, .ptr 3 0), (17, .sl 2 none none), (18, .s (.i .i64 2)), (19, .s (.i .i64 i)), (29, .sl 4 none none), (30, .s (.i .i64 2)), (31, .s (.i .i64 j))])
   (fun j => [(0, some (.blk [.s (.i .i64 c), .s (.i .i64 d)])), (1, some (.blk [.s (.i .i64 0), .s (.i .i64 0)])), (2, some (.flat true 2 (edges (sides (a, b))))), (3, some (.blk [.s (.i .i64 s1), .s (.i .i64 s2)])), (4, some (.flat true 2 (edges (sides (c, d)))))]) 5 0 ⟨by omega, he⟩ (by refine Weak.ba (sg 0 [_,_,_,_,_])) ?_
  rintro j ⟨hj, hk⟩;refine Pick.by (fun hc2 => ?_) (fun hc2 => ?_)
  ·have hlt2 : j < 2 := by have := of_decide_eq_true hc2; omega
   obtain ⟨⟨t1, t2⟩, ht⟩ : ∃ t, (sides (c, d))[j]'(by rw [hl2]; exact hlt2) = t := ⟨_, rfl⟩;have htj : (sides (c, d))[j]? = some (t1, t2) := by rw [qEq (by rw [hl2]; exact hlt2), ht]
   rw [List.drop_eq_getElem_cons (by rw [hl2]; exact hlt2), ht, List.map_cons, List.cons_append] at hk;have hk : (if s2 = t1 /\ s1 ≠ t2 then ((s2, pairF s1 t2), true) else midL ((((sides (c, d)).drop (j + 1)).map fun t => ((s1, s2), t)) ++ rest)) = middleF (a, b) (c, d) := hk;refine Idx.by j rfl (by rw [qeq, hl2]; exact hlt2) ?_;refine Look.by _ (edges_get htj) ?_;refine Pick.by (fun h1 => ?_) (fun h1 => ?_)
   ·have h1 : s2 = t1 := eq_of_beq h1;refine Pick.by (fun h2 => ?_) (fun h2 => ?_)
    ·have h2 : s1 ≠ t2 := by simpa using h2
     rw [if_pos ⟨h1, h2⟩] at hk;refine Call.by _ _ (PairC_at s1 t2) ?_;refine Seg.by (by kernel_rfl) ?_;dsimp only;rw [<- hk];refine ⟨rfl, ?_⟩
     (repeat' first|exact rfl|exact trivial|apply And.intro)
    ·have h2 : ¬ s1 ≠ t2 := by simpa using h2
     rw [if_neg (fun h => h2 h.2)] at hk;refine Pick.n ?_;refine Next.by (j + 1) ⟨by omega, hk⟩ (by omega) (by refine Weak.bw (sg 0 [_,_,_,_,_]) (by ((repeat' first|exact rfl|exact trivial|apply And.intro) <;> (repeat' first|exact rfl|exact trivial|apply And.intro)); all_goals (exact sc_eq (by omega))))
   ·have h1 : s2 ≠ t1 := ne_of_beq_false h1;rw [if_neg (fun h => h1 h.1)] at hk;refine Pick.n ?_;refine Next.by (j + 1) ⟨by omega, hk⟩ (by omega) (by refine Weak.bw (sg 0 [_,_,_,_,_]) (by ((repeat' first|exact rfl|exact trivial|apply And.intro) <;> (repeat' first|exact rfl|exact trivial|apply And.intro)); all_goals (exact sc_eq (by omega))))
  ·have hj2 : j = 2 := by have := of_decide_eq_false hc2; omega
   subst hj2;have hk : midL rest = middleF (a, b) (c, d) := hk;rw [<- hrest] at hk;refine Pick.n ?_;refine Next.by (i + 1) ⟨by omega, hk⟩ (by omega) (by refine Weak.bw (sg 0 [_,_,_]) (by ((repeat' first|exact rfl|exact trivial|apply And.intro) <;> (repeat' first|exact rfl|exact trivial|apply And.intro)); all_goals (exact sc_eq (by omega))))
 ·have hi2 : i = 2 := by have := of_decide_eq_false hc; omega
  subst hi2;have he : ((0, ((0, 0) : Ed)), false) = middleF (a, b) (c, d) := he;rw [<- he];refine ⟨rfl, ?_⟩
  (repeat' first|exact rfl|exact trivial|apply And.intro)
abbrev Nd := Int × Int × Int
def nods (l : List Nd) : Flat := l.map fun x => [.i .i64 x.1, .i .i64 x.2.1, .i .i64 x.2.2]
theorem nods_length (l : List Nd) : (nods l).length = l.length := by simp [nods]
theorem nods_get {l : List Nd} {i : Nat} {x : Nd} (h : l[i]? = some x) : (nods l)[i]? = some [.i .i64 x.1, .i .i64 x.2.1, .i .i64 x.2.2] := by simp [nods, h]
theorem nods_snoc (l : List Nd) (x : Nd) : nods (l ++ [x]) = nods l ++ [[.i .i64 x.1, .i .i64 x.2.1, .i .i64 x.2.2]] := by simp [nods]
theorem nods_inj {l m : List Nd} (h : nods l = nods m) : l = m := by
 refine (List.map_inj_right fun a b e => ?_).1 h
 obtain ⟨a1, a2, a3⟩ := a
 obtain ⟨b1, b2, b3⟩ := b
 simp at e
 obtain ⟨rfl, rfl, rfl⟩ := e
 rfl
noncomputable def TakeC (k : Nat) : Con := conP 1 (fun l : List Nd => l.length <= 9223372036854775807) (fun l => [.one (.flat false 3 (nods l))]) (fun l => .one (.flat true 3 (nods (l.take k))))
theorem TakeC_at {k : Nat} {l : List Nd} (h : l.length <= 9223372036854775807) : (TakeC k).F [.one (.flat false 3 (nods l))] = some (.one (.flat true 3 (nods (l.take k))), []) :=
 conP_at (a := l) (fun a b _ _ h => by simp at h; rw [nods_inj h]) h
theorem Ours13_ok : SoundC Try.prog T 15 (TakeC 20) := by
 refine sound_con (X := { Γ := [], T := T, nt := 23 }) cr_none hmix hT sound_nil Try.func15 (by rfl) (by rfl) (by rfl) (by rfl) 1 ?_
 rintro l hl
 dsimp only at hl ⊢
 refine two_le ?_
 refine LoopP.intro (α := Nat) (fun i => i <= l.length /\ i <= 20) (fun i => l.length - i) (fun i => [(0, .sl 0 none none), (3, .sl 1 none none), (4, .s (.i .i64 i))])
  (fun i => [(0, some (.flat false 3 (nods l))), (1, some (.flat true 3 (nods (l.take i))))]) 2 0 ⟨by omega, by omega⟩ (by refine Weak.ba [(0, some _), (1, none)]) ?_
 rintro i ⟨hi, hk⟩
 refine Pick.by (fun hc => ?_) (fun hc => ?_)
 ·have hlt : i < l.length := by have := of_decide_eq_true hc; rw [nods_length] at this; omega
  refine Pick.by (fun h2 => ?_) (fun h2 => ?_)
  ·have h2 : i < 20 := by have := of_decide_eq_true h2; omega
   have hget : l[i]? = some l[i] := qEq hlt;refine Idx.by i rfl (by rw [nods_length]; exact hlt) ?_;refine Look.by _ (nods_get hget) ?_;refine Pick.T (by rw [decide_eq_true_iff, nods_length, List.length_take]; show _ + 1 <= _; omega) ?_;refine Pick.n ?_;refine Next.by (i + 1) ⟨by omega, by omega⟩ (by omega) (by refine Weak.bw [(0, some _), (1, some _)] (by ((repeat' first|exact rfl|exact trivial|apply And.intro) <;> (repeat' first|exact rfl|exact trivial|apply And.intro)); all_goals ((first|exact sc_eq (by omega) | (rw [List.take_add_one, hget]; exact nods_snoc _ _)))))
  ·have h2 : i = 20 := by have := of_decide_eq_false h2; omega
   subst h2;refine ⟨rfl, ?_⟩
   (repeat' first|exact rfl|exact trivial|apply And.intro)
 ·have hil : i = l.length := by have := of_decide_eq_false hc; rw [nods_length] at this; omega
  subst hil;have e : l.take l.length = l.take 20 := by rw [List.take_length, List.take_of_length_le hk]
  rw [<- e];refine ⟨rfl, ?_⟩
  (repeat' first|exact rfl|exact trivial|apply And.intro)
def idxI (l : List Int) (x : Int) : Int := if x ∈ l then (l.idxOf x : Int) else -1
theorem idxI_at {l : List Int} {x : Int} {k : Nat} (hk : k < l.length) (h : x = l[k]) (hn : x ∉ l.take k) : idxI l x = k := by
 unfold idxI
 rw [if_pos (by rw [h]; exact List.getElem_mem hk)]
 congr 1
 have e : l = l.take k ++ x :: l.drop (k + 1) := by rw [h, <- List.drop_eq_getElem_cons hk, List.take_append_drop]
 rw [e, List.idxOf_append, if_neg hn, List.idxOf_cons_self, List.length_take]
 omega
theorem not_take_succ {α : Type} {l : List α} {x : α} {k : Nat} (hk : k < l.length) (hn : x ∉ l.take k) (h : x ≠ l[k]) : x ∉ l.take (k + 1) := by
 rw [qTq hk, List.mem_append]
 rintro (h1 | h1)
 ·exact hn h1
 ·exact h (by simpa using h1)
noncomputable def IndexC : Con := conP 2 (fun a : List Int × Int => a.1.length <= 1000000) (fun a => [.one (.flat false 1 (ints a.1)), .one (.s (.i .i64 a.2))]) (fun a => .one (.s (.i .i64 (idxI a.1 a.2))))
theorem IndexC_at {l : List Int} (x : Int) (h : l.length <= 1000000) : IndexC.F [.one (.flat false 1 (ints l)), .one (.s (.i .i64 x))] = some (.one (.s (.i .i64 (idxI l x))), []) :=
 conP_at (a := (l, x)) (fun a b _ _ h => by simp at h; rw [ints_inj h.1, h.2]) h
theorem Index_ok : SoundC Try.prog T 33 IndexC := by
 refine sound_con (X := { Γ := [], T := T, nt := 19 }) cr_none hmix hT sound_nil Try.func33 (by rfl) (by rfl) (by rfl) (by rfl) 2 ?_
 rintro ⟨l, x⟩ hl
 dsimp only at hl ⊢
 refine two_le ?_
 refine LoopP.intro (α := Nat) (fun k => k <= l.length /\ x ∉ l.take k) (fun k => l.length - k) (fun k => [(0, .sl 0 none none), (1, .s (.i .i64 x)), (7, .s (.i .i64 l.length)), (8, .s (.i .i64 k))]) (fun k => [(0, some (.flat false 1 (ints l)))]) 1 0 ⟨by omega, by simp⟩ (by refine Weak.bw [(0, some _)] (by ((repeat' first|exact rfl|exact trivial|apply And.intro) <;> (repeat' first|exact rfl|exact trivial|apply And.intro)); all_goals (exact sc_eq (by rw [qiq])))) ?_
 rintro k ⟨hk, hn⟩
 refine Pick.by (fun hc => ?_) (fun hc => ?_)
 ·have hlt : k < l.length := by simpa using hc
  refine Idx.by k rfl (by rw [qiq]; exact hlt) ?_;refine Look.by _ (qhq (qEq hlt)) ?_;refine Pick.by (fun h => ?_) (fun h => ?_)
  ·have h : x = l[k] := by simpa using h
   refine ⟨rfl, ?_⟩;show Sc.i .i64 (k : Int) = Sc.i .i64 (idxI l x)
   rw [idxI_at hlt h hn]
  ·have h : x ≠ l[k] := by simpa using h
   refine Pick.n ?_;refine Next.by (k + 1) ⟨by omega, not_take_succ hlt hn h⟩ (by omega) (by refine Weak.ba [(0, some _)])
 ·have hge : l.length <= k := by simpa using hc
  rw [List.take_of_length_le hge] at hn;refine ⟨rfl, ?_⟩;show Sc.i .i64 (-1) = Sc.i .i64 (idxI l x)
  unfold idxI;rw [if_neg hn]
end Go.Sh
namespace Go.Sh
abbrev Nr := List (Int × List Int)
abbrev Th := List (List Int × Int)
def encN (N : Nr) : List (Int × Flat) := N.map fun p => (p.1, ints p.2)
def nget : Nr -> Int -> List Int
 | [], _ => []
 | (k, v) :: r, x => if k = x then v else nget r x
def nput : Nr -> Int -> List Int -> Nr
 | [], x, v => [(x, v)]
 | (k, u) :: r, x, v => if k = x then (k, v) :: r else (k, u) :: nput r x v
theorem fget_enc (N : Nr) (x : Int) : fget (encN N) x = ints (nget N x) := by
 induction N with
 | nil => rfl
 | cons p r ih =>
  obtain ⟨k, v⟩ := p;simp only [encN, List.map_cons, fget, nget] at ih ⊢;by_cases h : k = x
  ·rw [if_pos h, if_pos h]
  ·rw [if_neg h, if_neg h, ih]
theorem fput_enc (N : Nr) (x : Int) (v : List Int) : fput (encN N) x (ints v) = encN (nput N x v) := by
 induction N with
 | nil => rfl
 | cons p r ih =>
  obtain ⟨k, u⟩ := p;simp only [encN, List.map_cons, fput, nput] at ih ⊢;by_cases h : k = x
  ·rw [if_pos h, if_pos h]; rfl
  ·rw [if_neg h, if_neg h, ih]; rfl
theorem nget_put (N : Nr) (x y : Int) (v : List Int) : nget (nput N x v) y = if x = y then v else nget N y := by
 induction N with
 | nil => simp [nput, nget]
 | cons p r ih =>
  obtain ⟨k, u⟩ := p;simp only [nput];by_cases hk : k = x
  ·subst hk;rw [if_pos rfl];simp only [nget];split <;> rfl
  ·rw [if_neg hk];simp only [nget, ih];by_cases h1 : k = y
   ·subst h1; rw [if_pos rfl, if_neg (Ne.symm hk), if_pos rfl]
   ·rw [if_neg h1, if_neg h1]
theorem mapHas_put (l : Th) (x y : List Int) (v : Int) : mapHas (mapPut l x v) y = (decide (x = y) || mapHas l y) := by
 induction l with
 | nil => by_cases h : x = y <;> simp [mapPut, mapHas, h]
 | cons p r ih =>
  obtain ⟨k, u⟩ := p;simp only [mapPut];by_cases hk : k = x
  ·subst hk;rw [if_pos rfl];by_cases h : k = y <;> simp [mapHas, h]
  ·rw [if_neg hk];simp only [mapHas, ih];by_cases h1 : k = y
   ·subst h1; simp
   ·simp [h1]
def keyE (p : Ed) : List Int := [p.1, p.2]
theorem keyE_inj {p q : Ed} : keyE p = keyE q ↔ p = q := by
 unfold keyE
 simp
 exact ⟨fun h => Prod.ext h.1 h.2, fun h => by rw [h]; exact ⟨rfl, rfl⟩⟩
theorem pairF_comm (a b : Int) : pairF a b = pairF b a := by
 unfold pairF
 by_cases h : b < a
 ·rw [if_pos h, if_neg (show ¬ b > a by omega), if_neg (show ¬ a < b by omega), if_pos (show a > b by omega)]
 ·by_cases h2 : a < b
  ·rw [if_neg h, if_pos (show b > a by omega), if_pos h2, if_neg (show ¬ a > b by omega)]
  ·have : a = b := by omega
   subst this; rfl
theorem pairF_le {a b : Int} (h : a <= b) : pairF a b = (a, b) := by
 unfold pairF
 rw [if_neg (by omega)]
 by_cases h2 : b > a
 ·rw [if_pos h2]
 ·rw [if_neg h2]; have : a = b := by omega
  rw [this]
theorem pairF_ge {a b : Int} (h : b <= a) : pairF a b = (b, a) := by rw [pairF_comm, pairF_le h]
theorem pairF_inj {a b c d : Int} : pairF a b = pairF c d ↔ (a = c /\ b = d) \/ (a = d /\ b = c) := by
 rcases Int.le_total a b with h | h <;> rcases Int.le_total c d with k | k <;>
  (first | rw [pairF_le h] | rw [pairF_ge h]) <;> (first | rw [pairF_le k] | rw [pairF_ge k]) <;> simp only [Prod.mk.injEq] <;> omega
theorem pairF_lt {a b : Int} (h : a ≠ b) : (pairF a b).1 < (pairF a b).2 := by
 rcases Int.le_total a b with k | k
 ·rw [pairF_le k]; show a < b; omega
 ·rw [pairF_ge k]; show b < a; omega
theorem pairF_two (a b : Int) : ((pairF a b).1 = a /\ (pairF a b).2 = b) \/ ((pairF a b).1 = b /\ (pairF a b).2 = a) := by
 rcases Int.le_total a b with k | k
 ·rw [pairF_le k]; exact .inl ⟨rfl, rfl⟩
 ·rw [pairF_ge k]; exact .inr ⟨rfl, rfl⟩
theorem pairF_self (p : Ed) (h : p.1 < p.2) : pairF p.1 p.2 = p := pairF_le (by omega)
theorem pairF_idem (a b : Int) : pairF (pairF a b).1 (pairF a b).2 = pairF a b := by
 refine pairF_le ?_
 rcases Int.le_total a b with k | k
 ·rw [pairF_le k]; exact k
 ·rw [pairF_ge k]; exact k
def stT : List Ed -> Th
 | [] => []
 | x :: r => mapPut (stT r) (keyE x) (r.length : Nat)
def stN : List Ed -> Nr
 | [] => []
 | x :: r => nput (nput (stN r) x.1 (nget (stN r) x.1 ++ [x.2])) x.2 (nget (nput (stN r) x.1 (nget (stN r) x.1 ++ [x.2])) x.2 ++ [x.1])
theorem stN_near {n : Int} : ∀ {r : List Ed}, (∀ p ∈ r, okE n p) -> ∀ v, nget (stN r) v = nearL r.reverse v := by
 intro r
 induction r with
 | nil => intro _ v; rfl
 | cons x r ih =>
  intro h v;have ih := ih fun p hp => h p (List.mem_cons_of_mem _ hp)
  have hx := h x List.mem_cons_self;unfold okE at hx;rw [List.reverse_cons, nearL_snoc];simp only [stN, nget_put, ih];unfold nearX;by_cases h1 : x.1 = v
  ·have h2 : x.2 ≠ v := by omega
   rw [if_neg h2, if_pos h1, if_pos h1, if_neg h2, h1]; simp
  ·by_cases h2 : x.2 = v
   ·rw [if_pos h2, if_neg (show ¬ x.1 = x.2 by omega), if_neg h1, if_pos h2, h2]; simp
   ·rw [if_neg h2, if_neg h1, if_neg h1, if_neg h2]; simp
theorem stT_has : ∀ {r : List Ed} {e : Ed}, mapHas (stT r) (keyE e) = true ↔ e ∈ r := by
 intro r
 induction r with
 | nil => intro e; simp [stT, mapHas]
 | cons x r ih =>
  intro e;simp only [stT, mapHas_put, Bool.or_eq_true, ih, decide_eq_true_eq, keyE_inj, List.mem_cons];exact or_congr eq_comm Iff.rfl
structure Sp where
 left : List Int
 near : Nr
 thing : Th
 out : List Nd
def cutV (v : Int) (N : Nr) (x : Int) : Nr := nput N x ((nget N x).erase v)
def cutsV (v : Int) (l : List Int) (N : Nr) : Nr := l.foldl (cutV v) N
theorem cuts_get {v : Int} : ∀ {l : List Int} {N : Nr}, l.Nodup -> ∀ {u : Int}, nget (cutsV v l N) u = if u ∈ l then (nget N u).erase v else nget N u := by
 intro l
 induction l with
 | nil => intro N _ u; simp [cutsV]
 | cons x l ih =>
  intro N hn u;have hn := List.nodup_cons.1 hn;show nget (cutsV v l (cutV v N x)) u = _
  rw [ih hn.2];unfold cutV;rw [nget_put];by_cases hu : u = x
  ·subst hu;rw [if_neg hn.1, if_pos rfl, if_pos List.mem_cons_self]
  ·rw [if_neg (Ne.symm hu)];by_cases hm : u ∈ l
   ·rw [if_pos hm, if_pos (List.mem_cons_of_mem _ hm)]
   ·rw [if_neg hm, if_neg (by simp [hu, hm])]
def joinN (N : Nr) (a b : Int) : Nr := nput (nput N a (nget N a ++ [b])) b (nget (nput N a (nget N a ++ [b])) b ++ [a])
theorem join_get {N : Nr} {a b u : Int} (h : a ≠ b) : nget (joinN N a b) u = if u = a then nget N a ++ [b] else if u = b then nget N b ++ [a] else nget N u := by
 unfold joinN
 rw [nget_put, nget_put, nget_put]
 by_cases h1 : u = a
 ·subst h1; rw [if_pos rfl, if_neg (Ne.symm h), if_pos rfl]
 ·by_cases h2 : u = b
  ·subst h2; rw [if_pos rfl, if_neg h1, if_pos rfl, if_neg h]
  ·rw [if_neg (Ne.symm h2), if_neg (Ne.symm h1), if_neg h1, if_neg h2]
def endsS (s : Sp) (v : Int) : Ed := pairF ((nget s.near v).getD 0 0) ((nget s.near v).getD 1 0)
def stepS (m : Nat) (s : Sp) (k : Nat) : Sp :=
 let v := s.left.getD k 0
 let e := endsS s v
 let N1 := cutsV v (nget s.near v) s.near
 let o1 := s.out ++ [((1, mapGet s.thing (keyE (pairF v e.1)), mapGet s.thing (keyE (pairF v e.2))) : Nd)]
 if mapHas s.thing (keyE e) = true then
  { left := s.left.eraseIdx k, near := N1, thing := mapPut s.thing (keyE e) ((m : Int) + (o1.length : Int)), out := o1 ++ [(2, mapGet s.thing (keyE e), (m : Int) + (o1.length : Int) - 1)] }
 else { left := s.left.eraseIdx k, near := joinN N1 e.1 e.2, thing := mapPut s.thing (keyE e) ((m : Int) + (o1.length : Int) - 1), out := o1 }
def pickS (s : Sp) : Option Nat := s.left.findIdx? fun v => decide ((nget s.near v).length = 2)
def runSp (c : Int) (m : Nat) : Nat -> Sp -> List Nd × Int
 | 0, s => (s.out, 0)
 | f + 1, s => if s.left.length <= 2 then (s.out, 0) else match pickS s with
  | none => ([], c)
  | some k => runSp c m f (stepS m s k)
theorem runSp_stop {c : Int} {m f : Nat} {s : Sp} (h : s.left.length <= 2) : runSp c m f s = (s.out, 0) := by
 cases f with
 | zero => rfl
 | succ f => exact if_pos h
structure SpI (s : Sp) : Prop where
 nl : s.left.Nodup
 nd : ∀ v ∈ s.left, (nget s.near v).Nodup
 sym : ∀ v ∈ s.left, ∀ x ∈ nget s.near v, x ∈ s.left /\ x ≠ v /\ v ∈ nget s.near x
 th : ∀ a ∈ s.left, ∀ b ∈ s.left, a ≠ b -> (mapHas s.thing (keyE (pairF a b)) = true ↔ b ∈ nget s.near a)
structure PickP (s : Sp) (k : Nat) (v p q : Int) : Prop where
 at_ : s.left[k]? = some v
 near : nget s.near v = [p, q]
 mem : v ∈ s.left
 pm : p ∈ s.left
 qm : q ∈ s.left
 pv : p ≠ v
 qv : q ≠ v
 pq : p ≠ q
 vp : v ∈ nget s.near p
 vq : v ∈ nget s.near q
theorem SpI.pick {s : Sp} (h : SpI s) {k : Nat} (hk : pickS s = some k) : ∃ v p q, PickP s k v p q := by
 obtain ⟨hlt, hp, -⟩ := List.findIdx?_eq_some_iff_getElem.1 hk
 have hp := of_decide_eq_true hp
 have hm : s.left[k] ∈ s.left := List.getElem_mem hlt
 obtain ⟨p, q, hpq⟩ : ∃ p q, nget s.near s.left[k] = [p, q] := by
  match hh : nget s.near s.left[k], hp with
  | [p, q], _ => exact ⟨p, q, rfl⟩
 have hn := h.nd _ hm
 rw [hpq] at hn
 obtain ⟨p1, p2, p3⟩ := h.sym _ hm p (by rw [hpq]; simp)
 obtain ⟨q1, q2, q3⟩ := h.sym _ hm q (by rw [hpq]; simp)
 exact ⟨s.left[k], p, q, ⟨qEq hlt, hpq, hm, p1, q1, p2, q2, by simp at hn; exact hn, p3, q3⟩⟩
theorem eraseIdx_erase {l : List Int} {k : Nat} {v : Int} (hn : l.Nodup) (h : l[k]? = some v) : l.eraseIdx k = l.erase v := by
 obtain ⟨hk, rfl⟩ := qSq.1 h
 have h : l = l.take k ++ l[k] :: l.drop (k + 1) := by rw [<- List.drop_eq_getElem_cons hk, List.take_append_drop]
 obtain ⟨x, hx⟩ : ∃ x, l[k] = x := ⟨_, rfl⟩
 rw [hx] at h ⊢
 have hm : x ∉ l.take k := fun hm => by
  rw [h, List.nodup_append] at hn;exact hn.2.2 x hm x (by simp) rfl
 rw [List.eraseIdx_eq_take_drop_succ]
 conv => rhs; rw [h]
 rw [List.erase_append_right _ hm, List.erase_cons_head]
theorem SpI.step {s : Sp} (h : SpI s) (m : Nat) {k : Nat} {v p q : Int} (hp : PickP s k v p q) : SpI (stepS m s k) /\ (stepS m s k).left = s.left.erase v /\ (stepS m s k).left.length + 1 = s.left.length := by
 have hv : s.left.getD k 0 = v := by rw [qDq, hp.at_]; rfl
 have hE := eraseIdx_erase h.nl hp.at_
 have hmem : ∀ {x : Int}, x ∈ s.left.erase v ↔ x ∈ s.left /\ x ≠ v := fun {x} => by rw [h.nl.mem_erase_iff]; exact And.comm
 have hlen : (s.left.erase v).length + 1 = s.left.length := by
  have := List.length_erase_of_mem hp.mem;have : 0 < s.left.length := List.length_pos_of_mem hp.mem;omega
 have hends : endsS s v = pairF p q := by unfold endsS; rw [hp.near]; rfl
 have hnpq : [p, q].Nodup := by simp [hp.pq]
 have hN1 : ∀ u, nget (cutsV v (nget s.near v) s.near) u = if u = p \/ u = q then (nget s.near u).erase v else nget s.near u := fun u => by
  rw [hp.near, cuts_get hnpq];by_cases hu : u = p \/ u = q
  ·rw [if_pos (by simpa using hu), if_pos hu]
  ·rw [if_neg (by simpa using hu), if_neg hu]
 have hadj : ∀ {u x : Int}, u ∈ s.left -> u ≠ v -> (x ∈ nget (cutsV v (nget s.near v) s.near) u ↔ x ∈ nget s.near u /\ x ≠ v) := fun {u x} hu huv => by
  rw [hN1];by_cases hu2 : u = p \/ u = q
  ·rw [if_pos hu2, (h.nd u hu).mem_erase_iff]; exact And.comm
  ·rw [if_neg hu2];refine ⟨fun hx => ⟨hx, fun e => ?_⟩, And.left⟩;subst e;have := (h.sym u hu x hx).2.2;rw [hp.near] at this;exact hu2 (by simpa using this)
 have hnd1 : ∀ u ∈ s.left, (nget (cutsV v (nget s.near v) s.near) u).Nodup := fun u hu => by
  rw [hN1]; split
  ·exact (h.nd u hu).erase v
  ·exact h.nd u hu
 have hpair : keyE (endsS s v) = keyE (pairF p q) := by rw [hends]
 have hpv : p ∈ s.left.erase v := hmem.2 ⟨hp.pm, hp.pv⟩
 have hqv : q ∈ s.left.erase v := hmem.2 ⟨hp.qm, hp.qv⟩
 have hthpq := h.th p hp.pm q hp.qm hp.pq
 by_cases hc : mapHas s.thing (keyE (endsS s v)) = true
 ·have hst : stepS m s k = { left := s.left.erase v, near := cutsV v (nget s.near v) s.near, thing := mapPut s.thing (keyE (endsS s v)) ((m : Int) + ((s.out ++ [((1, mapGet s.thing (keyE (pairF v (endsS s v).1)), mapGet s.thing (keyE (pairF v (endsS s v).2))) : Nd)]).length : Int)), out := (s.out ++ [((1, mapGet s.thing (keyE (pairF v (endsS s v).1)), mapGet s.thing (keyE (pairF v (endsS s v).2))) : Nd)]) ++ [(2, mapGet s.thing (keyE (endsS s v)), (m : Int) + ((s.out ++ [((1, mapGet s.thing (keyE (pairF v (endsS s v).1)), mapGet s.thing (keyE (pairF v (endsS s v).2))) : Nd)]).length : Int) - 1)] } := by
   unfold stepS;simp only [hv, hE];rw [if_pos hc]
  rw [hst];rw [hpair] at hc;have hpq : q ∈ nget s.near p := hthpq.1 hc;refine ⟨⟨h.nl.erase v, fun u hu => hnd1 u (hmem.1 hu).1, fun u hu x hx => ?_, fun a ha b hb hab => ?_⟩, rfl, hlen⟩
  ·obtain ⟨hu1, hu2⟩ := hmem.1 hu;obtain ⟨hx1, hx2⟩ := (hadj hu1 hu2).1 hx;obtain ⟨y1, y2, y3⟩ := h.sym u hu1 x hx1;exact ⟨hmem.2 ⟨y1, hx2⟩, y2, (hadj y1 hx2).2 ⟨y3, hu2⟩⟩
  ·obtain ⟨a1, a2⟩ := hmem.1 ha;obtain ⟨b1, b2⟩ := hmem.1 hb;show mapHas (mapPut _ _ _) _ = true ↔ _
   rw [mapHas_put, hpair, Bool.or_eq_true, decide_eq_true_eq, keyE_inj, pairF_inj, h.th a a1 b b1 hab, hadj a1 a2];refine ⟨fun hx => ?_, fun hx => .inr hx.1⟩;rcases hx with (⟨rfl, rfl⟩ | ⟨rfl, rfl⟩) | hx
   ·exact ⟨hpq, b2⟩
   ·exact ⟨(h.sym p hp.pm q hpq).2.2, b2⟩
   ·exact ⟨hx, b2⟩
 ·have hst : stepS m s k = { left := s.left.erase v, near := joinN (cutsV v (nget s.near v) s.near) (endsS s v).1 (endsS s v).2, thing := mapPut s.thing (keyE (endsS s v)) ((m : Int) + ((s.out ++ [((1, mapGet s.thing (keyE (pairF v (endsS s v).1)), mapGet s.thing (keyE (pairF v (endsS s v).2))) : Nd)]).length : Int) - 1), out := s.out ++ [((1, mapGet s.thing (keyE (pairF v (endsS s v).1)), mapGet s.thing (keyE (pairF v (endsS s v).2))) : Nd)] } := by
   unfold stepS;simp only [hv, hE];rw [if_neg hc]
  rw [hst];rw [hpair] at hc;have hpq : ¬ q ∈ nget s.near p := fun k => hc (hthpq.2 k)
  have hqp : ¬ p ∈ nget s.near q := fun k => hpq (h.sym q hp.qm p k).2.2
  have hj : ∀ u, nget (joinN (cutsV v (nget s.near v) s.near) (endsS s v).1 (endsS s v).2) u = if u = p then nget (cutsV v (nget s.near v) s.near) p ++ [q] else if u = q then nget (cutsV v (nget s.near v) s.near) q ++ [p] else nget (cutsV v (nget s.near v) s.near) u := fun u => by
   rw [hends];have hne := hp.pq;rcases pairF_two p q with ⟨e1, e2⟩ | ⟨e1, e2⟩
   ·rw [e1, e2, join_get hne]
   ·rw [e1, e2, join_get (Ne.symm hne)];by_cases u1 : u = p
    ·rw [if_pos u1, if_neg (by rw [u1]; exact hne), if_pos u1]
    ·by_cases u2 : u = q
     ·rw [if_pos u2, if_neg u1, if_pos u2]
     ·rw [if_neg u2, if_neg u1, if_neg u1, if_neg u2]
  have hadj2 : ∀ {u x : Int}, u ∈ s.left -> u ≠ v -> (x ∈ nget (joinN (cutsV v (nget s.near v) s.near) (endsS s v).1 (endsS s v).2) u ↔ (x ∈ nget s.near u /\ x ≠ v) \/ (u = p /\ x = q) \/ (u = q /\ x = p)) := fun {u x} hu huv => by
   have hne := hp.pq;rw [hj];by_cases u1 : u = p
   ·subst u1;rw [if_pos rfl, List.mem_append, hadj hu huv, List.mem_singleton];constructor
    ·rintro (h | h)
     ·exact .inl h
     ·exact .inr (.inl ⟨rfl, h⟩)
    ·rintro (h | ⟨_, h⟩ | ⟨h, _⟩)
     ·exact .inl h
     ·exact .inr h
     ·exact absurd h hne
   ·rw [if_neg u1];by_cases u2 : u = q
    ·subst u2;rw [if_pos rfl, List.mem_append, hadj hu huv, List.mem_singleton];constructor
     ·rintro (h | h)
      ·exact .inl h
      ·exact .inr (.inr ⟨rfl, h⟩)
     ·rintro (h | ⟨h, _⟩ | ⟨_, h⟩)
      ·exact .inl h
      ·exact absurd h u1
      ·exact .inr h
    ·rw [if_neg u2, hadj hu huv];constructor
     ·exact .inl
     ·rintro (h | ⟨h, _⟩ | ⟨h, _⟩)
      ·exact h
      ·exact absurd h u1
      ·exact absurd h u2
  refine ⟨⟨h.nl.erase v, fun u hu => ?_, fun u hu x hx => ?_, fun a ha b hb hab => ?_⟩, rfl, hlen⟩
  ·obtain ⟨hu1, hu2⟩ := hmem.1 hu;show (nget (joinN _ _ _) u).Nodup
   rw [hj];have ap : ∀ {y : Int} {w : Int}, w ∈ s.left -> w ≠ v -> y ∉ nget s.near w -> (nget (cutsV v (nget s.near v) s.near) w ++ [y]).Nodup := fun {y w} hw hwv hy => by
    refine List.nodup_append.2 ⟨hnd1 w hw, by simp, fun a ha b hb => ?_⟩;simp at hb;subst hb;rintro rfl;exact hy ((hadj hw hwv).1 ha).1
   split
   ·exact ap hp.pm hp.pv hpq
   ·split
    ·exact ap hp.qm hp.qv hqp
    ·exact hnd1 u hu1
  ·obtain ⟨hu1, hu2⟩ := hmem.1 hu;have hne := hp.pq;rcases (hadj2 hu1 hu2).1 hx with ⟨hx1, hx2⟩ | ⟨rfl, rfl⟩ | ⟨rfl, rfl⟩
   ·obtain ⟨y1, y2, y3⟩ := h.sym u hu1 x hx1;exact ⟨hmem.2 ⟨y1, hx2⟩, y2, (hadj2 y1 hx2).2 (.inl ⟨y3, hu2⟩)⟩
   ·exact ⟨hqv, Ne.symm hne, (hadj2 hp.qm hp.qv).2 (.inr (.inr ⟨rfl, rfl⟩))⟩
   ·exact ⟨hpv, hne, (hadj2 hp.pm hp.pv).2 (.inr (.inl ⟨rfl, rfl⟩))⟩
  ·obtain ⟨a1, a2⟩ := hmem.1 ha;obtain ⟨b1, b2⟩ := hmem.1 hb;show mapHas (mapPut _ _ _) _ = true ↔ _
   rw [mapHas_put, hpair, Bool.or_eq_true, decide_eq_true_eq, keyE_inj, pairF_inj, h.th a a1 b b1 hab, hadj2 a1 a2];constructor
   ·rintro ((⟨rfl, rfl⟩ | ⟨rfl, rfl⟩) | hx)
    ·exact .inr (.inl ⟨rfl, rfl⟩)
    ·exact .inr (.inr ⟨rfl, rfl⟩)
    ·exact .inl ⟨hx, b2⟩
   ·rintro (⟨hx, _⟩ | ⟨rfl, rfl⟩ | ⟨rfl, rfl⟩)
    ·exact .inr hx
    ·exact .inl (.inl ⟨rfl, rfl⟩)
    ·exact .inl (.inr ⟨rfl, rfl⟩)
def startS (E : List Ed) (l : List Int) : Sp := { left := sortI l, near := stN (withL l E).reverse, thing := stT (withL l E).reverse, out := [] }
theorem with_mem {l : List Int} {E : List Ed} {a b : Int} : adjE (withL l E) a b ↔ adjE E a b /\ a ∈ l /\ b ∈ l := by
 unfold adjE withL ownP
 simp only [List.mem_filter, Bool.and_eq_true, List.elem_eq_mem, decide_eq_true_eq]
 constructor
 ·rintro (⟨h, h1, h2⟩ | ⟨h, h1, h2⟩)
  ·exact ⟨.inl h, h1, h2⟩
  ·exact ⟨.inr h, h2, h1⟩
 ·rintro ⟨h | h, h1, h2⟩
  ·exact .inl ⟨h, h1, h2⟩
  ·exact .inr ⟨h, h2, h1⟩
theorem withL_ok {n : Int} {l : List Int} {E : List Ed} (hR : RightP n E) : (∀ p ∈ withL l E, okE n p) /\ (withL l E).Pairwise ltE := ⟨fun p hp => hR.2.2.2.1 p (List.mem_filter.1 hp).1, hR.2.2.2.2.filter _⟩
theorem start_near {n : Int} {l : List Int} {E : List Ed} (hR : RightP n E) (v : Int) : nget (startS E l).near v = nearL (withL l E) v := by
 have := stN_near (r := (withL l E).reverse) (n := n) (fun p hp => (withL_ok hR).1 p (by simpa using hp)) v
 rw [List.reverse_reverse] at this
 exact this
theorem adj_ne {n : Int} {E : List Ed} (hR : RightP n E) {a b : Int} (h : adjE E a b) : a ≠ b := by
 rintro rfl
 rcases h with h | h <;> have := hR.2.2.2.1 _ h <;> unfold okE at this <;> omega
theorem start_ok {n : Int} {l : List Int} {E : List Ed} (hR : RightP n E) (hl : l.Nodup) : SpI (startS E l) := by
 have hm : ∀ {x : Int}, x ∈ (startS E l).left ↔ x ∈ l := fun {x} => (List.mergeSort_perm l _).mem_iff
 refine ⟨(List.mergeSort_perm l _).nodup_iff.2 hl, fun v hv => ?_, fun v hv x hx => ?_, fun a ha b hb hab => ?_⟩
 ·rw [start_near hR];exact (near_sorted (withL_ok hR).1 (withL_ok hR).2).imp fun h => by omega
 ·rw [start_near hR, mem_nearL] at hx;obtain ⟨h1, h2, h3⟩ := with_mem.1 hx;refine ⟨hm.2 h3, Ne.symm (adj_ne hR h1), ?_⟩;rw [start_near hR, mem_nearL];exact Or.symm hx
 ·rw [start_near hR, mem_nearL];show mapHas (stT _) _ = true ↔ _
  rw [stT_has, List.mem_reverse];unfold adjE;have key : ∀ {x y : Int}, x < y -> (pairF x y ∈ withL l E ↔ (x, y) ∈ withL l E \/ (y, x) ∈ withL l E) := fun {x y} hxy => by
   rw [pairF_le (by omega)];refine ⟨.inl, fun h => ?_⟩;rcases h with h | h
   ·exact h
   ·have := (withL_ok hR).1 _ h;unfold okE at this;omega
  rcases Int.lt_or_lt_of_ne hab with h | h
  ·exact key h
  ·rw [pairF_comm, key h]; exact or_comm
end Go.Sh
namespace Go.Sh
open Go.Proofs
def cntN (t : List Nd) (a : Int) : Nat := t.countP (fun x => x.2.1 == a) + t.countP (fun x => x.2.2 == a)
def OnceP (m : Nat) (t : List Nd) : Prop := ∀ i, i < m + t.length -> cntN t (i : Int) = if i = m + t.length - 1 then 0 else 1
instance (m : Nat) (t : List Nd) : Decidable (OnceP m t) := by unfold OnceP; infer_instance
theorem cntN_snoc {t : List Nd} {x : Nd} {a : Int} : cntN (t ++ [x]) a = cntN t a + (if x.2.1 = a then 1 else 0) + (if x.2.2 = a then 1 else 0) := by
 unfold cntN
 rw [List.countP_append, List.countP_append, List.countP_singleton, List.countP_singleton]
 simp only [beq_iff_eq]
 omega
end Go.Sh
namespace Go.Sh
section
variable {n : Int} {E : List Ed} {l : List Int}
theorem idx_get {v : Int} (hv : v ∈ l) : l[l.idxOf v]? = some v := by
 have h := List.idxOf_lt_length_of_mem hv
 rw [qEq h, List.getElem_idxOf h]
theorem idx_inj {a b : Int} (ha : a ∈ l) (hb : b ∈ l) (h : l.idxOf a = l.idxOf b) : a = b := by
 have h1 := idx_get ha
 have h2 := idx_get hb
 rw [h, h2] at h1
 injection h1 with h1
 exact h1.symm
theorem idx_of {i : Nat} (hn : l.Nodup) (hi : i < l.length) : l.idxOf l[i] = i := hn.idxOf_getElem i hi
theorem edN_two {x y : Int} {p : Ed} (h : (x, y) = edN p) : (x = p.1 /\ y = p.2) \/ (x = p.2 /\ y = p.1) := by
 unfold edN mnI mxI at h
 injection h with h1 h2
 split at h1 <;> split at h2 <;> first | omega | exact .inl ⟨h1, h2⟩ | exact .inr ⟨h1, h2⟩
theorem edN_adj {L : List Ed} {p : Ed} (hp : p ∈ L) (hne : p.1 ≠ p.2) : adjE (normE L) p.1 p.2 := by
 have h : edN p ∈ normE L := mem_normE.2 ⟨p, hp, hne, rfl⟩
 have : edN p = (p.1, p.2) \/ edN p = (p.2, p.1) := by
  unfold edN mnI mxI;by_cases h : p.1 < p.2
  ·simp [h]; omega
  ·simp [h]; omega
 rcases this with e | e
 ·exact .inl (e ▸ h)
 ·exact .inr (e ▸ h)
theorem own_adj (hR : RightP n E) {a b : Int} (ha : a ∈ l) (hb : b ∈ l) : adjE (normE (ownG l E)) ((l.idxOf a : Nat) : Int) ((l.idxOf b : Nat) : Int) ↔ adjE E a b := by
 have hmem : ∀ p, p ∈ ownG l E ↔ ∃ e ∈ E, e.1 ∈ l /\ e.2 ∈ l /\ p = (((l.idxOf e.1 : Nat) : Int), ((l.idxOf e.2 : Nat) : Int)) := fun p => by
  unfold ownG ownP;rw [List.mem_map];constructor
  ·rintro ⟨e, he, rfl⟩;obtain ⟨h1, h2⟩ := List.mem_filter.1 he;simp only [Bool.and_eq_true, List.elem_eq_mem, decide_eq_true_eq] at h2;exact ⟨e, h1, h2.1, h2.2, rfl⟩
  ·rintro ⟨e, h1, h2, h3, rfl⟩;exact ⟨e, List.mem_filter.2 ⟨h1, by simp [h2, h3]⟩, rfl⟩
 have key : ∀ x y : Int, x ∈ l -> y ∈ l -> (((l.idxOf x : Nat) : Int), ((l.idxOf y : Nat) : Int)) ∈ normE (ownG l E) -> adjE E x y := fun x y hx hy h => by
  obtain ⟨p, hp, hne, he⟩ := mem_normE.1 h;obtain ⟨e, h1, h2, h3, rfl⟩ := (hmem p).1 hp;rcases edN_two he with ⟨q1, q2⟩ | ⟨q1, q2⟩
  ·have e1 := idx_inj hx h2 (by dsimp only at q1; omega);have e2 := idx_inj hy h3 (by dsimp only at q2; omega);rw [e1, e2]; exact .inl h1
  ·have e1 := idx_inj hx h3 (by dsimp only at q1; omega);have e2 := idx_inj hy h2 (by dsimp only at q2; omega);rw [e1, e2]; exact .inr h1
 constructor
 ·rintro (h | h)
  ·exact key a b ha hb h
  ·exact (key b a hb ha h).symm
 ·have fwd : ∀ x y : Int, x ∈ l -> y ∈ l -> (x, y) ∈ E -> adjE (normE (ownG l E)) ((l.idxOf x : Nat) : Int) ((l.idxOf y : Nat) : Int) := fun x y hx hy h => by
   have hok := hR.2.2.2.1 _ h;unfold okE at hok;refine edN_adj (p := (((l.idxOf x : Nat) : Int), ((l.idxOf y : Nat) : Int))) ((hmem _).2 ⟨(x, y), h, hx, hy, rfl⟩) fun e => ?_
   have := idx_inj hx hy (by dsimp only at e; omega);dsimp only at hok;omega
  rintro (h | h)
  ·exact fwd a b ha hb h
  ·exact (fwd b a hb ha h).symm
def nearO (l : List Int) (E : List Ed) : List (List Int) := nbrs l.length (normE (ownG l E))
theorem okO {v : Int} : okD (nearO l E) v ↔ 0 <= v /\ v < l.length := ok_nbrs
theorem nbO {v w : Int} (hv : okD (nearO l E) v) : w ∈ nbD (nearO l E) v ↔ adjE (normE (ownG l E)) v w := by
 unfold nearO at hv ⊢
 rw [nbD_nbrs hv]; exact mem_nearL
theorem rch_iff (hR : RightP n E) (hn : l.Nodup) (hG : GraphD (nearO l E)) {k : List Int} (hk : ∀ x ∈ k, x ∈ l) {a b : Int} (ha : a ∈ k) (hb : b ∈ k) :
  Rch E k a b ↔ RchD (nearO l E) (fun i => ∃ v ∈ k, i = ((l.idxOf v : Nat) : Int)) ((l.idxOf a : Nat) : Int) ((l.idxOf b : Nat) : Int) := by
 have hok : ∀ v ∈ k, okD (nearO l E) ((l.idxOf v : Nat) : Int) := fun v hv => okO.2 ⟨by omega, by have := List.idxOf_lt_length_of_mem (hk v hv); omega⟩
 constructor
 ·intro h;have : ∀ {b : Int}, Rch E k a b -> b ∈ k /\ RchD (nearO l E) (fun i => ∃ v ∈ k, i = ((l.idxOf v : Nat) : Int)) ((l.idxOf a : Nat) : Int) ((l.idxOf b : Nat) : Int) := by
   intro b h
   induction h with
   | base => exact ⟨ha, .refl ⟨a, ha, rfl⟩⟩
   | step _ h2 h3 ih => exact ⟨h3, ih.2.trans (.one ⟨_, ih.1, rfl⟩ ⟨_, h3, rfl⟩ ((nbO (hok _ ih.1)).2 ((own_adj hR (hk _ ih.1) (hk _ h3)).2 h2)))⟩
  exact (this h).2
 ·intro h;have : ∀ {i j : Int}, RchD (nearO l E) (fun i => ∃ v ∈ k, i = ((l.idxOf v : Nat) : Int)) i j -> ∀ {c x y : Int}, Rch E k c x -> x ∈ k -> i = ((l.idxOf x : Nat) : Int) -> y ∈ k -> j = ((l.idxOf y : Nat) : Int) -> Rch E k c y := by
   intro i j h
   induction h with
   | refl _ =>
    intro c x y h1 h2 e1 h3 e2;have := idx_inj (hk x h2) (hk y h3) (by omega);rw [<- this]; exact h1
   | step _ hb hr ih =>
    intro c x y h1 h2 e1 h3 e2;obtain ⟨z, hz, ez⟩ := hr.left;subst e1;rw [ez] at hb;have hadj := (own_adj hR (hk x h2) (hk z hz)).1 ((nbO (hok x h2)).1 hb);exact ih (.step h1 hadj hz) hz ez h3 e2
  exact this h .base ha rfl hb rfl
theorem img_all (hn : l.Nodup) {i : Int} : okD (nearO l E) i ↔ ∃ v ∈ l, i = ((l.idxOf v : Nat) : Int) := by
 rw [okO]
 constructor
 ·rintro ⟨h0, h1⟩;have hi : i.toNat < l.length := by omega
  exact ⟨l[i.toNat], List.getElem_mem _, by rw [idx_of hn hi]; omega⟩
 ·rintro ⟨v, hv, rfl⟩;have := List.idxOf_lt_length_of_mem hv;omega
theorem img_but (hn : l.Nodup) {c : Int} (hc : c ∈ l) {i : Int} : (okD (nearO l E) i /\ i ≠ ((l.idxOf c : Nat) : Int)) ↔ ∃ v ∈ l.erase c, i = ((l.idxOf v : Nat) : Int) := by
 rw [img_all hn]
 constructor
 ·rintro ⟨⟨v, hv, rfl⟩, hne⟩;exact ⟨v, (List.mem_erase_of_ne (fun e => hne (by rw [e]))).2 hv, rfl⟩
 ·rintro ⟨v, hv, rfl⟩;have h := (hn.mem_erase_iff).1 hv;exact ⟨⟨v, h.2, rfl⟩, fun e => h.1 (idx_inj h.2 hc (by omega))⟩
def AllC (E : List Ed) (k : List Int) : Prop := ∀ a ∈ k, ∀ b ∈ k, Rch E k a b
theorem bic_iff (hR : RightP n E) (hn : l.Nodup) (hG : GraphD (nearO l E)) : Bic (nearO l E) ↔ AllC E l /\ ∀ c ∈ l, AllC E (l.erase c) := by
 have h1 : ∀ x, (∃ v ∈ l, x = ((l.idxOf v : Nat) : Int)) ↔ okD (nearO l E) x := fun x => (img_all hn).symm
 constructor
 ·intro hB;refine ⟨fun a ha b hb => (rch_iff hR hn hG (fun _ h => h) ha hb).2 ((hB.1 _ _ ((h1 _).1 ⟨a, ha, rfl⟩) ((h1 _).1 ⟨b, hb, rfl⟩)).mono fun x hx => (h1 x).2 hx), fun c hc a ha b hb => ?_⟩;have m : ∀ x ∈ l.erase c, x ∈ l := fun x hx => List.mem_of_mem_erase hx
  have ia := (img_but (E := E) hn hc).2 ⟨a, ha, rfl⟩;have ib := (img_but (E := E) hn hc).2 ⟨b, hb, rfl⟩;have ic : okD (nearO l E) ((l.idxOf c : Nat) : Int) := (h1 _).1 ⟨c, hc, rfl⟩;exact (rch_iff hR hn hG m ha hb).2 ((hB.2 _ ic _ _ ia.1 ib.1 ia.2 ib.2).mono fun x hx => (img_but hn hc).1 hx)
 ·rintro ⟨hA, hC⟩;refine ⟨fun i j hi hj => ?_, fun c hc i j hi hj hic hjc => ?_⟩
  ·obtain ⟨a, ha, rfl⟩ := (h1 i).2 hi;obtain ⟨b, hb, rfl⟩ := (h1 j).2 hj;exact ((rch_iff hR hn hG (fun _ h => h) ha hb).1 (hA a ha b hb)).mono fun x hx => (h1 x).1 hx
  ·obtain ⟨z, hz, rfl⟩ := (h1 c).2 hc;obtain ⟨a, ha, rfl⟩ := (img_but hn hz).1 ⟨hi, hic⟩;obtain ⟨b, hb, rfl⟩ := (img_but hn hz).1 ⟨hj, hjc⟩;exact ((rch_iff hR hn hG (fun x hx => List.mem_of_mem_erase hx) ha hb).1 (hC z hz a ha b hb)).mono fun x hx => (img_but hn hz).2 hx
theorem conn_all (hR : RightP n E) (hn : l.Nodup) (hG : GraphD (nearO l E)) {k : List Int} (hk : ∀ x ∈ k, x ∈ l) (h0 : k ≠ []) : Conn E k ↔ AllC E k := by
 obtain ⟨h, hh⟩ : ∃ h, k.headD 0 = h := ⟨_, rfl⟩
 have hm : h ∈ k := by rw [<- hh]; cases k with | nil => exact absurd rfl h0 | cons a k => simp
 unfold Conn
 rw [hh]
 refine ⟨fun hc a ha b hb => ?_, fun hA v hv => hA h hm v hv⟩
 have e1 := (rch_iff hR hn hG hk hm ha).1 (hc a ha)
 have e2 := (rch_iff hR hn hG hk hm hb).1 (hc b hb)
 refine (rch_iff hR hn hG hk ha hb).2 ((e1.symm hG fun x hx => ?_).trans e2)
 obtain ⟨v, hv, rfl⟩ := hx
 exact (img_all hn).2 ⟨v, hk v hv, rfl⟩
theorem graphO (hR : RightP n E) (hl : l.length <= 1000) : GraphD (nearO l E) := by
 have hoR : ∀ p ∈ ownG l E, inR (l.length : Int) p := fun p hp => by
  unfold ownG at hp;obtain ⟨e, he, rfl⟩ := List.mem_map.1 hp;have hm := (List.mem_filter.1 he).2;unfold ownP at hm;simp only [Bool.and_eq_true, List.elem_eq_mem, decide_eq_true_eq] at hm;have q1 := List.idxOf_lt_length_of_mem hm.1;have q2 := List.idxOf_lt_length_of_mem hm.2;unfold inR;dsimp only;omega
 have := graph_nbrs (m := (l.length : Int)) (E := normE (ownG l E)) ⟨by omega, by omega, Nat.le_trans (normE_length _) (Nat.le_trans ownG_len hR.2.2.1), normE_ok hoR, normE_sorted _⟩
 rwa [Int.toNat_natCast] at this
theorem two_iff (hl : l.length <= 1000) : TwoP n E l ↔ 2 <= l.length /\ WholeP n E l /\ ∀ c ∈ l, WholeP n E (l.erase c) := by
 unfold TwoP
 constructor
 ·rintro ⟨hR, h2, hp, hB⟩;have hG := graphO (E := E) hR hl;have hB' := (bic_iff hR hp.1 hG).1 hB;have ne : l ≠ [] := fun e => by rw [e] at h2; simp at h2
  refine ⟨h2, ⟨hR, ne, hp.1, hp.2, (conn_all hR hp.1 hG (fun _ h => h) ne).2 hB'.1⟩, fun c hc => ?_⟩;have hle := List.length_erase_of_mem hc;have nee : l.erase c ≠ [] := fun e => by rw [e] at hle; simp at hle; omega
  exact ⟨hR, nee, hp.1.erase c, fun v hv => hp.2 v (List.mem_of_mem_erase hv), (conn_all hR hp.1 hG (fun x hx => List.mem_of_mem_erase hx) nee).2 (hB'.2 c hc)⟩
 ·rintro ⟨h2, hW, hC⟩;obtain ⟨hR, ne, hn, hr, hc⟩ := hW;have hG := graphO (E := E) hR hl;refine ⟨hR, h2, ⟨hn, hr⟩, (bic_iff hR hn hG).2 ⟨(conn_all hR hn hG (fun _ h => h) ne).1 hc, fun c hcl => ?_⟩⟩;obtain ⟨_, nee, _, _, hcc⟩ := hC c hcl;exact (conn_all hR hn hG (fun x hx => List.mem_of_mem_erase hx) nee).1 hcc
end
end Go.Sh
namespace Go.Sh
structure Ck where
 poles : List Ed
 used : List Int
 mid : Th
def Ck.pol (s : Ck) (i : Int) : Ed := s.poles.getD i.toNat (0, 0)
def Ck.usd (s : Ck) (i : Int) : Int := s.used.getD i.toNat 0
def FreeP (s : Ck) (x : Nd) : Prop := x.2.1 ≠ x.2.2 /\ 0 <= x.2.1 /\ 0 <= x.2.2 /\ x.2.1 < s.poles.length /\ x.2.2 < s.poles.length /\ s.usd x.2.1 + s.usd x.2.2 <= 0
instance (s : Ck) (x : Nd) : Decidable (FreeP s x) := by unfold FreeP; infer_instance
def midIn (m : Th) (v : Int) : Th := mapPut m [v] (mapGet m [v] + 1)
def ckStep (s : Ck) (x : Nd) : Option Ck :=
 if FreeP s x then
  (if x.1 = 1 then (if (middleF (s.pol x.2.1) (s.pol x.2.2)).2 = true then
    some { poles := s.poles ++ [(middleF (s.pol x.2.1) (s.pol x.2.2)).1.2], used := (s.used.set x.2.1.toNat 1).set x.2.2.toNat 1, mid := midIn s.mid (middleF (s.pol x.2.1) (s.pol x.2.2)).1.1 } else none)
   else if x.1 = 2 then (if s.pol x.2.1 = s.pol x.2.2 then
      some { poles := s.poles ++ [s.pol x.2.1], used := (s.used.set x.2.1.toNat 1).set x.2.2.toNat 1, mid := s.mid } else none)
   else none)
 else none
def ckRun : List Nd -> Ck -> Option Ck
 | [], s => some s
 | x :: t, s => match ckStep s x with
  | some s' => ckRun t s'
  | none => none
def ckStart (E : List Ed) (k : Nat) : Ck := { poles := E, used := List.replicate (E.length + k) 0, mid := [] }
def ckLast (s : Ck) : Ed := s.poles.getD (s.poles.length - 1) (0, 0)
def CkEnd (l : List Int) (s : Ck) : Prop := ∀ v ∈ l, mapGet s.mid [v] = if v = (ckLast s).1 \/ v = (ckLast s).2 then 0 else 1
instance (l : List Int) (s : Ck) : Decidable (CkEnd l s) := by unfold CkEnd; infer_instance
def ckB (E : List Ed) (l : List Int) (t : List Nd) : Bool := match ckRun t (ckStart (withL l E) t.length) with
 | some s => decide (CkEnd l s)
 | none => false
noncomputable def ckF (n : Int) (E : List Ed) (l : List Int) (t : List Nd) : Bool := twoB n E l && (decide (t.length + 1 = (withL l E).length) && ckB E l t)
def NodP (x y : Nd) : Prop := y = x \/ y = (x.1, x.2.2, x.2.1)
def Prop2 (x : Ed) : Prop := x.1 < x.2
theorem midL_iff : ∀ {L : List (Ed × Ed)}, (midL L).2 = true ↔ ∃ p ∈ L, p.1.2 = p.2.1 /\ p.1.1 ≠ p.2.2 := by
 intro L
 induction L with
 | nil => simp [midL]
 | cons p L ih =>
  obtain ⟨s, t⟩ := p;simp only [midL];by_cases h : s.2 = t.1 /\ s.1 ≠ t.2
  ·rw [if_pos h];exact ⟨fun _ => ⟨(s, t), List.mem_cons_self, h⟩, fun _ => rfl⟩
  ·rw [if_neg h, ih];constructor
   ·rintro ⟨p, hp, hh⟩; exact ⟨p, List.mem_cons_of_mem _ hp, hh⟩
   ·rintro ⟨p, hp, hh⟩;rcases List.mem_cons.1 hp with rfl | hp
    ·exact absurd hh h
    ·exact ⟨p, hp, hh⟩
theorem midL_get : ∀ {L : List (Ed × Ed)}, (midL L).2 = true -> ∃ p ∈ L, p.1.2 = p.2.1 /\ p.1.1 ≠ p.2.2 /\ midL L = ((p.1.2, pairF p.1.1 p.2.2), true) := by
 intro L
 induction L with
 | nil => intro h; simp [midL] at h
 | cons p L ih =>
  obtain ⟨s, t⟩ := p;intro h;simp only [midL] at h ⊢;by_cases hc : s.2 = t.1 /\ s.1 ≠ t.2
  ·rw [if_pos hc];exact ⟨(s, t), List.mem_cons_self, hc.1, hc.2, rfl⟩
  ·rw [if_neg hc] at h ⊢;obtain ⟨p, hp, h1, h2, h3⟩ := ih h;exact ⟨p, List.mem_cons_of_mem _ hp, h1, h2, h3⟩
def MidP (x y : Ed) (m a b : Int) : Prop := x = pairF a m /\ y = pairF m b /\ a ≠ b /\ a ≠ m /\ b ≠ m
theorem mem_sides2 {x y : Ed} {p : Ed × Ed} : p ∈ ((sides x).flatMap fun s => (sides y).map fun t => (s, t)) ↔ (p.1 = x \/ p.1 = (x.2, x.1)) /\ (p.2 = y \/ p.2 = (y.2, y.1)) := by
 have side : ∀ {x s : Ed}, s ∈ sides x ↔ s = x \/ s = (x.2, x.1) := fun {x s} => by
  unfold sides;rw [List.mem_cons, List.mem_singleton]
 rw [List.mem_flatMap]
 constructor
 ·rintro ⟨s, hs, hm⟩;obtain ⟨t, ht, e⟩ := List.mem_map.1 hm;subst e;exact ⟨side.1 hs, side.1 ht⟩
 ·rintro ⟨h1, h2⟩;exact ⟨p.1, side.2 h1, List.mem_map.2 ⟨p.2, side.2 h2, rfl⟩⟩
theorem side_pair {x s : Ed} (hx : Prop2 x) (h : s = x \/ s = (x.2, x.1)) : x = pairF s.1 s.2 /\ s.1 ≠ s.2 := by
 unfold Prop2 at hx
 rcases h with rfl | rfl
 ·exact ⟨(pairF_self _ hx).symm, by omega⟩
 ·exact ⟨by rw [pairF_comm]; exact (pairF_self _ hx).symm, by show x.2 ≠ x.1; omega⟩
theorem pair_side {x : Ed} {a b : Int} (h : x = pairF a b) : (a, b) = x \/ (a, b) = (x.2, x.1) := by
 rcases pairF_two a b with ⟨h1, h2⟩ | ⟨h1, h2⟩
 ·left; rw [h]; exact (Prod.ext h1 h2).symm
 ·right; rw [h, h1, h2]
theorem middle_yes {x y : Ed} (hx : Prop2 x) (hy : Prop2 y) (h : (middleF x y).2 = true) : ∃ m a b, MidP x y m a b /\ middleF x y = ((m, pairF a b), true) := by
 obtain ⟨⟨s, t⟩, hp, h1, h2, h3⟩ := midL_get h
 obtain ⟨hs, ht⟩ := mem_sides2.1 hp
 obtain ⟨q1, q2⟩ := side_pair hx hs
 obtain ⟨q3, q4⟩ := side_pair hy ht
 dsimp only at h1 h2 h3 q1 q2 q3 q4
 refine ⟨s.2, s.1, t.2, ⟨q1, by rw [h1]; exact q3, h2, q2, by rw [h1]; exact Ne.symm q4⟩, h3⟩
theorem middle_no {x y : Ed} {m a b : Int} (h : MidP x y m a b) : (middleF x y).2 = true := by
 obtain ⟨h1, h2, h3, _, _⟩ := h
 exact midL_iff.2 ⟨((a, m), (m, b)), mem_sides2.2 ⟨pair_side h1, pair_side h2⟩, rfl, h3⟩
theorem MidP.uniq {x y : Ed} {m a b m' a' b' : Int} (h : MidP x y m a b) (k : MidP x y m' a' b') : m = m' /\ a = a' /\ b = b' := by
 obtain ⟨h1, h2, h3, h4, h5⟩ := h
 obtain ⟨k1, k2, k3, k4, k5⟩ := k
 rw [h1, pairF_inj] at k1
 rw [h2, pairF_inj] at k2
 omega
theorem MidP.swap {x y : Ed} {m a b : Int} (h : MidP x y m a b) : MidP y x m b a := ⟨by rw [pairF_comm]; exact h.2.1, by rw [pairF_comm]; exact h.1, Ne.symm h.2.2.1, h.2.2.2.2, h.2.2.2.1⟩
def CkI (s : Ck) : Prop := ∀ x ∈ s.poles, Prop2 x
theorem CkI.pol {s : Ck} (h : CkI s) {i : Int} (h1 : i < s.poles.length) (h0 : 0 <= i) : Prop2 (s.pol i) /\ s.poles[i.toNat]? = some (s.pol i) := by
 unfold Ck.pol
 have hl : i.toNat < s.poles.length := by omega
 rw [qDq, qEq hl]
 exact ⟨h _ (List.getElem_mem hl), rfl⟩
inductive StepP (s : Ck) (x : Nd) (s' : Ck) : Prop
 | ser (m a b : Int) (op : x.1 = 1) (free : FreeP s x) (mid : MidP (s.pol x.2.1) (s.pol x.2.2) m a b) (is : s' = { poles := s.poles ++ [pairF a b], used := (s.used.set x.2.1.toNat 1).set x.2.2.toNat 1, mid := midIn s.mid m })
 | par (op : x.1 = 2) (free : FreeP s x) (same : s.pol x.2.1 = s.pol x.2.2) (is : s' = { poles := s.poles ++ [s.pol x.2.1], used := (s.used.set x.2.1.toNat 1).set x.2.2.toNat 1, mid := s.mid })
theorem ckStep_iff {s : Ck} (h : CkI s) {x : Nd} {s' : Ck} : ckStep s x = some s' ↔ StepP s x s' := by
 unfold ckStep
 by_cases hf : FreeP s x
 ·rw [if_pos hf];have p1 := (h.pol hf.2.2.2.1 hf.2.1).1;have p2 := (h.pol hf.2.2.2.2.1 hf.2.2.1).1;by_cases h1 : x.1 = 1
  ·rw [if_pos h1];by_cases hm : (middleF (s.pol x.2.1) (s.pol x.2.2)).2 = true
   ·rw [if_pos hm];obtain ⟨m, a, b, k, e⟩ := middle_yes p1 p2 hm;rw [e];constructor
    ·intro hs;injection hs with hs
     exact .ser m a b h1 hf k hs.symm
    ·rintro (⟨m', a', b', _, _, k', rfl⟩ | ⟨h2, _, _, _⟩)
     ·obtain ⟨rfl, rfl, rfl⟩ := k.uniq k'
      rfl
     ·omega
   ·rw [if_neg hm];constructor
    ·intro hs; simp at hs
    ·rintro (⟨m', a', b', _, _, k', rfl⟩ | ⟨h2, _, _, _⟩)
     ·exact absurd (middle_no k') hm
     ·omega
  ·rw [if_neg h1];by_cases h2 : x.1 = 2
   ·rw [if_pos h2];by_cases he : s.pol x.2.1 = s.pol x.2.2
    ·rw [if_pos he];constructor
     ·intro hs;injection hs with hs
      exact .par h2 hf he hs.symm
     ·rintro (⟨m', a', b', h3, _, k', rfl⟩ | ⟨_, _, _, rfl⟩)
      ·omega
      ·rfl
    ·rw [if_neg he];constructor
     ·intro hs; simp at hs
     ·rintro (⟨m', a', b', h3, _, k', rfl⟩ | ⟨_, _, he', rfl⟩)
      ·omega
      ·exact absurd he' he
   ·rw [if_neg h2];constructor
    ·intro hs; simp at hs
    ·rintro (⟨m', a', b', h3, _, k', rfl⟩ | ⟨h3, _, he', rfl⟩) <;> omega
 ·rw [if_neg hf];constructor
  ·intro hs; simp at hs
  ·rintro (⟨m', a', b', h3, hf', k', rfl⟩ | ⟨h3, hf', he', rfl⟩) <;> exact absurd hf' hf
theorem StepP.inv {s s' : Ck} {x : Nd} (h : CkI s) (hs : StepP s x s') : CkI s' := by
 cases hs with
 | ser m a b op free mid is =>
  subst is;intro y hy;rcases List.mem_append.1 hy with hy | hy
  ·exact h y hy
  ·rw [List.mem_singleton] at hy; subst hy; exact pairF_lt mid.2.2.1
 | par op free same is =>
  subst is;intro y hy;rcases List.mem_append.1 hy with hy | hy
  ·exact h y hy
  ·rw [List.mem_singleton] at hy; subst hy; exact (h.pol free.2.2.2.1 free.2.1).1
theorem set_comm2 {l : List Int} {i j : Nat} : (l.set i 1).set j 1 = (l.set j 1).set i (1 : Int) := by
 by_cases h : i = j
 ·subst h; rfl
 ·exact List.set_comm _ _ h
theorem StepP.turn {s s' : Ck} {x y : Nd} (hxy : NodP x y) (hs : StepP s x s') : StepP s y s' := by
 rcases hxy with rfl | rfl
 ·exact hs
 cases hs with
 | ser m a b op free mid is =>
  subst is;obtain ⟨f1, f2, f3, f4, f5, f6⟩ := free;exact .ser m b a op ⟨Ne.symm f1, f3, f2, f5, f4, by show s.usd x.2.2 + s.usd x.2.1 <= 0; omega⟩ mid.swap (by rw [pairF_comm a b, set_comm2])
 | par op free same is =>
  subst is;obtain ⟨f1, f2, f3, f4, f5, f6⟩ := free;exact .par op ⟨Ne.symm f1, f3, f2, f5, f4, by show s.usd x.2.2 + s.usd x.2.1 <= 0; omega⟩ same.symm (by rw [same, set_comm2])
theorem NodP.symm {x y : Nd} (h : NodP x y) : NodP y x := by
 rcases h with rfl | rfl
 ·exact .inl rfl
 ·exact .inr rfl
theorem start_inv {n : Int} {E : List Ed} {l : List Int} (hR : RightP n E) (k : Nat) : CkI (ckStart (withL l E) k) := fun x hx => by
 have := (withL_ok (l := l) hR).1 x hx
 unfold okE at this
 exact this.2.1
end Go.Sh
namespace Go.Sh
def othL (x y : List Int) : List Int := (x.filter fun a => !y.elem a) ++ (y.filter fun a => !x.elem a)
def polesR (E : List Ed) (t : List Nd) : Nat -> Int -> List Int × Bool
 | 0, _ => ([], false)
 | f + 1, at_ => if at_ < 0 \/ ((E.length + t.length : Nat) : Int) <= at_ then ([], false) else
   if at_ < E.length then ([(E.getD at_.toNat (0, 0)).1, (E.getD at_.toNat (0, 0)).2], true) else
   if at_ <= (t.getD (at_ - E.length).toNat (0, 0, 0)).2.1 \/ at_ <= (t.getD (at_ - E.length).toNat (0, 0, 0)).2.2 \/ (t.getD (at_ - E.length).toNat (0, 0, 0)).2.1 = (t.getD (at_ - E.length).toNat (0, 0, 0)).2.2 then ([], false) else
   if (polesR E t f (t.getD (at_ - E.length).toNat (0, 0, 0)).2.1).2 = false then ([], false) else
   if (polesR E t f (t.getD (at_ - E.length).toNat (0, 0, 0)).2.2).2 = false then ([], false) else
   if (t.getD (at_ - E.length).toNat (0, 0, 0)).1 = 2 /\ ((polesR E t f (t.getD (at_ - E.length).toNat (0, 0, 0)).2.1).1.countP fun a => (polesR E t f (t.getD (at_ - E.length).toNat (0, 0, 0)).2.2).1.elem a) = 2 then ((polesR E t f (t.getD (at_ - E.length).toNat (0, 0, 0)).2.1).1, true) else
   (othL (polesR E t f (t.getD (at_ - E.length).toNat (0, 0, 0)).2.1).1 (polesR E t f (t.getD (at_ - E.length).toNat (0, 0, 0)).2.2).1,
    decide ((t.getD (at_ - E.length).toNat (0, 0, 0)).1 = 1 /\ ((polesR E t f (t.getD (at_ - E.length).toNat (0, 0, 0)).2.1).1.countP fun a => (polesR E t f (t.getD (at_ - E.length).toNat (0, 0, 0)).2.2).1.elem a) = 1))
def nodeR (x : Nd) (p q : List Int × Bool) : List Int × Bool :=
 if p.2 = false then ([], false) else if q.2 = false then ([], false) else
 if x.1 = 2 /\ (p.1.countP fun a => q.1.elem a) = 2 then (p.1, true) else (othL p.1 q.1, decide (x.1 = 1 /\ (p.1.countP fun a => q.1.elem a) = 1))
theorem polesR_out {E : List Ed} {t : List Nd} {f : Nat} {i : Int} (h : i < 0 \/ ((E.length + t.length : Nat) : Int) <= i) : polesR E t f i = ([], false) := by
 cases f with
 | zero => rfl
 | succ f => simp only [polesR]; rw [if_pos h]
theorem polesR_edge {E : List Ed} {t : List Nd} {f : Nat} {i : Int} (h0 : 0 <= i) (h : i < E.length) : polesR E t (f + 1) i = ([(E.getD i.toNat (0, 0)).1, (E.getD i.toNat (0, 0)).2], true) := by
 simp only [polesR]
 rw [if_neg (by omega), if_pos h]
theorem polesR_node {E : List Ed} {t : List Nd} {f : Nat} {k : Nat} {x : Nd} (hk : t[k]? = some x) : polesR E t (f + 1) ((E.length + k : Nat) : Int) =
  if ((E.length + k : Nat) : Int) <= x.2.1 \/ ((E.length + k : Nat) : Int) <= x.2.2 \/ x.2.1 = x.2.2 then ([], false) else nodeR x (polesR E t f x.2.1) (polesR E t f x.2.2) := by
 have hkl := (qSq.1 hk).1
 have e1 : (((E.length + k : Nat) : Int) - (E.length : Int)).toNat = k := by omega
 have e2 : t.getD k (0, 0, 0) = x := by rw [qDq, hk]; rfl
 simp only [polesR, nodeR, e1, e2]
 rw [if_neg (by omega), if_neg (by omega)]
theorem polesR_fuel {E : List Ed} {t : List Nd} : ∀ {f g : Nat} {i : Int}, i < f -> i < g -> polesR E t f i = polesR E t g i := by
 intro f
 induction f with
 | zero => intro g i h _; rw [polesR_out (.inl (by omega)), polesR_out (.inl (by omega))]
 | succ f ih =>
  intro g i hf hg;by_cases h0 : i < 0 \/ ((E.length + t.length : Nat) : Int) <= i
  ·rw [polesR_out h0, polesR_out h0]
  ·obtain ⟨g, rfl⟩ : ∃ g', g = g' + 1 := ⟨g - 1, by omega⟩;by_cases h1 : i < E.length
   ·rw [polesR_edge (by omega) h1, polesR_edge (by omega) h1]
   ·obtain ⟨k, rfl⟩ : ∃ k : Nat, i = ((E.length + k : Nat) : Int) := ⟨(i - E.length).toNat, by omega⟩;have hk : t[k]? = some (t[k]'(by omega)) := qEq (by omega);rw [polesR_node hk, polesR_node hk];split
    ·rfl
    ·rename_i hc;rw [ih (g := g) (by omega) (by omega), ih (g := g) (i := (t[k]'(by omega)).2.2) (by omega) (by omega)]
def polR (E : List Ed) (t : List Nd) (i : Int) : List Int × Bool := polesR E t (E.length + t.length + 1) i
theorem polR_edge {E : List Ed} {t : List Nd} {i : Nat} {e : Ed} (h : E[i]? = some e) : polR E t i = ([e.1, e.2], true) := by
 have hl := (qSq.1 h).1
 unfold polR
 rw [polesR_edge (by omega) (by omega)]
 have : E.getD ((i : Nat) : Int).toNat (0, 0) = e := by rw [qDq, Int.toNat_natCast, h]; rfl
 rw [this]
theorem polR_out {E : List Ed} {t : List Nd} {i : Int} (h : i < 0 \/ ((E.length + t.length : Nat) : Int) <= i) : polR E t i = ([], false) := polesR_out h
theorem polR_node {E : List Ed} {t : List Nd} {k : Nat} {x : Nd} (hk : t[k]? = some x) : polR E t ((E.length + k : Nat) : Int) =
  if ((E.length + k : Nat) : Int) <= x.2.1 \/ ((E.length + k : Nat) : Int) <= x.2.2 \/ x.2.1 = x.2.2 then ([], false) else nodeR x (polR E t x.2.1) (polR E t x.2.2) := by
 have hkl := (qSq.1 hk).1
 unfold polR
 rw [polesR_node hk]
 split
 ·rfl
 ·rename_i hc;rw [polesR_fuel (g := E.length + t.length + 1) (by omega) (by omega), polesR_fuel (g := E.length + t.length + 1) (i := x.2.2) (by omega) (by omega)]
def serAt (E : List Ed) (t : List Nd) (v : Int) (x : Nd) : Bool := decide (x.1 = 1) && ((polR E t x.2.1).1.elem v && (polR E t x.2.2).1.elem v)
def timesR (E : List Ed) (t : List Nd) (v : Int) : Nat := t.countP (serAt E t v)
def RefP (E : List Ed) (l : List Int) (t : List Nd) : Prop := OnceP E.length t /\ (polR E t ((E.length + t.length : Nat) - 1 : Int)).2 = true /\ ∀ v ∈ l, (∀ k : Nat, k < t.length -> (polR E t ((E.length + k : Nat) : Int)).2 = true) /\ (v ∈ (polR E t ((E.length + t.length : Nat) - 1 : Int)).1 ↔ timesR E t v = 0) /\ timesR E t v <= 1
instance (E : List Ed) (l : List Int) (t : List Nd) : Decidable (RefP E l t) := by unfold RefP; infer_instance
def isPol (r : List Int × Bool) (e : Ed) : Prop := r.2 = true /\ (r.1 = [e.1, e.2] \/ r.1 = [e.2, e.1])
theorem isPol.mem {r : List Int × Bool} {e : Ed} (h : isPol r e) {v : Int} : v ∈ r.1 ↔ v = e.1 \/ v = e.2 := by
 rcases h.2 with h | h <;> rw [h] <;> simp
 exact or_comm
theorem isPol.pair {r : List Int × Bool} {a b : Int} (h : isPol r (pairF a b)) : r = ([a, b], true) \/ r = ([b, a], true) := by
 obtain ⟨p, q⟩ := r
 obtain ⟨rfl, h⟩ := h
 rcases pairF_two a b with ⟨h1, h2⟩ | ⟨h1, h2⟩ <;> rw [h1, h2] at h <;> rcases h with h | h <;> simp at h <;> subst h <;> simp
theorem pairF_pol {r : List Int × Bool} {a b : Int} (h : r = ([a, b], true) \/ r = ([b, a], true)) : isPol r (pairF a b) := by
 rcases pairF_two a b with ⟨h1, h2⟩ | ⟨h1, h2⟩ <;> rcases h with rfl | rfl <;> refine ⟨rfl, ?_⟩ <;> rw [h1, h2] <;> simp
theorem node_ser {x : Nd} {p q : List Int × Bool} {m a b : Int} (hx : x.1 = 1) (hp : isPol p (pairF a m)) (hq : isPol q (pairF m b)) (h1 : a ≠ b) (h2 : a ≠ m) (h3 : b ≠ m) : isPol (nodeR x p q) (pairF a b) := by
 refine pairF_pol ?_
 have hma := Ne.symm h2
 have hmb := Ne.symm h3
 have hba := Ne.symm h1
 rcases hp.pair with rfl | rfl <;> rcases hq.pair with rfl | rfl <;> simp [nodeR, hx, othL, List.filter, h1, h2, h3, hma, hmb, hba]
theorem node_par {x : Nd} {p q : List Int × Bool} {e : Ed} (hx : x.1 = 2) (hp : isPol p e) (hq : isPol q e) : nodeR x p q = p := by
 obtain ⟨p1, p2⟩ := p
 obtain ⟨q1, q2⟩ := q
 obtain ⟨rfl, hp⟩ := hp
 obtain ⟨rfl, hq⟩ := hq
 rcases hp with rfl | rfl <;> rcases hq with rfl | rfl <;> simp [nodeR, hx]
theorem node_inv {x : Nd} {p q : List Int × Bool} {e f : Ed} (he : Prop2 e) (hf : Prop2 f) (hp : isPol p e) (hq : isPol q f) (h : (nodeR x p q).2 = true) : (x.1 = 1 /\ ∃ m a b, MidP e f m a b) \/ (x.1 = 2 /\ e = f) := by
 unfold nodeR at h
 rw [if_neg (by rw [hp.1]; simp), if_neg (by rw [hq.1]; simp)] at h
 unfold Prop2 at he hf
 have cnt : (p.1.countP fun a => q.1.elem a) = (if e.1 = f.1 \/ e.1 = f.2 then 1 else 0) + (if e.2 = f.1 \/ e.2 = f.2 then 1 else 0) := by
  have hel : ∀ a, q.1.elem a = decide (a = f.1 \/ a = f.2) := fun a => by
   rw [List.elem_eq_mem]; exact decide_eq_decide.2 hq.mem
  rcases hp.2 with h | h <;> rw [h] <;> simp only [List.countP_cons, List.countP_nil, hel, decide_eq_true_eq] <;> omega
 rw [cnt] at h
 by_cases h2 : x.1 = 2 /\ ((if e.1 = f.1 \/ e.1 = f.2 then 1 else 0) + (if e.2 = f.1 \/ e.2 = f.2 then 1 else 0) : Nat) = 2
 ·right
  refine ⟨h2.1, ?_⟩;have h2 := h2.2;by_cases c1 : e.1 = f.1 \/ e.1 = f.2 <;> by_cases c2 : e.2 = f.1 \/ e.2 = f.2 <;> simp only [c1, c2, if_true, if_false] at h2 <;> first | omega | skip
  exact Prod.ext (by omega) (by omega)
 ·rw [if_neg h2] at h;obtain ⟨h3, h4⟩ := of_decide_eq_true h
  left
  refine ⟨h3, ?_⟩;by_cases c1 : e.1 = f.1 \/ e.1 = f.2
  ·have c2 : ¬ (e.2 = f.1 \/ e.2 = f.2) := fun c2 => by rw [if_pos c1, if_pos c2] at h4; omega
   rcases c1 with c1 | c1
   ·exact ⟨e.1, e.2, f.2, by rw [pairF_comm]; exact (pairF_self e he).symm, by rw [c1]; exact (pairF_self f hf).symm, by omega, by omega, by omega⟩
   ·exact ⟨e.1, e.2, f.1, by rw [pairF_comm]; exact (pairF_self e he).symm, by rw [c1, pairF_comm]; exact (pairF_self f hf).symm, by omega, by omega, by omega⟩
  ·have c2 : e.2 = f.1 \/ e.2 = f.2 := Classical.byContradiction fun c2 => by rw [if_neg c1, if_neg c2] at h4; omega
   rcases c2 with c2 | c2
   ·exact ⟨e.2, e.1, f.2, (pairF_self e he).symm, by rw [c2]; exact (pairF_self f hf).symm, by omega, by omega, by omega⟩
   ·exact ⟨e.2, e.1, f.1, (pairF_self e he).symm, by rw [c2, pairF_comm]; exact (pairF_self f hf).symm, by omega, by omega, by omega⟩
structure PreI (E : List Ed) (t : List Nd) (j : Nat) (s : Ck) : Prop where
 ck : CkI s
 len : s.poles.length = E.length + j
 pol : ∀ i : Nat, i < E.length + j -> isPol (polR E t i) (s.pol i)
 ulen : s.used.length = E.length + t.length
 usd : ∀ i : Nat, i < E.length + t.length -> s.usd i = cntN (t.take j) i /\ cntN (t.take j) i <= 1
 rng : ∀ x ∈ t.take j, 0 <= x.2.1 /\ 0 <= x.2.2 /\ x.2.1 < ((E.length + j : Nat) : Int) - 1 /\ x.2.2 < ((E.length + j : Nat) : Int) - 1
 mid : ∀ v, mapGet s.mid [v] = ((t.take j).countP (serAt E t v) : Nat)
theorem pre_start {E : List Ed} {t : List Nd} (hE : ∀ e ∈ E, Prop2 e) : PreI E t 0 (ckStart E t.length) := by
 refine ⟨hE, rfl, fun i hi => ?_, by simp [ckStart], fun i hi => ?_, fun x hx => by simp at hx, fun v => rfl⟩
 ·have hl : i < E.length := by omega
  have he : E[i]? = some E[i] := qEq hl;rw [polR_edge he];have : (ckStart E t.length).pol i = E[i] := by
   unfold Ck.pol ckStart;rw [Int.toNat_natCast, qDq, he]; rfl
  rw [this];exact ⟨rfl, .inl rfl⟩
 ·refine ⟨?_, by simp [cntN]⟩;show (List.replicate (E.length + t.length) (0 : Int)).getD ((i : Nat) : Int).toNat 0 = _
  rw [Int.toNat_natCast, qDq, List.getElem?_replicate, if_pos hi];simp [cntN]
theorem used2 {s : Ck} {L R : Int} {N : Nat} (hN : s.used.length = N) (h0 : 0 <= L) (h1 : L < N) (k0 : 0 <= R) (k1 : R < N) {i : Nat} (hi : i < N) : ((s.used.set L.toNat 1).set R.toNat 1).getD i 0 = if L = i \/ R = i then 1 else s.used.getD i 0 := by
 rw [qDq, List.getElem?_set, List.length_set, hN]
 by_cases c2 : R.toNat = i
 ·rw [if_pos c2, if_pos (by omega), if_pos (by omega)]; rfl
 ·rw [if_neg c2, List.getElem?_set, hN];by_cases c1 : L.toNat = i
  ·rw [if_pos c1, if_pos (by omega), if_pos (by omega)]; rfl
  ·rw [if_neg c1, if_neg (by omega), <- qDq]
theorem pol_app {s : Ck} {e : Ed} {P : List Ed} {used : List Int} {mid : Th} (hP : s.poles = P) {i : Nat} : Ck.pol { poles := P ++ [e], used := used, mid := mid } (i : Nat) = if i < P.length then s.pol i else if i = P.length then e else (0, 0) := by
 unfold Ck.pol
 rw [Int.toNat_natCast, qDq]
 rcases Nat.lt_trichotomy i P.length with h | h | h
 ·rw [if_pos h, qLq h, <- qDq, hP]
 ·rw [if_neg (by omega), if_pos h, h]; simp
 ·rw [if_neg (by omega), if_neg (by omega), List.getElem?_eq_none (by simp; omega)]; rfl
theorem pre_step {E : List Ed} {t : List Nd} {j : Nat} {s s' : Ck} {x : Nd} (h : PreI E t j s) (hx : t[j]? = some x) (hs : StepP s x s') : PreI E t (j + 1) s' := by
 have hjl := (qSq.1 hx).1
 have hts : t.take (j + 1) = t.take j ++ [x] := by rw [List.take_add_one, hx]; rfl
 have free : FreeP s x := by cases hs <;> assumption
 obtain ⟨f1, f2, f3, f4, f5, f6⟩ := free
 rw [h.len] at f4 f5
 obtain ⟨L, hL⟩ : ∃ L : Nat, x.2.1 = (L : Nat) := ⟨x.2.1.toNat, by omega⟩
 obtain ⟨R, hR⟩ : ∃ R : Nat, x.2.2 = (R : Nat) := ⟨x.2.2.toNat, by omega⟩
 have pL := h.pol L (by omega)
 have pR := h.pol R (by omega)
 have uL := h.usd L (by omega)
 have uR := h.usd R (by omega)
 rw [hL, hR] at f6
 have hn := polR_node (E := E) hx
 rw [if_neg (by omega), hL, hR] at hn
 have srt : ∀ v, serAt E t v x = (decide (x.1 = 1) && ((polR E t L).1.elem v && (polR E t R).1.elem v)) := fun v => by unfold serAt; rw [hL, hR]
 have cut : ∀ (e : Ed) (mid' : Th), s' = { poles := s.poles ++ [e], used := (s.used.set x.2.1.toNat 1).set x.2.2.toNat 1, mid := mid' } -> isPol (polR E t ((E.length + j : Nat) : Int)) e -> (∀ v, mapGet mid' [v] = ((t.take j).countP (serAt E t v) : Nat) + (if serAt E t v x = true then 1 else 0)) -> PreI E t (j + 1) s' := by
  intro e mid' hs' hpe hmid;have hck := hs.inv h.ck;subst hs';refine ⟨hck, by simp [h.len]; omega, fun i hi => ?_, by simp [h.ulen], fun i hi => ?_, fun y hy => ?_, fun v => ?_⟩
  ·rw [pol_app rfl, h.len];by_cases hi2 : i < E.length + j
   ·rw [if_pos hi2]; exact h.pol i hi2
   ·have : i = E.length + j := by omega
    subst this;rw [if_neg (by omega), if_pos rfl]; exact hpe
  ·have hu := h.usd i hi;have : Ck.usd { poles := s.poles ++ [e], used := (s.used.set x.2.1.toNat 1).set x.2.2.toNat 1, mid := mid' } (i : Nat) = if x.2.1 = i \/ x.2.2 = i then 1 else s.usd (i : Nat) := by
    unfold Ck.usd;rw [Int.toNat_natCast];exact used2 h.ulen f2 (by omega) f3 (by omega) hi
   rw [this, hts, cntN_snoc];by_cases c1 : x.2.1 = i
   ·have : x.2.2 ≠ i := by omega
    have : i = L := by omega
    subst this;rw [if_pos (.inl c1), if_pos c1, if_neg (by omega)];omega
   ·by_cases c2 : x.2.2 = i
    ·have : i = R := by omega
     subst this;rw [if_pos (.inr c2), if_neg c1, if_pos c2];omega
    ·rw [if_neg (by omega), if_neg c1, if_neg c2];omega
  ·rw [hts] at hy;rcases List.mem_append.1 hy with hy | hy
   ·have := h.rng y hy; omega
   ·rw [List.mem_singleton] at hy; subst hy; omega
  ·rw [hts, List.countP_append, List.countP_singleton];show mapGet mid' [v] = _
   rw [hmid v];split <;> omega
 cases hs with
 | ser m a b op free mid is =>
  rw [hL, hR] at mid;rw [mid.1] at pL;rw [mid.2.1] at pR;refine cut (pairF a b) (midIn s.mid m) is ?_ fun v => ?_
  ·rw [hn]; exact node_ser op pL pR mid.2.2.1 mid.2.2.2.1 mid.2.2.2.2
  ·unfold midIn;rw [mapGet_put, h.mid m];have e1 : (polR E t L).1.elem v = decide (v = a \/ v = m) := by
    rw [List.elem_eq_mem];refine decide_eq_decide.2 ?_;rcases pL.pair with e | e <;> rw [e] <;> simp
    exact or_comm
   have e2 : (polR E t R).1.elem v = decide (v = m \/ v = b) := by
    rw [List.elem_eq_mem];refine decide_eq_decide.2 ?_;rcases pR.pair with e | e <;> rw [e] <;> simp
    exact or_comm
   have e3 : serAt E t v x = decide (v = m) := by
    rw [srt, e1, e2, op];simp only [decide_true, Bool.true_and, <- Bool.decide_and];refine decide_eq_decide.2 ?_;have := mid.2.2;constructor
    ·rintro ⟨h1, h2⟩; omega
    ·rintro rfl; exact ⟨.inr rfl, .inl rfl⟩
   rw [e3];by_cases hv : v = m
   ·subst hv;rw [if_pos rfl, if_pos (by simp)]
   ·rw [if_neg (by simpa using Ne.symm hv), if_neg (by simpa using hv), h.mid v]; simp
 | par op free same is =>
  rw [hL, hR] at same;refine cut (s.pol x.2.1) s.mid is ?_ fun v => ?_
  ·rw [hn, hL, node_par op pL (by rw [same]; exact pR)]; exact pL
  ·rw [h.mid v, if_neg]
   ·simp
   ·rw [srt, op]; simp
theorem cnt_split {t : List Nd} {j : Nat} {x : Nd} (hx : t[j]? = some x) (a : Int) : cntN (t.take j) a + (if x.2.1 = a then 1 else 0) + (if x.2.2 = a then 1 else 0) <= cntN t a := by
 have hts : t.take (j + 1) = t.take j ++ [x] := by rw [List.take_add_one, hx]; rfl
 rw [<- cntN_snoc, <- hts]
 unfold cntN
 have h1 := (List.take_sublist (j + 1) t).countP_le (p := fun x => x.2.1 == a)
 have h2 := (List.take_sublist (j + 1) t).countP_le (p := fun x => x.2.2 == a)
 omega
theorem ref_step {E : List Ed} {t : List Nd} {j : Nat} {s : Ck} {x : Nd} (h : PreI E t j s) (hx : t[j]? = some x) (ho : OnceP E.length t) (hp : (polR E t ((E.length + j : Nat) : Int)).2 = true) : ∃ s', StepP s x s' := by
 have hjl := (qSq.1 hx).1
 rw [polR_node hx] at hp
 split at hp
 ·simp at hp
 rename_i hc
 have okL : 0 <= x.2.1 := by
  refine Classical.byContradiction fun hn => ?_
  rw [polR_out (.inl (by omega) : x.2.1 < 0 \/ _)] at hp;simp [nodeR] at hp
 have okR : 0 <= x.2.2 := by
  refine Classical.byContradiction fun hn => ?_
  rw [polR_out (.inl (by omega) : x.2.2 < 0 \/ _)] at hp;simp [nodeR] at hp
 obtain ⟨L, hL⟩ : ∃ L : Nat, x.2.1 = (L : Nat) := ⟨x.2.1.toNat, by omega⟩
 obtain ⟨R, hR⟩ : ∃ R : Nat, x.2.2 = (R : Nat) := ⟨x.2.2.toNat, by omega⟩
 have pL := h.pol L (by omega)
 have pR := h.pol R (by omega)
 have uL := h.usd L (by omega)
 have uR := h.usd R (by omega)
 have kL := cnt_split hx (L : Nat)
 have kR := cnt_split hx (R : Nat)
 rw [if_pos hL] at kL
 rw [if_pos hR] at kR
 have oL := ho L (by omega)
 have oR := ho R (by omega)
 have free : FreeP s x := by
  refine ⟨by omega, okL, okR, by rw [h.len]; omega, by rw [h.len]; omega, ?_⟩;rw [hL, hR, uL.1, uR.1];split at oL <;> split at oR <;> omega
 rw [hL, hR] at hp
 have q1 : Prop2 (s.pol L) := (h.ck.pol (by rw [h.len]; omega) (by omega)).1
 have q2 : Prop2 (s.pol R) := (h.ck.pol (by rw [h.len]; omega) (by omega)).1
 rcases node_inv q1 q2 pL pR hp with ⟨op, m, a, b, k⟩ | ⟨op, k⟩
 ·exact ⟨_, .ser m a b op free (by rw [hL, hR]; exact k) rfl⟩
 ·exact ⟨_, .par op free (by rw [hL, hR]; exact k) rfl⟩
theorem run_pre {E : List Ed} {t : List Nd} : ∀ (k j : Nat) {s : Ck}, t.length - j = k -> j <= t.length -> PreI E t j s -> (∀ s', ckRun (t.drop j) s = some s' -> PreI E t t.length s') /\ (OnceP E.length t -> (∀ i : Nat, i < t.length -> (polR E t ((E.length + i : Nat) : Int)).2 = true) -> ∃ s', ckRun (t.drop j) s = some s') := by
 intro k
 induction k with
 | zero =>
  intro j s hk hj h;have : j = t.length := by omega
  subst this;rw [List.drop_length];exact ⟨fun s' hs => by simp only [ckRun] at hs; injection hs with hs; subst hs; exact h, fun _ _ => ⟨s, rfl⟩⟩
 | succ k ih =>
  intro j s hk hj h;have hlt : j < t.length := by omega
  have hx : t[j]? = some t[j] := qEq hlt;rw [List.drop_eq_getElem_cons hlt];simp only [ckRun];constructor
  ·intro s' hs
   cases h1 : ckStep s t[j] with
   | none => rw [h1] at hs; simp at hs
   | some s1 =>
    rw [h1] at hs;exact (ih (j + 1) (by omega) (by omega) (pre_step h hx ((ckStep_iff h.ck).1 h1))).1 s' hs
  ·intro ho hp;obtain ⟨s1, h1⟩ := ref_step h hx ho (hp j hlt);obtain ⟨s', hs'⟩ := (ih (j + 1) (by omega) (by omega) (pre_step h hx h1)).2 ho hp;exact ⟨s', by rw [(ckStep_iff h.ck).2 h1]; exact hs'⟩
theorem cnt_sum {N : Nat} : ∀ {t : List Nd}, (∀ x ∈ t, 0 <= x.2.1 /\ 0 <= x.2.2 /\ x.2.1 < N /\ x.2.2 < N) -> ((List.range N).map fun i => cntN t (i : Nat)).sum = 2 * t.length := by
 have zs : ∀ l : List Nat, (l.map fun _ => 0).sum = 0 := fun l => by
  induction l with
  | nil => rfl
  | cons a l ih => rw [List.map_cons, List.sum_cons, ih]
 have one : ∀ {a : Int} {N : Nat}, 0 <= a -> a < N -> ((List.range N).map fun (i : Nat) => if a = (i : Int) then 1 else 0).sum = 1 := by
  intro a N h0
  induction N with
  | zero => intro h; omega
  | succ N ih =>
   intro h;rw [List.range_succ, List.map_append, List.sum_append];by_cases e : a = (N : Nat)
   ·have z : ((List.range N).map fun (i : Nat) => if a = (i : Int) then 1 else 0).sum = 0 := by
     rw [show ((List.range N).map fun (i : Nat) => if a = (i : Int) then 1 else 0) = (List.range N).map fun _ => 0 from List.map_congr_left fun i hi => if_neg (by have := List.mem_range.1 hi; omega)];exact zs _
    rw [z]; simp [e]
   ·rw [ih (by omega)]; simp [e]
 have add : ∀ (f g : Nat -> Nat) (l : List Nat), (l.map fun i => f i + g i).sum = (l.map f).sum + (l.map g).sum := by
  intro f g l
  induction l with
  | nil => rfl
  | cons a l ih => simp only [List.map_cons, List.sum_cons, ih]; omega
 intro t
 induction t with
 | nil => intro _; rw [show ((List.range N).map fun i => cntN [] (i : Nat)) = (List.range N).map fun _ => 0 from List.map_congr_left fun i _ => rfl]; exact zs _
 | cons x t ih =>
  intro h;have hx := h x List.mem_cons_self;have e : ((List.range N).map fun (i : Nat) => cntN (x :: t) (i : Int)) = (List.range N).map fun (i : Nat) => (cntN t (i : Int) + (if x.2.1 = (i : Int) then 1 else 0)) + (if x.2.2 = (i : Int) then 1 else 0) := by
   refine List.map_congr_left fun i _ => ?_
   unfold cntN;rw [List.countP_cons, List.countP_cons];simp only [beq_iff_eq];omega
  rw [e, add, add, ih fun y hy => h y (List.mem_cons_of_mem _ hy), one hx.1 hx.2.2.1, one hx.2.1 hx.2.2.2, List.length_cons];omega
theorem sum_all {f : Nat -> Nat} : ∀ {N : Nat}, (∀ i, i < N -> f i <= 1) -> ((List.range N).map f).sum <= N /\ (((List.range N).map f).sum = N -> ∀ i, i < N -> f i = 1) := by
 intro N
 induction N with
 | zero => intro _; exact ⟨by simp, fun _ i hi => by omega⟩
 | succ N ih =>
  intro h;obtain ⟨h1, h2⟩ := ih fun i hi => h i (by omega)
  have hN := h N (by omega);rw [List.range_succ, List.map_append, List.sum_append];simp only [List.map_cons, List.map_nil, List.sum_cons, List.sum_nil];refine ⟨by omega, fun e i hi => ?_⟩;rcases Nat.lt_or_ge i N with h3 | h3
  ·exact h2 (by omega) i h3
  ·have : i = N := by omega
   subst this; omega
theorem ck_ref {E : List Ed} {l : List Int} {t : List Nd} (hE : ∀ e ∈ E, Prop2 e) (ht : t.length + 1 = E.length) (hl : l ≠ []) : (∃ s, ckRun t (ckStart E t.length) = some s /\ CkEnd l s) ↔ RefP E l t := by
 obtain ⟨r1, r2⟩ := run_pre (E := E) t.length 0 (by omega) (by omega) (pre_start (t := t) hE)
 rw [List.drop_zero] at r1 r2
 have hlast : ((E.length + t.length : Nat) - 1 : Int) = ((E.length + t.length - 1 : Nat) : Int) := by omega
 have endI : ∀ {s : Ck}, PreI E t t.length s -> isPol (polR E t ((E.length + t.length : Nat) - 1 : Int)) (ckLast s) := fun {s} h => by
  have := h.pol (E.length + t.length - 1) (by omega);rw [hlast];have e : s.pol ((E.length + t.length - 1 : Nat) : Int) = ckLast s := by unfold Ck.pol ckLast; rw [h.len, Int.toNat_natCast]
  rw [<- e]; exact this
 have midI : ∀ {s : Ck}, PreI E t t.length s -> ∀ v, mapGet s.mid [v] = (timesR E t v : Nat) := fun {s} h v => by
  have := h.mid v;rw [List.take_length] at this;exact this
 constructor
 ·rintro ⟨s, hs, he⟩;have h := r1 s hs;have hp := endI h;have hlen := h.len;refine ⟨fun i hi => ?_, hp.1, fun v hv => ⟨fun k hk => (h.pol (E.length + k) (by omega)).1, ?_⟩⟩
  ·have rng := h.rng;have usd := h.usd;rw [List.take_length] at rng usd;have hz : cntN t ((E.length + t.length - 1 : Nat) : Int) = 0 := by
    unfold cntN;rw [List.countP_eq_zero.2 fun x hx => ?_, List.countP_eq_zero.2 fun x hx => ?_]
    ·have := rng x hx; simp; omega
    ·have := rng x hx; simp; omega
   have hs := cnt_sum (N := E.length + t.length - 1) (t := t) fun x hx => by have := rng x hx; omega
   have ha := (sum_all (f := fun i => cntN t (i : Nat)) (N := E.length + t.length - 1) fun i hi => (usd i (by omega)).2).2 (by rw [hs]; omega);by_cases hi2 : i = E.length + t.length - 1
   ·rw [if_pos hi2, hi2]; exact hz
   ·rw [if_neg hi2]; exact ha i (by omega)
  ·have := he v hv;rw [midI h v] at this;rw [hp.mem];split at this
   ·rename_i hc; exact ⟨⟨fun _ => by omega, fun _ => hc⟩, by omega⟩
   ·rename_i hc; exact ⟨⟨fun k => absurd k hc, fun k => by omega⟩, by omega⟩
 ·rintro ⟨ho, hp, hv⟩;obtain ⟨v0, hv0⟩ := List.exists_mem_of_ne_nil l hl;obtain ⟨s, hs⟩ := r2 ho (hv v0 hv0).1;have h := r1 s hs;have hpl := endI h;refine ⟨s, hs, fun v hv' => ?_⟩;obtain ⟨_, k1, k2⟩ := hv v hv';rw [midI h v];rw [hpl.mem] at k1;split
  ·rename_i hc; have := k1.1 hc; omega
  ·rename_i hc;have : timesR E t v ≠ 0 := fun e => hc (k1.2 e)
   omega
end Go.Sh
namespace Go.Sh
structure MdL (vs : List Nat) (A : Nat -> Nat -> Prop) (c : Nat -> Nat) : Prop where
 some : ∀ i, i < 4 -> ∃ x, x ∈ vs /\ c x = i
 conn : ∀ i, i < 4 -> ∀ P : Nat -> Prop, (∃ x, x ∈ vs /\ c x = i /\ P x) -> (∀ x y, x ∈ vs -> y ∈ vs -> c x = i -> c y = i -> A x y -> P x -> P y) -> ∀ x, x ∈ vs -> c x = i -> P x
 meet : ∀ i j, i < j -> j < 4 -> ∃ x y, x ∈ vs /\ y ∈ vs /\ A x y /\ c x = i /\ c y = j
def D3 (vs : List Nat) (A : Nat -> Nat -> Prop) (x : Nat) : Prop := ∃ a b c, a ∈ vs /\ b ∈ vs /\ c ∈ vs /\ a ≠ b /\ a ≠ c /\ b ≠ c /\ A x a /\ A x b /\ A x c
theorem D3.but {vs : List Nat} {A : Nat -> Nat -> Prop} {x : Nat} (h : D3 vs A x) (v : Nat) : ∃ b c, b ∈ vs /\ c ∈ vs /\ b ≠ c /\ b ≠ v /\ c ≠ v /\ A x b /\ A x c := by
 obtain ⟨a, b, c, ha, hb, hc, h1, h2, h3, A1, A2, A3⟩ := h
 by_cases e : a = v
 ·exact ⟨b, c, hb, hc, h3, fun e2 => h1 (e.trans e2.symm), fun e2 => h2 (e.trans e2.symm), A2, A3⟩
 ·by_cases e2 : b = v
  ·exact ⟨a, c, ha, hc, h2, e, fun e3 => h3 (e2.trans e3.symm), A1, A3⟩
  ·exact ⟨a, b, ha, hb, h1, e, e2, A1, A2⟩
theorem D3.but2 {vs : List Nat} {A : Nat -> Nat -> Prop} {x : Nat} (h : D3 vs A x) (u v : Nat) : ∃ b, b ∈ vs /\ b ≠ u /\ b ≠ v /\ A x b := by
 obtain ⟨b, c, hb, hc, h1, h2, h3, A1, A2⟩ := h.but v
 by_cases e : b = u
 ·exact ⟨c, hc, fun e2 => h1 (e.trans e2.symm), h3, A2⟩
 ·exact ⟨b, hb, e, h2, A1⟩
def ctr (A : Nat -> Nat -> Prop) (v u : Nat) (x y : Nat) : Prop := A x y \/ (x = u /\ A v y /\ y ≠ u) \/ (y = u /\ A v x /\ x ≠ u)
structure Sm (A : Nat -> Nat -> Prop) : Prop where
 sym : ∀ x y, A x y -> A y x
 irr : ∀ x, ¬ A x x
theorem Sm.ne {A : Nat -> Nat -> Prop} (h : Sm A) {x y : Nat} (hA : A x y) : x ≠ y := fun e => h.irr x (by rw [<- e] at hA; exact hA)
theorem ctr_sm {A : Nat -> Nat -> Prop} (h : Sm A) (v u : Nat) : Sm (ctr A v u) := by
 refine ⟨fun x y hxy => ?_, fun x hxx => ?_⟩
 ·rcases hxy with k | ⟨k1, k2, k3⟩ | ⟨k1, k2, k3⟩
  ·exact .inl (h.sym _ _ k)
  ·exact .inr (.inr ⟨k1, k2, k3⟩)
  ·exact .inr (.inl ⟨k1, k2, k3⟩)
 ·rcases hxx with k | ⟨k1, _, k3⟩ | ⟨k1, _, k3⟩
  ·exact h.irr x k
  ·exact k3 k1
  ·exact k3 k1
def upd (c : Nat -> Nat) (v i x : Nat) : Nat := if x = v then i else c x
theorem upd_self (c : Nat -> Nat) (v i : Nat) : upd c v i v = i := if_pos rfl
theorem upd_ne (c : Nat -> Nat) {v i x : Nat} (h : x ≠ v) : upd c v i x = c x := if_neg h
theorem MdL.lift {vs : List Nat} {A : Nat -> Nat -> Prop} (hA : Sm A) {v u : Nat} (hv : v ∈ vs) (hu : u ∈ vs) (huv : A v u) {vs' : List Nat} (hvs : ∀ x, x ∈ vs' ↔ x ∈ vs /\ x ≠ v) {c : Nat -> Nat} (h : MdL vs' (ctr A v u) c) : MdL vs A (upd c v (c u)) := by
 have hne : u ≠ v := fun e => hA.irr v (by rw [e] at huv; exact huv)
 have hu' : u ∈ vs' := (hvs u).2 ⟨hu, hne⟩
 have cu : upd c v (c u) u = c u := upd_ne c hne
 have cv : upd c v (c u) v = c u := upd_self c v _
 have co : ∀ x, x ∈ vs' -> upd c v (c u) x = c x := fun x hx => upd_ne c ((hvs x).1 hx).2
 refine ⟨fun i hi => ?_, fun i hi P hP hcl x hx hcx => ?_, fun i j hij hj => ?_⟩
 ·obtain ⟨x, hx, hc⟩ := h.some i hi;exact ⟨x, ((hvs x).1 hx).1, by rw [co x hx]; exact hc⟩
 ·have hcl2 : ∀ x y, x ∈ vs' -> y ∈ vs' -> c x = i -> c y = i -> ctr A v u x y -> P x -> P y := fun x y hx hy ex ey hxy hPx => by
   have hx0 := ((hvs x).1 hx).1;have hy0 := ((hvs y).1 hy).1;rcases hxy with k | ⟨k1, k2, _⟩ | ⟨k1, k2, _⟩
   ·exact hcl x y hx0 hy0 (by rw [co x hx]; exact ex) (by rw [co y hy]; exact ey) k hPx
   ·subst k1;have hPv := hcl x v hx0 hv (by rw [co x hx]; exact ex) (by rw [cv]; exact ex) (hA.sym _ _ huv) hPx;exact hcl v y hv hy0 (by rw [cv]; exact ex) (by rw [co y hy]; exact ey) k2 hPv
   ·subst k1;have hPv := hcl x v hx0 hv (by rw [co x hx]; exact ex) (by rw [cv]; exact ey) (hA.sym _ _ k2) hPx;exact hcl v y hv hy0 (by rw [cv]; exact ey) (by rw [co y hy]; exact ey) huv hPv
  have hst : ∃ y, y ∈ vs' /\ c y = i /\ P y := by
   obtain ⟨y, hy, ey, hPy⟩ := hP;by_cases e : y = v
   ·subst e;rw [cv] at ey;exact ⟨u, hu', ey, hcl y u hy hu (by rw [cv]; exact ey) (by rw [cu]; exact ey) huv hPy⟩
   ·have := (hvs y).2 ⟨hy, e⟩;exact ⟨y, this, by rw [<- co y this]; exact ey, hPy⟩
  have hall := h.conn i hi P hst hcl2;by_cases e : x = v
  ·subst e;rw [cv] at hcx;exact hcl u x hu hx (by rw [cu]; exact hcx) (by rw [cv]; exact hcx) (hA.sym _ _ huv) (hall u hu' hcx)
  ·have := (hvs x).2 ⟨hx, e⟩;exact hall x this (by rw [<- co x this]; exact hcx)
 ·obtain ⟨x, y, hx, hy, hxy, ex, ey⟩ := h.meet i j hij hj;have hx0 := ((hvs x).1 hx).1;have hy0 := ((hvs y).1 hy).1;rcases hxy with k | ⟨k1, k2, _⟩ | ⟨k1, k2, _⟩
  ·exact ⟨x, y, hx0, hy0, k, by rw [co x hx]; exact ex, by rw [co y hy]; exact ey⟩
  ·subst k1;exact ⟨v, y, hv, hy0, k2, by rw [cv]; exact ex, by rw [co y hy]; exact ey⟩
  ·subst k1;exact ⟨x, v, hx0, hv, hA.sym _ _ k2, by rw [co x hx]; exact ex, by rw [cv]; exact ey⟩
open Classical in
theorem MdL.induced {vs vs' : List Nat} {A : Nat -> Nat -> Prop} (hs : ∀ x, x ∈ vs' -> x ∈ vs) {c : Nat -> Nat} (h : MdL vs' A c) : MdL vs A (fun x => if x ∈ vs' then c x else 4) := by
 have ci : ∀ x i, i < 4 -> ((if x ∈ vs' then c x else 4) = i ↔ x ∈ vs' /\ c x = i) := fun x i hi => by
  by_cases e : x ∈ vs'
  ·rw [if_pos e]; exact ⟨fun h => ⟨e, h⟩, fun h => h.2⟩
  ·rw [if_neg e]; exact ⟨fun h => by omega, fun h => absurd h.1 e⟩
 refine ⟨fun i hi => ?_, fun i hi P hP hcl x hx hcx => ?_, fun i j hij hj => ?_⟩
 ·obtain ⟨x, hx, hc⟩ := h.some i hi;exact ⟨x, hs x hx, (ci x i hi).2 ⟨hx, hc⟩⟩
 ·obtain ⟨hx', hcx'⟩ := (ci x i hi).1 hcx;obtain ⟨y, hy, hcy, hPy⟩ := hP;obtain ⟨hy', hcy'⟩ := (ci y i hi).1 hcy;refine h.conn i hi P ⟨y, hy', hcy', hPy⟩ (fun a b ha hb ea eb hab hPa => ?_) x hx' hcx';exact hcl a b (hs a ha) (hs b hb) ((ci a i hi).2 ⟨ha, ea⟩) ((ci b i hi).2 ⟨hb, eb⟩) hab hPa
 ·obtain ⟨x, y, hx, hy, hxy, ex, ey⟩ := h.meet i j hij hj;exact ⟨x, y, hs x hx, hs y hy, hxy, (ci x i (by omega)).2 ⟨hx, ex⟩, (ci y j hj).2 ⟨hy, ey⟩⟩
structure Twin (vs : List Nat) (A : Nat -> Nat -> Prop) (p q u v a b : Nat) : Prop where
 mem : u ∈ vs /\ v ∈ vs /\ a ∈ vs /\ b ∈ vs
 out : u ≠ p /\ u ≠ q /\ v ≠ p /\ v ≠ q
 ab : a ≠ b
 uv : A u v
 ua : A u a
 ub : A u b
 va : A v a
 vb : A v b
 nu : ∀ y, y ∈ vs -> A u y -> y = v \/ y = a \/ y = b
 nv : ∀ y, y ∈ vs -> A v y -> y = u \/ y = a \/ y = b
theorem Twin.swap {vs : List Nat} {A : Nat -> Nat -> Prop} {p q u v a b : Nat} (h : Twin vs A p q u v a b) : Twin vs A p q u v b a :=
 ⟨⟨h.mem.1, h.mem.2.1, h.mem.2.2.2, h.mem.2.2.1⟩, h.out, h.ab.symm, h.uv, h.ub, h.ua, h.vb, h.va, fun y hy k => (h.nu y hy k).imp id Or.symm, fun y hy k => (h.nv y hy k).imp id Or.symm⟩
inductive Rc (vs : List Nat) (A : Nat -> Nat -> Prop) (u v a b : Nat) : Nat -> Prop
 | base : Rc vs A u v a b a
 | step {x y : Nat} : Rc vs A u v a b x -> A x y -> y ∈ vs -> y ≠ u -> y ≠ v -> y ≠ b -> Rc vs A u v a b y
section
variable {vs : List Nat} {A : Nat -> Nat -> Prop} {p q u v a b : Nat}
theorem Rc.facts (hA : Sm A) (h : Twin vs A p q u v a b) {x : Nat} (hx : Rc vs A u v a b x) : x ∈ vs /\ x ≠ u /\ x ≠ v /\ x ≠ b := by
 induction hx with
 | base => exact ⟨h.mem.2.2.1, (hA.ne h.ua).symm, (hA.ne h.va).symm, h.ab⟩
 | step _ _ h1 h2 h3 h4 _ => exact ⟨h1, h2, h3, h4⟩
open Classical in
theorem Twin.model (hA : Sm A) (h : Twin vs A p q u v a b) {r : Nat} (hr : Rc vs A u v a b r) (hrb : A r b) : ∃ c, MdL vs A c := by
 let c : Nat -> Nat := fun x => if x = u then 0 else if x = v then 1 else if x = b then 2 else if Rc vs A u v a b x then 3 else 4
 obtain ⟨mu, mv, ma, mb⟩ := h.mem
 have nuv := hA.ne h.uv
 have nub := hA.ne h.ub
 have nvb := hA.ne h.vb
 have c0 : c u = 0 := if_pos rfl
 have c1 : c v = 1 := by show (if v = u then 0 else if v = v then 1 else _) = 1; rw [if_neg nuv.symm, if_pos rfl]
 have c2 : c b = 2 := by show (if b = u then 0 else if b = v then 1 else if b = b then 2 else _) = 2; rw [if_neg nub.symm, if_neg nvb.symm, if_pos rfl]
 have c3 : ∀ x, Rc vs A u v a b x -> c x = 3 := fun x hx => by
  obtain ⟨_, f1, f2, f3⟩ := hx.facts hA h;show (if x = u then 0 else if x = v then 1 else if x = b then 2 else if Rc vs A u v a b x then 3 else 4) = 3
  rw [if_neg f1, if_neg f2, if_neg f3, if_pos hx]
 have inv : ∀ x, (c x = 0 -> x = u) /\ (c x = 1 -> x = v) /\ (c x = 2 -> x = b) /\ (c x = 3 -> Rc vs A u v a b x) := fun x => by
  by_cases e0 : x = u
  ·subst e0; rw [c0]; exact ⟨fun _ => rfl, by omega, by omega, by omega⟩
  by_cases e1 : x = v
  ·subst e1; rw [c1]; exact ⟨by omega, fun _ => rfl, by omega, by omega⟩
  by_cases e2 : x = b
  ·subst e2; rw [c2]; exact ⟨by omega, by omega, fun _ => rfl, by omega⟩
  by_cases e3 : Rc vs A u v a b x
  ·rw [c3 x e3]; exact ⟨by omega, by omega, by omega, fun _ => e3⟩
  ·have : c x = 4 := by
    show (if x = u then 0 else if x = v then 1 else if x = b then 2 else if Rc vs A u v a b x then 3 else 4) = 4
    rw [if_neg e0, if_neg e1, if_neg e2, if_neg e3]
   rw [this]; exact ⟨by omega, by omega, by omega, by omega⟩
 have single : ∀ (i w : Nat), (∀ x, c x = i -> x = w) -> ∀ P : Nat -> Prop, (∃ x, x ∈ vs /\ c x = i /\ P x) -> ∀ x, x ∈ vs -> c x = i -> P x := fun i w hi P hP x _ hx => by
  obtain ⟨y, _, ey, hy⟩ := hP;rw [hi x hx]; rw [hi y ey] at hy; exact hy
 refine ⟨c, fun i hi => ?_, fun i hi P hP hcl => ?_, fun i j hij hj => ?_⟩
 ·match i, hi with
  | 0, _ => exact ⟨u, mu, c0⟩
  | 1, _ => exact ⟨v, mv, c1⟩
  | 2, _ => exact ⟨b, mb, c2⟩
  | 3, _ => exact ⟨a, ma, c3 a .base⟩
 ·match i, hi with
  | 0, _ => exact single 0 u (fun x => (inv x).1) P hP
  | 1, _ => exact single 1 v (fun x => (inv x).2.1) P hP
  | 2, _ => exact single 2 b (fun x => (inv x).2.2.1) P hP
  | 3, _ =>
   obtain ⟨y, hy, ey, hPy⟩ := hP;have hry := (inv y).2.2.2 ey;have back : ∀ {z : Nat}, Rc vs A u v a b z -> P z -> P a := by
    intro z hz
    induction hz with
    | base => exact id
    | @step x z hx hxz hz h1 h2 h3 ih =>
     intro hPz;refine ih (hcl z x hz (hx.facts hA h).1 (c3 z (.step hx hxz hz h1 h2 h3)) (c3 x hx) (hA.sym _ _ hxz) hPz)
   have hPa := back hry hPy;have forw : ∀ {z : Nat}, Rc vs A u v a b z -> P z := by
    intro z hz
    induction hz with
    | base => exact hPa
    | @step x z hx hxz hz h1 h2 h3 ih => exact hcl x z (hx.facts hA h).1 hz (c3 x hx) (c3 z (.step hx hxz hz h1 h2 h3)) hxz ih
   intro x _ hx;exact forw ((inv x).2.2.2 hx)
 ·have hc : (i = 0 /\ j = 1) \/ (i = 0 /\ j = 2) \/ (i = 0 /\ j = 3) \/ (i = 1 /\ j = 2) \/ (i = 1 /\ j = 3) \/ (i = 2 /\ j = 3) := by omega
  rcases hc with ⟨rfl, rfl⟩ | ⟨rfl, rfl⟩ | ⟨rfl, rfl⟩ | ⟨rfl, rfl⟩ | ⟨rfl, rfl⟩ | ⟨rfl, rfl⟩
  ·exact ⟨u, v, mu, mv, h.uv, c0, c1⟩
  ·exact ⟨u, b, mu, mb, h.ub, c0, c2⟩
  ·exact ⟨u, a, mu, ma, h.ua, c0, c3 a .base⟩
  ·exact ⟨v, b, mv, mb, h.vb, c1, c2⟩
  ·exact ⟨v, a, mv, ma, h.va, c1, c3 a .base⟩
  ·exact ⟨b, r, mb, (hr.facts hA h).1, hA.sym _ _ hrb, c2, c3 r hr⟩
end
structure Hyp (vs : List Nat) (A : Nat -> Nat -> Prop) (p q : Nat) : Prop where
 sm : Sm A
 nd : vs.Nodup
 pq : p ∈ vs /\ q ∈ vs /\ (p = q \/ A p q)
 deg : ∀ x, x ∈ vs -> x ≠ p -> x ≠ q -> D3 vs A x
 out : ∃ x, x ∈ vs /\ x ≠ p /\ x ≠ q
section
variable {vs : List Nat} {A : Nat -> Nat -> Prop} {p q : Nat}
open Classical in
theorem Twin.part {u v a b : Nat} (hH : Hyp vs A p q) (h : Twin vs A p q u v a b) (hno : ∀ r, Rc vs A u v a b r -> ¬ A r b) (hpq : ∀ r, Rc vs A u v a b r -> r ≠ p /\ r ≠ q) (ih : ∀ vs' A' p' q', vs'.length < vs.length -> Hyp vs' A' p' q' -> ∃ c, MdL vs' A' c) : ∃ c, MdL vs A c := by
 have hA := hH.sm
 let vs' := vs.filter fun x => decide (Rc vs A u v a b x)
 have hvs : ∀ x, x ∈ vs' ↔ Rc vs A u v a b x := fun x => by
  rw [List.mem_filter, decide_eq_true_eq];exact ⟨fun h => h.2, fun hx => ⟨(hx.facts hA h).1, hx⟩⟩
 have hlt : vs'.length < vs.length := by
  have h1 : vs' ≠ vs := fun e => by
   have : u ∈ vs' := by rw [e]; exact h.mem.1
   exact ((hvs u).1 this).facts hA h |>.2.1 rfl
  have h2 : vs'.length <= vs.length := List.length_filter_le _ _;rcases Nat.lt_or_ge vs'.length vs.length with k | k
  ·exact k
  ·exact absurd (List.filter_sublist.eq_of_length (Nat.le_antisymm h2 k)) h1
 have hstay : ∀ x y, Rc vs A u v a b x -> x ≠ a -> A x y -> y ∈ vs -> Rc vs A u v a b y := fun x y hx hxa hxy hy => by
  obtain ⟨f0, f1, f2, f3⟩ := hx.facts hA h;refine .step hx hxy hy (fun e => ?_) (fun e => ?_) (fun e => hno x hx (by rw [<- e]; exact hxy))
  ·rcases h.nu x f0 (hA.sym _ _ (by rw [<- e]; exact hxy)) with k | k | k
   ·exact f2 k
   ·exact hxa k
   ·exact f3 k
  ·rcases h.nv x f0 (hA.sym _ _ (by rw [<- e]; exact hxy)) with k | k | k
   ·exact f1 k
   ·exact hxa k
   ·exact f3 k
 have hH' : Hyp vs' A a a := by
  refine ⟨hA, hH.nd.sublist List.filter_sublist, ⟨(hvs a).2 .base, (hvs a).2 .base, .inl rfl⟩, fun x hx hxa _ => ?_, ?_⟩
  ·have hx := (hvs x).1 hx;have hp := hpq x hx;obtain ⟨y1, y2, y3, m1, m2, m3, n1, n2, n3, k1, k2, k3⟩ := hH.deg x (hx.facts hA h).1 hp.1 hp.2;exact ⟨y1, y2, y3, (hvs _).2 (hstay x y1 hx hxa k1 m1), (hvs _).2 (hstay x y2 hx hxa k2 m2), (hvs _).2 (hstay x y3 hx hxa k3 m3), n1, n2, n3, k1, k2, k3⟩
  ·have hp := hpq a .base;obtain ⟨y, hy, n1, n2, k⟩ := (hH.deg a h.mem.2.2.1 hp.1 hp.2).but2 u v;have : Rc vs A u v a b y := .step .base k hy n1 n2 fun e => hno a .base (by rw [<- e]; exact k)
   exact ⟨y, (hvs y).2 this, (hA.ne k).symm, (hA.ne k).symm⟩
 obtain ⟨c, hc⟩ := ih vs' A a a hlt hH'
 exact ⟨_, hc.induced fun x hx => ((hvs x).1 hx).facts hA h |>.1⟩
theorem Twin.done {u v a b : Nat} (hH : Hyp vs A p q) (h : Twin vs A p q u v a b) (ih : ∀ vs' A' p' q', vs'.length < vs.length -> Hyp vs' A' p' q' -> ∃ c, MdL vs' A' c) : ∃ c, MdL vs A c := by
 have hA := hH.sm
 by_cases h1 : ∃ r, Rc vs A u v a b r /\ A r b
 ·obtain ⟨r, hr, hrb⟩ := h1; exact h.model hA hr hrb
 by_cases h2 : ∃ r, Rc vs A u v b a r /\ A r a
 ·obtain ⟨r, hr, hrb⟩ := h2; exact h.swap.model hA hr hrb
 have no1 : ∀ r, Rc vs A u v a b r -> ¬ A r b := fun r hr k => h1 ⟨r, hr, k⟩
 have no2 : ∀ r, Rc vs A u v b a r -> ¬ A r a := fun r hr k => h2 ⟨r, hr, k⟩
 by_cases h3 : ∀ r, Rc vs A u v a b r -> r ≠ p /\ r ≠ q
 ·exact h.part hH no1 h3 ih
 refine h.swap.part hH no2 (fun s hs => ?_) ih
 have disj : ∀ {s : Nat}, Rc vs A u v b a s -> ¬ Rc vs A u v a b s := by
  intro s hs
  induction hs with
  | base => exact fun k => (k.facts hA h).2.2.2 rfl
  | @step x y hx hxy hy n1 n2 n3 ih2 =>
   intro k;obtain ⟨f0, f1, f2, f3⟩ := hx.facts hA h.swap;by_cases e : x = b
   ·exact no1 y k (by rw [<- e]; exact hA.sym _ _ hxy)
   ·exact ih2 (.step k (hA.sym _ _ hxy) f0 f1 f2 e)
 obtain ⟨r, hr⟩ := Classical.not_forall.1 h3
 obtain ⟨hr, hrpq⟩ := Classical.not_imp.1 hr
 have hrpq : r = p \/ r = q := by
  by_cases e : r = p
  ·exact .inl e
  ·exact .inr (Classical.byContradiction fun e2 => hrpq ⟨e, e2⟩)
 have hsr : ∀ w, (w = p \/ w = q) -> w ≠ s := fun w hw e => by
  subst e;obtain ⟨f0, f1, f2, f3⟩ := hs.facts hA h.swap;have hadj : r = w \/ A r w := by
   rcases hH.pq.2.2 with e | e
   ·left
    rcases hrpq with k | k <;> rcases hw with k2 | k2 <;> omega
   ·rcases hrpq with k | k <;> rcases hw with k2 | k2
    ·left; omega
    ·right; rw [k, k2]; exact e
    ·right; rw [k, k2]; exact hA.sym _ _ e
    ·left; omega
  rcases hadj with e | e
  ·exact disj hs (by rw [<- e]; exact hr)
  ·by_cases eb : w = b
   ·exact no1 r hr (by rw [<- eb]; exact e)
   ·exact disj hs (.step hr e f0 f1 f2 eb)
 exact ⟨fun e => hsr p (.inl rfl) e.symm, fun e => hsr q (.inr rfl) e.symm⟩
theorem ctr_fail {v u : Nat} (hH : Hyp vs A p q) (hv : v ∈ vs) (hu : u ∈ vs) (hvu : A v u) (hvp : v ≠ p) (hvq : v ≠ q) (ih : ∀ vs' A' p' q', vs'.length < vs.length -> Hyp vs' A' p' q' -> ∃ c, MdL vs' A' c) :
  (∃ c, MdL vs A c) \/ (∃ a b, Twin vs A p q u v a b) \/ ∃ w z, w ∈ vs /\ z ∈ vs /\ w ≠ p /\ w ≠ q /\ A w u /\ A w v /\ A w z /\ z ≠ u /\ z ≠ v /\ ∀ y, y ∈ vs -> A w y -> y = u \/ y = v \/ y = z := by
 have hA := hH.sm
 have hne : u ≠ v := (hA.ne hvu).symm
 let vs' := vs.erase v
 have hvs : ∀ x, x ∈ vs' ↔ x ∈ vs /\ x ≠ v := fun x => by
  show x ∈ vs.erase v ↔ _
  rw [hH.nd.mem_erase_iff]; exact And.comm
 have hlt : vs'.length < vs.length := by
  show (vs.erase v).length < _
  rw [List.length_erase_of_mem hv];have := List.length_pos_of_mem hv;omega
 have toA : ∀ x y, A x y -> ctr A v u x y := fun x y k => .inl k
 by_cases hall : ∀ x, x ∈ vs' -> x ≠ p -> x ≠ q -> D3 vs' (ctr A v u) x
 ·left
  have hH' : Hyp vs' (ctr A v u) p q := by
   refine ⟨ctr_sm hA v u, hH.nd.sublist List.erase_sublist, ⟨(hvs p).2 ⟨hH.pq.1, hvp.symm⟩, (hvs q).2 ⟨hH.pq.2.1, hvq.symm⟩, hH.pq.2.2.imp id (toA _ _)⟩, hall, ?_⟩;obtain ⟨y, hy, n1, n2, k⟩ := (hH.deg v hv hvp hvq).but2 p q;exact ⟨y, (hvs y).2 ⟨hy, (hA.ne k).symm⟩, n1, n2⟩
  obtain ⟨c, hc⟩ := ih _ _ _ _ hlt hH';exact ⟨_, hc.lift hA hv hu hvu hvs⟩
 right
 obtain ⟨w, hw⟩ := Classical.not_forall.1 hall
 obtain ⟨hw', hw⟩ := Classical.not_imp.1 hw
 obtain ⟨hwp, hw⟩ := Classical.not_imp.1 hw
 obtain ⟨hwq, hno⟩ := Classical.not_imp.1 hw
 obtain ⟨hwv, hwne⟩ := (hvs w).1 hw'
 by_cases hwu : w = u
 ·left
  subst hwu;obtain ⟨a, b, ma, mb, nab, na, nb, ka, kb⟩ := (hH.deg w hwv hwp hwq).but v;obtain ⟨d, e, md, me, nde, nd, ne, kd, ke⟩ := (hH.deg v hv hvp hvq).but w;have a' := (hvs a).2 ⟨ma, na⟩;have b' := (hvs b).2 ⟨mb, nb⟩;have hD : ∀ y, y ∈ vs -> y ≠ v -> ctr A v w w y -> y = a \/ y = b := fun y hy hyv k => Classical.byContradiction fun hc =>
   hno ⟨a, b, y, a', b', (hvs y).2 ⟨hy, hyv⟩, nab, fun e => hc (.inl e.symm), fun e => hc (.inr e.symm), toA _ _ ka, toA _ _ kb, k⟩
  have vd : ∀ y, y ∈ vs -> A v y -> y ≠ w -> y = a \/ y = b := fun y hy k hyw => hD y hy (hA.ne k).symm (.inr (.inl ⟨rfl, k, hyw⟩))
  have hva : A v a /\ A v b := by
   rcases vd d md kd nd with e1 | e1 <;> rcases vd e me ke ne with e2 | e2
   ·exact absurd (e1.trans e2.symm) nde
   ·subst e1; subst e2; exact ⟨kd, ke⟩
   ·subst e1; subst e2; exact ⟨ke, kd⟩
   ·exact absurd (e1.trans e2.symm) nde
  refine ⟨a, b, ⟨hwv, hv, ma, mb⟩, ⟨hwp, hwq, hvp, hvq⟩, nab, hA.sym _ _ hvu, ka, kb, hva.1, hva.2, fun y hy k => ?_, fun y hy k => ?_⟩
  ·by_cases e : y = v
   ·exact .inl e
   ·exact .inr (hD y hy e (toA _ _ k))
  ·by_cases e : y = w
   ·exact .inl e
   ·exact .inr (vd y hy k e)
 ·right
  have u' := (hvs u).2 ⟨hu, hne⟩;by_cases hwv2 : A w v
  ·have hcu : ctr A v u w u := .inr (.inr ⟨rfl, hA.sym _ _ hwv2, hwu⟩);obtain ⟨b, c, mb, mc, nbc, nb, nc, kb, kc⟩ := (hH.deg w hwv hwp hwq).but v;have key : ∀ z, z ∈ vs -> z ≠ u -> z ≠ v -> A w u -> A w z -> ∃ w z, w ∈ vs /\ z ∈ vs /\ w ≠ p /\ w ≠ q /\ A w u /\ A w v /\ A w z /\ z ≠ u /\ z ≠ v /\ ∀ y, y ∈ vs -> A w y -> y = u \/ y = v \/ y = z := fun z mz nz nzv ku kz => by
    refine ⟨w, z, hwv, mz, hwp, hwq, ku, hwv2, kz, nz, nzv, fun y hy k => Classical.byContradiction fun hc => ?_⟩;have y1 : y ≠ u := fun e => hc (.inl e)
    have y2 : y ≠ v := fun e => hc (.inr (.inl e))
    have y3 : y ≠ z := fun e => hc (.inr (.inr e))
    exact hno ⟨u, z, y, u', (hvs z).2 ⟨mz, nzv⟩, (hvs y).2 ⟨hy, y2⟩, nz.symm, y1.symm, y3.symm, toA _ _ ku, toA _ _ kz, toA _ _ k⟩
   by_cases eb : b = u
   ·subst eb; exact key c mc nbc.symm nc kb kc
   ·by_cases ec : c = u
    ·subst ec; exact key b mb nbc nb kc kb
    ·exact absurd ⟨u, b, c, u', (hvs b).2 ⟨mb, nb⟩, (hvs c).2 ⟨mc, nc⟩, fun e => eb e.symm, fun e => ec e.symm, nbc, hcu, toA _ _ kb, toA _ _ kc⟩ hno
  ·obtain ⟨a, b, c, ma, mb, mc, n1, n2, n3, k1, k2, k3⟩ := hH.deg w hwv hwp hwq;have ne : ∀ y, A w y -> y ≠ v := fun y k e => hwv2 (by rw [<- e]; exact k)
   exact absurd ⟨a, b, c, (hvs a).2 ⟨ma, ne a k1⟩, (hvs b).2 ⟨mb, ne b k2⟩, (hvs c).2 ⟨mc, ne c k3⟩, n1, n2, n3, toA _ _ k1, toA _ _ k2, toA _ _ k3⟩ hno
end
theorem dirac_aux : ∀ (n : Nat) (vs : List Nat) (A : Nat -> Nat -> Prop) (p q : Nat), vs.length = n -> Hyp vs A p q -> ∃ c, MdL vs A c := by
 intro n
 induction n using Nat.strongRecOn with
 | ind n ihn =>
  intro vs A p q hn hH;have ih : ∀ vs' A' p' q', vs'.length < vs.length -> Hyp vs' A' p' q' -> ∃ c, MdL vs' A' c := fun vs' A' p' q' h k => ihn _ (by omega) vs' A' p' q' rfl k
  have hA := hH.sm;obtain ⟨v, hv, hvp, hvq⟩ := hH.out;obtain ⟨u, _, _, hu, _, _, _, _, _, kvu, _, _⟩ := hH.deg v hv hvp hvq;rcases ctr_fail hH hv hu kvu hvp hvq ih with h | ⟨a, b, h⟩ | ⟨w, z, mw, mz, wp, wq, kwu, kwv, kwz, nzu, nzv, nw⟩
  ·exact h
  ·exact h.done hH ih
  ·-- w has just u, v, z; u and v are neighbours
   rcases ctr_fail hH mw mz kwz wp wq ih with h | ⟨a, b, h⟩ | ⟨x, t, mx, mt, xp, xq, kxz, kxw, kxt, ntz, ntw, nx⟩
   ·exact h
   ·exact h.done hH ih
   ·have hx : x = u \/ x = v := by
     rcases nw x mx (hA.sym _ _ kxw) with e | e | e
     ·exact .inl e
     ·exact .inr e
     ·exact absurd e (hA.ne kxz)
    have go : ∀ x o, x ∈ vs -> o ∈ vs -> x ≠ p -> x ≠ q -> A x z -> A x w -> A x o -> A w o -> o ≠ z -> (∀ y, y ∈ vs -> A x y -> y = z \/ y = w \/ y = t) -> (∀ y, y ∈ vs -> A w y -> y = x \/ y = o \/ y = z) -> ∃ c, MdL vs A c := by
     intro x o mx mo xp xq k1 k2 k3 k4 noz nx nw;have eo : o = t := by
      rcases nx o mo k3 with e | e | e
      ·exact absurd e noz
      ·exact absurd e (hA.ne k4).symm
      ·exact e
     refine Twin.done (u := x) (v := w) (a := o) (b := z) hH ⟨⟨mx, mw, mo, mz⟩, ⟨xp, xq, wp, wq⟩, noz, k2, k3, k1, k4, kwz, fun y hy k => ?_, nw⟩ ih;rcases nx y hy k with e | e | e
     ·exact .inr (.inr e)
     ·exact .inl e
     ·exact .inr (.inl (e.trans eo.symm))
    rcases hx with e | e
    ·subst e;exact go x v mx hv xp xq kxz kxw (hA.sym _ _ kvu) kwv nzv.symm nx nw
    ·subst e;exact go x u mx hu xp xq kxz kxw kvu kwu nzu.symm nx fun y hy k => by
      rcases nw y hy k with e | e | e
      ·exact .inr (.inl e)
      ·exact .inl e
      ·exact .inr (.inr e)
theorem dirac {vs : List Nat} {A : Nat -> Nat -> Prop} (hA : Sm A) (hn : vs.Nodup) (hd : ∀ x, x ∈ vs -> D3 vs A x) (h0 : vs ≠ []) : ∃ c, MdL vs A c := by
 obtain ⟨p, hp⟩ := List.exists_mem_of_ne_nil _ h0
 obtain ⟨y, _, _, hy, _, _, _, _, _, k, _, _⟩ := hd p hp
 exact dirac_aux vs.length vs A p p rfl ⟨hA, hn, ⟨hp, hp, .inl rfl⟩, fun x hx _ _ => hd x hx, y, hy, (hA.ne k).symm, (hA.ne k).symm⟩
end Go.Sh
namespace Go.Sh
open Go.Proofs
theorem nodup_len {l : List Int} : ∀ {m : List Int}, l.Nodup -> (∀ x ∈ l, x ∈ m) -> l.length <= m.length := by
 induction l with
 | nil => intro m _ _; simp
 | cons x l ih =>
  intro m h s;rw [List.nodup_cons] at h;have hx := s x (by simp);have := ih (m := m.erase x) h.2 fun y hy => (List.mem_erase_of_ne (fun (e : y = x) => h.1 (by rw [<- e]; exact hy))).2 (s y (by simp [hy]))
  rw [List.length_erase_of_mem hx] at this;have := List.length_pos_of_mem hx;simp; omega
def firstMay (N : List (List Int)) (G : List Bool) : Option Nat := (List.range N.length).find? fun v => mayB N G v
def runS : Nat -> List (List Int) -> List Bool -> List Stp × List (List Int) × List Bool
 | 0, N, G => ([], N, G)
 | f + 1, N, G => match firstMay N G with
  | none => ([], N, G)
  | some v => (stepF N v :: (runS f (doN N (stepF N v)) (doG G (stepF N v))).1, (runS f (doN N (stepF N v)) (doG G (stepF N v))).2)
def runR (n : Int) (E : List Ed) : List Stp × List (List Int) × List Bool := runS n.toNat (nbrs n.toNat E) (List.replicate n.toNat false)
theorem live_step {N : List (List Int)} {G : List Bool} (hW : Wf N G) {v : Int} (hm : MayP N G v) : (doG G (stepF N v)).countP (!·) + 1 = G.countP (!·) := by
 have hlt : v.toNat < G.length := by rw [hW.len]; have := hm.hi; have := hm.lo; omega
 have h0 : G[v.toNat] = false := by
  have := goneAt_get hW.len hm.lo hm.hi;rw [hm.there, qEq hlt] at this;injection this
 have e : doG G (stepF N v) = G.set v.toNat true := rfl
 rw [e]
 have key : ∀ (G : List Bool) (i : Nat) (h : i < G.length), G[i] = false -> (G.set i true).countP (!·) + 1 = G.countP (!·) := by
  intro G
  induction G with
  | nil => intro i h; simp at h
  | cons g G ih =>
   intro i h hg
   cases i with
   | zero =>
    have hg : g = false := hg;subst hg;simp [List.countP_cons]
   | succ i =>
    have := ih i (by simpa using h) (by simpa using hg);rw [List.set_cons_succ, List.countP_cons, List.countP_cons];omega
 exact key G _ hlt h0
theorem runS_go {f v : Nat} {N : List (List Int)} {G : List Bool} (h : firstMay N G = some v) : runS (f + 1) N G = (stepF N v :: (runS f (doN N (stepF N v)) (doG G (stepF N v))).1, (runS f (doN N (stepF N v)) (doG G (stepF N v))).2) := by
 simp only [runS, h]
theorem runS_end {f : Nat} {N : List (List Int)} {G : List Bool} (h : firstMay N G = none) : runS f N G = ([], N, G) := by
 cases f with
 | zero => rfl
 | succ f => simp only [runS, h]
theorem goneAt_nat {G : List Bool} (j : Nat) : goneAt G (j : Int) = G.getD j false := by unfold goneAt; rw [Int.toNat_natCast]
open Classical in
noncomputable def runO (n : Int) (E : List Ed) : List Stp × List Int × List Ed := if RightP n E then ((runR n E).1, leftF (runR n E).2.2, edgesF (runR n E).2.1 (runR n E).2.2) else ([], [], [])
end Go.Sh
namespace Go.Sh
open Go.Proofs Go.RowKit
attribute [local go_sem] Oper.semAt_some
open Classical in
noncomputable def narrowB (n : Int) (E : List Ed) : Bool := decide (RightP n E) && decide ((runO n E).2.1 = [])
end Go.Sh
namespace Go.Sh
theorem mem_range_cast {p : Nat -> Bool} {n : Nat} {x : Int} : x ∈ ((List.range n).filter p).map (fun (x : Nat) => (x : Int)) ↔ ∃ k : Nat, k < n /\ p k = true /\ x = k := by
 rw [List.mem_map]
 constructor
 ·rintro ⟨k, hk, rfl⟩;rw [List.mem_filter, List.mem_range] at hk;exact ⟨k, hk.1, hk.2, rfl⟩
 ·rintro ⟨k, h1, h2, rfl⟩;exact ⟨k, by rw [List.mem_filter, List.mem_range]; exact ⟨h1, h2⟩, rfl⟩
section
variable {n : Nat} {N : List (List Int)} {G I : List Bool} {M : List (List Bool)}
end
end Go.Sh
namespace Go.Sh
open Go.Proofs
section
variable {n : Nat} {N : List (List Int)} {G I : List Bool} {M : List (List Bool)}
end
end Go.Sh
namespace Go.Sh
open Go.Proofs
theorem firstMay_may {N : List (List Int)} {G : List Bool} {v : Nat} (h : firstMay N G = some v) : mayB N G v = true := by
 have := List.find?_some h
 simpa using this
theorem runS_wf : ∀ (f : Nat) {N : List (List Int)} {G : List Bool}, Wf N G -> Wf (runS f N G).2.1 (runS f N G).2.2 /\ (runS f N G).2.1.length = N.length /\ (runS f N G).1.length <= f := by
 intro f
 induction f with
 | zero => intro N G h; exact ⟨h, rfl, by simp [runS]⟩
 | succ f ih =>
  intro N G h
  cases hf : firstMay N G with
  | none => rw [runS_end hf]; exact ⟨h, rfl, by simp⟩
  | some v =>
   rw [runS_go hf];obtain ⟨h1, h2, h3⟩ := ih (do_wf h (mayB_iff.1 (firstMay_may hf)));exact ⟨h1, by rw [h2, doN_length], by simp; omega⟩
end Go.Sh
namespace Go.Sh
theorem mem_leftF {G : List Bool} {v : Int} : v ∈ leftF G ↔ 0 <= v /\ v < G.length /\ goneAt G v = false := by
 unfold leftF
 rw [mem_range_cast]
 constructor
 ·rintro ⟨k, h1, h2, rfl⟩;refine ⟨by omega, by omega, ?_⟩;rw [goneAt_nat];simpa using h2
 ·rintro ⟨h1, h2, h3⟩;refine ⟨v.toNat, by omega, ?_, by omega⟩;unfold goneAt at h3;rw [h3]; rfl
def live (G : List Bool) : Nat := G.countP (!·)
theorem first_no {N : List (List Int)} {G : List Bool} (h : firstMay N G = none) (u : Int) : mayB N G u = false := by
 cases hu : mayB N G u with
 | false => rfl
 | true =>
  have hm := mayB_iff.1 hu;unfold firstMay at h;rw [List.find?_eq_none] at h;have h0 := hm.lo;have h1 := hm.hi;have := h u.toNat (by rw [List.mem_range]; omega);rw [Int.toNat_of_nonneg h0] at this;exact absurd hu this
theorem live_pos {N : List (List Int)} {G : List Bool} (hW : Wf N G) {v : Int} (hm : mayB N G v = true) : 1 <= live G := by
 have := live_step hW (mayB_iff.1 hm)
 unfold live; omega
theorem run_end {N : List (List Int)} {G : List Bool} : ∀ {f : Nat}, Wf N G -> live G <= f -> ∀ u, mayB (runS f N G).2.1 (runS f N G).2.2 u = false := by
 intro f
 induction f generalizing N G with
 | zero =>
  intro h hf u
  cases hu : mayB N G u with
  | false => exact hu
  | true => have := live_pos h hu; omega
 | succ f ih =>
  intro h hf u
  cases hm : firstMay N G with
  | none => rw [runS_end hm]; exact first_no hm u
  | some v =>
   rw [runS_go hm];have hv := mayB_iff.1 (firstMay_may hm);have := live_step h hv;exact ih (do_wf h hv) (by unfold live at hf ⊢; omega) u
theorem run_count {f : Nat} : ∀ {N : List (List Int)} {G : List Bool}, Wf N G -> (runS f N G).1.length + live (runS f N G).2.2 = live G := by
 induction f with
 | zero => intro N G _; simp [runS]
 | succ f ih =>
  intro N G h
  cases hm : firstMay N G with
  | none => rw [runS_end hm]; simp
  | some v =>
   rw [runS_go hm];have hv := mayB_iff.1 (firstMay_may hm);have h1 := live_step h hv;have h2 := ih (do_wf h hv);unfold live at *;simp only [List.length_cons];omega
theorem live_zero (n : Nat) : live (List.replicate n false) = n := by unfold live; simp [List.countP_replicate]
end Go.Sh
namespace Go.Sh
open Go.Proofs
end Go.Sh
namespace Go.Proofs
open Go.RowKit Go.Shelf
attribute [local go_sem] Oper.semAt_some
def Try.upto {α : Type} (f : Nat -> α) (k : Nat) : List α := (List.range k).map f
theorem Try.upto_succ {α : Type} (f : Nat -> α) (k : Nat) : Try.upto f (k + 1) = Try.upto f k ++ [f k] := by simp [Try.upto, List.range_succ]
theorem Try.upto_length {α : Type} (f : Nat -> α) (k : Nat) : (Try.upto f k).length = k := by simp [Try.upto]
theorem Try.upto_all (zs : List Int) : Try.upto (fun j => zs[j]?.getD 0) zs.length = zs := by
 apply List.ext_getElem
 ·simp [Try.upto]
 ·intro i h1 h2;simp [Try.upto, h2]
theorem Try.upto_take (zs : List Int) {k : Nat} (hk : k <= zs.length) : Try.upto (fun j => zs[j]?.getD 0) k = zs.take k := by
 apply List.ext_getElem
 ·simp [Try.upto, hk]
 ·intro i h1 h2;have : i < zs.length := by simp [Try.upto] at h1; omega
  simp [Try.upto, this]
set_option maxRecDepth 100000 in
set_option maxHeartbeats 2000000 in
theorem Try.values1_in (F : Fence) (n : Nat) (h7 : F.fn 67) (hro : F.round = none) (hn : 1 <= n) (l Bs n₀ len cap : Nat) (a : Addr) (zs : List Int) (hreach : len * 8 <= 140737488351232) (hb : a.block < n₀) (J Jx : List Int -> World -> Prop)
  (hY : ∀ pre x W, J pre W -> pre.length < len -> YieldAt F (n - 1) Try.prog l #[.int .i64 x] W fun e W' =>
   (e = .returned (.bool true) /\ J (pre ++ [x]) W' /\ Below n₀ W W') \/ (e = .returned (.bool false) /\ Jx (pre ++ [x]) W'))
  (W : World) (hBs : W.cell? ⟨Bs, 0, none⟩ = some (.slice (some a) len cap)) (hc : ∀ j, j < len -> W.cell? (a.add j) = some (.int .i64 (zs[j]?.getD 0))) (h0 : J [] W) :
  CallsIn F n Try.prog 67 #[.func (.yield l) #[] #[], .pointer (some ⟨Bs, 0, none⟩)] W fun e W' => (∃ v, e = .returned v) /\
   ((∃ ys, ys = Try.upto (fun j => zs[j]?.getD 0) len /\ J ys W') \/ (∃ pre, (∃ k, k <= len /\ pre = Try.upto (fun j => zs[j]?.getD 0) k) /\ Jx pre W')) := by
 refine callsIn_of_wp Try.func67 rfl h7 ?_ hro
 simp only [Try.ntmps67, List.size_toArray, List.length_cons, List.length_nil, Nat.reduceAdd, Nat.reduceSub, Array.replicate_succ, Array.replicate_zero, List.push_toArray, List.append_toArray, List.nil_append, List.cons_append]
 gi_wp2
 gi_loopw [7] (fun i wr => ∃ k : Nat, k <= len /\ i = .int .i64 k /\ J (Try.upto (fun j => zs[j]?.getD 0) k) wr /\ Below n₀ W wr)
  (fun i _ => len - (intOf i).toNat)
 case atStart => exact ⟨0, Nat.zero_le _, rfl, h0, Below.refl _ _⟩
 case round =>
  obtain ⟨k, hk, rfl, hJs, hnx⟩ := hrel;have hcx : k < len -> wr.cell? (a.add k) = some (.int .i64 (zs[k]?.getD 0)) := fun h => (hnx.cell (p := a.add k) (by unfold Addr.add; split <;> exact hb)).trans (hc k h)
  by_cases hlt : k < len
  ·obtain ⟨fn, tmps, assign, body, hy, hR⟩ := hY _ (zs[k]?.getD 0) wr hJs (by rw [Try.upto_length]; exact hlt);have hcx' := hcx hlt
   gi_wp2
   refine hR.mono ?_;rintro e W3 (⟨rfl, hJ3, hk3⟩ | ⟨rfl, hJx3⟩)
   ·gi_wp2
    go_roundw
    case rel => exact ⟨k + 1, by omega, by simp, by rw [Try.upto_succ]; exact hJ3, hnx.trans hk3⟩
    case measure => simp [intOf]; omega
   ·gi_wp2
    refine bodyPost_ret (results_none rfl _ _ _) rfl ?_;exact ⟨⟨_, rfl⟩, .inr ⟨_, ⟨k + 1, by omega, (Try.upto_succ _ _).symm⟩, hJx3⟩⟩
  ·obtain rfl : k = len := by omega
   gi_wp2
   go_end0
   exact ⟨⟨_, rfl⟩, .inl ⟨_, rfl, hJs⟩⟩
set_option maxRecDepth 100000 in
set_option maxHeartbeats 1000000 in
theorem Try.values1_nil_in (F : Fence) (n : Nat) (h7 : F.fn 67) (hro : F.round = none) (l Bs : Nat) (a : Option Addr) (cap : Nat) (J : List Int -> World -> Prop) (W : World) (hBs : W.cell? ⟨Bs, 0, none⟩ = some (.slice a 0 cap)) (h0 : J [] W) :
  CallsIn F n Try.prog 67 #[.func (.yield l) #[] #[], .pointer (some ⟨Bs, 0, none⟩)] W fun e W' => (∃ v, e = .returned v) /\ J [] W' := by
 refine callsIn_of_wp Try.func67 rfl h7 ?_ hro
 simp only [Try.ntmps67, List.size_toArray, List.length_cons, List.length_nil, Nat.reduceAdd, Nat.reduceSub, Array.replicate_succ, Array.replicate_zero, List.push_toArray, List.append_toArray, List.nil_append, List.cons_append]
 gi_wp2
 gi_loopw [7] (fun i wr => i = .int .i64 0 /\ J [] wr) (fun _ _ => 0)
 case atStart => exact ⟨rfl, h0⟩
 case round =>
  obtain ⟨rfl, hJs⟩ := hrel
  gi_wp2
  go_end0
  exact ⟨⟨_, rfl⟩, hJs⟩
def Try.Ints (n₀ : Nat) (W : World) (sv : Value) (zs : List Int) : Prop :=
 (zs = [] /\ ∃ a cap, sv = .slice a 0 cap) \/ ∃ a cap, sv = .slice (some a) zs.length cap /\ a.block < n₀ /\ ∀ j, j < zs.length -> W.cell? (a.add j) = some (.int .i64 (zs[j]?.getD 0))
theorem Try.add_block (a : Addr) (j : Nat) : (a.add j).block = a.block := by unfold Addr.add; split <;> rfl
theorem Try.Ints.below {n₀ : Nat} {A B : World} (h : Below n₀ A B) {sv : Value} {zs : List Int} : Try.Ints n₀ A sv zs -> Try.Ints n₀ B sv zs
 | .inl e => .inl e
 | .inr ⟨a, cap, e, hb, hc⟩ => .inr ⟨a, cap, e, hb, fun j hj => (h.cell (p := a.add j) (by rw [Try.add_block]; exact hb)).trans (hc j hj)⟩
theorem Try.values_stops (F : Fence) (n : Nat) (h7 : F.fn 67) (hro : F.round = none) (hn : 1 <= n) (Bs n₀ : Nat) (sv : Value) (zs : List Int) (hreach : zs.length * 8 <= 140737488351232) (w : World) (hBs : Bs < w.heap.size) (hn₀ : n₀ <= w.heap.size)
  (hc : w.cell? ⟨Bs, 0, none⟩ = some sv) (hI : Try.Ints n₀ w sv zs) :
  SeqStopsK F n Try.prog 67 #[.pointer (some ⟨Bs, 0, none⟩)] (fun x : Int => #[Value.int .i64 x]) (Below n₀) (fun ys => ys = zs) (fun pre => pre <+: zs) zs.length w := fun l J Jx W hW _ _ hY h0 => by
 have hc' := (hW.cell (p := ⟨Bs, 0, none⟩) hBs).trans hc
 rcases hI.below (hW.mono hn₀) with ⟨rfl, a, cap, rfl⟩ | ⟨a, cap, rfl, hb, hcs⟩
 ·exact (Try.values1_nil_in F n h7 hro l Bs a cap J W hc' h0).mono fun e W' ⟨he, hj⟩ => ⟨he, .inl ⟨_, rfl, hj⟩⟩
 ·refine (Try.values1_in F n h7 hro hn l Bs n₀ zs.length cap a zs hreach hb J Jx hY W hc' hcs h0).mono ?_;rintro e W' ⟨he, ⟨ys, rfl, hj⟩ | ⟨pre, ⟨k, hk, rfl⟩, hj⟩⟩
  ·exact ⟨he, .inl ⟨_, Try.upto_all zs, hj⟩⟩
  ·exact ⟨he, .inr ⟨_, by rw [Try.upto_take zs hk]; exact List.take_prefix _ _, hj⟩⟩
end Go.Proofs
namespace Go.Proofs
open Go.RowKit Go.Shelf
attribute [local go_sem] Oper.semAt_some
theorem Try.info3 : (Try.prog.info? 3).map (fun i => (i.zero, i.size, i.bytes)) = some (some (.int .i64 0), 1, 8) := by kernel_rfl
set_option maxRecDepth 100000 in
set_option maxHeartbeats 2000000 in
theorem Try.appendSeq_in (F : Fence) (n : Nat) (h116 : F.fn 84) (h103 : F.fn 67) (hro : F.round = none) (hn : 3 <= n) (Bs n₀ : Nat) (sv : Value) (zs : List Int) (hlen : zs.length <= maxLen) (hreach : zs.length * 8 <= 140737488351232) (w : World) (hBs : Bs < w.heap.size) (hn₀ : n₀ <= w.heap.size)
  (hc : w.cell? ⟨Bs, 0, none⟩ = some sv) (hI : Try.Ints n₀ w sv zs) :
  CallsIn F n Try.prog 84 #[.slice none 0 0, .func (.func 67) #[] #[.pointer (some ⟨Bs, 0, none⟩)]] w fun e W' => ∃ v, e = .returned v /\ W'.ownsRow w.heap.size 3 1 v zs.length (zs.map (Value.int .i64)) /\ (v = .slice none 0 0 ↔ zs = []) /\ Below w.heap.size w W' := by
 have h1 : 1 <= n := by omega
 obtain ⟨i0, hi, hz0, hz1, hz2⟩ := info_parts Try.info3
 refine callsIn_of_wp_marks Try.func84 rfl h116 ?_ hro
 simp only [Try.ntmps84, List.size_toArray, List.length_cons, List.length_nil, Nat.reduceAdd, Nat.reduceSub, Array.replicate_succ, Array.replicate_zero, List.push_toArray, List.append_toArray, List.nil_append, List.cons_append]
 gi_wp2
 have bO := Boxed.new w 25 (.slice none 0 0)
 have hB0 : Below w.heap.size w (w.alloc (.cells #[.slice none 0 0] 25)) := ((Below.refl _ w).alloc (Nat.le_refl _) _)
 refine wpIn_rangeFunc_ownG hro h1 (gf := 67) (lb := #[.pointer (some ⟨Bs, 0, none⟩)]) rfl h103 (enters_of Try.func67 (by kernel_rfl) rfl)
  (Try.values_stops F (n - 1) h103 hro (by omega) Bs w.heap.size _ zs hreach _ (by simp; omega) (by simp) ((hB0.cell (p := ⟨Bs, 0, none⟩) hBs).trans hc) (by
   rcases hI.below (hB0.mono hn₀) with h | ⟨a, cap, e, hb, hcs⟩
   ·exact .inl h
   ·exact .inr ⟨a, cap, e, by omega, hcs⟩)) belowK_t (belowK_b (by simp)) (Below.refl _ _) (fun _ => rfl)
  (fun pre W => (∃ v, Boxed W w.heap.size 25 v /\ W.ownsRow w.heap.size 3 1 v pre.length (pre.map (Value.int .i64)) /\ (v = .slice none 0 0 ↔ pre = [])) /\ Below w.heap.size w W)
  (fun _ _ _ => False)
  (OwnFrom.and (Own.from (holdsRow_own w.heap.size w.heap.size 25 3 1 (fun pre : List Int => pre.length) (fun pre => pre.map (Value.int .i64)) (fun pre v => v = .slice none 0 0 ↔ pre = [])) _) (ownFrom_below (Nat.le_refl _) (by simp)))
  (fun _ _ _ _ _ hs _ _ => hs)
  ⟨⟨_, bO, World.ownsRow_nil _ _ _ _, by simp⟩, hB0⟩
  (fun x => { tmps := #[.slice none 0 0, .func (.func 67) #[] #[.pointer (some ⟨Bs, 0, none⟩)], .pointer (some ⟨w.heap.size, 0, none⟩), undef, .slice none 0 0, .int .i64 x, .func (.func 67) #[] #[.pointer (some ⟨Bs, 0, none⟩)], .int .i64 x, undef, undef, undef, undef, undef], defers := [] }) ?assign ?body ?done ?stop
 case assign =>
  intro l x W K hK
  gi_wp2
  exact hK
 case body =>
  rintro l pre x W ⟨⟨v, hv, hrow, hnil⟩, hB⟩ hlt;have hc := hv.cell
  gi_wp2_with (gi_at_builtin; refine wpListIn_append_own _ rfl _ _ 25 rfl w.heap.size 3 i0 (.int .i64 0) 1 8 Try.underlying25 hi hz0 hz1 hz2 rfl (by decide) _ _ _ rfl (hrow.alloc _) ⟨W.heap.size, 0, none⟩ 1 1 [.int .i64 x] rfl rfl (cell_one_new _ _ _) (by simp [Value.oneCell']) (by omega) (by omega) (by have := hB.size; simp; omega) ?_; intro v' w1 hown' hgrow _; obtain ⟨g', cap', rfl⟩ := ownsRow_succ hown'; obtain ⟨hv1, hv2, hr2, hk2, hb2⟩ := hv.appended (by decide) hrow hB.size (Nat.le_refl _) hown' hgrow; have hc1 := hv1.cell; have hf1 := hv1.frozen)
  exact ⟨hk2.from _, hb2, ⟨_, hv2, by simpa using hr2, by simp⟩, hB.trans hb2⟩
 case done =>
  rintro D ys W hD rfl ⟨⟨v, hv, hrow, hnil⟩, hB⟩ hK;have hc := hv.cell
  gi_wp2
  refine ⟨by simp, .inl ⟨_, _, rfl, run_takeDeferred hK, ?_⟩⟩;exact ⟨_, results_tmp rfl _ _ _, v, rfl, ownsRow_putObj hrow _ hK rfl, hnil, hB.trans (belowK_b (w := w) (Nat.le_refl _) W D _ _ (by simp at hD; omega) hK rfl rfl)⟩
 case stop =>
  rintro D c pre W _ _ h _;exact h.elim
end Go.Proofs
namespace Go.Proofs
open Go.RowKit Go.Shelf Go.Maps Go.Sort
attribute [local go_sem] Oper.semAt_some
set_option maxRecDepth 100000 in
set_option maxHeartbeats 2000000 in
theorem Try.collect_in (F : Fence) (n : Nat) (h102 : F.fn 65) (h116 : F.fn 84) (h103 : F.fn 67) (hro : F.round = none) (hn : 4 <= n) (Bs n₀ : Nat) (sv : Value) (zs : List Int) (hlen : zs.length <= maxLen) (hreach : zs.length * 8 <= 140737488351232) (w : World) (hBs : Bs < w.heap.size) (hn₀ : n₀ <= w.heap.size)
  (hc : w.cell? ⟨Bs, 0, none⟩ = some sv) (hI : Try.Ints n₀ w sv zs) :
  CallsIn F n Try.prog 65 #[.func (.func 67) #[] #[.pointer (some ⟨Bs, 0, none⟩)]] w fun e W' => ∃ v, e = .returned v /\ W'.ownsRow w.heap.size 3 1 v zs.length (zs.map (Value.int .i64)) /\ (v = .slice none 0 0 ↔ zs = []) /\ Below w.heap.size w W' := by
 have h1 : 1 <= n := by omega
 refine callsIn_of_wp Try.func65 rfl h102 ?_ hro
 simp only [Try.ntmps65, List.size_toArray, List.length_cons, List.length_nil, Nat.reduceAdd, Nat.reduceSub, Array.replicate_succ, Array.replicate_zero, List.push_toArray, List.append_toArray, List.nil_append, List.cons_append]
 gi_wp2_with (gi_at_call 84; refine (Try.appendSeq_in F (n - 1) h116 h103 hro (by omega) Bs n₀ sv zs hlen hreach w hBs hn₀ hc hI).mono ?_; rintro e w' ⟨v, rfl, hrow, hnil, hB⟩)
 go_ret
 exact ⟨v, rfl, hrow, hnil, hB⟩
def Try.SortsIn (F : Fence) (m : Nat) : Prop :=
 (∀ (blk off cap : Nat) (ss : List Int) (W : World), Holds (Value.int .i64) W blk off ss.toArray -> blk < W.heap.size -> ss.length < 4611686018427387904 ->
  CallsIn F m Try.prog 66 #[.slice (some ⟨blk, off, none⟩) ss.length cap] W fun e w' => e = .returned (.tuple #[]) /\ ∃ k os, w' = grow (putRow (Value.int .i64) (Sort.ahead W k) blk off (ss.mergeSort fun x y => decide (x <= y)).toArray) os) /\
 (∀ (p : Option Addr) (cap : Nat) (W : World), CallsIn F m Try.prog 66 #[.slice p 0 cap] W fun e w' => e = .returned (.tuple #[]) /\ w' = W)
theorem Try.sortsIn (m : Nat) : Try.SortsIn Fence.wide m :=
 ⟨fun blk off cap ss W h1 h2 h3 => callsIn_wide.2 (Any.slices_Sort_int Try.laysSort blk off cap ss W h1 h2 h3), fun p cap W => callsIn_wide.2 (Any.slices_Sort_int_none Try.laysSort p cap W)⟩
set_option maxRecDepth 100000 in
set_option maxHeartbeats 2000000 in
theorem Try.sorted_in (F : Fence) (n : Nat) (h92 : F.fn 29) (h84 : F.fn 66) (h102 : F.fn 65) (h116 : F.fn 84) (h103 : F.fn 67) (hro : F.round = none) (hn : 5 <= n) (hsort : Try.SortsIn F (n - 1)) (Bs n₀ : Nat) (sv : Value) (zs : List Int) (hlen : zs.length <= maxLen) (hreach : zs.length * 8 <= 140737488351232) (w : World) (hBs : Bs < w.heap.size) (hn₀ : n₀ <= w.heap.size)
  (hc : w.cell? ⟨Bs, 0, none⟩ = some sv) (hI : Try.Ints n₀ w sv zs) :
  CallsIn F n Try.prog 29 #[.func (.func 67) #[] #[.pointer (some ⟨Bs, 0, none⟩)]] w fun e W' => ∃ v, e = .returned v /\ W'.ownsRow w.heap.size 3 1 v zs.length ((zs.mergeSort (fun x y => decide (x <= y))).map (Value.int .i64)) /\ (v = .slice none 0 0 ↔ zs = []) /\ Below w.heap.size w W' := by
 have h1 : 1 <= n := by omega
 refine callsIn_of_wp Try.func29 rfl h92 ?_ hro
 simp only [Try.ntmps29, List.size_toArray, List.length_cons, List.length_nil, Nat.reduceAdd, Nat.reduceSub, Array.replicate_succ, Array.replicate_zero, List.push_toArray, List.append_toArray, List.nil_append, List.cons_append]
 gi_wp2_with (gi_at_call 65; refine (Try.collect_in F (n - 1) h102 h116 h103 hro (by omega) Bs n₀ sv zs hlen hreach w hBs hn₀ hc hI).mono ?_; rintro e W ⟨v, rfl, hrow, hnil, hb⟩)
 rcases hrow.2 with ⟨rfl, hz⟩ | ⟨gb, cap, cur, rfl, hbase, hgb, r1, r2, r3, r4⟩
 ·have hss : zs = [] := List.eq_nil_of_length_eq_zero hz;subst hss
  gi_wp2_with (gi_at_call 66; refine (hsort.2 none 0 W).mono ?_; rintro e w' ⟨rfl, rfl⟩)
  go_ret
  exact ⟨.slice none 0 0, rfl, by simpa using hrow, by simp, hb⟩
 ·have hH : Holds (Value.int .i64) W gb 0 zs.toArray := holds_of_block_i hgb (by simpa using r4);have hgl : gb < W.heap.size := (Array.getElem?_eq_some_iff.1 hgb).1;have hsz : zs.length < 4611686018427387904 := by omega
  have cS := hsort.1 gb 0 cap zs W hH hgl hsz
  gi_wp2_with (gi_at_call 66; refine cS.mono ?_; rintro e w' ⟨rfl, nn, os, rfl⟩)
  go_ret
  exact ⟨_, rfl, ownsRow_sorted_i (by simp) hbase hgb r1 r2 r3, hnil, hb.grown (grownBy_sorted_i _) hb.size (fun j hj => by cases hj; exact hbase)⟩
end Go.Proofs
namespace Go.Proofs
open Go.RowKit Go.Shelf Go.Maps Go.Sort
def Try.sortL (zs : List Int) : List Int := zs.mergeSort (fun x y => decide (x <= y))
open Go.Sh in
theorem Try.ints_of {w : World} {l : List Int} {A : Option Addr} {c : Nat} (h : FlatOk w noLab none A c 1 (ints l)) : Try.Ints w.heap.size w (.slice A l.length c) l := by
 cases l with
 | nil => exact .inl ⟨rfl, A, c, rfl⟩
 | cons x l =>
  obtain ⟨a, rfl, _, h0⟩ := h.cell 0 [.i .i64 x] 0 (.i .i64 x) rfl rfl;refine .inr ⟨a, c, rfl, ?_, fun j hj => ?_⟩
  ·have h0 : w.cell? (a.add (0 * 1 + 0)) = some (Sc.val (.i .i64 x)) := h0;have e : (a.add (0 * 1 + 0)).block = a.block := Try.add_block a _;rw [<- e];generalize a.add (0 * 1 + 0) = p at h0
   simp only [World.cell?] at h0;by_cases hp : p.block < w.heap.size
   ·exact hp
   ·rw [Array.getElem?_eq_none (by omega)] at h0;simp at h0
  ·have hg := List.getElem?_eq_getElem hj;obtain ⟨b, hb, _, hc⟩ := h.cell j [.i .i64 (x :: l)[j]] 0 (.i .i64 (x :: l)[j]) (qhq hg) rfl;injection hb with hb
   subst hb;rw [Nat.mul_one, Nat.add_zero] at hc;rw [hc, hg]; rfl
end Go.Proofs
namespace Go.Sh
open Go.Proofs
noncomputable def SizeC : Con := conP 1 (fun _ : Int => True) (fun k => [.one (.s (.i .i64 k))]) (fun k => .one (.s (.i .i64 (patG k).1)))
theorem SizeC_at (k : Int) : SizeC.F [.one (.s (.i .i64 k))] = some (.one (.s (.i .i64 (patG k).1)), []) :=
 conP_at (a := k) (fun a b _ _ h => by simp at h; rw [h]) trivial
theorem Size_ok : SoundC Try.prog T 46 SizeC := by
 refine sound_con (X := { Γ := [], T := T, nt := 7 }) cr_none hmix hT sound_nil Try.func46 (by rfl) (by rfl) (by rfl) (by rfl) 1 ?_
 intro k _
 refine two_le ?_
 refine Pick.by (fun h1 => ?_) (fun h1 => ?_)
 ·have h1 : k = 1 := by simpa using h1
  subst h1;exact ⟨rfl, rfl⟩
 have h1 : ¬ k = 1 := by simpa using h1
 refine Pick.by (fun h2 => ?_) (fun h2 => ?_)
 ·have h2 : k = 2 := by simpa using h2
  subst h2;exact ⟨rfl, rfl⟩
 have h2 : ¬ k = 2 := by simpa using h2
 have h : patG k = (0, []) := by unfold patG; rw [if_neg h1, if_neg h2]
 rw [h]
 exact ⟨rfl, rfl⟩
theorem ints_append (l m : List Int) : ints (l ++ m) = ints l ++ ints m := by simp [ints]
end Go.Sh
namespace Go.Sh
theorem nodup_lenG {α : Type} [DecidableEq α] {l : List α} : ∀ {m : List α}, l.Nodup -> (∀ x ∈ l, x ∈ m) -> l.length <= m.length := by
 induction l with
 | nil => intro m _ _; simp
 | cons x l ih =>
  intro m h s;rw [List.nodup_cons] at h;have hx := s x (by simp);have := ih (m := m.erase x) h.2 fun y hy => (List.mem_erase_of_ne (fun (e : y = x) => h.1 (by rw [<- e]; exact hy))).2 (s y (by simp [hy]))
  rw [List.length_erase_of_mem hx] at this;have := List.length_pos_of_mem hx;simp; omega
theorem right_take {n : Int} {E : List Ed} (h : RightP n E) (m : Nat) : RightP n (E.take m) :=
 ⟨h.1, h.2.1, by have := h.2.2.1; rw [List.length_take]; omega, fun p hp => h.2.2.2.1 p (List.mem_of_mem_take hp), h.2.2.2.2.sublist (List.take_sublist m E)⟩
end Go.Sh
namespace Go.Sh
theorem MdL.mono {vs : List Nat} {A A' : Nat -> Nat -> Prop} {c : Nat -> Nat} (h : MdL vs A c) (hs : ∀ x y, x ∈ vs -> y ∈ vs -> A x y -> A' x y) : MdL vs A' c :=
 ⟨h.some, fun i hi P hP hcl => h.conn i hi P hP fun x y hx hy ex ey k => hcl x y hx hy ex ey (hs x y hx hy k), fun i j hij hj => by
  obtain ⟨x, y, hx, hy, k, e⟩ := h.meet i j hij hj;exact ⟨x, y, hx, hy, hs x y hx hy k, e⟩⟩
theorem MdL.off {vs vs' : List Nat} {A A' : Nat -> Nat -> Prop} {c : Nat -> Nat} {v : Nat} (h : MdL vs A c) (hc : 4 <= c v) (hv : ∀ x, x ≠ v -> (x ∈ vs ↔ x ∈ vs')) (hs : ∀ x y, x ≠ v -> y ≠ v -> A x y -> A' x y) : MdL vs' A' c := by
 have ne : ∀ x i, i < 4 -> c x = i -> x ≠ v := fun x i hi e k => by rw [k] at e; omega
 refine ⟨fun i hi => ?_, fun i hi P hP hcl x hx ex => ?_, fun i j hij hj => ?_⟩
 ·obtain ⟨x, hx, e⟩ := h.some i hi;exact ⟨x, (hv x (ne x i hi e)).1 hx, e⟩
 ·obtain ⟨y, hy, ey, hPy⟩ := hP;exact h.conn i hi P ⟨y, (hv y (ne y i hi ey)).2 hy, ey, hPy⟩ (fun a b ha hb ea eb k => hcl a b ((hv a (ne a i hi ea)).1 ha) ((hv b (ne b i hi eb)).1 hb) ea eb (hs a b (ne a i hi ea) (ne b i hi eb) k)) x ((hv x (ne x i hi ex)).2 hx) ex
 ·obtain ⟨x, y, hx, hy, k, ex, ey⟩ := h.meet i j hij hj;have nx := ne x i (by omega) ex;have ny := ne y j hj ey;exact ⟨x, y, (hv x nx).1 hx, (hv y ny).1 hy, hs x y nx ny k, ex, ey⟩
open Classical in
theorem MdL.down {vs vs' : List Nat} {A : Nat -> Nat -> Prop} (hA : Sm A) {v w : Nat} (hv : v ∈ vs) (hw : w ∈ vs) (hvw : A v w) (hvs : ∀ x, x ∈ vs' ↔ x ∈ vs /\ x ≠ v) {c : Nat -> Nat} (h : MdL vs A c) (hc : c v = c w) : MdL vs' (ctr A v w) c := by
 have hne : w ≠ v := (hA.ne hvw).symm
 have hw' := (hvs w).2 ⟨hw, hne⟩
 refine ⟨fun i hi => ?_, fun i hi P hP hcl x hx ex => ?_, fun i j hij hj => ?_⟩
 ·obtain ⟨x, hx, e⟩ := h.some i hi;by_cases k : x = v
  ·subst k; exact ⟨w, hw', by rw [<- hc]; exact e⟩
  ·exact ⟨x, (hvs x).2 ⟨hx, k⟩, e⟩
 ·obtain ⟨hx0, hxv⟩ := (hvs x).1 hx;obtain ⟨y, hy, ey, hPy⟩ := hP;obtain ⟨hy0, hyv⟩ := (hvs y).1 hy;have := h.conn i hi (fun z => if z = v then P w else P z) ⟨y, hy0, ey, by rw [if_neg hyv]; exact hPy⟩ (fun a b ha hb ea eb k hPa => by
   try dsimp only at hPa ⊢
   by_cases e1 : a = v
   ·subst e1;rw [if_pos rfl] at hPa;have nb : b ≠ a := (hA.ne k).symm;rw [if_neg nb];by_cases e2 : b = w
    ·rw [e2]; exact hPa
    ·exact hcl w b hw' ((hvs b).2 ⟨hb, nb⟩) (by rw [<- hc]; exact ea) eb (.inr (.inl ⟨rfl, k, e2⟩)) hPa
   ·rw [if_neg e1] at hPa;have ha' := (hvs a).2 ⟨ha, e1⟩;by_cases e2 : b = v
    ·subst e2;rw [if_pos rfl];by_cases e3 : a = w
     ·rw [<- e3]; exact hPa
     ·exact hcl a w ha' hw' ea (by rw [<- hc]; exact eb) (.inr (.inr ⟨rfl, hA.sym _ _ k, e3⟩)) hPa
    ·rw [if_neg e2];exact hcl a b ha' ((hvs b).2 ⟨hb, e2⟩) ea eb (.inl k) hPa) x hx0 ex
  try dsimp only at this
  rw [if_neg hxv] at this;exact this
 ·obtain ⟨x, y, hx, hy, k, ex, ey⟩ := h.meet i j hij hj;by_cases e1 : x = v
  ·subst e1;have ny : y ≠ x := (hA.ne k).symm;have nw : y ≠ w := fun e => by rw [e] at ey; omega
   exact ⟨w, y, hw', (hvs y).2 ⟨hy, ny⟩, .inr (.inl ⟨rfl, k, nw⟩), by rw [<- hc]; exact ex, ey⟩
  ·by_cases e2 : y = v
   ·subst e2;have nw : x ≠ w := fun e => by rw [e] at ex; omega
    exact ⟨x, w, (hvs x).2 ⟨hx, e1⟩, hw', .inr (.inr ⟨rfl, hA.sym _ _ k, nw⟩), ex, by rw [<- hc]; exact ey⟩
   ·exact ⟨x, y, (hvs x).2 ⟨hx, e1⟩, (hvs y).2 ⟨hy, e2⟩, .inl k, ex, ey⟩
structure Red (A A' : Nat -> Nat -> Prop) (v a b : Nat) (Q : Prop) : Prop where
 nb : ∀ y, A v y -> y = a \/ y = b
 iff : ∀ x y, A' x y ↔ x ≠ v /\ y ≠ v /\ (A x y \/ (Q /\ ((x = a /\ y = b) \/ (x = b /\ y = a))))
 q1 : Q -> A v a /\ A v b /\ a ≠ b
 q2 : A v a -> A v b -> a ≠ b -> A a b \/ Q
theorem Red.swap {A A' : Nat -> Nat -> Prop} (hA : Sm A) {v a b : Nat} {Q : Prop} (h : Red A A' v a b Q) : Red A A' v b a Q :=
 ⟨fun y k => (h.nb y k).symm, fun x y => (h.iff x y).trans ⟨fun ⟨k1, k2, k3⟩ => ⟨k1, k2, k3.imp id fun ⟨q, k⟩ => ⟨q, k.symm⟩⟩, fun ⟨k1, k2, k3⟩ => ⟨k1, k2, k3.imp id fun ⟨q, k⟩ => ⟨q, k.symm⟩⟩⟩, fun q => ⟨(h.q1 q).2.1, (h.q1 q).1, (h.q1 q).2.2.symm⟩, fun k1 k2 k3 => (h.q2 k2 k1 k3.symm).imp (hA.sym _ _) id⟩
section
variable {vs : List Nat} {A A' : Nat -> Nat -> Prop} {v a b : Nat} {Q : Prop}
theorem erase_mem (hn : vs.Nodup) (v : Nat) : ∀ x, x ∈ vs.erase v ↔ x ∈ vs /\ x ≠ v := fun x => by rw [hn.mem_erase_iff]; exact And.comm
theorem Red.back (hA : Sm A) (hn : vs.Nodup) (hv : v ∈ vs) (ha : a ∈ vs) (h : Red A A' v a b Q) {c : Nat -> Nat} (hc : MdL vs A' c) : ∃ c, MdL vs A c := by
 have iso : 4 <= c v := by
  rcases Nat.lt_or_ge (c v) 4 with hlt | hge
  ·exfalso
   have only : ∀ x, x ∈ vs -> c x = c v -> x = v := hc.conn (c v) hlt (fun x => x = v) ⟨v, hv, rfl, rfl⟩ fun x y _ _ _ _ k e => absurd e ((h.iff x y).1 k).1
   have two : ∀ i j, i < j -> j < 4 -> i ≠ c v /\ j ≠ c v := fun i j hij hj => by
    obtain ⟨x, y, hx, hy, k, ex, ey⟩ := hc.meet i j hij hj;obtain ⟨n1, n2, _⟩ := (h.iff x y).1 k;exact ⟨fun e => n1 (only x hx (ex.trans e)), fun e => n2 (only y hy (ey.trans e))⟩
   have t1 := two 0 1 (by omega) (by omega);have t2 := two 2 3 (by omega) (by omega);omega
  ·exact hge
 by_cases hQ : Q
 ·obtain ⟨k1, k2, k3⟩ := h.q1 hQ;have h1 : MdL (vs.erase v) (ctr A v a) c := hc.off iso (fun x hx => by rw [erase_mem hn]; exact ⟨fun k => ⟨k, hx⟩, fun k => k.1⟩) fun x y _ _ k => by
   obtain ⟨_, _, k | ⟨_, ⟨e1, e2⟩ | ⟨e1, e2⟩⟩⟩ := (h.iff x y).1 k
   ·exact .inl k
   ·exact .inr (.inl ⟨e1, by rw [e2]; exact k2, by rw [e2]; exact k3.symm⟩)
   ·exact .inr (.inr ⟨e2, by rw [e1]; exact k2, by rw [e1]; exact k3.symm⟩)
  exact ⟨_, h1.lift hA hv ha k1 (erase_mem hn v)⟩
 ·exact ⟨c, hc.mono fun x y _ _ k => by
   obtain ⟨_, _, k | ⟨q, _⟩⟩ := (h.iff x y).1 k
   ·exact k
   ·exact absurd q hQ⟩
theorem Red.go (hA : Sm A) (hn : vs.Nodup) (hv : v ∈ vs) (hin : ∀ x y, A x y -> x ∈ vs) (h : Red A A' v a b Q) {c : Nat -> Nat} (hc : MdL vs A c) : ∃ c, MdL vs A' c := by
 rcases Nat.lt_or_ge (c v) 4 with hlt | hge
 ·have main : ∀ {a b : Nat}, Red A A' v a b Q -> A v a -> c v = c a -> ∃ c, MdL vs A' c := by
   intro a b h kva hca;have h1 := hc.down hA hv (hin _ _ (hA.sym _ _ kva)) kva (erase_mem hn v) hca;have h2 : MdL (vs.erase v) A' c := h1.mono fun x y hx hy k => by
    obtain ⟨_, nx⟩ := (erase_mem hn v x).1 hx;obtain ⟨_, ny⟩ := (erase_mem hn v y).1 hy;rcases k with k | ⟨e1, k, n⟩ | ⟨e1, k, n⟩
    ·exact (h.iff x y).2 ⟨nx, ny, .inl k⟩
    ·subst e1;rcases h.nb y k with e | e
     ·exact absurd e n
     ·subst e;refine (h.iff x y).2 ⟨nx, ny, ?_⟩;rcases h.q2 kva k n.symm with k2 | q
      ·exact .inl k2
      ·exact .inr ⟨q, .inl ⟨rfl, rfl⟩⟩
    ·subst e1;rcases h.nb x k with e | e
     ·exact absurd e n
     ·subst e;refine (h.iff x y).2 ⟨nx, ny, ?_⟩;rcases h.q2 kva k n.symm with k2 | q
      ·exact .inl (hA.sym _ _ k2)
      ·exact .inr ⟨q, .inr ⟨rfl, rfl⟩⟩
   exact ⟨_, h2.induced fun x hx => ((erase_mem hn v x).1 hx).1⟩
  by_cases hex : ∃ w, A v w /\ c v = c w
  ·obtain ⟨w, kw, ew⟩ := hex;rcases h.nb w kw with e | e
   ·subst e; exact main h kw ew
   ·subst e; exact main (h.swap hA) kw ew
  ·exfalso
   have only : ∀ x, x ∈ vs -> c x = c v -> x = v := hc.conn (c v) hlt (fun x => x = v) ⟨v, hv, rfl, rfl⟩ fun x y _ _ _ ey k e => by
    subst e; exact absurd ⟨y, k, ey.symm⟩ hex
   have nbr : ∀ j, j < 4 -> j ≠ c v -> ∃ y, A v y /\ c y = j := fun j hj hne => by
    rcases Nat.lt_or_gt_of_ne hne with hlt2 | hgt
    ·obtain ⟨x, y, hx, hy, k, ex, ey⟩ := hc.meet j (c v) hlt2 hlt;rw [only y hy ey] at k;exact ⟨x, hA.sym _ _ k, ex⟩
    ·obtain ⟨x, y, hx, hy, k, ex, ey⟩ := hc.meet (c v) j hgt hj;rw [only x hx ex] at k;exact ⟨y, k, ey⟩
   have col : ∀ j, j < 4 -> j ≠ c v -> c a = j \/ c b = j := fun j hj hne => by
    obtain ⟨y, k, e⟩ := nbr j hj hne;rcases h.nb y k with e2 | e2
    ·left; rw [<- e2]; exact e
    ·right; rw [<- e2]; exact e
   by_cases e0 : c v = 0
   ·have := col 1 (by omega) (by omega); have := col 2 (by omega) (by omega); have := col 3 (by omega) (by omega); omega
   by_cases e1 : c v = 1
   ·have := col 0 (by omega) (by omega); have := col 2 (by omega) (by omega); have := col 3 (by omega) (by omega); omega
   by_cases e2 : c v = 2
   ·have := col 0 (by omega) (by omega); have := col 1 (by omega) (by omega); have := col 3 (by omega) (by omega); omega
   ·have := col 0 (by omega) (by omega); have := col 1 (by omega) (by omega); have := col 2 (by omega) (by omega); omega
 ·exact ⟨c, hc.off hge (fun x _ => Iff.rfl) fun x y nx ny k => (h.iff x y).2 ⟨nx, ny, .inl k⟩⟩
end
def adjN (N : List (List Int)) (x y : Nat) : Prop := (y : Int) ∈ rowAt N x
def K4 (N : List (List Int)) : Prop := ∃ c, MdL (List.range N.length) (adjN N) c
theorem adjN_sm {N : List (List Int)} {G : List Bool} (h : Wf N G) : Sm (adjN N) := ⟨fun x y k => h.sym x y (by omega) (by omega) k, fun x k => h.irr x (by omega) k⟩
theorem adjN_in {N : List (List Int)} {G : List Bool} (h : Wf N G) (x y : Nat) (k : adjN N x y) : x ∈ List.range N.length := by
 have := (h.rows y).2 x (h.sym x y (by omega) (by omega) k)
 rw [List.mem_range]; omega
theorem step_red {N : List (List Int)} {G : List Bool} (h : Wf N G) {v : Nat} (hm : MayP N G v) : ∃ a b Q, a < N.length /\ Red (adjN N) (adjN (doN N (stepF N v))) v a b Q := by
 obtain ⟨_, hc⟩ := step_two h hm rfl
 have hrow : ∀ x y : Nat, adjN (doN N (stepF N v)) x y ↔ (x : Int) ≠ v /\ (((y : Int) ∈ rowAt N x /\ (y : Int) ≠ v) \/ ((stepF N v).2.2.2 = true /\ (((x : Int) = (stepF N v).2.1 /\ (y : Int) = (stepF N v).2.2.1) \/ ((x : Int) = (stepF N v).2.2.1 /\ (y : Int) = (stepF N v).2.1)))) := fun x y => (do_row h hm (by omega)).2 y
 have hv0 := hm.hi
 rcases hc with ⟨hl, _, _, hd⟩ | ⟨a, hl, _, _, hd⟩ | ⟨a, b, hl, hab, ea, eb, hd⟩
 ·refine ⟨v, v, False, by omega, ⟨fun y k => ?_, fun x y => ?_, fun q => q.elim, fun k => ?_⟩⟩
  ·unfold adjN at k; rw [hl] at k; simp at k
  ·rw [hrow, hd];unfold adjN;constructor
   ·rintro ⟨n1, ⟨k, n2⟩ | ⟨e, _⟩⟩
    ·exact ⟨by omega, by omega, .inl k⟩
    ·cases e
   ·rintro ⟨n1, n2, k | ⟨q, _⟩⟩
    ·exact ⟨by omega, .inl ⟨k, by omega⟩⟩
    ·exact q.elim
  ·unfold adjN at k; rw [hl] at k; simp at k
 ·have har := (h.rows v).2 a (by rw [hl]; simp);obtain ⟨a, rfl⟩ : ∃ c : Nat, a = c := ⟨a.toNat, by omega⟩;refine ⟨a, a, False, by omega, ⟨fun y k => ?_, fun x y => ?_, fun q => q.elim, fun _ _ n => absurd rfl n⟩⟩
  ·unfold adjN at k; rw [hl] at k; simp at k; omega
  ·rw [hrow, hd];unfold adjN;constructor
   ·rintro ⟨n1, ⟨k, n2⟩ | ⟨e, _⟩⟩
    ·exact ⟨by omega, by omega, .inl k⟩
    ·cases e
   ·rintro ⟨n1, n2, k | ⟨q, _⟩⟩
    ·exact ⟨by omega, .inl ⟨k, by omega⟩⟩
    ·exact q.elim
 ·have har := (h.rows v).2 a (by rw [hl]; simp);have hbr := (h.rows v).2 b (by rw [hl]; simp);have hav : a ≠ v := fun e => h.irr v hm.lo (by rw [hl]; simp [e])
  have hbv : b ≠ v := fun e => h.irr v hm.lo (by rw [hl]; simp [e])
  obtain ⟨a, rfl⟩ : ∃ c : Nat, a = c := ⟨a.toNat, by omega⟩;obtain ⟨b, rfl⟩ : ∃ c : Nat, b = c := ⟨b.toNat, by omega⟩;refine ⟨a, b, (stepF N v).2.2.2 = true, by omega, ⟨fun y k => ?_, fun x y => ?_, fun q => ?_, fun _ _ _ => ?_⟩⟩
  ·unfold adjN at k; rw [hl] at k; simp at k; omega
  ·rw [hrow, ea, eb];unfold adjN;constructor
   ·rintro ⟨n1, ⟨k, n2⟩ | ⟨e, ⟨k1, k2⟩ | ⟨k1, k2⟩⟩⟩
    ·exact ⟨by omega, by omega, .inl k⟩
    ·exact ⟨by omega, by omega, .inr ⟨e, .inl ⟨by omega, by omega⟩⟩⟩
    ·exact ⟨by omega, by omega, .inr ⟨e, .inr ⟨by omega, by omega⟩⟩⟩
   ·rintro ⟨n1, n2, k | ⟨e, ⟨k1, k2⟩ | ⟨k1, k2⟩⟩⟩
    ·exact ⟨by omega, .inl ⟨k, by omega⟩⟩
    ·exact ⟨by omega, .inr ⟨e, .inl ⟨by omega, by omega⟩⟩⟩
    ·exact ⟨by omega, .inr ⟨e, .inr ⟨by omega, by omega⟩⟩⟩
  ·unfold adjN;rw [hl];exact ⟨by simp, by simp, by omega⟩
  ·unfold adjN;rw [hd]
   cases he : (rowAt N a).elem (b : Int) with
   | true => left; simpa using he
   | false => right; rfl
theorem K4_step {N : List (List Int)} {G : List Bool} (h : Wf N G) {v : Int} (hm : MayP N G v) : K4 (doN N (stepF N v)) ↔ K4 N := by
 have h0 := hm.lo
 have h1 := hm.hi
 obtain ⟨v, rfl⟩ : ∃ c : Nat, v = c := ⟨v.toNat, by omega⟩
 obtain ⟨a, b, Q, ha, hr⟩ := step_red h hm
 have hv : v ∈ List.range N.length := List.mem_range.2 (by omega)
 unfold K4
 rw [doN_length]
 exact ⟨fun ⟨c, hc⟩ => hr.back (adjN_sm h) List.nodup_range hv (List.mem_range.2 ha) hc, fun ⟨c, hc⟩ => hr.go (adjN_sm h) List.nodup_range hv (adjN_in h) hc⟩
theorem K4_run {f : Nat} : ∀ {N : List (List Int)} {G : List Bool}, Wf N G -> (K4 (runS f N G).2.1 ↔ K4 N) := by
 induction f with
 | zero => intro N G _; exact Iff.rfl
 | succ f ih =>
  intro N G h
  cases hm : firstMay N G with
  | none => rw [runS_end hm]
  | some v =>
   rw [runS_go hm];have hp := mayB_iff.1 (firstMay_may hm);exact (ih (do_wf h hp)).trans (K4_step h hp)
end Go.Sh
namespace Go.Sh
def opn (s : Ck) (i : Nat) : Prop := i < s.poles.length /\ s.usd (i : Nat) = 0
def AdjC (s : Ck) (x y : Nat) : Prop := x ≠ y /\ ∃ i, opn s i /\ s.pol (i : Nat) = pairF (x : Int) (y : Int)
theorem adjC_sm (s : Ck) : Sm (AdjC s) := ⟨fun x y ⟨h, i, h1, h2⟩ => ⟨Ne.symm h, i, h1, by rw [h2, pairF_comm]⟩, fun x ⟨h, _⟩ => h rfl⟩
def atP (e : Ed) (w : Int) : Prop := w = e.1 \/ w = e.2
theorem atP_pair {a b w : Int} : atP (pairF a b) w ↔ w = a \/ w = b := by
 unfold atP
 rcases pairF_two a b with ⟨h1, h2⟩ | ⟨h1, h2⟩ <;> rw [h1, h2]
 exact or_comm
structure FitC (l : List Int) (N : Nat) (s : Ck) : Prop where
 ck : CkI s
 us : s.used.length = N
 in_ : ∀ x ∈ s.poles, x.1 ∈ l /\ x.2 ∈ l
theorem FitC.pol {l : List Int} {N : Nat} {s : Ck} (h : FitC l N s) {i : Int} (h0 : 0 <= i) (h1 : i < s.poles.length) : s.pol i ∈ s.poles := by
 unfold Ck.pol
 rw [qDq, qEq (by omega)]
 exact List.getElem_mem _
structure MoveP (s : Ck) (x : Nd) (s' : Ck) (e : Ed) : Prop where
 free : FreeP s x
 poles : s'.poles = s.poles ++ [e]
 used : s'.used = (s.used.set x.2.1.toNat 1).set x.2.2.toNat 1
theorem StepP.move {s s' : Ck} {x : Nd} (h : StepP s x s') : ∃ e, MoveP s x s' e := by
 cases h with
 | ser m a b op free mid is => subst is; exact ⟨_, free, rfl, rfl⟩
 | par op free same is => subst is; exact ⟨_, free, rfl, rfl⟩
theorem MoveP.pol {s s' : Ck} {x : Nd} {e : Ed} (h : MoveP s x s' e) {i : Nat} : s'.pol (i : Nat) = if i < s.poles.length then s.pol (i : Nat) else if i = s.poles.length then e else (0, 0) := by
 have := pol_app (s := s) (e := e) (P := s.poles) (used := s'.used) (mid := s'.mid) rfl (i := i)
 rw [<- this]
 unfold Ck.pol
 rw [h.poles]
theorem MoveP.usd {s s' : Ck} {x : Nd} {e : Ed} (h : MoveP s x s' e) {N : Nat} (hN : s.used.length = N) (hlt : s.poles.length <= N) {i : Nat} (hi : i < N) : s'.usd (i : Nat) = if x.2.1 = i \/ x.2.2 = i then 1 else s.usd (i : Nat) := by
 obtain ⟨f1, f2, f3, f4, f5, f6⟩ := h.free
 unfold Ck.usd
 rw [h.used, Int.toNat_natCast]
 exact used2 hN f2 (by omega) f3 (by omega) hi
theorem MoveP.fit {l : List Int} {N : Nat} {s s' : Ck} {x : Nd} {e : Ed} (h : MoveP s x s' e) (hf : FitC l N s) (hs : StepP s x s') : FitC l N s' := by
 refine ⟨hs.inv hf.ck, by rw [h.used, List.length_set, List.length_set, hf.us], ?_⟩
 obtain ⟨f1, f2, f3, f4, f5, f6⟩ := h.free
 have h1 := hf.in_ _ (hf.pol f2 f4)
 have h2 := hf.in_ _ (hf.pol f3 f5)
 intro y hy
 cases hs with
 | ser m a b op free mid is =>
  subst is;rcases List.mem_append.1 hy with hy | hy
  ·exact hf.in_ y hy
  ·rw [List.mem_singleton] at hy;subst hy;rw [mid.1] at h1;rw [mid.2.1] at h2;have k1 : a ∈ l := by
    rcases pairF_two a m with ⟨e1, e2⟩ | ⟨e1, e2⟩ <;> rw [e1, e2] at h1
    ·exact h1.1
    ·exact h1.2
   have k2 : b ∈ l := by
    rcases pairF_two m b with ⟨e1, e2⟩ | ⟨e1, e2⟩ <;> rw [e1, e2] at h2
    ·exact h2.2
    ·exact h2.1
   rcases pairF_two a b with ⟨e1, e2⟩ | ⟨e1, e2⟩ <;> rw [e1, e2]
   ·exact ⟨k1, k2⟩
   ·exact ⟨k2, k1⟩
 | par op free same is =>
  subst is;rcases List.mem_append.1 hy with hy | hy
  ·exact hf.in_ y hy
  ·rw [List.mem_singleton] at hy;subst hy; exact h1
theorem MoveP.opn {s s' : Ck} {x : Nd} {e : Ed} (h : MoveP s x s' e) {N : Nat} (hN : s.used.length = N) (hlt : s.poles.length < N) (hnew : s.usd (s.poles.length : Nat) = 0) (i : Nat) : opn s' i ↔ (opn s i /\ x.2.1 ≠ i /\ x.2.2 ≠ i) \/ i = s.poles.length := by
 unfold Go.Sh.opn
 rw [h.poles, List.length_append, List.length_singleton]
 obtain ⟨f1, f2, f3, f4, f5, f6⟩ := h.free
 constructor
 ·rintro ⟨h1, h2⟩;by_cases hi : i = s.poles.length
  ·exact .inr hi
  ·rw [h.usd hN (by omega) (by omega)] at h2;by_cases hc : x.2.1 = i \/ x.2.2 = i
   ·rw [if_pos hc] at h2; omega
   ·rw [if_neg hc] at h2;exact .inl ⟨⟨by omega, h2⟩, fun e => hc (.inl e), fun e => hc (.inr e)⟩
 ·rintro (⟨⟨h1, h2⟩, h3, h4⟩ | rfl)
  ·refine ⟨by omega, ?_⟩;rw [h.usd hN (by omega) (by omega), if_neg (by rintro (e | e); exact h3 e; exact h4 e)]; exact h2
  ·refine ⟨by omega, ?_⟩;rw [h.usd hN (by omega) hlt, if_neg (by omega)]; exact hnew
structure UseC (N : Nat) (s : Ck) : Prop where
 z : ∀ i : Nat, 0 <= s.usd (i : Nat)
 new : ∀ i : Nat, s.poles.length <= i -> i < N -> s.usd (i : Nat) = 0
theorem FreeP.opn {N : Nat} {s : Ck} {x : Nd} (h : FreeP s x) (u : UseC N s) : opn s x.2.1.toNat /\ opn s x.2.2.toNat := by
 obtain ⟨f1, f2, f3, f4, f5, f6⟩ := h
 have z1 := u.z x.2.1.toNat
 have z2 := u.z x.2.2.toNat
 rw [Int.toNat_of_nonneg f2] at z1
 rw [Int.toNat_of_nonneg f3] at z2
 exact ⟨⟨by omega, by rw [Int.toNat_of_nonneg f2]; omega⟩, by omega, by rw [Int.toNat_of_nonneg f3]; omega⟩
theorem MoveP.use {s s' : Ck} {x : Nd} {e : Ed} (h : MoveP s x s' e) {N : Nat} (hN : s.used.length = N) (hlt : s.poles.length < N) (u : UseC N s) : UseC N s' := by
 obtain ⟨f1, f2, f3, f4, f5, f6⟩ := h.free
 refine ⟨fun i => ?_, fun i h1 h2 => ?_⟩
 ·by_cases hi : i < N
  ·rw [h.usd hN (by omega) hi]; have := u.z i; split <;> omega
  ·unfold Ck.usd;rw [h.used, Int.toNat_natCast, qDq, List.getElem?_eq_none (by rw [List.length_set, List.length_set, hN]; omega)];exact Int.le_refl 0
 ·rw [h.poles, List.length_append, List.length_singleton] at h1;rw [h.usd hN (by omega) h2, if_neg (by omega)];exact u.new i (by omega) h2
def DoneC (s : Ck) : Prop := ∀ i, opn s i -> i + 1 = s.poles.length
theorem mid_le {s s' : Ck} {x : Nd} (h : StepP s x s') (w : Int) : mapGet s.mid [w] <= mapGet s'.mid [w] := by
 cases h with
 | ser m a b op free mid is =>
  subst is;show _ <= mapGet (midIn s.mid m) [w]
  unfold midIn;rw [mapGet_put];split
  ·rename_i e; simp at e; subst e; omega
  ·omega
 | par op free same is => subst is; exact Int.le_refl _
theorem fut {l : List Int} {N : Nat} : ∀ {t : List Nd} {s sf : Ck}, ckRun t s = some sf -> FitC l N s -> UseC N s -> s.poles.length + t.length <= N -> DoneC sf ->
  (∀ w, mapGet s.mid [w] <= mapGet sf.mid [w]) /\ ∀ w i, opn s i -> atP (s.pol (i : Nat)) w -> atP (ckLast sf) w \/ mapGet s.mid [w] < mapGet sf.mid [w] := by
 intro t
 induction t with
 | nil =>
  intro s sf hr hf hu hN hd;simp only [ckRun] at hr;injection hr with hr
  subst hr;refine ⟨fun w => Int.le_refl _, fun w i hi ha => .inl ?_⟩;have := hd i hi;unfold ckLast;rw [show s.poles.length - 1 = i by omega];unfold Ck.pol at ha;rw [Int.toNat_natCast] at ha;exact ha
 | cons x t ih =>
  intro s sf hr hf hu hN hd;simp only [ckRun] at hr
  cases h1 : ckStep s x with
  | none => rw [h1] at hr; simp at hr
  | some s1 =>
   rw [h1] at hr;dsimp only at hr;have hs := (ckStep_iff hf.ck).1 h1;obtain ⟨e, hm⟩ := hs.move;rw [List.length_cons] at hN;have hlt : s.poles.length < N := by omega
   have hf1 := hm.fit hf hs;have hu1 := hm.use hf.us hlt hu;obtain ⟨k1, k2⟩ := ih hr hf1 hu1 (by rw [hm.poles, List.length_append, List.length_singleton]; omega) hd;have hmid := mid_le hs;refine ⟨fun w => Int.le_trans (hmid w) (k1 w), fun w i hi ha => ?_⟩;have next : ∀ j, opn s1 j -> atP (s1.pol (j : Nat)) w -> atP (ckLast sf) w \/ mapGet s.mid [w] < mapGet sf.mid [w] := fun j hj hw => by
    rcases k2 w j hj hw with h | h
    ·exact .inl h
    ·exact .inr (Int.lt_of_le_of_lt (hmid w) h)
   have hop := hm.opn hf.us hlt (hu.new _ (Nat.le_refl _) hlt);by_cases hc : x.2.1 = i \/ x.2.2 = i
   ·have hnew : opn s1 s.poles.length := (hop _).2 (.inr rfl);have hpn : s1.pol (s.poles.length : Nat) = e := by rw [hm.pol, if_neg (by omega), if_pos rfl]
    cases hs with
    | ser m a b op free mid is =>
     have he : e = pairF a b := by
      have := hm.poles;rw [is] at this;have := List.append_cancel_left this;simpa using this.symm
     by_cases hwm : w = m
     ·subst hwm;refine .inr (Int.lt_of_lt_of_le ?_ (k1 w));rw [is];show _ < mapGet (midIn s.mid w) [w]
      unfold midIn;rw [mapGet_put, if_pos rfl]; omega
     ·refine next _ hnew ?_;rw [hpn, he, atP_pair];rcases hc with hc | hc
      ·rw [<- hc, mid.1, atP_pair] at ha;exact .inl (ha.resolve_right hwm)
      ·rw [<- hc, mid.2.1, atP_pair] at ha;exact .inr (ha.resolve_left hwm)
    | par op free same is =>
     have he : e = s.pol x.2.1 := by
      have := hm.poles;rw [is] at this;have := List.append_cancel_left this;simpa using this.symm
     refine next _ hnew ?_;rw [hpn, he];rcases hc with hc | hc
     ·rw [hc]; exact ha
     ·rw [same, hc]; exact ha
   ·have hi1 : opn s1 i := (hop i).2 (.inl ⟨hi, fun e => hc (.inl e), fun e => hc (.inr e)⟩);refine next i hi1 ?_;rw [hm.pol, if_pos hi.1]; exact ha
theorem run_noK4 {l : List Int} {N : Nat} {vs : List Nat} (hvs : vs.Nodup) (hl : ∀ x : Nat, x ∈ vs ↔ (x : Int) ∈ l) (hl0 : ∀ v ∈ l, 0 <= v) : ∀ {t : List Nd} {s sf : Ck}, ckRun t s = some sf -> FitC l N s -> UseC N s -> (∀ w, 0 <= mapGet s.mid [w]) -> s.poles.length + t.length <= N -> DoneC sf -> CkEnd l sf -> ¬ ∃ c, MdL vs (AdjC s) c := by
 intro t
 induction t with
 | nil =>
  intro s sf hr hf hu hmz hN hd he;simp only [ckRun] at hr;injection hr with hr
  subst hr;rintro ⟨c, hc⟩;have one : ∀ x y, AdjC s x y -> pairF (x : Int) (y : Int) = ckLast s := fun x y ⟨_, i, hi, hp⟩ => by
   have := hd i hi;rw [<- hp];unfold ckLast Ck.pol;rw [Int.toNat_natCast, show s.poles.length - 1 = i by omega]
  obtain ⟨x, y, _, _, h1, e1, e2⟩ := hc.meet 0 1 (by omega) (by omega);obtain ⟨z, w, _, _, h2, e3, e4⟩ := hc.meet 2 3 (by omega) (by omega);have k := (one x y h1).trans (one z w h2).symm;rw [pairF_inj] at k;rcases k with ⟨k, _⟩ | ⟨k, _⟩
  ·have : x = z := by omega
   subst this; omega
  ·have : x = w := by omega
   subst this; omega
 | cons x t ih =>
  intro s sf hr hf hu hmz hN hd he;simp only [ckRun] at hr
  cases h1 : ckStep s x with
  | none => rw [h1] at hr; simp at hr
  | some s1 =>
   rw [h1] at hr;dsimp only at hr;have hs := (ckStep_iff hf.ck).1 h1;obtain ⟨e, hm⟩ := hs.move;rw [List.length_cons] at hN;have hlt : s.poles.length < N := by omega
   have hf1 := hm.fit hf hs;have hu1 := hm.use hf.us hlt hu;have hN1 : s1.poles.length + t.length <= N := by rw [hm.poles, List.length_append, List.length_singleton]; omega
   have hmz1 : ∀ w, 0 <= mapGet s1.mid [w] := fun w => Int.le_trans (hmz w) (mid_le hs w)
   have ih1 := ih hr hf1 hu1 hmz1 hN1 hd he;have hop := hm.opn hf.us hlt (hu.new _ (Nat.le_refl _) hlt);obtain ⟨oL, oR⟩ := hm.free.opn hu;obtain ⟨f1, f2, f3, f4, f5, f6⟩ := hm.free;have hpn : s1.pol (s.poles.length : Nat) = e := by rw [hm.pol, if_neg (by omega), if_pos rfl]
   have hold : ∀ i, opn s i -> s1.pol (i : Nat) = s.pol (i : Nat) := fun i hi => by rw [hm.pol, if_pos hi.1]
   have hnew : opn s1 s.poles.length := (hop _).2 (.inr rfl);rintro ⟨c, hc⟩
   cases hs with
   | par op free same is =>
    have hee : e = s.pol x.2.1 := by
     have := hm.poles;rw [is] at this;have := List.append_cancel_left this;simpa using this.symm
    refine ih1 ⟨c, hc.mono fun a b _ _ ⟨hab, i, hi, hp⟩ => ⟨hab, ?_⟩⟩;by_cases hci : x.2.1 = i \/ x.2.2 = i
    ·refine ⟨_, hnew, ?_⟩;rw [hpn, hee, <- hp];rcases hci with h | h
     ·rw [h]
     ·rw [same, h]
    ·exact ⟨i, (hop i).2 (.inl ⟨hi, fun e => hci (.inl e), fun e => hci (.inr e)⟩), by rw [hold i hi]; exact hp⟩
   | ser m a b op free mid is =>
    have hee : e = pairF a b := by
     have := hm.poles;rw [is] at this;have := List.append_cancel_left this;simpa using this.symm
    obtain ⟨k1, k2⟩ := fut hr hf1 hu1 hN1 hd;have inL := hf.in_ _ (hf.pol f2 f4);have inR := hf.in_ _ (hf.pol f3 f5);have aml : a ∈ l /\ m ∈ l := by
     rw [mid.1] at inL;rcases pairF_two a m with ⟨e1, e2⟩ | ⟨e1, e2⟩ <;> rw [e1, e2] at inL
     ·exact inL
     ·exact inL.symm
    have bl : b ∈ l := by
     rw [mid.2.1] at inR;rcases pairF_two m b with ⟨e1, e2⟩ | ⟨e1, e2⟩ <;> rw [e1, e2] at inR
     ·exact inR.2
     ·exact inR.1
    have m1 : 1 <= mapGet s1.mid [m] := by
     rw [is];show 1 <= mapGet (midIn s.mid m) [m]
     unfold midIn;rw [mapGet_put, if_pos rfl];have := hmz m;omega
    have mlast : ¬ atP (ckLast sf) m /\ mapGet sf.mid [m] = 1 := by
     have := he m aml.2;have := k1 m;by_cases hc : m = (ckLast sf).1 \/ m = (ckLast sf).2
     ·rw [if_pos hc] at *; omega
     ·rw [if_neg hc] at *; exact ⟨hc, by omega⟩
    -- nothing else that is open has the middle
    have only : ∀ i, opn s i -> atP (s.pol (i : Nat)) m -> x.2.1 = i \/ x.2.2 = i := fun i hi ha => by
     refine Classical.byContradiction fun hno => ?_
     have hi1 : opn s1 i := (hop i).2 (.inl ⟨hi, fun e => hno (.inl e), fun e => hno (.inr e)⟩);rcases k2 m i hi1 (by rw [hold i hi]; exact ha) with h | h
     ·exact mlast.1 h
     ·omega
    have a0 := hl0 a aml.1;have m0 := hl0 m aml.2;have b0 := hl0 b bl;obtain ⟨A, rfl⟩ : ∃ A : Nat, a = A := ⟨a.toNat, by omega⟩;obtain ⟨B, rfl⟩ : ∃ B : Nat, b = B := ⟨b.toNat, by omega⟩;obtain ⟨M, rfl⟩ : ∃ M : Nat, m = M := ⟨m.toNat, by omega⟩;obtain ⟨hL, hR, hab, ham, hbm⟩ := mid;have pL : s.pol (x.2.1.toNat : Nat) = pairF A M := by rw [Int.toNat_of_nonneg f2]; exact hL
    have pR : s.pol (x.2.2.toNat : Nat) = pairF M B := by rw [Int.toNat_of_nonneg f3]; exact hR
    have red : Red (AdjC s) (AdjC s1) M A B (¬ AdjC s A B) := by
     refine ⟨fun y hy => ?_, fun u w => ?_, fun _ => ?_, fun _ _ _ => Classical.em _⟩
     ·obtain ⟨hne, i, hi, hp⟩ := hy;rcases only i hi (by rw [hp, atP_pair]; exact .inl rfl) with h | h
      ·rw [<- h, hL, pairF_inj] at hp; left; omega
      ·rw [<- h, hR, pairF_inj] at hp; right; omega
     ·constructor
      ·rintro ⟨hne, i, hi, hp⟩;rcases (hop i).1 hi with ⟨hio, n1, n2⟩ | rfl
       ·rw [hold i hio] at hp;have hnm : ¬ atP (s.pol (i : Nat)) M := fun h => by rcases only i hio h with h | h; exact n1 h; exact n2 h
        rw [hp, atP_pair] at hnm;exact ⟨fun h => hnm (.inl (by rw [h])), fun h => hnm (.inr (by rw [h])), .inl ⟨hne, i, hio, hp⟩⟩
       ·rw [hpn, hee, pairF_inj] at hp;refine ⟨by omega, by omega, ?_⟩;by_cases hq : AdjC s A B
        ·left
         rcases hp with ⟨h1, h2⟩ | ⟨h1, h2⟩
         ·rw [show u = A by omega, show w = B by omega]; exact hq
         ·rw [show u = B by omega, show w = A by omega]; exact (adjC_sm s).sym _ _ hq
        ·right
         refine ⟨hq, ?_⟩;rcases hp with ⟨h1, h2⟩ | ⟨h1, h2⟩
         ·exact .inl ⟨by omega, by omega⟩
         ·exact .inr ⟨by omega, by omega⟩
      ·rintro ⟨n1, n2, ⟨hne, i, hi, hp⟩ | ⟨hq, h⟩⟩
       ·refine ⟨hne, i, (hop i).2 (.inl ⟨hi, fun h => ?_, fun h => ?_⟩), by rw [hold i hi]; exact hp⟩
        ·rw [<- h, hL, pairF_inj] at hp; omega
        ·rw [<- h, hR, pairF_inj] at hp; omega
       ·refine ⟨by omega, _, hnew, ?_⟩;rw [hpn, hee, pairF_inj];omega
     ·exact ⟨⟨by omega, _, oL, by rw [pL, pairF_comm]⟩, ⟨by omega, _, oR, pR⟩, by omega⟩
    have hin : ∀ u w, AdjC s u w -> u ∈ vs := fun u w ⟨_, i, hi, hp⟩ => by
     have := hf.in_ _ (hf.pol (i := (i : Nat)) (by omega) (by have := hi.1; omega));rw [hp] at this;rcases pairF_two (u : Int) (w : Int) with ⟨e1, e2⟩ | ⟨e1, e2⟩ <;> rw [e1, e2] at this
     ·exact (hl u).2 this.1
     ·exact (hl u).2 this.2
    exact ih1 (red.go (adjC_sm s) hvs ((hl M).2 aml.2) hin hc)
theorem ck_noK4 {n : Int} {E : List Ed} {l : List Int} {t : List Nd} (h : ckF n E l t = true) : ¬ ∃ c, MdL (l.map Int.toNat) (fun x y => adjE (withL l E) (x : Int) (y : Int)) c := by
 unfold ckF at h
 simp only [Bool.and_eq_true, decide_eq_true_eq] at h
 obtain ⟨hT, ht, hb⟩ := h
 obtain ⟨hR, h2, ⟨hnd, hrng⟩, -⟩ := twoB_iff.1 hT
 obtain ⟨W, hW⟩ : ∃ W, withL l E = W := ⟨_, rfl⟩
 unfold ckB at hb
 rw [hW] at hb ht ⊢
 cases hr : ckRun t (ckStart W t.length) with
 | none => rw [hr] at hb; simp at hb
 | some sf =>
  rw [hr] at hb;have he : CkEnd l sf := of_decide_eq_true hb;have hWp : ∀ e ∈ W, Prop2 e := by rw [<- hW]; exact start_inv (l := l) hR 0
  have hpre := (run_pre (E := W) t.length 0 (by omega) (by omega) (pre_start (t := t) hWp)).1 sf (by rw [List.drop_zero]; exact hr);have hne : l ≠ [] := by rintro rfl; simp at h2
  have honce := (ck_ref hWp ht hne).1 ⟨sf, hr, he⟩;have hfit : FitC l (W.length + t.length) (ckStart W t.length) := ⟨hWp, by simp [ckStart], fun x hx => by
   have hx : x ∈ withL l E := by rw [hW]; exact hx
   have := (List.mem_filter.1 hx).2;unfold ownP at this;simpa using this⟩
  have hz : ∀ i : Nat, (ckStart W t.length).usd (i : Nat) = 0 := fun i => by
   unfold Ck.usd;show (List.replicate _ (0 : Int)).getD _ 0 = 0
   rw [qDq, List.getElem?_replicate]; split <;> rfl
  have huse : UseC (W.length + t.length) (ckStart W t.length) := ⟨fun i => by rw [hz i]; exact Int.le_refl _, fun i _ _ => hz i⟩;have hdone : DoneC sf := fun i hi => by
   have hu := hpre.usd i (by have := hi.1; have := hpre.len; omega);have ho := honce.1 i (by have := hi.1; have := hpre.len; omega);rw [List.take_length] at hu;have h0 := hi.2;rw [hpre.len];split at ho <;> omega
  have hmap : ∀ x : Nat, x ∈ l.map Int.toNat ↔ (x : Int) ∈ l := fun x => by
   rw [List.mem_map];constructor
   ·rintro ⟨v, hv, rfl⟩;rw [Int.toNat_of_nonneg (hrng v hv).1]; exact hv
   ·intro h; exact ⟨_, h, Int.toNat_natCast x⟩
  have hnd2 : (l.map Int.toNat).Nodup := by
   refine List.nodup_iff_pairwise_ne.2 ?_;rw [List.pairwise_map];refine (List.nodup_iff_pairwise_ne.1 hnd).imp_of_mem fun {a b} ha hb hab => ?_
   have := hrng a ha;have := hrng b hb;omega
  have key := run_noK4 hnd2 hmap (fun v hv => (hrng v hv).1) hr hfit huse (fun w => Int.le_refl _) (by show W.length + t.length <= _; omega) hdone he;rintro ⟨c, hc⟩;refine key ⟨c, hc.mono fun x y _ _ hxy => ?_⟩;have hne2 : (x : Int) ≠ y := by
   have : adjE E (x : Int) y := by
    rw [<- hW, with_mem] at hxy; exact hxy.1
   exact adj_ne hR this
  refine ⟨fun e => hne2 (by rw [e]), ?_⟩;have : pairF (x : Int) (y : Int) ∈ W := by
   rcases hxy with h | h
   ·have := hWp _ h;unfold Prop2 at this;rw [pairF_le (by dsimp only at this; omega)]; exact h
   ·have := hWp _ h;unfold Prop2 at this;rw [pairF_ge (by dsimp only at this; omega)]; exact h
  obtain ⟨i, hi, hii⟩ := List.getElem_of_mem this;refine ⟨i, ⟨hi, hz i⟩, ?_⟩;unfold Ck.pol;show W.getD ((i : Nat) : Int).toNat (0, 0) = _
  rw [Int.toNat_natCast, qDq, qEq hi, hii]; rfl
end Go.Sh
namespace Go.Sh
end Go.Sh
namespace Go.Sh
open Go.Proofs
theorem isPol.two {r : List Int × Bool} {e : Ed} (he : Prop2 e) (h : isPol r e) : ∃ a b, r.1 = [a, b] /\ a ≠ b := by
 unfold Prop2 at he
 rcases h.2 with h | h
 ·exact ⟨_, _, h, by omega⟩
 ·exact ⟨_, _, h, by omega⟩
end Go.Sh
namespace Go.Proofs
open Go.RowKit Go.Shelf
attribute [local go_sem] Oper.semAt_some
def Try.Eds (S : Nat -> Prop) (W : World) (sv : Value) (E : List (Int × Int)) : Prop :=
 (E = [] /\ ∃ a cap, sv = .slice a 0 cap) \/ ∃ ab ao cap, sv = .slice (some ⟨ab, ao, none⟩) E.length cap /\ S ab /\ ∀ j x, E[j]? = some x -> W.cell? ⟨ab, ao + j * 2, none⟩ = some (.int .i64 x.1) /\ W.cell? ⟨ab, ao + j * 2 + 1, none⟩ = some (.int .i64 x.2)
structure Try.Kept (S : Nat -> Prop) (W W' : World) : Prop where
 size : W.heap.size <= W'.heap.size
 block : ∀ k, S k -> W'.heap[k]? = W.heap[k]?
theorem Try.Kept.refl (S : Nat -> Prop) (W : World) : Try.Kept S W W := ⟨Nat.le_refl _, fun _ _ => rfl⟩
theorem Try.Kept.trans {S : Nat -> Prop} {A B C : World} (h : Try.Kept S A B) (k : Try.Kept S B C) : Try.Kept S A C := ⟨Nat.le_trans h.size k.size, fun b hb => (k.block b hb).trans (h.block b hb)⟩
theorem Try.Kept.cell {S : Nat -> Prop} {W W' : World} (h : Try.Kept S W W') {p : Addr} (hp : S p.block) : W'.cell? p = W.cell? p := World.cell?_of_block (w := W) (h.block p.block hp)
theorem Try.Kept.alloc {S : Nat -> Prop} {A W : World} (h : Try.Kept S A W) (hS : ∀ k, S k -> k < A.heap.size) (o : Obj) : Try.Kept S A (W.alloc o) := ⟨Nat.le_trans h.size (by simp), fun k hk => (Below.heap_alloc W o k (Nat.lt_of_lt_of_le (hS k hk) h.size)).trans (h.block k hk)⟩
theorem Try.Kept.of {n : Nat} {S : Nat -> Prop} {W W' : World} (h : Below n W W') (hS : ∀ k, S k -> k < n) : Try.Kept S W W' := ⟨h.size, fun k hk => h.block k (hS k hk)⟩
end Go.Proofs
namespace Go.Proofs
open Go.RowKit Go.Shelf Go.Sh
attribute [local go_sem] Oper.semAt_some
theorem Try.eds_of {w : World} {E : List Ed} {A : Option Addr} {c : Nat} (h : FlatOk w noLab none A c 2 (edges E)) : Try.Eds (· < w.heap.size) w (.slice A E.length c) E := by
 cases E with
 | nil => exact .inl ⟨rfl, A, c, rfl⟩
 | cons x E =>
  obtain ⟨a, rfl, _, h0⟩ := h.cell 0 [.i .i64 x.1, .i .i64 x.2] 0 (.i .i64 x.1) rfl rfl;have h0 : w.cell? a = some (.int .i64 x.1) := h0;obtain ⟨ab, ao, sp⟩ := a;have hsp : sp = none := by
   cases sp with
   | none => rfl
   | some s =>
    simp only [World.cell?] at h0;split at h0 <;> simp at h0
  subst hsp;refine .inr ⟨ab, ao, c, rfl, ?_, fun j y hj => ?_⟩
  ·simp only [World.cell?] at h0;by_cases hp : ab < w.heap.size
   ·exact hp
   ·rw [Array.getElem?_eq_none (by omega)] at h0;simp at h0
  ·have hr := edges_get hj;obtain ⟨b1, e1, _, h1⟩ := h.cell j _ 0 (.i .i64 y.1) hr rfl;obtain ⟨b2, e2, _, h2⟩ := h.cell j _ 1 (.i .i64 y.2) hr rfl;injection e1 with e1
   injection e2 with e2
   subst e1;subst e2;rw [Addr.add_plain] at h1 h2;exact ⟨h1, by rw [Nat.add_assoc]; exact h2⟩
theorem Try.Eds.kept {S S' : Nat -> Prop} {A B : World} (h : Try.Kept S A B) (hS : ∀ k, S' k -> S k) {sv : Value} {E : List Ed} : Try.Eds S' A sv E -> Try.Eds S B sv E
 | .inl e => .inl e
 | .inr ⟨ab, ao, cap, e, hb, hc⟩ => .inr ⟨ab, ao, cap, e, hS _ hb, fun j x hj => ⟨(h.cell (p := ⟨ab, ao + j * 2, none⟩) (hS _ hb)).trans (hc j x hj).1, (h.cell (p := ⟨ab, ao + j * 2 + 1, none⟩) (hS _ hb)).trans (hc j x hj).2⟩⟩
end Go.Proofs
namespace Go.Proofs
open Go.RowKit Go.Shelf Go.Sh
attribute [local go_sem] Oper.semAt_some
end Go.Proofs
namespace Go.Sh
open Go.Proofs Go.RowKit Go.Shelf
end Go.Sh
namespace Go.Sh
open Go.Proofs Go.RowKit Go.Shelf
def unI (F : Flat) : List Int := F.map fun r => match r with
 | [.i _ x] => x
 | _ => 0
theorem unI_ints (l : List Int) : unI (ints l) = l := by
 unfold unI ints
 rw [List.map_map]
 conv => rhs; rw [<- List.map_id l]
 exact List.map_congr_left fun x _ => rfl
def srtF (F : Flat) : Flat := ints (sortI (unI F))
theorem srtF_ints (l : List Int) : srtF (ints l) = ints (sortI l) := by unfold srtF; rw [unI_ints]
def srtP (F : Flat) : Prop := ∃ l : List Int, F = ints l /\ l.length <= 1000000
theorem own_new {w w' : World} {x : Value} {L : List Int} {e : TypeId} (h : w'.ownsRow w.heap.size e 1 x L.length (L.map (Value.int .i64))) : newOut w w' x (some (1, ints L)) := by
 rcases h.2 with ⟨rfl, h0⟩ | ⟨g, cap, cur, rfl, hb, hg, h1, h2, h3, h4⟩
 ·have : L = [] := List.eq_nil_of_length_eq_zero h0;subst this;exact ⟨none, 0, rfl, fun key => ⟨by simp [ints], by omega, fun i row h => by simp [ints] at h, fun i row j x h => by simp [ints] at h, fun _ => .inl ⟨rfl, rfl⟩⟩⟩
 ·have hgl : g < w'.heap.size := (Array.getElem?_eq_some_iff.1 hg).1;refine ⟨some ⟨g, 0, none⟩, cap, by rw [qiq], fun key => ?_⟩;have hm : cap <= 9223372036854775807 := by unfold maxLen at h2; omega
  refine ⟨by rw [qiq]; exact h1, by omega, fun i row hi => ?_, fun i row j x hi hj => ?_, fun _ => .inr ⟨g, 0, cur, e, rfl, by simp [hb, hgl], hg, by show 0 + cap * 1 <= cur.size; omega, hm⟩⟩
  ·simp only [ints, List.getElem?_map, Option.map_eq_some_iff] at hi;obtain ⟨y, _, rfl⟩ := hi; rfl
  ·simp only [ints, List.getElem?_map, Option.map_eq_some_iff] at hi;obtain ⟨y, hy, rfl⟩ := hi;have hj0 : j = 0 := by
    cases j with
    | zero => rfl
    | succ j => simp at hj
   subst hj0;simp at hj;subst hj;refine ⟨_, rfl, by simp [hb, hgl], ?_⟩;rw [Addr.add_plain, cells_at hg];have hil := (qSq.1 hy).1;have h5 : (cur.toList.take (L.length * 1))[i]? = some (.int .i64 y) := by rw [h4, List.getElem?_map, hy]; rfl
   rw [List.getElem?_take_of_lt (by omega)] at h5;rw [Nat.mul_one, Nat.add_zero, Nat.zero_add, <- Array.getElem?_toList];exact h5
theorem Sorted_call : SeqCall Try.prog 29 67 1 srtP srtF := by
 refine ⟨⟨_, Try.func29, by decide, by simp [Try.f29]⟩, ?_⟩
 rintro l ⟨zs, rfl, hl⟩ w b arr T A cap hh ha hF
 have hbl : b < w.heap.size := (Array.getElem?_eq_some_iff.1 hh).1
 have hc : w.cell? ⟨b, 0, none⟩ = some (.slice A zs.length cap) := by
  rw [qiq] at ha;rw [show (⟨b, 0, none⟩ : Addr) = ⟨b, 0, none⟩ from rfl, cells_at hh, <- Array.getElem?_toList, ha]; rfl
 refine ((callsIn_wide (n := 6)).1 (Try.sorted_in Fence.wide 6 trivial trivial trivial trivial trivial rfl (by omega) (Try.sortsIn _) b w.heap.size _ zs (by unfold maxLen; omega) (by omega) w hbl (Nat.le_refl _) hc (Try.ints_of hF))).mono ?_
 rintro e w' ⟨v, rfl, hrow, hnil, hb⟩
 refine ⟨v, rfl, ⟨hb.os, .of hb.tape, hb.output, hb.size, fun k h _ => hb.block k h⟩, ?_⟩
 rw [srtF_ints]
 refine own_new (e := 3) ?_
 have e1 : (sortI zs).length = zs.length := (List.mergeSort_perm zs _).length_eq
 rw [e1]
 exact hrow
end Go.Sh
namespace Go.Sh
open Go.Proofs
def shapeP (k : Int) (T : List Int) (L : List (List Int)) : Prop := (k = 1 /\ T.length = 4 /\ L.length = 6) \/ (k = 2 /\ T.length = 2 /\ L.length = 3)
instance (k : Int) (T : List Int) (L : List (List Int)) : Decidable (shapeP k T L) := by unfold shapeP; exact inferInstance
end Go.Sh
namespace Go.Proofs
open Go.RowKit Go.Sh
attribute [local go_sem] Oper.semAt_some
end Go.Proofs
namespace Go.Sh
open Go.Proofs
section
variable {n : Int} {E : List Ed} {k : Int} {T : List Int} {L : List (List Int)}
end
end Go.Sh
namespace Go.Sh
open Go.Proofs
end Go.Sh
namespace Go.Sh
open Go.Proofs Go.RowKit
attribute [local go_sem] Oper.semAt_some
theorem iSI : (Try.prog.info? 3).map (fun i => (i.zero, i.size, i.bytes)) = some (some (.int .i64 0), 1, 8) := by kernel_rfl
end Go.Sh
namespace Go.Sh
open Go.Proofs Go.Shelf Go.RowKit
noncomputable def growN : Sc -> Option (Option (Nat × Flat)) := fun x => match x with
 | .i .i64 n => if 0 <= n /\ n <= 1000000000 then some (some (1, [])) else none
 | _ => none
theorem Grow_call : NilCall Try.prog 64 growN := by
 refine ⟨⟨_, Try.func64, by decide, by simp [Try.f64]⟩, ?_⟩
 intro x r hx w
 obtain ⟨n, rfl, h0, h1, rfl⟩ : ∃ n : Int, x = .i .i64 n /\ 0 <= n /\ n <= 1000000000 /\ r = some (1, []) := by
  unfold growN at hx;split at hx
  ·split at hx
   ·rename_i h;injection hx with hx
    exact ⟨_, rfl, h.1, h.2, hx.symm⟩
   ·simp at hx
  ·simp at hx
 obtain ⟨k, rfl⟩ : ∃ k : Nat, n = k := ⟨n.toNat, by omega⟩
 rcases Nat.eq_zero_or_pos k with rfl | hk
 ·refine (Any8.slices_Grow_room Try.laysGrow none 0 0 0 w (by omega) (by omega) (by omega) (by omega)).mono ?_;rintro e w' ⟨rfl, rfl⟩;exact ⟨_, rfl, Frm.refl _ _, none, 0, rfl, fun key => FlatOk.nil (by omega)⟩
 ·obtain ⟨i0, hi, hz0, hz1, hz2⟩ := info_parts iSI;refine (Any8.slices_Grow_grow Try.laysGrow i0 _ hi hz0 (by omega) none 0 0 k [] w (by omega) (by omega) (by rw [hz2]; omega) (by omega) (by simp) (fun _ => rfl) (fun a h => by simp at h)).mono ?_;rintro e w' ⟨rfl, rfl⟩;have hsz : (#[] ++ Builtin.zeroCells (Value.int .i64 0).cells (0 + k - 0) ++ Builtin.zeroCells (Value.int .i64 0).cells (grownCap w (0 + k) 0 3 - (0 + k)) : Array Value).size = grownCap w (0 + k) 0 3 := by
   have hG : 0 + k <= grownCap w (0 + k) 0 3 := grownCap_ge w _ _ _;generalize grownCap w (0 + k) 0 3 = G at hG ⊢
   simp [Builtin.zeroCells, Value.cells];omega
  have hle := grownCap_le_maxLen w (0 + k) 0 3 (by unfold maxLen; omega);refine ⟨_, rfl, ⟨rfl, ⟨rfl, fun _ => Nat.le_succ _⟩, rfl, by simp, fun b hb _ => heap_alloc_lt w.drew _ hb⟩, _, _, rfl, fun key => ?_⟩;refine { fits := Nat.zero_le _, pos := by omega, even := fun i row h => by simp at h, cell := fun i row j x h => by simp at h, room := fun _ => .inr ⟨w.heap.size, 0, _, _, rfl, ?_, heap_alloc_at w.drew _, ?_, ?_⟩ }
  ·rw [if_pos ⟨Nat.le_refl _, by simp⟩]
  ·show 0 + grownCap w (0 + k) 0 3 * 1 <= _
   refine Nat.le_trans ?_ (Nat.le_of_eq hsz.symm);omega
  ·show grownCap w (0 + k) 0 3 <= _
   unfold maxLen at hle; omega
noncomputable def XCat : Cx := { Γ := [], T := T, nt := 36, ext := [64], base := nilCR 64 growN }
theorem XCat_ok : CrOk Try.prog (callAt 1 XCat) := callAt_ok hmix hT sound_nil inl_nil (nil_ok Grow_call) 1
noncomputable def ConcatC : Con := conP 1 (fun L : List (List Int) => L.length <= 1000 /\ L.flatten.length <= 100000000) (fun L => [.one (.nest false 1 (rowsI L))]) (fun L => .one (.flat true 1 (ints L.flatten)))
theorem ConcatC_at {L : List (List Int)} (h : L.length <= 1000 /\ L.flatten.length <= 100000000) : ConcatC.F [.one (.nest false 1 (rowsI L))] = some (.one (.flat true 1 (ints L.flatten)), []) :=
 conP_at (a := L) (fun a b _ _ h => by simp at h; rw [rowsI_inj h]) h
theorem flat_take {L : List (List Int)} {i : Nat} (h : i < L.length) : (L.take (i + 1)).flatten = (L.take i).flatten ++ L[i] := by
 rw [qTq h, List.flatten_append]; simp
theorem flat_le (L : List (List Int)) (i : Nat) : (L.take i).flatten.length <= L.flatten.length := by
 conv => rhs; rw [<- List.take_append_drop i L, List.flatten_append, List.length_append]
 omega
set_option maxHeartbeats 1000000 in
theorem Concat_ok : SoundC Try.prog T 28 ConcatC := by
 refine sound_con (X := XCat) (cr := callAt 1 XCat) XCat_ok hmix hT sound_nil Try.func28 (by rfl) (by rfl) (by rfl) (by rfl) 1 ?_
 rintro L ⟨hL, hF⟩
 refine two_le ?_
 refine LoopP.intro (α := Nat) (fun i => i <= L.length) (fun i => L.length - i) (fun i => [(0, .sl 0 none none), (3, .s (.i .i64 ((L.take i).flatten.length : Nat))), (9, .sl 0 none none), (10, .s (.i .i64 L.length)), (11, .s (.i .i64 i))])
  (fun i => [(0, some (.nest false 1 (rowsI L) [] []))]) 1 0 (by omega) (by refine Weak.bw [(0, some _)] (by ((repeat' first|exact rfl|exact trivial|apply And.intro) <;> (repeat' first|exact rfl|exact trivial|apply And.intro)); all_goals (exact sc_eq (by rw [qrq])))) ?_
 rintro i hi
 have hfi := flat_le L i
 refine Pick.by (fun hc => ?_) (fun hc => ?_)
 ·have hlt : i < L.length := by have := of_decide_eq_true hc; omega
  have hpg : (rowsI L)[i]? = some (ints L[i]) := qgq (qEq hlt);have hft := flat_take hlt;have hfi2 := flat_le L (i + 1);rw [hft, List.length_append] at hfi2;refine Idx.by i rfl (by rw [qrq]; exact hlt) ?_;refine Pick.T (by simpa [qrq] using hlt) ?_;refine Look.by _ hpg ?_;refine Pick.T (inI64_of (by rw [qiq]; omega) (by rw [qiq]; omega)) ?_;refine Pick.n ?_;refine Next.by (i + 1) (by omega) (by omega) (by refine Weak.bw [(0, some _)] (by ((repeat' first|exact rfl|exact trivial|apply And.intro) <;> (repeat' first|exact rfl|exact trivial|apply And.intro)); all_goals (exact sc_eq (by rw [hft, List.length_append, qiq]; omega))))
 have hil : i = L.length := by have := of_decide_eq_false hc; omega
 subst hil
 rw [List.take_length]
 refine ⟨rfl, .i .i64 ((L.flatten.length : Nat) : Int), some (1, []), rfl, if_pos ⟨by omega, by omega⟩, ?_⟩
 refine LoopP.intro (α := Nat) (fun i => i <= L.length) (fun i => L.length - i) (fun i => [(6, .sl 1 none none), (25, .sl 0 none none), (26, .s (.i .i64 L.length)), (27, .s (.i .i64 i))])
  (fun i => [(0, some (.nest false 1 (rowsI L) [] [])), (1, some (.flat true 1 (ints (L.take i).flatten)))]) 2 0 (by omega) (by refine Weak.bw [(0, some _), (1, some _)] (by ((repeat' first|exact rfl|exact trivial|apply And.intro) <;> (repeat' first|exact rfl|exact trivial|apply And.intro)); all_goals ((first|exact sc_eq (by rw [qrq]) | rfl)))) ?_
 rintro i hi
 have hfi := flat_le L i
 refine Pick.by (fun hc => ?_) (fun hc => ?_)
 ·have hlt : i < L.length := by have := of_decide_eq_true hc; omega
  have hpg : (rowsI L)[i]? = some (ints L[i]) := qgq (qEq hlt);have hft := flat_take hlt;have hfi2 := flat_le L (i + 1);rw [hft, List.length_append] at hfi2;refine Idx.by i rfl (by rw [qrq]; exact hlt) ?_;refine Pick.T (by simpa [qrq] using hlt) ?_;refine Look.by _ hpg ?_;refine Pick.T (decide_eq_true (by rw [qiq, show (cut none (ints L[i])).length = L[i].length from qiq _]; omega)) ?_;refine Pick.n ?_;refine Next.by (i + 1) (by omega) (by omega) (by refine Weak.bw [(0, some _), (1, some _)] (by ((repeat' first|exact rfl|exact trivial|apply And.intro) <;> (repeat' first|exact rfl|exact trivial|apply And.intro)); all_goals ((rw [hft, ints_append]; rfl))))
 have hil : i = L.length := by have := of_decide_eq_false hc; omega
 subst hil
 rw [List.take_length]
 exact ⟨rfl, rfl, rfl⟩
end Go.Sh
namespace Go.Sh
open Go.Proofs
noncomputable def sptF (n : Int) (E : List Ed) (l : List Int) : List Nd × Int := if twoB n E l = true then runSp 6 (withL l E).length l.length (startS E l) else ([], 1)
noncomputable def SptC : Con := conP 2 (fun a : (Int × List Ed) × List Int => a.2.length <= 1000) (fun a => [grV a.1.1 a.1.2, .one (.flat false 1 (ints a.2))]) (fun a => .tup [.one (.flat true 3 (nods (sptF a.1.1 a.1.2 a.2).1)), .one (.s (.i .i64 (sptF a.1.1 a.1.2 a.2).2))])
theorem SptC_at {n : Int} {E : List Ed} {l : List Int} (h : l.length <= 1000) : SptC.F [grV n E, .one (.flat false 1 (ints l))] = some (.tup [.one (.flat true 3 (nods (sptF n E l).1)), .one (.s (.i .i64 (sptF n E l).2))], []) :=
 conP_at (a := ((n, E), l)) (fun x y _ _ h => by
  obtain ⟨⟨n, E⟩, l⟩ := x;obtain ⟨⟨n', E'⟩, l'⟩ := y;simp at h;obtain ⟨h1, h2⟩ := h;obtain ⟨rfl, rfl⟩ := grV_inj h1;rw [ints_inj h2]) h
noncomputable def XSpt : Cx := { Γ := [(22, TwoC), (27, OwnC), (28, ConcatC), (33, IndexC), (34, PairC)], T := T, nt := 204, inl := [(30, inlF Try.f30), (31, inlF Try.f31), (32, inlF Try.f32)], ext := [29], base := seqCR 29 67 1 srtP srtF }
theorem XSpt_s : Sound Try.prog T XSpt.Γ := sound_cons Two_ok (sound_cons Own_ok (sound_cons Concat_ok (sound_cons Index_ok (sound_cons Pair_ok sound_nil))))
theorem XSpt_ok : CrOk Try.prog (callAt 2 XSpt) := callAt_ok hmix hT XSpt_s (inl_cons Try.func30 (by rfl) (by rfl) (by rfl) (inl_cons Try.func31 (by rfl) (by rfl) (by rfl) (inl_cons Try.func32 (by rfl) (by rfl) (by rfl) inl_nil))) (seq_ok Sorted_call) 2
theorem concat2 {a b : List Int} : [a, b].flatten = a ++ b := by simp
theorem cat_at {F G : Flat} {a b : List Int} (ha : F = ints a) (hb : G = ints b) (hl : a.length + b.length <= 100000000) : ConcatC.F [.one (.nest false 1 [F, G])] = some (.one (.flat true 1 (ints (a ++ b))), []) := by
 subst ha hb
 have := ConcatC_at (L := [a, b]) ⟨by simp, by simp; omega⟩
 rw [concat2] at this
 exact this
theorem stN_snoc {L : List Ed} {x : Ed} : stN (L ++ [x]).reverse = nput (nput (stN L.reverse) x.1 (nget (stN L.reverse) x.1 ++ [x.2])) x.2 (nget (nput (stN L.reverse) x.1 (nget (stN L.reverse) x.1 ++ [x.2])) x.2 ++ [x.1]) := by rw [List.reverse_append]; rfl
theorem stT_snoc {L : List Ed} {x : Ed} : stT (L ++ [x]).reverse = mapPut (stT L.reverse) (keyE x) (L.length : Nat) := by
 rw [List.reverse_append]
 show mapPut (stT L.reverse) (keyE x) (L.reverse.length : Nat) = _
 rw [List.length_reverse]
set_option maxRecDepth 200000 in
set_option maxHeartbeats 4000000 in
theorem Spt_ok : SoundC Try.prog T 10 SptC := by
 refine sound_con (X := XSpt) (cr := callAt 2 XSpt) XSpt_ok hmix hT XSpt_s Try.func10 (by rfl) (by rfl) (by rfl) (by rfl) 3 ?_
 rintro ⟨⟨n, E⟩, l⟩ hl
 dsimp only at hl ⊢
 refine two_le ?_
 refine Call.by _ _ (TwoC_at hl) ?_
 refine Pick.by (fun h1 => ?_) (fun h1 => ?_)
 ·have hF : sptF n E l = ([], 1) := if_neg fun h => by rw [h] at h1; simp at h1
  rw [hF];refine ⟨rfl, ?_⟩
  (repeat' first|exact rfl|exact trivial|apply And.intro)
 have h1 : twoB n E l = true := by cases h : twoB n E l with | true => rfl | false => rw [h] at h1; simp at h1
 obtain ⟨hR, h2, ⟨hnd, hrng⟩, -⟩ := twoB_iff.1 h1
 have hEl := hR.2.2.1
 obtain ⟨W, hW⟩ : ∃ W, withL l E = W := ⟨_, rfl⟩
 have hWl : W.length <= 4000 := by rw [<- hW]; exact Nat.le_trans withL_len hEl
 have hWok := (withL_ok (l := l) hR).1
 rw [hW] at hWok
 have hF : sptF n E l = runSp 6 W.length l.length (startS E l) := by unfold sptF; rw [if_pos h1, hW]
 have hS : startS E l = { left := sortI l, near := stN W.reverse, thing := stT W.reverse, out := [] } := by unfold startS; rw [hW]
 have hok0 := start_ok (l := l) hR hnd
 refine Call.by _ _ (WithC_at (n := n) (E := E) (l := l) ⟨hEl, by omega, hR, hrng⟩) ?_
 rw [hW]
 refine LoopP.intro (α := Nat) (fun i => i <= W.length) (fun i => W.length - i) (fun i => [(1, .sl 0 none none), (6, .mp 1), (7, .ptr 2 0), (8, .sl 4 none none), (31, .sl 4 none none), (32, .s (.i .i64 W.length)), (33, .s (.i .i64 i))])
  (fun i => [(0, some (.flat false 1 (ints l))), (1, some (.map true 2 (stT (W.take i).reverse))), (2, some (.blk [.mp 3])), (3, some (.fmap (encN (stN (W.take i).reverse)))), (4, some (.flat true 2 (edges W)))]) 5 0 (by omega) (by refine Weak.bw (sg 0 [_,_,_,_,_]) (by ((repeat' first|exact rfl|exact trivial|apply And.intro) <;> (repeat' first|exact rfl|exact trivial|apply And.intro)); all_goals (exact sc_eq (by rw [qeq])))) ?_
 rintro i hi
 refine Pick.by (fun hc => ?_) (fun hc => ?_)
 ·have hlt : i < W.length := by have := of_decide_eq_true hc; omega
  obtain ⟨⟨a, b⟩, hx⟩ : ∃ x, W[i] = x := ⟨_, rfl⟩;have hWi : W[i]? = some (a, b) := by rw [qEq hlt, hx]
  have hok := hWok _ (qMq hWi);unfold okE at hok;have hn := hR.2.1;have hts : W.take (i + 1) = W.take i ++ [(a, b)] := by rw [List.take_add_one, hWi]; rfl
  have hnear : ∀ v, nget (stN (W.take i).reverse) v = nearL (W.take i) v := fun v => by
   have := stN_near (n := n) (r := (W.take i).reverse) (fun p hp => hWok p (List.mem_of_mem_take (by simpa using hp))) v;rw [List.reverse_reverse] at this; exact this
  have hnl : ∀ v, (nearL (W.take i) v).length <= 8000 := fun v => by have := nearL_length (W.take i) v; rw [List.length_take] at this; omega
  refine Idx.by i rfl (by rw [qeq]; exact hlt) ?_;refine Look.by _ (edges_get hWi) ?_;refine Pick.n ?_;refine Pick.n ?_;refine Pick.n ?_;obtain ⟨N, hN⟩ : ∃ N, stN (W.take i).reverse = N := ⟨_, rfl⟩;rw [hN] at hnear;rw [hN];refine Call.by _ _ (cat_at (a := nget N a) (b := [b]) (fget_enc N a) rfl (by rw [hnear, List.length_singleton]; have := hnl a; omega)) ?_;refine Pick.n ?_;refine Seg.by (by kernel_rfl) ?_;rw [fput_enc];obtain ⟨N1, hN1⟩ : ∃ N1, nput N a (nget N a ++ [b]) = N1 := ⟨_, rfl⟩;have hN1g : nget N1 b = nget N b := by rw [<- hN1, nget_put, if_neg (by omega)]
  rw [hN1];refine Pick.n ?_;refine Call.by _ _ (cat_at (a := nget N1 b) (b := [a]) (fget_enc N1 b) rfl (by rw [hN1g, hnear, List.length_singleton]; have := hnl b; omega)) ?_;refine Pick.n ?_;refine Seg.by (by kernel_rfl) ?_;rw [fput_enc];refine Pick.n ?_;have hNf : stN (W.take (i + 1)).reverse = nput N1 b (nget N1 b ++ [a]) := by rw [hts, stN_snoc, hN, hN1]
  have hTf : stT (W.take (i + 1)).reverse = mapPut (stT (W.take i).reverse) [a, b] (i : Int) := by
   rw [hts, stT_snoc, List.length_take, show min i W.length = i by omega]; rfl
  refine Next.by (i + 1) (by omega) (by omega) (by refine Weak.bw (sg 0 [_,_,_,_,_]) (by ((repeat' first|exact rfl|exact trivial|apply And.intro) <;> (repeat' first|exact rfl|exact trivial|apply And.intro)); all_goals ((first|exact sc_eq (by omega) | exact congrArg encN hNf | exact hTf))))
 have hil : i = W.length := by have := of_decide_eq_false hc; omega
 subst hil
 rw [List.take_length]
 refine ⟨rfl, rfl, _, _, _, .inl rfl, rfl, ⟨l, rfl, by omega⟩, ?_⟩
 have hS0 : ({ left := sortI l, near := stN W.reverse, thing := stT W.reverse, out := [] } : Sp) = startS E l := hS.symm
 refine LoopP.intro (α := Sp) (fun s => SpI s /\ runSp 6 W.length s.left.length s = sptF n E l /\ s.out.length + 2 * s.left.length <= 2 * l.length /\ ∀ v ∈ s.left, v ∈ l) (fun s => s.left.length) (fun s => [(6, .mp 0), (7, .ptr 1 0), (8, .sl 3 none none), (11, .sl 4 none none), (12, .sl 5 none none)])
  (fun s => [(0, some (.map true 2 s.thing)), (1, some (.blk [.mp 2])), (2, some (.fmap (encN s.near))), (3, some (.flat true 2 (edges W))), (4, some (.flat true 3 (nods s.out))), (5, some (.flat false 1 (ints s.left)))]) 6 { left := sortI l, near := stN W.reverse, thing := stT W.reverse, out := [] }
  ⟨by rw [hS0]; exact hok0, by rw [hS0, hF]; show runSp 6 W.length (sortI l).length _ = _; rw [sortI_length], by show 0 + 2 * (sortI l).length <= _; rw [sortI_length]; omega, fun v hv => mem_sortI.1 hv⟩ (by refine Weak.bf [229] [(0, some _), (1, some _), (2, some _), (3, some _), (4, none), (5, some _)] (by ((repeat' first|exact rfl|exact trivial|apply And.intro) <;> (repeat' first|exact rfl|exact trivial|apply And.intro)); all_goals ((first | exact (srtF_ints l).symm | exact srtF_ints l))) (by rfl)) ?_
 rintro s ⟨hok, hrun, hout, hin⟩
 have hin64 : ∀ {v : Int}, v ∈ s.left -> inI64 v = true := fun {v} hv => by have h1 := hrng v (hin v hv); have h2 := hR.2.1; exact inI64_of (by omega) (by omega)
 have hleft : s.left.length <= 1000 := by omega
 refine Pick.by (fun hc => ?_) (fun hc => ?_)
 case refine_2 =>
  have h2 : s.left.length <= 2 := by have := of_decide_eq_false hc; rw [qiq] at this; omega
  rw [runSp_stop h2] at hrun;rw [<- hrun];refine ⟨rfl, ?_⟩
  (repeat' first|exact rfl|exact trivial|apply And.intro)
 have h3 : ¬ s.left.length <= 2 := by have := of_decide_eq_true hc; rw [qiq] at this; omega
 obtain ⟨f, hf⟩ : ∃ f, s.left.length = f + 1 := ⟨s.left.length - 1, by omega⟩
 rw [hf] at hrun
 simp only [runSp] at hrun
 rw [if_neg h3] at hrun
 have h20 : ∀ v, (fget (encN s.near) v).length = (nget s.near v).length := fun v => by rw [fget_enc, qiq]
 refine LoopP.intro (α := Nat) (fun k => k <= s.left.length /\ ∀ j (hj : j < s.left.length), j < k -> (nget s.near s.left[j]).length ≠ 2) (fun k => s.left.length - k) (fun k => [(0, .sl 5 none none), (1, .fn 32 [.ptr 1 0]), (7, .s (.i .i64 s.left.length)), (8, .s (.i .i64 k)), (1000006, .mp 0), (1000007, .ptr 1 0), (1000008, .sl 3 none none), (1000011, .sl 4 none none), (1000012, .sl 5 none none)])
  (fun k => [(0, some (.map true 2 s.thing)), (1, some (.blk [.mp 2])), (2, some (.fmap (encN s.near))), (3, some (.flat true 2 (edges W))), (4, some (.flat true 3 (nods s.out))), (5, some (.flat false 1 (ints s.left)))]) 6 0 ⟨by omega, by omega⟩ (by refine Weak.bw (sg 0 [_,_,_,_,_,_]) (by ((repeat' first|exact rfl|exact trivial|apply And.intro) <;> (repeat' first|exact rfl|exact trivial|apply And.intro)); all_goals (exact sc_eq (by rw [qiq])))) ?_
 rintro k ⟨hk, hno⟩
 refine Pick.by (fun hc2 => ?_) (fun hc2 => ?_)
 case refine_2 =>
  have hke : k = s.left.length := by have := of_decide_eq_false hc2; omega
  have hpk : pickS s = none := by
   unfold pickS;rw [List.findIdx?_eq_none_iff];intro x hx;obtain ⟨j, hj, rfl⟩ := List.getElem_of_mem hx;exact decide_eq_false (hno j hj (by omega))
  rw [hpk] at hrun;rw [<- hrun];refine ⟨rfl, ?_⟩
  (repeat' first|exact rfl|exact trivial|apply And.intro)
 have hlt : k < s.left.length := by have := of_decide_eq_true hc2; omega
 have hkm : s.left[k] ∈ s.left := List.getElem_mem hlt
 refine Idx.by k rfl (by rw [qiq]; exact hlt) ?_
 refine Look.by _ (qhq (qEq hlt)) ?_
 refine Pick.T (hin64 hkm) ?_
 refine Pick.by (fun hc3 => ?_) (fun hc3 => ?_)
 case refine_2 =>
  have hne : (nget s.near s.left[k]).length ≠ 2 := fun e => ne_of_beq_false hc3 (by rw [h20, e]; rfl)
  refine Pick.n ?_;refine Next.by (k + 1) ⟨by omega, fun j hj hjk => by
   by_cases e : j = k
   ·subst e; exact hne
   ·exact hno j hj (by omega)⟩ (by omega) (by refine Weak.bw (sg 0 [_,_,_,_,_,_]) (by ((repeat' first|exact rfl|exact trivial|apply And.intro) <;> (repeat' first|exact rfl|exact trivial|apply And.intro)); all_goals (exact sc_eq (by omega))))
 have hc3 : (nget s.near s.left[k]).length = 2 := by have := eq_of_beq hc3; rw [h20] at this; omega
 have hpk : pickS s = some k := by
  unfold pickS;rw [List.findIdx?_eq_some_iff_getElem];exact ⟨hlt, decide_eq_true hc3, fun j hj => by rw [decide_eq_true_eq]; exact hno j (by omega) hj⟩
 rw [hpk] at hrun
 dsimp only at hrun
 obtain ⟨v, p, q, hp⟩ := hok.pick hpk
 obtain ⟨sok, sleft, slen⟩ := hok.step W.length hp
 have hvk : s.left[k]? = some v := hp.at_
 have hv64 := hin64 hp.mem
 have hp64 := hin64 hp.pm
 have hq64 := hin64 hp.qm
 refine Idx.by k rfl (by rw [qiq]; exact hlt) ?_
 refine Look.by _ (qhq hvk) ?_
 have hil := qiq s.left
 refine Rng.by 0 k rfl rfl (by omega) (by omega) ?_
 refine Pick.n ?_
 refine Rng.by (k + 1) s.left.length (by omega) (by rw [hil]) (by omega) (by omega) ?_
 have ct1 : cut (subOf none 0 0 k) (ints s.left) = ints (s.left.take k) := by
  show ((ints s.left).drop 0).take (k - 0) = _
  simp [ints]
 have ct2 : cut (subOf none 0 (k + 1) s.left.length) (ints s.left) = ints (s.left.drop (k + 1)) := cut_from
 refine Call.by _ _ (cat_at ct1 ct2 (by rw [List.length_take, List.length_drop]; omega)) ?_
 refine Seg.by (by kernel_rfl) ?_
 have hgv : fget (encN s.near) v = ints [p, q] := by rw [fget_enc, hp.near]
 refine Pick.T hv64 ?_
 refine Idx.by 0 rfl (by rw [hgv]; show 0 < 2; omega) ?_
 refine Look.by [.i .i64 p] (by rw [hgv]; rfl) ?_
 refine Pick.T hv64 ?_
 refine Idx.by 1 rfl (by rw [hgv]; show 1 < 2; omega) ?_
 refine Look.by [.i .i64 q] (by rw [hgv]; rfl) ?_
 refine Pick.T hv64 ?_
 refine Idx.by 0 rfl (by rw [hgv]; show 0 < 2; omega) ?_
 refine Look.by [.i .i64 p] (by rw [hgv]; rfl) ?_
 refine Pick.T hv64 ?_
 refine Idx.by 1 rfl (by rw [hgv]; show 1 < 2; omega) ?_
 refine Look.by [.i .i64 q] (by rw [hgv]; rfl) ?_
 refine Seg.by (by kernel_rfl) ?_
 refine Pick.T hv64 ?_
 obtain ⟨⟨a, b⟩, hab⟩ : ∃ e, pairF p q = e := ⟨_, rfl⟩
 have ha : (if q < p then q else p) = a := congrArg Prod.fst hab
 have hb : (if q > p then q else p) = b := congrArg Prod.snd hab
 have hends : endsS s v = (a, b) := by unfold endsS; rw [hp.near]; exact hab
 have hgd : s.left.getD k 0 = v := by rw [qDq, hvk]; rfl
 have hlE : s.left.eraseIdx k = s.left.take k ++ s.left.drop (k + 1) := List.eraseIdx_eq_take_drop_succ ..
 have habm : (a ∈ s.left /\ a ≠ v) /\ (b ∈ s.left /\ b ≠ v) := by
  rcases pairF_two p q with ⟨e1, e2⟩ | ⟨e1, e2⟩ <;> rw [hab] at e1 e2 <;> dsimp only at e1 e2 <;> subst e1 <;> subst e2
  ·exact ⟨⟨hp.pm, hp.pv⟩, hp.qm, hp.qv⟩
  ·exact ⟨⟨hp.qm, hp.qv⟩, hp.pm, hp.pv⟩
 have ha64 := hin64 habm.1.1
 have hb64 := hin64 habm.2.1
 have hab2 : a ≠ b := by have := pairF_lt hp.pq; rw [hab] at this; dsimp only at this; omega
 have pr64 : ∀ {x y : Int}, x ∈ s.left -> y ∈ s.left -> inI64 (pairF x y).1 = true /\ inI64 (pairF x y).2 = true := fun {x y} hx hy => by
  rcases pairF_two x y with ⟨e1, e2⟩ | ⟨e1, e2⟩ <;> rw [e1, e2]
  ·exact ⟨hin64 hx, hin64 hy⟩
  ·exact ⟨hin64 hy, hin64 hx⟩
 have hnpq : [p, q].Nodup := by simp [hp.pq]
 have hnl : ∀ u ∈ s.left, (nget s.near u).length <= 1000 := fun u hu => Nat.le_trans (nodup_len (hok.nd u hu) fun x hx => (hok.sym u hu x hx).1) hleft
 refine LoopP.intro (α := Nat) (fun i => i <= 2) (fun i => 2 - i) (fun i => [(6, .mp 0), (7, .ptr 1 0), (8, .sl 3 none none), (11, .sl 4 none none), (12, .sl 5 none none), (14, .s (.i .i64 v)), (15, .s (.i .i64 a)), (16, .s (.i .i64 b)), (114, .sl 6 none none), (115, .s (.i .i64 2)), (116, .s (.i .i64 i))])
  (fun i => [(0, some (.map true 2 s.thing)), (1, some (.blk [.mp 2])), (2, some (.fmap (encN (cutsV v ([p, q].take i) s.near)))), (3, some (.flat true 2 (edges W))), (4, some (.flat true 3 (nods s.out))), (5, some (.flat true 1 (ints (s.left.eraseIdx k)))), (6, some (.flat false 1 (ints [p, q])))]) 7 0 (by omega) (by refine Weak.bw (sg 0 [_,_,_,_,_,_,_]) (by ((repeat' first|exact rfl|exact trivial|apply And.intro) <;> (repeat' first|exact rfl|exact trivial|apply And.intro)); all_goals ((first|exact sc_eq ha.symm | exact sc_eq hb.symm | exact sc_eq (by rw [hgv]; rfl) | exact hgv.symm | exact congrArg ints hlE)))) ?_
 rintro i hi
 refine Pick.by (fun hc4 => ?_) (fun hc4 => ?_)
 ·have hlt4 : i < 2 := by have := of_decide_eq_true hc4; omega
  obtain ⟨x, hx⟩ : ∃ x, [p, q][i]'hlt4 = x := ⟨_, rfl⟩;have hxi : [p, q][i]? = some x := by rw [qEq (by exact hlt4), hx]
  have hxm : x ∈ s.left /\ v ∈ nget s.near x := by
   have : x = p \/ x = q := by simpa using qMq hxi
   rcases this with rfl | rfl
   ·exact ⟨hp.pm, hp.vp⟩
   ·exact ⟨hp.qm, hp.vq⟩
  have hxn : x ∉ [p, q].take i := fun hm => by
   have h1 := hnpq;rw [<- List.take_append_drop i [p, q], List.drop_eq_getElem_cons (by exact hlt4), hx, List.nodup_append] at h1;exact h1.2.2 x hm x List.mem_cons_self rfl
  have hx64 := hin64 hxm.1;obtain ⟨N, hN⟩ : ∃ N, cutsV v ([p, q].take i) s.near = N := ⟨_, rfl⟩;have hNx : nget N x = nget s.near x := by rw [<- hN, cuts_get ((List.take_sublist i [p, q]).nodup hnpq), if_neg hxn]
  have hNn : cutsV v ([p, q].take (i + 1)) s.near = nput N x ((nget N x).erase v) := by
   rw [List.take_add_one, hxi];show ([p, q].take i ++ [x]).foldl (cutV v) s.near = _
   rw [List.foldl_append];show cutV v (cutsV v ([p, q].take i) s.near) x = _
   rw [hN]; rfl
  rw [hN];have hfx : fget (encN N) x = ints (nget s.near x) := by rw [fget_enc, hNx]
  have hrl := hnl x hxm.1;have hidx : idxI (nget s.near x) v = ((nget s.near x).idxOf v : Nat) := if_pos hxm.2;have hio : (nget s.near x).idxOf v < (nget s.near x).length := List.idxOf_lt_length_iff.2 hxm.2;obtain ⟨o, ho⟩ : ∃ o, (nget s.near x).idxOf v = o := ⟨_, rfl⟩;rw [ho] at hidx hio;have her : (nget s.near x).take o ++ (nget s.near x).drop (o + 1) = (nget N x).erase v := by
   rw [hNx, <- eraseIdx_erase (hok.nd x hxm.1) (k := o) (by rw [<- ho, qEq (by rw [ho]; exact hio), List.getElem_idxOf]), List.eraseIdx_eq_take_drop_succ]
  refine Idx.by i rfl hlt4 ?_;refine Look.by _ (qhq hxi) ?_;refine Pick.T hx64 ?_;refine Call.by _ _ (show IndexC.F [.one (.flat false 1 (fget (encN N) x)), .one (.s (.i .i64 v))] = some (.one (.s (.i .i64 (o : Nat))), []) by rw [hfx, <- hidx]; exact IndexC_at v (by omega)) ?_;have hfl : (fget (encN N) x).length = (nget s.near x).length := by rw [hfx, qiq]
  refine Pick.T hx64 ?_;refine Rng.by 0 o rfl rfl (by omega) (by rw [hfl]; omega) ?_;refine Pick.T hx64 ?_;refine Pick.n ?_;refine Rng.by (o + 1) (nget s.near x).length (by omega) (by rw [hfl]) (by omega) (by rw [hfl]; omega) ?_;have ct1 : cut (subOf none 0 0 o) (fget (encN N) x) = ints ((nget s.near x).take o) := by
   rw [hfx];show ((ints (nget s.near x)).drop 0).take (o - 0) = _
   simp [ints]
  have ct2 : cut (subOf none 0 (o + 1) (nget s.near x).length) (fget (encN N) x) = ints ((nget s.near x).drop (o + 1)) := by rw [hfx]; exact cut_from
  refine Call.by _ _ (cat_at ct1 ct2 (by rw [List.length_take, List.length_drop]; omega)) ?_;refine Pick.T hx64 ?_;refine Seg.by (by kernel_rfl) ?_;refine Pick.n ?_;have hNf : encN (cutsV v ([p, q].take (i + 1)) s.near) = fput (encN N) x (ints ((nget s.near x).take o ++ (nget s.near x).drop (o + 1))) := by rw [hNn, <- her, fput_enc]
  refine Next.by (i + 1) (by omega) (by omega) (by refine Weak.bw (sg 0 [_,_,_,_,_,_,_]) (by ((repeat' first|exact rfl|exact trivial|apply And.intro) <;> (repeat' first|exact rfl|exact trivial|apply And.intro)); all_goals ((first|exact sc_eq (by omega) | exact hNf))))
 have hi2 : i = 2 := by have := of_decide_eq_false hc4; omega
 subst hi2
 have hcut : cutsV v ([p, q].take 2) s.near = cutsV v (nget s.near v) s.near := by rw [hp.near]; rfl
 rw [hcut]
 obtain ⟨N, hN⟩ : ∃ N, cutsV v (nget s.near v) s.near = N := ⟨_, rfl⟩
 rw [hN]
 have hva := pr64 hp.mem habm.1.1
 have hvb := pr64 hp.mem habm.2.1
 have hpab := pr64 habm.1.1 habm.2.1
 have hpe : pairF a b = (a, b) := by rw [<- hab, show a = (pairF p q).1 by rw [hab], show b = (pairF p q).2 by rw [hab]]; exact pairF_idem p q
 obtain ⟨o1, ho1⟩ : ∃ o1, s.out ++ [((1, mapGet s.thing (keyE (pairF v a)), mapGet s.thing (keyE (pairF v b))) : Nd)] = o1 := ⟨_, rfl⟩
 have ho1l : o1.length = s.out.length + 1 := by rw [<- ho1]; simp
 have hno1 : nods o1 = nods s.out ++ [[.i .i64 1, .i .i64 (mapGet s.thing (keyE (pairF v a))), .i .i64 (mapGet s.thing (keyE (pairF v b)))]] := by rw [<- ho1]; exact nods_snoc ..
 have hst : stepS W.length s k = if mapHas s.thing (keyE (a, b)) = true then
   { left := s.left.eraseIdx k, near := N, thing := mapPut s.thing (keyE (a, b)) ((W.length : Int) + (o1.length : Int)), out := o1 ++ [(2, mapGet s.thing (keyE (a, b)), (W.length : Int) + (o1.length : Int) - 1)] }
   else { left := s.left.eraseIdx k, near := joinN N a b, thing := mapPut s.thing (keyE (a, b)) ((W.length : Int) + (o1.length : Int) - 1), out := o1 } := by
  unfold stepS;simp only [hgd, hends, hN, ho1]
 have hrm : ((nods s.out).length : Int) = s.out.length := by rw [nods_length]
 refine Call.by _ _ (PairC_at v a) ?_
 refine Pick.T hva.1 ?_
 refine Pick.T hva.2 ?_
 refine Call.by _ _ (PairC_at v b) ?_
 refine Pick.T hvb.1 ?_
 refine Pick.T hvb.2 ?_
 refine Pick.T (by rw [decide_eq_true_iff, nods_length]; show _ + 1 <= _; omega) ?_
 refine Seg.by (by kernel_rfl) ?_
 refine Call.by _ _ (PairC_at a b) ?_
 refine Pick.T hpab.1 ?_
 refine Pick.T hpab.2 ?_
 have hko : keyE (pairF a b) = keyE (a, b) := by rw [hpe]
 refine Pick.by (fun hc5 => ?_) (fun hc5 => ?_)
 ·have hc5 : mapHas s.thing (keyE (a, b)) = true := by rw [<- hko]; exact hc5
  rw [if_pos hc5] at hst;obtain ⟨s', hs'⟩ : ∃ s', stepS W.length s k = s' := ⟨_, rfl⟩;rw [hs'] at hst sok sleft slen hrun;have e1 : s'.left = s.left.eraseIdx k := by rw [hst]
  have e2 : s'.near = N := by rw [hst]
  have e3 : s'.thing = mapPut s.thing (keyE (pairF a b)) ((W.length : Int) + (o1.length : Int)) := by rw [hst, hko]
  have e4 : s'.out = o1 ++ [(2, mapGet s.thing (keyE (pairF a b)), (W.length : Int) + (o1.length : Int) - 1)] := by rw [hst, hko]
  have hX : (nods s.out ++ [[Sc.i .i64 1, Sc.i .i64 (mapGet s.thing (keyE (pairF v a))), Sc.i .i64 (mapGet s.thing (keyE (pairF v b)))]]) = nods o1 := hno1.symm;have hXl : (((nods s.out ++ [[Sc.i .i64 1, Sc.i .i64 (mapGet s.thing (keyE (pairF v a))), Sc.i .i64 (mapGet s.thing (keyE (pairF v b)))]]) : Flat).length : Int) = o1.length := by rw [hX, nods_length]
  have hWe : ((edges W).length : Int) = W.length := by rw [qeq]
  have e4n : nods s'.out = ((nods s.out ++ [[Sc.i .i64 1, Sc.i .i64 (mapGet s.thing (keyE (pairF v a))), Sc.i .i64 (mapGet s.thing (keyE (pairF v b)))]]) ++ [[Sc.i .i64 2, Sc.i .i64 (mapGet s.thing (keyE (pairF a b))), Sc.i .i64 (((edges W).length : Int) + ((nods s.out ++ [[Sc.i .i64 1, Sc.i .i64 (mapGet s.thing (keyE (pairF v a))), Sc.i .i64 (mapGet s.thing (keyE (pairF v b)))]]).length : Int) - 1)]]) := by rw [e4, nods_snoc, hXl, hWe, hX]
  have e4l : ((((nods s.out ++ [[Sc.i .i64 1, Sc.i .i64 (mapGet s.thing (keyE (pairF v a))), Sc.i .i64 (mapGet s.thing (keyE (pairF v b)))]]) ++ [[Sc.i .i64 2, Sc.i .i64 (mapGet s.thing (keyE (pairF a b))), Sc.i .i64 (((edges W).length : Int) + ((nods s.out ++ [[Sc.i .i64 1, Sc.i .i64 (mapGet s.thing (keyE (pairF v a))), Sc.i .i64 (mapGet s.thing (keyE (pairF v b)))]]).length : Int) - 1)]]) : Flat).length : Int) = o1.length + 1 := by rw [<- e4n, nods_length, e4, List.length_append, List.length_singleton]; omega
  refine Pick.T (show inI64 (((edges W).length : Int) + (((nods s.out ++ [[Sc.i .i64 1, Sc.i .i64 (mapGet s.thing (keyE (pairF v a))), Sc.i .i64 (mapGet s.thing (keyE (pairF v b)))]]) : Flat).length : Int)) = true by rw [hXl, hWe]; exact inI64_of (by omega) (by omega)) ?_;refine Pick.T (show inI64 (((edges W).length : Int) + (((nods s.out ++ [[Sc.i .i64 1, Sc.i .i64 (mapGet s.thing (keyE (pairF v a))), Sc.i .i64 (mapGet s.thing (keyE (pairF v b)))]]) : Flat).length : Int) - 1) = true by rw [hXl, hWe]; exact inI64_of (by omega) (by omega)) ?_;refine Pick.T (show decide (((nods s.out ++ [[Sc.i .i64 1, Sc.i .i64 (mapGet s.thing (keyE (pairF v a))), Sc.i .i64 (mapGet s.thing (keyE (pairF v b)))]]) : Flat).length + 1 <= 2147483648) = true by rw [decide_eq_true_iff]; omega) ?_;refine Call.by _ _ (PairC_at a b) ?_;refine Pick.T (show inI64 (((edges W).length : Int) + ((((nods s.out ++ [[Sc.i .i64 1, Sc.i .i64 (mapGet s.thing (keyE (pairF v a))), Sc.i .i64 (mapGet s.thing (keyE (pairF v b)))]]) ++ [[Sc.i .i64 2, Sc.i .i64 (mapGet s.thing (keyE (pairF a b))), Sc.i .i64 (((edges W).length : Int) + ((nods s.out ++ [[Sc.i .i64 1, Sc.i .i64 (mapGet s.thing (keyE (pairF v a))), Sc.i .i64 (mapGet s.thing (keyE (pairF v b)))]]).length : Int) - 1)]]) : Flat).length : Int)) = true by rw [e4l, hWe]; exact inI64_of (by omega) (by omega)) ?_;refine Pick.T (show inI64 (((edges W).length : Int) + ((((nods s.out ++ [[Sc.i .i64 1, Sc.i .i64 (mapGet s.thing (keyE (pairF v a))), Sc.i .i64 (mapGet s.thing (keyE (pairF v b)))]]) ++ [[Sc.i .i64 2, Sc.i .i64 (mapGet s.thing (keyE (pairF a b))), Sc.i .i64 (((edges W).length : Int) + ((nods s.out ++ [[Sc.i .i64 1, Sc.i .i64 (mapGet s.thing (keyE (pairF v a))), Sc.i .i64 (mapGet s.thing (keyE (pairF v b)))]]).length : Int) - 1)]]) : Flat).length : Int) - 1) = true by rw [e4l, hWe]; exact inI64_of (by omega) (by omega)) ?_;refine Pick.T hpab.1 ?_;refine Pick.T hpab.2 ?_;have e3n : s'.thing = mapPut s.thing (keyE (pairF a b)) (((edges W).length : Int) + ((((nods s.out ++ [[Sc.i .i64 1, Sc.i .i64 (mapGet s.thing (keyE (pairF v a))), Sc.i .i64 (mapGet s.thing (keyE (pairF v b)))]]) ++ [[Sc.i .i64 2, Sc.i .i64 (mapGet s.thing (keyE (pairF a b))), Sc.i .i64 (((edges W).length : Int) + ((nods s.out ++ [[Sc.i .i64 1, Sc.i .i64 (mapGet s.thing (keyE (pairF v a))), Sc.i .i64 (mapGet s.thing (keyE (pairF v b)))]]).length : Int) - 1)]]) : Flat).length : Int) - 1) := by rw [e3, e4l, hWe]; congr 1; omega
  have hol : s'.out.length = o1.length + 1 := by rw [e4, List.length_append, List.length_singleton]
  refine Next.by s' ⟨sok, by rw [show s'.left.length = f by omega]; exact hrun, by omega, fun u hu => hin u (List.mem_of_mem_erase (by rw [sleft] at hu; exact hu))⟩ (by omega) (by refine Weak.bf [5] (sg 0 [_,_,_,_,_,_]) (by ((repeat' first|exact rfl|exact trivial|apply And.intro) <;> (repeat' first|exact rfl|exact trivial|apply And.intro)); all_goals ((first | exact e3n | exact congrArg encN e2 | exact e4n | exact congrArg ints e1))) (by rfl))
 ·have hc5 : ¬ mapHas s.thing (keyE (a, b)) = true := by rw [<- hko]; intro e; rw [show mapHas s.thing (keyE (pairF a b)) = false from hc5] at e; simp at e
  rw [if_neg hc5] at hst;obtain ⟨s', hs'⟩ : ∃ s', stepS W.length s k = s' := ⟨_, rfl⟩;rw [hs'] at hst sok sleft slen hrun;have e1 : s'.left = s.left.eraseIdx k := by rw [hst]
  have e2 : s'.near = joinN N a b := by rw [hst]
  have e3 : s'.thing = mapPut s.thing (keyE (pairF a b)) ((W.length : Int) + (o1.length : Int) - 1) := by rw [hst, hko]
  have e4 : s'.out = o1 := by rw [hst]
  have hnN : ∀ u ∈ s.left, (nget N u).length <= 1000 := fun u hu => by
   rw [<- hN, hp.near, cuts_get hnpq];have := hnl u hu;split
   ·exact Nat.le_trans List.length_erase_le this
   ·exact this
  have hna := hnN a habm.1.1;have hnb := hnN b habm.2.1;refine Pick.T ha64 ?_;refine Call.by _ _ (cat_at (a := nget N a) (b := [b]) (fget_enc N a) rfl (by rw [List.length_singleton]; omega)) ?_;refine Pick.T ha64 ?_;refine Seg.by (by kernel_rfl) ?_;have hf1 : fget (fput (encN N) a (ints (nget N a ++ [b]))) b = ints (nget N b) := by rw [fput_enc, fget_enc, nget_put, if_neg hab2]
  have e2n : encN s'.near = fput (fput (encN N) a (ints (nget N a ++ [b]))) b (ints (nget N b ++ [a])) := by
   rw [e2, fput_enc, fput_enc];show encN (nput _ b (nget (nput N a (nget N a ++ [b])) b ++ [a])) = _
   rw [nget_put, if_neg hab2]
  refine Pick.T hb64 ?_;refine Call.by _ _ (cat_at (a := nget N b) (b := [a]) hf1 rfl (by rw [List.length_singleton]; omega)) ?_;refine Pick.T hb64 ?_;refine Seg.by (by kernel_rfl) ?_;refine Call.by _ _ (PairC_at a b) ?_;have hX : (nods s.out ++ [[Sc.i .i64 1, Sc.i .i64 (mapGet s.thing (keyE (pairF v a))), Sc.i .i64 (mapGet s.thing (keyE (pairF v b)))]]) = nods o1 := hno1.symm;have hXl : (((nods s.out ++ [[Sc.i .i64 1, Sc.i .i64 (mapGet s.thing (keyE (pairF v a))), Sc.i .i64 (mapGet s.thing (keyE (pairF v b)))]]) : Flat).length : Int) = o1.length := by rw [hX, nods_length]
  have hWe : ((edges W).length : Int) = W.length := by rw [qeq]
  have e4n : nods s'.out = (nods s.out ++ [[Sc.i .i64 1, Sc.i .i64 (mapGet s.thing (keyE (pairF v a))), Sc.i .i64 (mapGet s.thing (keyE (pairF v b)))]]) := by rw [e4, hX]
  refine Pick.T (show inI64 (((edges W).length : Int) + (((nods s.out ++ [[Sc.i .i64 1, Sc.i .i64 (mapGet s.thing (keyE (pairF v a))), Sc.i .i64 (mapGet s.thing (keyE (pairF v b)))]]) : Flat).length : Int)) = true by rw [hXl, hWe]; exact inI64_of (by omega) (by omega)) ?_;refine Pick.T (show inI64 (((edges W).length : Int) + (((nods s.out ++ [[Sc.i .i64 1, Sc.i .i64 (mapGet s.thing (keyE (pairF v a))), Sc.i .i64 (mapGet s.thing (keyE (pairF v b)))]]) : Flat).length : Int) - 1) = true by rw [hXl, hWe]; exact inI64_of (by omega) (by omega)) ?_;refine Pick.T hpab.1 ?_;refine Pick.T hpab.2 ?_;have e3n : s'.thing = mapPut s.thing (keyE (pairF a b)) (((edges W).length : Int) + (((nods s.out ++ [[Sc.i .i64 1, Sc.i .i64 (mapGet s.thing (keyE (pairF v a))), Sc.i .i64 (mapGet s.thing (keyE (pairF v b)))]]) : Flat).length : Int) - 1) := by rw [e3, hXl, hWe]
  have hol : s'.out.length = o1.length := by rw [e4]
  refine Next.by s' ⟨sok, by rw [show s'.left.length = f by omega]; exact hrun, by omega, fun u hu => hin u (List.mem_of_mem_erase (by rw [sleft] at hu; exact hu))⟩ (by omega) (by refine Weak.bf [5] (sg 0 [_,_,_,_,_,_]) (by ((repeat' first|exact rfl|exact trivial|apply And.intro) <;> (repeat' first|exact rfl|exact trivial|apply And.intro)); all_goals ((first | exact e3n | exact e2n | exact e4n | exact congrArg ints e1))) (by rfl))
noncomputable def CkC : Con := conP 3 (fun a : (Int × List Ed) × List Int × List Nd => a.2.1.length <= 1000 /\ a.2.2.length <= 1000000) (fun a => [grV a.1.1 a.1.2, .one (.flat false 1 (ints a.2.1)), .one (.flat false 3 (nods a.2.2))]) (fun a => .one (.s (.b (ckF a.1.1 a.1.2 a.2.1 a.2.2))))
theorem CkC_at {n : Int} {E : List Ed} {l : List Int} {t : List Nd} (h : l.length <= 1000 /\ t.length <= 1000000) : CkC.F [grV n E, .one (.flat false 1 (ints l)), .one (.flat false 3 (nods t))] = some (.one (.s (.b (ckF n E l t))), []) :=
 conP_at (a := ((n, E), l, t)) (fun x y _ _ h => by
  obtain ⟨⟨n, E⟩, l, t⟩ := x;obtain ⟨⟨n', E'⟩, l', t'⟩ := y;simp at h;obtain ⟨h1, h2, h3⟩ := h;obtain ⟨rfl, rfl⟩ := grV_inj h1;rw [ints_inj h2, nods_inj h3]) h
theorem middle_mem {x y : Ed} (h : (middleF x y).2 = true) : ∃ s t : Ed, (s = x \/ s = (x.2, x.1)) /\ (t = y \/ t = (y.2, y.1)) /\ middleF x y = ((s.2, pairF s.1 t.2), true) := by
 obtain ⟨⟨s, t⟩, hp, h1, h2, h3⟩ := midL_get h
 obtain ⟨hs, ht⟩ := mem_sides2.1 hp
 exact ⟨s, t, hs, ht, h3⟩
def RngE (x : Ed) : Prop := (0 <= x.1 /\ x.1 < 1000) /\ 0 <= x.2 /\ x.2 < 1000
theorem rng_pair {a b : Int} (h : 0 <= a /\ a < 1000) (k : 0 <= b /\ b < 1000) : RngE (pairF a b) := by
 unfold RngE
 rcases pairF_two a b with ⟨e1, e2⟩ | ⟨e1, e2⟩ <;> rw [e1, e2]
 ·exact ⟨h, k⟩
 ·exact ⟨k, h⟩
theorem middle_rng {x y : Ed} (hx : RngE x) (hy : RngE y) (h : (middleF x y).2 = true) : (0 <= (middleF x y).1.1 /\ (middleF x y).1.1 < 1000) /\ RngE (middleF x y).1.2 := by
 obtain ⟨s, t, hs, ht, e⟩ := middle_mem h
 have rs : RngE s := by rcases hs with rfl | rfl; · exact hx
                        ·exact ⟨hx.2, hx.1⟩
 have rt : RngE t := by rcases ht with rfl | rfl; · exact hy
                        ·exact ⟨hy.2, hy.1⟩
 rw [e]
 exact ⟨rs.2, rng_pair rs.1 rt.2⟩
structure CkW (E : List Ed) (t : List Nd) (i : Nat) (s : Ck) : Prop where
 rng : ∀ x ∈ s.poles, RngE x
 run : ckRun (t.drop i) s = ckRun t (ckStart E t.length)
 len : s.poles.length = E.length + i
 ulen : s.used.length = E.length + t.length
 us : ∀ j, 0 <= s.used.getD j 0 /\ s.used.getD j 0 <= 1
 mid : ∀ v, 0 <= mapGet s.mid [v] /\ mapGet s.mid [v] <= i
theorem ckw_start {E : List Ed} {t : List Nd} (hE : ∀ x ∈ E, RngE x) : CkW E t 0 (ckStart E t.length) := by
 refine ⟨hE, by rw [List.drop_zero], rfl, by simp [ckStart], fun j => ?_, fun v => ⟨Int.le_refl _, Int.le_refl _⟩⟩
 have : (ckStart E t.length).used.getD j 0 = 0 := by
  show (List.replicate _ _).getD j 0 = 0
  rw [qDq, List.getElem?_replicate]; split <;> rfl
 omega
theorem us2 {u : List Int} {a b : Nat} (h : ∀ j, 0 <= u.getD j 0 /\ u.getD j 0 <= 1) : ∀ j, 0 <= ((u.set a 1).set b 1).getD j 0 /\ ((u.set a 1).set b 1).getD j 0 <= 1 := by
 have one : ∀ {u : List Int} {a : Nat}, (∀ j, 0 <= u.getD j 0 /\ u.getD j 0 <= 1) -> ∀ j, 0 <= (u.set a 1).getD j 0 /\ (u.set a 1).getD j 0 <= 1 := fun {u a} h j => by
  rw [qDq, List.getElem?_set];by_cases e : a = j
  ·rw [if_pos e];by_cases hl : a < u.length
   ·rw [if_pos hl]; exact ⟨by decide, by decide⟩
   ·rw [if_neg hl]; exact ⟨by decide, by decide⟩
  ·rw [if_neg e, <- qDq]; exact h j
 exact one (one h)
theorem ckw_step {E : List Ed} {t : List Nd} {i : Nat} {s s' : Ck} {x : Nd} (h : CkW E t i s) (hx : t[i]? = some x) (hs : ckStep s x = some s') : CkW E t (i + 1) s' := by
 have hlt := (qSq.1 hx).1
 have hr := h.run
 rw [List.drop_eq_getElem_cons hlt, show t[i] = x by rw [qEq hlt] at hx; injection hx] at hr
 simp only [ckRun, hs] at hr
 have rp : ∀ {i : Int}, 0 <= i -> i < s.poles.length -> RngE (s.pol i) := fun {i} h0 h1 => by
  unfold Ck.pol;rw [qDq, qEq (by omega)];exact h.rng _ (List.getElem_mem _)
 have hl : s'.poles.length = s.poles.length + 1 /\ s'.used = (s.used.set x.2.1.toNat 1).set x.2.2.toNat 1 /\ (s'.mid = s.mid \/ ∃ m, s'.mid = midIn s.mid m) /\ ∃ e, RngE e /\ s'.poles = s.poles ++ [e] := by
  unfold ckStep at hs;split at hs
  ·rename_i hf;split at hs
   ·split at hs
    ·rename_i hm;injection hs with hs; subst hs; exact ⟨by simp, rfl, .inr ⟨_, rfl⟩, _, (middle_rng (rp hf.2.1 hf.2.2.2.1) (rp hf.2.2.1 hf.2.2.2.2.1) hm).2, rfl⟩
    ·simp at hs
   ·split at hs
    ·split at hs
     ·injection hs with hs; subst hs; exact ⟨by simp, rfl, .inl rfl, _, rp hf.2.1 hf.2.2.2.1, rfl⟩
     ·simp at hs
    ·simp at hs
  ·simp at hs
 refine ⟨fun y hy => ?_, hr, by rw [hl.1, h.len]; omega, by rw [hl.2.1, List.length_set, List.length_set, h.ulen], by rw [hl.2.1]; exact us2 h.us, fun v => ?_⟩
 ·obtain ⟨e, he, hpe⟩ := hl.2.2.2;rw [hpe] at hy;rcases List.mem_append.1 hy with hy | hy
  ·exact h.rng y hy
  ·rw [List.mem_singleton] at hy; subst hy; exact he
 have hm := h.mid v
 rcases hl.2.2.1 with e | ⟨m, e⟩
 ·rw [e]; omega
 ·rw [e];unfold midIn;rw [mapGet_put];have hm2 := h.mid m;split <;> omega
theorem ckw_bad {E : List Ed} {t : List Nd} {i : Nat} {s : Ck} {x : Nd} (h : CkW E t i s) (hx : t[i]? = some x) (hs : ckStep s x = none) : ckRun t (ckStart E t.length) = none := by
 have hlt := (qSq.1 hx).1
 rw [<- h.run, List.drop_eq_getElem_cons hlt, show t[i] = x by rw [qEq hlt] at hx; injection hx]
 simp only [ckRun, hs]
noncomputable def XCk : Cx := { Γ := [(22, TwoC), (27, OwnC), (38, MiddleC)], T := T, nt := 159 }
set_option maxRecDepth 200000 in
set_option maxHeartbeats 4000000 in
theorem Ck_ok : SoundC Try.prog T 14 CkC := by
 refine sound_con (X := XCk) cr_none hmix hT (sound_cons Two_ok (sound_cons Own_ok (sound_cons Middle_ok sound_nil))) Try.func14 (by rfl) (by rfl) (by rfl) (by rfl) 4 ?_
 rintro ⟨⟨n, E⟩, l, t⟩ ⟨hl, ht⟩
 dsimp only at hl ht ⊢
 refine two_le ?_
 refine Call.by _ _ (TwoC_at hl) ?_
 refine Pick.by (fun h1 => ?_) (fun h1 => ?_)
 ·refine ⟨rfl, ?_⟩;show Sc.b false = Sc.b (ckF n E l t)
  unfold ckF;have h1 : (!twoB n E l) = true := h1
  cases hc : twoB n E l with
  | true => rw [hc] at h1; simp at h1
  | false => rfl
 have h1 : twoB n E l = true := by cases h : twoB n E l with | true => rfl | false => rw [h] at h1; simp at h1
 obtain ⟨hR, h2, ⟨hnd, hrng⟩, -⟩ := twoB_iff.1 h1
 have hEl := hR.2.2.1
 obtain ⟨W, hW⟩ : ∃ W, withL l E = W := ⟨_, rfl⟩
 have hWl : W.length <= 4000 := by rw [<- hW]; exact Nat.le_trans withL_len hEl
 refine Call.by _ _ (WithC_at (n := n) (E := E) (l := l) ⟨hEl, by omega, hR, hrng⟩) ?_
 rw [hW]
 have htl := nods_length t
 have hel := qeq W
 have hWr : ∀ x ∈ W, RngE x := fun x hx => by
  have h1 := (withL_ok (l := l) hR).1 x (by rw [hW]; exact hx);have h2 := hR.2.1;unfold okE at h1;exact ⟨⟨by omega, by omega⟩, by omega, by omega⟩
 refine Pick.n ?_
 refine Pick.by (fun h3 => ?_) (fun h3 => ?_)
 ·have h3 : t.length + 1 ≠ W.length := by have := bne_iff_ne.1 h3; rw [htl, hel] at this; omega
  refine ⟨rfl, ?_⟩;show Sc.b false = Sc.b (ckF n E l t)
  unfold ckF;rw [hW, decide_eq_false h3, Bool.false_and, Bool.and_false]
 have h3 : t.length + 1 = W.length := by
  have h3 : ((nods t).length : Int) = ((edges W).length : Int) - 1 := by simpa using h3
  rw [htl, hel] at h3; omega
 have hF : ckF n E l t = ckB E l t := by unfold ckF; rw [h1, hW, decide_eq_true h3]; rfl
 have bad : ckRun t (ckStart W t.length) = none -> Sc.b false = Sc.b (ckF n E l t) := fun h => by rw [hF]; unfold ckB; rw [hW, h]
 have good : ∀ s, ckRun t (ckStart W t.length) = some s -> ckF n E l t = decide (CkEnd l s) := fun s h => by rw [hF]; unfold ckB; rw [hW, h]
 refine Pick.n ?_
 refine Pick.T (beq_self_eq_true _) ?_
 refine Idx.by (W.length + t.length) (by rw [htl, hel]; omega) (by omega) ?_
 refine LoopP.intro (α := Nat × Ck) (fun a => a.1 <= t.length /\ CkW W t a.1 a.2) (fun a => t.length - a.1) (fun a => [(1, .sl 0 none none), (7, .sl 2 none none), (8, .sl 3 none none), (9, .mp 4), (41, .sl 1 none none), (42, .s (.i .i64 t.length)), (43, .s (.i .i64 a.1))])
  (fun a => [(0, some (.flat false 1 (ints l))), (1, some (.flat false 3 (nods t))), (2, some (.flat true 2 (edges a.2.poles))), (3, some (.flat true 1 (ints a.2.used))), (4, some (.map false 1 a.2.mid))]) 5 (0, ckStart W t.length) ⟨by omega, ckw_start hWr⟩ (by refine Weak.bw (sg 0 [_,_,_,_,_]) (by ((repeat' first|exact rfl|exact trivial|apply And.intro) <;> (repeat' first|exact rfl|exact trivial|apply And.intro)); all_goals ((first|exact sc_eq (by rw [htl]) | (show ints (List.replicate _ _) = _; simp [ints]) | (show _ = ints (List.replicate _ _); simp [ints]))))) ?_
 rintro ⟨i, s⟩ ⟨hi, hw⟩
 dsimp only at hi hw ⊢
 have hpl := hw.len
 have hul := hw.ulen
 refine Pick.by (fun hc => ?_) (fun hc => ?_)
 ·have hlt : i < t.length := by have := of_decide_eq_true hc; omega
  obtain ⟨⟨op, L, R⟩, hx⟩ : ∃ x, t[i] = x := ⟨_, rfl⟩;have hti : t[i]? = some (op, L, R) := by rw [qEq hlt, hx]
  have stop : ckStep s (op, L, R) = none -> Sc.b false = Sc.b (ckF n E l t) := fun h => bad (ckw_bad hw hti h)
  have nofree : ¬ FreeP s (op, L, R) -> Sc.b false = Sc.b (ckF n E l t) := fun h => stop (if_neg h)
  refine Idx.by i rfl (by rw [htl]; exact hlt) ?_;refine Look.by _ (nods_get hti) ?_;refine Pick.by (fun e1 => ?_) (fun e1 => ?_)
  ·have e1 : L = R := eq_of_beq e1;refine Seg.by (by kernel_rfl) ?_;exact ⟨rfl, nofree fun h => h.1 e1⟩
  have e1 : L ≠ R := ne_of_beq_false e1;refine Pick.by (fun e2 => ?_) (fun e2 => ?_)
  ·have e2 : (if R < L then R else L) < 0 := of_decide_eq_true e2;refine Seg.by (by kernel_rfl) ?_;exact ⟨rfl, nofree fun h => by have h2 : 0 <= L := h.2.1; have h3 : 0 <= R := h.2.2.1; split at e2 <;> omega⟩
  have e2 : 0 <= L /\ 0 <= R := by
   have e2 : ¬ (if R < L then R else L) < 0 := of_decide_eq_false e2;split at e2 <;> omega
  refine Pick.by (fun e3 => ?_) (fun e3 => ?_)
  ·have e3 : (if R > L then R else L) ≥ ((edges s.poles).length : Int) := of_decide_eq_true e3;rw [qeq] at e3;refine Seg.by (by kernel_rfl) ?_;exact ⟨rfl, nofree fun h => by have h2 : L < s.poles.length := h.2.2.2.1; have h3 : R < s.poles.length := h.2.2.2.2.1; split at e3 <;> omega⟩
  have e3 : L < s.poles.length /\ R < s.poles.length := by
   have e3 : ¬ (if R > L then R else L) ≥ ((edges s.poles).length : Int) := of_decide_eq_false e3;rw [qeq] at e3;split at e3 <;> omega
  have uget : ∀ {k : Int}, 0 <= k -> k < s.poles.length -> (ints s.used)[k.toNat]? = some [.i .i64 (s.usd k)] := fun {k} h0 h1 => qhq (by unfold Ck.usd; rw [qDq, qEq (by omega)]; rfl)
  have pget : ∀ {k : Int}, 0 <= k -> k < s.poles.length -> (edges s.poles)[k.toNat]? = some [.i .i64 (s.pol k).1, .i .i64 (s.pol k).2] := fun {k} h0 h1 => edges_get (x := s.pol k) (by unfold Ck.pol; rw [qDq, qEq (by omega)]; rfl)
  have hel2 := qeq s.poles;have hil := qiq s.used;have uL := hw.us L.toNat;have uR := hw.us R.toNat;refine Idx.by L.toNat (show L = (L.toNat : Int) by omega) (by omega) ?_;refine Look.by _ (uget e2.1 e3.1) ?_;refine Idx.by R.toNat (show R = (R.toNat : Int) by omega) (by omega) ?_;refine Look.by _ (uget e2.2 e3.2) ?_;refine Pick.T (inI64_of (by unfold Ck.usd; omega) (by unfold Ck.usd; omega)) ?_;refine Seg.by (by kernel_rfl) ?_;refine Pick.by (fun e4 => ?_) (fun e4 => ?_)
  ·have e4 : s.usd L + s.usd R > 0 := of_decide_eq_true e4;exact ⟨rfl, nofree fun h => by have h2 : s.usd L + s.usd R <= 0 := h.2.2.2.2.2; omega⟩
  have e4 : ¬ s.usd L + s.usd R > 0 := of_decide_eq_false e4;have free : FreeP s (op, L, R) := ⟨e1, e2.1, e2.2, e3.1, e3.2, by show s.usd L + s.usd R <= 0; omega⟩;refine Idx.by L.toNat (show L = (L.toNat : Int) by omega) (by omega) ?_;refine Look.by _ (uget e2.1 e3.1) ?_;refine Idx.by R.toNat (show R = (R.toNat : Int) by omega) (by show R.toNat < ((ints s.used).set L.toNat [.i .i64 1]).length; rw [List.length_set]; omega) ?_;have hu2 : ((ints s.used).set L.toNat [.i .i64 1])[R.toNat]? = some [.i .i64 (s.usd R)] := by rw [qNq (by omega)]; exact uget e2.2 e3.2
  refine Look.by _ hu2 ?_;refine Seg.by (by kernel_rfl) ?_;refine Idx.by L.toNat (show L = (L.toNat : Int) by omega) (by omega) ?_;refine Look.by _ (pget e2.1 e3.1) ?_;refine Idx.by R.toNat (show R = (R.toNat : Int) by omega) (by omega) ?_;refine Look.by _ (pget e2.2 e3.2) ?_;refine Seg.by (by kernel_rfl) ?_;obtain ⟨X, hX⟩ : ∃ X, s.pol L = X := ⟨_, rfl⟩;obtain ⟨Y, hY⟩ : ∃ Y, s.pol R = Y := ⟨_, rfl⟩;rw [hX, hY];refine Pick.by (fun g1 => ?_) (fun g1 => ?_)
  ·have g1 : op = 1 := eq_of_beq g1;refine Call.by _ _ (MiddleC_at X Y) ?_;obtain ⟨⟨⟨m, ⟨ea, eb⟩⟩, ok⟩, hmid⟩ : ∃ r, middleF X Y = r := ⟨_, rfl⟩;rw [hmid];have hstep : ckStep s (op, L, R) = if ok = true then some { poles := s.poles ++ [(ea, eb)], used := (s.used.set L.toNat 1).set R.toNat 1, mid := midIn s.mid m } else none := by
    unfold ckStep;rw [if_pos free, if_pos g1];show (if (middleF (s.pol L) (s.pol R)).2 = true then _ else _) = _
    rw [hX, hY, hmid]
   refine Pick.by (fun g3 => ?_) (fun g3 => ?_)
   ·have g3 : ¬ ok = true := fun e => by have g3 : (!ok) = true := g3; rw [e] at g3; simp at g3
    rw [if_neg g3] at hstep;exact ⟨rfl, stop hstep⟩
   have g3 : ok = true := by have g3 : (!ok) = false := g3; simpa using g3
   rw [if_pos g3] at hstep;have hw' := ckw_step hw hti hstep;have hXr : RngE X := by rw [<- hX]; exact hw.rng _ (qMq (show s.poles[L.toNat]? = some (s.pol L) by unfold Ck.pol; rw [qDq, qEq (by omega)]; rfl))
   have hYr : RngE Y := by rw [<- hY]; exact hw.rng _ (qMq (show s.poles[R.toNat]? = some (s.pol R) by unfold Ck.pol; rw [qDq, qEq (by omega)]; rfl))
   have hmr := (middle_rng hXr hYr (by rw [hmid]; exact g3)).1;rw [hmid] at hmr;dsimp only at hmr;have hmm := hw.mid m;refine Pick.T (inI64_of (by show _ <= m; omega) (by show m <= _; omega)) ?_;refine Pick.T (inI64_of (by show _ <= mapGet s.mid [m] + 1; omega) (by show mapGet s.mid [m] + 1 <= _; omega)) ?_;refine Pick.T (inI64_of (by show _ <= m; omega) (by show m <= _; omega)) ?_;refine Seg.by (by kernel_rfl) ?_;refine Pick.F (show (!(ea == ea && (eb == eb && true))) = false by simp) ?_;have hP : edges (s.poles ++ [(ea, eb)]) = edges s.poles ++ [[.i .i64 ea, .i .i64 eb]] := edges_snoc ..;have hU : ints ((s.used.set L.toNat 1).set R.toNat 1) = ((ints s.used).set L.toNat [.i .i64 1]).set R.toNat [.i .i64 1] := by rw [ints_set, ints_set]
   have hM : midIn s.mid m = mapPut s.mid [m] (mapGet s.mid [m] + 1) := rfl;refine Pick.T (by rw [decide_eq_true_iff, qeq]; show _ + 1 <= _; omega) ?_;refine Pick.n ?_;refine Next.by (i + 1, ({ poles := s.poles ++ [(ea, eb)], used := (s.used.set L.toNat 1).set R.toNat 1, mid := midIn s.mid m } : Ck)) ⟨by show i + 1 <= _; omega, hw'⟩ (by show t.length - (i + 1) < t.length - i; omega) (by refine Weak.bw (sg 0 [_,_,_,_,_]) (by ((repeat' first|exact rfl|exact trivial|apply And.intro) <;> (repeat' first|exact rfl|exact trivial|apply And.intro)); all_goals ((first|exact sc_eq (by show ((i + 1 : Nat) : Int) = _; omega) | exact hP | exact hU | exact hM))))
  ·have g1 : op ≠ 1 := ne_of_beq_false g1;refine Pick.by (fun g2 => ?_) (fun g2 => ?_)
   ·have g2 : op = 2 := eq_of_beq g2;have hstep : ckStep s (op, L, R) = if X = Y then some { poles := s.poles ++ [X], used := (s.used.set L.toNat 1).set R.toNat 1, mid := s.mid } else none := by
     unfold ckStep;rw [if_pos free, if_neg g1, if_pos g2];show (if s.pol L = s.pol R then some ({ poles := s.poles ++ [s.pol L], used := _, mid := _ } : Ck) else none) = _
     rw [hX, hY]
    refine Pick.by (fun g3 => ?_) (fun g3 => ?_)
    ·have g3 : ¬ X = Y := fun e => by
      have g3 : (!(X.1 == Y.1 && (X.2 == Y.2 && true))) = true := g3;rw [e] at g3; simp at g3
     rw [if_neg g3] at hstep;exact ⟨rfl, stop hstep⟩
    have g3 : X = Y := by
     have g3 : (!(X.1 == Y.1 && (X.2 == Y.2 && true))) = false := g3;simp at g3;exact Prod.ext g3.1 g3.2
    rw [if_pos g3] at hstep;have hw' := ckw_step hw hti hstep;have hP : edges (s.poles ++ [X]) = edges s.poles ++ [[.i .i64 X.1, .i .i64 X.2]] := edges_snoc ..;have hU : ints ((s.used.set L.toNat 1).set R.toNat 1) = ((ints s.used).set L.toNat [.i .i64 1]).set R.toNat [.i .i64 1] := by rw [ints_set, ints_set]
    refine Pick.T (by rw [decide_eq_true_iff, qeq]; show _ + 1 <= _; omega) ?_;refine Pick.n ?_;refine Next.by (i + 1, ({ poles := s.poles ++ [X], used := (s.used.set L.toNat 1).set R.toNat 1, mid := s.mid } : Ck)) ⟨by show i + 1 <= _; omega, hw'⟩ (by show t.length - (i + 1) < t.length - i; omega) (by refine Weak.bw (sg 0 [_,_,_,_,_]) (by ((repeat' first|exact rfl|exact trivial|apply And.intro) <;> (repeat' first|exact rfl|exact trivial|apply And.intro)); all_goals ((first|exact sc_eq (by show ((i + 1 : Nat) : Int) = _; omega) | exact hP | exact hU))))
   ·have g2 : op ≠ 2 := ne_of_beq_false g2;have hs : ckStep s (op, L, R) = none := by
     unfold ckStep; rw [if_pos free, if_neg g1, if_neg g2]
    exact ⟨rfl, stop hs⟩
 have hie : i = t.length := by have := of_decide_eq_false hc; omega
 subst hie
 have hrun := hw.run
 rw [List.drop_length] at hrun
 have hgood := good s hrun.symm
 have hel2 := qeq s.poles
 obtain ⟨last, hlast⟩ : ∃ x, ckLast s = x := ⟨_, rfl⟩
 have hlget : (edges s.poles)[s.poles.length - 1]? = some [.i .i64 last.1, .i .i64 last.2] := edges_get (by rw [<- hlast]; unfold ckLast; rw [qDq, qEq (by omega)]; rfl)
 refine Pick.n ?_
 refine Idx.by (s.poles.length - 1) (by omega) (by omega) ?_
 refine Look.by _ hlget ?_
 have hlen := qiq l
 refine LoopP.intro (α := Nat) (fun j => j <= l.length /\ ∀ v ∈ l.take j, mapGet s.mid [v] = if v = last.1 \/ v = last.2 then 0 else 1) (fun j => l.length - j) (fun j => [(9, .mp 1), (17, .ptr 2 0), (137, .sl 0 none none), (138, .s (.i .i64 l.length)), (139, .s (.i .i64 j))])
  (fun j => [(0, some (.flat false 1 (ints l))), (1, some (.map false 1 s.mid)), (2, some (.blk [.s (.i .i64 last.1), .s (.i .i64 last.2)]))]) 3 0 ⟨by omega, by simp⟩ (by refine Weak.bw (sg 0 [_,_,_]) (by ((repeat' first|exact rfl|exact trivial|apply And.intro) <;> (repeat' first|exact rfl|exact trivial|apply And.intro)); all_goals (exact sc_eq (by rw [hlen])))) ?_
 rintro j ⟨hj, hd⟩
 refine Pick.by (fun hc => ?_) (fun hc => ?_)
 ·have hlt : j < l.length := by have := of_decide_eq_true hc; omega
  obtain ⟨v, hv⟩ : ∃ v, l[j] = v := ⟨_, rfl⟩;have hlj : l[j]? = some v := by rw [qEq hlt, hv]
  have hvm := qMq hlj;have hvr := hrng v hvm;have hn1 := hR.2.1;have hts : l.take (j + 1) = l.take j ++ [v] := by rw [List.take_add_one, hlj]; rfl
  have wrong : mapGet s.mid [v] ≠ (if v = last.1 \/ v = last.2 then 0 else 1) -> Sc.b false = Sc.b (ckF n E l t) := fun h => by
   rw [hgood, decide_eq_false];intro hce;have := hce v hvm;rw [hlast] at this;exact h this
  have next : mapGet s.mid [v] = (if v = last.1 \/ v = last.2 then 0 else 1) -> ∀ u ∈ l.take (j + 1), mapGet s.mid [u] = if u = last.1 \/ u = last.2 then 0 else 1 := fun h u hu => by
   rw [hts] at hu;rcases List.mem_append.1 hu with hu | hu
   ·exact hd u hu
   ·rw [List.mem_singleton] at hu; subst hu; exact h
  refine Idx.by j rfl (by omega) ?_;refine Look.by _ (qhq hlj) ?_;refine Pick.by (fun a1 => ?_) (fun a1 => ?_)
  ·have a1 : v = last.1 := eq_of_beq a1;have hw0 : (if v = last.1 \/ v = last.2 then (0 : Int) else 1) = 0 := if_pos (.inl a1);rw [hw0] at wrong next;refine Pick.n ?_;refine Pick.by (fun a3 => ?_) (fun a3 => ?_)
   ·exact ⟨rfl, wrong (bne_iff_ne.1 a3)⟩
   ·have a3 : mapGet s.mid [v] = 0 := by simpa using a3
    refine Pick.n ?_;refine Next.by (j + 1) ⟨by omega, next a3⟩ (by omega) (by refine Weak.bw (sg 0 [_,_,_]) (by ((repeat' first|exact rfl|exact trivial|apply And.intro) <;> (repeat' first|exact rfl|exact trivial|apply And.intro)); all_goals (exact sc_eq (by omega))))
  have a1 : v ≠ last.1 := ne_of_beq_false a1;refine Pick.by (fun a2 => ?_) (fun a2 => ?_)
  ·have a2 : v = last.2 := eq_of_beq a2;have hw0 : (if v = last.1 \/ v = last.2 then (0 : Int) else 1) = 0 := if_pos (.inr a2);rw [hw0] at wrong next;refine Pick.n ?_;refine Pick.by (fun a3 => ?_) (fun a3 => ?_)
   ·exact ⟨rfl, wrong (bne_iff_ne.1 a3)⟩
   ·have a3 : mapGet s.mid [v] = 0 := by simpa using a3
    refine Pick.n ?_;refine Next.by (j + 1) ⟨by omega, next a3⟩ (by omega) (by refine Weak.bw (sg 0 [_,_,_]) (by ((repeat' first|exact rfl|exact trivial|apply And.intro) <;> (repeat' first|exact rfl|exact trivial|apply And.intro)); all_goals (exact sc_eq (by omega))))
  ·have a2 : v ≠ last.2 := ne_of_beq_false a2;have hw0 : (if v = last.1 \/ v = last.2 then (0 : Int) else 1) = 1 := if_neg (by rintro (h | h); exact a1 h; exact a2 h);rw [hw0] at wrong next;refine Pick.n ?_;refine Pick.by (fun a3 => ?_) (fun a3 => ?_)
   ·exact ⟨rfl, wrong (bne_iff_ne.1 a3)⟩
   ·have a3 : mapGet s.mid [v] = 1 := by simpa using a3
    refine Pick.n ?_;refine Next.by (j + 1) ⟨by omega, next a3⟩ (by omega) (by refine Weak.bw (sg 0 [_,_,_]) (by ((repeat' first|exact rfl|exact trivial|apply And.intro) <;> (repeat' first|exact rfl|exact trivial|apply And.intro)); all_goals (exact sc_eq (by omega))))
 ·have hje : j = l.length := by have := of_decide_eq_false hc; omega
  subst hje;rw [List.take_length] at hd;refine ⟨rfl, ?_⟩;show Sc.b true = Sc.b (ckF n E l t)
  rw [hgood, decide_eq_true];intro v hv;rw [hlast];exact hd v hv
def growL (E : List Ed) (l S : List Int) : List Int := l.filter fun v => S.elem v || E.any fun e => (S.elem e.1 && e.2 == v) || (S.elem e.2 && e.1 == v)
def iterL (E : List Ed) (l : List Int) : Nat -> List Int -> List Int
 | 0, S => S
 | k + 1, S => iterL E l k (growL E l S)
theorem iterL_rch {E : List Ed} {l : List Int} {s : Int} : ∀ {k : Nat} {S : List Int}, (∀ u ∈ S, Rch E l s u) -> ∀ v ∈ iterL E l k S, Rch E l s v := by
 intro k
 induction k with
 | zero => intro S h v hv; exact h v hv
 | succ k ih =>
  intro S h v hv;refine ih (S := growL E l S) (fun u hu => ?_) v hv;obtain ⟨hul, hu⟩ := List.mem_filter.1 hu;rcases Bool.or_eq_true_iff.1 hu with hu | hu
  ·exact h u (by simpa using hu)
  ·obtain ⟨e, he, hh⟩ := List.any_eq_true.1 hu;rcases Bool.or_eq_true_iff.1 hh with hh | hh <;> obtain ⟨h1, h2⟩ := Bool.and_eq_true_iff.1 hh
   ·have h2 := eq_of_beq h2;subst h2;exact .step (h e.1 (by simpa using h1)) (.inl he) hul
   ·have h2 := eq_of_beq h2;subst h2;exact .step (h e.2 (by simpa using h1)) (.inr he) hul
def wholeD (n : Int) (E : List Ed) (l : List Int) : Bool := decide (RightP n E /\ l ≠ [] /\ l.Nodup /\ (∀ v ∈ l, 0 <= v /\ v < n) /\ ∀ v ∈ l, v ∈ iterL E l l.length [l.headD 0])
theorem wholeD_p {n : Int} {E : List Ed} {l : List Int} (h : wholeD n E l = true) : WholeP n E l := by
 obtain ⟨h1, h2, h3, h4, h5⟩ := of_decide_eq_true h
 exact ⟨h1, h2, h3, h4, fun v hv => iterL_rch (k := l.length) (S := [l.headD 0]) (fun u hu => by rw [List.mem_singleton] at hu; subst hu; exact .base) v (h5 v hv)⟩
def twoD (n : Int) (E : List Ed) (l : List Int) : Bool := decide (2 <= l.length) && (decide (l.length <= 1000) && (wholeD n E l && l.all fun c => wholeD n E (l.erase c)))
theorem twoD_p {n : Int} {E : List Ed} {l : List Int} (h : twoD n E l = true) : twoB n E l = true := by
 unfold twoD at h
 simp only [Bool.and_eq_true, decide_eq_true_eq, List.all_eq_true] at h
 obtain ⟨h1, h2, h3, h4⟩ := h
 exact twoB_iff.2 ((two_iff h2).2 ⟨h1, wholeD_p h3, fun c hc => wholeD_p (h4 c hc)⟩)
theorem two_not {n : Int} {E : List Ed} {l : List Int} (S : List Int) (hl : l.length <= 1000) (h0 : l.headD 0 ∈ S) (hS : ∀ e ∈ E, (e.1 ∈ S -> e.2 ∈ l -> e.2 ∈ S) /\ (e.2 ∈ S -> e.1 ∈ l -> e.1 ∈ S)) {v : Int} (hv : v ∈ l) (hn : v ∉ S) : twoB n E l = false := by
 cases h : twoB n E l with
 | false => rfl
 | true =>
  obtain ⟨_, hw, _⟩ := (two_iff hl).1 (twoB_iff.1 h);have : ∀ u, Rch E l (l.headD 0) u -> u ∈ S := fun u hu => by
   induction hu with
   | base => exact h0
   | step _ ha hm ih =>
    rcases ha with ha | ha
    ·exact (hS _ ha).1 ih hm
    ·exact (hS _ ha).2 ih hm
  exact absurd (this v (hw.2.2.2.2 v hv)) hn
def E13 : List Ed := [(0, 1), (0, 3), (1, 2), (2, 3)]
theorem two13 : twoB 4 E13 [0, 1, 2, 3] = true := twoD_p (by decide)
theorem two13r : twoB 4 E13 [3, 2, 1, 0] = true := twoD_p (by decide)
theorem two13n : twoB 4 E13 [0, 2] = false := two_not [0] (by decide) (by decide) (by decide) (v := 2) (by decide) (by decide)
theorem spt13 : sptF 4 E13 [0, 1, 2, 3] = ([(1, 0, 1), (1, 2, 4), (2, 3, 5)], 0) := by
 unfold sptF
 rw [if_pos two13]
 unfold startS
 rw [sortI_id (by decide)]
 decide
theorem spt13n : sptF 4 E13 [0, 2] = ([], 1) := if_neg (by rw [two13n]; simp)
theorem ck13 : ckF 4 E13 [3, 2, 1, 0] [(1, 0, 1), (1, 2, 4), (2, 3, 5)] = true := by
 unfold ckF
 rw [two13r]
 decide
theorem ck13n : ckF 4 E13 [3, 2, 1, 0] [(1, 0, 1), (1, 2, 4)] = false := by
 unfold ckF
 rw [two13r]
 decide
noncomputable def Shown13C : Con := conP 0 (fun _ : Unit => True) (fun _ => []) (fun _ => .one (.s (.b true)))
theorem Shown13C_at : Shown13C.F [] = some (.one (.s (.b true)), []) := conP_at (a := ()) (fun a b _ _ h => rfl) trivial
set_option maxRecDepth 100000 in
theorem Shown13_ok : SoundC Try.prog T 8 Shown13C := by
 refine sound_con (X := { Γ := [(10, SptC), (14, CkC)], T := T, nt := 63 }) cr_none hmix hT (sound_cons Spt_ok (sound_cons Ck_ok sound_nil)) Try.func8 (by rfl) (by rfl) (by rfl) (by rfl) 0 ?_
 rintro ⟨⟩ -
 refine two_le ?_
 have h1 := SptC_at (n := 4) (E := E13) (l := [0, 1, 2, 3]) (by decide)
 rw [spt13] at h1
 refine Call.by _ _ h1 ?_
 have h2 := SptC_at (n := 4) (E := E13) (l := [0, 2]) (by decide)
 rw [spt13n] at h2
 refine Call.by _ _ h2 ?_
 refine Idx.by 0 rfl (by decide) ?_
 refine Look.by [.i .i64 1, .i .i64 0, .i .i64 1] rfl ?_
 refine Idx.by 2 rfl (by decide) ?_
 refine Look.by [.i .i64 2, .i .i64 3, .i .i64 5] rfl ?_
 have h3 := CkC_at (n := 4) (E := E13) (l := [3, 2, 1, 0]) (t := [(1, 0, 1), (1, 2, 4), (2, 3, 5)]) ⟨by decide, by decide⟩
 rw [ck13] at h3
 refine Call.by _ _ h3 ?_
 refine Rng.by 0 2 rfl rfl (by omega) (by decide) ?_
 have h4 := CkC_at (n := 4) (E := E13) (l := [3, 2, 1, 0]) (t := [(1, 0, 1), (1, 2, 4)]) ⟨by decide, by decide⟩
 rw [ck13n] at h4
 refine Call.by _ _ h4 ?_
 refine Seg.by (by kernel_rfl) ?_
 exact ⟨rfl, rfl⟩
theorem cut_min {α : Type} (m : Nat) (l : List α) (f : List α -> Flat) (hf : ∀ k, (f l).take k = f (l.take k)) : cut (subOf none 0 0 (min l.length m)) (f l) = f (l.take m) := by
 show ((f l).drop 0).take (min l.length m - 0) = _
 rw [List.drop_zero, Nat.sub_zero, hf]
 congr 1
 rw [List.take_eq_take_iff]; omega
theorem ints_take (l : List Int) (k : Nat) : (ints l).take k = ints (l.take k) := by simp [ints, List.map_take]
theorem min_lt {a : Nat} {m : Int} (hm : 0 <= m) : (if m < (a : Int) then m else (a : Int)) = ((min a m.toNat : Nat) : Int) := by split <;> omega
end Go.Sh
namespace Go.Sh
theorem SpI.adj {s : Sp} (h : SpI s) (m : Nat) {k : Nat} {v p q : Int} (hp : PickP s k v p q) {u x : Int} (hu : u ∈ s.left) (huv : u ≠ v) :
  x ∈ nget (stepS m s k).near u ↔ (x ∈ nget s.near u /\ x ≠ v) \/ (q ∉ nget s.near p /\ ((u = p /\ x = q) \/ (u = q /\ x = p))) := by
 have hv : s.left.getD k 0 = v := by rw [qDq, hp.at_]; rfl
 have hends : endsS s v = pairF p q := by unfold endsS; rw [hp.near]; rfl
 have hnpq : [p, q].Nodup := by simp [hp.pq]
 have hne := hp.pq
 have hN1 : ∀ u, nget (cutsV v (nget s.near v) s.near) u = if u = p \/ u = q then (nget s.near u).erase v else nget s.near u := fun u => by
  rw [hp.near, cuts_get hnpq];by_cases hu : u = p \/ u = q
  ·rw [if_pos (by simpa using hu), if_pos hu]
  ·rw [if_neg (by simpa using hu), if_neg hu]
 have hadj : ∀ {u x : Int}, u ∈ s.left -> u ≠ v -> (x ∈ nget (cutsV v (nget s.near v) s.near) u ↔ x ∈ nget s.near u /\ x ≠ v) := fun {u x} hu huv => by
  rw [hN1];by_cases hu2 : u = p \/ u = q
  ·rw [if_pos hu2, (h.nd u hu).mem_erase_iff]; exact And.comm
  ·rw [if_neg hu2];refine ⟨fun hx => ⟨hx, fun e => ?_⟩, And.left⟩;subst e;have := (h.sym u hu x hx).2.2;rw [hp.near] at this;exact hu2 (by simpa using this)
 have hthpq := h.th p hp.pm q hp.qm hp.pq
 by_cases hc : mapHas s.thing (keyE (endsS s v)) = true
 ·have hst : (stepS m s k).near = cutsV v (nget s.near v) s.near := by
   unfold stepS;simp only [hv];rw [if_pos hc]
  rw [hends] at hc;have hq := hthpq.1 hc;rw [hst, hadj hu huv];exact ⟨.inl, fun h => h.resolve_right fun h => h.1 hq⟩
 ·have hst : (stepS m s k).near = joinN (cutsV v (nget s.near v) s.near) (endsS s v).1 (endsS s v).2 := by
   unfold stepS;simp only [hv];rw [if_neg hc]
  rw [hends] at hc;have hq : q ∉ nget s.near p := fun k => hc (hthpq.2 k)
  have hj : ∀ u, nget (joinN (cutsV v (nget s.near v) s.near) (endsS s v).1 (endsS s v).2) u = if u = p then nget (cutsV v (nget s.near v) s.near) p ++ [q] else if u = q then nget (cutsV v (nget s.near v) s.near) q ++ [p] else nget (cutsV v (nget s.near v) s.near) u := fun u => by
   rw [hends];rcases pairF_two p q with ⟨e1, e2⟩ | ⟨e1, e2⟩
   ·rw [e1, e2, join_get hne]
   ·rw [e1, e2, join_get (Ne.symm hne)];by_cases u1 : u = p
    ·rw [if_pos u1, if_neg (by rw [u1]; exact hne), if_pos u1]
    ·by_cases u2 : u = q
     ·rw [if_pos u2, if_neg u1, if_pos u2]
     ·rw [if_neg u2, if_neg u1, if_neg u1, if_neg u2]
  rw [hst, hj];by_cases u1 : u = p
  ·rw [if_pos u1, List.mem_append, <- u1, hadj hu huv, List.mem_singleton];constructor
   ·rintro (h | h)
    ·exact .inl h
    ·exact .inr ⟨by rw [u1]; exact hq, .inl ⟨rfl, h⟩⟩
   ·rintro (h | ⟨_, ⟨_, h⟩ | ⟨h, _⟩⟩)
    ·exact .inl h
    ·exact .inr h
    ·exact absurd (u1.symm.trans h) hne
  ·rw [if_neg u1];by_cases u2 : u = q
   ·rw [if_pos u2, List.mem_append, <- u2, hadj hu huv, List.mem_singleton];constructor
    ·rintro (h | h)
     ·exact .inl h
     ·exact .inr ⟨by rw [u2]; exact hq, .inr ⟨rfl, h⟩⟩
    ·rintro (h | ⟨_, ⟨h, _⟩ | ⟨_, h⟩⟩)
     ·exact .inl h
     ·exact absurd h u1
     ·exact .inr h
   ·rw [if_neg u2, hadj hu huv];constructor
    ·exact .inl
    ·rintro (h | ⟨_, ⟨h, _⟩ | ⟨h, _⟩⟩)
     ·exact h
     ·exact absurd h u1
     ·exact absurd h u2
theorem SpI.left_mem {s : Sp} (h : SpI s) (m : Nat) {k : Nat} {v p q : Int} (hp : PickP s k v p q) {x : Int} : x ∈ (stepS m s k).left ↔ x ∈ s.left /\ x ≠ v := by
 rw [(h.step m hp).2.1, h.nl.mem_erase_iff]; exact And.comm
theorem SpI.pq {s : Sp} (h : SpI s) (m : Nat) {k : Nat} {v p q : Int} (hp : PickP s k v p q) : q ∈ nget (stepS m s k).near p /\ p ∈ nget (stepS m s k).near q := by
 rw [h.adj m hp hp.pm hp.pv, h.adj m hp hp.qm hp.qv]
 by_cases hq : q ∈ nget s.near p
 ·exact ⟨.inl ⟨hq, hp.qv⟩, .inl ⟨(h.sym p hp.pm q hq).2.2, hp.pv⟩⟩
 ·exact ⟨.inr ⟨hq, .inl ⟨rfl, rfl⟩⟩, .inr ⟨hq, .inr ⟨rfl, rfl⟩⟩⟩
def AdjS (s : Sp) (x y : Nat) : Prop := (x : Int) ∈ s.left /\ (y : Int) ∈ nget s.near (x : Int)
theorem SpI.red {s : Sp} (h : SpI s) (h0 : ∀ x ∈ s.left, 0 <= x) (m : Nat) {k : Nat} {v p q : Int} (hp : PickP s k v p q) : Red (AdjS s) (AdjS (stepS m s k)) v.toNat p.toNat q.toNat (q ∉ nget s.near p) := by
 have v0 := h0 v hp.mem
 have p0 := h0 p hp.pm
 have q0 := h0 q hp.qm
 have ev := Int.toNat_of_nonneg v0
 have ep := Int.toNat_of_nonneg p0
 have eq := Int.toNat_of_nonneg q0
 refine ⟨fun y ⟨_, hy⟩ => ?_, fun x y => ?_, fun _ => ?_, fun _ _ _ => ?_⟩
 ·rw [ev, hp.near] at hy;have : (y : Int) = p \/ (y : Int) = q := by simpa using hy
  omega
 ·unfold AdjS;rw [h.left_mem m hp];constructor
  ·rintro ⟨⟨hx, hxv⟩, hy⟩;rw [h.adj m hp hx hxv] at hy;refine ⟨by omega, ?_, ?_⟩
   ·rcases hy with ⟨_, hy⟩ | ⟨_, ⟨_, hy⟩ | ⟨_, hy⟩⟩
    ·omega
    ·have := hp.qv; omega
    ·have := hp.pv; omega
   ·rcases hy with ⟨hy, _⟩ | ⟨hq, hy⟩
    ·exact .inl ⟨hx, hy⟩
    ·exact .inr ⟨hq, by omega⟩
  ·rintro ⟨hx, hy, ⟨k1, k2⟩ | ⟨hq, k1⟩⟩
   ·have hxv : (x : Int) ≠ v := by omega
    exact ⟨⟨k1, hxv⟩, (h.adj m hp k1 hxv).2 (.inl ⟨k2, by omega⟩)⟩
   ·have hpm := hp.pm;have hqm := hp.qm;have hxm : (x : Int) ∈ s.left := by
     rcases k1 with ⟨e, _⟩ | ⟨e, _⟩
     ·rw [show (x : Int) = p by omega]; exact hpm
     ·rw [show (x : Int) = q by omega]; exact hqm
    have hxv : (x : Int) ≠ v := by omega
    exact ⟨⟨hxm, hxv⟩, (h.adj m hp hxm hxv).2 (.inr ⟨hq, by omega⟩)⟩
 ·unfold AdjS;rw [ev, ep, eq, hp.near];exact ⟨⟨hp.mem, by simp⟩, ⟨hp.mem, by simp⟩, fun e => hp.pq (by omega)⟩
 ·unfold AdjS;rw [ep, eq];by_cases hq : q ∈ nget s.near p
  ·exact .inl ⟨hp.pm, hq⟩
  ·exact .inr hq
end Go.Sh
namespace Go.Sh
end Go.Sh
namespace Go.Proofs
open Go.RowKit Go.Shelf Go.Sh
attribute [local go_sem] Oper.semAt_some
theorem Try.infoE : (Try.prog.info? 60).map (fun i => (i.zero, i.size, i.bytes)) = some (some (.agg #[.int .i64 0, .int .i64 0]), 2, 16) := by kernel_rfl
def Try.renE (f : Int -> Int) (E : List Ed) : List Ed := E.filterMap fun p => if f p.1 ≥ 0 /\ f p.2 ≥ 0 then some (f p.1, f p.2) else none
theorem Try.renE_snoc (f : Int -> Int) (E : List Ed) (p : Ed) : Try.renE f (E ++ [p]) = Try.renE f E ++ (if f p.1 ≥ 0 /\ f p.2 ≥ 0 then [(f p.1, f p.2)] else []) := by
 unfold Try.renE
 rw [List.filterMap_append]
 congr 1
 by_cases h : f p.1 ≥ 0 /\ f p.2 ≥ 0 <;> simp [h]
theorem Try.renE_length (f : Int -> Int) (E : List Ed) : (Try.renE f E).length <= E.length := List.length_filterMap_le _ _
theorem Try.own_edges {w : World} {base : Nat} {x : Value} {L : List Ed} {e : TypeId} (h : w.ownsRow base e 2 x L.length (L.flatMap encE)) : ∃ A c, x = .slice A L.length c /\ FlatOk w noLab none A c 2 (edges L) := by
 rcases h.2 with ⟨rfl, h0⟩ | ⟨g, cap, cur, rfl, hb, hg, h1, h2, h3, h4⟩
 ·have : L = [] := List.eq_nil_of_length_eq_zero h0;subst this;exact ⟨none, 0, rfl, FlatOk.nil (by omega)⟩
 ·refine ⟨_, _, rfl, ⟨by rw [qeq]; exact h1, by omega, edges_even L, fun i row j x hi hj => ?_, fun h => by simp at h⟩⟩;refine ⟨_, rfl, rfl, ?_⟩;rw [Addr.add_plain, cells_at hg, Nat.zero_add];have hfl := flat_get (edges_even L) i j row hi (by have := edges_even L i row hi; have := (List.getElem?_eq_some_iff.1 hj).1; omega);have hil := (List.getElem?_eq_some_iff.1 hi).1;rw [qeq] at hil;have hjl := (List.getElem?_eq_some_iff.1 hj).1;have hr2 := edges_even L i row hi;have hcr : cellsR (edges L) = L.flatMap encE := by
   unfold cellsR edges
   clear h h1 h2 h3 h4 hb hg hi hj hfl hil hjl
   induction L with
   | nil => rfl
   | cons p L ih => simp only [List.map_cons, List.flatten_cons, List.map_append, List.flatMap_cons, ih]; rfl
  have h5 : (cur.toList.take (L.length * 2))[i * 2 + j]? = some x.val := by
   rw [h4, <- hcr, cellsR, List.getElem?_map, hfl, hj]; rfl
  rw [List.getElem?_take_of_lt (by omega)] at h5;rw [<- Array.getElem?_toList];exact h5
def Try.conF (hi lo x : Int) : Int := if x = hi then lo else if x > hi then x - 1 else x
end Go.Proofs
namespace Go.Proofs
open Go.RowKit Go.Shelf Go.Sh
attribute [local go_sem] Oper.semAt_some
theorem Try.wide_fn (f : Nat) : Fence.wide.fn f = True := rfl
attribute [local go_sem] Try.wide_fn
theorem Try.own_ge {w : World} {b k size : Nat} {e : TypeId} {v : Value} {xs : List Value} (h : w.ownsRow b e size v k xs) : ∀ g, v.ownBlock = some g -> b <= g := by
 intro g hg
 rcases h.2 with ⟨rfl, _⟩ | ⟨g', cap, cur, rfl, hb, _⟩
 ·simp [Value.ownBlock] at hg
 ·simp [Value.ownBlock] at hg; omega
theorem Try.cells_two (w : World) (x y : Value) (t : TypeId) : ∀ j u, [x, y][j]? = some u -> (w.alloc (.cells #[x, y] t)).cell? ((⟨w.heap.size, 0, none⟩ : Addr).add j) = some u := by
 intro j u hj
 rw [Addr.add_plain, World.cell?]
 show (match (w.alloc _).heap[w.heap.size]? with | some (.cells c _ _) => _ | _ => _) = _
 rw [World.alloc_heap_new, Nat.zero_add]
 show #[x, y][j]? = some u
 rw [<- hj]; simp
theorem Try.set2 {W : World} {b : Nat} {x y x' y' : Value} {T : TypeId} (h : W.heap[b]? = some (.cells #[x, y] T)) : ((W.setCell ⟨b, 0, none⟩ x').setCell ⟨b, 1, none⟩ y').heap[b]? = some (.cells #[x', y'] T) := by
 rw [Go.Sort.setCell_eq, Go.Sort.setCell_eq]
 simp [Go.Sort.mapBlock, Array.getElem?_modify, h, Go.Sort.onCells]
theorem Try.set2_size {W : World} {b : Nat} {x' y' : Value} : ((W.setCell ⟨b, 0, none⟩ x').setCell ⟨b, 1, none⟩ y').heap.size = W.heap.size := by simp [World.setCell]
theorem Try.set2_other {W : World} {b k : Nat} {x' y' : Value} (h : k ≠ b) : ((W.setCell ⟨b, 0, none⟩ x').setCell ⟨b, 1, none⟩ y').heap[k]? = W.heap[k]? := by
 rw [Below.heap_setCell _ _ _ _ h, Below.heap_setCell _ _ _ _ h]
theorem Try.tup2 {w : World} {lab : Nat -> Option Key} {n r : Int} {E : List Ed} {u : Value} (h : VOk w lab 0 (.tup [grO n E, .one (.s (.i .i64 r))]) u) : ∃ A c, u = .tuple #[.agg #[.int .i64 n, .slice A E.length c], .int .i64 r] /\ FlatOk w lab (some (1, none)) A c 2 (edges E) := by
 obtain ⟨us, rfl, hv⟩ := h
 obtain ⟨us⟩ := us
 match us, hv with
 | [], hv => exact hv.elim
 | [_], hv => exact hv.2.elim
 | _ :: _ :: _ :: _, hv => exact hv.2.2.elim
 | [ug, ue], hv =>
  obtain ⟨⟨cs, rfl, hc⟩, ⟨_, he⟩, _⟩ := hv;obtain ⟨cs⟩ := cs
  match cs, hc with
  | [], hc => exact hc.elim
  | [_], hc => exact hc.2.elim
  | _ :: _ :: _ :: _, hc => exact hc.2.2.elim
  | [a, b], hc =>
   obtain ⟨⟨_, h1⟩, ⟨x, h2, h3⟩, _⟩ := hc;have h1 : a = .int .i64 n := h1;have he : ue = .int .i64 r := he;rw [qeq] at h2;subst h1 he h2;exact ⟨x.A, x.c, rfl, h3⟩
theorem Try.tup2_ok {w : World} {lab : Nat -> Option Key} {n r : Int} {E : List Ed} {A : Option Addr} {c : Nat} (h : FlatOk w lab (some (1, none)) A c 2 (edges E)) : VOk w lab 0 (.tup [grO n E, .one (.s (.i .i64 r))]) (.tuple #[.agg #[.int .i64 n, .slice A E.length c], .int .i64 r]) :=
 ⟨_, rfl, ⟨_, rfl, ⟨⟨none, 0, fun _ => none, fun _ => 0⟩, rfl⟩, ⟨⟨A, c, fun _ => none, fun _ => 0⟩, by show Value.slice A E.length c = .slice A (edges E).length c; rw [qeq], h⟩, trivial⟩, ⟨⟨none, 0, fun _ => none, fun _ => 0⟩, rfl⟩, trivial⟩
end Go.Proofs
namespace Go.Proofs
open Go.RowKit Go.Shelf Go.Sh
attribute [local go_sem] Oper.semAt_some
theorem Try.wide_fn10 (f : Nat) : Fence.wide.fn f = True := rfl
attribute [local go_sem] Try.wide_fn10
def Try.indF (p : List Int) (x : Int) : Int := p.getD x.toNat 0 - 1
set_option maxHeartbeats 1000000 in
theorem Try.ind1_in (m : Nat) (B ab ao len cap k : Nat) (y : Int) (W : World) (hk : k < len) (hv : W.cell? ⟨B, 0, none⟩ = some (.slice (some ⟨ab, ao, none⟩) len cap)) (hy : W.cell? ⟨ab, ao + k * 1, none⟩ = some (.int .i64 y)) (hb : 0 <= y /\ y <= 1000000) :
  CallsIn Fence.wide m Try.prog 43 #[.int .i64 (k : Int), .pointer (some ⟨B, 0, none⟩)] W fun e W' => e = .returned (.int .i64 (y - 1)) /\ W' = W := by
 refine callsIn_of_wp Try.func43 rfl trivial ?_ rfl
 simp only [Try.ntmps43, List.size_toArray, List.length_cons, List.length_nil, Nat.reduceAdd, Nat.reduceSub, Array.replicate_succ, Array.replicate_zero, List.push_toArray, List.append_toArray, List.nil_append, List.cons_append]
 rw [Nat.mul_one] at hy
 gi_wp2
 go_ret
 have hw : wrap64 (y - 1) = y - 1 := by unfold wrap64; omega
 first
  | exact ⟨rfl, rfl⟩
  | (rw [hw]; exact ⟨rfl, rfl⟩)
set_option maxRecDepth 100000 in
set_option maxHeartbeats 2000000 in
theorem Try.renInd_in (B : Nat) (f : Int -> Int) (N n : Int) (E : List Ed) (A : Option Addr) (cap : Nat) (w : World) (hE : E.length <= 4000) (hn : n <= 1000) (hr : ∀ p ∈ E, okE n p) (h : FlatOk w noLab none A cap 2 (edges E))
  (hcl : ∀ (m : Nat) (x : Int) (W : World), 0 <= x /\ x < n -> Below w.heap.size w W -> CallsIn Fence.wide m Try.prog 43 #[.int .i64 x, .pointer (some ⟨B, 0, none⟩)] W fun e W' => e = .returned (.int .i64 (f x)) /\ W' = W)
  (R : (Int × List Ed) × Int) (hR : R = normF N (Try.renE f E)) :
  CallsIn Fence.wide 8 Try.prog 44 #[.agg #[.int .i64 N, .func (.func 43) #[] #[.pointer (some ⟨B, 0, none⟩)]], .agg #[.int .i64 n, .slice A E.length cap]] w fun e W' =>
   ∃ u lab, e = .returned u /\ Below w.heap.size w W' /\ (∀ b k, lab b = some k -> w.heap.size <= b /\ b < W'.heap.size) /\ VOk W' lab 0 (.tup [grO R.1.1 R.1.2, .one (.s (.i .i64 R.2))]) u := by
 obtain ⟨i0, hi, hz0, hz1, hz2⟩ := info_parts Try.infoE
 obtain ⟨⟨n1, E1⟩, r1⟩ := R
 obtain ⟨w1, hw1⟩ : ∃ w1, w.alloc (.cells #[.int .i64 N, .func (.func 43) #[] #[.pointer (some ⟨B, 0, none⟩)]] 87) = w1 := ⟨_, rfl⟩
 obtain ⟨w2, hw2⟩ : ∃ w2, w1.alloc (.cells #[.int .i64 n, .slice A E.length cap] 27) = w2 := ⟨_, rfl⟩
 obtain ⟨w3, hw3⟩ : ∃ w3, w2.alloc (.cells #[.int .i64 0, .slice none 0 0] 27) = w3 := ⟨_, rfl⟩
 have s1 : w1.heap.size = w.heap.size + 1 := by rw [<- hw1]; simp
 have s2 : w2.heap.size = w.heap.size + 2 := by rw [<- hw2]; simp [s1]
 have s3 : w3.heap.size = w.heap.size + 3 := by rw [<- hw3]; simp [s2]
 have b1 : Below w.heap.size w w1 := by rw [<- hw1]; exact (Below.refl _ w).alloc (Nat.le_refl _) _
 have b2 : Below w.heap.size w w2 := by rw [<- hw2]; exact b1.alloc (by omega) _
 have b3 : Below w.heap.size w w3 := by rw [<- hw3]; exact b2.alloc (by omega) _
 have g1 : w3.heap[w.heap.size]? = some (.cells #[.int .i64 N, .func (.func 43) #[] #[.pointer (some ⟨B, 0, none⟩)]] 87) := by
  rw [<- hw3, Below.heap_alloc _ _ _ (by omega), <- hw2, Below.heap_alloc _ _ _ (by omega), <- hw1]; exact World.alloc_heap_new _ _
 have g2 : w3.heap[w.heap.size + 1]? = some (.cells #[.int .i64 n, .slice A E.length cap] 27) := by
  rw [<- hw3, Below.heap_alloc _ _ _ (by omega), <- hw2, <- s1]; exact World.alloc_heap_new _ _
 have g3 : w3.heap[w.heap.size + 2]? = some (.cells #[.int .i64 0, .slice none 0 0] 27) := by
  rw [<- hw3, <- s2]; exact World.alloc_heap_new _ _
 have c10 : w3.cell? ⟨w.heap.size, 0, none⟩ = some (.int .i64 N) := by simp [World.cell?, g1]
 have c11 : w3.cell? ⟨w.heap.size, 1, none⟩ = some (.func (.func 43) #[] #[.pointer (some ⟨B, 0, none⟩)]) := by simp [World.cell?, g1]
 have c21 : w3.cell? ⟨w.heap.size + 1, 1, none⟩ = some (.slice A E.length cap) := by simp [World.cell?, g2]
 refine callsIn_of_wp Try.func44 rfl trivial ?_ rfl
 simp only [Try.ntmps44, List.size_toArray, List.length_cons, List.length_nil, Nat.reduceAdd, Nat.reduceSub, Array.replicate_succ, Array.replicate_zero, List.push_toArray, List.append_toArray, List.nil_append, List.cons_append]
 have hEd := Try.eds_of h
 gi_wp2
 gi_loopw [6, 14] (fun lv i wr => ∃ k : Nat, k <= E.length /\ i = .int .i64 k /\ wr.ownsRow (w.heap.size + 3) 60 2 lv (Try.renE f (E.take k)).length ((Try.renE f (E.take k)).flatMap encE) /\ Below (w.heap.size + 3) w3 wr)
  (fun _ i _ => E.length - (intOf i).toNat)
 case atStart => exact ⟨0, Nat.zero_le _, rfl, World.ownsRow_nil _ _ _ _, Below.refl _ _⟩
 case round =>
  obtain ⟨k, hk, rfl, hrow, hB⟩ := hrel;have hsz := hB.size;rw [s3] at hsz;have hBw : Below w.heap.size w wr := b3.trans (hB.mono (by omega));have m1 : wr.cell? ⟨w.heap.size, 0, none⟩ = some (.int .i64 N) := (hB.cell (p := ⟨w.heap.size, 0, none⟩) (by show w.heap.size < _; omega)).trans c10;have m2 : wr.cell? ⟨w.heap.size, 1, none⟩ = some (.func (.func 43) #[] #[.pointer (some ⟨B, 0, none⟩)]) := (hB.cell (p := ⟨w.heap.size, 1, none⟩) (by show w.heap.size < _; omega)).trans c11;by_cases hlt : k < E.length
  ·obtain ⟨x, hx⟩ : ∃ x, E[k]? = some x := ⟨_, List.getElem?_eq_getElem hlt⟩;have hok := hr x (List.mem_of_getElem? hx);obtain ⟨xa, xb⟩ := x;have htk : E.take (k + 1) = E.take k ++ [(xa, xb)] := by
    rw [List.take_succ_eq_append_getElem hlt];rw [List.getElem?_eq_getElem hlt] at hx;injection hx with hx
    rw [hx]
   have hst := Try.renE_snoc f (E.take k) (xa, xb);rw [<- htk] at hst;unfold okE at hok;dsimp only at hok hst;rcases hEd with ⟨rfl, _⟩ | ⟨ab, ao, c, e, hb, hcs⟩
   ·simp at hlt
   injection e with e1 e2 e3
   subst e1;subst e3;have hcx1 : wr.cell? ⟨ab, ao + k * 2, none⟩ = some (.int .i64 xa) := (hBw.cell (p := ⟨ab, ao + k * 2, none⟩) hb).trans (hcs k _ hx).1;have hcx2 : wr.cell? ⟨ab, ao + k * 2 + 1, none⟩ = some (.int .i64 xb) := (hBw.cell (p := ⟨ab, ao + k * 2 + 1, none⟩) hb).trans (hcs k _ hx).2;have hB5 : Below (w.heap.size + 3) w3 (wr.alloc (.cells #[.int .i64 xa, .int .i64 xb] 60)) := hB.alloc (by omega) _;have hBw5 : Below w.heap.size w (wr.alloc (.cells #[.int .i64 xa, .int .i64 xb] 60)) := hBw.alloc (by omega) _;have n2 : (wr.alloc (.cells #[.int .i64 xa, .int .i64 xb] 60)).cell? ⟨w.heap.size, 1, none⟩ = some (.func (.func 43) #[] #[.pointer (some ⟨B, 0, none⟩)]) := (hB5.cell (p := ⟨w.heap.size, 1, none⟩) (by show w.heap.size < _; omega)).trans c11;have hrow5 := hrow.alloc (.cells #[.int .i64 xa, .int .i64 xb] 60);have x0 : (wr.alloc (.cells #[.int .i64 xa, .int .i64 xb] 60)).cell? ⟨wr.heap.size, 0, none⟩ = some (.int .i64 xa) := by rw [World.cell?]; show (match (wr.alloc _).heap[wr.heap.size]? with | some (.cells c _ _) => _ | _ => _) = _; rw [World.alloc_heap_new]; rfl
   have x1 : (wr.alloc (.cells #[.int .i64 xa, .int .i64 xb] 60)).cell? ⟨wr.heap.size, 1, none⟩ = some (.int .i64 xb) := by rw [World.cell?]; show (match (wr.alloc _).heap[wr.heap.size]? with | some (.cells c _ _) => _ | _ => _) = _; rw [World.alloc_heap_new]; rfl
   have hdr : ∀ q, Below w.heap.size w ((wr.alloc (.cells #[.int .i64 xa, .int .i64 xb] 60)).drewN q) := fun q => ⟨hBw5.os, hBw5.tape, hBw5.output, hBw5.size, hBw5.block⟩
   gi_wp2
   have hxa : 0 <= xa /\ xa < n := by omega
   have hxb : 0 <= xb /\ xb < n := by omega
   gi_quiet ((gi_at_call 43; exact CallsIn.quiet_of_same (hcl _ _ _ (by first | exact hxa | exact hxb) (hdr _))))
   have hB6 : Below (w.heap.size + 3) w3 ((wr.alloc (.cells #[.int .i64 xa, .int .i64 xb] 60)).drewN nq) := ⟨hB5.os, hB5.tape, hB5.output, hB5.size, hB5.block⟩;have hrow6 : ((wr.alloc (.cells #[.int .i64 xa, .int .i64 xb] 60)).drewN nq).ownsRow (w.heap.size + 3) 60 2 u6 (Try.renE f (E.take k)).length ((Try.renE f (E.take k)).flatMap encE) := hrow5;generalize (wr.alloc (.cells #[.int .i64 xa, .int .i64 xb] 60)).drewN nq = W6 at hB6 hrow6 ⊢
   have hln := Try.renE_length f (E.take k);rw [List.length_take] at hln;have hs6 := hB6.size;have hmx : (Try.renE f (E.take k)).length + 1 <= maxLen := by unfold maxLen; omega
   have hm8 : ((Try.renE f (E.take k)).length + 1) * 16 <= 140737488355328 := by omega
   have hge := Try.own_ge hrow6;have hsA : w.heap.size + 3 <= (W6.alloc (.cells #[.int .i64 (f xa), .int .i64 (f xb)] 60)).heap.size := by rw [World.size_alloc]; omega
   by_cases h1 : 0 <= f xa
   ·by_cases h2 : 0 <= f xb
    ·rw [if_pos ⟨h1, h2⟩] at hst
     gi_wp2_with (gi_at_builtin; refine wpListIn_append_own _ rfl _ _ 22 rfl (w.heap.size + 3) 60 i0 _ 2 16 Try.underlying22 hi hz0 hz1 hz2 rfl (by decide) _ _ _ rfl (hrow6.alloc _) ⟨W6.heap.size, 0, none⟩ 1 1 [.int .i64 (f xa), .int .i64 (f xb)] rfl rfl (Try.cells_two _ _ _ _) (by simp [Value.oneCell']) hmx hm8 hsA ?_; intro v' w1' hown' hgrow _)
     have hr7 : w1'.ownsRow (w.heap.size + 3) 60 2 v' (Try.renE f (E.take (k + 1))).length ((Try.renE f (E.take (k + 1))).flatMap encE) := by
      rw [hst, List.length_append, List.flatMap_append];simpa [encE] using hown'
     have hB7 : Below (w.heap.size + 3) w3 w1' := (hB6.alloc (by omega) _).grown hgrow hsA hge
     go_roundw
     case rel => exact ⟨k + 1, by omega, by simp, hr7, hB7⟩
     case measure => simp [intOf]; omega
    ·rw [if_neg (fun h => h2 h.2), List.append_nil] at hst
     gi_wp2
     go_roundw
     case rel => exact ⟨k + 1, by omega, by simp, by rw [hst]; exact hrow6, hB6⟩
     case measure => simp [intOf]; omega
   ·rw [if_neg (fun h => h1 h.1), List.append_nil] at hst
    gi_wp2
    go_roundw
    case rel => exact ⟨k + 1, by omega, by simp, by rw [hst]; exact hrow6, hB6⟩
    case measure => simp [intOf]; omega
  ·obtain rfl : k = E.length := by omega
   rw [List.take_length] at hrow;obtain ⟨lv, lc, rfl, hfl⟩ := Try.own_edges hrow;have hll := Try.renE_length f E;have hNF := NormC_at (n := N) (l := Try.renE f E) (by omega);have hcall := NormG_p _ _ _ hNF wr #[.int .i64 N, .slice lv (Try.renE f E).length lc] ⟨⟨⟨none, 0, fun _ => none, fun _ => 0⟩, rfl⟩, ⟨⟨lv, lc, fun _ => none, fun _ => 0⟩, by show Value.slice lv (Try.renE f E).length lc = .slice lv (edges (Try.renE f E)).length lc; rw [qeq], hfl⟩, trivial⟩;rw [<- hR] at hcall
   clear hR hNF
   have g3' : wr.heap[w.heap.size + 2]? = some (.cells #[.int .i64 0, .slice none 0 0] 27) := (hB.block _ (by omega)).trans g3;have hlt2 : w.heap.size + 2 < wr.heap.size := by omega
   gi_wp2
   gi_at_call 54
   refine (callsIn_wide.2 hcall).mono ?_;rintro e W7 ⟨u, lab, rfl, hf7, hlab, hu⟩;obtain ⟨ra, rc, rfl, hfl7⟩ := Try.tup2 hu;have g37 : W7.heap[w.heap.size + 2]? = some (.cells #[.int .i64 0, .slice none 0 0] 27) := (hf7.block _ hlt2 (fun h => h)).trans g3';have q0 : W7.cell? ⟨w.heap.size + 2, 0, none⟩ = some (.int .i64 0) := by simp [World.cell?, g37]
   have q1 : W7.cell? ⟨w.heap.size + 2, 1, none⟩ = some (.slice none 0 0) := by simp [World.cell?, g37]
   have z0 : W7.frozen? ⟨w.heap.size + 2, 0, none⟩ = false := by simp [World.frozen?, g37]
   have z1 : W7.frozen? ⟨w.heap.size + 2, 1, none⟩ = false := by simp [World.frozen?, g37]
   gi_wp2
   have g38 := Try.set2 (x' := .int .i64 n1) (y' := .slice ra E1.length rc) g37;have hz8 := Try.set2_size (W := W7) (b := w.heap.size + 2) (x' := .int .i64 n1) (y' := .slice ra E1.length rc);have ho8 : ∀ k, k ≠ w.heap.size + 2 -> _ := fun k hk => Try.set2_other (W := W7) (x' := .int .i64 n1) (y' := .slice ra E1.length rc) hk
   have hB7 : Below w.heap.size w ((W7.setCell ⟨w.heap.size + 2, 0, none⟩ (.int .i64 n1)).setCell ⟨w.heap.size + 2, 1, none⟩ (.slice ra E1.length rc)) :=
    ((hBw.trans (hf7.below.mono (by omega))).setCell (p := ⟨w.heap.size + 2, 0, none⟩) (by show w.heap.size <= w.heap.size + 2; omega) _).setCell (p := ⟨w.heap.size + 2, 1, none⟩) (by show w.heap.size <= w.heap.size + 2; omega) _
   generalize (W7.setCell ⟨w.heap.size + 2, 0, none⟩ (.int .i64 n1)).setCell ⟨w.heap.size + 2, 1, none⟩ (.slice ra E1.length rc) = W8 at g38 hz8 ho8 hB7 ⊢
   have d0 : W8.cell? ⟨w.heap.size + 2, 0, none⟩ = some (.int .i64 n1) := by simp [World.cell?, g38]
   have d1 : W8.cell? ⟨w.heap.size + 2, 1, none⟩ = some (.slice ra E1.length rc) := by simp [World.cell?, g38]
   refine bodyPost_ret (v := .tuple #[.agg #[.int .i64 n1, .slice ra E1.length rc], .int .i64 r1]) ?_ rfl ?_
   ·simp [results, Try.f44, go_sem, d0, d1]
   ·refine ⟨_, lab, rfl, hB7, fun b k hk => ⟨by have := (hlab b k hk).1; omega, by rw [hz8]; exact (hlab b k hk).2⟩, Try.tup2_ok (hfl7.mono id fun b hb ho => ⟨ho, ho8 b ?_⟩)⟩;have := (hlab b _ ho).1;omega
end Go.Proofs
namespace Go.Sh
open Go.Proofs Go.RowKit Go.Shelf
def unE (F : Flat) : List Ed := F.map fun r => match r with
 | [.i _ x, .i _ y] => (x, y)
 | _ => (0, 0)
theorem unE_edges (E : List Ed) : unE (edges E) = E := by
 unfold unE edges
 rw [List.map_map]
 conv => rhs; rw [<- List.map_id E]
 exact List.map_congr_left fun x _ => rfl
def indR (N : Int) (p : List Int) (E : List Ed) : (Int × List Ed) × Int := normF N (Try.renE (Try.indF p) E)
def IndP (N n : Int) (pl ed : Flat) : Prop := ∃ (p : List Int) (E : List Ed), pl = ints p /\ ed = edges E /\ E.length <= 4000 /\ n <= 1000 /\ (∀ e ∈ E, okE n e) /\ (p.length : Int) = n /\ ∀ x ∈ p, 0 <= x /\ x <= 1000000
def indV (N n : Int) (pl ed : Flat) : Int × Flat × Int := ((indR N (unI pl) (unE ed)).1.1, edges (indR N (unI pl) (unE ed)).1.2, (indR N (unI pl) (unE ed)).2)
theorem Ren_call : RenCall Try.prog 44 43 IndP indV := by
 refine ⟨⟨_, Try.func44, by decide, by simp [Try.f44]⟩, ?_⟩
 rintro N n pl ed ⟨p, E, rfl, rfl, hE, hn, hok, hpn, hpb⟩ w b arr T A cap A2 cap2 hh ha hF hF2
 have hbl : b < w.heap.size := (Array.getElem?_eq_some_iff.1 hh).1
 have hc : w.cell? ⟨b, 0, none⟩ = some (.slice A p.length cap) := by
  rw [qiq] at ha;rw [cells_at hh, <- Array.getElem?_toList, ha]; rfl
 have hpt : ∀ x : Int, 0 <= x -> x < n -> ∃ ab ao, A = some ⟨ab, ao, none⟩ /\ ab < w.heap.size /\ w.cell? ⟨ab, ao + x.toNat * 1, none⟩ = some (.int .i64 (p.getD x.toNat 0)) := fun x h0 h1 => by
  have hx : x.toNat < p.length := by omega
  obtain ⟨a, rfl, _, h0⟩ := hF.cell x.toNat [.i .i64 (p.getD x.toNat 0)] 0 (.i .i64 (p.getD x.toNat 0)) (qhq (by rw [List.getD_eq_getElem?_getD, List.getElem?_eq_getElem hx]; rfl)) rfl;have h0 : w.cell? (a.add (x.toNat * 1 + 0)) = some (.int .i64 (p.getD x.toNat 0)) := h0;obtain ⟨a', ea, _, h00⟩ := hF.cell 0 [.i .i64 (p.getD 0 0)] 0 (.i .i64 (p.getD 0 0)) (qhq (by rw [List.getD_eq_getElem?_getD, List.getElem?_eq_getElem (by omega)]; rfl)) rfl;injection ea with ea
  subst ea;have h00 : w.cell? a = some (.int .i64 (p.getD 0 0)) := h00;obtain ⟨ab, ao, sp⟩ := a;have hsp : sp = none := by
   cases sp with
   | none => rfl
   | some s =>
    simp only [World.cell?] at h00;split at h00 <;> simp at h00
  subst hsp;rw [Addr.add_plain, Nat.add_zero] at h0;refine ⟨ab, ao, rfl, ?_, h0⟩;simp only [World.cell?] at h0;by_cases hp : ab < w.heap.size
  ·exact hp
  ·rw [Array.getElem?_eq_none (by omega)] at h0;simp at h0
 rw [qeq]
 have hcall := Try.renInd_in b (Try.indF p) N n E A2 cap2 w hE hn hok hF2 (fun m x W hx hW => by
  obtain ⟨ab, ao, hA, hab, hcell⟩ := hpt x hx.1 hx.2;have hy : 0 <= p.getD x.toNat 0 /\ p.getD x.toNat 0 <= 1000000 := by
   rw [List.getD_eq_getElem?_getD, List.getElem?_eq_getElem (by omega)];exact hpb _ (List.getElem_mem _)
  have := Try.ind1_in m b ab ao p.length cap x.toNat (p.getD x.toNat 0) W (by omega) ((hW.cell (p := ⟨b, 0, none⟩) hbl).trans (by rw [hc, hA])) ((hW.cell (p := ⟨ab, ao + x.toNat * 1, none⟩) hab).trans hcell) hy;rw [Int.toNat_of_nonneg hx.1] at this;exact this) _ rfl
 refine ((callsIn_wide (n := 8)).1 hcall).mono ?_
 rintro e w' ⟨u, lab, rfl, hB, hlab, hV⟩
 refine ⟨u, lab, rfl, ⟨hB.os, .of hB.tape, hB.output, hB.size, fun k h _ => hB.block k h⟩, hlab, ?_⟩
 unfold indV indR
 rw [unI_ints, unE_edges]
 exact hV
end Go.Sh
namespace Go.Proofs
open Go.RowKit Go.Shelf Go.Sh
attribute [local go_sem] Oper.semAt_some
theorem Try.wide_fn2 (f : Nat) : Fence.wide.fn f = True := rfl
attribute [local go_sem] Try.wide_fn2
end Go.Proofs
namespace Go.Sh
open Go.Proofs Go.RowKit Go.Shelf
end Go.Sh
