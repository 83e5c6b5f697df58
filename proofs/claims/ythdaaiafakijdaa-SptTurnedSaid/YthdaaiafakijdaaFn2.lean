/- What the functions answer that the statement reaches. No condition. -/
import Derived.Test.YthdaaiafakijdaaFn1
import Derived.RangeFuncBox
import Derived.RangeFuncLeaves
import Derived.Shelf.Abstract
import Derived.WalkKit
import Derived.OwnWalkIn
import Derived.TacticsInMore
import Derived.LoopNIn
import Derived.LoopIn
import Derived.Maps.AppendAt
import Derived.Test.YthdaaiafakijdaaProg
import Derived.Shelf.Sort.Plain
import Derived.Shelf.Slices.In.SortNone
import Derived.Shelf.Slices.CompactI
import Derived.Ground.NamesProg
import Derived.Ground.Names2Prog
import Derived.Sort.OwnSorted
import Derived.Shelf.SlIterI.Sorted
import Derived.Deep.RegionLaw
import Derived.Test.YthdaaiafakijdaaRows
set_option linter.unusedVariables false
set_option linter.unusedSimpArgs false
set_option linter.unusedSectionVars false
namespace Go.Sh
abbrev Nr := List (Int × List Int)
abbrev Th := List (List Int × Int)
def encN (N : Nr) : List (Int × Flat) := N.map fun p => (p.1, ints p.2)
def nget : Nr -> Int -> List Int
 | [], _ => []
 | (k, v) :: r, x => if k = x then v else nget r x
def nput : Nr -> Int -> List Int -> Nr
 | [], x, v => [(x, v)]
 | (k, u) :: r, x, v => if k = x then (k, v) :: r else (k, u) :: nput r x v
theorem fget_enc (N : Nr) (x : Int) : fget (encN N) x = ints (nget N x) := by
 induction N with
 | nil => rfl
 | cons p r ih =>
  obtain ⟨k, v⟩ := p;simp only [encN, List.map_cons, fget, nget] at ih ⊢;by_cases h : k = x
  ·rw [if_pos h, if_pos h]
  ·rw [if_neg h, if_neg h, ih]
theorem fput_enc (N : Nr) (x : Int) (v : List Int) : fput (encN N) x (ints v) = encN (nput N x v) := by
 induction N with
 | nil => rfl
 | cons p r ih =>
  obtain ⟨k, u⟩ := p;simp only [encN, List.map_cons, fput, nput] at ih ⊢;by_cases h : k = x
  ·rw [if_pos h, if_pos h]; rfl
  ·rw [if_neg h, if_neg h, ih]; rfl
theorem nget_put (N : Nr) (x y : Int) (v : List Int) : nget (nput N x v) y = if x = y then v else nget N y := by
 induction N with
 | nil => simp [nput, nget]
 | cons p r ih =>
  obtain ⟨k, u⟩ := p;simp only [nput];by_cases hk : k = x
  ·subst hk;rw [if_pos rfl];simp only [nget];split <;> rfl
  ·rw [if_neg hk];simp only [nget, ih];by_cases h1 : k = y
   ·subst h1; rw [if_pos rfl, if_neg (Ne.symm hk), if_pos rfl]
   ·rw [if_neg h1, if_neg h1]
theorem mapHas_put (l : Th) (x y : List Int) (v : Int) : mapHas (mapPut l x v) y = (decide (x = y) || mapHas l y) := by
 induction l with
 | nil => by_cases h : x = y <;> simp [mapPut, mapHas, h]
 | cons p r ih =>
  obtain ⟨k, u⟩ := p;simp only [mapPut];by_cases hk : k = x
  ·subst hk;rw [if_pos rfl];by_cases h : k = y <;> simp [mapHas, h]
  ·rw [if_neg hk];simp only [mapHas, ih];by_cases h1 : k = y
   ·subst h1; simp
   ·simp [h1]
def keyE (p : Ed) : List Int := [p.1, p.2]
theorem keyE_inj {p q : Ed} : keyE p = keyE q ↔ p = q := by
 unfold keyE
 simp
 exact ⟨fun h => Prod.ext h.1 h.2, fun h => by rw [h]; exact ⟨rfl, rfl⟩⟩
theorem pairF_comm (a b : Int) : pairF a b = pairF b a := by
 unfold pairF
 by_cases h : b < a
 ·rw [if_pos h, if_neg (show ¬ b > a by omega), if_neg (show ¬ a < b by omega), if_pos (show a > b by omega)]
 ·by_cases h2 : a < b
  ·rw [if_neg h, if_pos (show b > a by omega), if_pos h2, if_neg (show ¬ a > b by omega)]
  ·have : a = b := by omega
   subst this; rfl
theorem pairF_le {a b : Int} (h : a <= b) : pairF a b = (a, b) := by
 unfold pairF
 rw [if_neg (by omega)]
 by_cases h2 : b > a
 ·rw [if_pos h2]
 ·rw [if_neg h2]; have : a = b := by omega
  rw [this]
theorem pairF_ge {a b : Int} (h : b <= a) : pairF a b = (b, a) := by rw [pairF_comm, pairF_le h]
theorem pairF_inj {a b c d : Int} : pairF a b = pairF c d ↔ (a = c /\ b = d) \/ (a = d /\ b = c) := by
 rcases Int.le_total a b with h | h <;> rcases Int.le_total c d with k | k <;>
  (first | rw [pairF_le h] | rw [pairF_ge h]) <;> (first | rw [pairF_le k] | rw [pairF_ge k]) <;> simp only [Prod.mk.injEq] <;> omega
theorem pairF_lt {a b : Int} (h : a ≠ b) : (pairF a b).1 < (pairF a b).2 := by
 rcases Int.le_total a b with k | k
 ·rw [pairF_le k]; show a < b; omega
 ·rw [pairF_ge k]; show b < a; omega
theorem pairF_two (a b : Int) : ((pairF a b).1 = a /\ (pairF a b).2 = b) \/ ((pairF a b).1 = b /\ (pairF a b).2 = a) := by
 rcases Int.le_total a b with k | k
 ·rw [pairF_le k]; exact .inl ⟨rfl, rfl⟩
 ·rw [pairF_ge k]; exact .inr ⟨rfl, rfl⟩
theorem pairF_self (p : Ed) (h : p.1 < p.2) : pairF p.1 p.2 = p := pairF_le (by omega)
theorem pairF_idem (a b : Int) : pairF (pairF a b).1 (pairF a b).2 = pairF a b := by
 refine pairF_le ?_
 rcases Int.le_total a b with k | k
 ·rw [pairF_le k]; exact k
 ·rw [pairF_ge k]; exact k
def stT : List Ed -> Th
 | [] => []
 | x :: r => mapPut (stT r) (keyE x) (r.length : Nat)
def stN : List Ed -> Nr
 | [] => []
 | x :: r => nput (nput (stN r) x.1 (nget (stN r) x.1 ++ [x.2])) x.2 (nget (nput (stN r) x.1 (nget (stN r) x.1 ++ [x.2])) x.2 ++ [x.1])
theorem stN_near {n : Int} : ∀ {r : List Ed}, (∀ p ∈ r, okE n p) -> ∀ v, nget (stN r) v = nearL r.reverse v := by
 intro r
 induction r with
 | nil => intro _ v; rfl
 | cons x r ih =>
  intro h v;have ih := ih fun p hp => h p (List.mem_cons_of_mem _ hp)
  have hx := h x List.mem_cons_self;unfold okE at hx;rw [List.reverse_cons, nearL_snoc];simp only [stN, nget_put, ih];unfold nearX;by_cases h1 : x.1 = v
  ·have h2 : x.2 ≠ v := by omega
   rw [if_neg h2, if_pos h1, if_pos h1, if_neg h2, h1]; simp
  ·by_cases h2 : x.2 = v
   ·rw [if_pos h2, if_neg (show ¬ x.1 = x.2 by omega), if_neg h1, if_pos h2, h2]; simp
   ·rw [if_neg h2, if_neg h1, if_neg h1, if_neg h2]; simp
theorem stT_has : ∀ {r : List Ed} {e : Ed}, mapHas (stT r) (keyE e) = true ↔ e ∈ r := by
 intro r
 induction r with
 | nil => intro e; simp [stT, mapHas]
 | cons x r ih =>
  intro e;simp only [stT, mapHas_put, Bool.or_eq_true, ih, decide_eq_true_eq, keyE_inj, List.mem_cons];exact or_congr eq_comm Iff.rfl
structure Sp where
 left : List Int
 near : Nr
 thing : Th
 out : List Nd
def cutV (v : Int) (N : Nr) (x : Int) : Nr := nput N x ((nget N x).erase v)
def cutsV (v : Int) (l : List Int) (N : Nr) : Nr := l.foldl (cutV v) N
theorem cuts_get {v : Int} : ∀ {l : List Int} {N : Nr}, l.Nodup -> ∀ {u : Int}, nget (cutsV v l N) u = if u ∈ l then (nget N u).erase v else nget N u := by
 intro l
 induction l with
 | nil => intro N _ u; simp [cutsV]
 | cons x l ih =>
  intro N hn u;have hn := List.nodup_cons.1 hn;show nget (cutsV v l (cutV v N x)) u = _
  rw [ih hn.2];unfold cutV;rw [nget_put];by_cases hu : u = x
  ·subst hu;rw [if_neg hn.1, if_pos rfl, if_pos List.mem_cons_self]
  ·rw [if_neg (Ne.symm hu)];by_cases hm : u ∈ l
   ·rw [if_pos hm, if_pos (List.mem_cons_of_mem _ hm)]
   ·rw [if_neg hm, if_neg (by simp [hu, hm])]
def joinN (N : Nr) (a b : Int) : Nr := nput (nput N a (nget N a ++ [b])) b (nget (nput N a (nget N a ++ [b])) b ++ [a])
theorem join_get {N : Nr} {a b u : Int} (h : a ≠ b) : nget (joinN N a b) u = if u = a then nget N a ++ [b] else if u = b then nget N b ++ [a] else nget N u := by
 unfold joinN
 rw [nget_put, nget_put, nget_put]
 by_cases h1 : u = a
 ·subst h1; rw [if_pos rfl, if_neg (Ne.symm h), if_pos rfl]
 ·by_cases h2 : u = b
  ·subst h2; rw [if_pos rfl, if_neg h1, if_pos rfl, if_neg h]
  ·rw [if_neg (Ne.symm h2), if_neg (Ne.symm h1), if_neg h1, if_neg h2]
def endsS (s : Sp) (v : Int) : Ed := pairF ((nget s.near v).getD 0 0) ((nget s.near v).getD 1 0)
def stepS (m : Nat) (s : Sp) (k : Nat) : Sp :=
 let v := s.left.getD k 0
 let e := endsS s v
 let N1 := cutsV v (nget s.near v) s.near
 let o1 := s.out ++ [((1, mapGet s.thing (keyE (pairF v e.1)), mapGet s.thing (keyE (pairF v e.2))) : Nd)]
 if mapHas s.thing (keyE e) = true then
  { left := s.left.eraseIdx k, near := N1, thing := mapPut s.thing (keyE e) ((m : Int) + (o1.length : Int)), out := o1 ++ [(2, mapGet s.thing (keyE e), (m : Int) + (o1.length : Int) - 1)] }
 else { left := s.left.eraseIdx k, near := joinN N1 e.1 e.2, thing := mapPut s.thing (keyE e) ((m : Int) + (o1.length : Int) - 1), out := o1 }
def pickS (s : Sp) : Option Nat := s.left.findIdx? fun v => decide ((nget s.near v).length = 2)
def runSp (c : Int) (m : Nat) : Nat -> Sp -> List Nd × Int
 | 0, s => (s.out, 0)
 | f + 1, s => if s.left.length <= 2 then (s.out, 0) else match pickS s with
  | none => ([], c)
  | some k => runSp c m f (stepS m s k)
theorem runSp_stop {c : Int} {m f : Nat} {s : Sp} (h : s.left.length <= 2) : runSp c m f s = (s.out, 0) := by
 cases f with
 | zero => rfl
 | succ f => exact if_pos h
structure SpI (s : Sp) : Prop where
 nl : s.left.Nodup
 nd : ∀ v ∈ s.left, (nget s.near v).Nodup
 sym : ∀ v ∈ s.left, ∀ x ∈ nget s.near v, x ∈ s.left /\ x ≠ v /\ v ∈ nget s.near x
 th : ∀ a ∈ s.left, ∀ b ∈ s.left, a ≠ b -> (mapHas s.thing (keyE (pairF a b)) = true ↔ b ∈ nget s.near a)
structure PickP (s : Sp) (k : Nat) (v p q : Int) : Prop where
 at_ : s.left[k]? = some v
 near : nget s.near v = [p, q]
 mem : v ∈ s.left
 pm : p ∈ s.left
 qm : q ∈ s.left
 pv : p ≠ v
 qv : q ≠ v
 pq : p ≠ q
 vp : v ∈ nget s.near p
 vq : v ∈ nget s.near q
theorem SpI.pick {s : Sp} (h : SpI s) {k : Nat} (hk : pickS s = some k) : ∃ v p q, PickP s k v p q := by
 obtain ⟨hlt, hp, -⟩ := List.findIdx?_eq_some_iff_getElem.1 hk
 have hp := of_decide_eq_true hp
 have hm : s.left[k] ∈ s.left := List.getElem_mem hlt
 obtain ⟨p, q, hpq⟩ : ∃ p q, nget s.near s.left[k] = [p, q] := by
  match hh : nget s.near s.left[k], hp with
  | [p, q], _ => exact ⟨p, q, rfl⟩
 have hn := h.nd _ hm
 rw [hpq] at hn
 obtain ⟨p1, p2, p3⟩ := h.sym _ hm p (by rw [hpq]; simp)
 obtain ⟨q1, q2, q3⟩ := h.sym _ hm q (by rw [hpq]; simp)
 exact ⟨s.left[k], p, q, ⟨qEq hlt, hpq, hm, p1, q1, p2, q2, by simp at hn; exact hn, p3, q3⟩⟩
theorem eraseIdx_erase {l : List Int} {k : Nat} {v : Int} (hn : l.Nodup) (h : l[k]? = some v) : l.eraseIdx k = l.erase v := by
 obtain ⟨hk, rfl⟩ := qSq.1 h
 have h : l = l.take k ++ l[k] :: l.drop (k + 1) := by rw [<- List.drop_eq_getElem_cons hk, List.take_append_drop]
 obtain ⟨x, hx⟩ : ∃ x, l[k] = x := ⟨_, rfl⟩
 rw [hx] at h ⊢
 have hm : x ∉ l.take k := fun hm => by
  rw [h, List.nodup_append] at hn;exact hn.2.2 x hm x (by simp) rfl
 rw [List.eraseIdx_eq_take_drop_succ]
 conv => rhs; rw [h]
 rw [List.erase_append_right _ hm, List.erase_cons_head]
theorem SpI.step {s : Sp} (h : SpI s) (m : Nat) {k : Nat} {v p q : Int} (hp : PickP s k v p q) : SpI (stepS m s k) /\ (stepS m s k).left = s.left.erase v /\ (stepS m s k).left.length + 1 = s.left.length := by
 have hv : s.left.getD k 0 = v := by rw [qDq, hp.at_]; rfl
 have hE := eraseIdx_erase h.nl hp.at_
 have hmem : ∀ {x : Int}, x ∈ s.left.erase v ↔ x ∈ s.left /\ x ≠ v := fun {x} => by rw [h.nl.mem_erase_iff]; exact And.comm
 have hlen : (s.left.erase v).length + 1 = s.left.length := by
  have := List.length_erase_of_mem hp.mem;have : 0 < s.left.length := List.length_pos_of_mem hp.mem;omega
 have hends : endsS s v = pairF p q := by unfold endsS; rw [hp.near]; rfl
 have hnpq : [p, q].Nodup := by simp [hp.pq]
 have hN1 : ∀ u, nget (cutsV v (nget s.near v) s.near) u = if u = p \/ u = q then (nget s.near u).erase v else nget s.near u := fun u => by
  rw [hp.near, cuts_get hnpq];by_cases hu : u = p \/ u = q
  ·rw [if_pos (by simpa using hu), if_pos hu]
  ·rw [if_neg (by simpa using hu), if_neg hu]
 have hadj : ∀ {u x : Int}, u ∈ s.left -> u ≠ v -> (x ∈ nget (cutsV v (nget s.near v) s.near) u ↔ x ∈ nget s.near u /\ x ≠ v) := fun {u x} hu huv => by
  rw [hN1];by_cases hu2 : u = p \/ u = q
  ·rw [if_pos hu2, (h.nd u hu).mem_erase_iff]; exact And.comm
  ·rw [if_neg hu2];refine ⟨fun hx => ⟨hx, fun e => ?_⟩, And.left⟩;subst e;have := (h.sym u hu x hx).2.2;rw [hp.near] at this;exact hu2 (by simpa using this)
 have hnd1 : ∀ u ∈ s.left, (nget (cutsV v (nget s.near v) s.near) u).Nodup := fun u hu => by
  rw [hN1]; split
  ·exact (h.nd u hu).erase v
  ·exact h.nd u hu
 have hpair : keyE (endsS s v) = keyE (pairF p q) := by rw [hends]
 have hpv : p ∈ s.left.erase v := hmem.2 ⟨hp.pm, hp.pv⟩
 have hqv : q ∈ s.left.erase v := hmem.2 ⟨hp.qm, hp.qv⟩
 have hthpq := h.th p hp.pm q hp.qm hp.pq
 by_cases hc : mapHas s.thing (keyE (endsS s v)) = true
 ·have hst : stepS m s k = { left := s.left.erase v, near := cutsV v (nget s.near v) s.near, thing := mapPut s.thing (keyE (endsS s v)) ((m : Int) + ((s.out ++ [((1, mapGet s.thing (keyE (pairF v (endsS s v).1)), mapGet s.thing (keyE (pairF v (endsS s v).2))) : Nd)]).length : Int)), out := (s.out ++ [((1, mapGet s.thing (keyE (pairF v (endsS s v).1)), mapGet s.thing (keyE (pairF v (endsS s v).2))) : Nd)]) ++ [(2, mapGet s.thing (keyE (endsS s v)), (m : Int) + ((s.out ++ [((1, mapGet s.thing (keyE (pairF v (endsS s v).1)), mapGet s.thing (keyE (pairF v (endsS s v).2))) : Nd)]).length : Int) - 1)] } := by
   unfold stepS;simp only [hv, hE];rw [if_pos hc]
  rw [hst];rw [hpair] at hc;have hpq : q ∈ nget s.near p := hthpq.1 hc;refine ⟨⟨h.nl.erase v, fun u hu => hnd1 u (hmem.1 hu).1, fun u hu x hx => ?_, fun a ha b hb hab => ?_⟩, rfl, hlen⟩
  ·obtain ⟨hu1, hu2⟩ := hmem.1 hu;obtain ⟨hx1, hx2⟩ := (hadj hu1 hu2).1 hx;obtain ⟨y1, y2, y3⟩ := h.sym u hu1 x hx1;exact ⟨hmem.2 ⟨y1, hx2⟩, y2, (hadj y1 hx2).2 ⟨y3, hu2⟩⟩
  ·obtain ⟨a1, a2⟩ := hmem.1 ha;obtain ⟨b1, b2⟩ := hmem.1 hb;show mapHas (mapPut _ _ _) _ = true ↔ _
   rw [mapHas_put, hpair, Bool.or_eq_true, decide_eq_true_eq, keyE_inj, pairF_inj, h.th a a1 b b1 hab, hadj a1 a2];refine ⟨fun hx => ?_, fun hx => .inr hx.1⟩;rcases hx with (⟨rfl, rfl⟩ | ⟨rfl, rfl⟩) | hx
   ·exact ⟨hpq, b2⟩
   ·exact ⟨(h.sym p hp.pm q hpq).2.2, b2⟩
   ·exact ⟨hx, b2⟩
 ·have hst : stepS m s k = { left := s.left.erase v, near := joinN (cutsV v (nget s.near v) s.near) (endsS s v).1 (endsS s v).2, thing := mapPut s.thing (keyE (endsS s v)) ((m : Int) + ((s.out ++ [((1, mapGet s.thing (keyE (pairF v (endsS s v).1)), mapGet s.thing (keyE (pairF v (endsS s v).2))) : Nd)]).length : Int) - 1), out := s.out ++ [((1, mapGet s.thing (keyE (pairF v (endsS s v).1)), mapGet s.thing (keyE (pairF v (endsS s v).2))) : Nd)] } := by
   unfold stepS;simp only [hv, hE];rw [if_neg hc]
  rw [hst];rw [hpair] at hc;have hpq : ¬ q ∈ nget s.near p := fun k => hc (hthpq.2 k)
  have hqp : ¬ p ∈ nget s.near q := fun k => hpq (h.sym q hp.qm p k).2.2
  have hj : ∀ u, nget (joinN (cutsV v (nget s.near v) s.near) (endsS s v).1 (endsS s v).2) u = if u = p then nget (cutsV v (nget s.near v) s.near) p ++ [q] else if u = q then nget (cutsV v (nget s.near v) s.near) q ++ [p] else nget (cutsV v (nget s.near v) s.near) u := fun u => by
   rw [hends];have hne := hp.pq;rcases pairF_two p q with ⟨e1, e2⟩ | ⟨e1, e2⟩
   ·rw [e1, e2, join_get hne]
   ·rw [e1, e2, join_get (Ne.symm hne)];by_cases u1 : u = p
    ·rw [if_pos u1, if_neg (by rw [u1]; exact hne), if_pos u1]
    ·by_cases u2 : u = q
     ·rw [if_pos u2, if_neg u1, if_pos u2]
     ·rw [if_neg u2, if_neg u1, if_neg u1, if_neg u2]
  have hadj2 : ∀ {u x : Int}, u ∈ s.left -> u ≠ v -> (x ∈ nget (joinN (cutsV v (nget s.near v) s.near) (endsS s v).1 (endsS s v).2) u ↔ (x ∈ nget s.near u /\ x ≠ v) \/ (u = p /\ x = q) \/ (u = q /\ x = p)) := fun {u x} hu huv => by
   have hne := hp.pq;rw [hj];by_cases u1 : u = p
   ·subst u1;rw [if_pos rfl, List.mem_append, hadj hu huv, List.mem_singleton];constructor
    ·rintro (h | h)
     ·exact .inl h
     ·exact .inr (.inl ⟨rfl, h⟩)
    ·rintro (h | ⟨_, h⟩ | ⟨h, _⟩)
     ·exact .inl h
     ·exact .inr h
     ·exact absurd h hne
   ·rw [if_neg u1];by_cases u2 : u = q
    ·subst u2;rw [if_pos rfl, List.mem_append, hadj hu huv, List.mem_singleton];constructor
     ·rintro (h | h)
      ·exact .inl h
      ·exact .inr (.inr ⟨rfl, h⟩)
     ·rintro (h | ⟨h, _⟩ | ⟨_, h⟩)
      ·exact .inl h
      ·exact absurd h u1
      ·exact .inr h
    ·rw [if_neg u2, hadj hu huv];constructor
     ·exact .inl
     ·rintro (h | ⟨h, _⟩ | ⟨h, _⟩)
      ·exact h
      ·exact absurd h u1
      ·exact absurd h u2
  refine ⟨⟨h.nl.erase v, fun u hu => ?_, fun u hu x hx => ?_, fun a ha b hb hab => ?_⟩, rfl, hlen⟩
  ·obtain ⟨hu1, hu2⟩ := hmem.1 hu;show (nget (joinN _ _ _) u).Nodup
   rw [hj];have ap : ∀ {y : Int} {w : Int}, w ∈ s.left -> w ≠ v -> y ∉ nget s.near w -> (nget (cutsV v (nget s.near v) s.near) w ++ [y]).Nodup := fun {y w} hw hwv hy => by
    refine List.nodup_append.2 ⟨hnd1 w hw, by simp, fun a ha b hb => ?_⟩;simp at hb;subst hb;rintro rfl;exact hy ((hadj hw hwv).1 ha).1
   split
   ·exact ap hp.pm hp.pv hpq
   ·split
    ·exact ap hp.qm hp.qv hqp
    ·exact hnd1 u hu1
  ·obtain ⟨hu1, hu2⟩ := hmem.1 hu;have hne := hp.pq;rcases (hadj2 hu1 hu2).1 hx with ⟨hx1, hx2⟩ | ⟨rfl, rfl⟩ | ⟨rfl, rfl⟩
   ·obtain ⟨y1, y2, y3⟩ := h.sym u hu1 x hx1;exact ⟨hmem.2 ⟨y1, hx2⟩, y2, (hadj2 y1 hx2).2 (.inl ⟨y3, hu2⟩)⟩
   ·exact ⟨hqv, Ne.symm hne, (hadj2 hp.qm hp.qv).2 (.inr (.inr ⟨rfl, rfl⟩))⟩
   ·exact ⟨hpv, hne, (hadj2 hp.pm hp.pv).2 (.inr (.inl ⟨rfl, rfl⟩))⟩
  ·obtain ⟨a1, a2⟩ := hmem.1 ha;obtain ⟨b1, b2⟩ := hmem.1 hb;show mapHas (mapPut _ _ _) _ = true ↔ _
   rw [mapHas_put, hpair, Bool.or_eq_true, decide_eq_true_eq, keyE_inj, pairF_inj, h.th a a1 b b1 hab, hadj2 a1 a2];constructor
   ·rintro ((⟨rfl, rfl⟩ | ⟨rfl, rfl⟩) | hx)
    ·exact .inr (.inl ⟨rfl, rfl⟩)
    ·exact .inr (.inr ⟨rfl, rfl⟩)
    ·exact .inl ⟨hx, b2⟩
   ·rintro (⟨hx, _⟩ | ⟨rfl, rfl⟩ | ⟨rfl, rfl⟩)
    ·exact .inr hx
    ·exact .inl (.inl ⟨rfl, rfl⟩)
    ·exact .inl (.inr ⟨rfl, rfl⟩)
def startS (E : List Ed) (l : List Int) : Sp := { left := sortI l, near := stN (withL l E).reverse, thing := stT (withL l E).reverse, out := [] }
theorem with_mem {l : List Int} {E : List Ed} {a b : Int} : adjE (withL l E) a b ↔ adjE E a b /\ a ∈ l /\ b ∈ l := by
 unfold adjE withL ownP
 simp only [List.mem_filter, Bool.and_eq_true, List.elem_eq_mem, decide_eq_true_eq]
 constructor
 ·rintro (⟨h, h1, h2⟩ | ⟨h, h1, h2⟩)
  ·exact ⟨.inl h, h1, h2⟩
  ·exact ⟨.inr h, h2, h1⟩
 ·rintro ⟨h | h, h1, h2⟩
  ·exact .inl ⟨h, h1, h2⟩
  ·exact .inr ⟨h, h2, h1⟩
theorem withL_ok {n : Int} {l : List Int} {E : List Ed} (hR : RightP n E) : (∀ p ∈ withL l E, okE n p) /\ (withL l E).Pairwise ltE := ⟨fun p hp => hR.2.2.2.1 p (List.mem_filter.1 hp).1, hR.2.2.2.2.filter _⟩
theorem start_near {n : Int} {l : List Int} {E : List Ed} (hR : RightP n E) (v : Int) : nget (startS E l).near v = nearL (withL l E) v := by
 have := stN_near (r := (withL l E).reverse) (n := n) (fun p hp => (withL_ok hR).1 p (by simpa using hp)) v
 rw [List.reverse_reverse] at this
 exact this
theorem adj_ne {n : Int} {E : List Ed} (hR : RightP n E) {a b : Int} (h : adjE E a b) : a ≠ b := by
 rintro rfl
 rcases h with h | h <;> have := hR.2.2.2.1 _ h <;> unfold okE at this <;> omega
theorem start_ok {n : Int} {l : List Int} {E : List Ed} (hR : RightP n E) (hl : l.Nodup) : SpI (startS E l) := by
 have hm : ∀ {x : Int}, x ∈ (startS E l).left ↔ x ∈ l := fun {x} => (List.mergeSort_perm l _).mem_iff
 refine ⟨(List.mergeSort_perm l _).nodup_iff.2 hl, fun v hv => ?_, fun v hv x hx => ?_, fun a ha b hb hab => ?_⟩
 ·rw [start_near hR];exact (near_sorted (withL_ok hR).1 (withL_ok hR).2).imp fun h => by omega
 ·rw [start_near hR, mem_nearL] at hx;obtain ⟨h1, h2, h3⟩ := with_mem.1 hx;refine ⟨hm.2 h3, Ne.symm (adj_ne hR h1), ?_⟩;rw [start_near hR, mem_nearL];exact Or.symm hx
 ·rw [start_near hR, mem_nearL];show mapHas (stT _) _ = true ↔ _
  rw [stT_has, List.mem_reverse];unfold adjE;have key : ∀ {x y : Int}, x < y -> (pairF x y ∈ withL l E ↔ (x, y) ∈ withL l E \/ (y, x) ∈ withL l E) := fun {x y} hxy => by
   rw [pairF_le (by omega)];refine ⟨.inl, fun h => ?_⟩;rcases h with h | h
   ·exact h
   ·have := (withL_ok hR).1 _ h;unfold okE at this;omega
  rcases Int.lt_or_lt_of_ne hab with h | h
  ·exact key h
  ·rw [pairF_comm, key h]; exact or_comm
end Go.Sh
namespace Go.Sh
open Go.Proofs
theorem nodup_len {l : List Int} : ∀ {m : List Int}, l.Nodup -> (∀ x ∈ l, x ∈ m) -> l.length <= m.length := by
 induction l with
 | nil => intro m _ _; simp
 | cons x l ih =>
  intro m h s;rw [List.nodup_cons] at h;have hx := s x (by simp);have := ih (m := m.erase x) h.2 fun y hy => (List.mem_erase_of_ne (fun (e : y = x) => h.1 (by rw [<- e]; exact hy))).2 (s y (by simp [hy]))
  rw [List.length_erase_of_mem hx] at this;have := List.length_pos_of_mem hx;simp; omega
end Go.Sh
namespace Go.Sh
open Go.Proofs Go.RowKit
attribute [local go_sem] Oper.semAt_some
end Go.Sh
namespace Go.Sh
section
variable {n : Nat} {N : List (List Int)} {G I : List Bool} {M : List (List Bool)}
end
end Go.Sh
namespace Go.Sh
end Go.Sh
namespace Go.Sh
section
variable {n : Int} {E : List Ed} {l : List Int}
theorem idx_get {v : Int} (hv : v ∈ l) : l[l.idxOf v]? = some v := by
 have h := List.idxOf_lt_length_of_mem hv
 rw [qEq h, List.getElem_idxOf h]
theorem idx_inj {a b : Int} (ha : a ∈ l) (hb : b ∈ l) (h : l.idxOf a = l.idxOf b) : a = b := by
 have h1 := idx_get ha
 have h2 := idx_get hb
 rw [h, h2] at h1
 injection h1 with h1
 exact h1.symm
theorem idx_of {i : Nat} (hn : l.Nodup) (hi : i < l.length) : l.idxOf l[i] = i := hn.idxOf_getElem i hi
theorem edN_two {x y : Int} {p : Ed} (h : (x, y) = edN p) : (x = p.1 /\ y = p.2) \/ (x = p.2 /\ y = p.1) := by
 unfold edN mnI mxI at h
 injection h with h1 h2
 split at h1 <;> split at h2 <;> first | omega | exact .inl ⟨h1, h2⟩ | exact .inr ⟨h1, h2⟩
theorem edN_adj {L : List Ed} {p : Ed} (hp : p ∈ L) (hne : p.1 ≠ p.2) : adjE (normE L) p.1 p.2 := by
 have h : edN p ∈ normE L := mem_normE.2 ⟨p, hp, hne, rfl⟩
 have : edN p = (p.1, p.2) \/ edN p = (p.2, p.1) := by
  unfold edN mnI mxI;by_cases h : p.1 < p.2
  ·simp [h]; omega
  ·simp [h]; omega
 rcases this with e | e
 ·exact .inl (e ▸ h)
 ·exact .inr (e ▸ h)
theorem own_adj (hR : RightP n E) {a b : Int} (ha : a ∈ l) (hb : b ∈ l) : adjE (normE (ownG l E)) ((l.idxOf a : Nat) : Int) ((l.idxOf b : Nat) : Int) ↔ adjE E a b := by
 have hmem : ∀ p, p ∈ ownG l E ↔ ∃ e ∈ E, e.1 ∈ l /\ e.2 ∈ l /\ p = (((l.idxOf e.1 : Nat) : Int), ((l.idxOf e.2 : Nat) : Int)) := fun p => by
  unfold ownG ownP;rw [List.mem_map];constructor
  ·rintro ⟨e, he, rfl⟩;obtain ⟨h1, h2⟩ := List.mem_filter.1 he;simp only [Bool.and_eq_true, List.elem_eq_mem, decide_eq_true_eq] at h2;exact ⟨e, h1, h2.1, h2.2, rfl⟩
  ·rintro ⟨e, h1, h2, h3, rfl⟩;exact ⟨e, List.mem_filter.2 ⟨h1, by simp [h2, h3]⟩, rfl⟩
 have key : ∀ x y : Int, x ∈ l -> y ∈ l -> (((l.idxOf x : Nat) : Int), ((l.idxOf y : Nat) : Int)) ∈ normE (ownG l E) -> adjE E x y := fun x y hx hy h => by
  obtain ⟨p, hp, hne, he⟩ := mem_normE.1 h;obtain ⟨e, h1, h2, h3, rfl⟩ := (hmem p).1 hp;rcases edN_two he with ⟨q1, q2⟩ | ⟨q1, q2⟩
  ·have e1 := idx_inj hx h2 (by dsimp only at q1; omega);have e2 := idx_inj hy h3 (by dsimp only at q2; omega);rw [e1, e2]; exact .inl h1
  ·have e1 := idx_inj hx h3 (by dsimp only at q1; omega);have e2 := idx_inj hy h2 (by dsimp only at q2; omega);rw [e1, e2]; exact .inr h1
 constructor
 ·rintro (h | h)
  ·exact key a b ha hb h
  ·exact (key b a hb ha h).symm
 ·have fwd : ∀ x y : Int, x ∈ l -> y ∈ l -> (x, y) ∈ E -> adjE (normE (ownG l E)) ((l.idxOf x : Nat) : Int) ((l.idxOf y : Nat) : Int) := fun x y hx hy h => by
   have hok := hR.2.2.2.1 _ h;unfold okE at hok;refine edN_adj (p := (((l.idxOf x : Nat) : Int), ((l.idxOf y : Nat) : Int))) ((hmem _).2 ⟨(x, y), h, hx, hy, rfl⟩) fun e => ?_
   have := idx_inj hx hy (by dsimp only at e; omega);dsimp only at hok;omega
  rintro (h | h)
  ·exact fwd a b ha hb h
  ·exact (fwd b a hb ha h).symm
def nearO (l : List Int) (E : List Ed) : List (List Int) := nbrs l.length (normE (ownG l E))
theorem okO {v : Int} : okD (nearO l E) v ↔ 0 <= v /\ v < l.length := ok_nbrs
theorem nbO {v w : Int} (hv : okD (nearO l E) v) : w ∈ nbD (nearO l E) v ↔ adjE (normE (ownG l E)) v w := by
 unfold nearO at hv ⊢
 rw [nbD_nbrs hv]; exact mem_nearL
theorem rch_iff (hR : RightP n E) (hn : l.Nodup) (hG : GraphD (nearO l E)) {k : List Int} (hk : ∀ x ∈ k, x ∈ l) {a b : Int} (ha : a ∈ k) (hb : b ∈ k) :
  Rch E k a b ↔ RchD (nearO l E) (fun i => ∃ v ∈ k, i = ((l.idxOf v : Nat) : Int)) ((l.idxOf a : Nat) : Int) ((l.idxOf b : Nat) : Int) := by
 have hok : ∀ v ∈ k, okD (nearO l E) ((l.idxOf v : Nat) : Int) := fun v hv => okO.2 ⟨by omega, by have := List.idxOf_lt_length_of_mem (hk v hv); omega⟩
 constructor
 ·intro h;have : ∀ {b : Int}, Rch E k a b -> b ∈ k /\ RchD (nearO l E) (fun i => ∃ v ∈ k, i = ((l.idxOf v : Nat) : Int)) ((l.idxOf a : Nat) : Int) ((l.idxOf b : Nat) : Int) := by
   intro b h
   induction h with
   | base => exact ⟨ha, .refl ⟨a, ha, rfl⟩⟩
   | step _ h2 h3 ih => exact ⟨h3, ih.2.trans (.one ⟨_, ih.1, rfl⟩ ⟨_, h3, rfl⟩ ((nbO (hok _ ih.1)).2 ((own_adj hR (hk _ ih.1) (hk _ h3)).2 h2)))⟩
  exact (this h).2
 ·intro h;have : ∀ {i j : Int}, RchD (nearO l E) (fun i => ∃ v ∈ k, i = ((l.idxOf v : Nat) : Int)) i j -> ∀ {c x y : Int}, Rch E k c x -> x ∈ k -> i = ((l.idxOf x : Nat) : Int) -> y ∈ k -> j = ((l.idxOf y : Nat) : Int) -> Rch E k c y := by
   intro i j h
   induction h with
   | refl _ =>
    intro c x y h1 h2 e1 h3 e2;have := idx_inj (hk x h2) (hk y h3) (by omega);rw [<- this]; exact h1
   | step _ hb hr ih =>
    intro c x y h1 h2 e1 h3 e2;obtain ⟨z, hz, ez⟩ := hr.left;subst e1;rw [ez] at hb;have hadj := (own_adj hR (hk x h2) (hk z hz)).1 ((nbO (hok x h2)).1 hb);exact ih (.step h1 hadj hz) hz ez h3 e2
  exact this h .base ha rfl hb rfl
theorem img_all (hn : l.Nodup) {i : Int} : okD (nearO l E) i ↔ ∃ v ∈ l, i = ((l.idxOf v : Nat) : Int) := by
 rw [okO]
 constructor
 ·rintro ⟨h0, h1⟩;have hi : i.toNat < l.length := by omega
  exact ⟨l[i.toNat], List.getElem_mem _, by rw [idx_of hn hi]; omega⟩
 ·rintro ⟨v, hv, rfl⟩;have := List.idxOf_lt_length_of_mem hv;omega
theorem img_but (hn : l.Nodup) {c : Int} (hc : c ∈ l) {i : Int} : (okD (nearO l E) i /\ i ≠ ((l.idxOf c : Nat) : Int)) ↔ ∃ v ∈ l.erase c, i = ((l.idxOf v : Nat) : Int) := by
 rw [img_all hn]
 constructor
 ·rintro ⟨⟨v, hv, rfl⟩, hne⟩;exact ⟨v, (List.mem_erase_of_ne (fun e => hne (by rw [e]))).2 hv, rfl⟩
 ·rintro ⟨v, hv, rfl⟩;have h := (hn.mem_erase_iff).1 hv;exact ⟨⟨v, h.2, rfl⟩, fun e => h.1 (idx_inj h.2 hc (by omega))⟩
def AllC (E : List Ed) (k : List Int) : Prop := ∀ a ∈ k, ∀ b ∈ k, Rch E k a b
theorem bic_iff (hR : RightP n E) (hn : l.Nodup) (hG : GraphD (nearO l E)) : Bic (nearO l E) ↔ AllC E l /\ ∀ c ∈ l, AllC E (l.erase c) := by
 have h1 : ∀ x, (∃ v ∈ l, x = ((l.idxOf v : Nat) : Int)) ↔ okD (nearO l E) x := fun x => (img_all hn).symm
 constructor
 ·intro hB;refine ⟨fun a ha b hb => (rch_iff hR hn hG (fun _ h => h) ha hb).2 ((hB.1 _ _ ((h1 _).1 ⟨a, ha, rfl⟩) ((h1 _).1 ⟨b, hb, rfl⟩)).mono fun x hx => (h1 x).2 hx), fun c hc a ha b hb => ?_⟩;have m : ∀ x ∈ l.erase c, x ∈ l := fun x hx => List.mem_of_mem_erase hx
  have ia := (img_but (E := E) hn hc).2 ⟨a, ha, rfl⟩;have ib := (img_but (E := E) hn hc).2 ⟨b, hb, rfl⟩;have ic : okD (nearO l E) ((l.idxOf c : Nat) : Int) := (h1 _).1 ⟨c, hc, rfl⟩;exact (rch_iff hR hn hG m ha hb).2 ((hB.2 _ ic _ _ ia.1 ib.1 ia.2 ib.2).mono fun x hx => (img_but hn hc).1 hx)
 ·rintro ⟨hA, hC⟩;refine ⟨fun i j hi hj => ?_, fun c hc i j hi hj hic hjc => ?_⟩
  ·obtain ⟨a, ha, rfl⟩ := (h1 i).2 hi;obtain ⟨b, hb, rfl⟩ := (h1 j).2 hj;exact ((rch_iff hR hn hG (fun _ h => h) ha hb).1 (hA a ha b hb)).mono fun x hx => (h1 x).1 hx
  ·obtain ⟨z, hz, rfl⟩ := (h1 c).2 hc;obtain ⟨a, ha, rfl⟩ := (img_but hn hz).1 ⟨hi, hic⟩;obtain ⟨b, hb, rfl⟩ := (img_but hn hz).1 ⟨hj, hjc⟩;exact ((rch_iff hR hn hG (fun x hx => List.mem_of_mem_erase hx) ha hb).1 (hC z hz a ha b hb)).mono fun x hx => (img_but hn hz).2 hx
theorem conn_all (hR : RightP n E) (hn : l.Nodup) (hG : GraphD (nearO l E)) {k : List Int} (hk : ∀ x ∈ k, x ∈ l) (h0 : k ≠ []) : Conn E k ↔ AllC E k := by
 obtain ⟨h, hh⟩ : ∃ h, k.headD 0 = h := ⟨_, rfl⟩
 have hm : h ∈ k := by rw [<- hh]; cases k with | nil => exact absurd rfl h0 | cons a k => simp
 unfold Conn
 rw [hh]
 refine ⟨fun hc a ha b hb => ?_, fun hA v hv => hA h hm v hv⟩
 have e1 := (rch_iff hR hn hG hk hm ha).1 (hc a ha)
 have e2 := (rch_iff hR hn hG hk hm hb).1 (hc b hb)
 refine (rch_iff hR hn hG hk ha hb).2 ((e1.symm hG fun x hx => ?_).trans e2)
 obtain ⟨v, hv, rfl⟩ := hx
 exact (img_all hn).2 ⟨v, hk v hv, rfl⟩
theorem graphO (hR : RightP n E) (hl : l.length <= 1000) : GraphD (nearO l E) := by
 have hoR : ∀ p ∈ ownG l E, inR (l.length : Int) p := fun p hp => by
  unfold ownG at hp;obtain ⟨e, he, rfl⟩ := List.mem_map.1 hp;have hm := (List.mem_filter.1 he).2;unfold ownP at hm;simp only [Bool.and_eq_true, List.elem_eq_mem, decide_eq_true_eq] at hm;have q1 := List.idxOf_lt_length_of_mem hm.1;have q2 := List.idxOf_lt_length_of_mem hm.2;unfold inR;dsimp only;omega
 have := graph_nbrs (m := (l.length : Int)) (E := normE (ownG l E)) ⟨by omega, by omega, Nat.le_trans (normE_length _) (Nat.le_trans ownG_len hR.2.2.1), normE_ok hoR, normE_sorted _⟩
 rwa [Int.toNat_natCast] at this
theorem two_iff (hl : l.length <= 1000) : TwoP n E l ↔ 2 <= l.length /\ WholeP n E l /\ ∀ c ∈ l, WholeP n E (l.erase c) := by
 unfold TwoP
 constructor
 ·rintro ⟨hR, h2, hp, hB⟩;have hG := graphO (E := E) hR hl;have hB' := (bic_iff hR hp.1 hG).1 hB;have ne : l ≠ [] := fun e => by rw [e] at h2; simp at h2
  refine ⟨h2, ⟨hR, ne, hp.1, hp.2, (conn_all hR hp.1 hG (fun _ h => h) ne).2 hB'.1⟩, fun c hc => ?_⟩;have hle := List.length_erase_of_mem hc;have nee : l.erase c ≠ [] := fun e => by rw [e] at hle; simp at hle; omega
  exact ⟨hR, nee, hp.1.erase c, fun v hv => hp.2 v (List.mem_of_mem_erase hv), (conn_all hR hp.1 hG (fun x hx => List.mem_of_mem_erase hx) nee).2 (hB'.2 c hc)⟩
 ·rintro ⟨h2, hW, hC⟩;obtain ⟨hR, ne, hn, hr, hc⟩ := hW;have hG := graphO (E := E) hR hl;refine ⟨hR, h2, ⟨hn, hr⟩, (bic_iff hR hn hG).2 ⟨(conn_all hR hn hG (fun _ h => h) ne).1 hc, fun c hcl => ?_⟩⟩;obtain ⟨_, nee, _, _, hcc⟩ := hC c hcl;exact (conn_all hR hn hG (fun x hx => List.mem_of_mem_erase hx) nee).1 hcc
theorem two_perm {k : List Int} (hl : l.length <= 1000) (h : l.Perm k) (hT : TwoP n E l) : TwoP n E k := by
 obtain ⟨hR, h2, hp, hB⟩ := hT
 have hpk : PlaceP n k := ⟨h.nodup_iff.1 hp.1, fun v hv => hp.2 v (h.mem_iff.2 hv)⟩
 have hlk : k.length <= 1000 := by rw [<- h.length_eq]; exact hl
 have hG := graphO (E := E) hR hl
 have hGk := graphO (l := k) (E := E) hR hlk
 have hB' := (bic_iff hR hp.1 hG).1 hB
 have mv : ∀ {a b : List Int}, (∀ x ∈ a, x ∈ b) -> ∀ {s v : Int}, Rch E a s v -> Rch E b s v := fun {a b} hab {s v} hr => by
  induction hr with
  | base => exact .base
  | step _ h2 h3 ih => exact .step ih h2 (hab _ h3)
 refine ⟨hR, by rw [<- h.length_eq]; exact h2, hpk, (bic_iff hR hpk.1 hGk).2 ⟨fun a ha b hb => mv (fun x hx => h.mem_iff.1 hx) (hB'.1 a (h.mem_iff.2 ha) b (h.mem_iff.2 hb)), fun c hc a ha b hb => ?_⟩⟩
 have he := h.erase c
 exact mv (fun x hx => he.mem_iff.1 hx) (hB'.2 c (h.mem_iff.2 hc) a (he.mem_iff.2 ha) b (he.mem_iff.2 hb))
end
end Go.Sh
namespace Go.Sh
open Go.Proofs
end Go.Sh
namespace Go.Proofs
open Go.RowKit Go.Shelf
attribute [local go_sem] Oper.semAt_some
def Try.upto {α : Type} (f : Nat -> α) (k : Nat) : List α := (List.range k).map f
theorem Try.upto_succ {α : Type} (f : Nat -> α) (k : Nat) : Try.upto f (k + 1) = Try.upto f k ++ [f k] := by simp [Try.upto, List.range_succ]
theorem Try.upto_length {α : Type} (f : Nat -> α) (k : Nat) : (Try.upto f k).length = k := by simp [Try.upto]
theorem Try.upto_all (zs : List Int) : Try.upto (fun j => zs[j]?.getD 0) zs.length = zs := by
 apply List.ext_getElem
 ·simp [Try.upto]
 ·intro i h1 h2;simp [Try.upto, h2]
theorem Try.upto_take (zs : List Int) {k : Nat} (hk : k <= zs.length) : Try.upto (fun j => zs[j]?.getD 0) k = zs.take k := by
 apply List.ext_getElem
 ·simp [Try.upto, hk]
 ·intro i h1 h2;have : i < zs.length := by simp [Try.upto] at h1; omega
  simp [Try.upto, this]
set_option maxRecDepth 100000 in
set_option maxHeartbeats 2000000 in
theorem Try.values1_in (F : Fence) (n : Nat) (h7 : F.fn 67) (hro : F.round = none) (hn : 1 <= n) (l Bs n₀ len cap : Nat) (a : Addr) (zs : List Int) (hreach : len * 8 <= 140737488351232) (hb : a.block < n₀) (J Jx : List Int -> World -> Prop)
  (hY : ∀ pre x W, J pre W -> pre.length < len -> YieldAt F (n - 1) Try.prog l #[.int .i64 x] W fun e W' =>
   (e = .returned (.bool true) /\ J (pre ++ [x]) W' /\ Below n₀ W W') \/ (e = .returned (.bool false) /\ Jx (pre ++ [x]) W'))
  (W : World) (hBs : W.cell? ⟨Bs, 0, none⟩ = some (.slice (some a) len cap)) (hc : ∀ j, j < len -> W.cell? (a.add j) = some (.int .i64 (zs[j]?.getD 0))) (h0 : J [] W) :
  CallsIn F n Try.prog 67 #[.func (.yield l) #[] #[], .pointer (some ⟨Bs, 0, none⟩)] W fun e W' => (∃ v, e = .returned v) /\
   ((∃ ys, ys = Try.upto (fun j => zs[j]?.getD 0) len /\ J ys W') \/ (∃ pre, (∃ k, k <= len /\ pre = Try.upto (fun j => zs[j]?.getD 0) k) /\ Jx pre W')) := by
 refine callsIn_of_wp Try.func67 rfl h7 ?_ hro
 simp only [Try.ntmps67, List.size_toArray, List.length_cons, List.length_nil, Nat.reduceAdd, Nat.reduceSub, Array.replicate_succ, Array.replicate_zero, List.push_toArray, List.append_toArray, List.nil_append, List.cons_append]
 gi_wp2
 gi_loopw [7] (fun i wr => ∃ k : Nat, k <= len /\ i = .int .i64 k /\ J (Try.upto (fun j => zs[j]?.getD 0) k) wr /\ Below n₀ W wr)
  (fun i _ => len - (intOf i).toNat)
 case atStart => exact ⟨0, Nat.zero_le _, rfl, h0, Below.refl _ _⟩
 case round =>
  obtain ⟨k, hk, rfl, hJs, hnx⟩ := hrel;have hcx : k < len -> wr.cell? (a.add k) = some (.int .i64 (zs[k]?.getD 0)) := fun h => (hnx.cell (p := a.add k) (by unfold Addr.add; split <;> exact hb)).trans (hc k h)
  by_cases hlt : k < len
  ·obtain ⟨fn, tmps, assign, body, hy, hR⟩ := hY _ (zs[k]?.getD 0) wr hJs (by rw [Try.upto_length]; exact hlt);have hcx' := hcx hlt
   gi_wp2
   refine hR.mono ?_;rintro e W3 (⟨rfl, hJ3, hk3⟩ | ⟨rfl, hJx3⟩)
   ·gi_wp2
    go_roundw
    case rel => exact ⟨k + 1, by omega, by simp, by rw [Try.upto_succ]; exact hJ3, hnx.trans hk3⟩
    case measure => simp [intOf]; omega
   ·gi_wp2
    refine bodyPost_ret (results_none rfl _ _ _) rfl ?_;exact ⟨⟨_, rfl⟩, .inr ⟨_, ⟨k + 1, by omega, (Try.upto_succ _ _).symm⟩, hJx3⟩⟩
  ·obtain rfl : k = len := by omega
   gi_wp2
   go_end0
   exact ⟨⟨_, rfl⟩, .inl ⟨_, rfl, hJs⟩⟩
set_option maxRecDepth 100000 in
set_option maxHeartbeats 1000000 in
theorem Try.values1_nil_in (F : Fence) (n : Nat) (h7 : F.fn 67) (hro : F.round = none) (l Bs : Nat) (a : Option Addr) (cap : Nat) (J : List Int -> World -> Prop) (W : World) (hBs : W.cell? ⟨Bs, 0, none⟩ = some (.slice a 0 cap)) (h0 : J [] W) :
  CallsIn F n Try.prog 67 #[.func (.yield l) #[] #[], .pointer (some ⟨Bs, 0, none⟩)] W fun e W' => (∃ v, e = .returned v) /\ J [] W' := by
 refine callsIn_of_wp Try.func67 rfl h7 ?_ hro
 simp only [Try.ntmps67, List.size_toArray, List.length_cons, List.length_nil, Nat.reduceAdd, Nat.reduceSub, Array.replicate_succ, Array.replicate_zero, List.push_toArray, List.append_toArray, List.nil_append, List.cons_append]
 gi_wp2
 gi_loopw [7] (fun i wr => i = .int .i64 0 /\ J [] wr) (fun _ _ => 0)
 case atStart => exact ⟨rfl, h0⟩
 case round =>
  obtain ⟨rfl, hJs⟩ := hrel
  gi_wp2
  go_end0
  exact ⟨⟨_, rfl⟩, hJs⟩
def Try.Ints (n₀ : Nat) (W : World) (sv : Value) (zs : List Int) : Prop :=
 (zs = [] /\ ∃ a cap, sv = .slice a 0 cap) \/ ∃ a cap, sv = .slice (some a) zs.length cap /\ a.block < n₀ /\ ∀ j, j < zs.length -> W.cell? (a.add j) = some (.int .i64 (zs[j]?.getD 0))
theorem Try.add_block (a : Addr) (j : Nat) : (a.add j).block = a.block := by unfold Addr.add; split <;> rfl
theorem Try.Ints.below {n₀ : Nat} {A B : World} (h : Below n₀ A B) {sv : Value} {zs : List Int} : Try.Ints n₀ A sv zs -> Try.Ints n₀ B sv zs
 | .inl e => .inl e
 | .inr ⟨a, cap, e, hb, hc⟩ => .inr ⟨a, cap, e, hb, fun j hj => (h.cell (p := a.add j) (by rw [Try.add_block]; exact hb)).trans (hc j hj)⟩
theorem Try.values_stops (F : Fence) (n : Nat) (h7 : F.fn 67) (hro : F.round = none) (hn : 1 <= n) (Bs n₀ : Nat) (sv : Value) (zs : List Int) (hreach : zs.length * 8 <= 140737488351232) (w : World) (hBs : Bs < w.heap.size) (hn₀ : n₀ <= w.heap.size)
  (hc : w.cell? ⟨Bs, 0, none⟩ = some sv) (hI : Try.Ints n₀ w sv zs) :
  SeqStopsK F n Try.prog 67 #[.pointer (some ⟨Bs, 0, none⟩)] (fun x : Int => #[Value.int .i64 x]) (Below n₀) (fun ys => ys = zs) (fun pre => pre <+: zs) zs.length w := fun l J Jx W hW _ _ hY h0 => by
 have hc' := (hW.cell (p := ⟨Bs, 0, none⟩) hBs).trans hc
 rcases hI.below (hW.mono hn₀) with ⟨rfl, a, cap, rfl⟩ | ⟨a, cap, rfl, hb, hcs⟩
 ·exact (Try.values1_nil_in F n h7 hro l Bs a cap J W hc' h0).mono fun e W' ⟨he, hj⟩ => ⟨he, .inl ⟨_, rfl, hj⟩⟩
 ·refine (Try.values1_in F n h7 hro hn l Bs n₀ zs.length cap a zs hreach hb J Jx hY W hc' hcs h0).mono ?_;rintro e W' ⟨he, ⟨ys, rfl, hj⟩ | ⟨pre, ⟨k, hk, rfl⟩, hj⟩⟩
  ·exact ⟨he, .inl ⟨_, Try.upto_all zs, hj⟩⟩
  ·exact ⟨he, .inr ⟨_, by rw [Try.upto_take zs hk]; exact List.take_prefix _ _, hj⟩⟩
end Go.Proofs
namespace Go.Proofs
open Go.RowKit Go.Shelf
attribute [local go_sem] Oper.semAt_some
theorem Try.info3 : (Try.prog.info? 3).map (fun i => (i.zero, i.size, i.bytes)) = some (some (.int .i64 0), 1, 8) := by kernel_rfl
set_option maxRecDepth 100000 in
set_option maxHeartbeats 2000000 in
theorem Try.appendSeq_in (F : Fence) (n : Nat) (h116 : F.fn 84) (h103 : F.fn 67) (hro : F.round = none) (hn : 3 <= n) (Bs n₀ : Nat) (sv : Value) (zs : List Int) (hlen : zs.length <= maxLen) (hreach : zs.length * 8 <= 140737488351232) (w : World) (hBs : Bs < w.heap.size) (hn₀ : n₀ <= w.heap.size)
  (hc : w.cell? ⟨Bs, 0, none⟩ = some sv) (hI : Try.Ints n₀ w sv zs) :
  CallsIn F n Try.prog 84 #[.slice none 0 0, .func (.func 67) #[] #[.pointer (some ⟨Bs, 0, none⟩)]] w fun e W' => ∃ v, e = .returned v /\ W'.ownsRow w.heap.size 3 1 v zs.length (zs.map (Value.int .i64)) /\ (v = .slice none 0 0 ↔ zs = []) /\ Below w.heap.size w W' := by
 have h1 : 1 <= n := by omega
 obtain ⟨i0, hi, hz0, hz1, hz2⟩ := info_parts Try.info3
 refine callsIn_of_wp_marks Try.func84 rfl h116 ?_ hro
 simp only [Try.ntmps84, List.size_toArray, List.length_cons, List.length_nil, Nat.reduceAdd, Nat.reduceSub, Array.replicate_succ, Array.replicate_zero, List.push_toArray, List.append_toArray, List.nil_append, List.cons_append]
 gi_wp2
 have bO := Boxed.new w 25 (.slice none 0 0)
 have hB0 : Below w.heap.size w (w.alloc (.cells #[.slice none 0 0] 25)) := ((Below.refl _ w).alloc (Nat.le_refl _) _)
 refine wpIn_rangeFunc_ownG hro h1 (gf := 67) (lb := #[.pointer (some ⟨Bs, 0, none⟩)]) rfl h103 (enters_of Try.func67 (by kernel_rfl) rfl)
  (Try.values_stops F (n - 1) h103 hro (by omega) Bs w.heap.size _ zs hreach _ (by simp; omega) (by simp) ((hB0.cell (p := ⟨Bs, 0, none⟩) hBs).trans hc) (by
   rcases hI.below (hB0.mono hn₀) with h | ⟨a, cap, e, hb, hcs⟩
   ·exact .inl h
   ·exact .inr ⟨a, cap, e, by omega, hcs⟩)) belowK_t (belowK_b (by simp)) (Below.refl _ _) (fun _ => rfl)
  (fun pre W => (∃ v, Boxed W w.heap.size 25 v /\ W.ownsRow w.heap.size 3 1 v pre.length (pre.map (Value.int .i64)) /\ (v = .slice none 0 0 ↔ pre = [])) /\ Below w.heap.size w W)
  (fun _ _ _ => False)
  (OwnFrom.and (Own.from (holdsRow_own w.heap.size w.heap.size 25 3 1 (fun pre : List Int => pre.length) (fun pre => pre.map (Value.int .i64)) (fun pre v => v = .slice none 0 0 ↔ pre = [])) _) (ownFrom_below (Nat.le_refl _) (by simp)))
  (fun _ _ _ _ _ hs _ _ => hs)
  ⟨⟨_, bO, World.ownsRow_nil _ _ _ _, by simp⟩, hB0⟩
  (fun x => { tmps := #[.slice none 0 0, .func (.func 67) #[] #[.pointer (some ⟨Bs, 0, none⟩)], .pointer (some ⟨w.heap.size, 0, none⟩), undef, .slice none 0 0, .int .i64 x, .func (.func 67) #[] #[.pointer (some ⟨Bs, 0, none⟩)], .int .i64 x, undef, undef, undef, undef, undef], defers := [] }) ?assign ?body ?done ?stop
 case assign =>
  intro l x W K hK
  gi_wp2
  exact hK
 case body =>
  rintro l pre x W ⟨⟨v, hv, hrow, hnil⟩, hB⟩ hlt;have hc := hv.cell
  gi_wp2_with (gi_at_builtin; refine wpListIn_append_own _ rfl _ _ 25 rfl w.heap.size 3 i0 (.int .i64 0) 1 8 Try.underlying25 hi hz0 hz1 hz2 rfl (by decide) _ _ _ rfl (hrow.alloc _) ⟨W.heap.size, 0, none⟩ 1 1 [.int .i64 x] rfl rfl (cell_one_new _ _ _) (by simp [Value.oneCell']) (by omega) (by omega) (by have := hB.size; simp; omega) ?_; intro v' w1 hown' hgrow _; obtain ⟨g', cap', rfl⟩ := ownsRow_succ hown'; obtain ⟨hv1, hv2, hr2, hk2, hb2⟩ := hv.appended (by decide) hrow hB.size (Nat.le_refl _) hown' hgrow; have hc1 := hv1.cell; have hf1 := hv1.frozen)
  exact ⟨hk2.from _, hb2, ⟨_, hv2, by simpa using hr2, by simp⟩, hB.trans hb2⟩
 case done =>
  rintro D ys W hD rfl ⟨⟨v, hv, hrow, hnil⟩, hB⟩ hK;have hc := hv.cell
  gi_wp2
  refine ⟨by simp, .inl ⟨_, _, rfl, run_takeDeferred hK, ?_⟩⟩;exact ⟨_, results_tmp rfl _ _ _, v, rfl, ownsRow_putObj hrow _ hK rfl, hnil, hB.trans (belowK_b (w := w) (Nat.le_refl _) W D _ _ (by simp at hD; omega) hK rfl rfl)⟩
 case stop =>
  rintro D c pre W _ _ h _;exact h.elim
end Go.Proofs
namespace Go.Proofs
open Go.RowKit Go.Shelf Go.Maps Go.Sort
attribute [local go_sem] Oper.semAt_some
set_option maxRecDepth 100000 in
set_option maxHeartbeats 2000000 in
theorem Try.collect_in (F : Fence) (n : Nat) (h102 : F.fn 65) (h116 : F.fn 84) (h103 : F.fn 67) (hro : F.round = none) (hn : 4 <= n) (Bs n₀ : Nat) (sv : Value) (zs : List Int) (hlen : zs.length <= maxLen) (hreach : zs.length * 8 <= 140737488351232) (w : World) (hBs : Bs < w.heap.size) (hn₀ : n₀ <= w.heap.size)
  (hc : w.cell? ⟨Bs, 0, none⟩ = some sv) (hI : Try.Ints n₀ w sv zs) :
  CallsIn F n Try.prog 65 #[.func (.func 67) #[] #[.pointer (some ⟨Bs, 0, none⟩)]] w fun e W' => ∃ v, e = .returned v /\ W'.ownsRow w.heap.size 3 1 v zs.length (zs.map (Value.int .i64)) /\ (v = .slice none 0 0 ↔ zs = []) /\ Below w.heap.size w W' := by
 have h1 : 1 <= n := by omega
 refine callsIn_of_wp Try.func65 rfl h102 ?_ hro
 simp only [Try.ntmps65, List.size_toArray, List.length_cons, List.length_nil, Nat.reduceAdd, Nat.reduceSub, Array.replicate_succ, Array.replicate_zero, List.push_toArray, List.append_toArray, List.nil_append, List.cons_append]
 gi_wp2_with (gi_at_call 84; refine (Try.appendSeq_in F (n - 1) h116 h103 hro (by omega) Bs n₀ sv zs hlen hreach w hBs hn₀ hc hI).mono ?_; rintro e w' ⟨v, rfl, hrow, hnil, hB⟩)
 go_ret
 exact ⟨v, rfl, hrow, hnil, hB⟩
def Try.SortsIn (F : Fence) (m : Nat) : Prop :=
 (∀ (blk off cap : Nat) (ss : List Int) (W : World), Holds (Value.int .i64) W blk off ss.toArray -> blk < W.heap.size -> ss.length < 4611686018427387904 ->
  CallsIn F m Try.prog 66 #[.slice (some ⟨blk, off, none⟩) ss.length cap] W fun e w' => e = .returned (.tuple #[]) /\ ∃ k os, w' = grow (putRow (Value.int .i64) (Sort.ahead W k) blk off (ss.mergeSort fun x y => decide (x <= y)).toArray) os) /\
 (∀ (p : Option Addr) (cap : Nat) (W : World), CallsIn F m Try.prog 66 #[.slice p 0 cap] W fun e w' => e = .returned (.tuple #[]) /\ w' = W)
theorem Try.sortsIn (m : Nat) : Try.SortsIn Fence.wide m :=
 ⟨fun blk off cap ss W h1 h2 h3 => callsIn_wide.2 (Any.slices_Sort_int Try.laysSort blk off cap ss W h1 h2 h3), fun p cap W => callsIn_wide.2 (Any.slices_Sort_int_none Try.laysSort p cap W)⟩
set_option maxRecDepth 100000 in
set_option maxHeartbeats 2000000 in
theorem Try.sorted_in (F : Fence) (n : Nat) (h92 : F.fn 29) (h84 : F.fn 66) (h102 : F.fn 65) (h116 : F.fn 84) (h103 : F.fn 67) (hro : F.round = none) (hn : 5 <= n) (hsort : Try.SortsIn F (n - 1)) (Bs n₀ : Nat) (sv : Value) (zs : List Int) (hlen : zs.length <= maxLen) (hreach : zs.length * 8 <= 140737488351232) (w : World) (hBs : Bs < w.heap.size) (hn₀ : n₀ <= w.heap.size)
  (hc : w.cell? ⟨Bs, 0, none⟩ = some sv) (hI : Try.Ints n₀ w sv zs) :
  CallsIn F n Try.prog 29 #[.func (.func 67) #[] #[.pointer (some ⟨Bs, 0, none⟩)]] w fun e W' => ∃ v, e = .returned v /\ W'.ownsRow w.heap.size 3 1 v zs.length ((zs.mergeSort (fun x y => decide (x <= y))).map (Value.int .i64)) /\ (v = .slice none 0 0 ↔ zs = []) /\ Below w.heap.size w W' := by
 have h1 : 1 <= n := by omega
 refine callsIn_of_wp Try.func29 rfl h92 ?_ hro
 simp only [Try.ntmps29, List.size_toArray, List.length_cons, List.length_nil, Nat.reduceAdd, Nat.reduceSub, Array.replicate_succ, Array.replicate_zero, List.push_toArray, List.append_toArray, List.nil_append, List.cons_append]
 gi_wp2_with (gi_at_call 65; refine (Try.collect_in F (n - 1) h102 h116 h103 hro (by omega) Bs n₀ sv zs hlen hreach w hBs hn₀ hc hI).mono ?_; rintro e W ⟨v, rfl, hrow, hnil, hb⟩)
 rcases hrow.2 with ⟨rfl, hz⟩ | ⟨gb, cap, cur, rfl, hbase, hgb, r1, r2, r3, r4⟩
 ·have hss : zs = [] := List.eq_nil_of_length_eq_zero hz;subst hss
  gi_wp2_with (gi_at_call 66; refine (hsort.2 none 0 W).mono ?_; rintro e w' ⟨rfl, rfl⟩)
  go_ret
  exact ⟨.slice none 0 0, rfl, by simpa using hrow, by simp, hb⟩
 ·have hH : Holds (Value.int .i64) W gb 0 zs.toArray := holds_of_block_i hgb (by simpa using r4);have hgl : gb < W.heap.size := (Array.getElem?_eq_some_iff.1 hgb).1;have hsz : zs.length < 4611686018427387904 := by omega
  have cS := hsort.1 gb 0 cap zs W hH hgl hsz
  gi_wp2_with (gi_at_call 66; refine cS.mono ?_; rintro e w' ⟨rfl, nn, os, rfl⟩)
  go_ret
  exact ⟨_, rfl, ownsRow_sorted_i (by simp) hbase hgb r1 r2 r3, hnil, hb.grown (grownBy_sorted_i _) hb.size (fun j hj => by cases hj; exact hbase)⟩
end Go.Proofs
namespace Go.Proofs
open Go.RowKit Go.Shelf Go.Maps Go.Sort
def Try.sortL (zs : List Int) : List Int := zs.mergeSort (fun x y => decide (x <= y))
open Go.Sh in
theorem Try.ints_of {w : World} {l : List Int} {A : Option Addr} {c : Nat} (h : FlatOk w noLab none A c 1 (ints l)) : Try.Ints w.heap.size w (.slice A l.length c) l := by
 cases l with
 | nil => exact .inl ⟨rfl, A, c, rfl⟩
 | cons x l =>
  obtain ⟨a, rfl, _, h0⟩ := h.cell 0 [.i .i64 x] 0 (.i .i64 x) rfl rfl;refine .inr ⟨a, c, rfl, ?_, fun j hj => ?_⟩
  ·have h0 : w.cell? (a.add (0 * 1 + 0)) = some (Sc.val (.i .i64 x)) := h0;have e : (a.add (0 * 1 + 0)).block = a.block := Try.add_block a _;rw [<- e];generalize a.add (0 * 1 + 0) = p at h0
   simp only [World.cell?] at h0;by_cases hp : p.block < w.heap.size
   ·exact hp
   ·rw [Array.getElem?_eq_none (by omega)] at h0;simp at h0
  ·have hg := List.getElem?_eq_getElem hj;obtain ⟨b, hb, _, hc⟩ := h.cell j [.i .i64 (x :: l)[j]] 0 (.i .i64 (x :: l)[j]) (qhq hg) rfl;injection hb with hb
   subst hb;rw [Nat.mul_one, Nat.add_zero] at hc;rw [hc, hg]; rfl
end Go.Proofs
namespace Go.Sh
open Go.Proofs
theorem ints_append (l m : List Int) : ints (l ++ m) = ints l ++ ints m := by simp [ints]
def cntN (t : List Nd) (a : Int) : Nat := t.countP (fun x => x.2.1 == a) + t.countP (fun x => x.2.2 == a)
def OnceP (m : Nat) (t : List Nd) : Prop := ∀ i, i < m + t.length -> cntN t (i : Int) = if i = m + t.length - 1 then 0 else 1
instance (m : Nat) (t : List Nd) : Decidable (OnceP m t) := by unfold OnceP; infer_instance
end Go.Sh
namespace Go.Sh
structure Ck where
 poles : List Ed
 used : List Int
 mid : Th
def Ck.pol (s : Ck) (i : Int) : Ed := s.poles.getD i.toNat (0, 0)
def Ck.usd (s : Ck) (i : Int) : Int := s.used.getD i.toNat 0
def FreeP (s : Ck) (x : Nd) : Prop := x.2.1 ≠ x.2.2 /\ 0 <= x.2.1 /\ 0 <= x.2.2 /\ x.2.1 < s.poles.length /\ x.2.2 < s.poles.length /\ s.usd x.2.1 + s.usd x.2.2 <= 0
instance (s : Ck) (x : Nd) : Decidable (FreeP s x) := by unfold FreeP; infer_instance
def midIn (m : Th) (v : Int) : Th := mapPut m [v] (mapGet m [v] + 1)
def ckStep (s : Ck) (x : Nd) : Option Ck :=
 if FreeP s x then
  (if x.1 = 1 then (if (middleF (s.pol x.2.1) (s.pol x.2.2)).2 = true then
    some { poles := s.poles ++ [(middleF (s.pol x.2.1) (s.pol x.2.2)).1.2], used := (s.used.set x.2.1.toNat 1).set x.2.2.toNat 1, mid := midIn s.mid (middleF (s.pol x.2.1) (s.pol x.2.2)).1.1 } else none)
   else if x.1 = 2 then (if s.pol x.2.1 = s.pol x.2.2 then
      some { poles := s.poles ++ [s.pol x.2.1], used := (s.used.set x.2.1.toNat 1).set x.2.2.toNat 1, mid := s.mid } else none)
   else none)
 else none
def ckRun : List Nd -> Ck -> Option Ck
 | [], s => some s
 | x :: t, s => match ckStep s x with
  | some s' => ckRun t s'
  | none => none
def ckStart (E : List Ed) (k : Nat) : Ck := { poles := E, used := List.replicate (E.length + k) 0, mid := [] }
def ckLast (s : Ck) : Ed := s.poles.getD (s.poles.length - 1) (0, 0)
def CkEnd (l : List Int) (s : Ck) : Prop := ∀ v ∈ l, mapGet s.mid [v] = if v = (ckLast s).1 \/ v = (ckLast s).2 then 0 else 1
instance (l : List Int) (s : Ck) : Decidable (CkEnd l s) := by unfold CkEnd; infer_instance
def ckB (E : List Ed) (l : List Int) (t : List Nd) : Bool := match ckRun t (ckStart (withL l E) t.length) with
 | some s => decide (CkEnd l s)
 | none => false
noncomputable def ckF (n : Int) (E : List Ed) (l : List Int) (t : List Nd) : Bool := twoB n E l && (decide (t.length + 1 = (withL l E).length) && ckB E l t)
def NodP (x y : Nd) : Prop := y = x \/ y = (x.1, x.2.2, x.2.1)
inductive TurnP : List Nd -> List Nd -> Prop
 | nil : TurnP [] []
 | cons {x y : Nd} {t u : List Nd} : NodP x y -> TurnP t u -> TurnP (x :: t) (y :: u)
theorem TurnP.length {t u : List Nd} (h : TurnP t u) : u.length = t.length := by induction h with | nil => rfl | cons _ _ ih => simp [ih]
def Prop2 (x : Ed) : Prop := x.1 < x.2
theorem midL_iff : ∀ {L : List (Ed × Ed)}, (midL L).2 = true ↔ ∃ p ∈ L, p.1.2 = p.2.1 /\ p.1.1 ≠ p.2.2 := by
 intro L
 induction L with
 | nil => simp [midL]
 | cons p L ih =>
  obtain ⟨s, t⟩ := p;simp only [midL];by_cases h : s.2 = t.1 /\ s.1 ≠ t.2
  ·rw [if_pos h];exact ⟨fun _ => ⟨(s, t), List.mem_cons_self, h⟩, fun _ => rfl⟩
  ·rw [if_neg h, ih];constructor
   ·rintro ⟨p, hp, hh⟩; exact ⟨p, List.mem_cons_of_mem _ hp, hh⟩
   ·rintro ⟨p, hp, hh⟩;rcases List.mem_cons.1 hp with rfl | hp
    ·exact absurd hh h
    ·exact ⟨p, hp, hh⟩
theorem midL_get : ∀ {L : List (Ed × Ed)}, (midL L).2 = true -> ∃ p ∈ L, p.1.2 = p.2.1 /\ p.1.1 ≠ p.2.2 /\ midL L = ((p.1.2, pairF p.1.1 p.2.2), true) := by
 intro L
 induction L with
 | nil => intro h; simp [midL] at h
 | cons p L ih =>
  obtain ⟨s, t⟩ := p;intro h;simp only [midL] at h ⊢;by_cases hc : s.2 = t.1 /\ s.1 ≠ t.2
  ·rw [if_pos hc];exact ⟨(s, t), List.mem_cons_self, hc.1, hc.2, rfl⟩
  ·rw [if_neg hc] at h ⊢;obtain ⟨p, hp, h1, h2, h3⟩ := ih h;exact ⟨p, List.mem_cons_of_mem _ hp, h1, h2, h3⟩
def MidP (x y : Ed) (m a b : Int) : Prop := x = pairF a m /\ y = pairF m b /\ a ≠ b /\ a ≠ m /\ b ≠ m
theorem mem_sides2 {x y : Ed} {p : Ed × Ed} : p ∈ ((sides x).flatMap fun s => (sides y).map fun t => (s, t)) ↔ (p.1 = x \/ p.1 = (x.2, x.1)) /\ (p.2 = y \/ p.2 = (y.2, y.1)) := by
 have side : ∀ {x s : Ed}, s ∈ sides x ↔ s = x \/ s = (x.2, x.1) := fun {x s} => by
  unfold sides;rw [List.mem_cons, List.mem_singleton]
 rw [List.mem_flatMap]
 constructor
 ·rintro ⟨s, hs, hm⟩;obtain ⟨t, ht, e⟩ := List.mem_map.1 hm;subst e;exact ⟨side.1 hs, side.1 ht⟩
 ·rintro ⟨h1, h2⟩;exact ⟨p.1, side.2 h1, List.mem_map.2 ⟨p.2, side.2 h2, rfl⟩⟩
theorem side_pair {x s : Ed} (hx : Prop2 x) (h : s = x \/ s = (x.2, x.1)) : x = pairF s.1 s.2 /\ s.1 ≠ s.2 := by
 unfold Prop2 at hx
 rcases h with rfl | rfl
 ·exact ⟨(pairF_self _ hx).symm, by omega⟩
 ·exact ⟨by rw [pairF_comm]; exact (pairF_self _ hx).symm, by show x.2 ≠ x.1; omega⟩
theorem pair_side {x : Ed} {a b : Int} (h : x = pairF a b) : (a, b) = x \/ (a, b) = (x.2, x.1) := by
 rcases pairF_two a b with ⟨h1, h2⟩ | ⟨h1, h2⟩
 ·left; rw [h]; exact (Prod.ext h1 h2).symm
 ·right; rw [h, h1, h2]
theorem middle_yes {x y : Ed} (hx : Prop2 x) (hy : Prop2 y) (h : (middleF x y).2 = true) : ∃ m a b, MidP x y m a b /\ middleF x y = ((m, pairF a b), true) := by
 obtain ⟨⟨s, t⟩, hp, h1, h2, h3⟩ := midL_get h
 obtain ⟨hs, ht⟩ := mem_sides2.1 hp
 obtain ⟨q1, q2⟩ := side_pair hx hs
 obtain ⟨q3, q4⟩ := side_pair hy ht
 dsimp only at h1 h2 h3 q1 q2 q3 q4
 refine ⟨s.2, s.1, t.2, ⟨q1, by rw [h1]; exact q3, h2, q2, by rw [h1]; exact Ne.symm q4⟩, h3⟩
theorem middle_no {x y : Ed} {m a b : Int} (h : MidP x y m a b) : (middleF x y).2 = true := by
 obtain ⟨h1, h2, h3, _, _⟩ := h
 exact midL_iff.2 ⟨((a, m), (m, b)), mem_sides2.2 ⟨pair_side h1, pair_side h2⟩, rfl, h3⟩
theorem MidP.uniq {x y : Ed} {m a b m' a' b' : Int} (h : MidP x y m a b) (k : MidP x y m' a' b') : m = m' /\ a = a' /\ b = b' := by
 obtain ⟨h1, h2, h3, h4, h5⟩ := h
 obtain ⟨k1, k2, k3, k4, k5⟩ := k
 rw [h1, pairF_inj] at k1
 rw [h2, pairF_inj] at k2
 omega
theorem MidP.swap {x y : Ed} {m a b : Int} (h : MidP x y m a b) : MidP y x m b a := ⟨by rw [pairF_comm]; exact h.2.1, by rw [pairF_comm]; exact h.1, Ne.symm h.2.2.1, h.2.2.2.2, h.2.2.2.1⟩
def CkI (s : Ck) : Prop := ∀ x ∈ s.poles, Prop2 x
theorem CkI.pol {s : Ck} (h : CkI s) {i : Int} (h1 : i < s.poles.length) (h0 : 0 <= i) : Prop2 (s.pol i) /\ s.poles[i.toNat]? = some (s.pol i) := by
 unfold Ck.pol
 have hl : i.toNat < s.poles.length := by omega
 rw [qDq, qEq hl]
 exact ⟨h _ (List.getElem_mem hl), rfl⟩
inductive StepP (s : Ck) (x : Nd) (s' : Ck) : Prop
 | ser (m a b : Int) (op : x.1 = 1) (free : FreeP s x) (mid : MidP (s.pol x.2.1) (s.pol x.2.2) m a b) (is : s' = { poles := s.poles ++ [pairF a b], used := (s.used.set x.2.1.toNat 1).set x.2.2.toNat 1, mid := midIn s.mid m })
 | par (op : x.1 = 2) (free : FreeP s x) (same : s.pol x.2.1 = s.pol x.2.2) (is : s' = { poles := s.poles ++ [s.pol x.2.1], used := (s.used.set x.2.1.toNat 1).set x.2.2.toNat 1, mid := s.mid })
theorem ckStep_iff {s : Ck} (h : CkI s) {x : Nd} {s' : Ck} : ckStep s x = some s' ↔ StepP s x s' := by
 unfold ckStep
 by_cases hf : FreeP s x
 ·rw [if_pos hf];have p1 := (h.pol hf.2.2.2.1 hf.2.1).1;have p2 := (h.pol hf.2.2.2.2.1 hf.2.2.1).1;by_cases h1 : x.1 = 1
  ·rw [if_pos h1];by_cases hm : (middleF (s.pol x.2.1) (s.pol x.2.2)).2 = true
   ·rw [if_pos hm];obtain ⟨m, a, b, k, e⟩ := middle_yes p1 p2 hm;rw [e];constructor
    ·intro hs;injection hs with hs
     exact .ser m a b h1 hf k hs.symm
    ·rintro (⟨m', a', b', _, _, k', rfl⟩ | ⟨h2, _, _, _⟩)
     ·obtain ⟨rfl, rfl, rfl⟩ := k.uniq k'
      rfl
     ·omega
   ·rw [if_neg hm];constructor
    ·intro hs; simp at hs
    ·rintro (⟨m', a', b', _, _, k', rfl⟩ | ⟨h2, _, _, _⟩)
     ·exact absurd (middle_no k') hm
     ·omega
  ·rw [if_neg h1];by_cases h2 : x.1 = 2
   ·rw [if_pos h2];by_cases he : s.pol x.2.1 = s.pol x.2.2
    ·rw [if_pos he];constructor
     ·intro hs;injection hs with hs
      exact .par h2 hf he hs.symm
     ·rintro (⟨m', a', b', h3, _, k', rfl⟩ | ⟨_, _, _, rfl⟩)
      ·omega
      ·rfl
    ·rw [if_neg he];constructor
     ·intro hs; simp at hs
     ·rintro (⟨m', a', b', h3, _, k', rfl⟩ | ⟨_, _, he', rfl⟩)
      ·omega
      ·exact absurd he' he
   ·rw [if_neg h2];constructor
    ·intro hs; simp at hs
    ·rintro (⟨m', a', b', h3, _, k', rfl⟩ | ⟨h3, _, he', rfl⟩) <;> omega
 ·rw [if_neg hf];constructor
  ·intro hs; simp at hs
  ·rintro (⟨m', a', b', h3, hf', k', rfl⟩ | ⟨h3, hf', he', rfl⟩) <;> exact absurd hf' hf
theorem StepP.inv {s s' : Ck} {x : Nd} (h : CkI s) (hs : StepP s x s') : CkI s' := by
 cases hs with
 | ser m a b op free mid is =>
  subst is;intro y hy;rcases List.mem_append.1 hy with hy | hy
  ·exact h y hy
  ·rw [List.mem_singleton] at hy; subst hy; exact pairF_lt mid.2.2.1
 | par op free same is =>
  subst is;intro y hy;rcases List.mem_append.1 hy with hy | hy
  ·exact h y hy
  ·rw [List.mem_singleton] at hy; subst hy; exact (h.pol free.2.2.2.1 free.2.1).1
theorem set_comm2 {l : List Int} {i j : Nat} : (l.set i 1).set j 1 = (l.set j 1).set i (1 : Int) := by
 by_cases h : i = j
 ·subst h; rfl
 ·exact List.set_comm _ _ h
theorem StepP.turn {s s' : Ck} {x y : Nd} (hxy : NodP x y) (hs : StepP s x s') : StepP s y s' := by
 rcases hxy with rfl | rfl
 ·exact hs
 cases hs with
 | ser m a b op free mid is =>
  subst is;obtain ⟨f1, f2, f3, f4, f5, f6⟩ := free;exact .ser m b a op ⟨Ne.symm f1, f3, f2, f5, f4, by show s.usd x.2.2 + s.usd x.2.1 <= 0; omega⟩ mid.swap (by rw [pairF_comm a b, set_comm2])
 | par op free same is =>
  subst is;obtain ⟨f1, f2, f3, f4, f5, f6⟩ := free;exact .par op ⟨Ne.symm f1, f3, f2, f5, f4, by show s.usd x.2.2 + s.usd x.2.1 <= 0; omega⟩ same.symm (by rw [same, set_comm2])
theorem NodP.symm {x y : Nd} (h : NodP x y) : NodP y x := by
 rcases h with rfl | rfl
 ·exact .inl rfl
 ·exact .inr rfl
theorem run_turn : ∀ {t u : List Nd}, TurnP t u -> ∀ {s : Ck}, CkI s -> ckRun u s = ckRun t s := by
 intro t u h
 induction h with
 | nil => intro s _; rfl
 | @cons x y t u hxy _ ih =>
  intro s hs;simp only [ckRun]
  cases h1 : ckStep s x with
  | some s' =>
   have k := (ckStep_iff hs).1 h1;rw [(ckStep_iff hs).2 (k.turn hxy)];exact ih (k.inv hs)
  | none =>
   cases h2 : ckStep s y with
   | none => rfl
   | some s' =>
    have k := (ckStep_iff hs).2 (((ckStep_iff hs).1 h2).turn hxy.symm);rw [h1] at k; simp at k
theorem withL_perm {l k : List Int} (h : ∀ x, x ∈ l ↔ x ∈ k) (E : List Ed) : withL l E = withL k E := by
 unfold withL
 apply List.filter_congr
 intro x _
 unfold ownP
 simp only [List.elem_eq_mem, h]
theorem start_inv {n : Int} {E : List Ed} {l : List Int} (hR : RightP n E) (k : Nat) : CkI (ckStart (withL l E) k) := fun x hx => by
 have := (withL_ok (l := l) hR).1 x hx
 unfold okE at this
 exact this.2.1
theorem ckF_turn {n : Int} {E : List Ed} {l k : List Int} {t u : List Nd} (hl : l.length <= 1000) (hp : l.Perm k) (ht : TurnP t u) : ckF n E k u = ckF n E l t := by
 have hw := withL_perm (fun x => hp.mem_iff (a := x)) E
 have h2 : twoB n E k = twoB n E l := by
  cases h : twoB n E l with
  | true => exact twoB_iff.2 (two_perm hl hp (twoB_iff.1 h))
  | false =>
   cases h' : twoB n E k with
   | false => rfl
   | true =>
    have := twoB_iff.2 (two_perm (by rw [<- hp.length_eq]; exact hl) hp.symm (twoB_iff.1 h'));rw [this] at h; simp at h
 unfold ckF
 rw [h2, ht.length, <- hw]
 cases hT : twoB n E l with
 | false => rfl
 | true =>
  have hR := (twoB_iff.1 hT).1
  congr 2
  unfold ckB;rw [ht.length, <- hw, run_turn ht (start_inv hR _)]
  cases hr : ckRun t (ckStart (withL l E) t.length) with
  | none => rfl
  | some s =>
   show decide (CkEnd k s) = decide (CkEnd l s)
   rw [decide_eq_decide];exact ⟨fun h v hv => h v (hp.mem_iff.1 hv), fun h v hv => h v (hp.mem_iff.2 hv)⟩
end Go.Sh
namespace Go.Sh
def othL (x y : List Int) : List Int := (x.filter fun a => !y.elem a) ++ (y.filter fun a => !x.elem a)
def polesR (E : List Ed) (t : List Nd) : Nat -> Int -> List Int × Bool
 | 0, _ => ([], false)
 | f + 1, at_ => if at_ < 0 \/ ((E.length + t.length : Nat) : Int) <= at_ then ([], false) else
   if at_ < E.length then ([(E.getD at_.toNat (0, 0)).1, (E.getD at_.toNat (0, 0)).2], true) else
   if at_ <= (t.getD (at_ - E.length).toNat (0, 0, 0)).2.1 \/ at_ <= (t.getD (at_ - E.length).toNat (0, 0, 0)).2.2 \/ (t.getD (at_ - E.length).toNat (0, 0, 0)).2.1 = (t.getD (at_ - E.length).toNat (0, 0, 0)).2.2 then ([], false) else
   if (polesR E t f (t.getD (at_ - E.length).toNat (0, 0, 0)).2.1).2 = false then ([], false) else
   if (polesR E t f (t.getD (at_ - E.length).toNat (0, 0, 0)).2.2).2 = false then ([], false) else
   if (t.getD (at_ - E.length).toNat (0, 0, 0)).1 = 2 /\ ((polesR E t f (t.getD (at_ - E.length).toNat (0, 0, 0)).2.1).1.countP fun a => (polesR E t f (t.getD (at_ - E.length).toNat (0, 0, 0)).2.2).1.elem a) = 2 then ((polesR E t f (t.getD (at_ - E.length).toNat (0, 0, 0)).2.1).1, true) else
   (othL (polesR E t f (t.getD (at_ - E.length).toNat (0, 0, 0)).2.1).1 (polesR E t f (t.getD (at_ - E.length).toNat (0, 0, 0)).2.2).1,
    decide ((t.getD (at_ - E.length).toNat (0, 0, 0)).1 = 1 /\ ((polesR E t f (t.getD (at_ - E.length).toNat (0, 0, 0)).2.1).1.countP fun a => (polesR E t f (t.getD (at_ - E.length).toNat (0, 0, 0)).2.2).1.elem a) = 1))
def polR (E : List Ed) (t : List Nd) (i : Int) : List Int × Bool := polesR E t (E.length + t.length + 1) i
def serAt (E : List Ed) (t : List Nd) (v : Int) (x : Nd) : Bool := decide (x.1 = 1) && ((polR E t x.2.1).1.elem v && (polR E t x.2.2).1.elem v)
def timesR (E : List Ed) (t : List Nd) (v : Int) : Nat := t.countP (serAt E t v)
def RefP (E : List Ed) (l : List Int) (t : List Nd) : Prop := OnceP E.length t /\ (polR E t ((E.length + t.length : Nat) - 1 : Int)).2 = true /\ ∀ v ∈ l, (∀ k : Nat, k < t.length -> (polR E t ((E.length + k : Nat) : Int)).2 = true) /\ (v ∈ (polR E t ((E.length + t.length : Nat) - 1 : Int)).1 ↔ timesR E t v = 0) /\ timesR E t v <= 1
instance (E : List Ed) (l : List Int) (t : List Nd) : Decidable (RefP E l t) := by unfold RefP; infer_instance
end Go.Sh
namespace Go.Sh
open Go.Proofs
end Go.Sh
namespace Go.Proofs
open Go.RowKit Go.Shelf
attribute [local go_sem] Oper.semAt_some
end Go.Proofs
namespace Go.Proofs
open Go.RowKit Go.Shelf Go.Sh
attribute [local go_sem] Oper.semAt_some
end Go.Proofs
namespace Go.Proofs
open Go.RowKit Go.Shelf Go.Sh
attribute [local go_sem] Oper.semAt_some
end Go.Proofs
namespace Go.Sh
open Go.Proofs Go.RowKit Go.Shelf
end Go.Sh
namespace Go.Sh
open Go.Proofs Go.RowKit Go.Shelf
def unI (F : Flat) : List Int := F.map fun r => match r with
 | [.i _ x] => x
 | _ => 0
theorem unI_ints (l : List Int) : unI (ints l) = l := by
 unfold unI ints
 rw [List.map_map]
 conv => rhs; rw [<- List.map_id l]
 exact List.map_congr_left fun x _ => rfl
def srtF (F : Flat) : Flat := ints (sortI (unI F))
theorem srtF_ints (l : List Int) : srtF (ints l) = ints (sortI l) := by unfold srtF; rw [unI_ints]
def srtP (F : Flat) : Prop := ∃ l : List Int, F = ints l /\ l.length <= 1000000
theorem own_new {w w' : World} {x : Value} {L : List Int} {e : TypeId} (h : w'.ownsRow w.heap.size e 1 x L.length (L.map (Value.int .i64))) : newOut w w' x (some (1, ints L)) := by
 rcases h.2 with ⟨rfl, h0⟩ | ⟨g, cap, cur, rfl, hb, hg, h1, h2, h3, h4⟩
 ·have : L = [] := List.eq_nil_of_length_eq_zero h0;subst this;exact ⟨none, 0, rfl, fun key => ⟨by simp [ints], by omega, fun i row h => by simp [ints] at h, fun i row j x h => by simp [ints] at h, fun _ => .inl ⟨rfl, rfl⟩⟩⟩
 ·have hgl : g < w'.heap.size := (Array.getElem?_eq_some_iff.1 hg).1;refine ⟨some ⟨g, 0, none⟩, cap, by rw [qiq], fun key => ?_⟩;have hm : cap <= 9223372036854775807 := by unfold maxLen at h2; omega
  refine ⟨by rw [qiq]; exact h1, by omega, fun i row hi => ?_, fun i row j x hi hj => ?_, fun _ => .inr ⟨g, 0, cur, e, rfl, by simp [hb, hgl], hg, by show 0 + cap * 1 <= cur.size; omega, hm⟩⟩
  ·simp only [ints, List.getElem?_map, Option.map_eq_some_iff] at hi;obtain ⟨y, _, rfl⟩ := hi; rfl
  ·simp only [ints, List.getElem?_map, Option.map_eq_some_iff] at hi;obtain ⟨y, hy, rfl⟩ := hi;have hj0 : j = 0 := by
    cases j with
    | zero => rfl
    | succ j => simp at hj
   subst hj0;simp at hj;subst hj;refine ⟨_, rfl, by simp [hb, hgl], ?_⟩;rw [Addr.add_plain, cells_at hg];have hil := (qSq.1 hy).1;have h5 : (cur.toList.take (L.length * 1))[i]? = some (.int .i64 y) := by rw [h4, List.getElem?_map, hy]; rfl
   rw [List.getElem?_take_of_lt (by omega)] at h5;rw [Nat.mul_one, Nat.add_zero, Nat.zero_add, <- Array.getElem?_toList];exact h5
theorem Sorted_call : SeqCall Try.prog 29 67 1 srtP srtF := by
 refine ⟨⟨_, Try.func29, by decide, by simp [Try.f29]⟩, ?_⟩
 rintro l ⟨zs, rfl, hl⟩ w b arr T A cap hh ha hF
 have hbl : b < w.heap.size := (Array.getElem?_eq_some_iff.1 hh).1
 have hc : w.cell? ⟨b, 0, none⟩ = some (.slice A zs.length cap) := by
  rw [qiq] at ha;rw [show (⟨b, 0, none⟩ : Addr) = ⟨b, 0, none⟩ from rfl, cells_at hh, <- Array.getElem?_toList, ha]; rfl
 refine ((callsIn_wide (n := 6)).1 (Try.sorted_in Fence.wide 6 trivial trivial trivial trivial trivial rfl (by omega) (Try.sortsIn _) b w.heap.size _ zs (by unfold maxLen; omega) (by omega) w hbl (Nat.le_refl _) hc (Try.ints_of hF))).mono ?_
 rintro e w' ⟨v, rfl, hrow, hnil, hb⟩
 refine ⟨v, rfl, ⟨hb.os, .of hb.tape, hb.output, hb.size, fun k h _ => hb.block k h⟩, ?_⟩
 rw [srtF_ints]
 refine own_new (e := 3) ?_
 have e1 : (sortI zs).length = zs.length := (List.mergeSort_perm zs _).length_eq
 rw [e1]
 exact hrow
end Go.Sh
namespace Go.Sh
open Go.Proofs
def shapeP (k : Int) (T : List Int) (L : List (List Int)) : Prop := (k = 1 /\ T.length = 4 /\ L.length = 6) \/ (k = 2 /\ T.length = 2 /\ L.length = 3)
instance (k : Int) (T : List Int) (L : List (List Int)) : Decidable (shapeP k T L) := by unfold shapeP; exact inferInstance
end Go.Sh
namespace Go.Proofs
open Go.RowKit Go.Sh
attribute [local go_sem] Oper.semAt_some
end Go.Proofs
namespace Go.Sh
open Go.Proofs
section
variable {n : Int} {E : List Ed} {k : Int} {T : List Int} {L : List (List Int)}
end
end Go.Sh
namespace Go.Sh
end Go.Sh
namespace Go.Sh
open Go.Proofs
end Go.Sh
namespace Go.Sh
open Go.Proofs Go.RowKit
attribute [local go_sem] Oper.semAt_some
theorem iSI : (Try.prog.info? 3).map (fun i => (i.zero, i.size, i.bytes)) = some (some (.int .i64 0), 1, 8) := by kernel_rfl
end Go.Sh
namespace Go.Sh
open Go.Proofs Go.Shelf Go.RowKit
noncomputable def growN : Sc -> Option (Option (Nat × Flat)) := fun x => match x with
 | .i .i64 n => if 0 <= n /\ n <= 1000000000 then some (some (1, [])) else none
 | _ => none
theorem Grow_call : NilCall Try.prog 64 growN := by
 refine ⟨⟨_, Try.func64, by decide, by simp [Try.f64]⟩, ?_⟩
 intro x r hx w
 obtain ⟨n, rfl, h0, h1, rfl⟩ : ∃ n : Int, x = .i .i64 n /\ 0 <= n /\ n <= 1000000000 /\ r = some (1, []) := by
  unfold growN at hx;split at hx
  ·split at hx
   ·rename_i h;injection hx with hx
    exact ⟨_, rfl, h.1, h.2, hx.symm⟩
   ·simp at hx
  ·simp at hx
 obtain ⟨k, rfl⟩ : ∃ k : Nat, n = k := ⟨n.toNat, by omega⟩
 rcases Nat.eq_zero_or_pos k with rfl | hk
 ·refine (Any8.slices_Grow_room Try.laysGrow none 0 0 0 w (by omega) (by omega) (by omega) (by omega)).mono ?_;rintro e w' ⟨rfl, rfl⟩;exact ⟨_, rfl, Frm.refl _ _, none, 0, rfl, fun key => FlatOk.nil (by omega)⟩
 ·obtain ⟨i0, hi, hz0, hz1, hz2⟩ := info_parts iSI;refine (Any8.slices_Grow_grow Try.laysGrow i0 _ hi hz0 (by omega) none 0 0 k [] w (by omega) (by omega) (by rw [hz2]; omega) (by omega) (by simp) (fun _ => rfl) (fun a h => by simp at h)).mono ?_;rintro e w' ⟨rfl, rfl⟩;have hsz : (#[] ++ Builtin.zeroCells (Value.int .i64 0).cells (0 + k - 0) ++ Builtin.zeroCells (Value.int .i64 0).cells (grownCap w (0 + k) 0 3 - (0 + k)) : Array Value).size = grownCap w (0 + k) 0 3 := by
   have hG : 0 + k <= grownCap w (0 + k) 0 3 := grownCap_ge w _ _ _;generalize grownCap w (0 + k) 0 3 = G at hG ⊢
   simp [Builtin.zeroCells, Value.cells];omega
  have hle := grownCap_le_maxLen w (0 + k) 0 3 (by unfold maxLen; omega);refine ⟨_, rfl, ⟨rfl, ⟨rfl, fun _ => Nat.le_succ _⟩, rfl, by simp, fun b hb _ => heap_alloc_lt w.drew _ hb⟩, _, _, rfl, fun key => ?_⟩;refine { fits := Nat.zero_le _, pos := by omega, even := fun i row h => by simp at h, cell := fun i row j x h => by simp at h, room := fun _ => .inr ⟨w.heap.size, 0, _, _, rfl, ?_, heap_alloc_at w.drew _, ?_, ?_⟩ }
  ·rw [if_pos ⟨Nat.le_refl _, by simp⟩]
  ·show 0 + grownCap w (0 + k) 0 3 * 1 <= _
   refine Nat.le_trans ?_ (Nat.le_of_eq hsz.symm);omega
  ·show grownCap w (0 + k) 0 3 <= _
   unfold maxLen at hle; omega
noncomputable def XCat : Cx := { Γ := [], T := T, nt := 36, ext := [64], base := nilCR 64 growN }
theorem XCat_ok : CrOk Try.prog (callAt 1 XCat) := callAt_ok hmix hT sound_nil inl_nil (nil_ok Grow_call) 1
noncomputable def ConcatC : Con := conP 1 (fun L : List (List Int) => L.length <= 1000 /\ L.flatten.length <= 100000000) (fun L => [.one (.nest false 1 (rowsI L))]) (fun L => .one (.flat true 1 (ints L.flatten)))
theorem ConcatC_at {L : List (List Int)} (h : L.length <= 1000 /\ L.flatten.length <= 100000000) : ConcatC.F [.one (.nest false 1 (rowsI L))] = some (.one (.flat true 1 (ints L.flatten)), []) :=
 conP_at (a := L) (fun a b _ _ h => by simp at h; rw [rowsI_inj h]) h
theorem flat_take {L : List (List Int)} {i : Nat} (h : i < L.length) : (L.take (i + 1)).flatten = (L.take i).flatten ++ L[i] := by
 rw [qTq h, List.flatten_append]; simp
theorem flat_le (L : List (List Int)) (i : Nat) : (L.take i).flatten.length <= L.flatten.length := by
 conv => rhs; rw [<- List.take_append_drop i L, List.flatten_append, List.length_append]
 omega
set_option maxHeartbeats 1000000 in
theorem Concat_ok : SoundC Try.prog T 28 ConcatC := by
 refine sound_con (X := XCat) (cr := callAt 1 XCat) XCat_ok hmix hT sound_nil Try.func28 (by rfl) (by rfl) (by rfl) (by rfl) 1 ?_
 rintro L ⟨hL, hF⟩
 refine two_le ?_
 refine LoopP.intro (α := Nat) (fun i => i <= L.length) (fun i => L.length - i) (fun i => [(0, .sl 0 none none), (3, .s (.i .i64 ((L.take i).flatten.length : Nat))), (9, .sl 0 none none), (10, .s (.i .i64 L.length)), (11, .s (.i .i64 i))])
  (fun i => [(0, some (.nest false 1 (rowsI L) [] []))]) 1 0 (by omega) (by refine Weak.bw [(0, some _)] (by ((repeat' first|exact rfl|exact trivial|apply And.intro) <;> (repeat' first|exact rfl|exact trivial|apply And.intro)); all_goals (exact sc_eq (by rw [qrq])))) ?_
 rintro i hi
 have hfi := flat_le L i
 refine Pick.by (fun hc => ?_) (fun hc => ?_)
 ·have hlt : i < L.length := by have := of_decide_eq_true hc; omega
  have hpg : (rowsI L)[i]? = some (ints L[i]) := qgq (qEq hlt);have hft := flat_take hlt;have hfi2 := flat_le L (i + 1);rw [hft, List.length_append] at hfi2;refine Idx.by i rfl (by rw [qrq]; exact hlt) ?_;refine Pick.T (by simpa [qrq] using hlt) ?_;refine Look.by _ hpg ?_;refine Pick.T (inI64_of (by rw [qiq]; omega) (by rw [qiq]; omega)) ?_;refine Pick.n ?_;refine Next.by (i + 1) (by omega) (by omega) (by refine Weak.bw [(0, some _)] (by ((repeat' first|exact rfl|exact trivial|apply And.intro) <;> (repeat' first|exact rfl|exact trivial|apply And.intro)); all_goals (exact sc_eq (by rw [hft, List.length_append, qiq]; omega))))
 have hil : i = L.length := by have := of_decide_eq_false hc; omega
 subst hil
 rw [List.take_length]
 refine ⟨rfl, .i .i64 ((L.flatten.length : Nat) : Int), some (1, []), rfl, if_pos ⟨by omega, by omega⟩, ?_⟩
 refine LoopP.intro (α := Nat) (fun i => i <= L.length) (fun i => L.length - i) (fun i => [(6, .sl 1 none none), (25, .sl 0 none none), (26, .s (.i .i64 L.length)), (27, .s (.i .i64 i))])
  (fun i => [(0, some (.nest false 1 (rowsI L) [] [])), (1, some (.flat true 1 (ints (L.take i).flatten)))]) 2 0 (by omega) (by refine Weak.bw [(0, some _), (1, some _)] (by ((repeat' first|exact rfl|exact trivial|apply And.intro) <;> (repeat' first|exact rfl|exact trivial|apply And.intro)); all_goals ((first|exact sc_eq (by rw [qrq]) | rfl)))) ?_
 rintro i hi
 have hfi := flat_le L i
 refine Pick.by (fun hc => ?_) (fun hc => ?_)
 ·have hlt : i < L.length := by have := of_decide_eq_true hc; omega
  have hpg : (rowsI L)[i]? = some (ints L[i]) := qgq (qEq hlt);have hft := flat_take hlt;have hfi2 := flat_le L (i + 1);rw [hft, List.length_append] at hfi2;refine Idx.by i rfl (by rw [qrq]; exact hlt) ?_;refine Pick.T (by simpa [qrq] using hlt) ?_;refine Look.by _ hpg ?_;refine Pick.T (decide_eq_true (by rw [qiq, show (cut none (ints L[i])).length = L[i].length from qiq _]; omega)) ?_;refine Pick.n ?_;refine Next.by (i + 1) (by omega) (by omega) (by refine Weak.bw [(0, some _), (1, some _)] (by ((repeat' first|exact rfl|exact trivial|apply And.intro) <;> (repeat' first|exact rfl|exact trivial|apply And.intro)); all_goals ((rw [hft, ints_append]; rfl))))
 have hil : i = L.length := by have := of_decide_eq_false hc; omega
 subst hil
 rw [List.take_length]
 exact ⟨rfl, rfl, rfl⟩
end Go.Sh
namespace Go.Sh
open Go.Proofs
noncomputable def sptF (n : Int) (E : List Ed) (l : List Int) : List Nd × Int := if twoB n E l = true then runSp 6 (withL l E).length l.length (startS E l) else ([], 1)
noncomputable def SptC : Con := conP 2 (fun a : (Int × List Ed) × List Int => a.2.length <= 1000) (fun a => [grV a.1.1 a.1.2, .one (.flat false 1 (ints a.2))]) (fun a => .tup [.one (.flat true 3 (nods (sptF a.1.1 a.1.2 a.2).1)), .one (.s (.i .i64 (sptF a.1.1 a.1.2 a.2).2))])
theorem SptC_at {n : Int} {E : List Ed} {l : List Int} (h : l.length <= 1000) : SptC.F [grV n E, .one (.flat false 1 (ints l))] = some (.tup [.one (.flat true 3 (nods (sptF n E l).1)), .one (.s (.i .i64 (sptF n E l).2))], []) :=
 conP_at (a := ((n, E), l)) (fun x y _ _ h => by
  obtain ⟨⟨n, E⟩, l⟩ := x;obtain ⟨⟨n', E'⟩, l'⟩ := y;simp at h;obtain ⟨h1, h2⟩ := h;obtain ⟨rfl, rfl⟩ := grV_inj h1;rw [ints_inj h2]) h
noncomputable def XSpt : Cx := { Γ := [(22, TwoC), (27, OwnC), (28, ConcatC), (33, IndexC), (34, PairC)], T := T, nt := 204, inl := [(30, inlF Try.f30), (31, inlF Try.f31), (32, inlF Try.f32)], ext := [29], base := seqCR 29 67 1 srtP srtF }
theorem XSpt_s : Sound Try.prog T XSpt.Γ := sound_cons Two_ok (sound_cons Own_ok (sound_cons Concat_ok (sound_cons Index_ok (sound_cons Pair_ok sound_nil))))
theorem XSpt_ok : CrOk Try.prog (callAt 2 XSpt) := callAt_ok hmix hT XSpt_s (inl_cons Try.func30 (by rfl) (by rfl) (by rfl) (inl_cons Try.func31 (by rfl) (by rfl) (by rfl) (inl_cons Try.func32 (by rfl) (by rfl) (by rfl) inl_nil))) (seq_ok Sorted_call) 2
theorem concat2 {a b : List Int} : [a, b].flatten = a ++ b := by simp
theorem cat_at {F G : Flat} {a b : List Int} (ha : F = ints a) (hb : G = ints b) (hl : a.length + b.length <= 100000000) : ConcatC.F [.one (.nest false 1 [F, G])] = some (.one (.flat true 1 (ints (a ++ b))), []) := by
 subst ha hb
 have := ConcatC_at (L := [a, b]) ⟨by simp, by simp; omega⟩
 rw [concat2] at this
 exact this
theorem stN_snoc {L : List Ed} {x : Ed} : stN (L ++ [x]).reverse = nput (nput (stN L.reverse) x.1 (nget (stN L.reverse) x.1 ++ [x.2])) x.2 (nget (nput (stN L.reverse) x.1 (nget (stN L.reverse) x.1 ++ [x.2])) x.2 ++ [x.1]) := by rw [List.reverse_append]; rfl
theorem stT_snoc {L : List Ed} {x : Ed} : stT (L ++ [x]).reverse = mapPut (stT L.reverse) (keyE x) (L.length : Nat) := by
 rw [List.reverse_append]
 show mapPut (stT L.reverse) (keyE x) (L.reverse.length : Nat) = _
 rw [List.length_reverse]
set_option maxRecDepth 200000 in
set_option maxHeartbeats 4000000 in
theorem Spt_ok : SoundC Try.prog T 10 SptC := by
 refine sound_con (X := XSpt) (cr := callAt 2 XSpt) XSpt_ok hmix hT XSpt_s Try.func10 (by rfl) (by rfl) (by rfl) (by rfl) 3 ?_
 rintro ⟨⟨n, E⟩, l⟩ hl
 dsimp only at hl ⊢
 refine two_le ?_
 refine Call.by _ _ (TwoC_at hl) ?_
 refine Pick.by (fun h1 => ?_) (fun h1 => ?_)
 ·have hF : sptF n E l = ([], 1) := if_neg fun h => by rw [h] at h1; simp at h1
  rw [hF];refine ⟨rfl, ?_⟩
  (repeat' first|exact rfl|exact trivial|apply And.intro)
 have h1 : twoB n E l = true := by cases h : twoB n E l with | true => rfl | false => rw [h] at h1; simp at h1
 obtain ⟨hR, h2, ⟨hnd, hrng⟩, -⟩ := twoB_iff.1 h1
 have hEl := hR.2.2.1
 obtain ⟨W, hW⟩ : ∃ W, withL l E = W := ⟨_, rfl⟩
 have hWl : W.length <= 4000 := by rw [<- hW]; exact Nat.le_trans withL_len hEl
 have hWok := (withL_ok (l := l) hR).1
 rw [hW] at hWok
 have hF : sptF n E l = runSp 6 W.length l.length (startS E l) := by unfold sptF; rw [if_pos h1, hW]
 have hS : startS E l = { left := sortI l, near := stN W.reverse, thing := stT W.reverse, out := [] } := by unfold startS; rw [hW]
 have hok0 := start_ok (l := l) hR hnd
 refine Call.by _ _ (WithC_at (n := n) (E := E) (l := l) ⟨hEl, by omega, hR, hrng⟩) ?_
 rw [hW]
 refine LoopP.intro (α := Nat) (fun i => i <= W.length) (fun i => W.length - i) (fun i => [(1, .sl 0 none none), (6, .mp 1), (7, .ptr 2 0), (8, .sl 4 none none), (31, .sl 4 none none), (32, .s (.i .i64 W.length)), (33, .s (.i .i64 i))])
  (fun i => [(0, some (.flat false 1 (ints l))), (1, some (.map true 2 (stT (W.take i).reverse))), (2, some (.blk [.mp 3])), (3, some (.fmap (encN (stN (W.take i).reverse)))), (4, some (.flat true 2 (edges W)))]) 5 0 (by omega) (by refine Weak.bw (sg 0 [_,_,_,_,_]) (by ((repeat' first|exact rfl|exact trivial|apply And.intro) <;> (repeat' first|exact rfl|exact trivial|apply And.intro)); all_goals (exact sc_eq (by rw [qeq])))) ?_
 rintro i hi
 refine Pick.by (fun hc => ?_) (fun hc => ?_)
 ·have hlt : i < W.length := by have := of_decide_eq_true hc; omega
  obtain ⟨⟨a, b⟩, hx⟩ : ∃ x, W[i] = x := ⟨_, rfl⟩;have hWi : W[i]? = some (a, b) := by rw [qEq hlt, hx]
  have hok := hWok _ (qMq hWi);unfold okE at hok;have hn := hR.2.1;have hts : W.take (i + 1) = W.take i ++ [(a, b)] := by rw [List.take_add_one, hWi]; rfl
  have hnear : ∀ v, nget (stN (W.take i).reverse) v = nearL (W.take i) v := fun v => by
   have := stN_near (n := n) (r := (W.take i).reverse) (fun p hp => hWok p (List.mem_of_mem_take (by simpa using hp))) v;rw [List.reverse_reverse] at this; exact this
  have hnl : ∀ v, (nearL (W.take i) v).length <= 8000 := fun v => by have := nearL_length (W.take i) v; rw [List.length_take] at this; omega
  refine Idx.by i rfl (by rw [qeq]; exact hlt) ?_;refine Look.by _ (edges_get hWi) ?_;refine Pick.n ?_;refine Pick.n ?_;refine Pick.n ?_;obtain ⟨N, hN⟩ : ∃ N, stN (W.take i).reverse = N := ⟨_, rfl⟩;rw [hN] at hnear;rw [hN];refine Call.by _ _ (cat_at (a := nget N a) (b := [b]) (fget_enc N a) rfl (by rw [hnear, List.length_singleton]; have := hnl a; omega)) ?_;refine Pick.n ?_;refine Seg.by (by kernel_rfl) ?_;rw [fput_enc];obtain ⟨N1, hN1⟩ : ∃ N1, nput N a (nget N a ++ [b]) = N1 := ⟨_, rfl⟩;have hN1g : nget N1 b = nget N b := by rw [<- hN1, nget_put, if_neg (by omega)]
  rw [hN1];refine Pick.n ?_;refine Call.by _ _ (cat_at (a := nget N1 b) (b := [a]) (fget_enc N1 b) rfl (by rw [hN1g, hnear, List.length_singleton]; have := hnl b; omega)) ?_;refine Pick.n ?_;refine Seg.by (by kernel_rfl) ?_;rw [fput_enc];refine Pick.n ?_;have hNf : stN (W.take (i + 1)).reverse = nput N1 b (nget N1 b ++ [a]) := by rw [hts, stN_snoc, hN, hN1]
  have hTf : stT (W.take (i + 1)).reverse = mapPut (stT (W.take i).reverse) [a, b] (i : Int) := by
   rw [hts, stT_snoc, List.length_take, show min i W.length = i by omega]; rfl
  refine Next.by (i + 1) (by omega) (by omega) (by refine Weak.bw (sg 0 [_,_,_,_,_]) (by ((repeat' first|exact rfl|exact trivial|apply And.intro) <;> (repeat' first|exact rfl|exact trivial|apply And.intro)); all_goals ((first|exact sc_eq (by omega) | exact congrArg encN hNf | exact hTf))))
 have hil : i = W.length := by have := of_decide_eq_false hc; omega
 subst hil
 rw [List.take_length]
 refine ⟨rfl, rfl, _, _, _, .inl rfl, rfl, ⟨l, rfl, by omega⟩, ?_⟩
 have hS0 : ({ left := sortI l, near := stN W.reverse, thing := stT W.reverse, out := [] } : Sp) = startS E l := hS.symm
 refine LoopP.intro (α := Sp) (fun s => SpI s /\ runSp 6 W.length s.left.length s = sptF n E l /\ s.out.length + 2 * s.left.length <= 2 * l.length /\ ∀ v ∈ s.left, v ∈ l) (fun s => s.left.length) (fun s => [(6, .mp 0), (7, .ptr 1 0), (8, .sl 3 none none), (11, .sl 4 none none), (12, .sl 5 none none)])
  (fun s => [(0, some (.map true 2 s.thing)), (1, some (.blk [.mp 2])), (2, some (.fmap (encN s.near))), (3, some (.flat true 2 (edges W))), (4, some (.flat true 3 (nods s.out))), (5, some (.flat false 1 (ints s.left)))]) 6 { left := sortI l, near := stN W.reverse, thing := stT W.reverse, out := [] }
  ⟨by rw [hS0]; exact hok0, by rw [hS0, hF]; show runSp 6 W.length (sortI l).length _ = _; rw [sortI_length], by show 0 + 2 * (sortI l).length <= _; rw [sortI_length]; omega, fun v hv => mem_sortI.1 hv⟩ (by refine Weak.bf [229] [(0, some _), (1, some _), (2, some _), (3, some _), (4, none), (5, some _)] (by ((repeat' first|exact rfl|exact trivial|apply And.intro) <;> (repeat' first|exact rfl|exact trivial|apply And.intro)); all_goals ((first | exact (srtF_ints l).symm | exact srtF_ints l))) (by rfl)) ?_
 rintro s ⟨hok, hrun, hout, hin⟩
 have hin64 : ∀ {v : Int}, v ∈ s.left -> inI64 v = true := fun {v} hv => by have h1 := hrng v (hin v hv); have h2 := hR.2.1; exact inI64_of (by omega) (by omega)
 have hleft : s.left.length <= 1000 := by omega
 refine Pick.by (fun hc => ?_) (fun hc => ?_)
 case refine_2 =>
  have h2 : s.left.length <= 2 := by have := of_decide_eq_false hc; rw [qiq] at this; omega
  rw [runSp_stop h2] at hrun;rw [<- hrun];refine ⟨rfl, ?_⟩
  (repeat' first|exact rfl|exact trivial|apply And.intro)
 have h3 : ¬ s.left.length <= 2 := by have := of_decide_eq_true hc; rw [qiq] at this; omega
 obtain ⟨f, hf⟩ : ∃ f, s.left.length = f + 1 := ⟨s.left.length - 1, by omega⟩
 rw [hf] at hrun
 simp only [runSp] at hrun
 rw [if_neg h3] at hrun
 have h20 : ∀ v, (fget (encN s.near) v).length = (nget s.near v).length := fun v => by rw [fget_enc, qiq]
 refine LoopP.intro (α := Nat) (fun k => k <= s.left.length /\ ∀ j (hj : j < s.left.length), j < k -> (nget s.near s.left[j]).length ≠ 2) (fun k => s.left.length - k) (fun k => [(0, .sl 5 none none), (1, .fn 32 [.ptr 1 0]), (7, .s (.i .i64 s.left.length)), (8, .s (.i .i64 k)), (1000006, .mp 0), (1000007, .ptr 1 0), (1000008, .sl 3 none none), (1000011, .sl 4 none none), (1000012, .sl 5 none none)])
  (fun k => [(0, some (.map true 2 s.thing)), (1, some (.blk [.mp 2])), (2, some (.fmap (encN s.near))), (3, some (.flat true 2 (edges W))), (4, some (.flat true 3 (nods s.out))), (5, some (.flat false 1 (ints s.left)))]) 6 0 ⟨by omega, by omega⟩ (by refine Weak.bw (sg 0 [_,_,_,_,_,_]) (by ((repeat' first|exact rfl|exact trivial|apply And.intro) <;> (repeat' first|exact rfl|exact trivial|apply And.intro)); all_goals (exact sc_eq (by rw [qiq])))) ?_
 rintro k ⟨hk, hno⟩
 refine Pick.by (fun hc2 => ?_) (fun hc2 => ?_)
 case refine_2 =>
  have hke : k = s.left.length := by have := of_decide_eq_false hc2; omega
  have hpk : pickS s = none := by
   unfold pickS;rw [List.findIdx?_eq_none_iff];intro x hx;obtain ⟨j, hj, rfl⟩ := List.getElem_of_mem hx;exact decide_eq_false (hno j hj (by omega))
  rw [hpk] at hrun;rw [<- hrun];refine ⟨rfl, ?_⟩
  (repeat' first|exact rfl|exact trivial|apply And.intro)
 have hlt : k < s.left.length := by have := of_decide_eq_true hc2; omega
 have hkm : s.left[k] ∈ s.left := List.getElem_mem hlt
 refine Idx.by k rfl (by rw [qiq]; exact hlt) ?_
 refine Look.by _ (qhq (qEq hlt)) ?_
 refine Pick.T (hin64 hkm) ?_
 refine Pick.by (fun hc3 => ?_) (fun hc3 => ?_)
 case refine_2 =>
  have hne : (nget s.near s.left[k]).length ≠ 2 := fun e => ne_of_beq_false hc3 (by rw [h20, e]; rfl)
  refine Pick.n ?_;refine Next.by (k + 1) ⟨by omega, fun j hj hjk => by
   by_cases e : j = k
   ·subst e; exact hne
   ·exact hno j hj (by omega)⟩ (by omega) (by refine Weak.bw (sg 0 [_,_,_,_,_,_]) (by ((repeat' first|exact rfl|exact trivial|apply And.intro) <;> (repeat' first|exact rfl|exact trivial|apply And.intro)); all_goals (exact sc_eq (by omega))))
 have hc3 : (nget s.near s.left[k]).length = 2 := by have := eq_of_beq hc3; rw [h20] at this; omega
 have hpk : pickS s = some k := by
  unfold pickS;rw [List.findIdx?_eq_some_iff_getElem];exact ⟨hlt, decide_eq_true hc3, fun j hj => by rw [decide_eq_true_eq]; exact hno j (by omega) hj⟩
 rw [hpk] at hrun
 dsimp only at hrun
 obtain ⟨v, p, q, hp⟩ := hok.pick hpk
 obtain ⟨sok, sleft, slen⟩ := hok.step W.length hp
 have hvk : s.left[k]? = some v := hp.at_
 have hv64 := hin64 hp.mem
 have hp64 := hin64 hp.pm
 have hq64 := hin64 hp.qm
 refine Idx.by k rfl (by rw [qiq]; exact hlt) ?_
 refine Look.by _ (qhq hvk) ?_
 have hil := qiq s.left
 refine Rng.by 0 k rfl rfl (by omega) (by omega) ?_
 refine Pick.n ?_
 refine Rng.by (k + 1) s.left.length (by omega) (by rw [hil]) (by omega) (by omega) ?_
 have ct1 : cut (subOf none 0 0 k) (ints s.left) = ints (s.left.take k) := by
  show ((ints s.left).drop 0).take (k - 0) = _
  simp [ints]
 have ct2 : cut (subOf none 0 (k + 1) s.left.length) (ints s.left) = ints (s.left.drop (k + 1)) := cut_from
 refine Call.by _ _ (cat_at ct1 ct2 (by rw [List.length_take, List.length_drop]; omega)) ?_
 refine Seg.by (by kernel_rfl) ?_
 have hgv : fget (encN s.near) v = ints [p, q] := by rw [fget_enc, hp.near]
 refine Pick.T hv64 ?_
 refine Idx.by 0 rfl (by rw [hgv]; show 0 < 2; omega) ?_
 refine Look.by [.i .i64 p] (by rw [hgv]; rfl) ?_
 refine Pick.T hv64 ?_
 refine Idx.by 1 rfl (by rw [hgv]; show 1 < 2; omega) ?_
 refine Look.by [.i .i64 q] (by rw [hgv]; rfl) ?_
 refine Pick.T hv64 ?_
 refine Idx.by 0 rfl (by rw [hgv]; show 0 < 2; omega) ?_
 refine Look.by [.i .i64 p] (by rw [hgv]; rfl) ?_
 refine Pick.T hv64 ?_
 refine Idx.by 1 rfl (by rw [hgv]; show 1 < 2; omega) ?_
 refine Look.by [.i .i64 q] (by rw [hgv]; rfl) ?_
 refine Seg.by (by kernel_rfl) ?_
 refine Pick.T hv64 ?_
 obtain ⟨⟨a, b⟩, hab⟩ : ∃ e, pairF p q = e := ⟨_, rfl⟩
 have ha : (if q < p then q else p) = a := congrArg Prod.fst hab
 have hb : (if q > p then q else p) = b := congrArg Prod.snd hab
 have hends : endsS s v = (a, b) := by unfold endsS; rw [hp.near]; exact hab
 have hgd : s.left.getD k 0 = v := by rw [qDq, hvk]; rfl
 have hlE : s.left.eraseIdx k = s.left.take k ++ s.left.drop (k + 1) := List.eraseIdx_eq_take_drop_succ ..
 have habm : (a ∈ s.left /\ a ≠ v) /\ (b ∈ s.left /\ b ≠ v) := by
  rcases pairF_two p q with ⟨e1, e2⟩ | ⟨e1, e2⟩ <;> rw [hab] at e1 e2 <;> dsimp only at e1 e2 <;> subst e1 <;> subst e2
  ·exact ⟨⟨hp.pm, hp.pv⟩, hp.qm, hp.qv⟩
  ·exact ⟨⟨hp.qm, hp.qv⟩, hp.pm, hp.pv⟩
 have ha64 := hin64 habm.1.1
 have hb64 := hin64 habm.2.1
 have hab2 : a ≠ b := by have := pairF_lt hp.pq; rw [hab] at this; dsimp only at this; omega
 have pr64 : ∀ {x y : Int}, x ∈ s.left -> y ∈ s.left -> inI64 (pairF x y).1 = true /\ inI64 (pairF x y).2 = true := fun {x y} hx hy => by
  rcases pairF_two x y with ⟨e1, e2⟩ | ⟨e1, e2⟩ <;> rw [e1, e2]
  ·exact ⟨hin64 hx, hin64 hy⟩
  ·exact ⟨hin64 hy, hin64 hx⟩
 have hnpq : [p, q].Nodup := by simp [hp.pq]
 have hnl : ∀ u ∈ s.left, (nget s.near u).length <= 1000 := fun u hu => Nat.le_trans (nodup_len (hok.nd u hu) fun x hx => (hok.sym u hu x hx).1) hleft
 refine LoopP.intro (α := Nat) (fun i => i <= 2) (fun i => 2 - i) (fun i => [(6, .mp 0), (7, .ptr 1 0), (8, .sl 3 none none), (11, .sl 4 none none), (12, .sl 5 none none), (14, .s (.i .i64 v)), (15, .s (.i .i64 a)), (16, .s (.i .i64 b)), (114, .sl 6 none none), (115, .s (.i .i64 2)), (116, .s (.i .i64 i))])
  (fun i => [(0, some (.map true 2 s.thing)), (1, some (.blk [.mp 2])), (2, some (.fmap (encN (cutsV v ([p, q].take i) s.near)))), (3, some (.flat true 2 (edges W))), (4, some (.flat true 3 (nods s.out))), (5, some (.flat true 1 (ints (s.left.eraseIdx k)))), (6, some (.flat false 1 (ints [p, q])))]) 7 0 (by omega) (by refine Weak.bw (sg 0 [_,_,_,_,_,_,_]) (by ((repeat' first|exact rfl|exact trivial|apply And.intro) <;> (repeat' first|exact rfl|exact trivial|apply And.intro)); all_goals ((first|exact sc_eq ha.symm | exact sc_eq hb.symm | exact sc_eq (by rw [hgv]; rfl) | exact hgv.symm | exact congrArg ints hlE)))) ?_
 rintro i hi
 refine Pick.by (fun hc4 => ?_) (fun hc4 => ?_)
 ·have hlt4 : i < 2 := by have := of_decide_eq_true hc4; omega
  obtain ⟨x, hx⟩ : ∃ x, [p, q][i]'hlt4 = x := ⟨_, rfl⟩;have hxi : [p, q][i]? = some x := by rw [qEq (by exact hlt4), hx]
  have hxm : x ∈ s.left /\ v ∈ nget s.near x := by
   have : x = p \/ x = q := by simpa using qMq hxi
   rcases this with rfl | rfl
   ·exact ⟨hp.pm, hp.vp⟩
   ·exact ⟨hp.qm, hp.vq⟩
  have hxn : x ∉ [p, q].take i := fun hm => by
   have h1 := hnpq;rw [<- List.take_append_drop i [p, q], List.drop_eq_getElem_cons (by exact hlt4), hx, List.nodup_append] at h1;exact h1.2.2 x hm x List.mem_cons_self rfl
  have hx64 := hin64 hxm.1;obtain ⟨N, hN⟩ : ∃ N, cutsV v ([p, q].take i) s.near = N := ⟨_, rfl⟩;have hNx : nget N x = nget s.near x := by rw [<- hN, cuts_get ((List.take_sublist i [p, q]).nodup hnpq), if_neg hxn]
  have hNn : cutsV v ([p, q].take (i + 1)) s.near = nput N x ((nget N x).erase v) := by
   rw [List.take_add_one, hxi];show ([p, q].take i ++ [x]).foldl (cutV v) s.near = _
   rw [List.foldl_append];show cutV v (cutsV v ([p, q].take i) s.near) x = _
   rw [hN]; rfl
  rw [hN];have hfx : fget (encN N) x = ints (nget s.near x) := by rw [fget_enc, hNx]
  have hrl := hnl x hxm.1;have hidx : idxI (nget s.near x) v = ((nget s.near x).idxOf v : Nat) := if_pos hxm.2;have hio : (nget s.near x).idxOf v < (nget s.near x).length := List.idxOf_lt_length_iff.2 hxm.2;obtain ⟨o, ho⟩ : ∃ o, (nget s.near x).idxOf v = o := ⟨_, rfl⟩;rw [ho] at hidx hio;have her : (nget s.near x).take o ++ (nget s.near x).drop (o + 1) = (nget N x).erase v := by
   rw [hNx, <- eraseIdx_erase (hok.nd x hxm.1) (k := o) (by rw [<- ho, qEq (by rw [ho]; exact hio), List.getElem_idxOf]), List.eraseIdx_eq_take_drop_succ]
  refine Idx.by i rfl hlt4 ?_;refine Look.by _ (qhq hxi) ?_;refine Pick.T hx64 ?_;refine Call.by _ _ (show IndexC.F [.one (.flat false 1 (fget (encN N) x)), .one (.s (.i .i64 v))] = some (.one (.s (.i .i64 (o : Nat))), []) by rw [hfx, <- hidx]; exact IndexC_at v (by omega)) ?_;have hfl : (fget (encN N) x).length = (nget s.near x).length := by rw [hfx, qiq]
  refine Pick.T hx64 ?_;refine Rng.by 0 o rfl rfl (by omega) (by rw [hfl]; omega) ?_;refine Pick.T hx64 ?_;refine Pick.n ?_;refine Rng.by (o + 1) (nget s.near x).length (by omega) (by rw [hfl]) (by omega) (by rw [hfl]; omega) ?_;have ct1 : cut (subOf none 0 0 o) (fget (encN N) x) = ints ((nget s.near x).take o) := by
   rw [hfx];show ((ints (nget s.near x)).drop 0).take (o - 0) = _
   simp [ints]
  have ct2 : cut (subOf none 0 (o + 1) (nget s.near x).length) (fget (encN N) x) = ints ((nget s.near x).drop (o + 1)) := by rw [hfx]; exact cut_from
  refine Call.by _ _ (cat_at ct1 ct2 (by rw [List.length_take, List.length_drop]; omega)) ?_;refine Pick.T hx64 ?_;refine Seg.by (by kernel_rfl) ?_;refine Pick.n ?_;have hNf : encN (cutsV v ([p, q].take (i + 1)) s.near) = fput (encN N) x (ints ((nget s.near x).take o ++ (nget s.near x).drop (o + 1))) := by rw [hNn, <- her, fput_enc]
  refine Next.by (i + 1) (by omega) (by omega) (by refine Weak.bw (sg 0 [_,_,_,_,_,_,_]) (by ((repeat' first|exact rfl|exact trivial|apply And.intro) <;> (repeat' first|exact rfl|exact trivial|apply And.intro)); all_goals ((first|exact sc_eq (by omega) | exact hNf))))
 have hi2 : i = 2 := by have := of_decide_eq_false hc4; omega
 subst hi2
 have hcut : cutsV v ([p, q].take 2) s.near = cutsV v (nget s.near v) s.near := by rw [hp.near]; rfl
 rw [hcut]
 obtain ⟨N, hN⟩ : ∃ N, cutsV v (nget s.near v) s.near = N := ⟨_, rfl⟩
 rw [hN]
 have hva := pr64 hp.mem habm.1.1
 have hvb := pr64 hp.mem habm.2.1
 have hpab := pr64 habm.1.1 habm.2.1
 have hpe : pairF a b = (a, b) := by rw [<- hab, show a = (pairF p q).1 by rw [hab], show b = (pairF p q).2 by rw [hab]]; exact pairF_idem p q
 obtain ⟨o1, ho1⟩ : ∃ o1, s.out ++ [((1, mapGet s.thing (keyE (pairF v a)), mapGet s.thing (keyE (pairF v b))) : Nd)] = o1 := ⟨_, rfl⟩
 have ho1l : o1.length = s.out.length + 1 := by rw [<- ho1]; simp
 have hno1 : nods o1 = nods s.out ++ [[.i .i64 1, .i .i64 (mapGet s.thing (keyE (pairF v a))), .i .i64 (mapGet s.thing (keyE (pairF v b)))]] := by rw [<- ho1]; exact nods_snoc ..
 have hst : stepS W.length s k = if mapHas s.thing (keyE (a, b)) = true then
   { left := s.left.eraseIdx k, near := N, thing := mapPut s.thing (keyE (a, b)) ((W.length : Int) + (o1.length : Int)), out := o1 ++ [(2, mapGet s.thing (keyE (a, b)), (W.length : Int) + (o1.length : Int) - 1)] }
   else { left := s.left.eraseIdx k, near := joinN N a b, thing := mapPut s.thing (keyE (a, b)) ((W.length : Int) + (o1.length : Int) - 1), out := o1 } := by
  unfold stepS;simp only [hgd, hends, hN, ho1]
 have hrm : ((nods s.out).length : Int) = s.out.length := by rw [nods_length]
 refine Call.by _ _ (PairC_at v a) ?_
 refine Pick.T hva.1 ?_
 refine Pick.T hva.2 ?_
 refine Call.by _ _ (PairC_at v b) ?_
 refine Pick.T hvb.1 ?_
 refine Pick.T hvb.2 ?_
 refine Pick.T (by rw [decide_eq_true_iff, nods_length]; show _ + 1 <= _; omega) ?_
 refine Seg.by (by kernel_rfl) ?_
 refine Call.by _ _ (PairC_at a b) ?_
 refine Pick.T hpab.1 ?_
 refine Pick.T hpab.2 ?_
 have hko : keyE (pairF a b) = keyE (a, b) := by rw [hpe]
 refine Pick.by (fun hc5 => ?_) (fun hc5 => ?_)
 ·have hc5 : mapHas s.thing (keyE (a, b)) = true := by rw [<- hko]; exact hc5
  rw [if_pos hc5] at hst;obtain ⟨s', hs'⟩ : ∃ s', stepS W.length s k = s' := ⟨_, rfl⟩;rw [hs'] at hst sok sleft slen hrun;have e1 : s'.left = s.left.eraseIdx k := by rw [hst]
  have e2 : s'.near = N := by rw [hst]
  have e3 : s'.thing = mapPut s.thing (keyE (pairF a b)) ((W.length : Int) + (o1.length : Int)) := by rw [hst, hko]
  have e4 : s'.out = o1 ++ [(2, mapGet s.thing (keyE (pairF a b)), (W.length : Int) + (o1.length : Int) - 1)] := by rw [hst, hko]
  have hX : (nods s.out ++ [[Sc.i .i64 1, Sc.i .i64 (mapGet s.thing (keyE (pairF v a))), Sc.i .i64 (mapGet s.thing (keyE (pairF v b)))]]) = nods o1 := hno1.symm;have hXl : (((nods s.out ++ [[Sc.i .i64 1, Sc.i .i64 (mapGet s.thing (keyE (pairF v a))), Sc.i .i64 (mapGet s.thing (keyE (pairF v b)))]]) : Flat).length : Int) = o1.length := by rw [hX, nods_length]
  have hWe : ((edges W).length : Int) = W.length := by rw [qeq]
  have e4n : nods s'.out = ((nods s.out ++ [[Sc.i .i64 1, Sc.i .i64 (mapGet s.thing (keyE (pairF v a))), Sc.i .i64 (mapGet s.thing (keyE (pairF v b)))]]) ++ [[Sc.i .i64 2, Sc.i .i64 (mapGet s.thing (keyE (pairF a b))), Sc.i .i64 (((edges W).length : Int) + ((nods s.out ++ [[Sc.i .i64 1, Sc.i .i64 (mapGet s.thing (keyE (pairF v a))), Sc.i .i64 (mapGet s.thing (keyE (pairF v b)))]]).length : Int) - 1)]]) := by rw [e4, nods_snoc, hXl, hWe, hX]
  have e4l : ((((nods s.out ++ [[Sc.i .i64 1, Sc.i .i64 (mapGet s.thing (keyE (pairF v a))), Sc.i .i64 (mapGet s.thing (keyE (pairF v b)))]]) ++ [[Sc.i .i64 2, Sc.i .i64 (mapGet s.thing (keyE (pairF a b))), Sc.i .i64 (((edges W).length : Int) + ((nods s.out ++ [[Sc.i .i64 1, Sc.i .i64 (mapGet s.thing (keyE (pairF v a))), Sc.i .i64 (mapGet s.thing (keyE (pairF v b)))]]).length : Int) - 1)]]) : Flat).length : Int) = o1.length + 1 := by rw [<- e4n, nods_length, e4, List.length_append, List.length_singleton]; omega
  refine Pick.T (show inI64 (((edges W).length : Int) + (((nods s.out ++ [[Sc.i .i64 1, Sc.i .i64 (mapGet s.thing (keyE (pairF v a))), Sc.i .i64 (mapGet s.thing (keyE (pairF v b)))]]) : Flat).length : Int)) = true by rw [hXl, hWe]; exact inI64_of (by omega) (by omega)) ?_;refine Pick.T (show inI64 (((edges W).length : Int) + (((nods s.out ++ [[Sc.i .i64 1, Sc.i .i64 (mapGet s.thing (keyE (pairF v a))), Sc.i .i64 (mapGet s.thing (keyE (pairF v b)))]]) : Flat).length : Int) - 1) = true by rw [hXl, hWe]; exact inI64_of (by omega) (by omega)) ?_;refine Pick.T (show decide (((nods s.out ++ [[Sc.i .i64 1, Sc.i .i64 (mapGet s.thing (keyE (pairF v a))), Sc.i .i64 (mapGet s.thing (keyE (pairF v b)))]]) : Flat).length + 1 <= 2147483648) = true by rw [decide_eq_true_iff]; omega) ?_;refine Call.by _ _ (PairC_at a b) ?_;refine Pick.T (show inI64 (((edges W).length : Int) + ((((nods s.out ++ [[Sc.i .i64 1, Sc.i .i64 (mapGet s.thing (keyE (pairF v a))), Sc.i .i64 (mapGet s.thing (keyE (pairF v b)))]]) ++ [[Sc.i .i64 2, Sc.i .i64 (mapGet s.thing (keyE (pairF a b))), Sc.i .i64 (((edges W).length : Int) + ((nods s.out ++ [[Sc.i .i64 1, Sc.i .i64 (mapGet s.thing (keyE (pairF v a))), Sc.i .i64 (mapGet s.thing (keyE (pairF v b)))]]).length : Int) - 1)]]) : Flat).length : Int)) = true by rw [e4l, hWe]; exact inI64_of (by omega) (by omega)) ?_;refine Pick.T (show inI64 (((edges W).length : Int) + ((((nods s.out ++ [[Sc.i .i64 1, Sc.i .i64 (mapGet s.thing (keyE (pairF v a))), Sc.i .i64 (mapGet s.thing (keyE (pairF v b)))]]) ++ [[Sc.i .i64 2, Sc.i .i64 (mapGet s.thing (keyE (pairF a b))), Sc.i .i64 (((edges W).length : Int) + ((nods s.out ++ [[Sc.i .i64 1, Sc.i .i64 (mapGet s.thing (keyE (pairF v a))), Sc.i .i64 (mapGet s.thing (keyE (pairF v b)))]]).length : Int) - 1)]]) : Flat).length : Int) - 1) = true by rw [e4l, hWe]; exact inI64_of (by omega) (by omega)) ?_;refine Pick.T hpab.1 ?_;refine Pick.T hpab.2 ?_;have e3n : s'.thing = mapPut s.thing (keyE (pairF a b)) (((edges W).length : Int) + ((((nods s.out ++ [[Sc.i .i64 1, Sc.i .i64 (mapGet s.thing (keyE (pairF v a))), Sc.i .i64 (mapGet s.thing (keyE (pairF v b)))]]) ++ [[Sc.i .i64 2, Sc.i .i64 (mapGet s.thing (keyE (pairF a b))), Sc.i .i64 (((edges W).length : Int) + ((nods s.out ++ [[Sc.i .i64 1, Sc.i .i64 (mapGet s.thing (keyE (pairF v a))), Sc.i .i64 (mapGet s.thing (keyE (pairF v b)))]]).length : Int) - 1)]]) : Flat).length : Int) - 1) := by rw [e3, e4l, hWe]; congr 1; omega
  have hol : s'.out.length = o1.length + 1 := by rw [e4, List.length_append, List.length_singleton]
  refine Next.by s' ⟨sok, by rw [show s'.left.length = f by omega]; exact hrun, by omega, fun u hu => hin u (List.mem_of_mem_erase (by rw [sleft] at hu; exact hu))⟩ (by omega) (by refine Weak.bf [5] (sg 0 [_,_,_,_,_,_]) (by ((repeat' first|exact rfl|exact trivial|apply And.intro) <;> (repeat' first|exact rfl|exact trivial|apply And.intro)); all_goals ((first | exact e3n | exact congrArg encN e2 | exact e4n | exact congrArg ints e1))) (by rfl))
 ·have hc5 : ¬ mapHas s.thing (keyE (a, b)) = true := by rw [<- hko]; intro e; rw [show mapHas s.thing (keyE (pairF a b)) = false from hc5] at e; simp at e
  rw [if_neg hc5] at hst;obtain ⟨s', hs'⟩ : ∃ s', stepS W.length s k = s' := ⟨_, rfl⟩;rw [hs'] at hst sok sleft slen hrun;have e1 : s'.left = s.left.eraseIdx k := by rw [hst]
  have e2 : s'.near = joinN N a b := by rw [hst]
  have e3 : s'.thing = mapPut s.thing (keyE (pairF a b)) ((W.length : Int) + (o1.length : Int) - 1) := by rw [hst, hko]
  have e4 : s'.out = o1 := by rw [hst]
  have hnN : ∀ u ∈ s.left, (nget N u).length <= 1000 := fun u hu => by
   rw [<- hN, hp.near, cuts_get hnpq];have := hnl u hu;split
   ·exact Nat.le_trans List.length_erase_le this
   ·exact this
  have hna := hnN a habm.1.1;have hnb := hnN b habm.2.1;refine Pick.T ha64 ?_;refine Call.by _ _ (cat_at (a := nget N a) (b := [b]) (fget_enc N a) rfl (by rw [List.length_singleton]; omega)) ?_;refine Pick.T ha64 ?_;refine Seg.by (by kernel_rfl) ?_;have hf1 : fget (fput (encN N) a (ints (nget N a ++ [b]))) b = ints (nget N b) := by rw [fput_enc, fget_enc, nget_put, if_neg hab2]
  have e2n : encN s'.near = fput (fput (encN N) a (ints (nget N a ++ [b]))) b (ints (nget N b ++ [a])) := by
   rw [e2, fput_enc, fput_enc];show encN (nput _ b (nget (nput N a (nget N a ++ [b])) b ++ [a])) = _
   rw [nget_put, if_neg hab2]
  refine Pick.T hb64 ?_;refine Call.by _ _ (cat_at (a := nget N b) (b := [a]) hf1 rfl (by rw [List.length_singleton]; omega)) ?_;refine Pick.T hb64 ?_;refine Seg.by (by kernel_rfl) ?_;refine Call.by _ _ (PairC_at a b) ?_;have hX : (nods s.out ++ [[Sc.i .i64 1, Sc.i .i64 (mapGet s.thing (keyE (pairF v a))), Sc.i .i64 (mapGet s.thing (keyE (pairF v b)))]]) = nods o1 := hno1.symm;have hXl : (((nods s.out ++ [[Sc.i .i64 1, Sc.i .i64 (mapGet s.thing (keyE (pairF v a))), Sc.i .i64 (mapGet s.thing (keyE (pairF v b)))]]) : Flat).length : Int) = o1.length := by rw [hX, nods_length]
  have hWe : ((edges W).length : Int) = W.length := by rw [qeq]
  have e4n : nods s'.out = (nods s.out ++ [[Sc.i .i64 1, Sc.i .i64 (mapGet s.thing (keyE (pairF v a))), Sc.i .i64 (mapGet s.thing (keyE (pairF v b)))]]) := by rw [e4, hX]
  refine Pick.T (show inI64 (((edges W).length : Int) + (((nods s.out ++ [[Sc.i .i64 1, Sc.i .i64 (mapGet s.thing (keyE (pairF v a))), Sc.i .i64 (mapGet s.thing (keyE (pairF v b)))]]) : Flat).length : Int)) = true by rw [hXl, hWe]; exact inI64_of (by omega) (by omega)) ?_;refine Pick.T (show inI64 (((edges W).length : Int) + (((nods s.out ++ [[Sc.i .i64 1, Sc.i .i64 (mapGet s.thing (keyE (pairF v a))), Sc.i .i64 (mapGet s.thing (keyE (pairF v b)))]]) : Flat).length : Int) - 1) = true by rw [hXl, hWe]; exact inI64_of (by omega) (by omega)) ?_;refine Pick.T hpab.1 ?_;refine Pick.T hpab.2 ?_;have e3n : s'.thing = mapPut s.thing (keyE (pairF a b)) (((edges W).length : Int) + (((nods s.out ++ [[Sc.i .i64 1, Sc.i .i64 (mapGet s.thing (keyE (pairF v a))), Sc.i .i64 (mapGet s.thing (keyE (pairF v b)))]]) : Flat).length : Int) - 1) := by rw [e3, hXl, hWe]
  have hol : s'.out.length = o1.length := by rw [e4]
  refine Next.by s' ⟨sok, by rw [show s'.left.length = f by omega]; exact hrun, by omega, fun u hu => hin u (List.mem_of_mem_erase (by rw [sleft] at hu; exact hu))⟩ (by omega) (by refine Weak.bf [5] (sg 0 [_,_,_,_,_,_]) (by ((repeat' first|exact rfl|exact trivial|apply And.intro) <;> (repeat' first|exact rfl|exact trivial|apply And.intro)); all_goals ((first | exact e3n | exact e2n | exact e4n | exact congrArg ints e1))) (by rfl))
noncomputable def CkC : Con := conP 3 (fun a : (Int × List Ed) × List Int × List Nd => a.2.1.length <= 1000 /\ a.2.2.length <= 1000000) (fun a => [grV a.1.1 a.1.2, .one (.flat false 1 (ints a.2.1)), .one (.flat false 3 (nods a.2.2))]) (fun a => .one (.s (.b (ckF a.1.1 a.1.2 a.2.1 a.2.2))))
theorem CkC_at {n : Int} {E : List Ed} {l : List Int} {t : List Nd} (h : l.length <= 1000 /\ t.length <= 1000000) : CkC.F [grV n E, .one (.flat false 1 (ints l)), .one (.flat false 3 (nods t))] = some (.one (.s (.b (ckF n E l t))), []) :=
 conP_at (a := ((n, E), l, t)) (fun x y _ _ h => by
  obtain ⟨⟨n, E⟩, l, t⟩ := x;obtain ⟨⟨n', E'⟩, l', t'⟩ := y;simp at h;obtain ⟨h1, h2, h3⟩ := h;obtain ⟨rfl, rfl⟩ := grV_inj h1;rw [ints_inj h2, nods_inj h3]) h
theorem middle_mem {x y : Ed} (h : (middleF x y).2 = true) : ∃ s t : Ed, (s = x \/ s = (x.2, x.1)) /\ (t = y \/ t = (y.2, y.1)) /\ middleF x y = ((s.2, pairF s.1 t.2), true) := by
 obtain ⟨⟨s, t⟩, hp, h1, h2, h3⟩ := midL_get h
 obtain ⟨hs, ht⟩ := mem_sides2.1 hp
 exact ⟨s, t, hs, ht, h3⟩
def RngE (x : Ed) : Prop := (0 <= x.1 /\ x.1 < 1000) /\ 0 <= x.2 /\ x.2 < 1000
theorem rng_pair {a b : Int} (h : 0 <= a /\ a < 1000) (k : 0 <= b /\ b < 1000) : RngE (pairF a b) := by
 unfold RngE
 rcases pairF_two a b with ⟨e1, e2⟩ | ⟨e1, e2⟩ <;> rw [e1, e2]
 ·exact ⟨h, k⟩
 ·exact ⟨k, h⟩
theorem middle_rng {x y : Ed} (hx : RngE x) (hy : RngE y) (h : (middleF x y).2 = true) : (0 <= (middleF x y).1.1 /\ (middleF x y).1.1 < 1000) /\ RngE (middleF x y).1.2 := by
 obtain ⟨s, t, hs, ht, e⟩ := middle_mem h
 have rs : RngE s := by rcases hs with rfl | rfl; · exact hx
                        ·exact ⟨hx.2, hx.1⟩
 have rt : RngE t := by rcases ht with rfl | rfl; · exact hy
                        ·exact ⟨hy.2, hy.1⟩
 rw [e]
 exact ⟨rs.2, rng_pair rs.1 rt.2⟩
structure CkW (E : List Ed) (t : List Nd) (i : Nat) (s : Ck) : Prop where
 rng : ∀ x ∈ s.poles, RngE x
 run : ckRun (t.drop i) s = ckRun t (ckStart E t.length)
 len : s.poles.length = E.length + i
 ulen : s.used.length = E.length + t.length
 us : ∀ j, 0 <= s.used.getD j 0 /\ s.used.getD j 0 <= 1
 mid : ∀ v, 0 <= mapGet s.mid [v] /\ mapGet s.mid [v] <= i
theorem ckw_start {E : List Ed} {t : List Nd} (hE : ∀ x ∈ E, RngE x) : CkW E t 0 (ckStart E t.length) := by
 refine ⟨hE, by rw [List.drop_zero], rfl, by simp [ckStart], fun j => ?_, fun v => ⟨Int.le_refl _, Int.le_refl _⟩⟩
 have : (ckStart E t.length).used.getD j 0 = 0 := by
  show (List.replicate _ _).getD j 0 = 0
  rw [qDq, List.getElem?_replicate]; split <;> rfl
 omega
theorem us2 {u : List Int} {a b : Nat} (h : ∀ j, 0 <= u.getD j 0 /\ u.getD j 0 <= 1) : ∀ j, 0 <= ((u.set a 1).set b 1).getD j 0 /\ ((u.set a 1).set b 1).getD j 0 <= 1 := by
 have one : ∀ {u : List Int} {a : Nat}, (∀ j, 0 <= u.getD j 0 /\ u.getD j 0 <= 1) -> ∀ j, 0 <= (u.set a 1).getD j 0 /\ (u.set a 1).getD j 0 <= 1 := fun {u a} h j => by
  rw [qDq, List.getElem?_set];by_cases e : a = j
  ·rw [if_pos e];by_cases hl : a < u.length
   ·rw [if_pos hl]; exact ⟨by decide, by decide⟩
   ·rw [if_neg hl]; exact ⟨by decide, by decide⟩
  ·rw [if_neg e, <- qDq]; exact h j
 exact one (one h)
theorem ckw_step {E : List Ed} {t : List Nd} {i : Nat} {s s' : Ck} {x : Nd} (h : CkW E t i s) (hx : t[i]? = some x) (hs : ckStep s x = some s') : CkW E t (i + 1) s' := by
 have hlt := (qSq.1 hx).1
 have hr := h.run
 rw [List.drop_eq_getElem_cons hlt, show t[i] = x by rw [qEq hlt] at hx; injection hx] at hr
 simp only [ckRun, hs] at hr
 have rp : ∀ {i : Int}, 0 <= i -> i < s.poles.length -> RngE (s.pol i) := fun {i} h0 h1 => by
  unfold Ck.pol;rw [qDq, qEq (by omega)];exact h.rng _ (List.getElem_mem _)
 have hl : s'.poles.length = s.poles.length + 1 /\ s'.used = (s.used.set x.2.1.toNat 1).set x.2.2.toNat 1 /\ (s'.mid = s.mid \/ ∃ m, s'.mid = midIn s.mid m) /\ ∃ e, RngE e /\ s'.poles = s.poles ++ [e] := by
  unfold ckStep at hs;split at hs
  ·rename_i hf;split at hs
   ·split at hs
    ·rename_i hm;injection hs with hs; subst hs; exact ⟨by simp, rfl, .inr ⟨_, rfl⟩, _, (middle_rng (rp hf.2.1 hf.2.2.2.1) (rp hf.2.2.1 hf.2.2.2.2.1) hm).2, rfl⟩
    ·simp at hs
   ·split at hs
    ·split at hs
     ·injection hs with hs; subst hs; exact ⟨by simp, rfl, .inl rfl, _, rp hf.2.1 hf.2.2.2.1, rfl⟩
     ·simp at hs
    ·simp at hs
  ·simp at hs
 refine ⟨fun y hy => ?_, hr, by rw [hl.1, h.len]; omega, by rw [hl.2.1, List.length_set, List.length_set, h.ulen], by rw [hl.2.1]; exact us2 h.us, fun v => ?_⟩
 ·obtain ⟨e, he, hpe⟩ := hl.2.2.2;rw [hpe] at hy;rcases List.mem_append.1 hy with hy | hy
  ·exact h.rng y hy
  ·rw [List.mem_singleton] at hy; subst hy; exact he
 have hm := h.mid v
 rcases hl.2.2.1 with e | ⟨m, e⟩
 ·rw [e]; omega
 ·rw [e];unfold midIn;rw [mapGet_put];have hm2 := h.mid m;split <;> omega
theorem ckw_bad {E : List Ed} {t : List Nd} {i : Nat} {s : Ck} {x : Nd} (h : CkW E t i s) (hx : t[i]? = some x) (hs : ckStep s x = none) : ckRun t (ckStart E t.length) = none := by
 have hlt := (qSq.1 hx).1
 rw [<- h.run, List.drop_eq_getElem_cons hlt, show t[i] = x by rw [qEq hlt] at hx; injection hx]
 simp only [ckRun, hs]
noncomputable def XCk : Cx := { Γ := [(22, TwoC), (27, OwnC), (38, MiddleC)], T := T, nt := 159 }
set_option maxRecDepth 200000 in
set_option maxHeartbeats 4000000 in
theorem Ck_ok : SoundC Try.prog T 14 CkC := by
 refine sound_con (X := XCk) cr_none hmix hT (sound_cons Two_ok (sound_cons Own_ok (sound_cons Middle_ok sound_nil))) Try.func14 (by rfl) (by rfl) (by rfl) (by rfl) 4 ?_
 rintro ⟨⟨n, E⟩, l, t⟩ ⟨hl, ht⟩
 dsimp only at hl ht ⊢
 refine two_le ?_
 refine Call.by _ _ (TwoC_at hl) ?_
 refine Pick.by (fun h1 => ?_) (fun h1 => ?_)
 ·refine ⟨rfl, ?_⟩;show Sc.b false = Sc.b (ckF n E l t)
  unfold ckF;have h1 : (!twoB n E l) = true := h1
  cases hc : twoB n E l with
  | true => rw [hc] at h1; simp at h1
  | false => rfl
 have h1 : twoB n E l = true := by cases h : twoB n E l with | true => rfl | false => rw [h] at h1; simp at h1
 obtain ⟨hR, h2, ⟨hnd, hrng⟩, -⟩ := twoB_iff.1 h1
 have hEl := hR.2.2.1
 obtain ⟨W, hW⟩ : ∃ W, withL l E = W := ⟨_, rfl⟩
 have hWl : W.length <= 4000 := by rw [<- hW]; exact Nat.le_trans withL_len hEl
 refine Call.by _ _ (WithC_at (n := n) (E := E) (l := l) ⟨hEl, by omega, hR, hrng⟩) ?_
 rw [hW]
 have htl := nods_length t
 have hel := qeq W
 have hWr : ∀ x ∈ W, RngE x := fun x hx => by
  have h1 := (withL_ok (l := l) hR).1 x (by rw [hW]; exact hx);have h2 := hR.2.1;unfold okE at h1;exact ⟨⟨by omega, by omega⟩, by omega, by omega⟩
 refine Pick.n ?_
 refine Pick.by (fun h3 => ?_) (fun h3 => ?_)
 ·have h3 : t.length + 1 ≠ W.length := by have := bne_iff_ne.1 h3; rw [htl, hel] at this; omega
  refine ⟨rfl, ?_⟩;show Sc.b false = Sc.b (ckF n E l t)
  unfold ckF;rw [hW, decide_eq_false h3, Bool.false_and, Bool.and_false]
 have h3 : t.length + 1 = W.length := by
  have h3 : ((nods t).length : Int) = ((edges W).length : Int) - 1 := by simpa using h3
  rw [htl, hel] at h3; omega
 have hF : ckF n E l t = ckB E l t := by unfold ckF; rw [h1, hW, decide_eq_true h3]; rfl
 have bad : ckRun t (ckStart W t.length) = none -> Sc.b false = Sc.b (ckF n E l t) := fun h => by rw [hF]; unfold ckB; rw [hW, h]
 have good : ∀ s, ckRun t (ckStart W t.length) = some s -> ckF n E l t = decide (CkEnd l s) := fun s h => by rw [hF]; unfold ckB; rw [hW, h]
 refine Pick.n ?_
 refine Pick.T (beq_self_eq_true _) ?_
 refine Idx.by (W.length + t.length) (by rw [htl, hel]; omega) (by omega) ?_
 refine LoopP.intro (α := Nat × Ck) (fun a => a.1 <= t.length /\ CkW W t a.1 a.2) (fun a => t.length - a.1) (fun a => [(1, .sl 0 none none), (7, .sl 2 none none), (8, .sl 3 none none), (9, .mp 4), (41, .sl 1 none none), (42, .s (.i .i64 t.length)), (43, .s (.i .i64 a.1))])
  (fun a => [(0, some (.flat false 1 (ints l))), (1, some (.flat false 3 (nods t))), (2, some (.flat true 2 (edges a.2.poles))), (3, some (.flat true 1 (ints a.2.used))), (4, some (.map false 1 a.2.mid))]) 5 (0, ckStart W t.length) ⟨by omega, ckw_start hWr⟩ (by refine Weak.bw (sg 0 [_,_,_,_,_]) (by ((repeat' first|exact rfl|exact trivial|apply And.intro) <;> (repeat' first|exact rfl|exact trivial|apply And.intro)); all_goals ((first|exact sc_eq (by rw [htl]) | (show ints (List.replicate _ _) = _; simp [ints]) | (show _ = ints (List.replicate _ _); simp [ints]))))) ?_
 rintro ⟨i, s⟩ ⟨hi, hw⟩
 dsimp only at hi hw ⊢
 have hpl := hw.len
 have hul := hw.ulen
 refine Pick.by (fun hc => ?_) (fun hc => ?_)
 ·have hlt : i < t.length := by have := of_decide_eq_true hc; omega
  obtain ⟨⟨op, L, R⟩, hx⟩ : ∃ x, t[i] = x := ⟨_, rfl⟩;have hti : t[i]? = some (op, L, R) := by rw [qEq hlt, hx]
  have stop : ckStep s (op, L, R) = none -> Sc.b false = Sc.b (ckF n E l t) := fun h => bad (ckw_bad hw hti h)
  have nofree : ¬ FreeP s (op, L, R) -> Sc.b false = Sc.b (ckF n E l t) := fun h => stop (if_neg h)
  refine Idx.by i rfl (by rw [htl]; exact hlt) ?_;refine Look.by _ (nods_get hti) ?_;refine Pick.by (fun e1 => ?_) (fun e1 => ?_)
  ·have e1 : L = R := eq_of_beq e1;refine Seg.by (by kernel_rfl) ?_;exact ⟨rfl, nofree fun h => h.1 e1⟩
  have e1 : L ≠ R := ne_of_beq_false e1;refine Pick.by (fun e2 => ?_) (fun e2 => ?_)
  ·have e2 : (if R < L then R else L) < 0 := of_decide_eq_true e2;refine Seg.by (by kernel_rfl) ?_;exact ⟨rfl, nofree fun h => by have h2 : 0 <= L := h.2.1; have h3 : 0 <= R := h.2.2.1; split at e2 <;> omega⟩
  have e2 : 0 <= L /\ 0 <= R := by
   have e2 : ¬ (if R < L then R else L) < 0 := of_decide_eq_false e2;split at e2 <;> omega
  refine Pick.by (fun e3 => ?_) (fun e3 => ?_)
  ·have e3 : (if R > L then R else L) ≥ ((edges s.poles).length : Int) := of_decide_eq_true e3;rw [qeq] at e3;refine Seg.by (by kernel_rfl) ?_;exact ⟨rfl, nofree fun h => by have h2 : L < s.poles.length := h.2.2.2.1; have h3 : R < s.poles.length := h.2.2.2.2.1; split at e3 <;> omega⟩
  have e3 : L < s.poles.length /\ R < s.poles.length := by
   have e3 : ¬ (if R > L then R else L) ≥ ((edges s.poles).length : Int) := of_decide_eq_false e3;rw [qeq] at e3;split at e3 <;> omega
  have uget : ∀ {k : Int}, 0 <= k -> k < s.poles.length -> (ints s.used)[k.toNat]? = some [.i .i64 (s.usd k)] := fun {k} h0 h1 => qhq (by unfold Ck.usd; rw [qDq, qEq (by omega)]; rfl)
  have pget : ∀ {k : Int}, 0 <= k -> k < s.poles.length -> (edges s.poles)[k.toNat]? = some [.i .i64 (s.pol k).1, .i .i64 (s.pol k).2] := fun {k} h0 h1 => edges_get (x := s.pol k) (by unfold Ck.pol; rw [qDq, qEq (by omega)]; rfl)
  have hel2 := qeq s.poles;have hil := qiq s.used;have uL := hw.us L.toNat;have uR := hw.us R.toNat;refine Idx.by L.toNat (show L = (L.toNat : Int) by omega) (by omega) ?_;refine Look.by _ (uget e2.1 e3.1) ?_;refine Idx.by R.toNat (show R = (R.toNat : Int) by omega) (by omega) ?_;refine Look.by _ (uget e2.2 e3.2) ?_;refine Pick.T (inI64_of (by unfold Ck.usd; omega) (by unfold Ck.usd; omega)) ?_;refine Seg.by (by kernel_rfl) ?_;refine Pick.by (fun e4 => ?_) (fun e4 => ?_)
  ·have e4 : s.usd L + s.usd R > 0 := of_decide_eq_true e4;exact ⟨rfl, nofree fun h => by have h2 : s.usd L + s.usd R <= 0 := h.2.2.2.2.2; omega⟩
  have e4 : ¬ s.usd L + s.usd R > 0 := of_decide_eq_false e4;have free : FreeP s (op, L, R) := ⟨e1, e2.1, e2.2, e3.1, e3.2, by show s.usd L + s.usd R <= 0; omega⟩;refine Idx.by L.toNat (show L = (L.toNat : Int) by omega) (by omega) ?_;refine Look.by _ (uget e2.1 e3.1) ?_;refine Idx.by R.toNat (show R = (R.toNat : Int) by omega) (by show R.toNat < ((ints s.used).set L.toNat [.i .i64 1]).length; rw [List.length_set]; omega) ?_;have hu2 : ((ints s.used).set L.toNat [.i .i64 1])[R.toNat]? = some [.i .i64 (s.usd R)] := by rw [qNq (by omega)]; exact uget e2.2 e3.2
  refine Look.by _ hu2 ?_;refine Seg.by (by kernel_rfl) ?_;refine Idx.by L.toNat (show L = (L.toNat : Int) by omega) (by omega) ?_;refine Look.by _ (pget e2.1 e3.1) ?_;refine Idx.by R.toNat (show R = (R.toNat : Int) by omega) (by omega) ?_;refine Look.by _ (pget e2.2 e3.2) ?_;refine Seg.by (by kernel_rfl) ?_;obtain ⟨X, hX⟩ : ∃ X, s.pol L = X := ⟨_, rfl⟩;obtain ⟨Y, hY⟩ : ∃ Y, s.pol R = Y := ⟨_, rfl⟩;rw [hX, hY];refine Pick.by (fun g1 => ?_) (fun g1 => ?_)
  ·have g1 : op = 1 := eq_of_beq g1;refine Call.by _ _ (MiddleC_at X Y) ?_;obtain ⟨⟨⟨m, ⟨ea, eb⟩⟩, ok⟩, hmid⟩ : ∃ r, middleF X Y = r := ⟨_, rfl⟩;rw [hmid];have hstep : ckStep s (op, L, R) = if ok = true then some { poles := s.poles ++ [(ea, eb)], used := (s.used.set L.toNat 1).set R.toNat 1, mid := midIn s.mid m } else none := by
    unfold ckStep;rw [if_pos free, if_pos g1];show (if (middleF (s.pol L) (s.pol R)).2 = true then _ else _) = _
    rw [hX, hY, hmid]
   refine Pick.by (fun g3 => ?_) (fun g3 => ?_)
   ·have g3 : ¬ ok = true := fun e => by have g3 : (!ok) = true := g3; rw [e] at g3; simp at g3
    rw [if_neg g3] at hstep;exact ⟨rfl, stop hstep⟩
   have g3 : ok = true := by have g3 : (!ok) = false := g3; simpa using g3
   rw [if_pos g3] at hstep;have hw' := ckw_step hw hti hstep;have hXr : RngE X := by rw [<- hX]; exact hw.rng _ (qMq (show s.poles[L.toNat]? = some (s.pol L) by unfold Ck.pol; rw [qDq, qEq (by omega)]; rfl))
   have hYr : RngE Y := by rw [<- hY]; exact hw.rng _ (qMq (show s.poles[R.toNat]? = some (s.pol R) by unfold Ck.pol; rw [qDq, qEq (by omega)]; rfl))
   have hmr := (middle_rng hXr hYr (by rw [hmid]; exact g3)).1;rw [hmid] at hmr;dsimp only at hmr;have hmm := hw.mid m;refine Pick.T (inI64_of (by show _ <= m; omega) (by show m <= _; omega)) ?_;refine Pick.T (inI64_of (by show _ <= mapGet s.mid [m] + 1; omega) (by show mapGet s.mid [m] + 1 <= _; omega)) ?_;refine Pick.T (inI64_of (by show _ <= m; omega) (by show m <= _; omega)) ?_;refine Seg.by (by kernel_rfl) ?_;refine Pick.F (show (!(ea == ea && (eb == eb && true))) = false by simp) ?_;have hP : edges (s.poles ++ [(ea, eb)]) = edges s.poles ++ [[.i .i64 ea, .i .i64 eb]] := edges_snoc ..;have hU : ints ((s.used.set L.toNat 1).set R.toNat 1) = ((ints s.used).set L.toNat [.i .i64 1]).set R.toNat [.i .i64 1] := by rw [ints_set, ints_set]
   have hM : midIn s.mid m = mapPut s.mid [m] (mapGet s.mid [m] + 1) := rfl;refine Pick.T (by rw [decide_eq_true_iff, qeq]; show _ + 1 <= _; omega) ?_;refine Pick.n ?_;refine Next.by (i + 1, ({ poles := s.poles ++ [(ea, eb)], used := (s.used.set L.toNat 1).set R.toNat 1, mid := midIn s.mid m } : Ck)) ⟨by show i + 1 <= _; omega, hw'⟩ (by show t.length - (i + 1) < t.length - i; omega) (by refine Weak.bw (sg 0 [_,_,_,_,_]) (by ((repeat' first|exact rfl|exact trivial|apply And.intro) <;> (repeat' first|exact rfl|exact trivial|apply And.intro)); all_goals ((first|exact sc_eq (by show ((i + 1 : Nat) : Int) = _; omega) | exact hP | exact hU | exact hM))))
  ·have g1 : op ≠ 1 := ne_of_beq_false g1;refine Pick.by (fun g2 => ?_) (fun g2 => ?_)
   ·have g2 : op = 2 := eq_of_beq g2;have hstep : ckStep s (op, L, R) = if X = Y then some { poles := s.poles ++ [X], used := (s.used.set L.toNat 1).set R.toNat 1, mid := s.mid } else none := by
     unfold ckStep;rw [if_pos free, if_neg g1, if_pos g2];show (if s.pol L = s.pol R then some ({ poles := s.poles ++ [s.pol L], used := _, mid := _ } : Ck) else none) = _
     rw [hX, hY]
    refine Pick.by (fun g3 => ?_) (fun g3 => ?_)
    ·have g3 : ¬ X = Y := fun e => by
      have g3 : (!(X.1 == Y.1 && (X.2 == Y.2 && true))) = true := g3;rw [e] at g3; simp at g3
     rw [if_neg g3] at hstep;exact ⟨rfl, stop hstep⟩
    have g3 : X = Y := by
     have g3 : (!(X.1 == Y.1 && (X.2 == Y.2 && true))) = false := g3;simp at g3;exact Prod.ext g3.1 g3.2
    rw [if_pos g3] at hstep;have hw' := ckw_step hw hti hstep;have hP : edges (s.poles ++ [X]) = edges s.poles ++ [[.i .i64 X.1, .i .i64 X.2]] := edges_snoc ..;have hU : ints ((s.used.set L.toNat 1).set R.toNat 1) = ((ints s.used).set L.toNat [.i .i64 1]).set R.toNat [.i .i64 1] := by rw [ints_set, ints_set]
    refine Pick.T (by rw [decide_eq_true_iff, qeq]; show _ + 1 <= _; omega) ?_;refine Pick.n ?_;refine Next.by (i + 1, ({ poles := s.poles ++ [X], used := (s.used.set L.toNat 1).set R.toNat 1, mid := s.mid } : Ck)) ⟨by show i + 1 <= _; omega, hw'⟩ (by show t.length - (i + 1) < t.length - i; omega) (by refine Weak.bw (sg 0 [_,_,_,_,_]) (by ((repeat' first|exact rfl|exact trivial|apply And.intro) <;> (repeat' first|exact rfl|exact trivial|apply And.intro)); all_goals ((first|exact sc_eq (by show ((i + 1 : Nat) : Int) = _; omega) | exact hP | exact hU))))
   ·have g2 : op ≠ 2 := ne_of_beq_false g2;have hs : ckStep s (op, L, R) = none := by
     unfold ckStep; rw [if_pos free, if_neg g1, if_neg g2]
    exact ⟨rfl, stop hs⟩
 have hie : i = t.length := by have := of_decide_eq_false hc; omega
 subst hie
 have hrun := hw.run
 rw [List.drop_length] at hrun
 have hgood := good s hrun.symm
 have hel2 := qeq s.poles
 obtain ⟨last, hlast⟩ : ∃ x, ckLast s = x := ⟨_, rfl⟩
 have hlget : (edges s.poles)[s.poles.length - 1]? = some [.i .i64 last.1, .i .i64 last.2] := edges_get (by rw [<- hlast]; unfold ckLast; rw [qDq, qEq (by omega)]; rfl)
 refine Pick.n ?_
 refine Idx.by (s.poles.length - 1) (by omega) (by omega) ?_
 refine Look.by _ hlget ?_
 have hlen := qiq l
 refine LoopP.intro (α := Nat) (fun j => j <= l.length /\ ∀ v ∈ l.take j, mapGet s.mid [v] = if v = last.1 \/ v = last.2 then 0 else 1) (fun j => l.length - j) (fun j => [(9, .mp 1), (17, .ptr 2 0), (137, .sl 0 none none), (138, .s (.i .i64 l.length)), (139, .s (.i .i64 j))])
  (fun j => [(0, some (.flat false 1 (ints l))), (1, some (.map false 1 s.mid)), (2, some (.blk [.s (.i .i64 last.1), .s (.i .i64 last.2)]))]) 3 0 ⟨by omega, by simp⟩ (by refine Weak.bw (sg 0 [_,_,_]) (by ((repeat' first|exact rfl|exact trivial|apply And.intro) <;> (repeat' first|exact rfl|exact trivial|apply And.intro)); all_goals (exact sc_eq (by rw [hlen])))) ?_
 rintro j ⟨hj, hd⟩
 refine Pick.by (fun hc => ?_) (fun hc => ?_)
 ·have hlt : j < l.length := by have := of_decide_eq_true hc; omega
  obtain ⟨v, hv⟩ : ∃ v, l[j] = v := ⟨_, rfl⟩;have hlj : l[j]? = some v := by rw [qEq hlt, hv]
  have hvm := qMq hlj;have hvr := hrng v hvm;have hn1 := hR.2.1;have hts : l.take (j + 1) = l.take j ++ [v] := by rw [List.take_add_one, hlj]; rfl
  have wrong : mapGet s.mid [v] ≠ (if v = last.1 \/ v = last.2 then 0 else 1) -> Sc.b false = Sc.b (ckF n E l t) := fun h => by
   rw [hgood, decide_eq_false];intro hce;have := hce v hvm;rw [hlast] at this;exact h this
  have next : mapGet s.mid [v] = (if v = last.1 \/ v = last.2 then 0 else 1) -> ∀ u ∈ l.take (j + 1), mapGet s.mid [u] = if u = last.1 \/ u = last.2 then 0 else 1 := fun h u hu => by
   rw [hts] at hu;rcases List.mem_append.1 hu with hu | hu
   ·exact hd u hu
   ·rw [List.mem_singleton] at hu; subst hu; exact h
  refine Idx.by j rfl (by omega) ?_;refine Look.by _ (qhq hlj) ?_;refine Pick.by (fun a1 => ?_) (fun a1 => ?_)
  ·have a1 : v = last.1 := eq_of_beq a1;have hw0 : (if v = last.1 \/ v = last.2 then (0 : Int) else 1) = 0 := if_pos (.inl a1);rw [hw0] at wrong next;refine Pick.n ?_;refine Pick.by (fun a3 => ?_) (fun a3 => ?_)
   ·exact ⟨rfl, wrong (bne_iff_ne.1 a3)⟩
   ·have a3 : mapGet s.mid [v] = 0 := by simpa using a3
    refine Pick.n ?_;refine Next.by (j + 1) ⟨by omega, next a3⟩ (by omega) (by refine Weak.bw (sg 0 [_,_,_]) (by ((repeat' first|exact rfl|exact trivial|apply And.intro) <;> (repeat' first|exact rfl|exact trivial|apply And.intro)); all_goals (exact sc_eq (by omega))))
  have a1 : v ≠ last.1 := ne_of_beq_false a1;refine Pick.by (fun a2 => ?_) (fun a2 => ?_)
  ·have a2 : v = last.2 := eq_of_beq a2;have hw0 : (if v = last.1 \/ v = last.2 then (0 : Int) else 1) = 0 := if_pos (.inr a2);rw [hw0] at wrong next;refine Pick.n ?_;refine Pick.by (fun a3 => ?_) (fun a3 => ?_)
   ·exact ⟨rfl, wrong (bne_iff_ne.1 a3)⟩
   ·have a3 : mapGet s.mid [v] = 0 := by simpa using a3
    refine Pick.n ?_;refine Next.by (j + 1) ⟨by omega, next a3⟩ (by omega) (by refine Weak.bw (sg 0 [_,_,_]) (by ((repeat' first|exact rfl|exact trivial|apply And.intro) <;> (repeat' first|exact rfl|exact trivial|apply And.intro)); all_goals (exact sc_eq (by omega))))
  ·have a2 : v ≠ last.2 := ne_of_beq_false a2;have hw0 : (if v = last.1 \/ v = last.2 then (0 : Int) else 1) = 1 := if_neg (by rintro (h | h); exact a1 h; exact a2 h);rw [hw0] at wrong next;refine Pick.n ?_;refine Pick.by (fun a3 => ?_) (fun a3 => ?_)
   ·exact ⟨rfl, wrong (bne_iff_ne.1 a3)⟩
   ·have a3 : mapGet s.mid [v] = 1 := by simpa using a3
    refine Pick.n ?_;refine Next.by (j + 1) ⟨by omega, next a3⟩ (by omega) (by refine Weak.bw (sg 0 [_,_,_]) (by ((repeat' first|exact rfl|exact trivial|apply And.intro) <;> (repeat' first|exact rfl|exact trivial|apply And.intro)); all_goals (exact sc_eq (by omega))))
 ·have hje : j = l.length := by have := of_decide_eq_false hc; omega
  subst hje;rw [List.take_length] at hd;refine ⟨rfl, ?_⟩;show Sc.b true = Sc.b (ckF n E l t)
  rw [hgood, decide_eq_true];intro v hv;rw [hlast];exact hd v hv
def growL (E : List Ed) (l S : List Int) : List Int := l.filter fun v => S.elem v || E.any fun e => (S.elem e.1 && e.2 == v) || (S.elem e.2 && e.1 == v)
def iterL (E : List Ed) (l : List Int) : Nat -> List Int -> List Int
 | 0, S => S
 | k + 1, S => iterL E l k (growL E l S)
theorem iterL_rch {E : List Ed} {l : List Int} {s : Int} : ∀ {k : Nat} {S : List Int}, (∀ u ∈ S, Rch E l s u) -> ∀ v ∈ iterL E l k S, Rch E l s v := by
 intro k
 induction k with
 | zero => intro S h v hv; exact h v hv
 | succ k ih =>
  intro S h v hv;refine ih (S := growL E l S) (fun u hu => ?_) v hv;obtain ⟨hul, hu⟩ := List.mem_filter.1 hu;rcases Bool.or_eq_true_iff.1 hu with hu | hu
  ·exact h u (by simpa using hu)
  ·obtain ⟨e, he, hh⟩ := List.any_eq_true.1 hu;rcases Bool.or_eq_true_iff.1 hh with hh | hh <;> obtain ⟨h1, h2⟩ := Bool.and_eq_true_iff.1 hh
   ·have h2 := eq_of_beq h2;subst h2;exact .step (h e.1 (by simpa using h1)) (.inl he) hul
   ·have h2 := eq_of_beq h2;subst h2;exact .step (h e.2 (by simpa using h1)) (.inr he) hul
def wholeD (n : Int) (E : List Ed) (l : List Int) : Bool := decide (RightP n E /\ l ≠ [] /\ l.Nodup /\ (∀ v ∈ l, 0 <= v /\ v < n) /\ ∀ v ∈ l, v ∈ iterL E l l.length [l.headD 0])
theorem wholeD_p {n : Int} {E : List Ed} {l : List Int} (h : wholeD n E l = true) : WholeP n E l := by
 obtain ⟨h1, h2, h3, h4, h5⟩ := of_decide_eq_true h
 exact ⟨h1, h2, h3, h4, fun v hv => iterL_rch (k := l.length) (S := [l.headD 0]) (fun u hu => by rw [List.mem_singleton] at hu; subst hu; exact .base) v (h5 v hv)⟩
def twoD (n : Int) (E : List Ed) (l : List Int) : Bool := decide (2 <= l.length) && (decide (l.length <= 1000) && (wholeD n E l && l.all fun c => wholeD n E (l.erase c)))
theorem twoD_p {n : Int} {E : List Ed} {l : List Int} (h : twoD n E l = true) : twoB n E l = true := by
 unfold twoD at h
 simp only [Bool.and_eq_true, decide_eq_true_eq, List.all_eq_true] at h
 obtain ⟨h1, h2, h3, h4⟩ := h
 exact twoB_iff.2 ((two_iff h2).2 ⟨h1, wholeD_p h3, fun c hc => wholeD_p (h4 c hc)⟩)
theorem two_not {n : Int} {E : List Ed} {l : List Int} (S : List Int) (hl : l.length <= 1000) (h0 : l.headD 0 ∈ S) (hS : ∀ e ∈ E, (e.1 ∈ S -> e.2 ∈ l -> e.2 ∈ S) /\ (e.2 ∈ S -> e.1 ∈ l -> e.1 ∈ S)) {v : Int} (hv : v ∈ l) (hn : v ∉ S) : twoB n E l = false := by
 cases h : twoB n E l with
 | false => rfl
 | true =>
  obtain ⟨_, hw, _⟩ := (two_iff hl).1 (twoB_iff.1 h);have : ∀ u, Rch E l (l.headD 0) u -> u ∈ S := fun u hu => by
   induction hu with
   | base => exact h0
   | step _ ha hm ih =>
    rcases ha with ha | ha
    ·exact (hS _ ha).1 ih hm
    ·exact (hS _ ha).2 ih hm
  exact absurd (this v (hw.2.2.2.2 v hv)) hn
def E13 : List Ed := [(0, 1), (0, 3), (1, 2), (2, 3)]
theorem two13 : twoB 4 E13 [0, 1, 2, 3] = true := twoD_p (by decide)
theorem two13r : twoB 4 E13 [3, 2, 1, 0] = true := twoD_p (by decide)
theorem two13n : twoB 4 E13 [0, 2] = false := two_not [0] (by decide) (by decide) (by decide) (v := 2) (by decide) (by decide)
theorem spt13 : sptF 4 E13 [0, 1, 2, 3] = ([(1, 0, 1), (1, 2, 4), (2, 3, 5)], 0) := by
 unfold sptF
 rw [if_pos two13]
 unfold startS
 rw [sortI_id (by decide)]
 decide
theorem spt13n : sptF 4 E13 [0, 2] = ([], 1) := if_neg (by rw [two13n]; simp)
theorem ck13 : ckF 4 E13 [3, 2, 1, 0] [(1, 0, 1), (1, 2, 4), (2, 3, 5)] = true := by
 unfold ckF
 rw [two13r]
 decide
theorem ck13n : ckF 4 E13 [3, 2, 1, 0] [(1, 0, 1), (1, 2, 4)] = false := by
 unfold ckF
 rw [two13r]
 decide
noncomputable def Shown13C : Con := conP 0 (fun _ : Unit => True) (fun _ => []) (fun _ => .one (.s (.b true)))
theorem Shown13C_at : Shown13C.F [] = some (.one (.s (.b true)), []) := conP_at (a := ()) (fun a b _ _ h => rfl) trivial
set_option maxRecDepth 100000 in
theorem Shown13_ok : SoundC Try.prog T 8 Shown13C := by
 refine sound_con (X := { Γ := [(10, SptC), (14, CkC)], T := T, nt := 63 }) cr_none hmix hT (sound_cons Spt_ok (sound_cons Ck_ok sound_nil)) Try.func8 (by rfl) (by rfl) (by rfl) (by rfl) 0 ?_
 rintro ⟨⟩ -
 refine two_le ?_
 have h1 := SptC_at (n := 4) (E := E13) (l := [0, 1, 2, 3]) (by decide)
 rw [spt13] at h1
 refine Call.by _ _ h1 ?_
 have h2 := SptC_at (n := 4) (E := E13) (l := [0, 2]) (by decide)
 rw [spt13n] at h2
 refine Call.by _ _ h2 ?_
 refine Idx.by 0 rfl (by decide) ?_
 refine Look.by [.i .i64 1, .i .i64 0, .i .i64 1] rfl ?_
 refine Idx.by 2 rfl (by decide) ?_
 refine Look.by [.i .i64 2, .i .i64 3, .i .i64 5] rfl ?_
 have h3 := CkC_at (n := 4) (E := E13) (l := [3, 2, 1, 0]) (t := [(1, 0, 1), (1, 2, 4), (2, 3, 5)]) ⟨by decide, by decide⟩
 rw [ck13] at h3
 refine Call.by _ _ h3 ?_
 refine Rng.by 0 2 rfl rfl (by omega) (by decide) ?_
 have h4 := CkC_at (n := 4) (E := E13) (l := [3, 2, 1, 0]) (t := [(1, 0, 1), (1, 2, 4)]) ⟨by decide, by decide⟩
 rw [ck13n] at h4
 refine Call.by _ _ h4 ?_
 refine Seg.by (by kernel_rfl) ?_
 exact ⟨rfl, rfl⟩
theorem cut_min {α : Type} (m : Nat) (l : List α) (f : List α -> Flat) (hf : ∀ k, (f l).take k = f (l.take k)) : cut (subOf none 0 0 (min l.length m)) (f l) = f (l.take m) := by
 show ((f l).drop 0).take (min l.length m - 0) = _
 rw [List.drop_zero, Nat.sub_zero, hf]
 congr 1
 rw [List.take_eq_take_iff]; omega
theorem ints_take (l : List Int) (k : Nat) : (ints l).take k = ints (l.take k) := by simp [ints, List.map_take]
theorem min_lt {a : Nat} {m : Int} (hm : 0 <= m) : (if m < (a : Int) then m else (a : Int)) = ((min a m.toNat : Nat) : Int) := by split <;> omega
theorem TurnP.refl : ∀ t : List Nd, TurnP t t
 | [] => .nil
 | x :: t => .cons (.inl rfl) (TurnP.refl t)
theorem TurnP.set {t u : List Nd} (h : TurnP t u) : ∀ {i : Nat} {x : Nd}, t[i]? = some x -> TurnP t (u.set i (x.1, x.2.2, x.2.1)) := by
 induction h with
 | nil => intro i x h; simp at h
 | @cons a b t u hab h ih =>
  intro i x hi
  cases i with
  | zero => simp at hi; subst hi; exact .cons (.inr rfl) h
  | succ i => exact .cons hab (ih (by simpa using hi))
theorem nods_set (l : List Nd) (i : Nat) (x : Nd) : nods (l.set i x) = (nods l).set i [.i .i64 x.1, .i .i64 x.2.1, .i .i64 x.2.2] := by simp [nods, List.map_set]
theorem inK_64 {a : Int} (h0 : 0 <= a) (h : a < 9223372036854775808) : inK .u64 a = true := by
 rw [inK_iff]
 simp only [IntKind.wrap, IntKind.bits, IntKind.signed]
 simp
 omega
noncomputable def STurnF := conF (fun a : (Int × List Ed) × List Int × List Nd × Int => a.2.1.length <= maxLen /\ a.2.2.1.length <= maxLen) (fun a => [.agg [.s (.i .i64 a.1.1), .flat false 2 (edges a.1.2), .flat false 1 (ints a.2.1), .flat false 3 (nods a.2.2.1), .s (.i .u32 a.2.2.2)]]) (fun _ => .one (.s (.b true)))
set_option maxHeartbeats 1000000 in
theorem STurn_ok : SoundP Try.prog 5 STurnF := by
 refine con_pure (X := { Γ := [(8, Shown13C), (9, OfC), (14, CkC), (15, TakeC 20)], T := T, nt := 87 }) cr_none hmix hT
  (sound_cons Shown13_ok (sound_cons Of_ok (sound_cons Ck_ok (sound_cons Ours13_ok sound_nil)))) Try.func5 (by rfl) (by rfl) (by rfl) 5 ?_
 rintro ⟨⟨n, E⟩, l, t, w⟩ ⟨hl, ht⟩
 dsimp only at hl ht ⊢
 unfold maxLen at hl ht
 refine two_le ?_
 refine Call.by _ _ Shown13C_at ?_
 refine Call.by _ _ (OfC_at n E (most := 9) (by omega)) ?_
 obtain ⟨m, hm⟩ : ∃ m, anyN n 9 = m := ⟨_, rfl⟩
 obtain ⟨F, hF⟩ : ∃ F, anyE n E 9 = F := ⟨_, rfl⟩
 rw [hm, hF]
 have hlen := qiq l
 refine Rng.by 0 (min l.length 12) rfl (by rw [hlen]; exact min_lt (by omega)) (by omega) (by omega) ?_
 have c1 : cut (subOf none 0 0 (min l.length 12)) (ints l) = ints (l.take 12) := cut_min 12 l ints (ints_take l)
 have hl2 : (l.take 12).length <= 1000 := by rw [List.length_take]; omega
 have hl12 : (l.take 12).length = min l.length 12 := by rw [List.length_take]; omega
 refine Call.by _ _ (TakeC_at (k := 20) (l := t) (by omega)) ?_
 refine Call.by _ _ (TakeC_at (k := 20) (l := t) (by omega)) ?_
 obtain ⟨one, hone⟩ : ∃ one, t.take 20 = one := ⟨_, rfl⟩
 have hol : one.length <= 20 := by rw [<- hone, List.length_take]; omega
 rw [hone]
 refine LoopP.intro (α := Nat × List Nd) (fun a => a.1 <= one.length /\ TurnP one a.2) (fun a => one.length - a.1) (fun a => [(1, .ptr 0 0), (3, .s (.b true)), (4, .ptr 4 0), (5, .sl 2 none (subOf none 0 0 (min l.length 12))), (6, .sl 6 none none), (7, .sl 7 none none), (8, .s (.i .i64 a.1))])
  (fun a => [(0, some (.blk [.s (.i .i64 n), .sl 1 none none, .sl 2 none none, .sl 3 none none, .s (.i .u32 w)])), (1, some (.flat false 2 (edges E))), (2, some (.flat false 1 (ints l))), (3, some (.flat false 3 (nods t))), (4, some (.blk [.s (.i .i64 m), .sl 5 none none])), (5, some (.flat true 2 (edges F))), (6, some (.flat true 3 (nods one))), (7, some (.flat true 3 (nods a.2)))]) 8 (0, one) ⟨by omega, TurnP.refl one⟩ (by refine Weak.ba (sg 0 [_,_,_,_,_,_,_,_])) ?_
 rintro ⟨i, two⟩ ⟨hi, htp⟩
 dsimp only at hi htp ⊢
 have htl := htp.length
 refine Pick.by (fun hc => ?_) (fun hc => ?_)
 ·have hlt : i < one.length := by have := of_decide_eq_true hc; rw [nods_length] at this; omega
  refine Pick.T (inK_64 (by omega) (by omega)) ?_;refine Pick.T (show (decide (0 <= (i : Int)) && decide ((i : Int) < 32)) = true by rw [Bool.and_eq_true, decide_eq_true_iff, decide_eq_true_iff]; omega) ?_;refine Pick.by (fun h2 => ?_) (fun h2 => ?_)
  ·obtain ⟨⟨x1, x2, x3⟩, hx⟩ : ∃ x, one[i] = x := ⟨_, rfl⟩;have hoi : one[i]? = some (x1, x2, x3) := by rw [qEq hlt, hx]
   obtain ⟨⟨y1, y2, y3⟩, hy⟩ : ∃ y, two[i]'(by omega) = y := ⟨_, rfl⟩;have hti : two[i]? = some (y1, y2, y3) := by rw [qEq (by omega), hy]
   refine Idx.by i rfl (by rw [nods_length]; omega) ?_;refine Look.by _ (nods_get hoi) ?_;refine Idx.by i rfl (by rw [nods_length]; omega) ?_;refine Look.by _ (nods_get hoi) ?_;refine Idx.by i rfl (by rw [nods_length]; omega) ?_;refine Look.by _ (nods_get hoi) ?_;refine Idx.by i rfl (by rw [nods_length]; omega) ?_;refine Look.by _ (nods_get hti) ?_;refine Seg.by (by kernel_rfl) ?_;refine Pick.n ?_;refine Next.by (i + 1, two.set i (x1, x3, x2)) ⟨by show i + 1 <= _; omega, htp.set hoi⟩ (by show one.length - (i + 1) < one.length - i; omega) (by refine Weak.bw (sg 0 [_,_,_,_,_,_,_,_]) (by ((repeat' first|exact rfl|exact trivial|apply And.intro) <;> (repeat' first|exact rfl|exact trivial|apply And.intro)); all_goals ((first|exact sc_eq (by show ((i + 1 : Nat) : Int) = _; omega) | exact nods_set two i (x1, x3, x2)))))
  ·refine Pick.n ?_;refine Next.by (i + 1, two) ⟨by show i + 1 <= _; omega, htp⟩ (by show one.length - (i + 1) < one.length - i; omega) (by refine Weak.bw (sg 0 [_,_,_,_,_,_,_,_]) (by ((repeat' first|exact rfl|exact trivial|apply And.intro) <;> (repeat' first|exact rfl|exact trivial|apply And.intro)); all_goals (exact sc_eq (by show ((i + 1 : Nat) : Int) = _; omega))))
 have hcl : (cut (subOf none 0 0 (min l.length 12)) (ints l)).length = (l.take 12).length := by rw [c1, qiq]
 refine Pick.n ?_
 refine LoopP.intro (α := Nat) (fun j => j <= (l.take 12).length) (fun j => (l.take 12).length - j) (fun j => [(3, .s (.b true)), (4, .ptr 4 0), (5, .sl 2 none (subOf none 0 0 (min l.length 12))), (6, .sl 6 none none), (7, .sl 7 none none), (9, .sl 0 none none), (10, .s (.i .i64 (((l.take 12).length : Int) - 1 - j)))])
  (fun j => [(0, some (.flat true 1 (ints ((l.take 12).reverse.take j)))), (2, some (.flat false 1 (ints l))), (4, some (.blk [.s (.i .i64 m), .sl 5 none none])), (5, some (.flat true 2 (edges F))), (6, some (.flat true 3 (nods one))), (7, some (.flat true 3 (nods two)))]) 8 0 (by omega) (by refine Weak.bw [(0, some _), (2, some _), (4, some _), (5, some _), (6, some _), (7, some _)] (by ((repeat' first|exact rfl|exact trivial|apply And.intro) <;> (repeat' first|exact rfl|exact trivial|apply And.intro)); all_goals (exact sc_eq (by omega)))) ?_
 rintro j hj
 refine Pick.by (fun hc2 => ?_) (fun hc2 => ?_)
 ·have hlt2 : j < (l.take 12).length := by have := of_decide_eq_true hc2; omega
  obtain ⟨x, hx⟩ : ∃ x, l[(l.take 12).length - 1 - j]? = some x := ⟨_, qEq (by rw [hl12] at hlt2 ⊢; omega)⟩;have hrv : (l.take 12).reverse[j]? = some x := by
   rw [List.getElem?_reverse hlt2, List.getElem?_take, if_pos (by omega)]; exact hx
  have hts : (l.take 12).reverse.take (j + 1) = (l.take 12).reverse.take j ++ [x] := by rw [List.take_add_one, hrv]; rfl
  refine Idx.by ((l.take 12).length - 1 - j) (by omega) (by omega) ?_;refine Look.by [.i .i64 x] (by rw [Nat.zero_add]; exact qhq hx) ?_;refine Pick.T (by rw [decide_eq_true_iff, qiq, List.length_take, List.length_reverse]; show _ + 1 <= _; omega) ?_;refine Pick.n ?_;refine Next.by (j + 1) (by omega) (by omega) (by refine Weak.bw [(0, some _), (2, some _), (4, some _), (5, some _), (6, some _), (7, some _)] (by ((repeat' first|exact rfl|exact trivial|apply And.intro) <;> (repeat' first|exact rfl|exact trivial|apply And.intro)); all_goals ((first|exact sc_eq (by omega) | (rw [hts, ints_snoc]; rfl)))))
 ·have hje : j = (l.take 12).length := by have := of_decide_eq_false hc2; omega
  subst hje;have hb : (l.take 12).reverse.take (l.take 12).length = (l.take 12).reverse := List.take_of_length_le (by rw [List.length_reverse]; exact Nat.le_refl _);rw [hb];refine Call.by _ _ (show CkC.F [grV m F, .one (.flat false 1 (cut (subOf none 0 0 (min l.length 12)) (ints l))), .one (.flat false 3 (nods one))] = _ by rw [c1]; exact CkC_at ⟨hl2, by omega⟩) ?_;refine Call.by _ _ (CkC_at (n := m) (E := F) (l := (l.take 12).reverse) (t := two) ⟨by rw [List.length_reverse]; exact hl2, by omega⟩) ?_;refine Seg.by (by kernel_rfl) ?_;have hs : (ckF m F (l.take 12) one == ckF m F (l.take 12).reverse two) = true := by rw [ckF_turn hl2 (List.reverse_perm _).symm htp]; exact beq_self_eq_true _
  refine ⟨rfl, ?_⟩;show Sc.b _ = Sc.b true
  rw [<- hs]
def i64 (x : Int) : Prop := -9223372036854775808 <= x /\ x <= 9223372036854775807
theorem ScTy.int {T : Tab} {t : Nat} {ti : TI} {k : IntKind} {x : Sc} (ht : lk T t = some ti) (hk : ti.kind = .int k) (h : ScTy T t x) : ∃ n, x = .i k n /\ (Lit.int k n).wf = true := by
 unfold ScTy at h
 rw [ht] at h
 simp only at h
 rw [hk] at h
 cases x with
 | i k' n => obtain ⟨rfl, h⟩ := h; exact ⟨n, rfl, h⟩
 | b _ => exact h.elim
theorem CTy.sc {T : Tab} {t : Nat} {c : C} (hs : sliceE T t = none) (h : CTy T t c) : ∃ x, c = .s x /\ ScTy T t x := by
 unfold CTy at h
 rw [hs] at h
 exact h
theorem CTy.flat {T : Tab} {t e : Nat} {c : C} (hs : sliceE T t = some e) (hs2 : sliceE T e = none) (h : CTy T t c) : ∃ rows, c = .flat false (sizeT T e) rows /\ FlatTy T e rows := by
 unfold CTy at h
 rw [hs] at h
 simp only at h
 rw [hs2] at h
 exact h
theorem CTy.nest {T : Tab} {t e e2 : Nat} {c : C} (hs : sliceE T t = some e) (hs2 : sliceE T e = some e2) (h : CTy T t c) : ∃ rows, c = .nest false (sizeT T e2) rows /\ rows.length <= maxLen /\ ∀ fl ∈ rows, FlatTy T e2 fl := by
 unfold CTy at h
 rw [hs] at h
 simp only at h
 rw [hs2] at h
 exact h
theorem i64_wf {n : Int} (h : (Lit.int .i64 n).wf = true) : i64 n := by
 simp [Lit.wf, IntKind.min, IntKind.max, IntKind.signed, IntKind.bits] at h
 exact h
theorem list_ex {α β : Type} {P : α -> β -> Prop} : ∀ {l : List α}, (∀ x ∈ l, ∃ y, P x y) -> ∃ m : List β, All2 P l m := by
 intro l
 induction l with
 | nil => intro _; exact ⟨[], All2.nil⟩
 | cons x l ih =>
  intro h;obtain ⟨y, hy⟩ := h x (by simp);obtain ⟨m, hm⟩ := ih fun x hx => h x (by simp [hx])
  exact ⟨y :: m, All2.cons' hy hm⟩
theorem All2.map_eq {α β : Type} {f : β -> α} {l : List α} {m : List β} (h : All2 (fun x y => x = f y) l m) : l = m.map f := by
 apply List.ext_getElem?
 intro i
 rw [List.getElem?_map]
 by_cases hi : i < l.length
 ·have him : i < m.length := by rw [<- h.1]; exact hi
  rw [qEq hi, qEq him, Option.map_some, h.2 i _ _ (qEq hi) (qEq him)]
 ·rw [List.getElem?_eq_none (by omega), List.getElem?_eq_none (by rw [<- h.1]; omega)]; rfl
theorem All2.mem {α β : Type} {R : α -> β -> Prop} {l : List α} {m : List β} (h : All2 R l m) {y : β} (hy : y ∈ m) : ∃ x ∈ l, R x y := by
 obtain ⟨i, hi⟩ := List.mem_iff_getElem?.1 hy
 have hl := (qSq.1 hi).1
 rw [<- h.1] at hl
 exact ⟨_, List.getElem_mem hl, h.2 i _ y (qEq hl) hi⟩
theorem row_int {row : Row} (h : RowTy T 3 row) : ∃ n, row = [.i .i64 n] /\ i64 n := by
 obtain ⟨x, rfl, hx⟩ := h
 obtain ⟨n, rfl, hw⟩ := ScTy.int (t := 3) rfl rfl hx
 exact ⟨n, rfl, i64_wf hw⟩
theorem ints_of {fl : Flat} (h : FlatTy T 3 fl) : ∃ l : List Int, fl = ints l /\ l.length <= maxLen /\ ∀ x ∈ l, i64 x := by
 obtain ⟨m, hm⟩ := list_ex (P := fun row n => row = [Sc.i .i64 n] /\ i64 n) fun row hr => row_int (h.2 row hr)
 refine ⟨m, All2.map_eq (f := fun n => [Sc.i .i64 n]) (hm.imp fun _ _ _ k => k.1), by rw [<- hm.1]; exact h.1, fun x hx => ?_⟩
 obtain ⟨_, _, k⟩ := hm.mem hx
 exact k.2
theorem All2.two {α β : Type} {R : α -> β -> Prop} {a b : α} {m : List β} (h : All2 R [a, b] m) : ∃ x y, m = [x, y] /\ R a x /\ R b y := by
 obtain ⟨h1, h2⟩ := h
 match m, h1, h2 with
 | [x, y], _, h2 => exact ⟨x, y, rfl, h2 0 a x rfl rfl, h2 1 b y rfl rfl⟩
theorem All2.one {α β : Type} {R : α -> β -> Prop} {a : α} {m : List β} (h : All2 R [a] m) : ∃ x, m = [x] /\ R a x := by
 obtain ⟨h1, h2⟩ := h
 match m, h1, h2 with
 | [x], _, h2 => exact ⟨x, rfl, h2 0 a x rfl rfl⟩
theorem All2.three {α β : Type} {R : α -> β -> Prop} {a b c : α} {m : List β} (h : All2 R [a, b, c] m) : ∃ x y z, m = [x, y, z] /\ R a x /\ R b y /\ R c z := by
 obtain ⟨h1, h2⟩ := h
 match m, h1, h2 with
 | [x, y, z], _, h2 => exact ⟨x, y, z, rfl, h2 0 a x rfl rfl, h2 1 b y rfl rfl, h2 2 c z rfl rfl⟩
theorem row_edge {row : Row} (h : RowTy T 60 row) : ∃ p : Ed, row = [.i .i64 p.1, .i .i64 p.2] /\ i64 p.1 /\ i64 p.2 := by
 obtain ⟨_, h⟩ := h
 obtain ⟨x, y, rfl, hx, hy⟩ := All2.two h
 obtain ⟨n, rfl, hn⟩ := ScTy.int (t := 3) rfl rfl hx
 obtain ⟨m, rfl, hm⟩ := ScTy.int (t := 3) rfl rfl hy
 exact ⟨(n, m), rfl, i64_wf hn, i64_wf hm⟩
theorem edges_of {fl : Flat} (h : FlatTy T 60 fl) : ∃ E : List Ed, fl = edges E /\ E.length <= maxLen /\ ∀ p ∈ E, i64 p.1 /\ i64 p.2 := by
 obtain ⟨m, hm⟩ := list_ex (P := fun row (p : Ed) => row = [Sc.i .i64 p.1, Sc.i .i64 p.2] /\ i64 p.1 /\ i64 p.2) fun row hr => row_edge (h.2 row hr)
 refine ⟨m, All2.map_eq (f := fun p : Ed => [Sc.i .i64 p.1, Sc.i .i64 p.2]) (hm.imp fun _ _ _ k => k.1), by rw [<- hm.1]; exact h.1, fun x hx => ?_⟩
 obtain ⟨_, _, k⟩ := hm.mem hx
 exact k.2
theorem own : ownKnob Try.prog.godebug = none := by kernel_rfl
theorem laidOut : laidOutB Try.prog = true := by kernel_rfl
theorem ScTy.bool {T : Tab} {t : Nat} {ti : TI} {x : Sc} (ht : lk T t = some ti) (hk : ti.kind = .bool) (h : ScTy T t x) : ∃ b, x = .b b := by
 unfold ScTy at h
 rw [ht] at h
 simp only at h
 rw [hk] at h
 cases x with
 | i k' n => exact h.elim
 | b b => exact ⟨b, rfl⟩
end Go.Sh
namespace Go.Sh
open Go.Proofs Go.RowKit Go.ChangeShapes Go.WideShapes
def flatTs (T : Tab) (t : Nat) : List Nat := match lk T t with
 | some ti => match ti.kind with
  | .array n e => List.replicate n e
  | .struct fs => fs.map (·.2)
  | _ => [t]
 | none => [t]
def structTs (T : Tab) (fs : List (Nat × Nat)) : List Nat := fs.flatMap fun f => flatTs T f.2
def partB (T : Tab) (t : Nat) : Bool := match lk T t with
 | some ti => match ti.kind with
  | .array n e => Nat.beq ti.size n && (Nat.beq (sizeT T e) 1 && (cellB T e && (lk T e).isSome))
  | .struct fs => Nat.beq ti.size fs.length && (oneB T 0 fs && fs.all fun f => cellB T f.2 && (lk T f.2).isSome)
  | _ => cellB T t && Nat.beq ti.size 1
 | none => false
def offB (T : Tab) : Nat -> List (Nat × Nat) -> Bool
 | _, [] => true
 | i, (d, ft) :: r => Nat.beq d i && (partB T ft && offB T (i + (flatTs T ft).length) r)
section
variable {P : Program} {T : Tab} {H : Type} {enc : TypeId × Value -> H} {w : World} {sp : Nat -> Bool} {held : Bool} {base : Nat}
theorem trod_part (hT : TabOk P T) {t : Nat} (hp : partB T t = true) {fuel : Nat} {cs : List Value} {off : Nat} {r : DataW H × List MemPlace} (hl : off + (flatTs T t).length <= cs.length) (h : DataW.trod enc P w 0 sp held fuel t ((cs.drop off).take (P.cellsOf t)) = some r) :
  ∀ j et, (flatTs T t)[j]? = some et -> cellB T et = true /\ ∃ v fuel' r', cs[off + j]? = some v /\ DataW.trod enc P w 0 sp held fuel' et [v] = some r' := by
 intro j et hj
 unfold partB at hp
 cases ht : lk T t with
 | none => rw [ht] at hp; simp at hp
 | some ti =>
  rw [ht] at hp;simp only at hp;have hco := cellsOf_eq hT ht;have hcell : flatTs T t = [t] -> cellB T t = true -> ti.size = 1 -> cellB T et = true /\ ∃ v fuel' r', cs[off + j]? = some v /\ DataW.trod enc P w 0 sp held fuel' et [v] = some r' := by
   intro e1 e2 e3;rw [e1] at hj hl
   cases j with
   | succ j => simp at hj
   | zero =>
    simp at hj;subst hj;have hlt : off < cs.length := by simp at hl; omega
    refine ⟨e2, cs[off], fuel, r, qEq hlt, ?_⟩;rw [hco, e3, List.drop_eq_getElem_cons hlt] at h;exact h
  cases hk : ti.kind with
  | array n e =>
   rw [hk] at hp;simp only [Bool.and_eq_true] at hp;obtain ⟨h1, h2, h3, h4⟩ := hp;have h1 := qBq h1;have h2 := qBq h2;have hf : flatTs T t = List.replicate n e := by unfold flatTs; rw [ht]; simp only; rw [hk]
   rw [hf, List.getElem?_replicate] at hj;split at hj
   ·rename_i hjn;injection hj with hj
    subst hj;obtain ⟨_, ha⟩ := trod_array hT ht hk h1 h2 (Option.isSome_iff_exists.1 h4) h;obtain ⟨v, fuel', r', hv, hr⟩ := ha j hjn;refine ⟨h3, v, fuel', r', ?_, hr⟩;rw [hco, h1, List.getElem?_take, if_pos hjn, List.getElem?_drop] at hv;exact hv
   ·cases hj
  | struct fs =>
   rw [hk] at hp;simp only [Bool.and_eq_true, List.all_eq_true] at hp;obtain ⟨h1, h2, h3⟩ := hp;have h1 := qBq h1;have hf : flatTs T t = fs.map (·.2) := by unfold flatTs; rw [ht]; simp only; rw [hk]
   rw [hf, List.getElem?_map] at hj;obtain ⟨f, hfj, rfl⟩ := Option.map_eq_some_iff.1 hj;obtain ⟨_, ha⟩ := trod_struct hT ht hk h1 h2 (fun f hf => Option.isSome_iff_exists.1 (h3 f hf).2) h;obtain ⟨v, fuel', r', hv, hr⟩ := ha j f hfj;refine ⟨(h3 f (qMq hfj)).1, v, fuel', r', ?_, hr⟩;rw [hco, h1, List.getElem?_take, if_pos (qSq.1 hfj).1, List.getElem?_drop] at hv;exact hv
  | _ =>
   rw [hk] at hp;simp only [Bool.and_eq_true] at hp;exact hcell (by unfold flatTs; rw [ht]; simp only; rw [hk]) hp.1 (qBq hp.2)
theorem trod_fields (hT : TabOk P T) : ∀ {fs : List (Nat × Nat)} {off : Nat} {cs : List Value}, offB T off fs = true -> (∀ f ∈ fs, ∃ fuel r, DataW.trod enc P w 0 sp held fuel f.2 ((cs.drop f.1).take (P.cellsOf f.2)) = some r) -> off + (structTs T fs).length <= cs.length ->
  ∀ j et, (structTs T fs)[j]? = some et -> cellB T et = true /\ ∃ v fuel' r', cs[off + j]? = some v /\ DataW.trod enc P w 0 sp held fuel' et [v] = some r' := by
 intro fs
 induction fs with
 | nil => intro off cs _ _ _ j et hj; simp [structTs] at hj
 | cons f fs ih =>
  intro off cs ho h hl j et hj;obtain ⟨d, ft⟩ := f;simp only [offB, Bool.and_eq_true] at ho;obtain ⟨h1, h2, h3⟩ := ho;have h1 := qBq h1;subst h1;have e : structTs T ((d, ft) :: fs) = flatTs T ft ++ structTs T fs := by simp [structTs]
  rw [e] at hj hl;rw [List.length_append] at hl;by_cases hjl : j < (flatTs T ft).length
  ·rw [qLq hjl] at hj;obtain ⟨fuel, r, hr⟩ := h (d, ft) (by simp);exact trod_part hT h2 (by omega) hr j et hj
  ·rw [qRq (by omega)] at hj;have := ih h3 (fun f hf => h f (by simp [hf])) (by omega) _ _ hj;rw [show d + (flatTs T ft).length + (j - (flatTs T ft).length) = d + j by omega] at this;exact this
theorem struct_read (hT : TabOk P T) {t : Nat} {ti : TI} (ht : lk T t = some ti) {fs : List (Nat × Nat)} (hk : ti.kind = .struct fs) (hsz : ti.size = (structTs T fs).length) (ho : offB T 0 fs = true) {v : Value} {d : DataW H} {ps : List MemPlace} (ok : Value.okWide P w .any base t v)
  (h : DataW.Trod enc P w 0 (fun _ => true) true t v d ps) : ∃ cs : List C, All2 (CTy T) (structTs T fs) cs /\ ∀ q, V1Ok w noLab q (.agg cs) v := by
 obtain ⟨fuel, hf⟩ := h
 obtain ⟨d', hd, hkd⟩ := (hT t ti ht).und
 rw [hk] at hkd
 cases d' <;> simp [KdOk] at hkd
 unfold Value.okWide at ok
 rw [hd] at ok
 obtain ⟨cs, rfl, _, _⟩ := ok
 simp only [Value.cells] at hf
 cases fuel with
 | zero => simp [DataW.trod] at hf
 | succ fuel =>
  obtain ⟨fields, hu, hfs⟩ := und_struct hT ht hk;have hco := cellsOf_eq hT ht;have hh : cs.toList.length = P.cellsOf t /\ ∃ ys, (fields.toList.mapM fun f => DataW.trod enc P w 0 (fun _ => true) true fuel f.type ((cs.toList.drop f.offset).take (P.cellsOf f.type))) = some ys := by
   unfold DataW.trod at hf;rw [hu] at hf;simp only at hf;split at hf
   ·rename_i hl;simp only [Option.map_eq_some_iff] at hf;obtain ⟨ys, hy, _⟩ := hf;exact ⟨hl, ys, hy⟩
   ·simp at hf
  obtain ⟨hlen, ys, hy⟩ := hh;rw [hco, hsz] at hlen;have hfield : ∀ f ∈ fs, ∃ fuel r, DataW.trod enc P w 0 (fun _ => true) true fuel f.2 ((cs.toList.drop f.1).take (P.cellsOf f.2)) = some r := fun f hfm => by
   rw [<- hfs] at hfm;obtain ⟨fd, hfd, rfl⟩ := List.mem_map.1 hfm;obtain ⟨r', hr'⟩ := mapM_all hy fd hfd;exact ⟨fuel, r', hr'⟩
  have hc := trod_fields hT ho hfield (by omega);have hall : ∀ i, i < (structTs T fs).length -> ∃ (c : C) (v : Value), cs.toList[i]? = some v /\ (∀ q, CellOk w noLab q c v) /\ ∀ et, (structTs T fs)[i]? = some et -> CTy T et c := by
   intro i hi;obtain ⟨hcb, v, fuel', r', hv, hr⟩ := hc i _ (qEq hi);rw [Nat.zero_add] at hv;obtain ⟨c, h4, h5⟩ := cell_read hT hcb hr;refine ⟨c, v, hv, h5, fun et het => ?_⟩;rw [qEq hi] at het;injection het with het
   subst het; exact h4
  obtain ⟨g, hg⟩ : ∃ g : Nat -> C, ∀ i, i < (structTs T fs).length -> ∃ v, cs.toList[i]? = some v /\ (∀ q, CellOk w noLab q (g i) v) /\ ∀ et, (structTs T fs)[i]? = some et -> CTy T et (g i) := by
   refine ⟨fun i => if h : i < (structTs T fs).length then Classical.choose (hall i h) else .dead, fun i hi => ?_⟩;simp only [dif_pos hi];exact Classical.choose_spec (hall i hi)
  refine ⟨(List.range (structTs T fs).length).map g, ⟨by simp, fun i et c het hc => ?_⟩, fun q => ⟨cs, rfl, ?_⟩⟩
  ·have hi := (qSq.1 het).1;simp [hi] at hc;subst hc;exact (hg i hi).choose_spec.2.2 et het
  ·refine CellsOk.mk (by simpa using hlen.symm) fun i c u hc hu => ?_
   have hi : i < (structTs T fs).length := by have := (qSq.1 hc).1; simpa using this
   simp [hi] at hc;subst hc;obtain ⟨v, h4, h5, _⟩ := hg i hi;rw [h4] at hu;injection hu with hu
   subst hu;exact h5 _
theorem law_struct (hT : TabOk P T) (hl : laidOutB P = true) {f : FuncId} {fn : Func} {s : ChangeSpec} {conds : List PathCond} {apart fresh handsOn : Bool} (hv : s.vars = []) {t : TypeId} {tb : TypeId} {F : List V -> Option (V × List V)}
  {ti : TI} (ht : lk T t = some ti) {fs : List (Nat × Nat)} (hk : ti.kind = .struct fs) (hsz : ti.size = (structTs T fs).length) (ho : offB T 0 fs = true)
  (hts : fn.params.toList = [t]) (hr : P.readableRec t = true /\ t < P.types.size) (hres : fn.resultTypes = #[tb]) (hb : P.underlying tb = some .bool)
  (hsp : ∀ ds : List (DataW H), ds.length = 1 -> (s.fn H ds).results = [.lit (.bool true)] /\ (s.fn H ds).args = ds /\ (s.fn H ds).vars = [])
  (hS : SoundP P f F) (hF : ∀ cs, All2 (CTy T) (structTs T fs) cs -> ∃ outs, F [.agg cs] = some (.one (.s (.b true)), outs)) {W : World} {base : Nat} {args : Array Value} {ds gs : List (DataW H)} {before : List MemPlace}
  (ok : ∀ (j : Nat) t v, fn.params[j]? = some t -> args[j]? = some v -> Value.okWide P W .any base t v)
  (hW : DataW.Whole enc P fn.params.toList s.vars apart W args.toList ds gs before) :
  Calls P f args W fun e W' => ∃ v, e = .returned v /\ s.post enc P fn apart fresh handsOn false W args v W' := by
 have hW' := hW
 obtain ⟨p, q, hA, hV, rfl, hfz, hnd⟩ := hW
 rw [hv] at hV
 obtain ⟨rfl, rfl⟩ := trodVars_none hV
 rw [hts] at hA
 obtain ⟨v, vs0, d, ds0, p1, q1, hargs, rfl, rfl, h1, h2⟩ := trodAll_cons hA
 obtain ⟨rfl, rfl, rfl⟩ := trodAll_nil h2
 obtain ⟨cs, hcs, hoks⟩ := struct_read hT ht hk hsz ho (ok 0 t v (by rw [<- Array.getElem?_toList, hts]; rfl) (by rw [<- Array.getElem?_toList, hargs]; rfl)) h1
 obtain ⟨outs, hF⟩ := hF cs hcs
 refine (hS [.agg cs] _ outs hF W args (by rw [hargs]; exact ⟨hoks 0, trivial⟩)).mono fun e W' ⟨u, lab, he, hfr, _, hu⟩ => ?_
 subst he
 obtain ⟨x, hx⟩ := hu
 obtain rfl : u = .bool true := hx
 obtain ⟨k1, k2, k3⟩ := hsp [d] rfl
 refine ⟨_, rfl, [d], [], _, [], p1 ++ [], [], hW', ?_, ?_, ?_, (Frm.below hfr).frame _, fun h => by cases h⟩
 ·rw [List.append_nil, k1, hres];exact trodAll_mk1 (shut_bool hb _)
 ·rw [List.append_nil, k2, hts];exact args_after hl (Frm.below hfr) [t] args.toList [d] (p1 ++ []) hA (fun t' h' => by simp at h'; rw [h']; exact hr)
 ·rw [List.append_nil, k3, hv]
  rfl
end
set_option maxRecDepth 100000 in
theorem law_rowX {s : ChangeSpec} {f : FuncId} {fn : Func} {conds : List PathCond} {apart fresh handsOn : Bool} {t : TypeId} {F : List V -> Option (V × List V)} (hf : Try.prog.funcs[f]? = some fn) (hin : Try.prog.inits.idxOf? f = none) (hv : s.vars = [])
  {ti : TI} (ht : lk T t = some ti) {fs : List (Nat × Nat)} (hk : ti.kind = .struct fs) (hsz : ti.size = (structTs T fs).length) (ho : offB T 0 fs = true)
  (hts : fn.params.toList = [t]) (hr : (Try.prog.readableRec t && Nat.blt t Try.prog.types.size) = true) (hres : fn.resultTypes = #[4])
  (hsp : ∀ (H : Type) (ds : List (DataW H)), ds.length = 1 -> (s.fn H ds).results = [.lit (.bool true)] /\ (s.fn H ds).args = ds /\ (s.fn H ds).vars = [])
  (hS : SoundP Try.prog f F) (hF : ∀ cs, All2 (CTy T) (structTs T fs) cs -> ∃ outs, F [.agg cs] = some (.one (.s (.b true)), outs)) (os : Os) (started : os.Started) (H : Type) (enc : TypeId × Value -> H) (a : Assume)
  (hw : ∃ (w : World) (tape : Tape) (i : Input), w.os = os /\ (w.forCall tape i).Shaped Try.checked.prog /\ i.vars = [] /\ Input.okWide Try.checked.prog (w.forCall tape i) .any w.heap.size f i /\
   s.pre6 enc Try.checked.prog fn conds apart (w.forCall tape i).memory i.args /\ a.holds Try.checked.prog (lone (Frame.enter Try.checked.prog f i.args .normal) [] (w.forCall tape i))) :
  ReturnsInHanded a Try.checked os f .any (s.pre6 enc Try.checked.prog fn conds apart) (s.post enc Try.checked.prog fn apart fresh handsOn false) := by
 refine returnsInHanded_of_change (C := Try.checked) own started hin hf hw ?_
 intro W base args ds gs before hval hW _ _
 simp only [Bool.and_eq_true] at hr
 exact law_struct (P := Try.prog) (conds := conds) hT laidOut hv ht hk hsz ho hts ⟨hr.1, Nat.le_of_ble_eq_true hr.2⟩ hres Try.underlying4 (hsp H) hS hF hval hW
end Go.Sh
namespace Go.Sh
open Go.Proofs
theorem row_nod {row : Row} (h : RowTy T 77 row) : ∃ p : Nd, row = [.i .i64 p.1, .i .i64 p.2.1, .i .i64 p.2.2] := by
 obtain ⟨_, h⟩ := h
 obtain ⟨x, y, z, rfl, hx, hy, hz⟩ := All2.three h
 obtain ⟨n, rfl, hn⟩ := ScTy.int (t := 3) rfl rfl hx
 obtain ⟨m, rfl, hm⟩ := ScTy.int (t := 3) rfl rfl hy
 obtain ⟨k, rfl, hk⟩ := ScTy.int (t := 3) rfl rfl hz
 exact ⟨(n, m, k), rfl⟩
theorem nodes_cell {c : C} (hc : CTy T 33 c) : ∃ l : List Nd, c = .flat false 3 (nods l) /\ l.length <= maxLen := by
 obtain ⟨rows, rfl, hr⟩ := CTy.flat (t := 33) (e := 77) rfl rfl hc
 obtain ⟨m, hm⟩ := list_ex (P := fun row (p : Nd) => row = [Sc.i .i64 p.1, Sc.i .i64 p.2.1, Sc.i .i64 p.2.2]) fun row hq => row_nod (hr.2 row hq)
 have e := All2.map_eq (f := fun p : Nd => [Sc.i .i64 p.1, Sc.i .i64 p.2.1, Sc.i .i64 p.2.2]) hm
 exact ⟨m, by rw [e]; rfl, by rw [<- hm.1]; exact hr.1⟩
end Go.Sh
