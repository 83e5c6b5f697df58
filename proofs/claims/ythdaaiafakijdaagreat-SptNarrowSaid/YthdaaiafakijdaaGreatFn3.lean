/- What the functions answer that the statement reaches. No condition. -/
import Derived.Test.YthdaaiafakijdaaGreatFn2
import Derived.Deep.RegionLaw
import Derived.Sort.QuietIn
import Derived.Sort.QuietTacIn
import Derived.Test.YthdaaiafakijdaaGreatRows
set_option linter.unusedVariables false
set_option linter.unusedSimpArgs false
set_option linter.unusedSectionVars false
namespace Go.Sh
def opn (s : Ck) (i : Nat) : Prop := i < s.poles.length /\ s.usd (i : Nat) = 0
def AdjC (s : Ck) (x y : Nat) : Prop := x ≠ y /\ ∃ i, opn s i /\ s.pol (i : Nat) = pairF (x : Int) (y : Int)
theorem adjC_sm (s : Ck) : Sm (AdjC s) := ⟨fun x y ⟨h, i, h1, h2⟩ => ⟨Ne.symm h, i, h1, by rw [h2, pairF_comm]⟩, fun x ⟨h, _⟩ => h rfl⟩
def atP (e : Ed) (w : Int) : Prop := w = e.1 \/ w = e.2
theorem atP_pair {a b w : Int} : atP (pairF a b) w ↔ w = a \/ w = b := by
 unfold atP
 rcases pairF_two a b with ⟨h1, h2⟩ | ⟨h1, h2⟩ <;> rw [h1, h2]
 exact or_comm
structure FitC (l : List Int) (N : Nat) (s : Ck) : Prop where
 ck : CkI s
 us : s.used.length = N
 in_ : ∀ x ∈ s.poles, x.1 ∈ l /\ x.2 ∈ l
theorem FitC.pol {l : List Int} {N : Nat} {s : Ck} (h : FitC l N s) {i : Int} (h0 : 0 <= i) (h1 : i < s.poles.length) : s.pol i ∈ s.poles := by
 unfold Ck.pol
 rw [qDq, qEq (by omega)]
 exact List.getElem_mem _
structure MoveP (s : Ck) (x : Nd) (s' : Ck) (e : Ed) : Prop where
 free : FreeP s x
 poles : s'.poles = s.poles ++ [e]
 used : s'.used = (s.used.set x.2.1.toNat 1).set x.2.2.toNat 1
theorem StepP.move {s s' : Ck} {x : Nd} (h : StepP s x s') : ∃ e, MoveP s x s' e := by
 cases h with
 | ser m a b op free mid is => subst is; exact ⟨_, free, rfl, rfl⟩
 | par op free same is => subst is; exact ⟨_, free, rfl, rfl⟩
theorem MoveP.pol {s s' : Ck} {x : Nd} {e : Ed} (h : MoveP s x s' e) {i : Nat} : s'.pol (i : Nat) = if i < s.poles.length then s.pol (i : Nat) else if i = s.poles.length then e else (0, 0) := by
 have := pol_app (s := s) (e := e) (P := s.poles) (used := s'.used) (mid := s'.mid) rfl (i := i)
 rw [<- this]
 unfold Ck.pol
 rw [h.poles]
theorem MoveP.usd {s s' : Ck} {x : Nd} {e : Ed} (h : MoveP s x s' e) {N : Nat} (hN : s.used.length = N) (hlt : s.poles.length <= N) {i : Nat} (hi : i < N) : s'.usd (i : Nat) = if x.2.1 = i \/ x.2.2 = i then 1 else s.usd (i : Nat) := by
 obtain ⟨f1, f2, f3, f4, f5, f6⟩ := h.free
 unfold Ck.usd
 rw [h.used, Int.toNat_natCast]
 exact used2 hN f2 (by omega) f3 (by omega) hi
theorem MoveP.fit {l : List Int} {N : Nat} {s s' : Ck} {x : Nd} {e : Ed} (h : MoveP s x s' e) (hf : FitC l N s) (hs : StepP s x s') : FitC l N s' := by
 refine ⟨hs.inv hf.ck, by rw [h.used, List.length_set, List.length_set, hf.us], ?_⟩
 obtain ⟨f1, f2, f3, f4, f5, f6⟩ := h.free
 have h1 := hf.in_ _ (hf.pol f2 f4)
 have h2 := hf.in_ _ (hf.pol f3 f5)
 intro y hy
 cases hs with
 | ser m a b op free mid is =>
  subst is;rcases List.mem_append.1 hy with hy | hy
  ·exact hf.in_ y hy
  ·rw [List.mem_singleton] at hy;subst hy;rw [mid.1] at h1;rw [mid.2.1] at h2;have k1 : a ∈ l := by
    rcases pairF_two a m with ⟨e1, e2⟩ | ⟨e1, e2⟩ <;> rw [e1, e2] at h1
    ·exact h1.1
    ·exact h1.2
   have k2 : b ∈ l := by
    rcases pairF_two m b with ⟨e1, e2⟩ | ⟨e1, e2⟩ <;> rw [e1, e2] at h2
    ·exact h2.2
    ·exact h2.1
   rcases pairF_two a b with ⟨e1, e2⟩ | ⟨e1, e2⟩ <;> rw [e1, e2]
   ·exact ⟨k1, k2⟩
   ·exact ⟨k2, k1⟩
 | par op free same is =>
  subst is;rcases List.mem_append.1 hy with hy | hy
  ·exact hf.in_ y hy
  ·rw [List.mem_singleton] at hy;subst hy; exact h1
theorem MoveP.opn {s s' : Ck} {x : Nd} {e : Ed} (h : MoveP s x s' e) {N : Nat} (hN : s.used.length = N) (hlt : s.poles.length < N) (hnew : s.usd (s.poles.length : Nat) = 0) (i : Nat) : opn s' i ↔ (opn s i /\ x.2.1 ≠ i /\ x.2.2 ≠ i) \/ i = s.poles.length := by
 unfold Go.Sh.opn
 rw [h.poles, List.length_append, List.length_singleton]
 obtain ⟨f1, f2, f3, f4, f5, f6⟩ := h.free
 constructor
 ·rintro ⟨h1, h2⟩;by_cases hi : i = s.poles.length
  ·exact .inr hi
  ·rw [h.usd hN (by omega) (by omega)] at h2;by_cases hc : x.2.1 = i \/ x.2.2 = i
   ·rw [if_pos hc] at h2; omega
   ·rw [if_neg hc] at h2;exact .inl ⟨⟨by omega, h2⟩, fun e => hc (.inl e), fun e => hc (.inr e)⟩
 ·rintro (⟨⟨h1, h2⟩, h3, h4⟩ | rfl)
  ·refine ⟨by omega, ?_⟩;rw [h.usd hN (by omega) (by omega), if_neg (by rintro (e | e); exact h3 e; exact h4 e)]; exact h2
  ·refine ⟨by omega, ?_⟩;rw [h.usd hN (by omega) hlt, if_neg (by omega)]; exact hnew
structure UseC (N : Nat) (s : Ck) : Prop where
 z : ∀ i : Nat, 0 <= s.usd (i : Nat)
 new : ∀ i : Nat, s.poles.length <= i -> i < N -> s.usd (i : Nat) = 0
theorem FreeP.opn {N : Nat} {s : Ck} {x : Nd} (h : FreeP s x) (u : UseC N s) : opn s x.2.1.toNat /\ opn s x.2.2.toNat := by
 obtain ⟨f1, f2, f3, f4, f5, f6⟩ := h
 have z1 := u.z x.2.1.toNat
 have z2 := u.z x.2.2.toNat
 rw [Int.toNat_of_nonneg f2] at z1
 rw [Int.toNat_of_nonneg f3] at z2
 exact ⟨⟨by omega, by rw [Int.toNat_of_nonneg f2]; omega⟩, by omega, by rw [Int.toNat_of_nonneg f3]; omega⟩
theorem MoveP.use {s s' : Ck} {x : Nd} {e : Ed} (h : MoveP s x s' e) {N : Nat} (hN : s.used.length = N) (hlt : s.poles.length < N) (u : UseC N s) : UseC N s' := by
 obtain ⟨f1, f2, f3, f4, f5, f6⟩ := h.free
 refine ⟨fun i => ?_, fun i h1 h2 => ?_⟩
 ·by_cases hi : i < N
  ·rw [h.usd hN (by omega) hi]; have := u.z i; split <;> omega
  ·unfold Ck.usd;rw [h.used, Int.toNat_natCast, qDq, List.getElem?_eq_none (by rw [List.length_set, List.length_set, hN]; omega)];exact Int.le_refl 0
 ·rw [h.poles, List.length_append, List.length_singleton] at h1;rw [h.usd hN (by omega) h2, if_neg (by omega)];exact u.new i (by omega) h2
def DoneC (s : Ck) : Prop := ∀ i, opn s i -> i + 1 = s.poles.length
theorem mid_le {s s' : Ck} {x : Nd} (h : StepP s x s') (w : Int) : mapGet s.mid [w] <= mapGet s'.mid [w] := by
 cases h with
 | ser m a b op free mid is =>
  subst is;show _ <= mapGet (midIn s.mid m) [w]
  unfold midIn;rw [mapGet_put];split
  ·rename_i e; simp at e; subst e; omega
  ·omega
 | par op free same is => subst is; exact Int.le_refl _
theorem fut {l : List Int} {N : Nat} : ∀ {t : List Nd} {s sf : Ck}, ckRun t s = some sf -> FitC l N s -> UseC N s -> s.poles.length + t.length <= N -> DoneC sf ->
  (∀ w, mapGet s.mid [w] <= mapGet sf.mid [w]) /\ ∀ w i, opn s i -> atP (s.pol (i : Nat)) w -> atP (ckLast sf) w \/ mapGet s.mid [w] < mapGet sf.mid [w] := by
 intro t
 induction t with
 | nil =>
  intro s sf hr hf hu hN hd;simp only [ckRun] at hr;injection hr with hr
  subst hr;refine ⟨fun w => Int.le_refl _, fun w i hi ha => .inl ?_⟩;have := hd i hi;unfold ckLast;rw [show s.poles.length - 1 = i by omega];unfold Ck.pol at ha;rw [Int.toNat_natCast] at ha;exact ha
 | cons x t ih =>
  intro s sf hr hf hu hN hd;simp only [ckRun] at hr
  cases h1 : ckStep s x with
  | none => rw [h1] at hr; simp at hr
  | some s1 =>
   rw [h1] at hr;dsimp only at hr;have hs := (ckStep_iff hf.ck).1 h1;obtain ⟨e, hm⟩ := hs.move;rw [List.length_cons] at hN;have hlt : s.poles.length < N := by omega
   have hf1 := hm.fit hf hs;have hu1 := hm.use hf.us hlt hu;obtain ⟨k1, k2⟩ := ih hr hf1 hu1 (by rw [hm.poles, List.length_append, List.length_singleton]; omega) hd;have hmid := mid_le hs;refine ⟨fun w => Int.le_trans (hmid w) (k1 w), fun w i hi ha => ?_⟩;have next : ∀ j, opn s1 j -> atP (s1.pol (j : Nat)) w -> atP (ckLast sf) w \/ mapGet s.mid [w] < mapGet sf.mid [w] := fun j hj hw => by
    rcases k2 w j hj hw with h | h
    ·exact .inl h
    ·exact .inr (Int.lt_of_le_of_lt (hmid w) h)
   have hop := hm.opn hf.us hlt (hu.new _ (Nat.le_refl _) hlt);by_cases hc : x.2.1 = i \/ x.2.2 = i
   ·have hnew : opn s1 s.poles.length := (hop _).2 (.inr rfl);have hpn : s1.pol (s.poles.length : Nat) = e := by rw [hm.pol, if_neg (by omega), if_pos rfl]
    cases hs with
    | ser m a b op free mid is =>
     have he : e = pairF a b := by
      have := hm.poles;rw [is] at this;have := List.append_cancel_left this;simpa using this.symm
     by_cases hwm : w = m
     ·subst hwm;refine .inr (Int.lt_of_lt_of_le ?_ (k1 w));rw [is];show _ < mapGet (midIn s.mid w) [w]
      unfold midIn;rw [mapGet_put, if_pos rfl]; omega
     ·refine next _ hnew ?_;rw [hpn, he, atP_pair];rcases hc with hc | hc
      ·rw [<- hc, mid.1, atP_pair] at ha;exact .inl (ha.resolve_right hwm)
      ·rw [<- hc, mid.2.1, atP_pair] at ha;exact .inr (ha.resolve_left hwm)
    | par op free same is =>
     have he : e = s.pol x.2.1 := by
      have := hm.poles;rw [is] at this;have := List.append_cancel_left this;simpa using this.symm
     refine next _ hnew ?_;rw [hpn, he];rcases hc with hc | hc
     ·rw [hc]; exact ha
     ·rw [same, hc]; exact ha
   ·have hi1 : opn s1 i := (hop i).2 (.inl ⟨hi, fun e => hc (.inl e), fun e => hc (.inr e)⟩);refine next i hi1 ?_;rw [hm.pol, if_pos hi.1]; exact ha
theorem run_noK4 {l : List Int} {N : Nat} {vs : List Nat} (hvs : vs.Nodup) (hl : ∀ x : Nat, x ∈ vs ↔ (x : Int) ∈ l) (hl0 : ∀ v ∈ l, 0 <= v) : ∀ {t : List Nd} {s sf : Ck}, ckRun t s = some sf -> FitC l N s -> UseC N s -> (∀ w, 0 <= mapGet s.mid [w]) -> s.poles.length + t.length <= N -> DoneC sf -> CkEnd l sf -> ¬ ∃ c, MdL vs (AdjC s) c := by
 intro t
 induction t with
 | nil =>
  intro s sf hr hf hu hmz hN hd he;simp only [ckRun] at hr;injection hr with hr
  subst hr;rintro ⟨c, hc⟩;have one : ∀ x y, AdjC s x y -> pairF (x : Int) (y : Int) = ckLast s := fun x y ⟨_, i, hi, hp⟩ => by
   have := hd i hi;rw [<- hp];unfold ckLast Ck.pol;rw [Int.toNat_natCast, show s.poles.length - 1 = i by omega]
  obtain ⟨x, y, _, _, h1, e1, e2⟩ := hc.meet 0 1 (by omega) (by omega);obtain ⟨z, w, _, _, h2, e3, e4⟩ := hc.meet 2 3 (by omega) (by omega);have k := (one x y h1).trans (one z w h2).symm;rw [pairF_inj] at k;rcases k with ⟨k, _⟩ | ⟨k, _⟩
  ·have : x = z := by omega
   subst this; omega
  ·have : x = w := by omega
   subst this; omega
 | cons x t ih =>
  intro s sf hr hf hu hmz hN hd he;simp only [ckRun] at hr
  cases h1 : ckStep s x with
  | none => rw [h1] at hr; simp at hr
  | some s1 =>
   rw [h1] at hr;dsimp only at hr;have hs := (ckStep_iff hf.ck).1 h1;obtain ⟨e, hm⟩ := hs.move;rw [List.length_cons] at hN;have hlt : s.poles.length < N := by omega
   have hf1 := hm.fit hf hs;have hu1 := hm.use hf.us hlt hu;have hN1 : s1.poles.length + t.length <= N := by rw [hm.poles, List.length_append, List.length_singleton]; omega
   have hmz1 : ∀ w, 0 <= mapGet s1.mid [w] := fun w => Int.le_trans (hmz w) (mid_le hs w)
   have ih1 := ih hr hf1 hu1 hmz1 hN1 hd he;have hop := hm.opn hf.us hlt (hu.new _ (Nat.le_refl _) hlt);obtain ⟨oL, oR⟩ := hm.free.opn hu;obtain ⟨f1, f2, f3, f4, f5, f6⟩ := hm.free;have hpn : s1.pol (s.poles.length : Nat) = e := by rw [hm.pol, if_neg (by omega), if_pos rfl]
   have hold : ∀ i, opn s i -> s1.pol (i : Nat) = s.pol (i : Nat) := fun i hi => by rw [hm.pol, if_pos hi.1]
   have hnew : opn s1 s.poles.length := (hop _).2 (.inr rfl);rintro ⟨c, hc⟩
   cases hs with
   | par op free same is =>
    have hee : e = s.pol x.2.1 := by
     have := hm.poles;rw [is] at this;have := List.append_cancel_left this;simpa using this.symm
    refine ih1 ⟨c, hc.mono fun a b _ _ ⟨hab, i, hi, hp⟩ => ⟨hab, ?_⟩⟩;by_cases hci : x.2.1 = i \/ x.2.2 = i
    ·refine ⟨_, hnew, ?_⟩;rw [hpn, hee, <- hp];rcases hci with h | h
     ·rw [h]
     ·rw [same, h]
    ·exact ⟨i, (hop i).2 (.inl ⟨hi, fun e => hci (.inl e), fun e => hci (.inr e)⟩), by rw [hold i hi]; exact hp⟩
   | ser m a b op free mid is =>
    have hee : e = pairF a b := by
     have := hm.poles;rw [is] at this;have := List.append_cancel_left this;simpa using this.symm
    obtain ⟨k1, k2⟩ := fut hr hf1 hu1 hN1 hd;have inL := hf.in_ _ (hf.pol f2 f4);have inR := hf.in_ _ (hf.pol f3 f5);have aml : a ∈ l /\ m ∈ l := by
     rw [mid.1] at inL;rcases pairF_two a m with ⟨e1, e2⟩ | ⟨e1, e2⟩ <;> rw [e1, e2] at inL
     ·exact inL
     ·exact inL.symm
    have bl : b ∈ l := by
     rw [mid.2.1] at inR;rcases pairF_two m b with ⟨e1, e2⟩ | ⟨e1, e2⟩ <;> rw [e1, e2] at inR
     ·exact inR.2
     ·exact inR.1
    have m1 : 1 <= mapGet s1.mid [m] := by
     rw [is];show 1 <= mapGet (midIn s.mid m) [m]
     unfold midIn;rw [mapGet_put, if_pos rfl];have := hmz m;omega
    have mlast : ¬ atP (ckLast sf) m /\ mapGet sf.mid [m] = 1 := by
     have := he m aml.2;have := k1 m;by_cases hc : m = (ckLast sf).1 \/ m = (ckLast sf).2
     ·rw [if_pos hc] at *; omega
     ·rw [if_neg hc] at *; exact ⟨hc, by omega⟩
    -- nothing else that is open has the middle
    have only : ∀ i, opn s i -> atP (s.pol (i : Nat)) m -> x.2.1 = i \/ x.2.2 = i := fun i hi ha => by
     refine Classical.byContradiction fun hno => ?_
     have hi1 : opn s1 i := (hop i).2 (.inl ⟨hi, fun e => hno (.inl e), fun e => hno (.inr e)⟩);rcases k2 m i hi1 (by rw [hold i hi]; exact ha) with h | h
     ·exact mlast.1 h
     ·omega
    have a0 := hl0 a aml.1;have m0 := hl0 m aml.2;have b0 := hl0 b bl;obtain ⟨A, rfl⟩ : ∃ A : Nat, a = A := ⟨a.toNat, by omega⟩;obtain ⟨B, rfl⟩ : ∃ B : Nat, b = B := ⟨b.toNat, by omega⟩;obtain ⟨M, rfl⟩ : ∃ M : Nat, m = M := ⟨m.toNat, by omega⟩;obtain ⟨hL, hR, hab, ham, hbm⟩ := mid;have pL : s.pol (x.2.1.toNat : Nat) = pairF A M := by rw [Int.toNat_of_nonneg f2]; exact hL
    have pR : s.pol (x.2.2.toNat : Nat) = pairF M B := by rw [Int.toNat_of_nonneg f3]; exact hR
    have red : Red (AdjC s) (AdjC s1) M A B (¬ AdjC s A B) := by
     refine ⟨fun y hy => ?_, fun u w => ?_, fun _ => ?_, fun _ _ _ => Classical.em _⟩
     ·obtain ⟨hne, i, hi, hp⟩ := hy;rcases only i hi (by rw [hp, atP_pair]; exact .inl rfl) with h | h
      ·rw [<- h, hL, pairF_inj] at hp; left; omega
      ·rw [<- h, hR, pairF_inj] at hp; right; omega
     ·constructor
      ·rintro ⟨hne, i, hi, hp⟩;rcases (hop i).1 hi with ⟨hio, n1, n2⟩ | rfl
       ·rw [hold i hio] at hp;have hnm : ¬ atP (s.pol (i : Nat)) M := fun h => by rcases only i hio h with h | h; exact n1 h; exact n2 h
        rw [hp, atP_pair] at hnm;exact ⟨fun h => hnm (.inl (by rw [h])), fun h => hnm (.inr (by rw [h])), .inl ⟨hne, i, hio, hp⟩⟩
       ·rw [hpn, hee, pairF_inj] at hp;refine ⟨by omega, by omega, ?_⟩;by_cases hq : AdjC s A B
        ·left
         rcases hp with ⟨h1, h2⟩ | ⟨h1, h2⟩
         ·rw [show u = A by omega, show w = B by omega]; exact hq
         ·rw [show u = B by omega, show w = A by omega]; exact (adjC_sm s).sym _ _ hq
        ·right
         refine ⟨hq, ?_⟩;rcases hp with ⟨h1, h2⟩ | ⟨h1, h2⟩
         ·exact .inl ⟨by omega, by omega⟩
         ·exact .inr ⟨by omega, by omega⟩
      ·rintro ⟨n1, n2, ⟨hne, i, hi, hp⟩ | ⟨hq, h⟩⟩
       ·refine ⟨hne, i, (hop i).2 (.inl ⟨hi, fun h => ?_, fun h => ?_⟩), by rw [hold i hi]; exact hp⟩
        ·rw [<- h, hL, pairF_inj] at hp; omega
        ·rw [<- h, hR, pairF_inj] at hp; omega
       ·refine ⟨by omega, _, hnew, ?_⟩;rw [hpn, hee, pairF_inj];omega
     ·exact ⟨⟨by omega, _, oL, by rw [pL, pairF_comm]⟩, ⟨by omega, _, oR, pR⟩, by omega⟩
    have hin : ∀ u w, AdjC s u w -> u ∈ vs := fun u w ⟨_, i, hi, hp⟩ => by
     have := hf.in_ _ (hf.pol (i := (i : Nat)) (by omega) (by have := hi.1; omega));rw [hp] at this;rcases pairF_two (u : Int) (w : Int) with ⟨e1, e2⟩ | ⟨e1, e2⟩ <;> rw [e1, e2] at this
     ·exact (hl u).2 this.1
     ·exact (hl u).2 this.2
    exact ih1 (red.go (adjC_sm s) hvs ((hl M).2 aml.2) hin hc)
theorem ck_noK4 {n : Int} {E : List Ed} {l : List Int} {t : List Nd} (h : ckF n E l t = true) : ¬ ∃ c, MdL (l.map Int.toNat) (fun x y => adjE (withL l E) (x : Int) (y : Int)) c := by
 unfold ckF at h
 simp only [Bool.and_eq_true, decide_eq_true_eq] at h
 obtain ⟨hT, ht, hb⟩ := h
 obtain ⟨hR, h2, ⟨hnd, hrng⟩, -⟩ := twoB_iff.1 hT
 obtain ⟨W, hW⟩ : ∃ W, withL l E = W := ⟨_, rfl⟩
 unfold ckB at hb
 rw [hW] at hb ht ⊢
 cases hr : ckRun t (ckStart W t.length) with
 | none => rw [hr] at hb; simp at hb
 | some sf =>
  rw [hr] at hb;have he : CkEnd l sf := of_decide_eq_true hb;have hWp : ∀ e ∈ W, Prop2 e := by rw [<- hW]; exact start_inv (l := l) hR 0
  have hpre := (run_pre (E := W) t.length 0 (by omega) (by omega) (pre_start (t := t) hWp)).1 sf (by rw [List.drop_zero]; exact hr);have hne : l ≠ [] := by rintro rfl; simp at h2
  have honce := (ck_ref hWp ht hne).1 ⟨sf, hr, he⟩;have hfit : FitC l (W.length + t.length) (ckStart W t.length) := ⟨hWp, by simp [ckStart], fun x hx => by
   have hx : x ∈ withL l E := by rw [hW]; exact hx
   have := (List.mem_filter.1 hx).2;unfold ownP at this;simpa using this⟩
  have hz : ∀ i : Nat, (ckStart W t.length).usd (i : Nat) = 0 := fun i => by
   unfold Ck.usd;show (List.replicate _ (0 : Int)).getD _ 0 = 0
   rw [qDq, List.getElem?_replicate]; split <;> rfl
  have huse : UseC (W.length + t.length) (ckStart W t.length) := ⟨fun i => by rw [hz i]; exact Int.le_refl _, fun i _ _ => hz i⟩;have hdone : DoneC sf := fun i hi => by
   have hu := hpre.usd i (by have := hi.1; have := hpre.len; omega);have ho := honce.1 i (by have := hi.1; have := hpre.len; omega);rw [List.take_length] at hu;have h0 := hi.2;rw [hpre.len];split at ho <;> omega
  have hmap : ∀ x : Nat, x ∈ l.map Int.toNat ↔ (x : Int) ∈ l := fun x => by
   rw [List.mem_map];constructor
   ·rintro ⟨v, hv, rfl⟩;rw [Int.toNat_of_nonneg (hrng v hv).1]; exact hv
   ·intro h; exact ⟨_, h, Int.toNat_natCast x⟩
  have hnd2 : (l.map Int.toNat).Nodup := by
   refine List.nodup_iff_pairwise_ne.2 ?_;rw [List.pairwise_map];refine (List.nodup_iff_pairwise_ne.1 hnd).imp_of_mem fun {a b} ha hb hab => ?_
   have := hrng a ha;have := hrng b hb;omega
  have key := run_noK4 hnd2 hmap (fun v hv => (hrng v hv).1) hr hfit huse (fun w => Int.le_refl _) (by show W.length + t.length <= _; omega) hdone he;rintro ⟨c, hc⟩;refine key ⟨c, hc.mono fun x y _ _ hxy => ?_⟩;have hne2 : (x : Int) ≠ y := by
   have : adjE E (x : Int) y := by
    rw [<- hW, with_mem] at hxy; exact hxy.1
   exact adj_ne hR this
  refine ⟨fun e => hne2 (by rw [e]), ?_⟩;have : pairF (x : Int) (y : Int) ∈ W := by
   rcases hxy with h | h
   ·have := hWp _ h;unfold Prop2 at this;rw [pairF_le (by dsimp only at this; omega)]; exact h
   ·have := hWp _ h;unfold Prop2 at this;rw [pairF_ge (by dsimp only at this; omega)]; exact h
  obtain ⟨i, hi, hii⟩ := List.getElem_of_mem this;refine ⟨i, ⟨hi, hz i⟩, ?_⟩;unfold Ck.pol;show W.getD ((i : Nat) : Int).toNat (0, 0) = _
  rw [Int.toNat_natCast, qDq, qEq hi, hii]; rfl
end Go.Sh
namespace Go.Sh
end Go.Sh
namespace Go.Sh
open Go.Proofs
theorem isPol.two {r : List Int × Bool} {e : Ed} (he : Prop2 e) (h : isPol r e) : ∃ a b, r.1 = [a, b] /\ a ≠ b := by
 unfold Prop2 at he
 rcases h.2 with h | h
 ·exact ⟨_, _, h, by omega⟩
 ·exact ⟨_, _, h, by omega⟩
end Go.Sh
namespace Go.Proofs
open Go.RowKit Go.Shelf
attribute [local go_sem] Oper.semAt_some
def Tryz.Eds (S : Nat -> Prop) (W : World) (sv : Value) (E : List (Int × Int)) : Prop :=
 (E = [] /\ ∃ a cap, sv = .slice a 0 cap) \/ ∃ ab ao cap, sv = .slice (some ⟨ab, ao, none⟩) E.length cap /\ S ab /\ ∀ j x, E[j]? = some x -> W.cell? ⟨ab, ao + j * 2, none⟩ = some (.int .i64 x.1) /\ W.cell? ⟨ab, ao + j * 2 + 1, none⟩ = some (.int .i64 x.2)
structure Tryz.Kept (S : Nat -> Prop) (W W' : World) : Prop where
 size : W.heap.size <= W'.heap.size
 block : ∀ k, S k -> W'.heap[k]? = W.heap[k]?
theorem Tryz.Kept.refl (S : Nat -> Prop) (W : World) : Tryz.Kept S W W := ⟨Nat.le_refl _, fun _ _ => rfl⟩
theorem Tryz.Kept.trans {S : Nat -> Prop} {A B C : World} (h : Tryz.Kept S A B) (k : Tryz.Kept S B C) : Tryz.Kept S A C := ⟨Nat.le_trans h.size k.size, fun b hb => (k.block b hb).trans (h.block b hb)⟩
theorem Tryz.Kept.cell {S : Nat -> Prop} {W W' : World} (h : Tryz.Kept S W W') {p : Addr} (hp : S p.block) : W'.cell? p = W.cell? p := World.cell?_of_block (w := W) (h.block p.block hp)
theorem Tryz.Kept.alloc {S : Nat -> Prop} {A W : World} (h : Tryz.Kept S A W) (hS : ∀ k, S k -> k < A.heap.size) (o : Obj) : Tryz.Kept S A (W.alloc o) := ⟨Nat.le_trans h.size (by simp), fun k hk => (Below.heap_alloc W o k (Nat.lt_of_lt_of_le (hS k hk) h.size)).trans (h.block k hk)⟩
theorem Tryz.Kept.of {n : Nat} {S : Nat -> Prop} {W W' : World} (h : Below n W W') (hS : ∀ k, S k -> k < n) : Tryz.Kept S W W' := ⟨h.size, fun k hk => h.block k (hS k hk)⟩
end Go.Proofs
namespace Go.Proofs
open Go.RowKit Go.Shelf Go.Sh
attribute [local go_sem] Oper.semAt_some
theorem Tryz.eds_of {w : World} {E : List Ed} {A : Option Addr} {c : Nat} (h : FlatOk w noLab none A c 2 (edges E)) : Tryz.Eds (· < w.heap.size) w (.slice A E.length c) E := by
 cases E with
 | nil => exact .inl ⟨rfl, A, c, rfl⟩
 | cons x E =>
  obtain ⟨a, rfl, _, h0⟩ := h.cell 0 [.i .i64 x.1, .i .i64 x.2] 0 (.i .i64 x.1) rfl rfl;have h0 : w.cell? a = some (.int .i64 x.1) := h0;obtain ⟨ab, ao, sp⟩ := a;have hsp : sp = none := by
   cases sp with
   | none => rfl
   | some s =>
    simp only [World.cell?] at h0;split at h0 <;> simp at h0
  subst hsp;refine .inr ⟨ab, ao, c, rfl, ?_, fun j y hj => ?_⟩
  ·simp only [World.cell?] at h0;by_cases hp : ab < w.heap.size
   ·exact hp
   ·rw [Array.getElem?_eq_none (by omega)] at h0;simp at h0
  ·have hr := edges_get hj;obtain ⟨b1, e1, _, h1⟩ := h.cell j _ 0 (.i .i64 y.1) hr rfl;obtain ⟨b2, e2, _, h2⟩ := h.cell j _ 1 (.i .i64 y.2) hr rfl;injection e1 with e1
   injection e2 with e2
   subst e1;subst e2;rw [Addr.add_plain] at h1 h2;exact ⟨h1, by rw [Nat.add_assoc]; exact h2⟩
theorem Tryz.Eds.kept {S S' : Nat -> Prop} {A B : World} (h : Tryz.Kept S A B) (hS : ∀ k, S' k -> S k) {sv : Value} {E : List Ed} : Tryz.Eds S' A sv E -> Tryz.Eds S B sv E
 | .inl e => .inl e
 | .inr ⟨ab, ao, cap, e, hb, hc⟩ => .inr ⟨ab, ao, cap, e, hS _ hb, fun j x hj => ⟨(h.cell (p := ⟨ab, ao + j * 2, none⟩) (hS _ hb)).trans (hc j x hj).1, (h.cell (p := ⟨ab, ao + j * 2 + 1, none⟩) (hS _ hb)).trans (hc j x hj).2⟩⟩
end Go.Proofs
namespace Go.Proofs
open Go.RowKit Go.Shelf Go.Sh
attribute [local go_sem] Oper.semAt_some
end Go.Proofs
namespace Go.Sh
open Go.Proofs Go.RowKit Go.Shelf
end Go.Sh
namespace Go.Sh
open Go.Proofs Go.RowKit Go.Shelf
def unI (F : Flat) : List Int := F.map fun r => match r with
 | [.i _ x] => x
 | _ => 0
theorem unI_ints (l : List Int) : unI (ints l) = l := by
 unfold unI ints
 rw [List.map_map]
 conv => rhs; rw [<- List.map_id l]
 exact List.map_congr_left fun x _ => rfl
def srtF (F : Flat) : Flat := ints (sortI (unI F))
theorem srtF_ints (l : List Int) : srtF (ints l) = ints (sortI l) := by unfold srtF; rw [unI_ints]
def srtP (F : Flat) : Prop := ∃ l : List Int, F = ints l /\ l.length <= 1000000
theorem own_new {w w' : World} {x : Value} {L : List Int} {e : TypeId} (h : w'.ownsRow w.heap.size e 1 x L.length (L.map (Value.int .i64))) : newOut w w' x (some (1, ints L)) := by
 rcases h.2 with ⟨rfl, h0⟩ | ⟨g, cap, cur, rfl, hb, hg, h1, h2, h3, h4⟩
 ·have : L = [] := List.eq_nil_of_length_eq_zero h0;subst this;exact ⟨none, 0, rfl, fun key => ⟨by simp [ints], by omega, fun i row h => by simp [ints] at h, fun i row j x h => by simp [ints] at h, fun _ => .inl ⟨rfl, rfl⟩⟩⟩
 ·have hgl : g < w'.heap.size := (Array.getElem?_eq_some_iff.1 hg).1;refine ⟨some ⟨g, 0, none⟩, cap, by rw [qiq], fun key => ?_⟩;have hm : cap <= 9223372036854775807 := by unfold maxLen at h2; omega
  refine ⟨by rw [qiq]; exact h1, by omega, fun i row hi => ?_, fun i row j x hi hj => ?_, fun _ => .inr ⟨g, 0, cur, e, rfl, by simp [hb, hgl], hg, by show 0 + cap * 1 <= cur.size; omega, hm⟩⟩
  ·simp only [ints, List.getElem?_map, Option.map_eq_some_iff] at hi;obtain ⟨y, _, rfl⟩ := hi; rfl
  ·simp only [ints, List.getElem?_map, Option.map_eq_some_iff] at hi;obtain ⟨y, hy, rfl⟩ := hi;have hj0 : j = 0 := by
    cases j with
    | zero => rfl
    | succ j => simp at hj
   subst hj0;simp at hj;subst hj;refine ⟨_, rfl, by simp [hb, hgl], ?_⟩;rw [Addr.add_plain, cells_at hg];have hil := (qSq.1 hy).1;have h5 : (cur.toList.take (L.length * 1))[i]? = some (.int .i64 y) := by rw [h4, List.getElem?_map, hy]; rfl
   rw [List.getElem?_take_of_lt (by omega)] at h5;rw [Nat.mul_one, Nat.add_zero, Nat.zero_add, <- Array.getElem?_toList];exact h5
theorem Sorted_call : SeqCall Tryz.prog 35 79 1 srtP srtF := by
 refine ⟨⟨_, Tryz.func35, by decide, by simp [Tryz.f35]⟩, ?_⟩
 rintro l ⟨zs, rfl, hl⟩ w b arr T A cap hh ha hF
 have hbl : b < w.heap.size := (Array.getElem?_eq_some_iff.1 hh).1
 have hc : w.cell? ⟨b, 0, none⟩ = some (.slice A zs.length cap) := by
  rw [qiq] at ha;rw [show (⟨b, 0, none⟩ : Addr) = ⟨b, 0, none⟩ from rfl, cells_at hh, <- Array.getElem?_toList, ha]; rfl
 refine ((callsIn_wide (n := 6)).1 (Tryz.sorted_in Fence.wide 6 trivial trivial trivial trivial trivial rfl (by omega) (Tryz.sortsIn _) b w.heap.size _ zs (by unfold maxLen; omega) (by omega) w hbl (Nat.le_refl _) hc (Tryz.ints_of hF))).mono ?_
 rintro e w' ⟨v, rfl, hrow, hnil, hb⟩
 refine ⟨v, rfl, ⟨hb.os, .of hb.tape, hb.output, hb.size, fun k h _ => hb.block k h⟩, ?_⟩
 rw [srtF_ints]
 refine own_new (e := 3) ?_
 have e1 : (sortI zs).length = zs.length := (List.mergeSort_perm zs _).length_eq
 rw [e1]
 exact hrow
end Go.Sh
namespace Go.Sh
open Go.Proofs
def shapeP (k : Int) (T : List Int) (L : List (List Int)) : Prop := (k = 1 /\ T.length = 4 /\ L.length = 6) \/ (k = 2 /\ T.length = 2 /\ L.length = 3)
instance (k : Int) (T : List Int) (L : List (List Int)) : Decidable (shapeP k T L) := by unfold shapeP; exact inferInstance
end Go.Sh
namespace Go.Proofs
open Go.RowKit Go.Sh
attribute [local go_sem] Oper.semAt_some
end Go.Proofs
namespace Go.Sh
open Go.Proofs
section
variable {n : Int} {E : List Ed} {k : Int} {T : List Int} {L : List (List Int)}
end
end Go.Sh
namespace Go.Sh
open Go.Proofs
end Go.Sh
namespace Go.Sh
open Go.Proofs Go.RowKit
attribute [local go_sem] Oper.semAt_some
theorem iSI : (Tryz.prog.info? 3).map (fun i => (i.zero, i.size, i.bytes)) = some (some (.int .i64 0), 1, 8) := by kernel_rfl
end Go.Sh
namespace Go.Sh
open Go.Proofs Go.Shelf Go.RowKit
noncomputable def growN : Sc -> Option (Option (Nat × Flat)) := fun x => match x with
 | .i .i64 n => if 0 <= n /\ n <= 1000000000 then some (some (1, [])) else none
 | _ => none
theorem Grow_call : NilCall Tryz.prog 96 growN := by
 refine ⟨⟨_, Tryz.func96, by decide, by simp [Tryz.f96]⟩, ?_⟩
 intro x r hx w
 obtain ⟨n, rfl, h0, h1, rfl⟩ : ∃ n : Int, x = .i .i64 n /\ 0 <= n /\ n <= 1000000000 /\ r = some (1, []) := by
  unfold growN at hx;split at hx
  ·split at hx
   ·rename_i h;injection hx with hx
    exact ⟨_, rfl, h.1, h.2, hx.symm⟩
   ·simp at hx
  ·simp at hx
 obtain ⟨k, rfl⟩ : ∃ k : Nat, n = k := ⟨n.toNat, by omega⟩
 rcases Nat.eq_zero_or_pos k with rfl | hk
 ·refine (Any8.slices_Grow_room Tryz.laysGrow none 0 0 0 w (by omega) (by omega) (by omega) (by omega)).mono ?_;rintro e w' ⟨rfl, rfl⟩;exact ⟨_, rfl, Frm.refl _ _, none, 0, rfl, fun key => FlatOk.nil (by omega)⟩
 ·obtain ⟨i0, hi, hz0, hz1, hz2⟩ := info_parts iSI;refine (Any8.slices_Grow_grow Tryz.laysGrow i0 _ hi hz0 (by omega) none 0 0 k [] w (by omega) (by omega) (by rw [hz2]; omega) (by omega) (by simp) (fun _ => rfl) (fun a h => by simp at h)).mono ?_;rintro e w' ⟨rfl, rfl⟩;have hsz : (#[] ++ Builtin.zeroCells (Value.int .i64 0).cells (0 + k - 0) ++ Builtin.zeroCells (Value.int .i64 0).cells (grownCap w (0 + k) 0 3 - (0 + k)) : Array Value).size = grownCap w (0 + k) 0 3 := by
   have hG : 0 + k <= grownCap w (0 + k) 0 3 := grownCap_ge w _ _ _;generalize grownCap w (0 + k) 0 3 = G at hG ⊢
   simp [Builtin.zeroCells, Value.cells];omega
  have hle := grownCap_le_maxLen w (0 + k) 0 3 (by unfold maxLen; omega);refine ⟨_, rfl, ⟨rfl, ⟨rfl, fun _ => Nat.le_succ _⟩, rfl, by simp, fun b hb _ => heap_alloc_lt w.drew _ hb⟩, _, _, rfl, fun key => ?_⟩;refine { fits := Nat.zero_le _, pos := by omega, even := fun i row h => by simp at h, cell := fun i row j x h => by simp at h, room := fun _ => .inr ⟨w.heap.size, 0, _, _, rfl, ?_, heap_alloc_at w.drew _, ?_, ?_⟩ }
  ·rw [if_pos ⟨Nat.le_refl _, by simp⟩]
  ·show 0 + grownCap w (0 + k) 0 3 * 1 <= _
   refine Nat.le_trans ?_ (Nat.le_of_eq hsz.symm);omega
  ·show grownCap w (0 + k) 0 3 <= _
   unfold maxLen at hle; omega
noncomputable def XCat : Cx := { Γ := [], T := T, nt := 36, ext := [96], base := nilCR 96 growN }
theorem XCat_ok : CrOk Tryz.prog (callAt 1 XCat) := callAt_ok hmix hT sound_nil inl_nil (nil_ok Grow_call) 1
noncomputable def ConcatC : Con := conP 1 (fun L : List (List Int) => L.length <= 1000 /\ L.flatten.length <= 100000000) (fun L => [.one (.nest false 1 (rowsI L))]) (fun L => .one (.flat true 1 (ints L.flatten)))
theorem ConcatC_at {L : List (List Int)} (h : L.length <= 1000 /\ L.flatten.length <= 100000000) : ConcatC.F [.one (.nest false 1 (rowsI L))] = some (.one (.flat true 1 (ints L.flatten)), []) :=
 conP_at (a := L) (fun a b _ _ h => by simp at h; rw [rowsI_inj h]) h
theorem flat_take {L : List (List Int)} {i : Nat} (h : i < L.length) : (L.take (i + 1)).flatten = (L.take i).flatten ++ L[i] := by
 rw [qTq h, List.flatten_append]; simp
theorem flat_le (L : List (List Int)) (i : Nat) : (L.take i).flatten.length <= L.flatten.length := by
 conv => rhs; rw [<- List.take_append_drop i L, List.flatten_append, List.length_append]
 omega
set_option maxHeartbeats 1000000 in
theorem Concat_ok : SoundC Tryz.prog T 67 ConcatC := by
 refine sound_con (X := XCat) (cr := callAt 1 XCat) XCat_ok hmix hT sound_nil Tryz.func67 (by rfl) (by rfl) (by rfl) (by rfl) 1 ?_
 rintro L ⟨hL, hF⟩
 refine two_le ?_
 refine LoopP.intro (α := Nat) (fun i => i <= L.length) (fun i => L.length - i) (fun i => [(0, .sl 0 none none), (3, .s (.i .i64 ((L.take i).flatten.length : Nat))), (9, .sl 0 none none), (10, .s (.i .i64 L.length)), (11, .s (.i .i64 i))])
  (fun i => [(0, some (.nest false 1 (rowsI L) [] []))]) 1 0 (by omega) (by refine Weak.bw [(0, some _)] (by ((repeat' first|exact rfl|exact trivial|apply And.intro) <;> (repeat' first|exact rfl|exact trivial|apply And.intro)); all_goals (exact sc_eq (by rw [qrq])))) ?_
 rintro i hi
 have hfi := flat_le L i
 refine Pick.by (fun hc => ?_) (fun hc => ?_)
 ·have hlt : i < L.length := by have := of_decide_eq_true hc; omega
  have hpg : (rowsI L)[i]? = some (ints L[i]) := qgq (qEq hlt);have hft := flat_take hlt;have hfi2 := flat_le L (i + 1);rw [hft, List.length_append] at hfi2;refine Idx.by i rfl (by rw [qrq]; exact hlt) ?_;refine Pick.T (by simpa [qrq] using hlt) ?_;refine Look.by _ hpg ?_;refine Pick.T (inI64_of (by rw [qiq]; omega) (by rw [qiq]; omega)) ?_;refine Pick.n ?_;refine Next.by (i + 1) (by omega) (by omega) (by refine Weak.bw [(0, some _)] (by ((repeat' first|exact rfl|exact trivial|apply And.intro) <;> (repeat' first|exact rfl|exact trivial|apply And.intro)); all_goals (exact sc_eq (by rw [hft, List.length_append, qiq]; omega))))
 have hil : i = L.length := by have := of_decide_eq_false hc; omega
 subst hil
 rw [List.take_length]
 refine ⟨rfl, .i .i64 ((L.flatten.length : Nat) : Int), some (1, []), rfl, if_pos ⟨by omega, by omega⟩, ?_⟩
 refine LoopP.intro (α := Nat) (fun i => i <= L.length) (fun i => L.length - i) (fun i => [(6, .sl 1 none none), (25, .sl 0 none none), (26, .s (.i .i64 L.length)), (27, .s (.i .i64 i))])
  (fun i => [(0, some (.nest false 1 (rowsI L) [] [])), (1, some (.flat true 1 (ints (L.take i).flatten)))]) 2 0 (by omega) (by refine Weak.bw [(0, some _), (1, some _)] (by ((repeat' first|exact rfl|exact trivial|apply And.intro) <;> (repeat' first|exact rfl|exact trivial|apply And.intro)); all_goals ((first|exact sc_eq (by rw [qrq]) | rfl)))) ?_
 rintro i hi
 have hfi := flat_le L i
 refine Pick.by (fun hc => ?_) (fun hc => ?_)
 ·have hlt : i < L.length := by have := of_decide_eq_true hc; omega
  have hpg : (rowsI L)[i]? = some (ints L[i]) := qgq (qEq hlt);have hft := flat_take hlt;have hfi2 := flat_le L (i + 1);rw [hft, List.length_append] at hfi2;refine Idx.by i rfl (by rw [qrq]; exact hlt) ?_;refine Pick.T (by simpa [qrq] using hlt) ?_;refine Look.by _ hpg ?_;refine Pick.T (decide_eq_true (by rw [qiq, show (cut none (ints L[i])).length = L[i].length from qiq _]; omega)) ?_;refine Pick.n ?_;refine Next.by (i + 1) (by omega) (by omega) (by refine Weak.bw [(0, some _), (1, some _)] (by ((repeat' first|exact rfl|exact trivial|apply And.intro) <;> (repeat' first|exact rfl|exact trivial|apply And.intro)); all_goals ((rw [hft, ints_append]; rfl))))
 have hil : i = L.length := by have := of_decide_eq_false hc; omega
 subst hil
 rw [List.take_length]
 exact ⟨rfl, rfl, rfl⟩
end Go.Sh
namespace Go.Sh
open Go.Proofs
noncomputable def sptF (n : Int) (E : List Ed) (l : List Int) : List Nd × Int := if twoB n E l = true then runSp 6 (withL l E).length l.length (startS E l) else ([], 1)
noncomputable def SptC : Con := conP 2 (fun a : (Int × List Ed) × List Int => a.2.length <= 1000) (fun a => [grV a.1.1 a.1.2, .one (.flat false 1 (ints a.2))]) (fun a => .tup [.one (.flat true 3 (nods (sptF a.1.1 a.1.2 a.2).1)), .one (.s (.i .i64 (sptF a.1.1 a.1.2 a.2).2))])
theorem SptC_at {n : Int} {E : List Ed} {l : List Int} (h : l.length <= 1000) : SptC.F [grV n E, .one (.flat false 1 (ints l))] = some (.tup [.one (.flat true 3 (nods (sptF n E l).1)), .one (.s (.i .i64 (sptF n E l).2))], []) :=
 conP_at (a := ((n, E), l)) (fun x y _ _ h => by
  obtain ⟨⟨n, E⟩, l⟩ := x;obtain ⟨⟨n', E'⟩, l'⟩ := y;simp at h;obtain ⟨h1, h2⟩ := h;obtain ⟨rfl, rfl⟩ := grV_inj h1;rw [ints_inj h2]) h
noncomputable def XSpt : Cx := { Γ := [(33, TwoC), (66, OwnC), (67, ConcatC), (70, IndexC), (71, PairC)], T := T, nt := 204, inl := [(36, inlF Tryz.f36), (68, inlF Tryz.f68), (69, inlF Tryz.f69)], ext := [35], base := seqCR 35 79 1 srtP srtF }
theorem XSpt_s : Sound Tryz.prog T XSpt.Γ := sound_cons Two_ok (sound_cons Own_ok (sound_cons Concat_ok (sound_cons Index_ok (sound_cons Pair_ok sound_nil))))
theorem XSpt_ok : CrOk Tryz.prog (callAt 2 XSpt) := callAt_ok hmix hT XSpt_s (inl_cons Tryz.func36 (by rfl) (by rfl) (by rfl) (inl_cons Tryz.func68 (by rfl) (by rfl) (by rfl) (inl_cons Tryz.func69 (by rfl) (by rfl) (by rfl) inl_nil))) (seq_ok Sorted_call) 2
theorem concat2 {a b : List Int} : [a, b].flatten = a ++ b := by simp
theorem cat_at {F G : Flat} {a b : List Int} (ha : F = ints a) (hb : G = ints b) (hl : a.length + b.length <= 100000000) : ConcatC.F [.one (.nest false 1 [F, G])] = some (.one (.flat true 1 (ints (a ++ b))), []) := by
 subst ha hb
 have := ConcatC_at (L := [a, b]) ⟨by simp, by simp; omega⟩
 rw [concat2] at this
 exact this
theorem stN_snoc {L : List Ed} {x : Ed} : stN (L ++ [x]).reverse = nput (nput (stN L.reverse) x.1 (nget (stN L.reverse) x.1 ++ [x.2])) x.2 (nget (nput (stN L.reverse) x.1 (nget (stN L.reverse) x.1 ++ [x.2])) x.2 ++ [x.1]) := by rw [List.reverse_append]; rfl
theorem stT_snoc {L : List Ed} {x : Ed} : stT (L ++ [x]).reverse = mapPut (stT L.reverse) (keyE x) (L.length : Nat) := by
 rw [List.reverse_append]
 show mapPut (stT L.reverse) (keyE x) (L.reverse.length : Nat) = _
 rw [List.length_reverse]
set_option maxRecDepth 200000 in
set_option maxHeartbeats 4000000 in
theorem Spt_ok : SoundC Tryz.prog T 25 SptC := by
 refine sound_con (X := XSpt) (cr := callAt 2 XSpt) XSpt_ok hmix hT XSpt_s Tryz.func25 (by rfl) (by rfl) (by rfl) (by rfl) 3 ?_
 rintro ⟨⟨n, E⟩, l⟩ hl
 dsimp only at hl ⊢
 refine two_le ?_
 refine Call.by _ _ (TwoC_at hl) ?_
 refine Pick.by (fun h1 => ?_) (fun h1 => ?_)
 ·have hF : sptF n E l = ([], 1) := if_neg fun h => by rw [h] at h1; simp at h1
  rw [hF];refine ⟨rfl, ?_⟩
  (repeat' first|exact rfl|exact trivial|apply And.intro)
 have h1 : twoB n E l = true := by cases h : twoB n E l with | true => rfl | false => rw [h] at h1; simp at h1
 obtain ⟨hR, h2, ⟨hnd, hrng⟩, -⟩ := twoB_iff.1 h1
 have hEl := hR.2.2.1
 obtain ⟨W, hW⟩ : ∃ W, withL l E = W := ⟨_, rfl⟩
 have hWl : W.length <= 4000 := by rw [<- hW]; exact Nat.le_trans withL_len hEl
 have hWok := (withL_ok (l := l) hR).1
 rw [hW] at hWok
 have hF : sptF n E l = runSp 6 W.length l.length (startS E l) := by unfold sptF; rw [if_pos h1, hW]
 have hS : startS E l = { left := sortI l, near := stN W.reverse, thing := stT W.reverse, out := [] } := by unfold startS; rw [hW]
 have hok0 := start_ok (l := l) hR hnd
 refine Call.by _ _ (WithC_at (n := n) (E := E) (l := l) ⟨hEl, by omega, hR, hrng⟩) ?_
 rw [hW]
 refine LoopP.intro (α := Nat) (fun i => i <= W.length) (fun i => W.length - i) (fun i => [(1, .sl 0 none none), (6, .mp 1), (7, .ptr 2 0), (8, .sl 4 none none), (31, .sl 4 none none), (32, .s (.i .i64 W.length)), (33, .s (.i .i64 i))])
  (fun i => [(0, some (.flat false 1 (ints l))), (1, some (.map true 2 (stT (W.take i).reverse))), (2, some (.blk [.mp 3])), (3, some (.fmap (encN (stN (W.take i).reverse)))), (4, some (.flat true 2 (edges W)))]) 5 0 (by omega) (by refine Weak.bw (sg 0 [_,_,_,_,_]) (by ((repeat' first|exact rfl|exact trivial|apply And.intro) <;> (repeat' first|exact rfl|exact trivial|apply And.intro)); all_goals (exact sc_eq (by rw [qeq])))) ?_
 rintro i hi
 refine Pick.by (fun hc => ?_) (fun hc => ?_)
 ·have hlt : i < W.length := by have := of_decide_eq_true hc; omega
  obtain ⟨⟨a, b⟩, hx⟩ : ∃ x, W[i] = x := ⟨_, rfl⟩;have hWi : W[i]? = some (a, b) := by rw [qEq hlt, hx]
  have hok := hWok _ (qMq hWi);unfold okE at hok;have hn := hR.2.1;have hts : W.take (i + 1) = W.take i ++ [(a, b)] := by rw [List.take_add_one, hWi]; rfl
  have hnear : ∀ v, nget (stN (W.take i).reverse) v = nearL (W.take i) v := fun v => by
   have := stN_near (n := n) (r := (W.take i).reverse) (fun p hp => hWok p (List.mem_of_mem_take (by simpa using hp))) v;rw [List.reverse_reverse] at this; exact this
  have hnl : ∀ v, (nearL (W.take i) v).length <= 8000 := fun v => by have := nearL_length (W.take i) v; rw [List.length_take] at this; omega
  refine Idx.by i rfl (by rw [qeq]; exact hlt) ?_;refine Look.by _ (edges_get hWi) ?_;refine Pick.n ?_;refine Pick.n ?_;refine Pick.n ?_;obtain ⟨N, hN⟩ : ∃ N, stN (W.take i).reverse = N := ⟨_, rfl⟩;rw [hN] at hnear;rw [hN];refine Call.by _ _ (cat_at (a := nget N a) (b := [b]) (fget_enc N a) rfl (by rw [hnear, List.length_singleton]; have := hnl a; omega)) ?_;refine Pick.n ?_;refine Seg.by (by kernel_rfl) ?_;rw [fput_enc];obtain ⟨N1, hN1⟩ : ∃ N1, nput N a (nget N a ++ [b]) = N1 := ⟨_, rfl⟩;have hN1g : nget N1 b = nget N b := by rw [<- hN1, nget_put, if_neg (by omega)]
  rw [hN1];refine Pick.n ?_;refine Call.by _ _ (cat_at (a := nget N1 b) (b := [a]) (fget_enc N1 b) rfl (by rw [hN1g, hnear, List.length_singleton]; have := hnl b; omega)) ?_;refine Pick.n ?_;refine Seg.by (by kernel_rfl) ?_;rw [fput_enc];refine Pick.n ?_;have hNf : stN (W.take (i + 1)).reverse = nput N1 b (nget N1 b ++ [a]) := by rw [hts, stN_snoc, hN, hN1]
  have hTf : stT (W.take (i + 1)).reverse = mapPut (stT (W.take i).reverse) [a, b] (i : Int) := by
   rw [hts, stT_snoc, List.length_take, show min i W.length = i by omega]; rfl
  refine Next.by (i + 1) (by omega) (by omega) (by refine Weak.bw (sg 0 [_,_,_,_,_]) (by ((repeat' first|exact rfl|exact trivial|apply And.intro) <;> (repeat' first|exact rfl|exact trivial|apply And.intro)); all_goals ((first|exact sc_eq (by omega) | exact congrArg encN hNf | exact hTf))))
 have hil : i = W.length := by have := of_decide_eq_false hc; omega
 subst hil
 rw [List.take_length]
 refine ⟨rfl, rfl, _, _, _, .inl rfl, rfl, ⟨l, rfl, by omega⟩, ?_⟩
 have hS0 : ({ left := sortI l, near := stN W.reverse, thing := stT W.reverse, out := [] } : Sp) = startS E l := hS.symm
 refine LoopP.intro (α := Sp) (fun s => SpI s /\ runSp 6 W.length s.left.length s = sptF n E l /\ s.out.length + 2 * s.left.length <= 2 * l.length /\ ∀ v ∈ s.left, v ∈ l) (fun s => s.left.length) (fun s => [(6, .mp 0), (7, .ptr 1 0), (8, .sl 3 none none), (11, .sl 4 none none), (12, .sl 5 none none)])
  (fun s => [(0, some (.map true 2 s.thing)), (1, some (.blk [.mp 2])), (2, some (.fmap (encN s.near))), (3, some (.flat true 2 (edges W))), (4, some (.flat true 3 (nods s.out))), (5, some (.flat false 1 (ints s.left)))]) 6 { left := sortI l, near := stN W.reverse, thing := stT W.reverse, out := [] }
  ⟨by rw [hS0]; exact hok0, by rw [hS0, hF]; show runSp 6 W.length (sortI l).length _ = _; rw [sortI_length], by show 0 + 2 * (sortI l).length <= _; rw [sortI_length]; omega, fun v hv => mem_sortI.1 hv⟩ (by refine Weak.bf [229] [(0, some _), (1, some _), (2, some _), (3, some _), (4, none), (5, some _)] (by ((repeat' first|exact rfl|exact trivial|apply And.intro) <;> (repeat' first|exact rfl|exact trivial|apply And.intro)); all_goals ((first | exact (srtF_ints l).symm | exact srtF_ints l))) (by rfl)) ?_
 rintro s ⟨hok, hrun, hout, hin⟩
 have hin64 : ∀ {v : Int}, v ∈ s.left -> inI64 v = true := fun {v} hv => by have h1 := hrng v (hin v hv); have h2 := hR.2.1; exact inI64_of (by omega) (by omega)
 have hleft : s.left.length <= 1000 := by omega
 refine Pick.by (fun hc => ?_) (fun hc => ?_)
 case refine_2 =>
  have h2 : s.left.length <= 2 := by have := of_decide_eq_false hc; rw [qiq] at this; omega
  rw [runSp_stop h2] at hrun;rw [<- hrun];refine ⟨rfl, ?_⟩
  (repeat' first|exact rfl|exact trivial|apply And.intro)
 have h3 : ¬ s.left.length <= 2 := by have := of_decide_eq_true hc; rw [qiq] at this; omega
 obtain ⟨f, hf⟩ : ∃ f, s.left.length = f + 1 := ⟨s.left.length - 1, by omega⟩
 rw [hf] at hrun
 simp only [runSp] at hrun
 rw [if_neg h3] at hrun
 have h20 : ∀ v, (fget (encN s.near) v).length = (nget s.near v).length := fun v => by rw [fget_enc, qiq]
 refine LoopP.intro (α := Nat) (fun k => k <= s.left.length /\ ∀ j (hj : j < s.left.length), j < k -> (nget s.near s.left[j]).length ≠ 2) (fun k => s.left.length - k) (fun k => [(0, .sl 5 none none), (1, .fn 69 [.ptr 1 0]), (7, .s (.i .i64 s.left.length)), (8, .s (.i .i64 k)), (1000006, .mp 0), (1000007, .ptr 1 0), (1000008, .sl 3 none none), (1000011, .sl 4 none none), (1000012, .sl 5 none none)])
  (fun k => [(0, some (.map true 2 s.thing)), (1, some (.blk [.mp 2])), (2, some (.fmap (encN s.near))), (3, some (.flat true 2 (edges W))), (4, some (.flat true 3 (nods s.out))), (5, some (.flat false 1 (ints s.left)))]) 6 0 ⟨by omega, by omega⟩ (by refine Weak.bw (sg 0 [_,_,_,_,_,_]) (by ((repeat' first|exact rfl|exact trivial|apply And.intro) <;> (repeat' first|exact rfl|exact trivial|apply And.intro)); all_goals (exact sc_eq (by rw [qiq])))) ?_
 rintro k ⟨hk, hno⟩
 refine Pick.by (fun hc2 => ?_) (fun hc2 => ?_)
 case refine_2 =>
  have hke : k = s.left.length := by have := of_decide_eq_false hc2; omega
  have hpk : pickS s = none := by
   unfold pickS;rw [List.findIdx?_eq_none_iff];intro x hx;obtain ⟨j, hj, rfl⟩ := List.getElem_of_mem hx;exact decide_eq_false (hno j hj (by omega))
  rw [hpk] at hrun;rw [<- hrun];refine ⟨rfl, ?_⟩
  (repeat' first|exact rfl|exact trivial|apply And.intro)
 have hlt : k < s.left.length := by have := of_decide_eq_true hc2; omega
 have hkm : s.left[k] ∈ s.left := List.getElem_mem hlt
 refine Idx.by k rfl (by rw [qiq]; exact hlt) ?_
 refine Look.by _ (qhq (qEq hlt)) ?_
 refine Pick.T (hin64 hkm) ?_
 refine Pick.by (fun hc3 => ?_) (fun hc3 => ?_)
 case refine_2 =>
  have hne : (nget s.near s.left[k]).length ≠ 2 := fun e => ne_of_beq_false hc3 (by rw [h20, e]; rfl)
  refine Pick.n ?_;refine Next.by (k + 1) ⟨by omega, fun j hj hjk => by
   by_cases e : j = k
   ·subst e; exact hne
   ·exact hno j hj (by omega)⟩ (by omega) (by refine Weak.bw (sg 0 [_,_,_,_,_,_]) (by ((repeat' first|exact rfl|exact trivial|apply And.intro) <;> (repeat' first|exact rfl|exact trivial|apply And.intro)); all_goals (exact sc_eq (by omega))))
 have hc3 : (nget s.near s.left[k]).length = 2 := by have := eq_of_beq hc3; rw [h20] at this; omega
 have hpk : pickS s = some k := by
  unfold pickS;rw [List.findIdx?_eq_some_iff_getElem];exact ⟨hlt, decide_eq_true hc3, fun j hj => by rw [decide_eq_true_eq]; exact hno j (by omega) hj⟩
 rw [hpk] at hrun
 dsimp only at hrun
 obtain ⟨v, p, q, hp⟩ := hok.pick hpk
 obtain ⟨sok, sleft, slen⟩ := hok.step W.length hp
 have hvk : s.left[k]? = some v := hp.at_
 have hv64 := hin64 hp.mem
 have hp64 := hin64 hp.pm
 have hq64 := hin64 hp.qm
 refine Idx.by k rfl (by rw [qiq]; exact hlt) ?_
 refine Look.by _ (qhq hvk) ?_
 have hil := qiq s.left
 refine Rng.by 0 k rfl rfl (by omega) (by omega) ?_
 refine Pick.n ?_
 refine Rng.by (k + 1) s.left.length (by omega) (by rw [hil]) (by omega) (by omega) ?_
 have ct1 : cut (subOf none 0 0 k) (ints s.left) = ints (s.left.take k) := by
  show ((ints s.left).drop 0).take (k - 0) = _
  simp [ints]
 have ct2 : cut (subOf none 0 (k + 1) s.left.length) (ints s.left) = ints (s.left.drop (k + 1)) := cut_from
 refine Call.by _ _ (cat_at ct1 ct2 (by rw [List.length_take, List.length_drop]; omega)) ?_
 refine Seg.by (by kernel_rfl) ?_
 have hgv : fget (encN s.near) v = ints [p, q] := by rw [fget_enc, hp.near]
 refine Pick.T hv64 ?_
 refine Idx.by 0 rfl (by rw [hgv]; show 0 < 2; omega) ?_
 refine Look.by [.i .i64 p] (by rw [hgv]; rfl) ?_
 refine Pick.T hv64 ?_
 refine Idx.by 1 rfl (by rw [hgv]; show 1 < 2; omega) ?_
 refine Look.by [.i .i64 q] (by rw [hgv]; rfl) ?_
 refine Pick.T hv64 ?_
 refine Idx.by 0 rfl (by rw [hgv]; show 0 < 2; omega) ?_
 refine Look.by [.i .i64 p] (by rw [hgv]; rfl) ?_
 refine Pick.T hv64 ?_
 refine Idx.by 1 rfl (by rw [hgv]; show 1 < 2; omega) ?_
 refine Look.by [.i .i64 q] (by rw [hgv]; rfl) ?_
 refine Seg.by (by kernel_rfl) ?_
 refine Pick.T hv64 ?_
 obtain ⟨⟨a, b⟩, hab⟩ : ∃ e, pairF p q = e := ⟨_, rfl⟩
 have ha : (if q < p then q else p) = a := congrArg Prod.fst hab
 have hb : (if q > p then q else p) = b := congrArg Prod.snd hab
 have hends : endsS s v = (a, b) := by unfold endsS; rw [hp.near]; exact hab
 have hgd : s.left.getD k 0 = v := by rw [qDq, hvk]; rfl
 have hlE : s.left.eraseIdx k = s.left.take k ++ s.left.drop (k + 1) := List.eraseIdx_eq_take_drop_succ ..
 have habm : (a ∈ s.left /\ a ≠ v) /\ (b ∈ s.left /\ b ≠ v) := by
  rcases pairF_two p q with ⟨e1, e2⟩ | ⟨e1, e2⟩ <;> rw [hab] at e1 e2 <;> dsimp only at e1 e2 <;> subst e1 <;> subst e2
  ·exact ⟨⟨hp.pm, hp.pv⟩, hp.qm, hp.qv⟩
  ·exact ⟨⟨hp.qm, hp.qv⟩, hp.pm, hp.pv⟩
 have ha64 := hin64 habm.1.1
 have hb64 := hin64 habm.2.1
 have hab2 : a ≠ b := by have := pairF_lt hp.pq; rw [hab] at this; dsimp only at this; omega
 have pr64 : ∀ {x y : Int}, x ∈ s.left -> y ∈ s.left -> inI64 (pairF x y).1 = true /\ inI64 (pairF x y).2 = true := fun {x y} hx hy => by
  rcases pairF_two x y with ⟨e1, e2⟩ | ⟨e1, e2⟩ <;> rw [e1, e2]
  ·exact ⟨hin64 hx, hin64 hy⟩
  ·exact ⟨hin64 hy, hin64 hx⟩
 have hnpq : [p, q].Nodup := by simp [hp.pq]
 have hnl : ∀ u ∈ s.left, (nget s.near u).length <= 1000 := fun u hu => Nat.le_trans (nodup_len (hok.nd u hu) fun x hx => (hok.sym u hu x hx).1) hleft
 refine LoopP.intro (α := Nat) (fun i => i <= 2) (fun i => 2 - i) (fun i => [(6, .mp 0), (7, .ptr 1 0), (8, .sl 3 none none), (11, .sl 4 none none), (12, .sl 5 none none), (14, .s (.i .i64 v)), (15, .s (.i .i64 a)), (16, .s (.i .i64 b)), (114, .sl 6 none none), (115, .s (.i .i64 2)), (116, .s (.i .i64 i))])
  (fun i => [(0, some (.map true 2 s.thing)), (1, some (.blk [.mp 2])), (2, some (.fmap (encN (cutsV v ([p, q].take i) s.near)))), (3, some (.flat true 2 (edges W))), (4, some (.flat true 3 (nods s.out))), (5, some (.flat true 1 (ints (s.left.eraseIdx k)))), (6, some (.flat false 1 (ints [p, q])))]) 7 0 (by omega) (by refine Weak.bw (sg 0 [_,_,_,_,_,_,_]) (by ((repeat' first|exact rfl|exact trivial|apply And.intro) <;> (repeat' first|exact rfl|exact trivial|apply And.intro)); all_goals ((first|exact sc_eq ha.symm | exact sc_eq hb.symm | exact sc_eq (by rw [hgv]; rfl) | exact hgv.symm | exact congrArg ints hlE)))) ?_
 rintro i hi
 refine Pick.by (fun hc4 => ?_) (fun hc4 => ?_)
 ·have hlt4 : i < 2 := by have := of_decide_eq_true hc4; omega
  obtain ⟨x, hx⟩ : ∃ x, [p, q][i]'hlt4 = x := ⟨_, rfl⟩;have hxi : [p, q][i]? = some x := by rw [qEq (by exact hlt4), hx]
  have hxm : x ∈ s.left /\ v ∈ nget s.near x := by
   have : x = p \/ x = q := by simpa using qMq hxi
   rcases this with rfl | rfl
   ·exact ⟨hp.pm, hp.vp⟩
   ·exact ⟨hp.qm, hp.vq⟩
  have hxn : x ∉ [p, q].take i := fun hm => by
   have h1 := hnpq;rw [<- List.take_append_drop i [p, q], List.drop_eq_getElem_cons (by exact hlt4), hx, List.nodup_append] at h1;exact h1.2.2 x hm x List.mem_cons_self rfl
  have hx64 := hin64 hxm.1;obtain ⟨N, hN⟩ : ∃ N, cutsV v ([p, q].take i) s.near = N := ⟨_, rfl⟩;have hNx : nget N x = nget s.near x := by rw [<- hN, cuts_get ((List.take_sublist i [p, q]).nodup hnpq), if_neg hxn]
  have hNn : cutsV v ([p, q].take (i + 1)) s.near = nput N x ((nget N x).erase v) := by
   rw [List.take_add_one, hxi];show ([p, q].take i ++ [x]).foldl (cutV v) s.near = _
   rw [List.foldl_append];show cutV v (cutsV v ([p, q].take i) s.near) x = _
   rw [hN]; rfl
  rw [hN];have hfx : fget (encN N) x = ints (nget s.near x) := by rw [fget_enc, hNx]
  have hrl := hnl x hxm.1;have hidx : idxI (nget s.near x) v = ((nget s.near x).idxOf v : Nat) := if_pos hxm.2;have hio : (nget s.near x).idxOf v < (nget s.near x).length := List.idxOf_lt_length_iff.2 hxm.2;obtain ⟨o, ho⟩ : ∃ o, (nget s.near x).idxOf v = o := ⟨_, rfl⟩;rw [ho] at hidx hio;have her : (nget s.near x).take o ++ (nget s.near x).drop (o + 1) = (nget N x).erase v := by
   rw [hNx, <- eraseIdx_erase (hok.nd x hxm.1) (k := o) (by rw [<- ho, qEq (by rw [ho]; exact hio), List.getElem_idxOf]), List.eraseIdx_eq_take_drop_succ]
  refine Idx.by i rfl hlt4 ?_;refine Look.by _ (qhq hxi) ?_;refine Pick.T hx64 ?_;refine Call.by _ _ (show IndexC.F [.one (.flat false 1 (fget (encN N) x)), .one (.s (.i .i64 v))] = some (.one (.s (.i .i64 (o : Nat))), []) by rw [hfx, <- hidx]; exact IndexC_at v (by omega)) ?_;have hfl : (fget (encN N) x).length = (nget s.near x).length := by rw [hfx, qiq]
  refine Pick.T hx64 ?_;refine Rng.by 0 o rfl rfl (by omega) (by rw [hfl]; omega) ?_;refine Pick.T hx64 ?_;refine Pick.n ?_;refine Rng.by (o + 1) (nget s.near x).length (by omega) (by rw [hfl]) (by omega) (by rw [hfl]; omega) ?_;have ct1 : cut (subOf none 0 0 o) (fget (encN N) x) = ints ((nget s.near x).take o) := by
   rw [hfx];show ((ints (nget s.near x)).drop 0).take (o - 0) = _
   simp [ints]
  have ct2 : cut (subOf none 0 (o + 1) (nget s.near x).length) (fget (encN N) x) = ints ((nget s.near x).drop (o + 1)) := by rw [hfx]; exact cut_from
  refine Call.by _ _ (cat_at ct1 ct2 (by rw [List.length_take, List.length_drop]; omega)) ?_;refine Pick.T hx64 ?_;refine Seg.by (by kernel_rfl) ?_;refine Pick.n ?_;have hNf : encN (cutsV v ([p, q].take (i + 1)) s.near) = fput (encN N) x (ints ((nget s.near x).take o ++ (nget s.near x).drop (o + 1))) := by rw [hNn, <- her, fput_enc]
  refine Next.by (i + 1) (by omega) (by omega) (by refine Weak.bw (sg 0 [_,_,_,_,_,_,_]) (by ((repeat' first|exact rfl|exact trivial|apply And.intro) <;> (repeat' first|exact rfl|exact trivial|apply And.intro)); all_goals ((first|exact sc_eq (by omega) | exact hNf))))
 have hi2 : i = 2 := by have := of_decide_eq_false hc4; omega
 subst hi2
 have hcut : cutsV v ([p, q].take 2) s.near = cutsV v (nget s.near v) s.near := by rw [hp.near]; rfl
 rw [hcut]
 obtain ⟨N, hN⟩ : ∃ N, cutsV v (nget s.near v) s.near = N := ⟨_, rfl⟩
 rw [hN]
 have hva := pr64 hp.mem habm.1.1
 have hvb := pr64 hp.mem habm.2.1
 have hpab := pr64 habm.1.1 habm.2.1
 have hpe : pairF a b = (a, b) := by rw [<- hab, show a = (pairF p q).1 by rw [hab], show b = (pairF p q).2 by rw [hab]]; exact pairF_idem p q
 obtain ⟨o1, ho1⟩ : ∃ o1, s.out ++ [((1, mapGet s.thing (keyE (pairF v a)), mapGet s.thing (keyE (pairF v b))) : Nd)] = o1 := ⟨_, rfl⟩
 have ho1l : o1.length = s.out.length + 1 := by rw [<- ho1]; simp
 have hno1 : nods o1 = nods s.out ++ [[.i .i64 1, .i .i64 (mapGet s.thing (keyE (pairF v a))), .i .i64 (mapGet s.thing (keyE (pairF v b)))]] := by rw [<- ho1]; exact nods_snoc ..
 have hst : stepS W.length s k = if mapHas s.thing (keyE (a, b)) = true then
   { left := s.left.eraseIdx k, near := N, thing := mapPut s.thing (keyE (a, b)) ((W.length : Int) + (o1.length : Int)), out := o1 ++ [(2, mapGet s.thing (keyE (a, b)), (W.length : Int) + (o1.length : Int) - 1)] }
   else { left := s.left.eraseIdx k, near := joinN N a b, thing := mapPut s.thing (keyE (a, b)) ((W.length : Int) + (o1.length : Int) - 1), out := o1 } := by
  unfold stepS;simp only [hgd, hends, hN, ho1]
 have hrm : ((nods s.out).length : Int) = s.out.length := by rw [nods_length]
 refine Call.by _ _ (PairC_at v a) ?_
 refine Pick.T hva.1 ?_
 refine Pick.T hva.2 ?_
 refine Call.by _ _ (PairC_at v b) ?_
 refine Pick.T hvb.1 ?_
 refine Pick.T hvb.2 ?_
 refine Pick.T (by rw [decide_eq_true_iff, nods_length]; show _ + 1 <= _; omega) ?_
 refine Seg.by (by kernel_rfl) ?_
 refine Call.by _ _ (PairC_at a b) ?_
 refine Pick.T hpab.1 ?_
 refine Pick.T hpab.2 ?_
 have hko : keyE (pairF a b) = keyE (a, b) := by rw [hpe]
 refine Pick.by (fun hc5 => ?_) (fun hc5 => ?_)
 ·have hc5 : mapHas s.thing (keyE (a, b)) = true := by rw [<- hko]; exact hc5
  rw [if_pos hc5] at hst;obtain ⟨s', hs'⟩ : ∃ s', stepS W.length s k = s' := ⟨_, rfl⟩;rw [hs'] at hst sok sleft slen hrun;have e1 : s'.left = s.left.eraseIdx k := by rw [hst]
  have e2 : s'.near = N := by rw [hst]
  have e3 : s'.thing = mapPut s.thing (keyE (pairF a b)) ((W.length : Int) + (o1.length : Int)) := by rw [hst, hko]
  have e4 : s'.out = o1 ++ [(2, mapGet s.thing (keyE (pairF a b)), (W.length : Int) + (o1.length : Int) - 1)] := by rw [hst, hko]
  have hX : (nods s.out ++ [[Sc.i .i64 1, Sc.i .i64 (mapGet s.thing (keyE (pairF v a))), Sc.i .i64 (mapGet s.thing (keyE (pairF v b)))]]) = nods o1 := hno1.symm;have hXl : (((nods s.out ++ [[Sc.i .i64 1, Sc.i .i64 (mapGet s.thing (keyE (pairF v a))), Sc.i .i64 (mapGet s.thing (keyE (pairF v b)))]]) : Flat).length : Int) = o1.length := by rw [hX, nods_length]
  have hWe : ((edges W).length : Int) = W.length := by rw [qeq]
  have e4n : nods s'.out = ((nods s.out ++ [[Sc.i .i64 1, Sc.i .i64 (mapGet s.thing (keyE (pairF v a))), Sc.i .i64 (mapGet s.thing (keyE (pairF v b)))]]) ++ [[Sc.i .i64 2, Sc.i .i64 (mapGet s.thing (keyE (pairF a b))), Sc.i .i64 (((edges W).length : Int) + ((nods s.out ++ [[Sc.i .i64 1, Sc.i .i64 (mapGet s.thing (keyE (pairF v a))), Sc.i .i64 (mapGet s.thing (keyE (pairF v b)))]]).length : Int) - 1)]]) := by rw [e4, nods_snoc, hXl, hWe, hX]
  have e4l : ((((nods s.out ++ [[Sc.i .i64 1, Sc.i .i64 (mapGet s.thing (keyE (pairF v a))), Sc.i .i64 (mapGet s.thing (keyE (pairF v b)))]]) ++ [[Sc.i .i64 2, Sc.i .i64 (mapGet s.thing (keyE (pairF a b))), Sc.i .i64 (((edges W).length : Int) + ((nods s.out ++ [[Sc.i .i64 1, Sc.i .i64 (mapGet s.thing (keyE (pairF v a))), Sc.i .i64 (mapGet s.thing (keyE (pairF v b)))]]).length : Int) - 1)]]) : Flat).length : Int) = o1.length + 1 := by rw [<- e4n, nods_length, e4, List.length_append, List.length_singleton]; omega
  refine Pick.T (show inI64 (((edges W).length : Int) + (((nods s.out ++ [[Sc.i .i64 1, Sc.i .i64 (mapGet s.thing (keyE (pairF v a))), Sc.i .i64 (mapGet s.thing (keyE (pairF v b)))]]) : Flat).length : Int)) = true by rw [hXl, hWe]; exact inI64_of (by omega) (by omega)) ?_;refine Pick.T (show inI64 (((edges W).length : Int) + (((nods s.out ++ [[Sc.i .i64 1, Sc.i .i64 (mapGet s.thing (keyE (pairF v a))), Sc.i .i64 (mapGet s.thing (keyE (pairF v b)))]]) : Flat).length : Int) - 1) = true by rw [hXl, hWe]; exact inI64_of (by omega) (by omega)) ?_;refine Pick.T (show decide (((nods s.out ++ [[Sc.i .i64 1, Sc.i .i64 (mapGet s.thing (keyE (pairF v a))), Sc.i .i64 (mapGet s.thing (keyE (pairF v b)))]]) : Flat).length + 1 <= 2147483648) = true by rw [decide_eq_true_iff]; omega) ?_;refine Call.by _ _ (PairC_at a b) ?_;refine Pick.T (show inI64 (((edges W).length : Int) + ((((nods s.out ++ [[Sc.i .i64 1, Sc.i .i64 (mapGet s.thing (keyE (pairF v a))), Sc.i .i64 (mapGet s.thing (keyE (pairF v b)))]]) ++ [[Sc.i .i64 2, Sc.i .i64 (mapGet s.thing (keyE (pairF a b))), Sc.i .i64 (((edges W).length : Int) + ((nods s.out ++ [[Sc.i .i64 1, Sc.i .i64 (mapGet s.thing (keyE (pairF v a))), Sc.i .i64 (mapGet s.thing (keyE (pairF v b)))]]).length : Int) - 1)]]) : Flat).length : Int)) = true by rw [e4l, hWe]; exact inI64_of (by omega) (by omega)) ?_;refine Pick.T (show inI64 (((edges W).length : Int) + ((((nods s.out ++ [[Sc.i .i64 1, Sc.i .i64 (mapGet s.thing (keyE (pairF v a))), Sc.i .i64 (mapGet s.thing (keyE (pairF v b)))]]) ++ [[Sc.i .i64 2, Sc.i .i64 (mapGet s.thing (keyE (pairF a b))), Sc.i .i64 (((edges W).length : Int) + ((nods s.out ++ [[Sc.i .i64 1, Sc.i .i64 (mapGet s.thing (keyE (pairF v a))), Sc.i .i64 (mapGet s.thing (keyE (pairF v b)))]]).length : Int) - 1)]]) : Flat).length : Int) - 1) = true by rw [e4l, hWe]; exact inI64_of (by omega) (by omega)) ?_;refine Pick.T hpab.1 ?_;refine Pick.T hpab.2 ?_;have e3n : s'.thing = mapPut s.thing (keyE (pairF a b)) (((edges W).length : Int) + ((((nods s.out ++ [[Sc.i .i64 1, Sc.i .i64 (mapGet s.thing (keyE (pairF v a))), Sc.i .i64 (mapGet s.thing (keyE (pairF v b)))]]) ++ [[Sc.i .i64 2, Sc.i .i64 (mapGet s.thing (keyE (pairF a b))), Sc.i .i64 (((edges W).length : Int) + ((nods s.out ++ [[Sc.i .i64 1, Sc.i .i64 (mapGet s.thing (keyE (pairF v a))), Sc.i .i64 (mapGet s.thing (keyE (pairF v b)))]]).length : Int) - 1)]]) : Flat).length : Int) - 1) := by rw [e3, e4l, hWe]; congr 1; omega
  have hol : s'.out.length = o1.length + 1 := by rw [e4, List.length_append, List.length_singleton]
  refine Next.by s' ⟨sok, by rw [show s'.left.length = f by omega]; exact hrun, by omega, fun u hu => hin u (List.mem_of_mem_erase (by rw [sleft] at hu; exact hu))⟩ (by omega) (by refine Weak.bf [5] (sg 0 [_,_,_,_,_,_]) (by ((repeat' first|exact rfl|exact trivial|apply And.intro) <;> (repeat' first|exact rfl|exact trivial|apply And.intro)); all_goals ((first | exact e3n | exact congrArg encN e2 | exact e4n | exact congrArg ints e1))) (by rfl))
 ·have hc5 : ¬ mapHas s.thing (keyE (a, b)) = true := by rw [<- hko]; intro e; rw [show mapHas s.thing (keyE (pairF a b)) = false from hc5] at e; simp at e
  rw [if_neg hc5] at hst;obtain ⟨s', hs'⟩ : ∃ s', stepS W.length s k = s' := ⟨_, rfl⟩;rw [hs'] at hst sok sleft slen hrun;have e1 : s'.left = s.left.eraseIdx k := by rw [hst]
  have e2 : s'.near = joinN N a b := by rw [hst]
  have e3 : s'.thing = mapPut s.thing (keyE (pairF a b)) ((W.length : Int) + (o1.length : Int) - 1) := by rw [hst, hko]
  have e4 : s'.out = o1 := by rw [hst]
  have hnN : ∀ u ∈ s.left, (nget N u).length <= 1000 := fun u hu => by
   rw [<- hN, hp.near, cuts_get hnpq];have := hnl u hu;split
   ·exact Nat.le_trans List.length_erase_le this
   ·exact this
  have hna := hnN a habm.1.1;have hnb := hnN b habm.2.1;refine Pick.T ha64 ?_;refine Call.by _ _ (cat_at (a := nget N a) (b := [b]) (fget_enc N a) rfl (by rw [List.length_singleton]; omega)) ?_;refine Pick.T ha64 ?_;refine Seg.by (by kernel_rfl) ?_;have hf1 : fget (fput (encN N) a (ints (nget N a ++ [b]))) b = ints (nget N b) := by rw [fput_enc, fget_enc, nget_put, if_neg hab2]
  have e2n : encN s'.near = fput (fput (encN N) a (ints (nget N a ++ [b]))) b (ints (nget N b ++ [a])) := by
   rw [e2, fput_enc, fput_enc];show encN (nput _ b (nget (nput N a (nget N a ++ [b])) b ++ [a])) = _
   rw [nget_put, if_neg hab2]
  refine Pick.T hb64 ?_;refine Call.by _ _ (cat_at (a := nget N b) (b := [a]) hf1 rfl (by rw [List.length_singleton]; omega)) ?_;refine Pick.T hb64 ?_;refine Seg.by (by kernel_rfl) ?_;refine Call.by _ _ (PairC_at a b) ?_;have hX : (nods s.out ++ [[Sc.i .i64 1, Sc.i .i64 (mapGet s.thing (keyE (pairF v a))), Sc.i .i64 (mapGet s.thing (keyE (pairF v b)))]]) = nods o1 := hno1.symm;have hXl : (((nods s.out ++ [[Sc.i .i64 1, Sc.i .i64 (mapGet s.thing (keyE (pairF v a))), Sc.i .i64 (mapGet s.thing (keyE (pairF v b)))]]) : Flat).length : Int) = o1.length := by rw [hX, nods_length]
  have hWe : ((edges W).length : Int) = W.length := by rw [qeq]
  have e4n : nods s'.out = (nods s.out ++ [[Sc.i .i64 1, Sc.i .i64 (mapGet s.thing (keyE (pairF v a))), Sc.i .i64 (mapGet s.thing (keyE (pairF v b)))]]) := by rw [e4, hX]
  refine Pick.T (show inI64 (((edges W).length : Int) + (((nods s.out ++ [[Sc.i .i64 1, Sc.i .i64 (mapGet s.thing (keyE (pairF v a))), Sc.i .i64 (mapGet s.thing (keyE (pairF v b)))]]) : Flat).length : Int)) = true by rw [hXl, hWe]; exact inI64_of (by omega) (by omega)) ?_;refine Pick.T (show inI64 (((edges W).length : Int) + (((nods s.out ++ [[Sc.i .i64 1, Sc.i .i64 (mapGet s.thing (keyE (pairF v a))), Sc.i .i64 (mapGet s.thing (keyE (pairF v b)))]]) : Flat).length : Int) - 1) = true by rw [hXl, hWe]; exact inI64_of (by omega) (by omega)) ?_;refine Pick.T hpab.1 ?_;refine Pick.T hpab.2 ?_;have e3n : s'.thing = mapPut s.thing (keyE (pairF a b)) (((edges W).length : Int) + (((nods s.out ++ [[Sc.i .i64 1, Sc.i .i64 (mapGet s.thing (keyE (pairF v a))), Sc.i .i64 (mapGet s.thing (keyE (pairF v b)))]]) : Flat).length : Int) - 1) := by rw [e3, hXl, hWe]
  have hol : s'.out.length = o1.length := by rw [e4]
  refine Next.by s' ⟨sok, by rw [show s'.left.length = f by omega]; exact hrun, by omega, fun u hu => hin u (List.mem_of_mem_erase (by rw [sleft] at hu; exact hu))⟩ (by omega) (by refine Weak.bf [5] (sg 0 [_,_,_,_,_,_]) (by ((repeat' first|exact rfl|exact trivial|apply And.intro) <;> (repeat' first|exact rfl|exact trivial|apply And.intro)); all_goals ((first | exact e3n | exact e2n | exact e4n | exact congrArg ints e1))) (by rfl))
noncomputable def CkC : Con := conP 3 (fun a : (Int × List Ed) × List Int × List Nd => a.2.1.length <= 1000 /\ a.2.2.length <= 1000000) (fun a => [grV a.1.1 a.1.2, .one (.flat false 1 (ints a.2.1)), .one (.flat false 3 (nods a.2.2))]) (fun a => .one (.s (.b (ckF a.1.1 a.1.2 a.2.1 a.2.2))))
theorem CkC_at {n : Int} {E : List Ed} {l : List Int} {t : List Nd} (h : l.length <= 1000 /\ t.length <= 1000000) : CkC.F [grV n E, .one (.flat false 1 (ints l)), .one (.flat false 3 (nods t))] = some (.one (.s (.b (ckF n E l t))), []) :=
 conP_at (a := ((n, E), l, t)) (fun x y _ _ h => by
  obtain ⟨⟨n, E⟩, l, t⟩ := x;obtain ⟨⟨n', E'⟩, l', t'⟩ := y;simp at h;obtain ⟨h1, h2, h3⟩ := h;obtain ⟨rfl, rfl⟩ := grV_inj h1;rw [ints_inj h2, nods_inj h3]) h
theorem middle_mem {x y : Ed} (h : (middleF x y).2 = true) : ∃ s t : Ed, (s = x \/ s = (x.2, x.1)) /\ (t = y \/ t = (y.2, y.1)) /\ middleF x y = ((s.2, pairF s.1 t.2), true) := by
 obtain ⟨⟨s, t⟩, hp, h1, h2, h3⟩ := midL_get h
 obtain ⟨hs, ht⟩ := mem_sides2.1 hp
 exact ⟨s, t, hs, ht, h3⟩
def RngE (x : Ed) : Prop := (0 <= x.1 /\ x.1 < 1000) /\ 0 <= x.2 /\ x.2 < 1000
theorem rng_pair {a b : Int} (h : 0 <= a /\ a < 1000) (k : 0 <= b /\ b < 1000) : RngE (pairF a b) := by
 unfold RngE
 rcases pairF_two a b with ⟨e1, e2⟩ | ⟨e1, e2⟩ <;> rw [e1, e2]
 ·exact ⟨h, k⟩
 ·exact ⟨k, h⟩
theorem middle_rng {x y : Ed} (hx : RngE x) (hy : RngE y) (h : (middleF x y).2 = true) : (0 <= (middleF x y).1.1 /\ (middleF x y).1.1 < 1000) /\ RngE (middleF x y).1.2 := by
 obtain ⟨s, t, hs, ht, e⟩ := middle_mem h
 have rs : RngE s := by rcases hs with rfl | rfl; · exact hx
                        ·exact ⟨hx.2, hx.1⟩
 have rt : RngE t := by rcases ht with rfl | rfl; · exact hy
                        ·exact ⟨hy.2, hy.1⟩
 rw [e]
 exact ⟨rs.2, rng_pair rs.1 rt.2⟩
structure CkW (E : List Ed) (t : List Nd) (i : Nat) (s : Ck) : Prop where
 rng : ∀ x ∈ s.poles, RngE x
 run : ckRun (t.drop i) s = ckRun t (ckStart E t.length)
 len : s.poles.length = E.length + i
 ulen : s.used.length = E.length + t.length
 us : ∀ j, 0 <= s.used.getD j 0 /\ s.used.getD j 0 <= 1
 mid : ∀ v, 0 <= mapGet s.mid [v] /\ mapGet s.mid [v] <= i
theorem ckw_start {E : List Ed} {t : List Nd} (hE : ∀ x ∈ E, RngE x) : CkW E t 0 (ckStart E t.length) := by
 refine ⟨hE, by rw [List.drop_zero], rfl, by simp [ckStart], fun j => ?_, fun v => ⟨Int.le_refl _, Int.le_refl _⟩⟩
 have : (ckStart E t.length).used.getD j 0 = 0 := by
  show (List.replicate _ _).getD j 0 = 0
  rw [qDq, List.getElem?_replicate]; split <;> rfl
 omega
theorem us2 {u : List Int} {a b : Nat} (h : ∀ j, 0 <= u.getD j 0 /\ u.getD j 0 <= 1) : ∀ j, 0 <= ((u.set a 1).set b 1).getD j 0 /\ ((u.set a 1).set b 1).getD j 0 <= 1 := by
 have one : ∀ {u : List Int} {a : Nat}, (∀ j, 0 <= u.getD j 0 /\ u.getD j 0 <= 1) -> ∀ j, 0 <= (u.set a 1).getD j 0 /\ (u.set a 1).getD j 0 <= 1 := fun {u a} h j => by
  rw [qDq, List.getElem?_set];by_cases e : a = j
  ·rw [if_pos e];by_cases hl : a < u.length
   ·rw [if_pos hl]; exact ⟨by decide, by decide⟩
   ·rw [if_neg hl]; exact ⟨by decide, by decide⟩
  ·rw [if_neg e, <- qDq]; exact h j
 exact one (one h)
theorem ckw_step {E : List Ed} {t : List Nd} {i : Nat} {s s' : Ck} {x : Nd} (h : CkW E t i s) (hx : t[i]? = some x) (hs : ckStep s x = some s') : CkW E t (i + 1) s' := by
 have hlt := (qSq.1 hx).1
 have hr := h.run
 rw [List.drop_eq_getElem_cons hlt, show t[i] = x by rw [qEq hlt] at hx; injection hx] at hr
 simp only [ckRun, hs] at hr
 have rp : ∀ {i : Int}, 0 <= i -> i < s.poles.length -> RngE (s.pol i) := fun {i} h0 h1 => by
  unfold Ck.pol;rw [qDq, qEq (by omega)];exact h.rng _ (List.getElem_mem _)
 have hl : s'.poles.length = s.poles.length + 1 /\ s'.used = (s.used.set x.2.1.toNat 1).set x.2.2.toNat 1 /\ (s'.mid = s.mid \/ ∃ m, s'.mid = midIn s.mid m) /\ ∃ e, RngE e /\ s'.poles = s.poles ++ [e] := by
  unfold ckStep at hs;split at hs
  ·rename_i hf;split at hs
   ·split at hs
    ·rename_i hm;injection hs with hs; subst hs; exact ⟨by simp, rfl, .inr ⟨_, rfl⟩, _, (middle_rng (rp hf.2.1 hf.2.2.2.1) (rp hf.2.2.1 hf.2.2.2.2.1) hm).2, rfl⟩
    ·simp at hs
   ·split at hs
    ·split at hs
     ·injection hs with hs; subst hs; exact ⟨by simp, rfl, .inl rfl, _, rp hf.2.1 hf.2.2.2.1, rfl⟩
     ·simp at hs
    ·simp at hs
  ·simp at hs
 refine ⟨fun y hy => ?_, hr, by rw [hl.1, h.len]; omega, by rw [hl.2.1, List.length_set, List.length_set, h.ulen], by rw [hl.2.1]; exact us2 h.us, fun v => ?_⟩
 ·obtain ⟨e, he, hpe⟩ := hl.2.2.2;rw [hpe] at hy;rcases List.mem_append.1 hy with hy | hy
  ·exact h.rng y hy
  ·rw [List.mem_singleton] at hy; subst hy; exact he
 have hm := h.mid v
 rcases hl.2.2.1 with e | ⟨m, e⟩
 ·rw [e]; omega
 ·rw [e];unfold midIn;rw [mapGet_put];have hm2 := h.mid m;split <;> omega
theorem ckw_bad {E : List Ed} {t : List Nd} {i : Nat} {s : Ck} {x : Nd} (h : CkW E t i s) (hx : t[i]? = some x) (hs : ckStep s x = none) : ckRun t (ckStart E t.length) = none := by
 have hlt := (qSq.1 hx).1
 rw [<- h.run, List.drop_eq_getElem_cons hlt, show t[i] = x by rw [qEq hlt] at hx; injection hx]
 simp only [ckRun, hs]
noncomputable def XCk : Cx := { Γ := [(33, TwoC), (66, OwnC), (72, MiddleC)], T := T, nt := 159 }
set_option maxRecDepth 200000 in
set_option maxHeartbeats 4000000 in
theorem Ck_ok : SoundC Tryz.prog T 26 CkC := by
 refine sound_con (X := XCk) cr_none hmix hT (sound_cons Two_ok (sound_cons Own_ok (sound_cons Middle_ok sound_nil))) Tryz.func26 (by rfl) (by rfl) (by rfl) (by rfl) 4 ?_
 rintro ⟨⟨n, E⟩, l, t⟩ ⟨hl, ht⟩
 dsimp only at hl ht ⊢
 refine two_le ?_
 refine Call.by _ _ (TwoC_at hl) ?_
 refine Pick.by (fun h1 => ?_) (fun h1 => ?_)
 ·refine ⟨rfl, ?_⟩;show Sc.b false = Sc.b (ckF n E l t)
  unfold ckF;have h1 : (!twoB n E l) = true := h1
  cases hc : twoB n E l with
  | true => rw [hc] at h1; simp at h1
  | false => rfl
 have h1 : twoB n E l = true := by cases h : twoB n E l with | true => rfl | false => rw [h] at h1; simp at h1
 obtain ⟨hR, h2, ⟨hnd, hrng⟩, -⟩ := twoB_iff.1 h1
 have hEl := hR.2.2.1
 obtain ⟨W, hW⟩ : ∃ W, withL l E = W := ⟨_, rfl⟩
 have hWl : W.length <= 4000 := by rw [<- hW]; exact Nat.le_trans withL_len hEl
 refine Call.by _ _ (WithC_at (n := n) (E := E) (l := l) ⟨hEl, by omega, hR, hrng⟩) ?_
 rw [hW]
 have htl := nods_length t
 have hel := qeq W
 have hWr : ∀ x ∈ W, RngE x := fun x hx => by
  have h1 := (withL_ok (l := l) hR).1 x (by rw [hW]; exact hx);have h2 := hR.2.1;unfold okE at h1;exact ⟨⟨by omega, by omega⟩, by omega, by omega⟩
 refine Pick.n ?_
 refine Pick.by (fun h3 => ?_) (fun h3 => ?_)
 ·have h3 : t.length + 1 ≠ W.length := by have := bne_iff_ne.1 h3; rw [htl, hel] at this; omega
  refine ⟨rfl, ?_⟩;show Sc.b false = Sc.b (ckF n E l t)
  unfold ckF;rw [hW, decide_eq_false h3, Bool.false_and, Bool.and_false]
 have h3 : t.length + 1 = W.length := by
  have h3 : ((nods t).length : Int) = ((edges W).length : Int) - 1 := by simpa using h3
  rw [htl, hel] at h3; omega
 have hF : ckF n E l t = ckB E l t := by unfold ckF; rw [h1, hW, decide_eq_true h3]; rfl
 have bad : ckRun t (ckStart W t.length) = none -> Sc.b false = Sc.b (ckF n E l t) := fun h => by rw [hF]; unfold ckB; rw [hW, h]
 have good : ∀ s, ckRun t (ckStart W t.length) = some s -> ckF n E l t = decide (CkEnd l s) := fun s h => by rw [hF]; unfold ckB; rw [hW, h]
 refine Pick.n ?_
 refine Pick.T (beq_self_eq_true _) ?_
 refine Idx.by (W.length + t.length) (by rw [htl, hel]; omega) (by omega) ?_
 refine LoopP.intro (α := Nat × Ck) (fun a => a.1 <= t.length /\ CkW W t a.1 a.2) (fun a => t.length - a.1) (fun a => [(1, .sl 0 none none), (7, .sl 2 none none), (8, .sl 3 none none), (9, .mp 4), (41, .sl 1 none none), (42, .s (.i .i64 t.length)), (43, .s (.i .i64 a.1))])
  (fun a => [(0, some (.flat false 1 (ints l))), (1, some (.flat false 3 (nods t))), (2, some (.flat true 2 (edges a.2.poles))), (3, some (.flat true 1 (ints a.2.used))), (4, some (.map false 1 a.2.mid))]) 5 (0, ckStart W t.length) ⟨by omega, ckw_start hWr⟩ (by refine Weak.bw (sg 0 [_,_,_,_,_]) (by ((repeat' first|exact rfl|exact trivial|apply And.intro) <;> (repeat' first|exact rfl|exact trivial|apply And.intro)); all_goals ((first|exact sc_eq (by rw [htl]) | (show ints (List.replicate _ _) = _; simp [ints]) | (show _ = ints (List.replicate _ _); simp [ints]))))) ?_
 rintro ⟨i, s⟩ ⟨hi, hw⟩
 dsimp only at hi hw ⊢
 have hpl := hw.len
 have hul := hw.ulen
 refine Pick.by (fun hc => ?_) (fun hc => ?_)
 ·have hlt : i < t.length := by have := of_decide_eq_true hc; omega
  obtain ⟨⟨op, L, R⟩, hx⟩ : ∃ x, t[i] = x := ⟨_, rfl⟩;have hti : t[i]? = some (op, L, R) := by rw [qEq hlt, hx]
  have stop : ckStep s (op, L, R) = none -> Sc.b false = Sc.b (ckF n E l t) := fun h => bad (ckw_bad hw hti h)
  have nofree : ¬ FreeP s (op, L, R) -> Sc.b false = Sc.b (ckF n E l t) := fun h => stop (if_neg h)
  refine Idx.by i rfl (by rw [htl]; exact hlt) ?_;refine Look.by _ (nods_get hti) ?_;refine Pick.by (fun e1 => ?_) (fun e1 => ?_)
  ·have e1 : L = R := eq_of_beq e1;refine Seg.by (by kernel_rfl) ?_;exact ⟨rfl, nofree fun h => h.1 e1⟩
  have e1 : L ≠ R := ne_of_beq_false e1;refine Pick.by (fun e2 => ?_) (fun e2 => ?_)
  ·have e2 : (if R < L then R else L) < 0 := of_decide_eq_true e2;refine Seg.by (by kernel_rfl) ?_;exact ⟨rfl, nofree fun h => by have h2 : 0 <= L := h.2.1; have h3 : 0 <= R := h.2.2.1; split at e2 <;> omega⟩
  have e2 : 0 <= L /\ 0 <= R := by
   have e2 : ¬ (if R < L then R else L) < 0 := of_decide_eq_false e2;split at e2 <;> omega
  refine Pick.by (fun e3 => ?_) (fun e3 => ?_)
  ·have e3 : (if R > L then R else L) ≥ ((edges s.poles).length : Int) := of_decide_eq_true e3;rw [qeq] at e3;refine Seg.by (by kernel_rfl) ?_;exact ⟨rfl, nofree fun h => by have h2 : L < s.poles.length := h.2.2.2.1; have h3 : R < s.poles.length := h.2.2.2.2.1; split at e3 <;> omega⟩
  have e3 : L < s.poles.length /\ R < s.poles.length := by
   have e3 : ¬ (if R > L then R else L) ≥ ((edges s.poles).length : Int) := of_decide_eq_false e3;rw [qeq] at e3;split at e3 <;> omega
  have uget : ∀ {k : Int}, 0 <= k -> k < s.poles.length -> (ints s.used)[k.toNat]? = some [.i .i64 (s.usd k)] := fun {k} h0 h1 => qhq (by unfold Ck.usd; rw [qDq, qEq (by omega)]; rfl)
  have pget : ∀ {k : Int}, 0 <= k -> k < s.poles.length -> (edges s.poles)[k.toNat]? = some [.i .i64 (s.pol k).1, .i .i64 (s.pol k).2] := fun {k} h0 h1 => edges_get (x := s.pol k) (by unfold Ck.pol; rw [qDq, qEq (by omega)]; rfl)
  have hel2 := qeq s.poles;have hil := qiq s.used;have uL := hw.us L.toNat;have uR := hw.us R.toNat;refine Idx.by L.toNat (show L = (L.toNat : Int) by omega) (by omega) ?_;refine Look.by _ (uget e2.1 e3.1) ?_;refine Idx.by R.toNat (show R = (R.toNat : Int) by omega) (by omega) ?_;refine Look.by _ (uget e2.2 e3.2) ?_;refine Pick.T (inI64_of (by unfold Ck.usd; omega) (by unfold Ck.usd; omega)) ?_;refine Seg.by (by kernel_rfl) ?_;refine Pick.by (fun e4 => ?_) (fun e4 => ?_)
  ·have e4 : s.usd L + s.usd R > 0 := of_decide_eq_true e4;exact ⟨rfl, nofree fun h => by have h2 : s.usd L + s.usd R <= 0 := h.2.2.2.2.2; omega⟩
  have e4 : ¬ s.usd L + s.usd R > 0 := of_decide_eq_false e4;have free : FreeP s (op, L, R) := ⟨e1, e2.1, e2.2, e3.1, e3.2, by show s.usd L + s.usd R <= 0; omega⟩;refine Idx.by L.toNat (show L = (L.toNat : Int) by omega) (by omega) ?_;refine Look.by _ (uget e2.1 e3.1) ?_;refine Idx.by R.toNat (show R = (R.toNat : Int) by omega) (by show R.toNat < ((ints s.used).set L.toNat [.i .i64 1]).length; rw [List.length_set]; omega) ?_;have hu2 : ((ints s.used).set L.toNat [.i .i64 1])[R.toNat]? = some [.i .i64 (s.usd R)] := by rw [qNq (by omega)]; exact uget e2.2 e3.2
  refine Look.by _ hu2 ?_;refine Seg.by (by kernel_rfl) ?_;refine Idx.by L.toNat (show L = (L.toNat : Int) by omega) (by omega) ?_;refine Look.by _ (pget e2.1 e3.1) ?_;refine Idx.by R.toNat (show R = (R.toNat : Int) by omega) (by omega) ?_;refine Look.by _ (pget e2.2 e3.2) ?_;refine Seg.by (by kernel_rfl) ?_;obtain ⟨X, hX⟩ : ∃ X, s.pol L = X := ⟨_, rfl⟩;obtain ⟨Y, hY⟩ : ∃ Y, s.pol R = Y := ⟨_, rfl⟩;rw [hX, hY];refine Pick.by (fun g1 => ?_) (fun g1 => ?_)
  ·have g1 : op = 1 := eq_of_beq g1;refine Call.by _ _ (MiddleC_at X Y) ?_;obtain ⟨⟨⟨m, ⟨ea, eb⟩⟩, ok⟩, hmid⟩ : ∃ r, middleF X Y = r := ⟨_, rfl⟩;rw [hmid];have hstep : ckStep s (op, L, R) = if ok = true then some { poles := s.poles ++ [(ea, eb)], used := (s.used.set L.toNat 1).set R.toNat 1, mid := midIn s.mid m } else none := by
    unfold ckStep;rw [if_pos free, if_pos g1];show (if (middleF (s.pol L) (s.pol R)).2 = true then _ else _) = _
    rw [hX, hY, hmid]
   refine Pick.by (fun g3 => ?_) (fun g3 => ?_)
   ·have g3 : ¬ ok = true := fun e => by have g3 : (!ok) = true := g3; rw [e] at g3; simp at g3
    rw [if_neg g3] at hstep;exact ⟨rfl, stop hstep⟩
   have g3 : ok = true := by have g3 : (!ok) = false := g3; simpa using g3
   rw [if_pos g3] at hstep;have hw' := ckw_step hw hti hstep;have hXr : RngE X := by rw [<- hX]; exact hw.rng _ (qMq (show s.poles[L.toNat]? = some (s.pol L) by unfold Ck.pol; rw [qDq, qEq (by omega)]; rfl))
   have hYr : RngE Y := by rw [<- hY]; exact hw.rng _ (qMq (show s.poles[R.toNat]? = some (s.pol R) by unfold Ck.pol; rw [qDq, qEq (by omega)]; rfl))
   have hmr := (middle_rng hXr hYr (by rw [hmid]; exact g3)).1;rw [hmid] at hmr;dsimp only at hmr;have hmm := hw.mid m;refine Pick.T (inI64_of (by show _ <= m; omega) (by show m <= _; omega)) ?_;refine Pick.T (inI64_of (by show _ <= mapGet s.mid [m] + 1; omega) (by show mapGet s.mid [m] + 1 <= _; omega)) ?_;refine Pick.T (inI64_of (by show _ <= m; omega) (by show m <= _; omega)) ?_;refine Seg.by (by kernel_rfl) ?_;refine Pick.F (show (!(ea == ea && (eb == eb && true))) = false by simp) ?_;have hP : edges (s.poles ++ [(ea, eb)]) = edges s.poles ++ [[.i .i64 ea, .i .i64 eb]] := edges_snoc ..;have hU : ints ((s.used.set L.toNat 1).set R.toNat 1) = ((ints s.used).set L.toNat [.i .i64 1]).set R.toNat [.i .i64 1] := by rw [ints_set, ints_set]
   have hM : midIn s.mid m = mapPut s.mid [m] (mapGet s.mid [m] + 1) := rfl;refine Pick.T (by rw [decide_eq_true_iff, qeq]; show _ + 1 <= _; omega) ?_;refine Pick.n ?_;refine Next.by (i + 1, ({ poles := s.poles ++ [(ea, eb)], used := (s.used.set L.toNat 1).set R.toNat 1, mid := midIn s.mid m } : Ck)) ⟨by show i + 1 <= _; omega, hw'⟩ (by show t.length - (i + 1) < t.length - i; omega) (by refine Weak.bw (sg 0 [_,_,_,_,_]) (by ((repeat' first|exact rfl|exact trivial|apply And.intro) <;> (repeat' first|exact rfl|exact trivial|apply And.intro)); all_goals ((first|exact sc_eq (by show ((i + 1 : Nat) : Int) = _; omega) | exact hP | exact hU | exact hM))))
  ·have g1 : op ≠ 1 := ne_of_beq_false g1;refine Pick.by (fun g2 => ?_) (fun g2 => ?_)
   ·have g2 : op = 2 := eq_of_beq g2;have hstep : ckStep s (op, L, R) = if X = Y then some { poles := s.poles ++ [X], used := (s.used.set L.toNat 1).set R.toNat 1, mid := s.mid } else none := by
     unfold ckStep;rw [if_pos free, if_neg g1, if_pos g2];show (if s.pol L = s.pol R then some ({ poles := s.poles ++ [s.pol L], used := _, mid := _ } : Ck) else none) = _
     rw [hX, hY]
    refine Pick.by (fun g3 => ?_) (fun g3 => ?_)
    ·have g3 : ¬ X = Y := fun e => by
      have g3 : (!(X.1 == Y.1 && (X.2 == Y.2 && true))) = true := g3;rw [e] at g3; simp at g3
     rw [if_neg g3] at hstep;exact ⟨rfl, stop hstep⟩
    have g3 : X = Y := by
     have g3 : (!(X.1 == Y.1 && (X.2 == Y.2 && true))) = false := g3;simp at g3;exact Prod.ext g3.1 g3.2
    rw [if_pos g3] at hstep;have hw' := ckw_step hw hti hstep;have hP : edges (s.poles ++ [X]) = edges s.poles ++ [[.i .i64 X.1, .i .i64 X.2]] := edges_snoc ..;have hU : ints ((s.used.set L.toNat 1).set R.toNat 1) = ((ints s.used).set L.toNat [.i .i64 1]).set R.toNat [.i .i64 1] := by rw [ints_set, ints_set]
    refine Pick.T (by rw [decide_eq_true_iff, qeq]; show _ + 1 <= _; omega) ?_;refine Pick.n ?_;refine Next.by (i + 1, ({ poles := s.poles ++ [X], used := (s.used.set L.toNat 1).set R.toNat 1, mid := s.mid } : Ck)) ⟨by show i + 1 <= _; omega, hw'⟩ (by show t.length - (i + 1) < t.length - i; omega) (by refine Weak.bw (sg 0 [_,_,_,_,_]) (by ((repeat' first|exact rfl|exact trivial|apply And.intro) <;> (repeat' first|exact rfl|exact trivial|apply And.intro)); all_goals ((first|exact sc_eq (by show ((i + 1 : Nat) : Int) = _; omega) | exact hP | exact hU))))
   ·have g2 : op ≠ 2 := ne_of_beq_false g2;have hs : ckStep s (op, L, R) = none := by
     unfold ckStep; rw [if_pos free, if_neg g1, if_neg g2]
    exact ⟨rfl, stop hs⟩
 have hie : i = t.length := by have := of_decide_eq_false hc; omega
 subst hie
 have hrun := hw.run
 rw [List.drop_length] at hrun
 have hgood := good s hrun.symm
 have hel2 := qeq s.poles
 obtain ⟨last, hlast⟩ : ∃ x, ckLast s = x := ⟨_, rfl⟩
 have hlget : (edges s.poles)[s.poles.length - 1]? = some [.i .i64 last.1, .i .i64 last.2] := edges_get (by rw [<- hlast]; unfold ckLast; rw [qDq, qEq (by omega)]; rfl)
 refine Pick.n ?_
 refine Idx.by (s.poles.length - 1) (by omega) (by omega) ?_
 refine Look.by _ hlget ?_
 have hlen := qiq l
 refine LoopP.intro (α := Nat) (fun j => j <= l.length /\ ∀ v ∈ l.take j, mapGet s.mid [v] = if v = last.1 \/ v = last.2 then 0 else 1) (fun j => l.length - j) (fun j => [(9, .mp 1), (17, .ptr 2 0), (137, .sl 0 none none), (138, .s (.i .i64 l.length)), (139, .s (.i .i64 j))])
  (fun j => [(0, some (.flat false 1 (ints l))), (1, some (.map false 1 s.mid)), (2, some (.blk [.s (.i .i64 last.1), .s (.i .i64 last.2)]))]) 3 0 ⟨by omega, by simp⟩ (by refine Weak.bw (sg 0 [_,_,_]) (by ((repeat' first|exact rfl|exact trivial|apply And.intro) <;> (repeat' first|exact rfl|exact trivial|apply And.intro)); all_goals (exact sc_eq (by rw [hlen])))) ?_
 rintro j ⟨hj, hd⟩
 refine Pick.by (fun hc => ?_) (fun hc => ?_)
 ·have hlt : j < l.length := by have := of_decide_eq_true hc; omega
  obtain ⟨v, hv⟩ : ∃ v, l[j] = v := ⟨_, rfl⟩;have hlj : l[j]? = some v := by rw [qEq hlt, hv]
  have hvm := qMq hlj;have hvr := hrng v hvm;have hn1 := hR.2.1;have hts : l.take (j + 1) = l.take j ++ [v] := by rw [List.take_add_one, hlj]; rfl
  have wrong : mapGet s.mid [v] ≠ (if v = last.1 \/ v = last.2 then 0 else 1) -> Sc.b false = Sc.b (ckF n E l t) := fun h => by
   rw [hgood, decide_eq_false];intro hce;have := hce v hvm;rw [hlast] at this;exact h this
  have next : mapGet s.mid [v] = (if v = last.1 \/ v = last.2 then 0 else 1) -> ∀ u ∈ l.take (j + 1), mapGet s.mid [u] = if u = last.1 \/ u = last.2 then 0 else 1 := fun h u hu => by
   rw [hts] at hu;rcases List.mem_append.1 hu with hu | hu
   ·exact hd u hu
   ·rw [List.mem_singleton] at hu; subst hu; exact h
  refine Idx.by j rfl (by omega) ?_;refine Look.by _ (qhq hlj) ?_;refine Pick.by (fun a1 => ?_) (fun a1 => ?_)
  ·have a1 : v = last.1 := eq_of_beq a1;have hw0 : (if v = last.1 \/ v = last.2 then (0 : Int) else 1) = 0 := if_pos (.inl a1);rw [hw0] at wrong next;refine Pick.n ?_;refine Pick.by (fun a3 => ?_) (fun a3 => ?_)
   ·exact ⟨rfl, wrong (bne_iff_ne.1 a3)⟩
   ·have a3 : mapGet s.mid [v] = 0 := by simpa using a3
    refine Pick.n ?_;refine Next.by (j + 1) ⟨by omega, next a3⟩ (by omega) (by refine Weak.bw (sg 0 [_,_,_]) (by ((repeat' first|exact rfl|exact trivial|apply And.intro) <;> (repeat' first|exact rfl|exact trivial|apply And.intro)); all_goals (exact sc_eq (by omega))))
  have a1 : v ≠ last.1 := ne_of_beq_false a1;refine Pick.by (fun a2 => ?_) (fun a2 => ?_)
  ·have a2 : v = last.2 := eq_of_beq a2;have hw0 : (if v = last.1 \/ v = last.2 then (0 : Int) else 1) = 0 := if_pos (.inr a2);rw [hw0] at wrong next;refine Pick.n ?_;refine Pick.by (fun a3 => ?_) (fun a3 => ?_)
   ·exact ⟨rfl, wrong (bne_iff_ne.1 a3)⟩
   ·have a3 : mapGet s.mid [v] = 0 := by simpa using a3
    refine Pick.n ?_;refine Next.by (j + 1) ⟨by omega, next a3⟩ (by omega) (by refine Weak.bw (sg 0 [_,_,_]) (by ((repeat' first|exact rfl|exact trivial|apply And.intro) <;> (repeat' first|exact rfl|exact trivial|apply And.intro)); all_goals (exact sc_eq (by omega))))
  ·have a2 : v ≠ last.2 := ne_of_beq_false a2;have hw0 : (if v = last.1 \/ v = last.2 then (0 : Int) else 1) = 1 := if_neg (by rintro (h | h); exact a1 h; exact a2 h);rw [hw0] at wrong next;refine Pick.n ?_;refine Pick.by (fun a3 => ?_) (fun a3 => ?_)
   ·exact ⟨rfl, wrong (bne_iff_ne.1 a3)⟩
   ·have a3 : mapGet s.mid [v] = 1 := by simpa using a3
    refine Pick.n ?_;refine Next.by (j + 1) ⟨by omega, next a3⟩ (by omega) (by refine Weak.bw (sg 0 [_,_,_]) (by ((repeat' first|exact rfl|exact trivial|apply And.intro) <;> (repeat' first|exact rfl|exact trivial|apply And.intro)); all_goals (exact sc_eq (by omega))))
 ·have hje : j = l.length := by have := of_decide_eq_false hc; omega
  subst hje;rw [List.take_length] at hd;refine ⟨rfl, ?_⟩;show Sc.b true = Sc.b (ckF n E l t)
  rw [hgood, decide_eq_true];intro v hv;rw [hlast];exact hd v hv
def growL (E : List Ed) (l S : List Int) : List Int := l.filter fun v => S.elem v || E.any fun e => (S.elem e.1 && e.2 == v) || (S.elem e.2 && e.1 == v)
def iterL (E : List Ed) (l : List Int) : Nat -> List Int -> List Int
 | 0, S => S
 | k + 1, S => iterL E l k (growL E l S)
theorem iterL_rch {E : List Ed} {l : List Int} {s : Int} : ∀ {k : Nat} {S : List Int}, (∀ u ∈ S, Rch E l s u) -> ∀ v ∈ iterL E l k S, Rch E l s v := by
 intro k
 induction k with
 | zero => intro S h v hv; exact h v hv
 | succ k ih =>
  intro S h v hv;refine ih (S := growL E l S) (fun u hu => ?_) v hv;obtain ⟨hul, hu⟩ := List.mem_filter.1 hu;rcases Bool.or_eq_true_iff.1 hu with hu | hu
  ·exact h u (by simpa using hu)
  ·obtain ⟨e, he, hh⟩ := List.any_eq_true.1 hu;rcases Bool.or_eq_true_iff.1 hh with hh | hh <;> obtain ⟨h1, h2⟩ := Bool.and_eq_true_iff.1 hh
   ·have h2 := eq_of_beq h2;subst h2;exact .step (h e.1 (by simpa using h1)) (.inl he) hul
   ·have h2 := eq_of_beq h2;subst h2;exact .step (h e.2 (by simpa using h1)) (.inr he) hul
def wholeD (n : Int) (E : List Ed) (l : List Int) : Bool := decide (RightP n E /\ l ≠ [] /\ l.Nodup /\ (∀ v ∈ l, 0 <= v /\ v < n) /\ ∀ v ∈ l, v ∈ iterL E l l.length [l.headD 0])
theorem wholeD_p {n : Int} {E : List Ed} {l : List Int} (h : wholeD n E l = true) : WholeP n E l := by
 obtain ⟨h1, h2, h3, h4, h5⟩ := of_decide_eq_true h
 exact ⟨h1, h2, h3, h4, fun v hv => iterL_rch (k := l.length) (S := [l.headD 0]) (fun u hu => by rw [List.mem_singleton] at hu; subst hu; exact .base) v (h5 v hv)⟩
def twoD (n : Int) (E : List Ed) (l : List Int) : Bool := decide (2 <= l.length) && (decide (l.length <= 1000) && (wholeD n E l && l.all fun c => wholeD n E (l.erase c)))
theorem twoD_p {n : Int} {E : List Ed} {l : List Int} (h : twoD n E l = true) : twoB n E l = true := by
 unfold twoD at h
 simp only [Bool.and_eq_true, decide_eq_true_eq, List.all_eq_true] at h
 obtain ⟨h1, h2, h3, h4⟩ := h
 exact twoB_iff.2 ((two_iff h2).2 ⟨h1, wholeD_p h3, fun c hc => wholeD_p (h4 c hc)⟩)
theorem two_not {n : Int} {E : List Ed} {l : List Int} (S : List Int) (hl : l.length <= 1000) (h0 : l.headD 0 ∈ S) (hS : ∀ e ∈ E, (e.1 ∈ S -> e.2 ∈ l -> e.2 ∈ S) /\ (e.2 ∈ S -> e.1 ∈ l -> e.1 ∈ S)) {v : Int} (hv : v ∈ l) (hn : v ∉ S) : twoB n E l = false := by
 cases h : twoB n E l with
 | false => rfl
 | true =>
  obtain ⟨_, hw, _⟩ := (two_iff hl).1 (twoB_iff.1 h);have : ∀ u, Rch E l (l.headD 0) u -> u ∈ S := fun u hu => by
   induction hu with
   | base => exact h0
   | step _ ha hm ih =>
    rcases ha with ha | ha
    ·exact (hS _ ha).1 ih hm
    ·exact (hS _ ha).2 ih hm
  exact absurd (this v (hw.2.2.2.2 v hv)) hn
def E13 : List Ed := [(0, 1), (0, 3), (1, 2), (2, 3)]
theorem two13 : twoB 4 E13 [0, 1, 2, 3] = true := twoD_p (by decide)
theorem two13r : twoB 4 E13 [3, 2, 1, 0] = true := twoD_p (by decide)
theorem two13n : twoB 4 E13 [0, 2] = false := two_not [0] (by decide) (by decide) (by decide) (v := 2) (by decide) (by decide)
theorem spt13 : sptF 4 E13 [0, 1, 2, 3] = ([(1, 0, 1), (1, 2, 4), (2, 3, 5)], 0) := by
 unfold sptF
 rw [if_pos two13]
 unfold startS
 rw [sortI_id (by decide)]
 decide
theorem spt13n : sptF 4 E13 [0, 2] = ([], 1) := if_neg (by rw [two13n]; simp)
theorem ck13 : ckF 4 E13 [3, 2, 1, 0] [(1, 0, 1), (1, 2, 4), (2, 3, 5)] = true := by
 unfold ckF
 rw [two13r]
 decide
theorem ck13n : ckF 4 E13 [3, 2, 1, 0] [(1, 0, 1), (1, 2, 4)] = false := by
 unfold ckF
 rw [two13r]
 decide
noncomputable def Shown13C : Con := conP 0 (fun _ : Unit => True) (fun _ => []) (fun _ => .one (.s (.b true)))
theorem Shown13C_at : Shown13C.F [] = some (.one (.s (.b true)), []) := conP_at (a := ()) (fun a b _ _ h => rfl) trivial
set_option maxRecDepth 100000 in
theorem Shown13_ok : SoundC Tryz.prog T 23 Shown13C := by
 refine sound_con (X := { Γ := [(25, SptC), (26, CkC)], T := T, nt := 63 }) cr_none hmix hT (sound_cons Spt_ok (sound_cons Ck_ok sound_nil)) Tryz.func23 (by rfl) (by rfl) (by rfl) (by rfl) 0 ?_
 rintro ⟨⟩ -
 refine two_le ?_
 have h1 := SptC_at (n := 4) (E := E13) (l := [0, 1, 2, 3]) (by decide)
 rw [spt13] at h1
 refine Call.by _ _ h1 ?_
 have h2 := SptC_at (n := 4) (E := E13) (l := [0, 2]) (by decide)
 rw [spt13n] at h2
 refine Call.by _ _ h2 ?_
 refine Idx.by 0 rfl (by decide) ?_
 refine Look.by [.i .i64 1, .i .i64 0, .i .i64 1] rfl ?_
 refine Idx.by 2 rfl (by decide) ?_
 refine Look.by [.i .i64 2, .i .i64 3, .i .i64 5] rfl ?_
 have h3 := CkC_at (n := 4) (E := E13) (l := [3, 2, 1, 0]) (t := [(1, 0, 1), (1, 2, 4), (2, 3, 5)]) ⟨by decide, by decide⟩
 rw [ck13] at h3
 refine Call.by _ _ h3 ?_
 refine Rng.by 0 2 rfl rfl (by omega) (by decide) ?_
 have h4 := CkC_at (n := 4) (E := E13) (l := [3, 2, 1, 0]) (t := [(1, 0, 1), (1, 2, 4)]) ⟨by decide, by decide⟩
 rw [ck13n] at h4
 refine Call.by _ _ h4 ?_
 refine Seg.by (by kernel_rfl) ?_
 exact ⟨rfl, rfl⟩
theorem cut_min {α : Type} (m : Nat) (l : List α) (f : List α -> Flat) (hf : ∀ k, (f l).take k = f (l.take k)) : cut (subOf none 0 0 (min l.length m)) (f l) = f (l.take m) := by
 show ((f l).drop 0).take (min l.length m - 0) = _
 rw [List.drop_zero, Nat.sub_zero, hf]
 congr 1
 rw [List.take_eq_take_iff]; omega
theorem ints_take (l : List Int) (k : Nat) : (ints l).take k = ints (l.take k) := by simp [ints, List.map_take]
theorem min_lt {a : Nat} {m : Int} (hm : 0 <= m) : (if m < (a : Int) then m else (a : Int)) = ((min a m.toNat : Nat) : Int) := by split <;> omega
theorem runSp_len {c : Int} {m : Nat} : ∀ (f : Nat) (s : Sp), (runSp c m f s).1.length <= s.out.length + 2 * f := by
 intro f
 induction f with
 | zero => intro s; simp [runSp]
 | succ f ih =>
  intro s;simp only [runSp];split
  ·show s.out.length <= _; omega
  ·split
   ·simp
   ·rename_i k hk;refine Nat.le_trans (ih _) ?_;have : (stepS m s k).out.length <= s.out.length + 2 := by
     unfold stepS;dsimp only;split <;> simp
    omega
theorem spt_len {n : Int} {E : List Ed} {l : List Int} : (sptF n E l).1.length <= 2 * l.length := by
 unfold sptF
 split
 ·refine Nat.le_trans (runSp_len _ _) ?_;show 0 + 2 * l.length <= _; omega
 ·simp
end Go.Sh
namespace Go.Sh
theorem SpI.adj {s : Sp} (h : SpI s) (m : Nat) {k : Nat} {v p q : Int} (hp : PickP s k v p q) {u x : Int} (hu : u ∈ s.left) (huv : u ≠ v) :
  x ∈ nget (stepS m s k).near u ↔ (x ∈ nget s.near u /\ x ≠ v) \/ (q ∉ nget s.near p /\ ((u = p /\ x = q) \/ (u = q /\ x = p))) := by
 have hv : s.left.getD k 0 = v := by rw [qDq, hp.at_]; rfl
 have hends : endsS s v = pairF p q := by unfold endsS; rw [hp.near]; rfl
 have hnpq : [p, q].Nodup := by simp [hp.pq]
 have hne := hp.pq
 have hN1 : ∀ u, nget (cutsV v (nget s.near v) s.near) u = if u = p \/ u = q then (nget s.near u).erase v else nget s.near u := fun u => by
  rw [hp.near, cuts_get hnpq];by_cases hu : u = p \/ u = q
  ·rw [if_pos (by simpa using hu), if_pos hu]
  ·rw [if_neg (by simpa using hu), if_neg hu]
 have hadj : ∀ {u x : Int}, u ∈ s.left -> u ≠ v -> (x ∈ nget (cutsV v (nget s.near v) s.near) u ↔ x ∈ nget s.near u /\ x ≠ v) := fun {u x} hu huv => by
  rw [hN1];by_cases hu2 : u = p \/ u = q
  ·rw [if_pos hu2, (h.nd u hu).mem_erase_iff]; exact And.comm
  ·rw [if_neg hu2];refine ⟨fun hx => ⟨hx, fun e => ?_⟩, And.left⟩;subst e;have := (h.sym u hu x hx).2.2;rw [hp.near] at this;exact hu2 (by simpa using this)
 have hthpq := h.th p hp.pm q hp.qm hp.pq
 by_cases hc : mapHas s.thing (keyE (endsS s v)) = true
 ·have hst : (stepS m s k).near = cutsV v (nget s.near v) s.near := by
   unfold stepS;simp only [hv];rw [if_pos hc]
  rw [hends] at hc;have hq := hthpq.1 hc;rw [hst, hadj hu huv];exact ⟨.inl, fun h => h.resolve_right fun h => h.1 hq⟩
 ·have hst : (stepS m s k).near = joinN (cutsV v (nget s.near v) s.near) (endsS s v).1 (endsS s v).2 := by
   unfold stepS;simp only [hv];rw [if_neg hc]
  rw [hends] at hc;have hq : q ∉ nget s.near p := fun k => hc (hthpq.2 k)
  have hj : ∀ u, nget (joinN (cutsV v (nget s.near v) s.near) (endsS s v).1 (endsS s v).2) u = if u = p then nget (cutsV v (nget s.near v) s.near) p ++ [q] else if u = q then nget (cutsV v (nget s.near v) s.near) q ++ [p] else nget (cutsV v (nget s.near v) s.near) u := fun u => by
   rw [hends];rcases pairF_two p q with ⟨e1, e2⟩ | ⟨e1, e2⟩
   ·rw [e1, e2, join_get hne]
   ·rw [e1, e2, join_get (Ne.symm hne)];by_cases u1 : u = p
    ·rw [if_pos u1, if_neg (by rw [u1]; exact hne), if_pos u1]
    ·by_cases u2 : u = q
     ·rw [if_pos u2, if_neg u1, if_pos u2]
     ·rw [if_neg u2, if_neg u1, if_neg u1, if_neg u2]
  rw [hst, hj];by_cases u1 : u = p
  ·rw [if_pos u1, List.mem_append, <- u1, hadj hu huv, List.mem_singleton];constructor
   ·rintro (h | h)
    ·exact .inl h
    ·exact .inr ⟨by rw [u1]; exact hq, .inl ⟨rfl, h⟩⟩
   ·rintro (h | ⟨_, ⟨_, h⟩ | ⟨h, _⟩⟩)
    ·exact .inl h
    ·exact .inr h
    ·exact absurd (u1.symm.trans h) hne
  ·rw [if_neg u1];by_cases u2 : u = q
   ·rw [if_pos u2, List.mem_append, <- u2, hadj hu huv, List.mem_singleton];constructor
    ·rintro (h | h)
     ·exact .inl h
     ·exact .inr ⟨by rw [u2]; exact hq, .inr ⟨rfl, h⟩⟩
    ·rintro (h | ⟨_, ⟨h, _⟩ | ⟨_, h⟩⟩)
     ·exact .inl h
     ·exact absurd h u1
     ·exact .inr h
   ·rw [if_neg u2, hadj hu huv];constructor
    ·exact .inl
    ·rintro (h | ⟨_, ⟨h, _⟩ | ⟨h, _⟩⟩)
     ·exact h
     ·exact absurd h u1
     ·exact absurd h u2
theorem SpI.left_mem {s : Sp} (h : SpI s) (m : Nat) {k : Nat} {v p q : Int} (hp : PickP s k v p q) {x : Int} : x ∈ (stepS m s k).left ↔ x ∈ s.left /\ x ≠ v := by
 rw [(h.step m hp).2.1, h.nl.mem_erase_iff]; exact And.comm
theorem SpI.pq {s : Sp} (h : SpI s) (m : Nat) {k : Nat} {v p q : Int} (hp : PickP s k v p q) : q ∈ nget (stepS m s k).near p /\ p ∈ nget (stepS m s k).near q := by
 rw [h.adj m hp hp.pm hp.pv, h.adj m hp hp.qm hp.qv]
 by_cases hq : q ∈ nget s.near p
 ·exact ⟨.inl ⟨hq, hp.qv⟩, .inl ⟨(h.sym p hp.pm q hq).2.2, hp.pv⟩⟩
 ·exact ⟨.inr ⟨hq, .inl ⟨rfl, rfl⟩⟩, .inr ⟨hq, .inr ⟨rfl, rfl⟩⟩⟩
def AdjS (s : Sp) (x y : Nat) : Prop := (x : Int) ∈ s.left /\ (y : Int) ∈ nget s.near (x : Int)
theorem adjS_sm {s : Sp} (h : SpI s) : Sm (AdjS s) := ⟨fun x y ⟨h1, h2⟩ => by
  obtain ⟨k1, k2, k3⟩ := h.sym _ h1 _ h2;exact ⟨k1, k3⟩, fun x ⟨h1, h2⟩ => (h.sym _ h1 _ h2).2.1 rfl⟩
theorem SpI.red {s : Sp} (h : SpI s) (h0 : ∀ x ∈ s.left, 0 <= x) (m : Nat) {k : Nat} {v p q : Int} (hp : PickP s k v p q) : Red (AdjS s) (AdjS (stepS m s k)) v.toNat p.toNat q.toNat (q ∉ nget s.near p) := by
 have v0 := h0 v hp.mem
 have p0 := h0 p hp.pm
 have q0 := h0 q hp.qm
 have ev := Int.toNat_of_nonneg v0
 have ep := Int.toNat_of_nonneg p0
 have eq := Int.toNat_of_nonneg q0
 refine ⟨fun y ⟨_, hy⟩ => ?_, fun x y => ?_, fun _ => ?_, fun _ _ _ => ?_⟩
 ·rw [ev, hp.near] at hy;have : (y : Int) = p \/ (y : Int) = q := by simpa using hy
  omega
 ·unfold AdjS;rw [h.left_mem m hp];constructor
  ·rintro ⟨⟨hx, hxv⟩, hy⟩;rw [h.adj m hp hx hxv] at hy;refine ⟨by omega, ?_, ?_⟩
   ·rcases hy with ⟨_, hy⟩ | ⟨_, ⟨_, hy⟩ | ⟨_, hy⟩⟩
    ·omega
    ·have := hp.qv; omega
    ·have := hp.pv; omega
   ·rcases hy with ⟨hy, _⟩ | ⟨hq, hy⟩
    ·exact .inl ⟨hx, hy⟩
    ·exact .inr ⟨hq, by omega⟩
  ·rintro ⟨hx, hy, ⟨k1, k2⟩ | ⟨hq, k1⟩⟩
   ·have hxv : (x : Int) ≠ v := by omega
    exact ⟨⟨k1, hxv⟩, (h.adj m hp k1 hxv).2 (.inl ⟨k2, by omega⟩)⟩
   ·have hpm := hp.pm;have hqm := hp.qm;have hxm : (x : Int) ∈ s.left := by
     rcases k1 with ⟨e, _⟩ | ⟨e, _⟩
     ·rw [show (x : Int) = p by omega]; exact hpm
     ·rw [show (x : Int) = q by omega]; exact hqm
    have hxv : (x : Int) ≠ v := by omega
    exact ⟨⟨hxm, hxv⟩, (h.adj m hp hxm hxv).2 (.inr ⟨hq, by omega⟩)⟩
 ·unfold AdjS;rw [ev, ep, eq, hp.near];exact ⟨⟨hp.mem, by simp⟩, ⟨hp.mem, by simp⟩, fun e => hp.pq (by omega)⟩
 ·unfold AdjS;rw [ep, eq];by_cases hq : q ∈ nget s.near p
  ·exact .inl ⟨hp.pm, hq⟩
  ·exact .inr hq
inductive Pa (s : Sp) (c : Int) : Int -> Int -> Prop
 | refl {a : Int} : Pa s c a a
 | step {a b d : Int} : Pa s c a b -> d ∈ nget s.near b -> d ≠ c -> Pa s c a d
theorem Pa.trans {s : Sp} {c a b d : Int} (h : Pa s c a b) (k : Pa s c b d) : Pa s c a d := by
 induction k with
 | refl => exact h
 | step _ h1 h2 ih => exact .step ih h1 h2
theorem Pa.in_ {s : Sp} (hs : SpI s) {c a b : Int} (h : Pa s c a b) (ha : a ∈ s.left) (hc : a ≠ c) : b ∈ s.left /\ b ≠ c := by
 induction h with
 | refl => exact ⟨ha, hc⟩
 | step _ h1 h2 ih => exact ⟨(hs.sym _ ih.1 _ h1).1, h2⟩
theorem Pa.symm {s : Sp} (hs : SpI s) {c a b : Int} (h : Pa s c a b) (ha : a ∈ s.left) (hc : a ≠ c) : Pa s c b a := by
 induction h with
 | refl => exact .refl
 | @step b d h0 h1 h2 ih =>
  obtain ⟨hb, hbc⟩ := h0.in_ hs ha hc;exact (Pa.step .refl (hs.sym b hb d h1).2.2 hbc).trans ih
theorem Pa.first {s : Sp} {c a b : Int} (h : Pa s c a b) (hne : a ≠ b) : ∃ d ∈ nget s.near a, d ≠ c := by
 induction h with
 | refl => exact absurd rfl hne
 | @step b d h0 h1 h2 ih =>
  by_cases e : a = b
  ·subst e; exact ⟨d, h1, h2⟩
  ·exact ih e
def TwoS (s : Sp) : Prop := ∀ c x y, x ∈ s.left -> y ∈ s.left -> x ≠ c -> y ≠ c -> Pa s c x y
theorem TwoS.deg {s : Sp} (hs : SpI s) (h : TwoS s) (h3 : 3 <= s.left.length) {v : Int} (hv : v ∈ s.left) : 2 <= (nget s.near v).length := by
 have l1 : (s.left.erase v).length = s.left.length - 1 := List.length_erase_of_mem hv
 obtain ⟨w, hw⟩ : ∃ w, w ∈ s.left.erase v := List.exists_mem_of_ne_nil _ (by intro e; rw [e] at l1; simp at l1; omega)
 have l2 := List.length_erase_of_mem hw
 obtain ⟨u, hu⟩ : ∃ u, u ∈ (s.left.erase v).erase w := List.exists_mem_of_ne_nil _ (by intro e; rw [e] at l2; simp at l2; omega)
 obtain ⟨huw, hu⟩ := (hs.nl.erase v).mem_erase_iff.1 hu
 obtain ⟨huv, hul⟩ := hs.nl.mem_erase_iff.1 hu
 obtain ⟨hwv, hwl⟩ := hs.nl.mem_erase_iff.1 hw
 obtain ⟨d1, k1, n1⟩ := (h u v w hv hwl (Ne.symm huv) (Ne.symm huw)).first (Ne.symm hwv)
 have hd1 := hs.sym v hv d1 k1
 obtain ⟨d2, k2, n2⟩ := (h d1 v u hv hul (Ne.symm hd1.2.1) (Ne.symm n1)).first (Ne.symm huv)
 exact nodup_len (l := [d1, d2]) (by simp [Ne.symm n2]) fun x hx => by
  have : x = d1 \/ x = d2 := by simpa using hx
  rcases this with rfl | rfl
  ·exact k1
  ·exact k2
theorem TwoS.step {s : Sp} (hs : SpI s) (h : TwoS s) (m : Nat) {k : Nat} {v p q : Int} (hp : PickP s k v p q) : TwoS (stepS m s k) := by
 intro c x y hx hy hxc hyc
 obtain ⟨hx, hxv⟩ := (hs.left_mem m hp).1 hx
 obtain ⟨hy, hyv⟩ := (hs.left_mem m hp).1 hy
 have hpq := hs.pq m hp
 have keep : ∀ {b d : Int}, b ∈ s.left -> b ≠ v -> d ∈ nget s.near b -> d ≠ v -> d ∈ nget (stepS m s k).near b := fun {b d} hb hbv hd hdv => (hs.adj m hp hb hbv).2 (.inl ⟨hd, hdv⟩)
 by_cases hcv : c = v
 ·subst hcv;have : ∀ {a b : Int}, Pa s c a b -> a ∈ s.left -> a ≠ c -> Pa (stepS m s k) c a b := fun {a b} hab ha hac => by
   induction hab with
   | refl => exact .refl
   | @step b d h0 h1 h2 ih =>
    obtain ⟨hb, hbc⟩ := h0.in_ hs ha hac;exact .step ih (keep hb hbc h1 h2) h2
  exact this (h c x y hx hy hxc hyc) hx hxc
 ·obtain ⟨f, hf⟩ : ∃ f : Int -> Int, f = fun u => if u = v then (if p = c then q else p) else u := ⟨_, rfl⟩
  have fv : f v = if p = c then q else p := by rw [hf]; exact if_pos rfl
  have fn : ∀ {u}, u ≠ v -> f u = u := fun {u} hu => by rw [hf]; exact if_neg hu
  have fvc : f v ≠ c := by
   rw [fv];by_cases e : p = c
   ·rw [if_pos e, <- e]; exact Ne.symm hp.pq
   ·rw [if_neg e]; exact e
  have fv2 : f v = p \/ f v = q := by
   rw [fv];by_cases e : p = c
   ·rw [if_pos e]; exact .inr rfl
   ·rw [if_neg e]; exact .inl rfl
  -- one of both, beside the other
  have other : ∀ {z : Int}, (z = p \/ z = q) -> z ≠ f v -> f v ∈ nget (stepS m s k).near z /\ z ∈ nget (stepS m s k).near (f v) := fun {z} hz hne => by
   rcases hz with rfl | rfl
   ·rcases fv2 with e | e
    ·exact absurd e.symm hne
    ·rw [e]; exact hpq
   ·rcases fv2 with e | e
    ·rw [e]; exact ⟨hpq.2, hpq.1⟩
    ·exact absurd e.symm hne
  have main : ∀ {a b : Int}, Pa s c a b -> a ∈ s.left -> a ≠ c -> Pa (stepS m s k) c (f a) (f b) := fun {a b} hab ha hac => by
   induction hab with
   | refl => exact .refl
   | @step b d h0 h1 h2 ih =>
    obtain ⟨hb, hbc⟩ := h0.in_ hs ha hac;by_cases ebv : b = v
    ·subst ebv;rw [hp.near] at h1;have h1 : d = p \/ d = q := by simpa using h1
     have hdv : d ≠ b := by rcases h1 with rfl | rfl; exact hp.pv; exact hp.qv
     rw [fn hdv];by_cases e : d = f b
     ·rw [e]; exact ih
     ·exact .step ih (other h1 e).2 h2
    ·rw [fn ebv] at ih;by_cases edv : d = v
     ·subst edv;have := (hs.sym b hb d h1).2.2;rw [hp.near] at this;have hbpq : b = p \/ b = q := by simpa using this
      by_cases e : b = f d
      ·rw [<- e]; exact ih
      ·exact .step ih (other hbpq e).1 fvc
     ·rw [fn edv];exact .step ih (keep hb ebv h1 edv) h2
  have := main (h c x y hx hy hxc hyc) hx hxc;rw [fn hxv, fn hyv] at this;exact this
theorem TwoS.start {n : Int} {E : List Ed} {l : List Int} (hl : l.length <= 1000) (hT : TwoP n E l) : TwoS (startS E l) := by
 obtain ⟨_, hw, hwe⟩ := (two_iff hl).1 hT
 obtain ⟨hR, h2, ⟨hnd, hrng⟩, -⟩ := hT
 have hs := start_ok (l := l) hR hnd
 have hm : ∀ {x : Int}, x ∈ (startS E l).left ↔ x ∈ l := fun {x} => (List.mergeSort_perm l _).mem_iff
 intro c x y hx hy hxc hyc
 obtain ⟨k, hk, hkw⟩ : ∃ k : List Int, (∀ u, u ∈ k ↔ u ∈ l /\ u ≠ c) /\ WholeP n E k := by
  by_cases hc : c ∈ l
  ·exact ⟨l.erase c, fun u => by rw [hnd.mem_erase_iff]; exact And.comm, hwe c hc⟩
  ·exact ⟨l, fun u => ⟨fun h => ⟨h, fun e => hc (by rw [<- e]; exact h)⟩, And.left⟩, hw⟩
 obtain ⟨-, hk0, -, -, hconn⟩ := hkw
 have hh : k.headD 0 ∈ k := by
  cases k with
  | nil => exact absurd rfl hk0
  | cons a k => exact List.mem_cons_self
 have to : ∀ {u : Int}, Rch E k (k.headD 0) u -> u ∈ k /\ Pa (startS E l) c (k.headD 0) u := fun {u} h => by
  induction h with
  | base => exact ⟨hh, .refl⟩
  | @step u w h0 ha hm2 ih =>
   refine ⟨hm2, .step ih.2 ?_ ((hk w).1 hm2).2⟩;rw [start_near hR, mem_nearL, with_mem];exact ⟨ha, ((hk u).1 ih.1).1, ((hk w).1 hm2).1⟩
 have hxk := (hk x).2 ⟨hm.1 hx, hxc⟩
 have hyk := (hk y).2 ⟨hm.1 hy, hyc⟩
 have hhl := (hk _).1 hh
 exact ((to (hconn x hxk)).2.symm hs (hm.2 hhl.1) hhl.2).trans (to (hconn y hyk)).2
structure VsP (vs : List Nat) (s : Sp) : Prop where
 nd : vs.Nodup
 in_ : ∀ x : Nat, (x : Int) ∈ s.left -> x ∈ vs
theorem spt_K4 {c : Int} {m : Nat} (hc : c ≠ 0) {vs : List Nat} : ∀ (f : Nat) {s : Sp}, s.left.length <= f -> SpI s -> TwoS s -> (∀ x ∈ s.left, 0 <= x) -> VsP vs s ->
  ((runSp c m f s).2 = 0 /\ ¬ ∃ d, MdL vs (AdjS s) d) \/ (runSp c m f s = ([], c) /\ ∃ d, MdL vs (AdjS s) d) := by
 have stop : ∀ {s : Sp}, s.left.length <= 2 -> SpI s -> ¬ ∃ d, MdL vs (AdjS s) d := by
  rintro s hl hs ⟨d, hd⟩;obtain ⟨x, y, _, _, h1, e1, e2⟩ := hd.meet 0 1 (by omega) (by omega);obtain ⟨z, w, _, _, h2, e3, e4⟩ := hd.meet 2 3 (by omega) (by omega);have hy := ((adjS_sm hs).sym _ _ h1).1;have := nodup_len (l := [(x : Int), (y : Int), (z : Int)]) (m := s.left) (by
   have n1 : x ≠ y := fun e => by rw [e] at e1; omega
   have n2 : x ≠ z := fun e => by rw [e] at e1; omega
   have n3 : y ≠ z := fun e => by rw [e] at e2; omega
   simp;omega) (fun u hu => by
   have : u = x \/ u = y \/ u = z := by simpa using hu
   rcases this with rfl | rfl | rfl
   ·exact h1.1
   ·exact hy
   ·exact h2.1)
  simp at this;omega
 intro f
 induction f with
 | zero => intro s hf hs _ _ _; exact .inl ⟨rfl, stop (by omega) hs⟩
 | succ f ih =>
  intro s hf hs h2 h0 hv;simp only [runSp];by_cases hl : s.left.length <= 2
  ·rw [if_pos hl]; exact .inl ⟨rfl, stop hl hs⟩
  ·rw [if_neg hl]
   cases hk : pickS s with
   | none =>
    right
    refine ⟨rfl, ?_⟩;have h3 : ∀ x ∈ s.left, 3 <= (nget s.near x).length := fun x hx => by
     have := List.findIdx?_eq_none_iff.1 hk x hx;have := of_decide_eq_false this;have := h2.deg hs (by omega) hx;omega
    have hmap : ∀ x : Nat, x ∈ s.left.map Int.toNat ↔ (x : Int) ∈ s.left := fun x => by
     rw [List.mem_map];constructor
     ·rintro ⟨v, hv, rfl⟩;rw [Int.toNat_of_nonneg (h0 v hv)]; exact hv
     ·intro h; exact ⟨_, h, Int.toNat_natCast x⟩
    have hnd2 : (s.left.map Int.toNat).Nodup := by
     refine List.nodup_iff_pairwise_ne.2 ?_;rw [List.pairwise_map];refine (List.nodup_iff_pairwise_ne.1 hs.nl).imp_of_mem fun {a b} ha hb hab => ?_
     have := h0 a ha;have := h0 b hb;omega
    obtain ⟨d, hd⟩ := dirac (vs := s.left.map Int.toNat) (adjS_sm hs) hnd2 (fun x hx => by
     have hx := (hmap x).1 hx;have hn := hs.nd _ hx;have hin : ∀ y ∈ nget s.near (x : Int), y.toNat ∈ s.left.map Int.toNat /\ AdjS s x y.toNat := fun y hy => by
      have h1 := hs.sym _ hx y hy;have := h0 y h1.1;refine ⟨(hmap _).2 (by rw [Int.toNat_of_nonneg this]; exact h1.1), hx, by rw [Int.toNat_of_nonneg this]; exact hy⟩
     have hy0 : ∀ y ∈ nget s.near (x : Int), 0 <= y := fun y hy => h0 y (hs.sym _ hx y hy).1
     match hrow : nget s.near (x : Int), h3 _ hx with
     | a :: b :: e :: r, _ =>
      rw [hrow] at hn hin hy0;simp only [List.nodup_cons, List.mem_cons, not_or] at hn;obtain ⟨m1, k1⟩ := hin a (by simp);obtain ⟨m2, k2⟩ := hin b (by simp);obtain ⟨m3, k3⟩ := hin e (by simp);have a0 := hy0 a (by simp);have b0 := hy0 b (by simp);have e0 := hy0 e (by simp);exact ⟨_, _, _, m1, m2, m3, by omega, by omega, by omega, k1, k2, k3⟩
     | [], h => simp at h
     | [_], h => simp at h
     | [_, _], h => simp at h) (by intro e; have : s.left = [] := List.map_eq_nil_iff.1 e; rw [this] at hl; simp at hl)
    exact ⟨_, hd.induced fun x hx => hv.in_ x ((hmap x).1 hx)⟩
   | some k =>
    obtain ⟨v, p, q, hp⟩ := hs.pick hk;obtain ⟨sok, sleft, slen⟩ := hs.step m hp;have hsub : ∀ x, x ∈ (stepS m s k).left -> x ∈ s.left := fun x hx => ((hs.left_mem m hp).1 hx).1
    have red := hs.red h0 m hp;have v0 := h0 v hp.mem;have p0 := h0 p hp.pm;have vm : v.toNat ∈ vs := hv.in_ _ (by rw [Int.toNat_of_nonneg v0]; exact hp.mem);have pm : p.toNat ∈ vs := hv.in_ _ (by rw [Int.toNat_of_nonneg p0]; exact hp.pm);rcases ih (by omega) sok (h2.step hs m hp) (fun x hx => h0 x (hsub x hx)) ⟨hv.nd, fun x hx => hv.in_ x (hsub _ hx)⟩ with ⟨h1, h3⟩ | ⟨h1, d, h3⟩
    ·exact .inl ⟨h1, fun ⟨d, hd⟩ => h3 (red.go (adjS_sm hs) hv.nd vm (fun x y hxy => hv.in_ x hxy.1) hd)⟩
    ·exact .inr ⟨h1, red.back (adjS_sm hs) hv.nd vm pm h3⟩
end Go.Sh
namespace Go.Sh
theorem runSp_pre {c : Int} {m : Nat} (hc : c ≠ 0) : ∀ (f : Nat) {s : Sp}, (runSp c m f s).2 = 0 -> ∃ r, (runSp c m f s).1 = s.out ++ r := by
 intro f
 induction f with
 | zero => intro s _; exact ⟨[], by simp [runSp]⟩
 | succ f ih =>
  intro s h;simp only [runSp] at h ⊢;by_cases hl : s.left.length <= 2
  ·rw [if_pos hl]; exact ⟨[], by simp⟩
  ·rw [if_neg hl] at h ⊢
   cases hk : pickS s with
   | none => rw [hk] at h; exact absurd h hc
   | some k =>
    rw [hk] at h;dsimp only at h ⊢;obtain ⟨r, hr⟩ := ih h;have : ∃ r', (stepS m s k).out = s.out ++ r' := by
     unfold stepS;dsimp only;split
     ·exact ⟨_, List.append_assoc ..⟩
     ·exact ⟨_, rfl⟩
    obtain ⟨r', hr'⟩ := this;exact ⟨r' ++ r, by rw [hr, hr', List.append_assoc]⟩
theorem ckRun_app : ∀ {t u : List Nd} {s : Ck}, ckRun (t ++ u) s = match ckRun t s with | some s' => ckRun u s' | none => none := by
 intro t
 induction t with
 | nil => intro u s; rfl
 | cons x t ih =>
  intro u s;simp only [List.cons_append, ckRun]
  cases h : ckStep s x with
  | none => rfl
  | some s1 => exact ih
theorem ckRun_one {s s' : Ck} {x : Nd} (hs : CkI s) (h : StepP s x s') : ckRun [x] s = some s' := by
 simp only [ckRun, (ckStep_iff hs).2 h]
structure OutI (W : List Ed) (l : List Int) (N : Nat) (s : Sp) (κ : Ck) : Prop where
 run : ckRun s.out { poles := W, used := List.replicate N 0, mid := [] } = some κ
 ck : CkI κ
 use : UseC N κ
 plen : κ.poles.length = W.length + s.out.length
 ulen : κ.used.length = N
 thg : ∀ a b, a ∈ s.left -> b ∈ s.left -> a ≠ b -> mapHas s.thing (keyE (pairF a b)) = true -> ∃ i : Nat, mapGet s.thing (keyE (pairF a b)) = i /\ opn κ i /\ κ.pol (i : Nat) = pairF a b
 opn : ∀ i, opn κ i -> ∃ a b, a ∈ s.left /\ b ∈ s.left /\ a ≠ b /\ mapHas s.thing (keyE (pairF a b)) = true /\ mapGet s.thing (keyE (pairF a b)) = (i : Nat)
 mid : ∀ v ∈ l, mapGet κ.mid [v] = if v ∈ s.left then 0 else 1
 sub : ∀ v ∈ s.left, v ∈ l
theorem OutI.step {W : List Ed} {l : List Int} {N : Nat} {s : Sp} {κ : Ck} (h : OutI W l N s κ) (hs : SpI s) {k : Nat} {v p q : Int} (hp : PickP s k v p q) (hN : W.length + (stepS W.length s k).out.length <= N) : ∃ κ', OutI W l N (stepS W.length s k) κ' := by
 have hgd : s.left.getD k 0 = v := by rw [qDq, hp.at_]; rfl
 obtain ⟨⟨a, b⟩, hab⟩ : ∃ e, pairF p q = e := ⟨_, rfl⟩
 have hends : endsS s v = (a, b) := by unfold endsS; rw [hp.near]; exact hab
 have hpe : pairF a b = (a, b) := by rw [<- hab, show a = (pairF p q).1 by rw [hab], show b = (pairF p q).2 by rw [hab]]; exact pairF_idem p q
 have habm : ((a ∈ s.left /\ a ≠ v) /\ a ∈ nget s.near v) /\ (b ∈ s.left /\ b ≠ v) /\ b ∈ nget s.near v := by
  rw [hp.near];rcases pairF_two p q with ⟨e1, e2⟩ | ⟨e1, e2⟩ <;> rw [hab] at e1 e2 <;> dsimp only at e1 e2 <;> subst e1 <;> subst e2
  ·exact ⟨⟨⟨hp.pm, hp.pv⟩, by simp⟩, ⟨hp.qm, hp.qv⟩, by simp⟩
  ·exact ⟨⟨⟨hp.qm, hp.qv⟩, by simp⟩, ⟨hp.pm, hp.pv⟩, by simp⟩
 obtain ⟨⟨⟨am, av⟩, an⟩, ⟨bm, bv⟩, bn⟩ := habm
 have hne : a ≠ b := by have := pairF_lt hp.pq; rw [hab] at this; dsimp only at this; omega
 have hva := (hs.th v hp.mem a am (Ne.symm av)).2 an
 have hvb := (hs.th v hp.mem b bm (Ne.symm bv)).2 bn
 obtain ⟨L, hL, oL, pL⟩ := h.thg v a hp.mem am (Ne.symm av) hva
 obtain ⟨R, hR, oR, pR⟩ := h.thg v b hp.mem bm (Ne.symm bv) hvb
 have hLR : L ≠ R := fun e => by rw [e, pR, pairF_inj] at pL; omega
 have hmem : ∀ {x : Int}, x ∈ (stepS W.length s k).left ↔ x ∈ s.left /\ x ≠ v := hs.left_mem W.length hp
 obtain ⟨o1, ho1⟩ : ∃ o1, s.out ++ [((1, mapGet s.thing (keyE (pairF v a)), mapGet s.thing (keyE (pairF v b))) : Nd)] = o1 := ⟨_, rfl⟩
 have ho1l : o1.length = s.out.length + 1 := by rw [<- ho1]; simp
 have hst : stepS W.length s k = if mapHas s.thing (keyE (a, b)) = true then
   { left := s.left.eraseIdx k, near := cutsV v (nget s.near v) s.near, thing := mapPut s.thing (keyE (a, b)) ((W.length : Int) + (o1.length : Int)), out := o1 ++ [(2, mapGet s.thing (keyE (a, b)), (W.length : Int) + (o1.length : Int) - 1)] }
   else { left := s.left.eraseIdx k, near := joinN (cutsV v (nget s.near v) s.near) a b, thing := mapPut s.thing (keyE (a, b)) ((W.length : Int) + (o1.length : Int) - 1), out := o1 } := by
  unfold stepS;simp only [hgd, hends, ho1]
 -- the first node
 obtain ⟨x, hx⟩ : ∃ x : Nd, ((1, mapGet s.thing (keyE (pairF v a)), mapGet s.thing (keyE (pairF v b))) : Nd) = x := ⟨_, rfl⟩
 have hxL : x.2.1 = (L : Nat) := by rw [<- hx]; exact hL
 have hxR : x.2.2 = (R : Nat) := by rw [<- hx]; exact hR
 have hxo : x.1 = 1 := by rw [<- hx]
 have free : FreeP κ x := by
  refine ⟨by rw [hxL, hxR]; omega, by omega, by omega, by rw [hxL]; have := oL.1; omega, by rw [hxR]; have := oR.1; omega, ?_⟩;rw [hxL, hxR, oL.2, oR.2]; exact Int.le_refl _
 have hout : o1.length <= (stepS W.length s k).out.length := by
  rw [hst]; split
  ·show _ <= (o1 ++ [_]).length; simp
  ·exact Nat.le_refl _
 have hlt : κ.poles.length < N := by rw [h.plen]; omega
 obtain ⟨κ1, hk1⟩ : ∃ κ1 : Ck, κ1 = { poles := κ.poles ++ [pairF a b], used := (κ.used.set x.2.1.toNat 1).set x.2.2.toNat 1, mid := midIn κ.mid v } := ⟨_, rfl⟩
 have st1 : StepP κ x κ1 := .ser v a b hxo free (by rw [hxL, hxR, pL, pR]; exact ⟨pairF_comm _ _, rfl, hne, av, bv⟩) hk1
 have mv1 : MoveP κ x κ1 (pairF a b) := ⟨free, by rw [hk1], by rw [hk1]⟩
 have us1 := mv1.use h.ulen hlt h.use
 have ck1 := st1.inv h.ck
 have op1 := mv1.opn h.ulen hlt (h.use.new _ (Nat.le_refl _) hlt)
 have ul1 : κ1.used.length = N := by rw [mv1.used, List.length_set, List.length_set, h.ulen]
 have pl1 : κ1.poles.length = W.length + o1.length := by rw [mv1.poles, List.length_append, List.length_singleton, h.plen, ho1l]; omega
 have rn1 : ckRun o1 { poles := W, used := List.replicate N 0, mid := [] } = some κ1 := by
  rw [<- ho1, hx, ckRun_app, h.run];exact ckRun_one h.ck st1
 have old1 : ∀ i, Go.Sh.opn κ i -> κ1.pol (i : Nat) = κ.pol (i : Nat) := fun i hi => by rw [mv1.pol, if_pos hi.1]
 have new1 : κ1.pol (κ.poles.length : Nat) = pairF a b := by rw [mv1.pol, if_neg (by omega), if_pos rfl]
 have onew1 : Go.Sh.opn κ1 κ.poles.length := (op1 _).2 (.inr rfl)
 have stay1 : ∀ i, Go.Sh.opn κ i -> (∀ c, κ.pol (i : Nat) ≠ pairF v c) -> Go.Sh.opn κ1 i := fun i hi hc => (op1 i).2 (.inl ⟨hi, fun e => hc a (by rw [<- pL]; congr 1; omega), fun e => hc b (by rw [<- pR]; congr 1; omega)⟩)
 have md1 : ∀ w ∈ l, mapGet κ1.mid [w] = if w ∈ (stepS W.length s k).left then 0 else 1 := fun w hw => by
  rw [hk1];show mapGet (midIn κ.mid v) [w] = _
  unfold midIn;have hvl := h.mid v (h.sub v hp.mem);rw [if_pos hp.mem] at hvl;rw [mapGet_put, hvl];by_cases e : v = w
  ·subst e;rw [if_pos rfl, if_neg (fun hh => (hmem.1 hh).2 rfl)]; rfl
  ·rw [if_neg (by simpa using e), h.mid w hw];by_cases hw2 : w ∈ s.left
   ·rw [if_pos hw2, if_pos (hmem.2 ⟨hw2, Ne.symm e⟩)]
   ·rw [if_neg hw2, if_neg (fun hh => hw2 (hmem.1 hh).1)]
 have notv : ∀ {c d : Int}, c ≠ v -> d ≠ v -> ∀ z, pairF c d ≠ pairF v z := fun {c d} hc hd z e => by rw [pairF_inj] at e; omega
 have keyne : ∀ {c d : Int}, keyE (a, b) ≠ keyE (pairF c d) -> pairF c d ≠ pairF a b := fun {c d} hk e => hk (by rw [e, hpe])
 by_cases hc : mapHas s.thing (keyE (a, b)) = true
 ·rw [if_pos hc] at hst;obtain ⟨J, hJ, oJ, pJ⟩ := h.thg a b am bm hne (by rw [hpe]; exact hc);rw [hpe] at hJ;obtain ⟨s', hs'⟩ : ∃ s', stepS W.length s k = s' := ⟨_, rfl⟩;rw [hs'] at hst hmem md1 hN ⊢;have et : s'.thing = mapPut s.thing (keyE (a, b)) ((W.length : Int) + (o1.length : Int)) := by rw [hst]
  have eo : s'.out = o1 ++ [(2, mapGet s.thing (keyE (a, b)), (W.length : Int) + (o1.length : Int) - 1)] := by rw [hst]
  obtain ⟨y, hy⟩ : ∃ y : Nd, ((2, mapGet s.thing (keyE (a, b)), (W.length : Int) + (o1.length : Int) - 1) : Nd) = y := ⟨_, rfl⟩;have hyL : y.2.1 = (J : Nat) := by rw [<- hy]; exact hJ
  have hyR : y.2.2 = (κ.poles.length : Nat) := by rw [<- hy]; show (W.length : Int) + (o1.length : Int) - 1 = _; rw [h.plen, ho1l]; omega
  have hyo : y.1 = 2 := by rw [<- hy]
  have oJ1 := stay1 J oJ (by rw [pJ]; exact notv av bv);have pJ1 : κ1.pol (J : Nat) = pairF a b := by rw [old1 J oJ]; exact pJ
  have free2 : FreeP κ1 y := by
   refine ⟨by rw [hyL, hyR]; have := oJ.1; omega, by omega, by omega, by rw [hyL]; have := oJ1.1; omega, by rw [hyR]; have := onew1.1; omega, ?_⟩;rw [hyL, hyR, oJ1.2, onew1.2]; exact Int.le_refl _
  have hol : s'.out.length = o1.length + 1 := by rw [eo]; simp
  have hlt1 : κ1.poles.length < N := by rw [pl1]; omega
  obtain ⟨κ2, hk2⟩ : ∃ κ2 : Ck, κ2 = { poles := κ1.poles ++ [κ1.pol y.2.1], used := (κ1.used.set y.2.1.toNat 1).set y.2.2.toNat 1, mid := κ1.mid } := ⟨_, rfl⟩;have st2 : StepP κ1 y κ2 := .par hyo free2 (by rw [hyL, hyR, pJ1, new1]) hk2;have mv2 : MoveP κ1 y κ2 (pairF a b) := ⟨free2, by rw [hk2, hyL, pJ1], by rw [hk2]⟩;have us2 := mv2.use ul1 hlt1 us1;have op2 := mv2.opn ul1 hlt1 (us1.new _ (Nat.le_refl _) hlt1);have old2 : ∀ i, Go.Sh.opn κ1 i -> κ2.pol (i : Nat) = κ1.pol (i : Nat) := fun i hi => by rw [mv2.pol, if_pos hi.1]
  have new2 : κ2.pol (κ1.poles.length : Nat) = pairF a b := by rw [mv2.pol, if_neg (by omega), if_pos rfl]
  have onew2 : Go.Sh.opn κ2 κ1.poles.length := (op2 _).2 (.inr rfl);refine ⟨κ2, ?_, st2.inv ck1, us2, by rw [mv2.poles, List.length_append, List.length_singleton, pl1, hol]; omega, by rw [mv2.used, List.length_set, List.length_set, ul1], fun c d hcm hdm hcd hh => ?_, fun i hi => ?_, fun w hw => by rw [hk2]; exact md1 w hw, fun w hw => h.sub w (hmem.1 hw).1⟩
  ·rw [eo, hy, ckRun_app, rn1];exact ckRun_one ck1 st2
  ·rw [et] at hh ⊢;rw [mapGet_put];by_cases hkey : keyE (a, b) = keyE (pairF c d)
   ·rw [if_pos hkey];refine ⟨κ1.poles.length, by rw [pl1]; omega, onew2, ?_⟩;rw [new2, hpe];exact keyE_inj.1 hkey
   ·rw [if_neg hkey];rw [mapHas_put, decide_eq_false hkey, Bool.false_or] at hh;obtain ⟨hc1, hc2⟩ := hmem.1 hcm;obtain ⟨hd1, hd2⟩ := hmem.1 hdm;obtain ⟨i, hi1, hi2, hi3⟩ := h.thg c d hc1 hd1 hcd hh;have hi4 := stay1 i hi2 (by rw [hi3]; exact notv hc2 hd2);refine ⟨i, hi1, (op2 i).2 (.inl ⟨hi4, fun e => ?_, fun e => ?_⟩), by rw [old2 i hi4, old1 i hi2]; exact hi3⟩
    ·have : J = i := by omega
     rw [<- this, pJ] at hi3;exact keyne hkey hi3.symm
    ·have := hi2.1; omega
  ·rcases (op2 i).1 hi with ⟨hi1, n1, n2⟩ | rfl
   ·rcases (op1 i).1 hi1 with ⟨hi0, n3, n4⟩ | rfl
    ·obtain ⟨c, d, hc1, hd1, hcd, hh, hg⟩ := h.opn i hi0;have hcv : c ≠ v := fun e => by
      subst e;have hd2 := (hs.th c hc1 d hd1 hcd).1 hh;rw [hp.near] at hd2;have hd2 : d = p \/ d = q := by simpa using hd2
      have : d = a \/ d = b := by
       rcases pairF_two p q with ⟨e1, e2⟩ | ⟨e1, e2⟩ <;> rw [hab] at e1 e2 <;> dsimp only at e1 e2 <;> omega
      rcases this with rfl | rfl
      ·exact n3 (by rw [hxL]; omega)
      ·exact n4 (by rw [hxR]; omega)
     have hdv : d ≠ v := fun e => by
      subst e;rw [pairF_comm] at hh hg;have hd2 := (hs.th d hd1 c hc1 (Ne.symm hcd)).1 hh;rw [hp.near] at hd2;have hd2 : c = p \/ c = q := by simpa using hd2
      have : c = a \/ c = b := by
       rcases pairF_two p q with ⟨e1, e2⟩ | ⟨e1, e2⟩ <;> rw [hab] at e1 e2 <;> dsimp only at e1 e2 <;> omega
      rcases this with rfl | rfl
      ·exact n3 (by rw [hxL]; omega)
      ·exact n4 (by rw [hxR]; omega)
     have hkey : keyE (a, b) ≠ keyE (pairF c d) := fun e => by
      rw [<- e, hJ] at hg;exact n1 (by rw [hyL]; exact hg)
     refine ⟨c, d, hmem.2 ⟨hc1, hcv⟩, hmem.2 ⟨hd1, hdv⟩, hcd, ?_, ?_⟩
     ·rw [et, mapHas_put, hh, Bool.or_true]
     ·rw [et, mapGet_put, if_neg hkey]; exact hg
    ·exact absurd hyR n2
   ·refine ⟨a, b, hmem.2 ⟨am, av⟩, hmem.2 ⟨bm, bv⟩, hne, ?_, ?_⟩
    ·rw [et, mapHas_put, hpe, decide_eq_true rfl, Bool.true_or]
    ·rw [et, mapGet_put, hpe, if_pos rfl, pl1]; omega
 ·rw [if_neg hc] at hst;obtain ⟨s', hs'⟩ : ∃ s', stepS W.length s k = s' := ⟨_, rfl⟩;rw [hs'] at hst hmem md1 hN ⊢;have et : s'.thing = mapPut s.thing (keyE (a, b)) ((W.length : Int) + (o1.length : Int) - 1) := by rw [hst]
  have eo : s'.out = o1 := by rw [hst]
  refine ⟨κ1, by rw [eo]; exact rn1, ck1, us1, by rw [eo]; exact pl1, ul1, fun c d hcm hdm hcd hh => ?_, fun i hi => ?_, md1, fun w hw => h.sub w (hmem.1 hw).1⟩
  ·rw [et] at hh ⊢;rw [mapGet_put];by_cases hkey : keyE (a, b) = keyE (pairF c d)
   ·rw [if_pos hkey];refine ⟨κ.poles.length, by rw [h.plen, ho1l]; omega, onew1, ?_⟩;rw [new1, hpe];exact keyE_inj.1 hkey
   ·rw [if_neg hkey];rw [mapHas_put, decide_eq_false hkey, Bool.false_or] at hh;obtain ⟨hc1, hc2⟩ := hmem.1 hcm;obtain ⟨hd1, hd2⟩ := hmem.1 hdm;obtain ⟨i, hi1, hi2, hi3⟩ := h.thg c d hc1 hd1 hcd hh;exact ⟨i, hi1, stay1 i hi2 (by rw [hi3]; exact notv hc2 hd2), by rw [old1 i hi2]; exact hi3⟩
  ·rcases (op1 i).1 hi with ⟨hi0, n3, n4⟩ | rfl
   ·obtain ⟨c, d, hc1, hd1, hcd, hh, hg⟩ := h.opn i hi0;have hcv : c ≠ v := fun e => by
     subst e;have hd2 := (hs.th c hc1 d hd1 hcd).1 hh;rw [hp.near] at hd2;have hd2 : d = p \/ d = q := by simpa using hd2
     have : d = a \/ d = b := by
      rcases pairF_two p q with ⟨e1, e2⟩ | ⟨e1, e2⟩ <;> rw [hab] at e1 e2 <;> dsimp only at e1 e2 <;> omega
     rcases this with rfl | rfl
     ·exact n3 (by rw [hxL]; omega)
     ·exact n4 (by rw [hxR]; omega)
    have hdv : d ≠ v := fun e => by
     subst e;rw [pairF_comm] at hh hg;have hd2 := (hs.th d hd1 c hc1 (Ne.symm hcd)).1 hh;rw [hp.near] at hd2;have hd2 : c = p \/ c = q := by simpa using hd2
     have : c = a \/ c = b := by
      rcases pairF_two p q with ⟨e1, e2⟩ | ⟨e1, e2⟩ <;> rw [hab] at e1 e2 <;> dsimp only at e1 e2 <;> omega
     rcases this with rfl | rfl
     ·exact n3 (by rw [hxL]; omega)
     ·exact n4 (by rw [hxR]; omega)
    have hkey : keyE (a, b) ≠ keyE (pairF c d) := fun e => by rw [<- e] at hh; exact hc hh
    refine ⟨c, d, hmem.2 ⟨hc1, hcv⟩, hmem.2 ⟨hd1, hdv⟩, hcd, ?_, ?_⟩
    ·rw [et, mapHas_put, hh, Bool.or_true]
    ·rw [et, mapGet_put, if_neg hkey]; exact hg
   ·refine ⟨a, b, hmem.2 ⟨am, av⟩, hmem.2 ⟨bm, bv⟩, hne, ?_, ?_⟩
    ·rw [et, mapHas_put, hpe, decide_eq_true rfl, Bool.true_or]
    ·rw [et, mapGet_put, hpe, if_pos rfl, h.plen, ho1l]; omega
theorem OutI.run_ {W : List Ed} {l : List Int} {N : Nat} {c : Int} (hc : c ≠ 0) : ∀ (f : Nat) {s : Sp} {κ : Ck}, s.left.length <= f -> SpI s -> TwoS s -> 2 <= s.left.length -> OutI W l N s κ -> (runSp c W.length f s).2 = 0 -> W.length + (runSp c W.length f s).1.length <= N ->
  ∃ s' κ', (runSp c W.length f s).1 = s'.out /\ SpI s' /\ TwoS s' /\ s'.left.length = 2 /\ OutI W l N s' κ' := by
 intro f
 induction f with
 | zero => intro s κ hf _ _ h2 _ _ _; omega
 | succ f ih =>
  intro s κ hf hs h2 hl2 ho hz hN;simp only [runSp] at hz hN ⊢;by_cases hl : s.left.length <= 2
  ·rw [if_pos hl];exact ⟨s, κ, rfl, hs, h2, by omega, ho⟩
  ·rw [if_neg hl] at hz hN ⊢
   cases hk : pickS s with
   | none => rw [hk] at hz; exact absurd hz hc
   | some k =>
    rw [hk] at hz hN;dsimp only at hz hN ⊢;obtain ⟨v, p, q, hp⟩ := hs.pick hk;obtain ⟨sok, sleft, slen⟩ := hs.step W.length hp;obtain ⟨r, hr⟩ := runSp_pre hc f hz;obtain ⟨κ', hk'⟩ := ho.step hs hp (by rw [hr, List.length_append] at hN; omega);exact ih (by omega) sok (h2.step hs W.length hp) (by omega) hk' hz hN
theorem sum_but {f : Nat -> Nat} {i0 : Nat} : ∀ {N : Nat}, (∀ i, i < N -> i ≠ i0 -> f i = 1) -> f i0 = 0 -> ((List.range N).map f).sum = if i0 < N then N - 1 else N := by
 intro N
 induction N with
 | zero => intro _ _; simp
 | succ N ih =>
  intro h h0;have ih := ih (fun i hi => h i (by omega)) h0;rw [List.range_succ, List.map_append, List.sum_append, ih];simp only [List.map_cons, List.map_nil, List.sum_cons, List.sum_nil];by_cases e : N = i0
  ·subst e;rw [h0, if_neg (by omega), if_pos (by omega)]; omega
  ·rw [h N (by omega) e];split <;> split <;> omega
theorem spt_ck {n : Int} {E : List Ed} {l : List Int} (hl : l.length <= 1000) (h : (sptF n E l).2 = 0) : ckF n E l (sptF n E l).1 = true := by
 cases hT : twoB n E l with
 | false => unfold sptF at h; rw [if_neg (by rw [hT]; simp)] at h; simp at h
 | true =>
  have hTP := twoB_iff.1 hT;obtain ⟨hR, h2, ⟨hnd, hrng⟩, -⟩ := twoB_iff.1 hT;have hF : sptF n E l = runSp 6 (withL l E).length l.length (startS E l) := by unfold sptF; rw [if_pos hT]
  obtain ⟨fin, hfin⟩ : ∃ fin, (sptF n E l).1 = fin := ⟨_, rfl⟩;have hsl : (startS E l).left.length = l.length := sortI_length l;have hm : ∀ {x : Int}, x ∈ (startS E l).left ↔ x ∈ l := fun {x} => (List.mergeSort_perm l _).mem_iff
  have hs := start_ok (l := l) hR hnd;have ht2 := TwoS.start hl hTP;have hWp : ∀ e ∈ withL l E, Prop2 e := start_inv (l := l) hR 0;have hWn : (withL l E).Nodup := by
   have := (withL_ok (l := l) hR).2;exact List.nodup_iff_pairwise_ne.2 (this.imp fun h => by rintro rfl; unfold ltE at h; omega)
  have hpl : ∀ i : Nat, i < (withL l E).length -> ∃ e, (withL l E)[i]? = some e /\ e ∈ withL l E /\ Ck.pol { poles := withL l E, used := List.replicate ((withL l E).length + fin.length) 0, mid := [] } (i : Nat) = e := fun i hi => by
   refine ⟨_, qEq hi, List.getElem_mem hi, ?_⟩;unfold Ck.pol;rw [Int.toNat_natCast, qDq, qEq hi]; rfl
  have hz0 : ∀ i : Nat, Ck.usd { poles := withL l E, used := List.replicate ((withL l E).length + fin.length) 0, mid := [] } (i : Nat) = 0 := fun i => by
   unfold Ck.usd;rw [Int.toNat_natCast, qDq, List.getElem?_replicate]; split <;> rfl
  have hget : ∀ {i : Nat} {e : Ed}, (withL l E)[i]? = some e -> mapGet (startS E l).thing (keyE e) = i := fun {i e} he => by
   show mapGet (stT (withL l E).reverse) (keyE e) = i
   exact stT_get ((List.reverse_perm _).nodup_iff.2 hWn) (by rw [List.reverse_reverse]; exact he)
  have ho0 : OutI (withL l E) l ((withL l E).length + fin.length) (startS E l) { poles := withL l E, used := List.replicate ((withL l E).length + fin.length) 0, mid := [] } := by
   refine ⟨rfl, hWp, ⟨fun i => by rw [hz0]; exact Int.le_refl _, fun i _ _ => hz0 i⟩, rfl, by simp, fun a b ha hb hab hh => ?_, fun i hi => ?_, fun v hv => ?_, fun v hv => hm.1 hv⟩
   ·have hh : mapHas (stT (withL l E).reverse) (keyE (pairF a b)) = true := hh;rw [stT_has, List.mem_reverse] at hh;obtain ⟨i, hi, hii⟩ := List.getElem_of_mem hh;have hq : (withL l E)[i]? = some (pairF a b) := by rw [qEq hi, hii]
    obtain ⟨e, he1, _, he2⟩ := hpl i hi;rw [hq] at he1;injection he1 with he1
    exact ⟨i, hget hq, ⟨hi, hz0 i⟩, by rw [he2, <- he1]⟩
   ·obtain ⟨e, he1, he3, he2⟩ := hpl i hi.1;have hp := hWp e he3;have hpf := pairF_self e hp;unfold Prop2 at hp;have hel : e.1 ∈ l /\ e.2 ∈ l := by
     have := (List.mem_filter.1 he3).2;unfold ownP at this;simpa using this
    refine ⟨e.1, e.2, hm.2 hel.1, hm.2 hel.2, by omega, ?_, ?_⟩
    ·rw [hpf];show mapHas (stT (withL l E).reverse) (keyE e) = true
     rw [stT_has, List.mem_reverse]; exact he3
    ·rw [hpf]; exact hget he1
   ·rw [if_pos (hm.2 hv)]; rfl
  rw [hF] at h;have hfin2 : (runSp 6 (withL l E).length l.length (startS E l)).1 = fin := by rw [<- hF]; exact hfin
  obtain ⟨s', κ, e1, sok, st2, sl2, ho⟩ := OutI.run_ (c := 6) (by omega) l.length (by omega) hs ht2 (by omega) ho0 h (by rw [hfin2]; exact Nat.le_refl _);rw [hfin2] at e1
  -- two are left, one thing is open
  obtain ⟨a, b, hab⟩ : ∃ a b, s'.left = [a, b] := by
   match hh : s'.left, sl2 with
   | [a, b], _ => exact ⟨a, b, rfl⟩
  have hne : a ≠ b := by have := sok.nl; rw [hab] at this; simpa using this
  have am : a ∈ s'.left := by rw [hab]; simp
  have bm : b ∈ s'.left := by rw [hab]; simp
  obtain ⟨c, hca, hcb⟩ : ∃ c : Int, a ≠ c /\ b ≠ c := ⟨a + b.natAbs + a.natAbs + 1, by omega, by omega⟩;obtain ⟨d, hd, _⟩ := (st2 c a b am bm hca hcb).first hne;have hdb : d = b := by
   have := sok.sym a am d hd;rw [hab] at this;simp at this;rcases this.1 with e | e
   ·exact absurd e this.2.1
   ·exact e
  rw [hdb] at hd;have hhas := (sok.th a am b bm hne).2 hd;obtain ⟨i0, hi1, hi2, hi3⟩ := ho.thg a b am bm hne hhas;have only : ∀ i, Go.Sh.opn κ i -> i = i0 := fun i hi => by
   obtain ⟨c, d, hc, hd, hcd, _, hg⟩ := ho.opn i hi;rw [hab] at hc hd;have hc : c = a \/ c = b := by simpa using hc
   have hd : d = a \/ d = b := by simpa using hd
   have : pairF c d = pairF a b := by rw [pairF_inj]; omega
   rw [this] at hg;omega
  have hrun : ckRun fin (ckStart (withL l E) fin.length) = some κ := by rw [e1]; exact (by have := ho.run; rw [e1] at this; exact this)
  have hpre := (run_pre (E := withL l E) fin.length 0 (by omega) (by omega) (pre_start (t := fin) hWp)).1 κ (by rw [List.drop_zero]; exact hrun);have hlen := hpre.len;have usd := hpre.usd;have rng := hpre.rng;rw [List.take_length] at usd rng;have hW0 : 0 < (withL l E).length \/ fin.length = 0 := by
   cases fin with
   | nil => exact .inr rfl
   | cons x t =>
    left
    have := rng x List.mem_cons_self;have h1 := (hpre.ck)
    -- the first node has two things that are edges
    refine Nat.pos_of_ne_zero fun e0 => ?_
    have hw : withL l E = [] := List.eq_nil_of_length_eq_zero e0;rw [hw] at hrun;simp only [ckRun] at hrun;have : ckStep (ckStart [] (x :: t).length) x = none := by
     unfold ckStep;rw [if_neg];rintro ⟨_, k1, _, k2, _⟩;have k2 : x.2.1 < (0 : Nat) := k2;omega
    rw [this] at hrun;simp at hrun
  have hi0 : i0 < (withL l E).length + fin.length := by have := hi2.1; omega
  have zero : cntN fin (i0 : Nat) = 0 := by have := usd i0 hi0; have := hi2.2; omega
  have ones : ∀ i, i < (withL l E).length + fin.length -> i ≠ i0 -> cntN fin (i : Nat) = 1 := fun i hi hne => by
   have hu := usd i hi;rcases Nat.lt_or_ge (cntN fin (i : Nat)) 1 with h0 | h1
   ·exact absurd (only i ⟨by omega, by omega⟩) hne
   ·omega
  have s1 := cnt_sum (N := (withL l E).length + fin.length) (t := fin) fun x hx => by have := rng x hx; omega
  have s2 := sum_but (f := fun i => cntN fin (i : Nat)) (N := (withL l E).length + fin.length) ones zero;rw [if_pos hi0] at s2;have hcount : fin.length + 1 = (withL l E).length := by
   have := s1.symm.trans s2;omega
  -- the last thing is the open one
  have hlast : i0 = (withL l E).length + fin.length - 1 := by
   have hz : cntN fin (((withL l E).length + fin.length - 1 : Nat) : Int) = 0 := by
    unfold cntN;rw [List.countP_eq_zero.2 fun x hx => ?_, List.countP_eq_zero.2 fun x hx => ?_]
    ·have := rng x hx; simp; omega
    ·have := rng x hx; simp; omega
   have hu := usd ((withL l E).length + fin.length - 1) (by omega);exact (only _ ⟨by omega, by omega⟩).symm
  have hcl : ckLast κ = pairF a b := by
   rw [<- hi3];unfold ckLast Ck.pol;rw [hlen, Int.toNat_natCast, hlast]
  rw [hfin];unfold ckF;rw [hT, decide_eq_true hcount];unfold ckB;rw [hrun];show decide (CkEnd l κ) = true
  rw [decide_eq_true_iff];intro v hv;rw [ho.mid v hv, hcl];have : v ∈ s'.left ↔ v = (pairF a b).1 \/ v = (pairF a b).2 := by
   rw [hab];rcases pairF_two a b with ⟨k1, k2⟩ | ⟨k1, k2⟩ <;> rw [k1, k2] <;> simp
   exact or_comm
  by_cases hvm : v ∈ s'.left
  ·rw [if_pos hvm, if_pos (this.1 hvm)]
  ·rw [if_neg hvm, if_neg (fun k => hvm (this.2 k))]
end Go.Sh
namespace Go.Proofs
open Go.RowKit Go.Shelf Go.Sh
attribute [local go_sem] Oper.semAt_some
theorem Tryz.infoE : (Tryz.prog.info? 37).map (fun i => (i.zero, i.size, i.bytes)) = some (some (.agg #[.int .i64 0, .int .i64 0]), 2, 16) := by kernel_rfl
def Tryz.renE (f : Int -> Int) (E : List Ed) : List Ed := E.filterMap fun p => if f p.1 ≥ 0 /\ f p.2 ≥ 0 then some (f p.1, f p.2) else none
theorem Tryz.renE_snoc (f : Int -> Int) (E : List Ed) (p : Ed) : Tryz.renE f (E ++ [p]) = Tryz.renE f E ++ (if f p.1 ≥ 0 /\ f p.2 ≥ 0 then [(f p.1, f p.2)] else []) := by
 unfold Tryz.renE
 rw [List.filterMap_append]
 congr 1
 by_cases h : f p.1 ≥ 0 /\ f p.2 ≥ 0 <;> simp [h]
theorem Tryz.renE_length (f : Int -> Int) (E : List Ed) : (Tryz.renE f E).length <= E.length := List.length_filterMap_le _ _
theorem Tryz.own_edges {w : World} {base : Nat} {x : Value} {L : List Ed} {e : TypeId} (h : w.ownsRow base e 2 x L.length (L.flatMap encE)) : ∃ A c, x = .slice A L.length c /\ FlatOk w noLab none A c 2 (edges L) := by
 rcases h.2 with ⟨rfl, h0⟩ | ⟨g, cap, cur, rfl, hb, hg, h1, h2, h3, h4⟩
 ·have : L = [] := List.eq_nil_of_length_eq_zero h0;subst this;exact ⟨none, 0, rfl, FlatOk.nil (by omega)⟩
 ·refine ⟨_, _, rfl, ⟨by rw [qeq]; exact h1, by omega, edges_even L, fun i row j x hi hj => ?_, fun h => by simp at h⟩⟩;refine ⟨_, rfl, rfl, ?_⟩;rw [Addr.add_plain, cells_at hg, Nat.zero_add];have hfl := flat_get (edges_even L) i j row hi (by have := edges_even L i row hi; have := (List.getElem?_eq_some_iff.1 hj).1; omega);have hil := (List.getElem?_eq_some_iff.1 hi).1;rw [qeq] at hil;have hjl := (List.getElem?_eq_some_iff.1 hj).1;have hr2 := edges_even L i row hi;have hcr : cellsR (edges L) = L.flatMap encE := by
   unfold cellsR edges
   clear h h1 h2 h3 h4 hb hg hi hj hfl hil hjl
   induction L with
   | nil => rfl
   | cons p L ih => simp only [List.map_cons, List.flatten_cons, List.map_append, List.flatMap_cons, ih]; rfl
  have h5 : (cur.toList.take (L.length * 2))[i * 2 + j]? = some x.val := by
   rw [h4, <- hcr, cellsR, List.getElem?_map, hfl, hj]; rfl
  rw [List.getElem?_take_of_lt (by omega)] at h5;rw [<- Array.getElem?_toList];exact h5
def Tryz.conF (hi lo x : Int) : Int := if x = hi then lo else if x > hi then x - 1 else x
end Go.Proofs
namespace Go.Proofs
open Go.RowKit Go.Shelf Go.Sh
attribute [local go_sem] Oper.semAt_some
theorem Tryz.wide_fn (f : Nat) : Fence.wide.fn f = True := rfl
attribute [local go_sem] Tryz.wide_fn
theorem Tryz.own_ge {w : World} {b k size : Nat} {e : TypeId} {v : Value} {xs : List Value} (h : w.ownsRow b e size v k xs) : ∀ g, v.ownBlock = some g -> b <= g := by
 intro g hg
 rcases h.2 with ⟨rfl, _⟩ | ⟨g', cap, cur, rfl, hb, _⟩
 ·simp [Value.ownBlock] at hg
 ·simp [Value.ownBlock] at hg; omega
theorem Tryz.cells_two (w : World) (x y : Value) (t : TypeId) : ∀ j u, [x, y][j]? = some u -> (w.alloc (.cells #[x, y] t)).cell? ((⟨w.heap.size, 0, none⟩ : Addr).add j) = some u := by
 intro j u hj
 rw [Addr.add_plain, World.cell?]
 show (match (w.alloc _).heap[w.heap.size]? with | some (.cells c _ _) => _ | _ => _) = _
 rw [World.alloc_heap_new, Nat.zero_add]
 show #[x, y][j]? = some u
 rw [<- hj]; simp
theorem Tryz.set2 {W : World} {b : Nat} {x y x' y' : Value} {T : TypeId} (h : W.heap[b]? = some (.cells #[x, y] T)) : ((W.setCell ⟨b, 0, none⟩ x').setCell ⟨b, 1, none⟩ y').heap[b]? = some (.cells #[x', y'] T) := by
 rw [Go.Sort.setCell_eq, Go.Sort.setCell_eq]
 simp [Go.Sort.mapBlock, Array.getElem?_modify, h, Go.Sort.onCells]
theorem Tryz.set2_size {W : World} {b : Nat} {x' y' : Value} : ((W.setCell ⟨b, 0, none⟩ x').setCell ⟨b, 1, none⟩ y').heap.size = W.heap.size := by simp [World.setCell]
theorem Tryz.set2_other {W : World} {b k : Nat} {x' y' : Value} (h : k ≠ b) : ((W.setCell ⟨b, 0, none⟩ x').setCell ⟨b, 1, none⟩ y').heap[k]? = W.heap[k]? := by
 rw [Below.heap_setCell _ _ _ _ h, Below.heap_setCell _ _ _ _ h]
theorem Tryz.tup2 {w : World} {lab : Nat -> Option Key} {n r : Int} {E : List Ed} {u : Value} (h : VOk w lab 0 (.tup [grO n E, .one (.s (.i .i64 r))]) u) : ∃ A c, u = .tuple #[.agg #[.int .i64 n, .slice A E.length c], .int .i64 r] /\ FlatOk w lab (some (1, none)) A c 2 (edges E) := by
 obtain ⟨us, rfl, hv⟩ := h
 obtain ⟨us⟩ := us
 match us, hv with
 | [], hv => exact hv.elim
 | [_], hv => exact hv.2.elim
 | _ :: _ :: _ :: _, hv => exact hv.2.2.elim
 | [ug, ue], hv =>
  obtain ⟨⟨cs, rfl, hc⟩, ⟨_, he⟩, _⟩ := hv;obtain ⟨cs⟩ := cs
  match cs, hc with
  | [], hc => exact hc.elim
  | [_], hc => exact hc.2.elim
  | _ :: _ :: _ :: _, hc => exact hc.2.2.elim
  | [a, b], hc =>
   obtain ⟨⟨_, h1⟩, ⟨x, h2, h3⟩, _⟩ := hc;have h1 : a = .int .i64 n := h1;have he : ue = .int .i64 r := he;rw [qeq] at h2;subst h1 he h2;exact ⟨x.A, x.c, rfl, h3⟩
theorem Tryz.tup2_ok {w : World} {lab : Nat -> Option Key} {n r : Int} {E : List Ed} {A : Option Addr} {c : Nat} (h : FlatOk w lab (some (1, none)) A c 2 (edges E)) : VOk w lab 0 (.tup [grO n E, .one (.s (.i .i64 r))]) (.tuple #[.agg #[.int .i64 n, .slice A E.length c], .int .i64 r]) :=
 ⟨_, rfl, ⟨_, rfl, ⟨⟨none, 0, fun _ => none, fun _ => 0⟩, rfl⟩, ⟨⟨A, c, fun _ => none, fun _ => 0⟩, by show Value.slice A E.length c = .slice A (edges E).length c; rw [qeq], h⟩, trivial⟩, ⟨⟨none, 0, fun _ => none, fun _ => 0⟩, rfl⟩, trivial⟩
end Go.Proofs
namespace Go.Proofs
open Go.RowKit Go.Shelf Go.Sh
attribute [local go_sem] Oper.semAt_some
theorem Tryz.wide_fn10 (f : Nat) : Fence.wide.fn f = True := rfl
attribute [local go_sem] Tryz.wide_fn10
def Tryz.indF (p : List Int) (x : Int) : Int := p.getD x.toNat 0 - 1
set_option maxHeartbeats 1000000 in
theorem Tryz.ind1_in (m : Nat) (B ab ao len cap k : Nat) (y : Int) (W : World) (hk : k < len) (hv : W.cell? ⟨B, 0, none⟩ = some (.slice (some ⟨ab, ao, none⟩) len cap)) (hy : W.cell? ⟨ab, ao + k * 1, none⟩ = some (.int .i64 y)) (hb : 0 <= y /\ y <= 1000000) :
  CallsIn Fence.wide m Tryz.prog 75 #[.int .i64 (k : Int), .pointer (some ⟨B, 0, none⟩)] W fun e W' => e = .returned (.int .i64 (y - 1)) /\ W' = W := by
 refine callsIn_of_wp Tryz.func75 rfl trivial ?_ rfl
 simp only [Tryz.ntmps75, List.size_toArray, List.length_cons, List.length_nil, Nat.reduceAdd, Nat.reduceSub, Array.replicate_succ, Array.replicate_zero, List.push_toArray, List.append_toArray, List.nil_append, List.cons_append]
 rw [Nat.mul_one] at hy
 gi_wp2
 go_ret
 have hw : wrap64 (y - 1) = y - 1 := by unfold wrap64; omega
 first
  | exact ⟨rfl, rfl⟩
  | (rw [hw]; exact ⟨rfl, rfl⟩)
set_option maxRecDepth 100000 in
set_option maxHeartbeats 2000000 in
theorem Tryz.renInd_in (B : Nat) (f : Int -> Int) (N n : Int) (E : List Ed) (A : Option Addr) (cap : Nat) (w : World) (hE : E.length <= 4000) (hn : n <= 1000) (hr : ∀ p ∈ E, okE n p) (h : FlatOk w noLab none A cap 2 (edges E))
  (hcl : ∀ (m : Nat) (x : Int) (W : World), 0 <= x /\ x < n -> Below w.heap.size w W -> CallsIn Fence.wide m Tryz.prog 75 #[.int .i64 x, .pointer (some ⟨B, 0, none⟩)] W fun e W' => e = .returned (.int .i64 (f x)) /\ W' = W)
  (R : (Int × List Ed) × Int) (hR : R = normF N (Tryz.renE f E)) :
  CallsIn Fence.wide 8 Tryz.prog 54 #[.agg #[.int .i64 N, .func (.func 75) #[] #[.pointer (some ⟨B, 0, none⟩)]], .agg #[.int .i64 n, .slice A E.length cap]] w fun e W' =>
   ∃ u lab, e = .returned u /\ Below w.heap.size w W' /\ (∀ b k, lab b = some k -> w.heap.size <= b /\ b < W'.heap.size) /\ VOk W' lab 0 (.tup [grO R.1.1 R.1.2, .one (.s (.i .i64 R.2))]) u := by
 obtain ⟨i0, hi, hz0, hz1, hz2⟩ := info_parts Tryz.infoE
 obtain ⟨⟨n1, E1⟩, r1⟩ := R
 obtain ⟨w1, hw1⟩ : ∃ w1, w.alloc (.cells #[.int .i64 N, .func (.func 75) #[] #[.pointer (some ⟨B, 0, none⟩)]] 91) = w1 := ⟨_, rfl⟩
 obtain ⟨w2, hw2⟩ : ∃ w2, w1.alloc (.cells #[.int .i64 n, .slice A E.length cap] 27) = w2 := ⟨_, rfl⟩
 obtain ⟨w3, hw3⟩ : ∃ w3, w2.alloc (.cells #[.int .i64 0, .slice none 0 0] 27) = w3 := ⟨_, rfl⟩
 have s1 : w1.heap.size = w.heap.size + 1 := by rw [<- hw1]; simp
 have s2 : w2.heap.size = w.heap.size + 2 := by rw [<- hw2]; simp [s1]
 have s3 : w3.heap.size = w.heap.size + 3 := by rw [<- hw3]; simp [s2]
 have b1 : Below w.heap.size w w1 := by rw [<- hw1]; exact (Below.refl _ w).alloc (Nat.le_refl _) _
 have b2 : Below w.heap.size w w2 := by rw [<- hw2]; exact b1.alloc (by omega) _
 have b3 : Below w.heap.size w w3 := by rw [<- hw3]; exact b2.alloc (by omega) _
 have g1 : w3.heap[w.heap.size]? = some (.cells #[.int .i64 N, .func (.func 75) #[] #[.pointer (some ⟨B, 0, none⟩)]] 91) := by
  rw [<- hw3, Below.heap_alloc _ _ _ (by omega), <- hw2, Below.heap_alloc _ _ _ (by omega), <- hw1]; exact World.alloc_heap_new _ _
 have g2 : w3.heap[w.heap.size + 1]? = some (.cells #[.int .i64 n, .slice A E.length cap] 27) := by
  rw [<- hw3, Below.heap_alloc _ _ _ (by omega), <- hw2, <- s1]; exact World.alloc_heap_new _ _
 have g3 : w3.heap[w.heap.size + 2]? = some (.cells #[.int .i64 0, .slice none 0 0] 27) := by
  rw [<- hw3, <- s2]; exact World.alloc_heap_new _ _
 have c10 : w3.cell? ⟨w.heap.size, 0, none⟩ = some (.int .i64 N) := by simp [World.cell?, g1]
 have c11 : w3.cell? ⟨w.heap.size, 1, none⟩ = some (.func (.func 75) #[] #[.pointer (some ⟨B, 0, none⟩)]) := by simp [World.cell?, g1]
 have c21 : w3.cell? ⟨w.heap.size + 1, 1, none⟩ = some (.slice A E.length cap) := by simp [World.cell?, g2]
 refine callsIn_of_wp Tryz.func54 rfl trivial ?_ rfl
 simp only [Tryz.ntmps54, List.size_toArray, List.length_cons, List.length_nil, Nat.reduceAdd, Nat.reduceSub, Array.replicate_succ, Array.replicate_zero, List.push_toArray, List.append_toArray, List.nil_append, List.cons_append]
 have hEd := Tryz.eds_of h
 gi_wp2
 gi_loopw [6, 14] (fun lv i wr => ∃ k : Nat, k <= E.length /\ i = .int .i64 k /\ wr.ownsRow (w.heap.size + 3) 37 2 lv (Tryz.renE f (E.take k)).length ((Tryz.renE f (E.take k)).flatMap encE) /\ Below (w.heap.size + 3) w3 wr)
  (fun _ i _ => E.length - (intOf i).toNat)
 case atStart => exact ⟨0, Nat.zero_le _, rfl, World.ownsRow_nil _ _ _ _, Below.refl _ _⟩
 case round =>
  obtain ⟨k, hk, rfl, hrow, hB⟩ := hrel;have hsz := hB.size;rw [s3] at hsz;have hBw : Below w.heap.size w wr := b3.trans (hB.mono (by omega));have m1 : wr.cell? ⟨w.heap.size, 0, none⟩ = some (.int .i64 N) := (hB.cell (p := ⟨w.heap.size, 0, none⟩) (by show w.heap.size < _; omega)).trans c10;have m2 : wr.cell? ⟨w.heap.size, 1, none⟩ = some (.func (.func 75) #[] #[.pointer (some ⟨B, 0, none⟩)]) := (hB.cell (p := ⟨w.heap.size, 1, none⟩) (by show w.heap.size < _; omega)).trans c11;by_cases hlt : k < E.length
  ·obtain ⟨x, hx⟩ : ∃ x, E[k]? = some x := ⟨_, List.getElem?_eq_getElem hlt⟩;have hok := hr x (List.mem_of_getElem? hx);obtain ⟨xa, xb⟩ := x;have htk : E.take (k + 1) = E.take k ++ [(xa, xb)] := by
    rw [List.take_succ_eq_append_getElem hlt];rw [List.getElem?_eq_getElem hlt] at hx;injection hx with hx
    rw [hx]
   have hst := Tryz.renE_snoc f (E.take k) (xa, xb);rw [<- htk] at hst;unfold okE at hok;dsimp only at hok hst;rcases hEd with ⟨rfl, _⟩ | ⟨ab, ao, c, e, hb, hcs⟩
   ·simp at hlt
   injection e with e1 e2 e3
   subst e1;subst e3;have hcx1 : wr.cell? ⟨ab, ao + k * 2, none⟩ = some (.int .i64 xa) := (hBw.cell (p := ⟨ab, ao + k * 2, none⟩) hb).trans (hcs k _ hx).1;have hcx2 : wr.cell? ⟨ab, ao + k * 2 + 1, none⟩ = some (.int .i64 xb) := (hBw.cell (p := ⟨ab, ao + k * 2 + 1, none⟩) hb).trans (hcs k _ hx).2;have hB5 : Below (w.heap.size + 3) w3 (wr.alloc (.cells #[.int .i64 xa, .int .i64 xb] 37)) := hB.alloc (by omega) _;have hBw5 : Below w.heap.size w (wr.alloc (.cells #[.int .i64 xa, .int .i64 xb] 37)) := hBw.alloc (by omega) _;have n2 : (wr.alloc (.cells #[.int .i64 xa, .int .i64 xb] 37)).cell? ⟨w.heap.size, 1, none⟩ = some (.func (.func 75) #[] #[.pointer (some ⟨B, 0, none⟩)]) := (hB5.cell (p := ⟨w.heap.size, 1, none⟩) (by show w.heap.size < _; omega)).trans c11;have hrow5 := hrow.alloc (.cells #[.int .i64 xa, .int .i64 xb] 37);have x0 : (wr.alloc (.cells #[.int .i64 xa, .int .i64 xb] 37)).cell? ⟨wr.heap.size, 0, none⟩ = some (.int .i64 xa) := by rw [World.cell?]; show (match (wr.alloc _).heap[wr.heap.size]? with | some (.cells c _ _) => _ | _ => _) = _; rw [World.alloc_heap_new]; rfl
   have x1 : (wr.alloc (.cells #[.int .i64 xa, .int .i64 xb] 37)).cell? ⟨wr.heap.size, 1, none⟩ = some (.int .i64 xb) := by rw [World.cell?]; show (match (wr.alloc _).heap[wr.heap.size]? with | some (.cells c _ _) => _ | _ => _) = _; rw [World.alloc_heap_new]; rfl
   have hdr : ∀ q, Below w.heap.size w ((wr.alloc (.cells #[.int .i64 xa, .int .i64 xb] 37)).drewN q) := fun q => ⟨hBw5.os, hBw5.tape, hBw5.output, hBw5.size, hBw5.block⟩
   gi_wp2
   have hxa : 0 <= xa /\ xa < n := by omega
   have hxb : 0 <= xb /\ xb < n := by omega
   gi_quiet ((gi_at_call 75; exact CallsIn.quiet_of_same (hcl _ _ _ (by first | exact hxa | exact hxb) (hdr _))))
   have hB6 : Below (w.heap.size + 3) w3 ((wr.alloc (.cells #[.int .i64 xa, .int .i64 xb] 37)).drewN nq) := ⟨hB5.os, hB5.tape, hB5.output, hB5.size, hB5.block⟩;have hrow6 : ((wr.alloc (.cells #[.int .i64 xa, .int .i64 xb] 37)).drewN nq).ownsRow (w.heap.size + 3) 37 2 u6 (Tryz.renE f (E.take k)).length ((Tryz.renE f (E.take k)).flatMap encE) := hrow5;generalize (wr.alloc (.cells #[.int .i64 xa, .int .i64 xb] 37)).drewN nq = W6 at hB6 hrow6 ⊢
   have hln := Tryz.renE_length f (E.take k);rw [List.length_take] at hln;have hs6 := hB6.size;have hmx : (Tryz.renE f (E.take k)).length + 1 <= maxLen := by unfold maxLen; omega
   have hm8 : ((Tryz.renE f (E.take k)).length + 1) * 16 <= 140737488355328 := by omega
   have hge := Tryz.own_ge hrow6;have hsA : w.heap.size + 3 <= (W6.alloc (.cells #[.int .i64 (f xa), .int .i64 (f xb)] 37)).heap.size := by rw [World.size_alloc]; omega
   by_cases h1 : 0 <= f xa
   ·by_cases h2 : 0 <= f xb
    ·rw [if_pos ⟨h1, h2⟩] at hst
     gi_wp2_with (gi_at_builtin; refine wpListIn_append_own _ rfl _ _ 22 rfl (w.heap.size + 3) 37 i0 _ 2 16 Tryz.underlying22 hi hz0 hz1 hz2 rfl (by decide) _ _ _ rfl (hrow6.alloc _) ⟨W6.heap.size, 0, none⟩ 1 1 [.int .i64 (f xa), .int .i64 (f xb)] rfl rfl (Tryz.cells_two _ _ _ _) (by simp [Value.oneCell']) hmx hm8 hsA ?_; intro v' w1' hown' hgrow _)
     have hr7 : w1'.ownsRow (w.heap.size + 3) 37 2 v' (Tryz.renE f (E.take (k + 1))).length ((Tryz.renE f (E.take (k + 1))).flatMap encE) := by
      rw [hst, List.length_append, List.flatMap_append];simpa [encE] using hown'
     have hB7 : Below (w.heap.size + 3) w3 w1' := (hB6.alloc (by omega) _).grown hgrow hsA hge
     go_roundw
     case rel => exact ⟨k + 1, by omega, by simp, hr7, hB7⟩
     case measure => simp [intOf]; omega
    ·rw [if_neg (fun h => h2 h.2), List.append_nil] at hst
     gi_wp2
     go_roundw
     case rel => exact ⟨k + 1, by omega, by simp, by rw [hst]; exact hrow6, hB6⟩
     case measure => simp [intOf]; omega
   ·rw [if_neg (fun h => h1 h.1), List.append_nil] at hst
    gi_wp2
    go_roundw
    case rel => exact ⟨k + 1, by omega, by simp, by rw [hst]; exact hrow6, hB6⟩
    case measure => simp [intOf]; omega
  ·obtain rfl : k = E.length := by omega
   rw [List.take_length] at hrow;obtain ⟨lv, lc, rfl, hfl⟩ := Tryz.own_edges hrow;have hll := Tryz.renE_length f E;have hNF := NormC_at (n := N) (l := Tryz.renE f E) (by omega);have hcall := NormG_p _ _ _ hNF wr #[.int .i64 N, .slice lv (Tryz.renE f E).length lc] ⟨⟨⟨none, 0, fun _ => none, fun _ => 0⟩, rfl⟩, ⟨⟨lv, lc, fun _ => none, fun _ => 0⟩, by show Value.slice lv (Tryz.renE f E).length lc = .slice lv (edges (Tryz.renE f E)).length lc; rw [qeq], hfl⟩, trivial⟩;rw [<- hR] at hcall
   clear hR hNF
   have g3' : wr.heap[w.heap.size + 2]? = some (.cells #[.int .i64 0, .slice none 0 0] 27) := (hB.block _ (by omega)).trans g3;have hlt2 : w.heap.size + 2 < wr.heap.size := by omega
   gi_wp2
   gi_at_call 77
   refine (callsIn_wide.2 hcall).mono ?_;rintro e W7 ⟨u, lab, rfl, hf7, hlab, hu⟩;obtain ⟨ra, rc, rfl, hfl7⟩ := Tryz.tup2 hu;have g37 : W7.heap[w.heap.size + 2]? = some (.cells #[.int .i64 0, .slice none 0 0] 27) := (hf7.block _ hlt2 (fun h => h)).trans g3';have q0 : W7.cell? ⟨w.heap.size + 2, 0, none⟩ = some (.int .i64 0) := by simp [World.cell?, g37]
   have q1 : W7.cell? ⟨w.heap.size + 2, 1, none⟩ = some (.slice none 0 0) := by simp [World.cell?, g37]
   have z0 : W7.frozen? ⟨w.heap.size + 2, 0, none⟩ = false := by simp [World.frozen?, g37]
   have z1 : W7.frozen? ⟨w.heap.size + 2, 1, none⟩ = false := by simp [World.frozen?, g37]
   gi_wp2
   have g38 := Tryz.set2 (x' := .int .i64 n1) (y' := .slice ra E1.length rc) g37;have hz8 := Tryz.set2_size (W := W7) (b := w.heap.size + 2) (x' := .int .i64 n1) (y' := .slice ra E1.length rc);have ho8 : ∀ k, k ≠ w.heap.size + 2 -> _ := fun k hk => Tryz.set2_other (W := W7) (x' := .int .i64 n1) (y' := .slice ra E1.length rc) hk
   have hB7 : Below w.heap.size w ((W7.setCell ⟨w.heap.size + 2, 0, none⟩ (.int .i64 n1)).setCell ⟨w.heap.size + 2, 1, none⟩ (.slice ra E1.length rc)) :=
    ((hBw.trans (hf7.below.mono (by omega))).setCell (p := ⟨w.heap.size + 2, 0, none⟩) (by show w.heap.size <= w.heap.size + 2; omega) _).setCell (p := ⟨w.heap.size + 2, 1, none⟩) (by show w.heap.size <= w.heap.size + 2; omega) _
   generalize (W7.setCell ⟨w.heap.size + 2, 0, none⟩ (.int .i64 n1)).setCell ⟨w.heap.size + 2, 1, none⟩ (.slice ra E1.length rc) = W8 at g38 hz8 ho8 hB7 ⊢
   have d0 : W8.cell? ⟨w.heap.size + 2, 0, none⟩ = some (.int .i64 n1) := by simp [World.cell?, g38]
   have d1 : W8.cell? ⟨w.heap.size + 2, 1, none⟩ = some (.slice ra E1.length rc) := by simp [World.cell?, g38]
   refine bodyPost_ret (v := .tuple #[.agg #[.int .i64 n1, .slice ra E1.length rc], .int .i64 r1]) ?_ rfl ?_
   ·simp [results, Tryz.f54, go_sem, d0, d1]
   ·refine ⟨_, lab, rfl, hB7, fun b k hk => ⟨by have := (hlab b k hk).1; omega, by rw [hz8]; exact (hlab b k hk).2⟩, Tryz.tup2_ok (hfl7.mono id fun b hb ho => ⟨ho, ho8 b ?_⟩)⟩;have := (hlab b _ ho).1;omega
end Go.Proofs
namespace Go.Sh
open Go.Proofs Go.RowKit Go.Shelf
def unE (F : Flat) : List Ed := F.map fun r => match r with
 | [.i _ x, .i _ y] => (x, y)
 | _ => (0, 0)
theorem unE_edges (E : List Ed) : unE (edges E) = E := by
 unfold unE edges
 rw [List.map_map]
 conv => rhs; rw [<- List.map_id E]
 exact List.map_congr_left fun x _ => rfl
def indR (N : Int) (p : List Int) (E : List Ed) : (Int × List Ed) × Int := normF N (Tryz.renE (Tryz.indF p) E)
def IndP (N n : Int) (pl ed : Flat) : Prop := ∃ (p : List Int) (E : List Ed), pl = ints p /\ ed = edges E /\ E.length <= 4000 /\ n <= 1000 /\ (∀ e ∈ E, okE n e) /\ (p.length : Int) = n /\ ∀ x ∈ p, 0 <= x /\ x <= 1000000
def indV (N n : Int) (pl ed : Flat) : Int × Flat × Int := ((indR N (unI pl) (unE ed)).1.1, edges (indR N (unI pl) (unE ed)).1.2, (indR N (unI pl) (unE ed)).2)
theorem Ren_call : RenCall Tryz.prog 54 75 IndP indV := by
 refine ⟨⟨_, Tryz.func54, by decide, by simp [Tryz.f54]⟩, ?_⟩
 rintro N n pl ed ⟨p, E, rfl, rfl, hE, hn, hok, hpn, hpb⟩ w b arr T A cap A2 cap2 hh ha hF hF2
 have hbl : b < w.heap.size := (Array.getElem?_eq_some_iff.1 hh).1
 have hc : w.cell? ⟨b, 0, none⟩ = some (.slice A p.length cap) := by
  rw [qiq] at ha;rw [cells_at hh, <- Array.getElem?_toList, ha]; rfl
 have hpt : ∀ x : Int, 0 <= x -> x < n -> ∃ ab ao, A = some ⟨ab, ao, none⟩ /\ ab < w.heap.size /\ w.cell? ⟨ab, ao + x.toNat * 1, none⟩ = some (.int .i64 (p.getD x.toNat 0)) := fun x h0 h1 => by
  have hx : x.toNat < p.length := by omega
  obtain ⟨a, rfl, _, h0⟩ := hF.cell x.toNat [.i .i64 (p.getD x.toNat 0)] 0 (.i .i64 (p.getD x.toNat 0)) (qhq (by rw [List.getD_eq_getElem?_getD, List.getElem?_eq_getElem hx]; rfl)) rfl;have h0 : w.cell? (a.add (x.toNat * 1 + 0)) = some (.int .i64 (p.getD x.toNat 0)) := h0;obtain ⟨a', ea, _, h00⟩ := hF.cell 0 [.i .i64 (p.getD 0 0)] 0 (.i .i64 (p.getD 0 0)) (qhq (by rw [List.getD_eq_getElem?_getD, List.getElem?_eq_getElem (by omega)]; rfl)) rfl;injection ea with ea
  subst ea;have h00 : w.cell? a = some (.int .i64 (p.getD 0 0)) := h00;obtain ⟨ab, ao, sp⟩ := a;have hsp : sp = none := by
   cases sp with
   | none => rfl
   | some s =>
    simp only [World.cell?] at h00;split at h00 <;> simp at h00
  subst hsp;rw [Addr.add_plain, Nat.add_zero] at h0;refine ⟨ab, ao, rfl, ?_, h0⟩;simp only [World.cell?] at h0;by_cases hp : ab < w.heap.size
  ·exact hp
  ·rw [Array.getElem?_eq_none (by omega)] at h0;simp at h0
 rw [qeq]
 have hcall := Tryz.renInd_in b (Tryz.indF p) N n E A2 cap2 w hE hn hok hF2 (fun m x W hx hW => by
  obtain ⟨ab, ao, hA, hab, hcell⟩ := hpt x hx.1 hx.2;have hy : 0 <= p.getD x.toNat 0 /\ p.getD x.toNat 0 <= 1000000 := by
   rw [List.getD_eq_getElem?_getD, List.getElem?_eq_getElem (by omega)];exact hpb _ (List.getElem_mem _)
  have := Tryz.ind1_in m b ab ao p.length cap x.toNat (p.getD x.toNat 0) W (by omega) ((hW.cell (p := ⟨b, 0, none⟩) hbl).trans (by rw [hc, hA])) ((hW.cell (p := ⟨ab, ao + x.toNat * 1, none⟩) hab).trans hcell) hy;rw [Int.toNat_of_nonneg hx.1] at this;exact this) _ rfl
 refine ((callsIn_wide (n := 8)).1 hcall).mono ?_
 rintro e w' ⟨u, lab, rfl, hB, hlab, hV⟩
 refine ⟨u, lab, rfl, ⟨hB.os, .of hB.tape, hB.output, hB.size, fun k h _ => hB.block k h⟩, hlab, ?_⟩
 unfold indV indR
 rw [unI_ints, unE_edges]
 exact hV
end Go.Sh
namespace Go.Proofs
open Go.RowKit Go.Shelf Go.Sh
attribute [local go_sem] Oper.semAt_some
theorem Tryz.wide_fn2 (f : Nat) : Fence.wide.fn f = True := rfl
attribute [local go_sem] Tryz.wide_fn2
end Go.Proofs
namespace Go.Sh
open Go.Proofs Go.RowKit Go.Shelf
end Go.Sh
namespace Go.Sh
open Go.Proofs
def indG (n : Int) (E : List Ed) (l : List Int) : (Int × List Ed) × Int :=
 if RightP n E then (if ∀ v ∈ l, 0 <= v /\ v < n then (if l.Nodup then indR (l.length : Nat) (placeF n.toNat l) E else ((0, []), 1)) else ((0, []), 4)) else ((0, []), 1)
noncomputable def IndC : Con := conP 2 (fun a : (Int × List Ed) × List Int => a.2.length <= 1000) (fun a => [grV a.1.1 a.1.2, .one (.flat false 1 (ints a.2))]) (fun a => .tup [grO (indG a.1.1 a.1.2 a.2).1.1 (indG a.1.1 a.1.2 a.2).1.2, .one (.s (.i .i64 (indG a.1.1 a.1.2 a.2).2))])
theorem IndC_at {n : Int} {E : List Ed} {l : List Int} (h : l.length <= 1000) : IndC.F [grV n E, .one (.flat false 1 (ints l))] = some (.tup [grO (indG n E l).1.1 (indG n E l).1.2, .one (.s (.i .i64 (indG n E l).2))], []) :=
 conP_at (a := ((n, E), l)) (fun x y _ _ h => by
  obtain ⟨⟨n, E⟩, l⟩ := x;obtain ⟨⟨n', E'⟩, l'⟩ := y;simp at h;obtain ⟨h1, h2⟩ := h;obtain ⟨rfl, rfl⟩ := grV_inj h1;rw [ints_inj h2]) h
noncomputable def XInd : Cx := { Γ := [(49, RightC)], T := T, nt := Tryz.f29.ntmps, ext := [54], base := renCR 54 75 IndP indV }
theorem XInd_s : Sound Tryz.prog T XInd.Γ := sound_cons RightG_ok sound_nil
theorem XInd_ok : CrOk Tryz.prog (callAt 1 XInd) := callAt_ok hmix hT XInd_s inl_nil (ren_ok Ren_call) 1
set_option maxRecDepth 200000 in
set_option maxHeartbeats 4000000 in
theorem Ind_ok : SoundC Tryz.prog T 29 IndC := by
 refine sound_con (X := XInd) (cr := callAt 1 XInd) XInd_ok hmix hT XInd_s Tryz.func29 (by rfl) (by rfl) (by rfl) (by rfl) 3 ?_
 rintro ⟨⟨n, E⟩, l⟩ hl
 dsimp only at hl ⊢
 refine two_le ?_
 refine Call.by _ _ (RightC_at n E) ?_
 refine Pick.by (fun h1 => ?_) (fun h1 => ?_)
 ·have h1 : ¬ RightP n E := by have h1 : (!decide (RightP n E)) = true := h1; simpa using h1
  rw [show indG n E l = ((0, []), 1) from if_neg h1];refine ⟨rfl, ?_⟩
  (repeat' first|exact rfl|exact trivial|apply And.intro)
 have h1 : RightP n E := by have h1 : (!decide (RightP n E)) = false := h1; simpa using h1
 have hn0 := h1.1
 have hn1 := h1.2.1
 have hel := h1.2.2.1
 have hll := qiq l
 have hI : indG n E l = if ∀ v ∈ l, 0 <= v /\ v < n then (if l.Nodup then indR (l.length : Nat) (placeF n.toNat l) E else ((0, []), 1)) else ((0, []), 4) := if_pos h1
 refine Pick.T (beq_self_eq_true _) ?_
 refine Idx.by n.toNat (by omega) (by omega) ?_
 refine LoopP.intro (α := Nat × List Int × Bool) (fun a => a.1 <= l.length /\ a.2.1.length = n.toNat /\ (∀ v ∈ l.take a.1, 0 <= v /\ v < n) /\ (∀ v : Int, 0 <= v -> v < n -> 0 <= a.2.1.getD v.toNat 0 /\ a.2.1.getD v.toNat 0 <= 1000 /\ (0 < a.2.1.getD v.toNat 0 ↔ v ∈ l.take a.1)) /\ (a.2.2 = false -> (l.take a.1).Nodup /\ a.2.1 = placeF n.toNat (l.take a.1)) /\ (a.2.2 = true -> ¬ (l.take a.1).Nodup)) (fun a => l.length - a.1)
  (fun a => [(1, .sl 0 none none), (2, .ptr 1 0), (4, .ptr 3 0), (6, .ptr 4 0), (7, .s (.b a.2.2)), (17, .sl 0 none none), (18, .s (.i .i64 l.length)), (19, .s (.i .i64 a.1))])
  (fun a => [(0, some (.flat false 1 (ints l))), (1, some (.blk [.s (.i .i64 n), .sl 2 none none])), (2, some (.flat false 2 (edges E))), (3, some (.blk [.s (.i .i64 0), .nils])), (4, some (.blk [.sl 5 none none])), (5, some (.flat true 1 (ints a.2.1)))]) 6 (0, placeF n.toNat [], false)
  ⟨by omega, placeF_len, by simp, fun v h0 h1 => by rw [placeF_at h0 (by omega)]; simp, fun _ => ⟨by simp, by simp⟩, by simp⟩ (by refine Weak.bw (sg 0 [_,_,_,_,_,_]) (by ((repeat' first|exact rfl|exact trivial|apply And.intro) <;> (repeat' first|exact rfl|exact trivial|apply And.intro)); all_goals ((first|exact sc_eq (by rw [hll]) | exact placeF_zero.symm | exact placeF_zero)))) ?_
 rintro ⟨i, P, tw⟩ ⟨hi, hP, hrg, hpv, hno, hyes⟩
 dsimp only at hi hP hrg hpv hno hyes ⊢
 have hPl : (ints P).length = n.toNat := by rw [qiq, hP]
 refine Pick.by (fun hc => ?_) (fun hc => ?_)
 ·have hlt : i < l.length := by have := of_decide_eq_true hc; omega
  obtain ⟨v, hv⟩ : ∃ v, l[i] = v := ⟨_, rfl⟩;have hli : l[i]? = some v := by rw [qEq hlt, hv]
  have hvm := qMq hli;have hts : l.take (i + 1) = l.take i ++ [v] := by rw [List.take_add_one, hli]; rfl
  refine Idx.by i rfl (by omega) ?_;refine Look.by _ (qhq hli) ?_;refine Pick.by (fun c1 => ?_) (fun c1 => ?_)
  ·have c1 : v < 0 := of_decide_eq_true c1;rw [show indG n E l = ((0, []), 4) by rw [hI, if_neg (fun h => by have := h v hvm; omega)]];refine ⟨rfl, ?_⟩
   (repeat' first|exact rfl|exact trivial|apply And.intro)
  have c1 : ¬ v < 0 := of_decide_eq_false c1;refine Pick.by (fun c2 => ?_) (fun c2 => ?_)
  ·have c2 : v ≥ n := of_decide_eq_true c2;rw [show indG n E l = ((0, []), 4) by rw [hI, if_neg (fun h => by have := h v hvm; omega)]];refine ⟨rfl, ?_⟩
   (repeat' first|exact rfl|exact trivial|apply And.intro)
  have c2 : ¬ v ≥ n := of_decide_eq_false c2;have hvg := hpv v (by omega) (by omega);have hPg : (ints P)[v.toNat]? = some [.i .i64 (P.getD v.toNat 0)] := qhq (by rw [qDq, qEq (by omega)]; rfl);have hset : ints (P.set v.toNat ((i : Int) + 1)) = (ints P).set v.toNat [.i .i64 ((i : Int) + 1)] := ints_set ..;have hrg2 : ∀ u ∈ l.take (i + 1), 0 <= u /\ u < n := fun u hu => by
   rw [hts] at hu;rcases List.mem_append.1 hu with hu | hu
   ·exact hrg u hu
   ·rw [List.mem_singleton] at hu; subst hu; omega
  have hpv2 : ∀ u : Int, 0 <= u -> u < n -> 0 <= (P.set v.toNat ((i : Int) + 1)).getD u.toNat 0 /\ (P.set v.toNat ((i : Int) + 1)).getD u.toNat 0 <= 1000 /\ (0 < (P.set v.toNat ((i : Int) + 1)).getD u.toNat 0 ↔ u ∈ l.take (i + 1)) := fun u h0 h2 => by
   rw [hts, List.mem_append, List.mem_singleton, qDq, List.getElem?_set];by_cases e : v.toNat = u.toNat
   ·rw [if_pos e, if_pos (by omega)];have : u = v := by omega
    refine ⟨by show (0 : Int) <= (i : Int) + 1; omega, by show (i : Int) + 1 <= 1000; omega, fun _ => .inr this, fun _ => by show (0 : Int) < (i : Int) + 1; omega⟩
   ·rw [if_neg e, <- qDq];have hu := hpv u h0 h2;have : u ≠ v := fun h => e (by rw [h])
    exact ⟨hu.1, hu.2.1, by rw [hu.2.2]; exact ⟨.inl, fun h => h.resolve_right this⟩⟩
  cases tw with
  | true =>
   have hd := hyes rfl;refine Pick.n ?_;refine Idx.by v.toNat (by omega) (by omega) ?_;refine Look.by _ hPg ?_;refine Pick.n ?_;refine Next.by (i + 1, P.set v.toNat ((i : Int) + 1), true) ⟨by show i + 1 <= _; omega, by show (List.set _ _ _).length = _; rw [List.length_set]; exact hP, hrg2, hpv2, by simp, fun _ => fun h => hd (h.sublist (List.take_sublist_take_left (by omega)))⟩ (by show l.length - (i + 1) < l.length - i; omega) (by refine Weak.bw (sg 0 [_,_,_,_,_,_]) (by ((repeat' first|exact rfl|exact trivial|apply And.intro) <;> (repeat' first|exact rfl|exact trivial|apply And.intro)); all_goals ((first|exact sc_eq (by show ((i + 1 : Nat) : Int) = _; omega) | exact hset))))
  | false =>
   obtain ⟨hd, hPe⟩ := hno rfl;refine Idx.by v.toNat (by omega) (by omega) ?_;refine Look.by _ hPg ?_;refine Pick.n ?_;refine Idx.by v.toNat (by omega) (by omega) ?_;refine Look.by _ hPg ?_;refine Pick.n ?_;by_cases c3 : P.getD v.toNat 0 > 0
   ·have hm := hvg.2.2.1 c3;have hnd : ¬ (l.take (i + 1)).Nodup := fun h => by
     rw [hts, List.nodup_append] at h;exact h.2.2 v hm v (by simp) rfl
    refine Next.by (i + 1, P.set v.toNat ((i : Int) + 1), true) ⟨by show i + 1 <= _; omega, by show (List.set _ _ _).length = _; rw [List.length_set]; exact hP, hrg2, hpv2, by simp, fun _ => hnd⟩ (by show l.length - (i + 1) < l.length - i; omega) (by refine Weak.bw (sg 0 [_,_,_,_,_,_]) (by ((repeat' first|exact rfl|exact trivial|apply And.intro) <;> (repeat' first|exact rfl|exact trivial|apply And.intro)); all_goals ((first|exact sc_eq (by show ((i + 1 : Nat) : Int) = _; omega) | exact hset | (rw [decide_eq_true c3]; rfl)))))
   ·have hm : v ∉ l.take i := fun h => c3 (hvg.2.2.2 h)
    have hnd : (l.take (i + 1)).Nodup := by
     rw [hts];refine List.nodup_append.2 ⟨hd, by simp, fun a ha b hb => ?_⟩;simp at hb;subst hb;rintro rfl;exact hm ha
    have hpe2 : P.set v.toNat ((i : Int) + 1) = placeF n.toNat (l.take (i + 1)) := by
     rw [hts, placeF_snoc (by omega) (by omega) hm, <- hPe, List.length_take, show min i l.length = i by omega]
    refine Next.by (i + 1, P.set v.toNat ((i : Int) + 1), false) ⟨by show i + 1 <= _; omega, by show (List.set _ _ _).length = _; rw [List.length_set]; exact hP, hrg2, hpv2, fun _ => ⟨hnd, hpe2⟩, by simp⟩ (by show l.length - (i + 1) < l.length - i; omega) (by refine Weak.bw (sg 0 [_,_,_,_,_,_]) (by ((repeat' first|exact rfl|exact trivial|apply And.intro) <;> (repeat' first|exact rfl|exact trivial|apply And.intro)); all_goals ((first|exact sc_eq (by show ((i + 1 : Nat) : Int) = _; omega) | exact hset | (rw [decide_eq_false c3]; rfl)))))
 have hil : i = l.length := by have := of_decide_eq_false hc; omega
 subst hil
 rw [List.take_length] at hrg hpv hno hyes
 rw [if_pos hrg] at hI
 cases tw with
 | true =>
  rw [show indG n E l = ((0, []), 1) by rw [hI, if_neg (hyes rfl)]];refine ⟨rfl, ?_⟩
  (repeat' first|exact rfl|exact trivial|apply And.intro)
 | false =>
  obtain ⟨hd, hPe⟩ := hno rfl;rw [if_pos hd] at hI;have hV : indV ((ints l).length : Nat) n (ints P) (edges E) = ((indG n E l).1.1, edges (indG n E l).1.2, (indG n E l).2) := by
   unfold indV;rw [hll, unI_ints, unE_edges, hPe, <- hI]
  refine ⟨rfl, rfl, _, _, _, _, _, .inl rfl, rfl, rfl, ⟨P, E, rfl, rfl, hel, hn1, h1.2.2.2.1, by omega, fun x hx => ?_⟩, ?_⟩
  ·obtain ⟨j, hj, rfl⟩ := List.getElem_of_mem hx;have := hpv (j : Int) (by omega) (by omega);rw [Int.toNat_natCast, qDq, qEq hj] at this;have h2 : 0 <= P[j] /\ P[j] <= 1000 := ⟨this.1, this.2.1⟩;omega
  ·rw [hV];refine ⟨rfl, ?_⟩
   (repeat' first|exact rfl|exact trivial|apply And.intro)
theorem near_there {N : List (List Int)} {G : List Bool} (h : Wf N G) {v x : Int} (hv : 0 <= v) (hx : x ∈ rowAt N v) : 0 <= x /\ x < N.length /\ goneAt G x = false := by
 have hr := (h.rows v).2 x hx
 refine ⟨hr.1, hr.2, ?_⟩
 cases hg : goneAt G x with
 | false => rfl
 | true =>
  have h2 := h.sym v x hv hr.1 hx;rw [h.gone x hr.1 hg] at h2; simp at h2
theorem leftF_length (G : List Bool) : (leftF G).length = live G := by
 unfold leftF live
 rw [List.length_map, <- List.countP_eq_length_filter]
 have e : G = (List.range G.length).map fun v => G.getD v false := by
  apply List.ext_getElem?
  intro i;rw [List.getElem?_map];by_cases hi : i < G.length
  ·rw [List.getElem?_range hi, Option.map_some, qDq, qEq hi]; rfl
  ·rw [List.getElem?_eq_none (by omega), List.getElem?_eq_none (by simp; omega)]; rfl
 conv => rhs; rw [e]
 rw [List.countP_map]; rfl
structure Core (N : List (List Int)) (G : List Bool) : Prop where
 wf : Wf N G
 no : ∀ u, mayB N G u = false
theorem Core.three {N : List (List Int)} {G : List Bool} (h : Core N G) {v : Int} (h0 : 0 <= v) (h1 : v < N.length) (hg : goneAt G v = false) : 3 <= (rowAt N v).length := by
 have := h.no v
 by_cases hl : (rowAt N v).length <= 2
 ·rw [mayB_iff.2 ⟨h0, h1, hg, hl⟩] at this; cases this
 ·omega
theorem Core.four {N : List (List Int)} {G : List Bool} (h : Core N G) (hl : leftF G ≠ []) : 4 <= (leftF G).length := by
 obtain ⟨v, hv⟩ := List.exists_mem_of_ne_nil _ hl
 obtain ⟨h0, h1, hg⟩ := mem_leftF.1 hv
 rw [h.wf.len] at h1
 have h3 := h.three h0 h1 hg
 have hnd : (v :: rowAt N v).Nodup := List.nodup_cons.2 ⟨h.wf.irr v h0, (h.wf.rows v).1.imp fun hab => by omega⟩
 have := nodup_lenG (m := leftF G) hnd fun x hx => by
  rcases List.mem_cons.1 hx with e | hx
  ·rw [e]; exact hv
  ·obtain ⟨x0, x1, xg⟩ := near_there h.wf h0 hx;exact mem_leftF.2 ⟨x0, by rw [h.wf.len]; exact x1, xg⟩
 simp only [List.length_cons] at this
 omega
theorem core_run {n : Int} {E : List Ed} (hR : RightP n E) : Core (runR n E).2.1 (runR n E).2.2 /\ (runR n E).2.1.length = n.toNat /\ (runR n E).1.length + (leftF (runR n E).2.2).length = n.toNat := by
 have hW := begin_wf hR
 have hl : live (List.replicate n.toNat false) <= n.toNat := by rw [live_zero]; omega
 obtain ⟨h1, h2, h3⟩ := runS_wf n.toNat hW
 have hc := run_count (f := n.toNat) hW
 rw [live_zero] at hc
 exact ⟨⟨h1, run_end hW hl⟩, by rw [show (runR n E).2.1.length = _ from h2, nbrs_length], by rw [leftF_length]; exact hc⟩
end Go.Sh
namespace Go.Sh
def up1 (v i : Nat) : Nat := if i < v then i else i + 1
theorem adjE_range {n : Int} {E : List Ed} (h : ∀ x ∈ E, okE n x) {a b : Int} (ha : adjE E a b) : 0 <= a /\ a < n /\ 0 <= b /\ b < n /\ a ≠ b := by
 rcases ha with ha | ha
 ·obtain ⟨h1, h2, h3⟩ := h _ ha;dsimp only at h1 h2 h3; omega
 ·obtain ⟨h1, h2, h3⟩ := h _ ha;dsimp only at h1 h2 h3; omega
end Go.Sh
namespace Go.Sh
theorem Core.K4 {N : List (List Int)} {G : List Bool} (h : Core N G) : K4 N ↔ leftF G ≠ [] := by
 constructor
 ·rintro ⟨c, hc⟩ e;obtain ⟨x, y, hx, hy, k, _⟩ := hc.meet 0 1 (by omega) (by omega);rw [List.mem_range] at hx;have : (x : Int) ∈ leftF G := mem_leftF.2 ⟨by omega, by rw [h.wf.len]; omega, by
   cases hg : goneAt G (x : Int) with
   | false => rfl
   | true => unfold adjN at k; rw [h.wf.gone x (by omega) hg] at k; simp at k⟩
  rw [e] at this; simp at this
 ·intro hne
  let vs := (List.range N.length).filter fun (x : Nat) => !goneAt G (x : Int)
  have hvs : ∀ x, x ∈ vs ↔ x < N.length /\ goneAt G (x : Int) = false := fun x => by
   rw [List.mem_filter, List.mem_range]; simp
  have h0 : vs ≠ [] := by
   obtain ⟨v, hv⟩ := List.exists_mem_of_ne_nil _ hne;obtain ⟨a0, a1, a2⟩ := mem_leftF.1 hv;intro e;have : v.toNat ∈ vs := (hvs _).2 ⟨by rw [h.wf.len] at a1; omega, by rw [Int.toNat_of_nonneg a0]; exact a2⟩;rw [e] at this; simp at this
  have hd : ∀ x, x ∈ vs -> D3 vs (adjN N) x := fun x hx => by
   obtain ⟨x1, x2⟩ := (hvs x).1 hx;have h3 := h.three (v := (x : Int)) (by omega) (by omega) x2;have hs := (h.wf.rows (x : Int)).1;have hin : ∀ y, y ∈ rowAt N x -> y.toNat ∈ vs /\ adjN N x y.toNat := fun y hy => by
    obtain ⟨y0, y1, y2⟩ := near_there h.wf (by omega) hy;exact ⟨(hvs _).2 ⟨by omega, by rw [Int.toNat_of_nonneg y0]; exact y2⟩, by unfold adjN; rw [Int.toNat_of_nonneg y0]; exact hy⟩
   have hr0 := fun y hy => (near_there h.wf (show (0 : Int) <= x by omega) (x := y) hy).1
   match hrow : rowAt N x, h3 with
   | a :: b :: c :: l, _ =>
    rw [hrow] at hs hin hr0;simp only [List.pairwise_cons] at hs;have ab := hs.1 b (by simp);have ac := hs.1 c (by simp);have bc := hs.2.1 c (by simp);have a0 := hr0 a (by simp);obtain ⟨m1, k1⟩ := hin a (by simp);obtain ⟨m2, k2⟩ := hin b (by simp);obtain ⟨m3, k3⟩ := hin c (by simp);exact ⟨_, _, _, m1, m2, m3, by omega, by omega, by omega, k1, k2, k3⟩
   | [], h3 => simp at h3
   | [_], h3 => simp at h3
   | [_, _], h3 => simp at h3
  obtain ⟨c, hc⟩ := dirac (adjN_sm h.wf) (List.nodup_range.sublist List.filter_sublist) hd h0;exact ⟨_, hc.induced fun x hx => List.mem_range.2 ((hvs x).1 hx).1⟩
theorem narrow_K4 {n : Int} {E : List Ed} (hR : RightP n E) : narrowB n E = true ↔ ¬ K4 (nbrs n.toNat E) := by
 obtain ⟨hC, _, _⟩ := core_run hR
 have h1 : K4 (runR n E).2.1 ↔ K4 (nbrs n.toNat E) := K4_run (begin_wf hR)
 have hrun : runO n E = ((runR n E).1, leftF (runR n E).2.2, edgesF (runR n E).2.1 (runR n E).2.2) := if_pos hR
 unfold narrowB
 rw [decide_eq_true hR, Bool.true_and, decide_eq_true_eq, hrun, <- h1, hC.K4]
 simp
theorem nbrs_adj {n : Int} {E : List Ed} (hR : RightP n E) (x y : Nat) : adjN (nbrs n.toNat E) x y ↔ adjE E x y := by
 unfold adjN
 by_cases hx : (x : Int) < n.toNat
 ·rw [nbrs_row (by omega) hx, mem_nearL]
 ·rw [rowAt_out (by rw [nbrs_length]; omega)];constructor
  ·intro h; simp at h
  ·intro h;have := adjE_range (fun p hp => hR.2.2.2.1 p hp) h;omega
end Go.Sh
namespace Go.Sh
open Go.Proofs
theorem MdL.iso {vs vs' : List Nat} {A A' : Nat -> Nat -> Prop} {c : Nat -> Nat} (f g : Nat -> Nat) (hf : ∀ x, x ∈ vs -> f x ∈ vs' /\ g (f x) = x) (hg : ∀ y, y ∈ vs' -> g y ∈ vs /\ f (g y) = y) (hA : ∀ x y, x ∈ vs -> y ∈ vs -> A x y -> A' (f x) (f y)) (h : MdL vs A c) : MdL vs' A' fun y => c (g y) := by
 refine ⟨fun i hi => ?_, fun i hi P ⟨y0, hy0, ey0, hP⟩ hcl y hy ey => ?_, fun i j hij hj => ?_⟩
 ·obtain ⟨x, hx, e⟩ := h.some i hi;exact ⟨f x, (hf x hx).1, by rw [(hf x hx).2]; exact e⟩
 ·have := h.conn i hi (fun x => P (f x)) ⟨g y0, (hg y0 hy0).1, ey0, by rw [(hg y0 hy0).2]; exact hP⟩ (fun a b ha hb ea eb k hp => hcl _ _ (hf a ha).1 (hf b hb).1 (by rw [(hf a ha).2]; exact ea) (by rw [(hf b hb).2]; exact eb) (hA a b ha hb k) hp) (g y) (hg y hy).1 ey;rw [(hg y hy).2] at this;exact this
 ·obtain ⟨x, y, hx, hy, k, ex, ey⟩ := h.meet i j hij hj;exact ⟨f x, f y, (hf x hx).1, (hf y hy).1, hA x y hx hy k, by rw [(hf x hx).2]; exact ex, by rw [(hf y hy).2]; exact ey⟩
theorem ren_ownI {n : Int} {E : List Ed} {l : List Int} (hok : ∀ p ∈ E, okE n p) : Tryz.renE (Tryz.indF (placeF n.toNat l)) E = ownG l E := by
 unfold Tryz.renE ownG
 induction E with
 | nil => rfl
 | cons e E ih =>
  have ih := ih fun p hp => hok p (List.mem_cons_of_mem _ hp)
  have he := hok e List.mem_cons_self;unfold okE at he;have at_ : ∀ {v : Int}, 0 <= v -> v < n -> Tryz.indF (placeF n.toNat l) v = if v ∈ l then ((l.idxOf v : Nat) : Int) else -1 := fun {v} h0 h1 => by
   unfold Tryz.indF;rw [placeF_at h0 (by omega)];split <;> omega
  have a1 := at_ (v := e.1) (by omega) (by omega);have a2 := at_ (v := e.2) (by omega) (by omega);rw [List.filterMap_cons, List.filter_cons];by_cases h1 : e.1 ∈ l
  ·by_cases h2 : e.2 ∈ l
   ·rw [if_pos h1] at a1;rw [if_pos h2] at a2;have : ownP l e = true := by unfold ownP; simp [h1, h2]
    rw [a1, a2, if_pos ⟨by omega, by omega⟩, if_pos this];simp only [List.map_cons];rw [ih]
   ·rw [if_neg h2] at a2;have : ¬ ownP l e = true := by unfold ownP; simp [h1, h2]
    rw [a2, if_neg (by omega), if_neg this];exact ih
  ·rw [if_neg h1] at a1;have : ¬ ownP l e = true := by unfold ownP; simp [h1]
   rw [a1, if_neg (by omega), if_neg this];exact ih
theorem ind_two {n : Int} {E : List Ed} {l : List Int} (hl : l.length <= 1000) (hR : RightP n E) (hnd : l.Nodup) (hrng : ∀ v ∈ l, 0 <= v /\ v < n) : indG n E l = ((((l.length : Nat) : Int), normE (ownG l E)), (0 : Int)) /\ RightP (l.length : Nat) (normE (ownG l E)) := by
 have hol : (ownG l E).length <= 4000 := Nat.le_trans ownG_len hR.2.2.1
 have hix : ∀ {v : Int}, v ∈ l -> (l.idxOf v : Nat) < l.length := fun {v} hv => List.idxOf_lt_length_iff.2 hv
 have hoR : ∀ p ∈ ownG l E, inR (l.length : Int) p := fun p hp => by
  unfold ownG at hp;obtain ⟨e, he, rfl⟩ := List.mem_map.1 hp;have hm := (List.mem_filter.1 he).2;unfold ownP at hm;simp only [Bool.and_eq_true, List.elem_eq_mem, decide_eq_true_eq] at hm;have q1 := hix hm.1;have q2 := hix hm.2;unfold inR;dsimp only;omega
 have hFl : (normE (ownG l E)).length <= 4000 := Nat.le_trans (normE_length _) hol
 refine ⟨?_, ⟨by omega, by omega, hFl, normE_ok hoR, normE_sorted _⟩⟩
 unfold indG
 rw [if_pos hR, if_pos hrng, if_pos hnd]
 unfold indR
 rw [ren_ownI hR.2.2.2.1]
 unfold normF
 rw [if_neg (by omega), if_neg (by omega), if_pos hoR, if_neg (by omega)]
theorem ind_K4 {n : Int} {E : List Ed} {l : List Int} (hl : l.length <= 1000) (hR : RightP n E) (hnd : l.Nodup) (hrng : ∀ v ∈ l, 0 <= v /\ v < n) : K4 (nbrs l.length (normE (ownG l E))) ↔ ∃ c, MdL (l.map Int.toNat) (fun x y => adjE (withL l E) (x : Int) (y : Int)) c := by
 have hRF := (ind_two hl hR hnd hrng).2
 have hadj : ∀ x y : Nat, adjN (nbrs l.length (normE (ownG l E))) x y ↔ adjE (normE (ownG l E)) x y := fun x y => by
  have := nbrs_adj hRF x y;rw [Int.toNat_natCast] at this;exact this
 have hmap : ∀ x : Nat, x ∈ l.map Int.toNat ↔ (x : Int) ∈ l := fun x => by
  rw [List.mem_map];constructor
  ·rintro ⟨v, hv, rfl⟩;rw [Int.toNat_of_nonneg (hrng v hv).1]; exact hv
  ·intro h; exact ⟨_, h, Int.toNat_natCast x⟩
 have hf : ∀ x, x ∈ List.range l.length -> (l.getD x 0).toNat ∈ l.map Int.toNat /\ l.idxOf (((l.getD x 0).toNat : Nat) : Int) = x := fun x hx => by
  have hx := List.mem_range.1 hx;have e : l.getD x 0 = l[x] := by rw [qDq, qEq hx]; rfl
  have hm : l[x] ∈ l := List.getElem_mem hx;rw [e, Int.toNat_of_nonneg (hrng _ hm).1];exact ⟨List.mem_map.2 ⟨_, hm, rfl⟩, hnd.idxOf_getElem x hx⟩
 have hg : ∀ y : Nat, y ∈ l.map Int.toNat -> l.idxOf (y : Int) ∈ List.range l.length /\ (l.getD (l.idxOf (y : Int)) 0).toNat = y := fun y hy => by
  have hy := (hmap y).1 hy;have hlt := List.idxOf_lt_length_iff.2 hy;refine ⟨List.mem_range.2 hlt, ?_⟩;rw [qDq, qEq hlt, Option.getD_some, List.getElem_idxOf];exact Int.toNat_natCast y
 have key : ∀ x y : Nat, x ∈ List.range l.length -> y ∈ List.range l.length -> (adjN (nbrs l.length (normE (ownG l E))) x y ↔ adjE (withL l E) (((l.getD x 0).toNat : Nat) : Int) (((l.getD y 0).toNat : Nat) : Int)) := fun x y hx hy => by
  obtain ⟨hx1, hx2⟩ := hf x hx;obtain ⟨hy1, hy2⟩ := hf y hy;have hx1 := (hmap _).1 hx1;have hy1 := (hmap _).1 hy1;rw [hadj, with_mem];have := own_adj hR hx1 hy1;rw [hx2, hy2] at this;rw [this];exact ⟨fun h => ⟨h, hx1, hy1⟩, And.left⟩
 unfold K4
 rw [nbrs_length]
 constructor
 ·rintro ⟨c, hc⟩;exact ⟨_, hc.iso (fun x => (l.getD x 0).toNat) (fun y => l.idxOf (y : Int)) hf hg fun x y hx hy k => (key x y hx hy).1 k⟩
 ·rintro ⟨c, hc⟩;refine ⟨_, hc.iso (fun y => l.idxOf (y : Int)) (fun x => (l.getD x 0).toNat) hg hf fun x y hx hy k => ?_⟩;obtain ⟨gx, ex⟩ := hg x hx;obtain ⟨gy, ey⟩ := hg y hy;rw [key _ _ gx gy, ex, ey]; exact k
noncomputable def narG (n : Int) (E : List Ed) (l : List Int) : Bool := narrowB (l.length : Nat) (normE (ownG l E))
theorem narG_iff {n : Int} {E : List Ed} {l : List Int} (hl : l.length <= 1000) (hT : TwoP n E l) : narG n E l = true ↔ ¬ ∃ c, MdL (l.map Int.toNat) (fun x y => adjE (withL l E) (x : Int) (y : Int)) c := by
 obtain ⟨hR, h2, ⟨hnd, hrng⟩, -⟩ := hT
 have hRF := (ind_two hl hR hnd hrng).2
 unfold narG
 rw [narrow_K4 hRF, Int.toNat_natCast, ind_K4 hl hR hnd hrng]
theorem ck_two {n : Int} {E : List Ed} {l : List Int} {t : List Nd} (h : ckF n E l t = true) : TwoP n E l := by
 unfold ckF at h
 rw [Bool.and_eq_true] at h
 exact twoB_iff.1 h.1
theorem ck_nar {n : Int} {E : List Ed} {l : List Int} {t : List Nd} (hl : l.length <= 1000) (h : ckF n E l t = true) : narG n E l = true := (narG_iff hl (ck_two h)).2 (ck_noK4 h)
theorem spt_cases {n : Int} {E : List Ed} {l : List Int} (hl : l.length <= 1000) : ((sptF n E l).2 = 1 /\ ¬ TwoP n E l) \/ (TwoP n E l /\ (sptF n E l).2 = 0 /\ narG n E l = true /\ ckF n E l (sptF n E l).1 = true) \/ (TwoP n E l /\ sptF n E l = ([], 6) /\ narG n E l = false) := by
 cases hT : twoB n E l with
 | false =>
  left
  unfold sptF;rw [if_neg (by rw [hT]; simp)];exact ⟨rfl, fun h => by rw [twoB_iff.2 h] at hT; simp at hT⟩
 | true =>
  right
  have hTP := twoB_iff.1 hT;obtain ⟨hR, h2, ⟨hnd, hrng⟩, -⟩ := twoB_iff.1 hT;have hF : sptF n E l = runSp 6 (withL l E).length l.length (startS E l) := by unfold sptF; rw [if_pos hT]
  have hm : ∀ {x : Int}, x ∈ (startS E l).left ↔ x ∈ l := fun {x} => (List.mergeSort_perm l _).mem_iff
  have hmap : ∀ x : Nat, x ∈ l.map Int.toNat ↔ (x : Int) ∈ l := fun x => by
   rw [List.mem_map];constructor
   ·rintro ⟨v, hv, rfl⟩;rw [Int.toNat_of_nonneg (hrng v hv).1]; exact hv
   ·intro h; exact ⟨_, h, Int.toNat_natCast x⟩
  have hnd2 : (l.map Int.toNat).Nodup := by
   refine List.nodup_iff_pairwise_ne.2 ?_;rw [List.pairwise_map];refine (List.nodup_iff_pairwise_ne.1 hnd).imp_of_mem fun {a b} ha hb hab => ?_
   have := hrng a ha;have := hrng b hb;omega
  have hadj : ∀ x y : Nat, AdjS (startS E l) x y ↔ adjE (withL l E) (x : Int) (y : Int) := fun x y => by
   unfold AdjS;rw [start_near hR, mem_nearL, hm];refine ⟨And.right, fun h => ⟨(with_mem.1 h).2.1, h⟩⟩
  have hK := spt_K4 (c := 6) (m := (withL l E).length) (by omega) (vs := l.map Int.toNat) l.length (s := startS E l) (by show (sortI l).length <= _; rw [sortI_length]; exact Nat.le_refl _) (start_ok hR hnd) (TwoS.start hl hTP) (fun x hx => (hrng x (hm.1 hx)).1) ⟨hnd2, fun x hx => (hmap x).2 (hm.1 hx)⟩;rw [<- hF] at hK;have hiff : (∃ d, MdL (l.map Int.toNat) (AdjS (startS E l)) d) ↔ ∃ c, MdL (l.map Int.toNat) (fun x y => adjE (withL l E) (x : Int) (y : Int)) c :=
   ⟨fun ⟨d, hd⟩ => ⟨d, hd.mono fun x y _ _ k => (hadj x y).1 k⟩, fun ⟨d, hd⟩ => ⟨d, hd.mono fun x y _ _ k => (hadj x y).2 k⟩⟩
  have hn := narG_iff hl hTP;rcases hK with ⟨h1, h3⟩ | ⟨h1, h3⟩
  ·left
   refine ⟨hTP, h1, hn.2 fun h => h3 (hiff.2 h), spt_ck hl h1⟩
  ·right
   refine ⟨hTP, h1, ?_⟩
   cases hh : narG n E l with
   | false => rfl
   | true => exact absurd (hiff.1 h3) (hn.1 hh)
noncomputable def SNarF := conF (fun a : (Int × List Ed) × List Int × List Nd => a.2.1.length <= maxLen /\ a.2.2.length <= maxLen) (fun a => [grV a.1.1 a.1.2, .one (.flat false 1 (ints a.2.1)), .one (.flat false 3 (nods a.2.2))]) (fun _ => .one (.s (.b true)))
theorem ind_not {n : Int} {E : List Ed} {l : List Int} (h : ¬ (RightP n E /\ l.Nodup /\ ∀ v ∈ l, 0 <= v /\ v < n)) : ∃ e : Int, e ≠ 0 /\ indG n E l = ((0, []), e) := by
 unfold indG
 by_cases h1 : RightP n E
 ·by_cases h2 : ∀ v ∈ l, 0 <= v /\ v < n
  ·by_cases h3 : l.Nodup
   ·exact absurd ⟨h1, h3, h2⟩ h
   ·exact ⟨1, by omega, by rw [if_pos h1, if_pos h2, if_neg h3]⟩
  ·exact ⟨4, by omega, by rw [if_pos h1, if_neg h2]⟩
 ·exact ⟨1, by omega, by rw [if_neg h1]⟩
set_option maxHeartbeats 1000000 in
theorem SNar_ok : SoundP Tryz.prog 8 SNarF := by
 refine con_pure (X := { Γ := [(23, Shown13C), (11, OfC), (26, CkC), (25, SptC), (29, IndC), (28, NarrowC), (30, TakeC 20)], T := T, nt := Tryz.f8.ntmps }) cr_none hmix hT
  (sound_cons Shown13_ok (sound_cons Of_ok (sound_cons Ck_ok (sound_cons Spt_ok (sound_cons Ind_ok (sound_cons Narrow_ok (sound_cons Ours13_ok sound_nil))))))) Tryz.func8 (by rfl) (by rfl) (by rfl) 4 ?_
 rintro ⟨⟨n, E⟩, l, t⟩ ⟨hl, ht⟩
 dsimp only at hl ht ⊢
 unfold maxLen at hl ht
 refine two_le ?_
 refine Call.by _ _ Shown13C_at ?_
 refine Call.by _ _ (OfC_at n E (most := 15) (by omega)) ?_
 obtain ⟨m, hm⟩ : ∃ m, anyN n 15 = m := ⟨_, rfl⟩
 obtain ⟨F, hF⟩ : ∃ F, anyE n E 15 = F := ⟨_, rfl⟩
 rw [hm, hF]
 have hlen := qiq l
 refine Rng.by 0 (min l.length 20) rfl (by rw [hlen]; exact min_lt (by omega)) (by omega) (by omega) ?_
 have c1 : cut (subOf none 0 0 (min l.length 20)) (ints l) = ints (l.take 20) := cut_min 20 l ints (ints_take l)
 have hl2 : (l.take 20).length <= 1000 := by rw [List.length_take]; omega
 have ht2 : (t.take 20).length <= 1000000 := by rw [List.length_take]; omega
 obtain ⟨L, hL⟩ : ∃ L, l.take 20 = L := ⟨_, rfl⟩
 rw [hL] at c1 hl2
 have hS := SptC_at (n := m) (E := F) (l := L) hl2
 have hsl : (sptF m F L).1.length <= 1000000 := by have := spt_len (n := m) (E := F) (l := L); omega
 have hCk := fun (q : List Nd) (hq : q.length <= 1000000) => CkC_at (n := m) (E := F) (l := L) (t := q) ⟨hl2, hq⟩
 have hTk := TakeC_at (k := 20) (l := t) (by omega)
 have hI := IndC_at (n := m) (E := F) (l := L) hl2
 by_cases P : RightP m F /\ L.Nodup /\ ∀ v ∈ L, 0 <= v /\ v < m
 ·obtain ⟨hR, hnd, hrng⟩ := P;obtain ⟨hIG, hRF⟩ := ind_two hl2 hR hnd hrng;rw [hIG] at hI;refine Call.by _ _ (show IndC.F [grV m F, .one (.flat false 1 (cut (subOf none 0 0 (min l.length 20)) (ints l)))] = _ by rw [c1]; exact hI) ?_;refine Call.by _ _ (NarrowC_at _ _) ?_;refine Call.by _ _ (show SptC.F [grV m F, .one (.flat false 1 (cut (subOf none 0 0 (min l.length 20)) (ints l)))] = _ by rw [c1]; exact hS) ?_;rcases spt_cases (n := m) (E := F) (l := L) hl2 with ⟨h1, hT⟩ | ⟨hT, h0, hn, hc⟩ | ⟨hT, h6, hn⟩
  ·refine Pick.F (by rw [h1]; rfl) ?_;refine Pick.F (by rw [h1]; rfl) ?_;have hck : ckF m F L (t.take 20) = false := by
    cases h : ckF m F L (t.take 20) with
    | false => rfl
    | true => exact absurd (ck_two h) hT
   refine Call.by _ _ hTk ?_;refine Call.by _ _ (show CkC.F [grV m F, .one (.flat false 1 (cut (subOf none 0 0 (min l.length 20)) (ints l))), .one (.flat false 3 (nods (t.take 20)))] = _ by rw [c1]; exact hCk _ ht2) ?_;rw [hck];refine Seg.by (by kernel_rfl) ?_;exact ⟨rfl, rfl⟩
  ·refine Pick.T (by rw [h0]; rfl) ?_;refine Pick.T hn ?_;refine Call.by _ _ (show CkC.F [grV m F, .one (.flat false 1 (cut (subOf none 0 0 (min l.length 20)) (ints l))), .one (.flat false 3 (nods (sptF m F L).1))] = _ by rw [c1]; exact hCk _ hsl) ?_;refine Pick.F (by rw [hc]; rfl) ?_;refine Pick.F (by rw [h0]; rfl) ?_;refine Call.by _ _ hTk ?_;refine Call.by _ _ (show CkC.F [grV m F, .one (.flat false 1 (cut (subOf none 0 0 (min l.length 20)) (ints l))), .one (.flat false 3 (nods (t.take 20)))] = _ by rw [c1]; exact hCk _ ht2) ?_;refine Pick.by (fun hq => ?_) (fun hq => ?_)
   ·refine Seg.by (by kernel_rfl) ?_;exact ⟨rfl, rfl⟩
   ·refine Seg.by (by kernel_rfl) ?_;refine ⟨rfl, ?_⟩;show Sc.b (narG m F L) = Sc.b true
    rw [hn]
  ·have hck : ckF m F L (t.take 20) = false := by
    cases h : ckF m F L (t.take 20) with
    | false => rfl
    | true => rw [ck_nar hl2 h] at hn; cases hn
   refine Pick.F (by rw [h6]; rfl) ?_;refine Pick.T (by rw [h6]; rfl) ?_;refine Pick.F hn ?_;refine Call.by _ _ hTk ?_;refine Call.by _ _ (show CkC.F [grV m F, .one (.flat false 1 (cut (subOf none 0 0 (min l.length 20)) (ints l))), .one (.flat false 3 (nods (t.take 20)))] = _ by rw [c1]; exact hCk _ ht2) ?_;rw [hck];refine Seg.by (by kernel_rfl) ?_;exact ⟨rfl, rfl⟩
 ·obtain ⟨e, he, hIG⟩ := ind_not P;rw [hIG] at hI;have hT : ¬ TwoP m F L := fun h => P ⟨h.1, h.2.2.1.1, h.2.2.1.2⟩
  have h1 : (sptF m F L).2 = 1 := by
   rcases spt_cases (n := m) (E := F) (l := L) hl2 with ⟨h1, _⟩ | ⟨h, _⟩ | ⟨h, _⟩
   ·exact h1
   ·exact absurd h hT
   ·exact absurd h hT
  have hck : ckF m F L (t.take 20) = false := by
   cases h : ckF m F L (t.take 20) with
   | false => rfl
   | true => exact absurd (ck_two h) hT
  refine Call.by _ _ (show IndC.F [grV m F, .one (.flat false 1 (cut (subOf none 0 0 (min l.length 20)) (ints l)))] = _ by rw [c1]; exact hI) ?_;refine Pick.F (beq_false_of_ne he) ?_;refine Call.by _ _ (show SptC.F [grV m F, .one (.flat false 1 (cut (subOf none 0 0 (min l.length 20)) (ints l)))] = _ by rw [c1]; exact hS) ?_;refine Pick.F (by rw [h1]; rfl) ?_;refine Pick.F (by rw [h1]; rfl) ?_;refine Call.by _ _ hTk ?_;refine Call.by _ _ (show CkC.F [grV m F, .one (.flat false 1 (cut (subOf none 0 0 (min l.length 20)) (ints l))), .one (.flat false 3 (nods (t.take 20)))] = _ by rw [c1]; exact hCk _ ht2) ?_;rw [hck];refine Seg.by (by kernel_rfl) ?_;exact ⟨rfl, rfl⟩
def i64 (x : Int) : Prop := -9223372036854775808 <= x /\ x <= 9223372036854775807
theorem VTy.struct {T : Tab} {t : Nat} {ti : TI} {fs : List (Nat × Nat)} {v : V} (ht : lk T t = some ti) (hk : ti.kind = .struct fs) (h : VTy T t v) : ∃ cs, v = .agg cs /\ All2 (fun (f : Nat × Nat) c => CTy T f.2 c) fs cs := by
 unfold VTy at h
 rw [ht] at h
 simp only at h
 rw [hk] at h
 exact h
theorem VTy.cell {T : Tab} {t : Nat} {ti : TI} {v : V} (ht : lk T t = some ti) (hk : ∀ fs, ti.kind ≠ .struct fs /\ ∀ n e, ti.kind ≠ .array n e) (h : VTy T t v) : ∃ c, v = .one c /\ CTy T t c := by
 unfold VTy at h
 rw [ht] at h
 simp only at h
 cases hq : ti.kind with
 | struct fs => exact absurd hq (hk fs).1
 | array n e => exact absurd hq ((hk []).2 n e)
 | _ => rw [hq] at h; exact h
theorem VTy.array {T : Tab} {t : Nat} {ti : TI} {n e : Nat} {v : V} (ht : lk T t = some ti) (hk : ti.kind = .array n e) (h : VTy T t v) : ∃ cs, v = .agg cs /\ cs.length = n /\ ∀ c ∈ cs, CTy T e c := by
 unfold VTy at h
 rw [ht] at h
 simp only at h
 rw [hk] at h
 exact h
theorem ScTy.int {T : Tab} {t : Nat} {ti : TI} {k : IntKind} {x : Sc} (ht : lk T t = some ti) (hk : ti.kind = .int k) (h : ScTy T t x) : ∃ n, x = .i k n /\ (Lit.int k n).wf = true := by
 unfold ScTy at h
 rw [ht] at h
 simp only at h
 rw [hk] at h
 cases x with
 | i k' n => obtain ⟨rfl, h⟩ := h; exact ⟨n, rfl, h⟩
 | b _ => exact h.elim
theorem CTy.sc {T : Tab} {t : Nat} {c : C} (hs : sliceE T t = none) (h : CTy T t c) : ∃ x, c = .s x /\ ScTy T t x := by
 unfold CTy at h
 rw [hs] at h
 exact h
theorem CTy.flat {T : Tab} {t e : Nat} {c : C} (hs : sliceE T t = some e) (hs2 : sliceE T e = none) (h : CTy T t c) : ∃ rows, c = .flat false (sizeT T e) rows /\ FlatTy T e rows := by
 unfold CTy at h
 rw [hs] at h
 simp only at h
 rw [hs2] at h
 exact h
theorem CTy.nest {T : Tab} {t e e2 : Nat} {c : C} (hs : sliceE T t = some e) (hs2 : sliceE T e = some e2) (h : CTy T t c) : ∃ rows, c = .nest false (sizeT T e2) rows /\ rows.length <= maxLen /\ ∀ fl ∈ rows, FlatTy T e2 fl := by
 unfold CTy at h
 rw [hs] at h
 simp only at h
 rw [hs2] at h
 exact h
theorem i64_wf {n : Int} (h : (Lit.int .i64 n).wf = true) : i64 n := by
 simp [Lit.wf, IntKind.min, IntKind.max, IntKind.signed, IntKind.bits] at h
 exact h
theorem list_ex {α β : Type} {P : α -> β -> Prop} : ∀ {l : List α}, (∀ x ∈ l, ∃ y, P x y) -> ∃ m : List β, All2 P l m := by
 intro l
 induction l with
 | nil => intro _; exact ⟨[], All2.nil⟩
 | cons x l ih =>
  intro h;obtain ⟨y, hy⟩ := h x (by simp);obtain ⟨m, hm⟩ := ih fun x hx => h x (by simp [hx])
  exact ⟨y :: m, All2.cons' hy hm⟩
theorem All2.map_eq {α β : Type} {f : β -> α} {l : List α} {m : List β} (h : All2 (fun x y => x = f y) l m) : l = m.map f := by
 apply List.ext_getElem?
 intro i
 rw [List.getElem?_map]
 by_cases hi : i < l.length
 ·have him : i < m.length := by rw [<- h.1]; exact hi
  rw [qEq hi, qEq him, Option.map_some, h.2 i _ _ (qEq hi) (qEq him)]
 ·rw [List.getElem?_eq_none (by omega), List.getElem?_eq_none (by rw [<- h.1]; omega)]; rfl
theorem All2.mem {α β : Type} {R : α -> β -> Prop} {l : List α} {m : List β} (h : All2 R l m) {y : β} (hy : y ∈ m) : ∃ x ∈ l, R x y := by
 obtain ⟨i, hi⟩ := List.mem_iff_getElem?.1 hy
 have hl := (qSq.1 hi).1
 rw [<- h.1] at hl
 exact ⟨_, List.getElem_mem hl, h.2 i _ y (qEq hl) hi⟩
theorem row_int {row : Row} (h : RowTy T 3 row) : ∃ n, row = [.i .i64 n] /\ i64 n := by
 obtain ⟨x, rfl, hx⟩ := h
 obtain ⟨n, rfl, hw⟩ := ScTy.int (t := 3) rfl rfl hx
 exact ⟨n, rfl, i64_wf hw⟩
theorem ints_of {fl : Flat} (h : FlatTy T 3 fl) : ∃ l : List Int, fl = ints l /\ l.length <= maxLen /\ ∀ x ∈ l, i64 x := by
 obtain ⟨m, hm⟩ := list_ex (P := fun row n => row = [Sc.i .i64 n] /\ i64 n) fun row hr => row_int (h.2 row hr)
 refine ⟨m, All2.map_eq (f := fun n => [Sc.i .i64 n]) (hm.imp fun _ _ _ k => k.1), by rw [<- hm.1]; exact h.1, fun x hx => ?_⟩
 obtain ⟨_, _, k⟩ := hm.mem hx
 exact k.2
theorem All2.two {α β : Type} {R : α -> β -> Prop} {a b : α} {m : List β} (h : All2 R [a, b] m) : ∃ x y, m = [x, y] /\ R a x /\ R b y := by
 obtain ⟨h1, h2⟩ := h
 match m, h1, h2 with
 | [x, y], _, h2 => exact ⟨x, y, rfl, h2 0 a x rfl rfl, h2 1 b y rfl rfl⟩
theorem All2.one {α β : Type} {R : α -> β -> Prop} {a : α} {m : List β} (h : All2 R [a] m) : ∃ x, m = [x] /\ R a x := by
 obtain ⟨h1, h2⟩ := h
 match m, h1, h2 with
 | [x], _, h2 => exact ⟨x, rfl, h2 0 a x rfl rfl⟩
theorem All2.three {α β : Type} {R : α -> β -> Prop} {a b c : α} {m : List β} (h : All2 R [a, b, c] m) : ∃ x y z, m = [x, y, z] /\ R a x /\ R b y /\ R c z := by
 obtain ⟨h1, h2⟩ := h
 match m, h1, h2 with
 | [x, y, z], _, h2 => exact ⟨x, y, z, rfl, h2 0 a x rfl rfl, h2 1 b y rfl rfl, h2 2 c z rfl rfl⟩
theorem row_edge {row : Row} (h : RowTy T 37 row) : ∃ p : Ed, row = [.i .i64 p.1, .i .i64 p.2] /\ i64 p.1 /\ i64 p.2 := by
 obtain ⟨_, h⟩ := h
 obtain ⟨x, y, rfl, hx, hy⟩ := All2.two h
 obtain ⟨n, rfl, hn⟩ := ScTy.int (t := 3) rfl rfl hx
 obtain ⟨m, rfl, hm⟩ := ScTy.int (t := 3) rfl rfl hy
 exact ⟨(n, m), rfl, i64_wf hn, i64_wf hm⟩
theorem edges_of {fl : Flat} (h : FlatTy T 37 fl) : ∃ E : List Ed, fl = edges E /\ E.length <= maxLen /\ ∀ p ∈ E, i64 p.1 /\ i64 p.2 := by
 obtain ⟨m, hm⟩ := list_ex (P := fun row (p : Ed) => row = [Sc.i .i64 p.1, Sc.i .i64 p.2] /\ i64 p.1 /\ i64 p.2) fun row hr => row_edge (h.2 row hr)
 refine ⟨m, All2.map_eq (f := fun p : Ed => [Sc.i .i64 p.1, Sc.i .i64 p.2]) (hm.imp fun _ _ _ k => k.1), by rw [<- hm.1]; exact h.1, fun x hx => ?_⟩
 obtain ⟨_, _, k⟩ := hm.mem hx
 exact k.2
theorem net_of {v : V} (h : VTy T 24 v) : ∃ n E, v = grV n E /\ i64 n /\ ∀ p ∈ E, i64 p.1 /\ i64 p.2 := by
 obtain ⟨cs, rfl, hcs⟩ := VTy.struct (t := 24) rfl rfl h
 obtain ⟨x, y, rfl, hx, hy⟩ := All2.two hcs
 obtain ⟨z, rfl, hz⟩ := CTy.sc (t := 3) rfl hx
 obtain ⟨n, rfl, hw⟩ := ScTy.int (t := 3) rfl rfl hz
 obtain ⟨rows, rfl, hr⟩ := CTy.flat (t := 22) (e := 37) rfl rfl hy
 obtain ⟨E, rfl, _, hE⟩ := edges_of hr
 exact ⟨n, E, rfl, i64_wf hw, hE⟩
theorem own : ownKnob Tryz.prog.godebug = none := by kernel_rfl
theorem laidOut : laidOutB Tryz.prog = true := by kernel_rfl
set_option maxRecDepth 100000 in
theorem law_row {s : ChangeSpec} {f : FuncId} {fn : Func} {conds : List PathCond} {apart fresh handsOn : Bool} {ts : List TypeId} {F : List V -> Option (V × List V)} (hf : Tryz.prog.funcs[f]? = some fn) (hin : Tryz.prog.inits.idxOf? f = none) (hv : s.vars = [])
  (hts : fn.params.toList = ts) (ha : ts.all (argB T) = true) (hr : ts.all (fun t => Tryz.prog.readableRec t && Nat.blt t Tryz.prog.types.size) = true) (hres : fn.resultTypes = #[4])
  (hsp : ∀ (H : Type) (ds : List (DataW H)), ds.length = ts.length -> (s.fn H ds).results = [.lit (.bool true)] /\ (s.fn H ds).args = ds /\ (s.fn H ds).vars = [])
  (hS : SoundP Tryz.prog f F) (hF : LawV T ts F) (os : Os) (started : os.Started) (H : Type) (enc : TypeId × Value -> H) (a : Assume)
  (hw : ∃ (w : World) (tape : Tape) (i : Input), w.os = os /\ (w.forCall tape i).Shaped Tryz.checked.prog /\ i.vars = [] /\ Input.okWide Tryz.checked.prog (w.forCall tape i) .any w.heap.size f i /\
   s.pre6 enc Tryz.checked.prog fn conds apart (w.forCall tape i).memory i.args /\ a.holds Tryz.checked.prog (lone (Frame.enter Tryz.checked.prog f i.args .normal) [] (w.forCall tape i))) :
  ReturnsInHanded a Tryz.checked os f .any (s.pre6 enc Tryz.checked.prog fn conds apart) (s.post enc Tryz.checked.prog fn apart fresh handsOn false) := by
 refine returnsInHanded_of_change (C := Tryz.checked) own started hin hf hw ?_
 intro W base args ds gs before hval hW _ _
 refine law_contract (P := Tryz.prog) (conds := conds) hT laidOut hv hts ha (fun t ht => ?_) hres Tryz.underlying4 (hsp H) hS hF hval hW
 have := List.all_eq_true.1 hr t ht
 simp only [Bool.and_eq_true] at this
 exact ⟨this.1, Nat.le_of_ble_eq_true this.2⟩
theorem ScTy.bool {T : Tab} {t : Nat} {ti : TI} {x : Sc} (ht : lk T t = some ti) (hk : ti.kind = .bool) (h : ScTy T t x) : ∃ b, x = .b b := by
 unfold ScTy at h
 rw [ht] at h
 simp only at h
 rw [hk] at h
 cases x with
 | i k' n => exact h.elim
 | b b => exact ⟨b, rfl⟩
theorem All2.four {α β : Type} {R : α -> β -> Prop} {a b c d : α} {m : List β} (h : All2 R [a, b, c, d] m) : ∃ x y z t, m = [x, y, z, t] /\ R a x /\ R b y /\ R c z /\ R d t := by
 obtain ⟨h1, h2⟩ := h
 match m, h1, h2 with
 | [x, y, z, t], _, h2 => exact ⟨x, y, z, t, rfl, h2 0 a x rfl rfl, h2 1 b y rfl rfl, h2 2 c z rfl rfl, h2 3 d t rfl rfl⟩
theorem row_nod {row : Row} (h : RowTy T 118 row) : ∃ p : Nd, row = [.i .i64 p.1, .i .i64 p.2.1, .i .i64 p.2.2] := by
 obtain ⟨_, h⟩ := h
 obtain ⟨x, y, z, rfl, hx, hy, hz⟩ := All2.three h
 obtain ⟨n, rfl, hn⟩ := ScTy.int (t := 3) rfl rfl hx
 obtain ⟨m, rfl, hm⟩ := ScTy.int (t := 3) rfl rfl hy
 obtain ⟨k, rfl, hk⟩ := ScTy.int (t := 3) rfl rfl hz
 exact ⟨(n, m, k), rfl⟩
theorem nodes_cell {c : C} (hc : CTy T 60 c) : ∃ l : List Nd, c = .flat false 3 (nods l) /\ l.length <= maxLen := by
 obtain ⟨rows, rfl, hr⟩ := CTy.flat (t := 60) (e := 118) rfl rfl hc
 obtain ⟨m, hm⟩ := list_ex (P := fun row (p : Nd) => row = [Sc.i .i64 p.1, Sc.i .i64 p.2.1, Sc.i .i64 p.2.2]) fun row hq => row_nod (hr.2 row hq)
 have e := All2.map_eq (f := fun p : Nd => [Sc.i .i64 p.1, Sc.i .i64 p.2.1, Sc.i .i64 p.2.2]) hm
 exact ⟨m, by rw [e]; rfl, by rw [<- hm.1]; exact hr.1⟩
theorem nodes_of {v : V} (h : VTy T 60 v) : ∃ l : List Nd, v = .one (.flat false 3 (nods l)) /\ l.length <= maxLen := by
 obtain ⟨c, rfl, hc⟩ := VTy.cell (ti := { kind := .slice 118, size := _, bytes := _, zero := _, eqs := _, cells := _ }) rfl (fun fs => by simp) h
 obtain ⟨l, rfl, hl⟩ := nodes_cell hc
 exact ⟨l, rfl, hl⟩
theorem row_of {v : V} (h : VTy T 25 v) : ∃ l : List Int, v = .one (.flat false 1 (ints l)) /\ l.length <= maxLen /\ ∀ x ∈ l, i64 x := by
 obtain ⟨c, rfl, hc⟩ := VTy.cell (ti := { kind := .slice 3, size := _, bytes := _, zero := _, eqs := _, cells := _ }) rfl (fun fs => by simp) h
 obtain ⟨rows, rfl, hr⟩ := CTy.flat (t := 25) (e := 3) rfl rfl hc
 obtain ⟨l, rfl, h1, h2⟩ := ints_of hr
 exact ⟨l, rfl, h1, h2⟩
end Go.Sh
