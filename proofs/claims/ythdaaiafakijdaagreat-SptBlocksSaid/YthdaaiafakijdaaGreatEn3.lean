/- A way of reckoning with this program: names in the place of addresses, contents as lists; and that what is so reckoned is what the program does. No condition. -/
import Derived.Test.YthdaaiafakijdaaGreatEn2
import Derived.Deep.LoopGhost
import Derived.Scope
import Derived.Laws.StructEq
import Derived.DeepKeys4
import Derived.ProofKit
import Derived.WalkKit
import Derived.OpenShut
import Derived.ChangeOld
import Derived.Carry
import Derived.Handed
set_option linter.unusedVariables false
set_option linter.unusedSimpArgs false
set_option linter.unusedSectionVars false
namespace Go.Sh
variable [Fwd]
theorem lk_mem {α : Type} {l : List (Nat × α)} {t : Nat} {v : α} (h : lk l t = some v) : (t, v) ∈ l := by
 induction l with
 | nil => simp [lk] at h
 | cons p r ih =>
  obtain ⟨a, x⟩ := p;simp only [lk] at h
  cases hb : Nat.beq a t with
  | true =>
   rw [hb] at h;have := qBq hb;subst this;simp only [cond_true, Option.some.injEq] at h;subst h; simp
  | false => rw [hb] at h; exact List.mem_cons_of_mem _ (ih h)
def inv : List (Nat × Option Nat) -> Nat -> Option Nat
 | [], _ => none
 | (n, some k) :: r, m => if k = m then some n else inv r m
 | (_, none) :: r, m => inv r m
theorem mem_images {σ : List (Nat × Option Nat)} {n m : Nat} (h : (n, some m) ∈ σ) : m ∈ images σ := by
 induction σ with
 | nil => simp at h
 | cons p r ih =>
  obtain ⟨a, x⟩ := p;rcases List.mem_cons.1 h with k | k
  ·injection k with h1 h2; subst h1; subst h2; simp [images]
  ·have := ih k
   cases x with
   | none => exact this
   | some x => exact List.mem_cons_of_mem _ this
theorem inv_of {σ : List (Nat × Option Nat)} (hd : dup (images σ) = false) {n m : Nat} (h : (n, some m) ∈ σ) : inv σ m = some n := by
 induction σ with
 | nil => simp at h
 | cons p r ih =>
  obtain ⟨a, x⟩ := p
  cases x with
  | none =>
   simp only [images] at hd;rcases List.mem_cons.1 h with h | h
   ·simp at h
   ·exact ih hd h
  | some k =>
   simp only [images, dup, Bool.or_eq_false_iff] at hd;simp only [inv];rcases List.mem_cons.1 h with h | h
   ·injection h with h1 h2; injection h2 with h2; subst h1; subst h2; rw [if_pos rfl]
   ·rw [if_neg]
    ·exact ih hd.2 h
    ·rintro rfl;have := mem_images h;have h1 := hd.1;simp at h1;exact h1 this
theorem inv_mem {σ : List (Nat × Option Nat)} {n m : Nat} (h : inv σ m = some n) : n ∈ firsts σ := by
 induction σ with
 | nil => simp [inv] at h
 | cons p r ih =>
  obtain ⟨a, x⟩ := p
  cases x with
  | none => exact List.mem_cons_of_mem _ (ih h)
  | some k =>
   simp only [inv] at h;split at h
   ·injection h with h; subst h; simp [firsts]
   ·exact List.mem_cons_of_mem _ (ih h)
theorem lk_firsts {α : Type} {l : List (Nat × α)} {n : Nat} (h : (lk l n).isSome = true) : n ∈ firsts l := by
 cases hv : lk l n with
 | none => rw [hv] at h; simp at h
 | some v =>
  have := lk_mem hv
  clear h hv
  induction l with
  | nil => simp at this
  | cons p r ih =>
   obtain ⟨a, x⟩ := p;rcases List.mem_cons.1 this with h | h
   ·injection h with h1 h2; subst h1; simp [firsts]
   ·exact List.mem_cons_of_mem _ (ih h)
theorem mem_firsts {α : Type} {l : List (Nat × α)} {n : Nat} {v : α} (h : (n, v) ∈ l) : n ∈ firsts l := by
 induction l with
 | nil => simp at h
 | cons p r ih =>
  obtain ⟨a, x⟩ := p;rcases List.mem_cons.1 h with h | h
  ·injection h with h1 h2; subst h1; simp [firsts]
  ·exact List.mem_cons_of_mem _ (ih h)
def G.ren (g : G) (σ : List (Nat × Option Nat)) : G := {
 base n := match lk σ n with | some (some m) => g.base m | _ => none
 cap n := match lk σ n with | some (some m) => g.cap m | _ => 0
 rbase n := match lk σ n with | some (some m) => g.rbase m | _ => fun _ => none
 rcap n := match lk σ n with | some (some m) => g.rcap m | _ => fun _ => 0
 own b := (g.own b).bind fun k => (inv σ k.1).map fun n => (n, k.2) }
section
variable {P : Program} {X : Cx} {Mn O0 : Nat -> Prop} {w0 : Base} {w w' : World} {nt : Nat} {s s1 : S} {g : G} {a : Act} {nx : Nat} {sl sl' : Sl} {en en' : En}
theorem weakS_at {σ : List (Nat × Option Nat)} (h : weakS σ sl en sl') {t : Nat} {v : SV} (hm : (t, v) ∈ sl') : ∃ u, lk sl t = some u /\ renV2 σ en v u := by
 induction sl' with
 | nil => simp at hm
 | cons p r ih =>
  obtain ⟨a, x⟩ := p;obtain ⟨h1, h2⟩ := h;rcases List.mem_cons.1 hm with hm | hm
  ·injection hm with e1 e2; subst e1; subst e2
   cases hl : lk sl t with
   | none => rw [hl] at h1; exact h1.elim
   | some u => rw [hl] at h1; exact ⟨u, rfl, h1⟩
  ·exact ih h2 hm
theorem weakE_at {σ : List (Nat × Option Nat)} (h : weakE σ en en') {n : Nat} {e : Ent} (hm : (n, some e) ∈ en') :
  (∃ m f, lk σ n = some (some m) /\ lk en m = some (some f) /\ renE σ en e f) \/ (lk σ n = some none /\ emptyE e) := by
 induction en' with
 | nil => simp at hm
 | cons p r ih =>
  obtain ⟨a, x⟩ := p;rcases List.mem_cons.1 hm with hm | hm
  ·injection hm with e1 e2; subst e1; subst e2
   obtain ⟨h1, h2⟩ := h
   cases hl : lk σ n with
   | none => rw [hl] at h1; exact h1.elim
   | some k =>
    cases k with
    | none => rw [hl] at h1; exact .inr ⟨rfl, h1⟩
    | some m =>
     rw [hl] at h1;simp only at h1
     cases hf : lk en m with
     | none => rw [hf] at h1; exact h1.elim
     | some f =>
      cases f with
      | none => rw [hf] at h1; exact h1.elim
      | some f => rw [hf] at h1; exact .inl ⟨m, f, rfl, hf, h1⟩
  ·have ih' := fun h => ih h hm
   cases x with
   | none => exact h.elim
   | some x => exact ih' h.2
theorem ren_own {σ : List (Nat × Option Nat)} (hd : dup (images σ) = false) {n m : Nat} (h : lk σ n = some (some m)) {b : Nat} {r : Option Nat} (ho : g.own b = some (m, r)) : (g.ren σ).own b = some (n, r) := by
 simp [G.ren, ho, inv_of hd (lk_mem h)]
theorem ren_none {σ : List (Nat × Option Nat)} {b : Nat} (ho : g.own b = none) : (g.ren σ).own b = none := by simp [G.ren, ho]
theorem fe_mem {n : Nat} {e : Ent} (h : (toS sl' en').fe n = some e) : (n, some e) ∈ en' := by
 simp only [toS] at h
 cases hl : lk en' n with
 | none => rw [hl] at h; simp at h
 | some x => rw [hl] at h; simp only [Option.join_some] at h; rw [h] at hl; exact lk_mem hl
theorem renV_rel {σ : List (Nat × Option Nat)} (hE : weakE σ en en') {v u : SV} {x : Value} (h : renV σ en v u) (hx : VR1 (toS sl en) g u x) : VR1 (toS sl' en') (g.ren σ) v x := by
 unfold renV at h
 split at h
 ·subst h; exact hx
 ·exact hx
 ·obtain ⟨h1, rfl⟩ := h;obtain ⟨b, hb, hu⟩ := hx;exact ⟨b, by simp [G.ren, h1, hb], hu⟩
 ·rename_i n sub;obtain ⟨h, rfl⟩ := h;refine ⟨none, 0, 0, hx, fun L sz hl => ?_⟩;have hb : (g.ren σ).base n = none /\ (g.ren σ).cap n = 0 := by simp [G.ren, h]
  rw [hb.1, hb.2]
  suffices hL : L = 0 by subst hL; exact ⟨rfl, rfl, rfl⟩
  unfold lenSz at hl;split at hl
  ·rename_i e1 e2 e3 he;rcases weakE_at hE (fe_mem he) with ⟨m, f, k1, _⟩ | ⟨_, k⟩
   ·rw [k1] at h; simp at h
   ·simp only [emptyE] at k;obtain ⟨rfl, _⟩ := k;simp at hl; exact hl.1.symm
  ·rename_i e1 e2 e3 e4 e5 he;rcases weakE_at hE (fe_mem he) with ⟨m, f, k1, _⟩ | ⟨_, k⟩
   ·rw [k1] at h; simp at h
   ·simp only [emptyE] at k;obtain ⟨rfl, _⟩ := k;simp at hl; exact hl.1.symm
  ·rename_i e1 e2 e3 he;rcases weakE_at hE (fe_mem he) with ⟨m, f, k1, _⟩ | ⟨_, k⟩
   ·rw [k1] at h; simp at h
   ·simp only [emptyE] at k;obtain ⟨rfl, _⟩ := k;simp at hl; exact hl.1.symm
  ·rename_i e1 e2 he;rcases weakE_at hE (fe_mem he) with ⟨m9, f, k1, _, k3⟩ | ⟨_, k⟩
   ·cases f <;> exact k3.elim
   ·exact k.elim
  ·simp at hl
 ·rename_i n sub m sub';obtain ⟨h1, rfl⟩ := h;obtain ⟨A, len, cap, hu, hs⟩ := hx;refine ⟨A, len, cap, hu, fun L sz hl => ?_⟩;have hb : (g.ren σ).base n = g.base m /\ (g.ren σ).cap n = g.cap m := by simp [G.ren, h1]
  rw [hb.1, hb.2];refine hs L sz ?_;unfold lenSz at hl;split at hl
  ·rename_i e1 e2 e3 he;rcases weakE_at hE (fe_mem he) with ⟨m', f, k1, k2, k3⟩ | ⟨k1, k⟩
   ·rw [h1] at k1; injection k1 with k1; injection k1 with k1; subst k1
    cases f with
    | flat a1 a2 a3 =>
     obtain ⟨rfl, rfl, rfl⟩ := k3;simp [lenSz, toS, k2]; simpa using hl
    | _ => exact k3.elim
   ·rw [h1] at k1; simp at k1
  ·rename_i e1 e2 e3 e4 e5 he;rcases weakE_at hE (fe_mem he) with ⟨m', f, k1, k2, k3⟩ | ⟨k1, k⟩
   ·rw [h1] at k1; injection k1 with k1; injection k1 with k1; subst k1
    cases f with
    | nest a1 a2 a3 a4 a5 =>
     obtain ⟨rfl, rfl, rfl, _⟩ := k3;simp [lenSz, toS, k2]; simpa using hl
    | _ => exact k3.elim
   ·rw [h1] at k1; simp at k1
  ·rename_i e1 e2 e3 he;rcases weakE_at hE (fe_mem he) with ⟨m', f, k1, k2, k3⟩ | ⟨k1, k⟩
   ·rw [h1] at k1; injection k1 with k1; injection k1 with k1; subst k1
    cases f with
    | fnest a1 a2 a3 =>
     obtain ⟨rfl, rfl, rfl⟩ := k3;simp [lenSz, toS, k2]; simpa using hl
    | _ => exact k3.elim
   ·rw [h1] at k1; simp at k1
  ·rename_i e1 e2 he;rcases weakE_at hE (fe_mem he) with ⟨m9, f, k1, _, k3⟩ | ⟨_, k⟩
   ·cases f <;> exact k3.elim
   ·exact k.elim
  ·simp at hl
 ·rename_i n i fr sub m j ver sub';obtain ⟨h1, rfl, rfl, rfl, hrow⟩ := h;obtain ⟨hv, A, len, cap, hu, hs⟩ := hx;have hb : (g.ren σ).rbase n = g.rbase m /\ (g.ren σ).rcap n = g.rcap m := by simp [G.ren, h1]
  refine ⟨fun o z r hh lg he => by simp, A, len, cap, hu, fun L sz hr => ?_⟩;rw [hb.1, hb.2];refine hs L sz ?_;obtain ⟨q1, q2, q3, q4, fl, he, _, _, k3, k4⟩ := hr;rcases weakE_at hE (fe_mem he) with ⟨m', f, k1, k2, k5⟩ | ⟨k1, k⟩
  ·rw [h1] at k1; injection k1 with k1; injection k1 with k1; subst k1
   cases f with
   | nest a1 a2 a3 a4 a5 =>
    obtain ⟨rfl, rfl, rfl, _⟩ := k5;rw [k2] at hrow;exact ⟨q1, q2, a4, a5, fl, by simp only [toS, k2, Option.join_some], hrow.1, hrow.2, k3, k4⟩
   | _ => exact k5.elim
  ·rw [h1] at k1; simp at k1
 ·obtain ⟨b, hb, hu⟩ := hx;exact ⟨b, by simp [G.ren, h, hb], hu⟩
 ·obtain ⟨rfl, h⟩ := h;obtain ⟨b, hb, hu⟩ := hx;exact ⟨b, by simp [G.ren, h, hb], hu⟩
 ·exact hx
 ·trivial
 ·exact h.elim
theorem renV_one {σ : List (Nat × Option Nat)} {v u : SV} (h : renV σ en v u) : (∀ l, v ≠ .tup l) /\ (v = .bad \/ ((∀ l, u ≠ .agg l) /\ (∀ l, u ≠ .tup l) /\ (∀ f l, u ≠ .fn f l))) := by
 unfold renV at h
 split at h <;> simp_all
theorem renVs_rel {σ : List (Nat × Option Nat)} (hE : weakE σ en en') : ∀ {l m : List SV} {x : List Value}, renVs σ en l m -> All2 (VR1 (toS sl en) g) m x -> All2 (VR1 (toS sl' en') (g.ren σ)) l x := by
 intro l
 induction l with
 | nil =>
  intro m x h hx
  cases m with
  | nil => exact ⟨hx.1, fun i p q hp => by simp at hp⟩
  | cons _ _ => exact h.elim
 | cons v l ih =>
  intro m x h hx
  cases m with
  | nil => exact h.elim
  | cons u m =>
   obtain ⟨h1, h2⟩ := h
   cases x with
   | nil => have := hx.1; simp at this
   | cons y x =>
    have hi := ih h2 (x := x) ⟨by have := hx.1; simpa using this, fun i p q hp hq => hx.2 (i + 1) p q (by simpa using hp) (by simpa using hq)⟩;refine ⟨by simp [hi.1], fun i p q hp hq => ?_⟩
    cases i with
    | zero => simp at hp hq; subst hp; subst hq; exact renV_rel hE h1 (hx.2 0 u y (by simp) (by simp))
    | succ i => exact hi.2 i p q (by simpa using hp) (by simpa using hq)
theorem renV2_rel {σ : List (Nat × Option Nat)} (hE : weakE σ en en') {v u : SV} {x : Value} (h : renV2 σ en v u) (hx : VR3 (toS sl en) g u x) : VR3 (toS sl' en') (g.ren σ) v x := by
 unfold renV2 at h
 split at h
 ·obtain ⟨cs, rfl, hc⟩ := hx;exact ⟨cs, rfl, renVs_rel hE h hc⟩
 ·obtain ⟨rfl, h⟩ := h;obtain ⟨cs, rfl, hc⟩ := hx;exact ⟨cs, rfl, renVs_rel hE h hc⟩
 ·rcases (renV_one h).2 with rfl | hne
  ·trivial
  ·have hx1 : VR1 (toS sl en) g u x := by
    cases u with
    | agg l => exact absurd rfl (hne.1 l)
    | tup l => exact absurd rfl (hne.2.1 l)
    | fn f l => exact absurd rfl (hne.2.2 f l)
    | _ => exact hx
   exact VR3.one (renV_rel hE h hx1)
theorem Rel.weakR {nx' : Nat} {σ : List (Nat × Option Nat)} (R : Rel Mn O0 w0 nt (toS sl en) g a w) (ht : tidy σ nx' sl' en' = true) (hS : weakS σ sl en sl') (hE : weakE σ en en') : Rel (fun n => n < nx') O0 w0 nt (toS sl' en') (g.ren σ) a w := by
 simp only [tidy, Bool.and_eq_true, Bool.not_eq_true', List.all_eq_true] at ht
 obtain ⟨⟨⟨⟨⟨⟨⟨hd1, hd2⟩, hd3⟩, hd4⟩, hnx⟩, hen⟩, hene⟩, hsl⟩ := ht
 have small : ∀ n, (lk σ n).isSome = true -> n < nx' := fun n h => by simpa [Nat.blt_eq] using hnx n (lk_firsts h)
 have hfe : ∀ n e, (toS sl' en').fe n = some e -> (n, some e) ∈ en' := fun n e h => fe_mem h
 refine ⟨R.size, R.defers, R.small, fun t v hv => ?_, fun n e he => ?_, fun b k hk => ?_, fun b n r hk => ?_, fun t v hv n hn => ?_, fun n e he => ?_, R.frm, fun b k hk hb => ?_⟩
 ·obtain ⟨u, hu, hr⟩ := weakS_at hS (lk_mem hv);obtain ⟨x, hx, hxr⟩ := R.slots t u hu;exact ⟨x, hx, renV2_rel hE hr hxr⟩
 ·rcases weakE_at hE (hfe n e he) with ⟨m, f, k1, k2, k3⟩ | ⟨k1, k⟩
  ·have hok := R.ents m f (by simp [toS, k2]);have gb : (g.ren σ).base n = g.base m /\ (g.ren σ).cap n = g.cap m /\ (g.ren σ).rbase n = g.rbase m /\ (g.ren σ).rcap n = g.rcap m := by simp [G.ren, k1]
   cases e with
   | was _ _ => cases f <;> exact k3.elim
   | rblk l =>
    cases f with
    | rblk m' =>
     obtain ⟨b, arr, T, h1, h2, h3, h4⟩ := hok;exact ⟨b, arr, T, by rw [gb.1]; exact h1, ren_none h2, h3, renVs_rel hE k3 h4⟩
    | _ => exact k3.elim
   | map ag nk l =>
    cases f with
    | map ag' nk' l' =>
     obtain ⟨rfl, rfl, rfl⟩ := k3;obtain ⟨b, es, clock, q1, q2, q3, q4⟩ := hok;exact ⟨b, es, clock, gb.1.trans q1, ren_own hd1 k1 q2, q3, q4⟩
    | _ => exact k3.elim
   | fmap l =>
    cases f with
    | fmap l' =>
     obtain rfl := k3;obtain ⟨b, es, clock, q1, q2, q3, q4⟩ := hok;exact ⟨b, es, clock, gb.1.trans q1, ren_own hd1 k1 q2, q3, q4.mono fun b _ ho => ⟨ren_none ho, rfl⟩⟩
    | _ => exact k3.elim
   | rmap ag nk l =>
    cases f with
    | rmap ag' nk' l' =>
     obtain ⟨rfl, rfl, rfl⟩ := k3;obtain ⟨b, es, clock, q1, q2, q3, q4⟩ := hok;exact ⟨b, es, clock, gb.1.trans q1, ren_none q2, q3, q4⟩
    | _ => exact k3.elim
   | fnb own f0 l =>
    cases f with
    | fnb own' f' m' =>
     obtain ⟨rfl, rfl, k3⟩ := k3;obtain ⟨b, arr, T, cs, h1, h2, h3, h4, h5⟩ := hok;refine ⟨b, arr, T, cs, by rw [gb.1]; exact h1, ?_, h3, h4, renVs_rel hE k3 h5⟩
     cases own with
     | true => simp only [if_true] at h2 ⊢; exact ren_own hd1 k1 h2
     | false => simp only [Bool.false_eq_true, if_false] at h2 ⊢; exact ren_none h2
    | _ => exact k3.elim
   | blk l =>
    cases f with
    | blk m' =>
     obtain ⟨b, arr, T, h1, h2, h3, h4⟩ := hok;exact ⟨b, arr, T, by rw [gb.1]; exact h1, ren_own hd1 k1 h2, h3, renVs_rel hE k3 h4⟩
    | _ => exact k3.elim
   | flat own sz rows =>
    cases f with
    | flat a1 a2 a3 =>
     obtain ⟨rfl, rfl, rfl⟩ := k3;unfold EntOk at hok ⊢;rw [gb.1, gb.2.1];refine FlatOk.mono hok (by cases own <;> simp) (fun b _ ho => ⟨?_, rfl⟩)
     cases own with
     | true => exact ren_own hd1 k1 ho
     | false => exact ren_none ho
    | _ => exact k3.elim
   | nest own sz rows holes log =>
    cases f with
    | nest a1 a2 a3 a4 a5 =>
     obtain ⟨rfl, rfl, rfl, rfl, rfl, rfl⟩ := k3;unfold EntOk at hok ⊢;rw [gb.1, gb.2.1, gb.2.2.1, gb.2.2.2];refine NestOk.mono hok (by cases own <;> simp) (fun b _ ho => ⟨?_, rfl⟩) (fun i => by cases own <;> simp) (fun i b _ _ ho => ⟨?_, rfl⟩) (fun i _ => ⟨rfl, rfl⟩)
     ·cases own with
      | true => exact ren_own hd1 k1 ho
      | false => exact ren_none ho
     ·cases own with
      | true => exact ren_own hd1 k1 ho
      | false => exact ren_none ho
    | _ => exact k3.elim
   | fnest own sz rows =>
    cases f with
    | fnest a1 a2 a3 =>
     obtain ⟨rfl, rfl, rfl⟩ := k3;unfold EntOk at hok ⊢;rw [gb.1, gb.2.1, gb.2.2.1, gb.2.2.2];refine NestOk.mono hok (by cases own <;> simp) (fun b _ ho => ⟨?_, rfl⟩) (fun i => id) (fun i b _ _ ho => ⟨ren_none ho, rfl⟩) (fun i _ => ⟨rfl, rfl⟩)
     cases own with
     | true => exact ren_own hd1 k1 ho
     | false => exact ren_none ho
    | _ => exact k3.elim
  ·have gb : (g.ren σ).base n = none /\ (g.ren σ).cap n = 0 := by simp [G.ren, k1]
   cases e with
   | blk l => exact k.elim
   | map _ _ _ => exact k.elim
   | rblk _ => exact k.elim
   | was _ _ => exact k.elim
   | rmap _ _ _ => exact k.elim
   | fmap _ => exact k.elim
   | fnb _ _ _ => exact k.elim
   | flat own sz rows =>
    obtain ⟨rfl, hz⟩ := k;unfold EntOk;rw [gb.1, gb.2];exact FlatOk.nil (by simpa [Nat.blt_eq] using hz)
   | nest own sz rows holes log =>
    obtain ⟨rfl, rfl, rfl, hz⟩ := k;unfold EntOk;rw [gb.1, gb.2];exact ⟨by simp, by simpa [Nat.blt_eq] using hz, fun i fl h => by simp at h, fun i fl h => by simp at h, fun _ => .inl ⟨rfl, rfl⟩⟩
   | fnest own sz rows =>
    obtain ⟨rfl, hz⟩ := k;unfold EntOk;rw [gb.1, gb.2];exact ⟨by simp, by simpa [Nat.blt_eq] using hz, fun i fl h => by simp at h, fun i fl h => by simp at h, fun _ => .inl ⟨rfl, rfl⟩⟩
 ·cases ho : g.own b with
  | none => rw [ren_none ho] at hk; simp at hk
  | some k' => exact R.bound b k' ho
 ·cases ho : g.own b with
  | none => rw [ren_none ho] at hk; simp at hk
  | some k' =>
   simp only [G.ren, ho, Option.bind_some, Option.map_eq_some_iff] at hk;obtain ⟨n', hn', he⟩ := hk;injection he with h1 h2
   subst h1;simpa [Nat.blt_eq] using hnx _ (inv_mem hn')
 ·have hv' := lk_mem hv;have h2 := hsl _ hv';have hn2 : n ∈ names2 v := by
   obtain ⟨u, hu, hr⟩ := weakS_at hS hv'
   cases v with
   | tup l =>
    unfold renV2 at hr;split at hr
    ·rename_i hq; simp at hq
    ·rename_i hq; simp at hq
    ·exact absurd rfl ((renV_one hr).1 l)
   | _ => exact hn
  exact small n (h2 n hn2)
 ·have hm := hfe n e he;refine ⟨small n (hen n (mem_firsts hm)), fun m hmm => ?_⟩;have := hene _ hm;simp only [List.all_eq_true] at this;exact small m (this m hmm)
 ·cases ho : g.own b with
  | none => rw [ren_none ho] at hk; simp at hk
  | some k' => exact R.ours b k' ho hb
theorem Rel.weak0 {nx' : Nat} (R : Rel Mn O0 w0 nt (toS sl en) g a w) (h : Weak0 sl en sl' en' nx') : ∃ g', Rel (fun n => n < nx') O0 w0 nt (toS sl' en') g' a w := by
 obtain ⟨σ, ht, hS, hE⟩ := h
 exact ⟨_, R.weakR ht hS hE⟩
theorem toS_head {n : Nat} {e : Ent} : (toS sl ((n, some e) :: en)).fs = (toS sl en).fs /\ (∀ m, m ≠ n -> (toS sl ((n, some e) :: en)).fe m = (toS sl en).fe m) /\ (toS sl ((n, some e) :: en)).fe n = some e := by
 refine ⟨rfl, fun m hm => ?_, ?_⟩
 ·have : Nat.beq n m = false := by
   cases hb : Nat.beq n m with
   | false => rfl
   | true => exact absurd (qBq hb).symm hm
  simp [toS, lk, this]
 ·simp [toS, lk, Nat.beq_refl]
theorem Rel.frz1 (R : Rel Mn O0 w0 nt (toS sl en) g a w) (n : Nat) : ∃ g', Rel Mn O0 w0 nt (toS sl (frz1 n en)) g' a w := by
 unfold Go.Sh.frz1
 split
 ·rename_i own sz rows he;have hfe : (toS sl en).fe n = some (.flat own sz rows) := by simp [toS, he]
  obtain ⟨h1, h2, h3⟩ := toS_head (sl := sl) (en := en) (n := n) (e := .flat false sz rows);refine ⟨_, R.turn (n := n) (fun k => k = (n, none)) (fun m r h => by injection h) h1 h2 h3 (R.me n _ hfe).1 (fun m hm => by simp [namesE] at hm) ⟨rfl, rfl, fun p hp => ?_, fun r ver L sz' _ hr => ?_, fun ver _ => ?_⟩ ?_⟩
  ·simp only [lenSz, h3] at hp; simp only [lenSz, hfe]; exact hp
  ·obtain ⟨_, _, _, _, _, h, _⟩ := hr; rw [h3] at h; simp at h
  ·intro q1 q2 q3 q4 q5 h; rw [h3] at h; simp at h
  ·have hF : FlatOk w g.own (if own then some (n, none) else none) (g.base n) (g.cap n) sz rows := R.ents n _ hfe;show FlatOk w _ none (g.base n) (g.cap n) sz rows
   refine hF.mono (by simp) (fun b _ ho => ⟨?_, rfl⟩)
   cases own with
   | true => exact free_gone ho rfl
   | false => exact free_none ho
 ·rename_i own sz rows log he;have hfe : (toS sl en).fe n = some (.nest own sz rows [] log) := by simp [toS, he]
  obtain ⟨h1, h2, h3⟩ := toS_head (sl := sl) (en := en) (n := n) (e := .fnest own sz rows);refine ⟨_, R.turn (n := n) (fun k => k.1 = n /\ k.2 ≠ none) (fun m r h => h.1) h1 h2 h3 (R.me n _ hfe).1 (fun m hm => by simp [namesE] at hm) ⟨rfl, rfl, fun p hp => ?_, fun r ver L sz' _ hr => ?_, fun ver _ => ?_⟩ ?_⟩
  ·simp only [lenSz, h3] at hp; simp only [lenSz, hfe]; exact hp
  ·obtain ⟨_, _, _, _, _, h, _⟩ := hr; rw [h3] at h; simp at h
  ·intro q1 q2 q3 q4 q5 h; rw [h3] at h; simp at h
  ·have hN : NestOk w g.own (if own then some (n, none) else none) (fun i => if own then some (n, some i) else none) (g.base n) (g.cap n) (g.rbase n) (g.rcap n) sz rows [] := R.ents n _ hfe;show NestOk w _ (if own then some (n, none) else none) (fun _ => none) (g.base n) (g.cap n) (g.rbase n) (g.rcap n) sz rows []
   refine hN.mono id (fun b _ ho => ⟨?_, rfl⟩) (fun i h => by simp at h) (fun i b _ _ ho => ⟨?_, rfl⟩) (fun _ _ => ⟨rfl, rfl⟩)
   ·cases own with
    | true => exact free_kept ho (by simp)
    | false => exact free_none ho
   ·cases own with
    | true => exact free_gone ho (by simp)
    | false => exact free_none ho
 ·exact ⟨g, R⟩
theorem Rel.frz (fz : List Nat) : ∀ {en : En} {g : G}, Rel Mn O0 w0 nt (toS sl en) g a w -> ∃ g', Rel Mn O0 w0 nt (toS sl (frz fz en)) g' a w := by
 induction fz with
 | nil => intro en g R; exact ⟨g, R⟩
 | cons n r ih => intro en g R; obtain ⟨g', R'⟩ := R.frz1 n; exact ih R'
theorem Rel.weak {nx' : Nat} (R : Rel Mn O0 w0 nt (toS sl en) g a w) (h : Weak sl en sl' en' nx') : ∃ g', Rel (fun n => n < nx') O0 w0 nt (toS sl' en') g' a w := by
 obtain ⟨fz, h⟩ := h
 obtain ⟨g1, R1⟩ := R.frz fz
 exact R1.weak0 h
theorem Rel.same (R : Rel Mn O0 w0 nt s g a w) (h1 : w'.heap = w.heap) (h2 : w'.os = w.os) (h3 : Tp w w') (h4 : w'.output = w.output) : Rel Mn O0 w0 nt s g a w' :=
 { R with
   ents := fun n e he => (R.ents n e he).keep (fun _ _ _ _ => ⟨rfl, by rw [h1]⟩) (fun _ _ h => ⟨h, by rw [h1]⟩) rfl rfl (fun _ => rfl) (fun _ => rfl) (fun m _ => Less.refl _ _ _)
   bound := fun b k h => by rw [h1]; exact R.bound b k h
   frm := ⟨h2.trans R.frm.os, h3.trans R.frm.tape, h4.trans R.frm.output, by rw [h1]; exact R.frm.size, fun b hb hn => by rw [h1]; exact R.frm.block b hb hn⟩ }
end
end Go.Sh
namespace Go.Sh
variable [Fwd]
def CrOk (P : Program) (cr : CallR) : Prop := ∀ (f : Nat) (vs : List SV) (K : SV -> Sl -> En -> Nat -> Prop) (sl : Sl) (en : En) (nx : Nat), cr f vs K sl en nx ->
 ∀ (O0 : Nat -> Prop) (w0 : Base) (nt : Nat) (g : G) (a : Act) (w : World) (us : List Value), Rel (fun n => n < nx) O0 w0 nt (toS sl en) g a w -> All2 (VR3 (toS sl en) g) vs us -> (∀ n ∈ vs.flatMap names3, n < nx) ->
  (∃ fn, P.funcs[f]? = some fn /\ fn.name ≠ "runtime.NumGoroutine" /\ fn.body ≠ none) /\
  Calls P f us.toArray w fun e w' => ∃ v u sl' en' nx' g', e = .returned u /\ K v sl' en' nx' /\ VR3 (toS sl' en') g' v u /\ (∀ n ∈ names3 v, n < nx') /\ Rel (fun n => n < nx') O0 w0 nt (toS sl' en') g' a w'
section
variable {P : Program} {X : Cx} {O0 : Nat -> Prop} {w0 : Base} {nt : Nat} {g : G} {a : Act} {w : World} {sl : Sl} {en : En} {nx : Nat} {cr : CallR}
theorem Rel.slotT (R : Rel (fun n => n < nx) O0 w0 nt (toS sl en) g a w) {t : Nat} {v : SV} (h : lkT sl t = some v) : ∃ u, a.tmps[t]? = some u /\ VR3 (toS sl en) g v u /\ t < 1000000 /\ ∀ n ∈ names3 v, n < nx := by
 unfold lkT at h
 cases hb : Nat.blt t 1000000 with
 | false => rw [hb] at h; simp at h
 | true =>
  rw [hb] at h;have hlt : t < 1000000 := by simpa [Nat.blt_eq] using hb
  obtain ⟨u, hu, hr⟩ := R.slots t v h;rw [slotAt_lt hlt] at hu;exact ⟨u, hu, hr, hlt, R.ms t v h⟩
theorem svOf_sim (R : Rel (fun n => n < nx) O0 w0 nt (toS sl en) g a w) {o : Operand} {v : SV} (h : svOf sl o = some v) : VR3 (toS sl en) g v (a.eval o) /\ ∀ n ∈ names3 v, n < nx := by
 unfold svOf at h
 split at h
 ·obtain ⟨u, hu, hr, _, hn⟩ := R.slotT h;exact ⟨by simpa [Act.eval, Array.getD_eq_getD_getElem?, hu] using hr, hn⟩
 ·simp at h; subst h; exact ⟨rfl, fun n hn => by simp [names3, names2, names1] at hn⟩
 ·simp at h; subst h; exact ⟨rfl, fun n hn => by simp [names3, names2, names1] at hn⟩
 ·simp at h; subst h; exact ⟨rfl, fun n hn => by simp [names3, names2, names1] at hn⟩
 ·simp at h; subst h; exact ⟨⟨#[], rfl, rfl, fun i x y hx => by simp at hx⟩, fun n hn => by simp [names3, names2, namesL1] at hn⟩
 ·simp at h
theorem svsOf_sim (R : Rel (fun n => n < nx) O0 w0 nt (toS sl en) g a w) : ∀ {os : List Operand} {vs : List SV}, svsOf sl os = some vs -> All2 (VR3 (toS sl en) g) vs (os.map a.eval) /\ ∀ n ∈ vs.flatMap names3, n < nx := by
 intro os
 induction os with
 | nil => intro vs h; simp [svsOf] at h; subst h; exact ⟨⟨rfl, fun i x y hx => by simp at hx⟩, fun n hn => by simp at hn⟩
 | cons o os ih =>
  intro vs h;simp only [svsOf] at h;split at h
  ·rename_i v hv;split at h
   ·rename_i vs' hvs;simp at h; subst h
    obtain ⟨h1, h2⟩ := svOf_sim R hv;obtain ⟨h3, h4⟩ := ih hvs;refine ⟨⟨by simp [h3.1], fun i x y hx hy => ?_⟩, fun n hn => ?_⟩
    ·cases i with
     | zero => simp at hx hy; subst hx; subst hy; exact h1
     | succ i => exact h3.2 i x y (by simpa using hx) (by simpa using hy)
    ·simp only [List.flatMap_cons, List.mem_append] at hn;rcases hn with hn | hn
     ·exact h2 n hn
     ·exact h4 n hn
   ·simp at h
  ·simp at h
def putSl (d : Option Nat) (v : SV) (sl : Sl) : Sl := match d with | some d => (d, v) :: sl | none => sl
theorem Rel.putV (R : Rel (fun n => n < nx) O0 w0 nt (toS sl en) g a w) {v : SV} {u : Value} (hv : VR3 (toS sl en) g v u) (hn : ∀ n ∈ names3 v, n < nx) {d : Option Nat} (hd : ∀ t, d = some t -> t < nt) :
  Rel (fun n => n < nx) O0 w0 nt (toS (putSl d v sl) en) g (a.put d u) w := by
 have := R.put_pure (v := v) (u := u) hd hn (fun _ => hv)
 rw [<- toS_put sl en d v []] at this
 exact this
theorem inlP_sim (hcr : CrOk P cr) {o : Oper} {K : Sl -> En -> Nat -> Prop} (h : inlP cr X o K sl en nx) (R : Rel (fun n => n < nx) O0 w0 X.nt (toS sl en) g a w) {K' : Act -> World -> Prop} {Q : Exit -> Act -> World -> Prop}
  (hK : ∀ sl' en' nx' g' a' w', K sl' en' nx' -> Rel (fun n => n < nx') O0 w0 X.nt (toS sl' en') g' a' w' -> K' a' w') : o.wp P a w K' Q := by
 unfold inlP at h
 obtain ⟨dst, op, type, pos, after, guard⟩ := o
 simp only at h
 split at h
 ·rename_i c;obtain ⟨callee, args, argTypes⟩ := c;split at h
  ·rename_i f caps vs hcal hvs;obtain ⟨h1, h2⟩ := svsOf_sim R hvs;have key : ∀ (us : List Value), All2 (VR3 (toS sl en) g) (vs ++ caps) us -> (∀ n ∈ (vs ++ caps).flatMap names3, n < nx) ->
     (∀ fn, P.funcs[f]? = some fn -> fn.name ≠ "runtime.NumGoroutine" -> fn.body ≠ none -> (execOp a.eval ⟨dst, .call ⟨callee, args, argTypes⟩, type, pos, after, guard⟩).run P w = .ok (.enter f us.toArray) w) ->
     Oper.wp P ⟨dst, .call ⟨callee, args, argTypes⟩, type, pos, after, guard⟩ a w K' Q := by
    intro us hus hn he;obtain ⟨⟨fn, k1, k2, k3⟩, hcalls⟩ := hcr _ _ _ _ _ _ h O0 w0 X.nt g a w us R hus hn;unfold Oper.wp;rw [he fn k1 k2 k3];simp only [Oper.upon];refine Calls.mono hcalls ?_;rintro e w'' ⟨v, u, sl', en', nx', g', rfl, hk, hv, hnv, R'⟩
    cases dst with
    | none => exact hK _ _ _ _ _ _ hk (R'.putV (d := none) hv hnv (fun t h => by simp at h))
    | some d =>
     simp only at hk
     cases hb : Nat.blt d X.nt with
     | false => rw [hb] at hk; exact hk.elim
     | true =>
      rw [hb] at hk;exact hK _ _ _ _ _ _ hk (R'.putV (d := some d) hv hnv (fun t h => by injection h with h; subst h; simpa [Nat.blt_eq] using hb))
   unfold calleeOf at hcal;split at hcal
   ·rename_i f' hc;simp only [Option.some.injEq, Prod.mk.injEq] at hcal;obtain ⟨rfl, rfl⟩ := hcal;simp only at hc;subst hc;refine key (args.toList.map a.eval) (by simpa using h1) (by simpa using h2) (fun fn k1 k2 k3 => ?_);obtain ⟨c, hc⟩ := Option.ne_none_iff_exists'.1 k3;simp [execOp, resolve, invoke, Deferred.ofValue, callFunc, Act.eval, k1, k2, hc];simp [<- Array.toList_map]
   ·rename_i t hc;simp only at hc;subst hc;split at hcal
    ·rename_i f' caps' ht;simp only [Option.some.injEq, Prod.mk.injEq] at hcal;obtain ⟨rfl, rfl⟩ := hcal;obtain ⟨u, hu, hr, _, hn⟩ := R.slotT ht;obtain ⟨cs, rfl, hcs⟩ := hr;refine key (args.toList.map a.eval ++ cs.toList) ⟨by simp only [List.length_append, h1.1, hcs.1], fun i x y hx hy => ?_⟩ (fun n hm => ?_) (fun fn k1 k2 k3 => ?_)
     ·have hl : vs.length = (args.toList.map a.eval).length := h1.1;rcases Nat.lt_or_ge i vs.length with hi | hi
      ·rw [qLq hi] at hx;rw [qLq (by omega)] at hy;exact h1.2 i x y hx hy
      ·rw [qRq hi] at hx;rw [qRq (by omega), <- hl] at hy;exact VR3.one (hcs.2 _ x y hx hy)
     ·simp only [List.flatMap_append, List.mem_append] at hm;rcases hm with hm | hm
      ·exact h2 n hm
      ·refine hn n ?_;have : ∀ (l : List SV), (∀ (i : Nat) (x : SV), l[i]? = some x -> ∃ u, VR1 (toS sl en) g x u) -> n ∈ l.flatMap names3 -> n ∈ namesL1 l := by
        intro l
        induction l with
        | nil => intro _ h; simp at h
        | cons x l ih =>
         intro hh hm;simp only [List.flatMap_cons, List.mem_append] at hm;simp only [namesL1, List.mem_append];rcases hm with hm | hm
         ·obtain ⟨u, hu⟩ := hh 0 x rfl
          left
          cases x <;> first | exact hm | exact hu.elim
         ·exact .inr (ih (fun i y hy => hh (i + 1) y (by simpa using hy)) hm)
       refine this _ (fun i x hx => ?_) hm;have hlt : i < cs.toList.length := by rw [<- hcs.1]; exact (qSq.1 hx).1
       exact ⟨_, hcs.2 i x _ hx (qEq hlt)⟩
     ·obtain ⟨c, hc⟩ := Option.ne_none_iff_exists'.1 k3;simp [execOp, resolve, invoke, Deferred.ofValue, callFunc, Act.eval, k1, k2, hc, Array.getD_eq_getD_getElem?, hu]
    ·simp at hcal
   ·simp at hcal
  ·exact h.elim
 ·exact h.elim
theorem skipI_sim {o : Oper} {K : Sl -> En -> Nat -> Prop} (h : skipI X o K sl en nx) (R : Rel (fun n => n < nx) O0 w0 X.nt (toS sl en) g a w) {K' : Act -> World -> Prop}
  (hK : ∀ sl' en' nx' g' a' w', K sl' en' nx' -> Rel (fun n => n < nx') O0 w0 X.nt (toS sl' en') g' a' w' -> K' a' w') : K' (a.put o.dst undef) w := by
 unfold skipI at h
 have hu : VR3 (toS sl en) g .und undef := (rfl : undef = undef)
 cases hd : o.dst with
 | none => rw [hd] at h; exact hK _ _ _ _ _ _ h (R.putV (d := none) hu (fun n hn => by simp [names3, names2, names1] at hn) (fun t h => by simp at h))
 | some d =>
  rw [hd] at h;simp only at h
  cases hb : Nat.blt d X.nt with
  | false => rw [hb] at h; exact h.elim
  | true =>
   rw [hb] at h;exact hK _ _ _ _ _ _ h (R.putV (d := some d) hu (fun n hn => by simp [names3, names2, names1] at hn) (fun t h => by injection h with h; subst h; simpa [Nat.blt_eq] using hb))
theorem inlG_sim (hcr : CrOk P cr) {ops : Array Oper} {p : Nat} {o : Oper} (ho : ops[p]? = some o) {K : Sl -> En -> Nat -> Prop} (h : inlG cr X ops.toList o K sl en nx) (R : Rel (fun n => n < nx) O0 w0 X.nt (toS sl en) g a w) {K' : Act -> World -> Prop} {Q : Exit -> Act -> World -> Prop}
  (hK : ∀ sl' en' nx' g' a' w', K sl' en' nx' -> Rel (fun n => n < nx') O0 w0 X.nt (toS sl' en') g' a' w' -> K' a' w') : wpOp P ops Q p K' a w := by
 unfold inlG at h
 unfold wpOp
 rw [ho]
 simp only
 cases hg : o.guard with
 | none =>
  rw [hg] at h;rw [if_pos (wanted_none hg)];exact .inl (inlP_sim hcr h R hK)
 | some jw =>
  obtain ⟨j, want⟩ := jw;rw [hg] at h;simp only at h
  cases hd : dstOf ops.toList j with
  | none => rw [hd] at h; exact h.elim
  | some gs =>
   rw [hd] at h;simp only at h;have hdst : (ops[j]?).bind (·.dst) = some gs := by
    simp only [dstOf, nth_get] at hd;rw [<- Array.getElem?_toList]
    cases hq : ops.toList[j]? with
    | none => rw [hq] at hd; simp at hd
    | some q => rw [hq] at hd; simpa using hd
   rw [wanted_some hg]
   cases hv : lkT sl gs with
   | none => rw [hv] at h; exact h.elim
   | some x =>
    rw [hv] at h;obtain ⟨u, hu, hr, hlt, _⟩ := R.slotT hv;have hv' : lk sl gs = some x := by unfold lkT at hv; rw [show Nat.blt gs 1000000 = true by simpa [Nat.blt_eq] using hlt] at hv; exact hv
    cases x with
    | s c =>
     cases c with
     | i => exact h.elim
     | b c =>
      have hr : u = .bool c := hr;subst hr;have hy : yielded ops a.tmps j = some c := by simp [yielded, hdst, hu]
      rw [hy];simp only [Pick] at h;have R2 : Rel (fun n => n < nx) O0 w0 X.nt (toS ((gs, .s (.b c)) :: sl) en) g a w := by rw [toS_same hv']; exact R
      cases c <;> cases want <;> simp only [cond_true, cond_false] at h
      ·exact .inl (inlP_sim hcr h R2 hK)
      ·exact skipI_sim h R2 hK
      ·exact skipI_sim h R2 hK
      ·exact .inl (inlP_sim hcr h R2 hK)
    | und =>
     have hr : u = undef := hr;subst hr;have hy : yielded ops a.tmps j = none := by simp [yielded, hdst, hu, undef]
     rw [hy];exact skipI_sim h R hK
    | _ => exact h.elim
theorem segOf_eq (X : Cx) : ∀ (l : List Oper), (segOf X l).1 ++ (segOf X l).2 = l := by
 intro l
 induction l with
 | nil => rfl
 | cons o r ih =>
  simp only [segOf]
  cases inlOp X o with
  | true => rfl
  | false => simp only [cond_false, List.cons_append, ih]
theorem seq_sim (hT : TabOk P X.T) (hΓ : Sound P X.T X.Γ) {ops : Array Oper} {L : Nat -> List Nat × List Nat} {s' : S} {Q : Exit -> Act -> World -> Prop} {rest : List Nat} :
  ∀ (n i : Nat) (s : S) (g : G) (a : Act) (w : World), i + n <= ops.size -> (∀ g a w, Rel (fun m => m < nx + 16 * (i + n)) O0 w0 X.nt s' g a w -> Go.wpOps P ops Q rest a w) ->
   Runs X nx ops.toList L (List.range' i n) s s' -> Rel (fun m => m < nx + 16 * i) O0 w0 X.nt s g a w -> Go.wpOps P ops Q (List.range' i n ++ rest) a w := by
 intro n
 induction n with
 | zero =>
  intro i s g a w hi hQ hrun R;have : s = s' := hrun;subst this;exact hQ g a w R
 | succ n ih =>
  intro i s g a w hi hQ hrun R;simp only [List.range'_succ] at hrun ⊢;obtain ⟨s1, h1, h2⟩ := hrun;rw [List.cons_append, wpOps_cons];refine opRun_sim hT hΓ R (fun m hm hc => ?_) h1 (fun g' a' w' R' => ?_)
  ·have := hm.1; omega
  ·refine ih (i + 1) s1 g' a' w' (by omega) (fun g a w R => hQ g a w (by rw [show i + (n + 1) = i + 1 + n by omega]; exact R)) h2 (R'.wider (fun m hm => ?_));rcases hm with hm | hm
   ·omega
   ·have := hm.2; omega
theorem reg_seq (hcr : CrOk P cr) (hT : TabOk P X.T) (hΓ : Sound P X.T X.Γ) {draw : Bool} {ops : Array Oper} {Q : Sl -> En -> Nat -> Prop} {Q' : Exit -> Act -> World -> Prop}
  (hQ : ∀ sl en nx g a w, Q sl en nx -> Rel (fun n => n < nx) O0 w0 X.nt (toS sl en) g a w -> Q' .normal a w) :
  ∀ (fuel i : Nat) (l pre : List Oper) (sl : Sl) (en : En) (nx : Nat) (g : G) (a : Act) (w : World), ops.toList = pre ++ l -> pre.length = i -> wpReg cr X draw ops.toList Q fuel i l sl en nx ->
   Rel (fun n => n < nx) O0 w0 X.nt (toS sl en) g a w -> Go.wpOps P ops Q' (List.range' i l.length) a w := by
 intro fuel
 induction fuel with
 | zero => intro i l pre sl en nx g a w _ _ h; exact h.elim
 | succ fuel ih =>
  intro i l pre sl en nx g a w hall hi h R;unfold wpReg at h;have hsz : ops.size = pre.length + l.length := by have := congrArg List.length hall; simpa using this
  have hseg := segOf_eq X l
  cases hq : (segOf X l).2 with
  | nil =>
   have hp : segOf X l = ((segOf X l).1, []) := by rw [<- hq]
   rw [hp] at h;simp only [adv_eq] at h;rw [hq, List.append_nil] at hseg;rw [hseg] at h;rw [<- hi] at h;obtain ⟨L, sl', en', hrun, hq'⟩ := wpOps_runs (post := []) l pre sl en [] (by simpa using hall) h;have hq2 : Q sl' en' (nx + 16 * ops.toList.length) := by
    cases draw with
    | true => exact hq'.2
    | false => exact hq'
   rw [hi] at hrun;have := seq_sim (Q := Q') (rest := []) hT hΓ l.length i _ g a w (by omega) (fun g a w R => ?_) hrun (R.wider (fun m hm => by omega))
   ·simpa using this
   ·refine hQ _ _ _ _ _ _ hq2 (R.wider (fun m hm => ?_));simp only [Array.length_toList]; omega
  | cons c post =>
   have hp : segOf X l = ((segOf X l).1, c :: post) := by rw [<- hq]
   rw [hp] at h;simp only [adv_eq] at h;rw [hq] at hseg;generalize (segOf X l).1 = p at h hseg
   rw [<- hi] at h;obtain ⟨L, sl', en', hrun, hq'⟩ := wpOps_runs (post := c :: post) p pre sl en [] (by rw [hseg]; exact hall) h;have hq2 : inlG cr X ops.toList c (fun sl2 en2 nx2 => wpReg cr X draw ops.toList Q fuel (pre.length + p.length + 1) post sl2 en2 nx2) sl' en' (nx + 16 * ops.toList.length) := by
    cases draw with
    | true => exact hq'.2
    | false => exact hq'
   rw [hi] at hrun;have hlen : l.length = p.length + (post.length + 1) := by rw [<- hseg]; simp
   have hrg : List.range' i l.length = List.range' i p.length ++ (i + p.length) :: List.range' (i + p.length + 1) post.length := by
    rw [hlen, <- List.range'_append_1, List.range'_succ]
   rw [hrg];refine seq_sim hT hΓ p.length i _ g a w (by omega) (fun g a w R => ?_) hrun (R.wider (fun m hm => by omega));rw [wpOps_cons];refine inlG_sim hcr (p := i + p.length) (o := c) ?_ hq2 (R.wider (fun m hm => by simp only [Array.length_toList]; omega)) (fun sl2 en2 nx2 g2 a2 w2 hk R2 => ?_)
   ·rw [<- Array.getElem?_toList, hall, <- hseg, <- List.append_assoc, qRq (by simp; omega)];simp [hi]
   ·refine ih (i + p.length + 1) post (pre ++ p ++ [c]) sl2 en2 nx2 g2 a2 w2 (by rw [hall, <- hseg]; simp) (by simp; omega) (by rw [<- hi]; exact hk) R2
theorem reg_any (hcr : CrOk P cr) (hT : TabOk P X.T) (hΓ : Sound P X.T X.Γ) {ops : Array Oper} (hback : okBack ops.toList = true) {Q : Sl -> En -> Nat -> Prop} {Q' : Exit -> Act -> World -> Prop}
  (hQ : ∀ sl en nx g a w, Q sl en nx -> Rel (fun n => n < nx) O0 w0 X.nt (toS sl en) g a w -> Q' .normal a w) :
  ∀ (fuel i : Nat) (l pre : List Oper) (sl : Sl) (en : En) (nx : Nat), ops.toList = pre ++ l -> pre.length = i -> wpReg cr X true ops.toList Q fuel i l sl en nx ->
   ∀ (fuel' : Nat) (listed : Array Bool) (g : G) (a : Act) (w : World), listed.size = ops.size -> (rem 0 ops.size listed).length <= fuel' -> (∀ j, listed.getD j false = true ↔ j < i) ->
    (∀ i k, listed.getD i false = true -> ((anc ops.toList []).getD i 0).testBit k = true -> listed.getD k false = true) ->
    Rel (fun n => n < nx) O0 w0 X.nt (toS sl en) g a w -> wpAny P .any ops Q' fuel' listed a w := by
 have hb := back_of hback
 intro fuel
 induction fuel with
 | zero => intro i l pre sl en nx _ _ h; exact h.elim
 | succ fuel ih =>
  intro i l pre sl en nx hall hi h fuel' listed g a w hs hl hlist hdown R;unfold wpReg at h;have hsz : ops.size = pre.length + l.length := by have := congrArg List.length hall; simpa using this
  have hseg := segOf_eq X l;have hA : ∀ j, j < i -> listed.getD j false = true := fun j hj => (hlist j).2 hj
  have hnot : ∀ j, i <= j -> listed.getD j false = false := fun j hj => by
   cases hq : listed.getD j false with
   | false => rfl
   | true => have := (hlist j).1 hq; omega
  have hrem : ∀ n, i + n <= ops.size -> rem i (i + n) listed = List.range' i n := by
   intro n hn;rw [rem, show i + n - i = n by omega, List.filter_eq_self];intro j hj;have := List.mem_range'_1.1 hj;rw [getD_both (by omega), hnot j this.1]; rfl
  cases hq : (segOf X l).2 with
  | nil =>
   have hp : segOf X l = ((segOf X l).1, []) := by rw [<- hq]
   rw [hp] at h;simp only [adv_eq] at h;rw [hq, List.append_nil] at hseg;rw [hseg] at h;rw [<- hi] at h;obtain ⟨L, sl', en', hrun, hq'⟩ := wpOps_runs (post := []) l pre sl en [] (by simpa using hall) h;simp only [Drw, List.append_nil, List.reverse_reverse] at hq';have hok : okSeg ops.toList pre.length ((List.range' pre.length l.length).map L) = true := by
    exact hq'.1
   have hq2 : Q sl' en' (nx + 16 * ops.toList.length) := hq'.2;rw [hi] at hrun hok;have hend : i + l.length = ops.size := by omega
   refine any_seg (lo := i) (hi := i + l.length) hT hΓ (by omega) ⟨hb, free_of hok, fun hlt => by simp at hlt; omega⟩ (fun fuel2 listed2 g2 a2 w2 hs2 hl2 hli2 _ R2 => ?_) fuel' listed _ g a w hs hl hA (fun j hj => hnot j (by omega)) hdown (by rw [hrem _ (by omega)]; exact hrun) (R.wider (fun n hn => .inl hn));have hr0 : Region.ready .any ops listed2 = [] := by
    rw [List.eq_nil_iff_forall_not_mem];intro j hj;simp only [Region.ready, List.mem_filter, List.mem_range, Bool.and_eq_true, Bool.not_eq_true'] at hj;have h1 := (hli2 j).2 (by omega);rw [getD_both (by omega)] at hj;rw [h1] at hj;simp at hj
   have hfin : Q' .normal a2 w2 := hQ _ _ _ _ _ _ hq2 (R2.wider (fun m hm => by simp only [Array.length_toList]; omega))
   cases fuel2 with
   | zero => exact ⟨hr0, hfin⟩
   | succ n => exact ⟨fun _ => hfin, fun j hj => by rw [hr0] at hj; simp at hj⟩
  | cons c post =>
   have hp : segOf X l = ((segOf X l).1, c :: post) := by rw [<- hq]
   rw [hp] at h;simp only [adv_eq] at h;rw [hq] at hseg;generalize (segOf X l).1 = p at h hseg
   rw [<- hi] at h;obtain ⟨L, sl', en', hrun, hq'⟩ := wpOps_runs (post := c :: post) p pre sl en [] (by rw [hseg]; exact hall) h;simp only [Drw, List.append_nil, List.reverse_reverse] at hq';have hok := hq'.1;have hq2 : inlG cr X ops.toList c (fun sl2 en2 nx2 => wpReg cr X true ops.toList Q fuel (pre.length + p.length + 1) post sl2 en2 nx2) sl' en' (nx + 16 * ops.toList.length) := hq'.2;obtain ⟨hok, hbar⟩ := hok;rw [hi] at hrun hok hbar;have hlen : l.length = p.length + (post.length + 1) := by rw [<- hseg]; simp
   refine any_seg (lo := i) (hi := i + p.length) hT hΓ (by omega) ⟨hb, free_of hok, bar_of hbar⟩ (fun fuel2 listed2 g2 a2 w2 hs2 hl2 hli2 hdown2 R2 => ?_) fuel' listed _ g a w hs hl hA (fun j hj => hnot j (by omega)) hdown (by rw [hrem _ (by omega)]; exact hrun) (R.wider (fun n hn => .inl hn));have hhi : listed2.getD (i + p.length) false = false := by
    cases hq : listed2.getD (i + p.length) false with
    | false => rfl
    | true => have := (hli2 _).1 hq; omega
   have hin : i + p.length ∈ rem 0 ops.size listed2 := mem_rem.2 ⟨Nat.zero_le _, by omega, by rw [getD_both (by omega)]; exact hhi⟩
   cases fuel2 with
   | zero =>
    have : rem 0 ops.size listed2 = [] := List.length_eq_zero_iff.1 (by omega);rw [this] at hin; simp at hin
   | succ fuel2 =>
    refine ⟨fun hr => ?_, fun j hj => ?_⟩
    ·exfalso
     have := ready_none hb hs2 hr;rw [this] at hin; simp at hin
    obtain ⟨hjn, hju, hanc⟩ := ready_inv hb hdown2 hj;have hjge : i + p.length <= j := by
     rcases Nat.lt_or_ge j (i + p.length) with h | h
     ·have := (hli2 j).2 h;rw [getD_both (by omega)] at hju;rw [hju] at this; simp at this
     ·exact h
    have hje : j = i + p.length := by
     rcases Nat.eq_or_lt_of_le hjge with h | h
     ·exact h.symm
     ·exfalso
      have hlen2 : i + p.length < ops.toList.length := by simp; omega
      have := hanc _ ((bar_of hbar hlen2 j).2 h (by simpa using hjn));rw [hhi] at this; simp at this
    subst hje;refine inlG_sim hcr (p := i + p.length) (o := c) ?_ hq2 (R2.wider (fun m hm => by simp only [Array.length_toList]; omega)) (fun sl2 en2 nx2 g3 a3 w3 hk R3 => ?_)
    ·rw [<- Array.getElem?_toList, hall, <- hseg, <- List.append_assoc, qRq (by simp; omega)];simp [hi]
    ·refine ih (i + p.length + 1) post (pre ++ p ++ [c]) sl2 en2 nx2 (by rw [hall, <- hseg]; simp) (by simp; omega) (by rw [<- hi]; exact hk) fuel2 _ g3 a3 w3 (by simp [hs2]) (rem_less hs2 hjn hju hl2) (fun x => ?_) (down_set hdown2 (by omega) hanc) R3;rw [getD_set (by omega)];by_cases hx : x = i + p.length
     ·rw [if_pos hx]; constructor
      ·intro _; omega
      ·intro _; rfl
     ·rw [if_neg hx, hli2 x]; omega
theorem wpC_sim (hmix : P.follows .mixedOrders = true) (hcr : CrOk P cr) (hT : TabOk P X.T) (hΓ : Sound P X.T X.Γ) : ∀ (c : Code) (Q : Post) (Q' : Exit -> Act -> World -> Prop),
  (∀ e sl en nx g a w, Q e sl en nx -> Rel (fun n => n < nx) O0 w0 X.nt (toS sl en) g a w -> Q' e a w) ->
  ∀ (sl : Sl) (en : En) (nx : Nat) (g : G) (a : Act) (w : World), wpC cr X c Q sl en nx -> Rel (fun n => n < nx) O0 w0 X.nt (toS sl en) g a w -> c.wp P Q' a w := by
 intro c
 induction c with
 | skip => intro Q Q' hQ sl en nx g a w h R; exact wp_skip (hQ _ _ _ _ _ _ _ h R)
 | label l => intro Q Q' hQ sl en nx g a w h R; exact wp_label (hQ _ _ _ _ _ _ _ h R)
 | exit id => intro Q Q' hQ sl en nx g a w h R; exact wp_exit (hQ _ _ _ _ _ _ _ h R)
 | ret => intro Q Q' hQ sl en nx g a w h R; exact wp_ret (hQ _ _ _ _ _ _ _ h R)
 | region id ops draw =>
  intro Q Q' hQ sl en nx g a w h R;simp only [wpC] at h;have hlen : ops.toList.length = ops.size := by simp
  cases draw with
  | false =>
   simp only [Bool.not_false, Bool.true_or, cond_true] at h;refine wp_region ?_;have := reg_seq hcr hT hΓ (fun sl en nx g a w hq R => hQ _ _ _ _ _ _ _ hq R) _ 0 ops.toList [] sl en nx g a w rfl rfl h R
   rwa [hlen, <- List.range_eq_range'] at this
  | true =>
   simp only [Bool.not_true, Bool.false_or] at h
   cases hbk : okBack ops.toList with
   | false => rw [hbk] at h; exact h.elim
   | true =>
    rw [hbk] at h;refine wp_region_any hmix ?_;have hfalse : ∀ j, (Array.replicate ops.size false).getD j false = false := fun j => by
     simp only [Array.getD_eq_getD_getElem?];by_cases hlt : j < ops.size
     ·simp [hlt]
     ·simp [hlt]
    have hle : (rem 0 ops.size (Array.replicate ops.size false)).length <= ops.size := by
     have := List.length_filter_le (fun i => !(Array.replicate ops.size false).getD i true) (List.range' 0 (ops.size - 0));simpa [rem] using this
    refine reg_any hcr hT hΓ hbk (fun sl en nx g a w hq R => hQ _ _ _ _ _ _ _ hq R) _ 0 ops.toList [] sl en nx rfl rfl h ops.size _ g a _ (by simp) hle (fun j => ?_) (fun i k hi => ?_) (Rel.same (w' := { w with drawn := w.drawn + 1 }) R rfl rfl ⟨rfl, fun _ => Nat.le_succ _⟩ rfl)
    ·rw [hfalse j]; simp
    ·rw [hfalse i] at hi; simp at hi
 | seq x y ihx ihy =>
  intro Q Q' hQ sl en nx g a w h R;refine wp_seq (ihx _ _ (fun e sl en nx g a w hq R => ?_) sl en nx g a w h R)
  cases e with
  | normal => exact ihy Q Q' hQ sl en nx g a w hq R
  | _ => exact hQ _ _ _ _ _ _ _ hq R
 | cond o x y ihx ihy =>
  intro Q Q' hQ sl en nx g a w h R
  cases o with
  | tmp t =>
   have key : ∀ (Q : Post) (Q' : Exit -> Act -> World -> Prop), (∀ e sl en nx g a w, Q e sl en nx -> Rel (fun n => n < nx) O0 w0 X.nt (toS sl en) g a w -> Q' e a w) ->
     condP t (wpC cr X x) (wpC cr X y) Q sl en nx -> (Code.cond (.tmp t) x y).wp P Q' a w := ?_
   ·simp only [wpC] at h
    cases hj : X.jc.elem (X.nt * 1000 + t) with
    | false => rw [hj] at h; exact key Q Q' hQ h
    | true =>
     rw [hj, cond_true] at h;unfold JoinP at h;obtain ⟨α, I, A, B, nx2, h1, h2⟩ := h;refine key _ _ (fun e sl en nx g a w hq R => ?_) h1
     cases e with
     | normal =>
      obtain ⟨z, hz, hwk⟩ := hq;obtain ⟨g2, R2⟩ := R.weak hwk;exact hQ _ _ _ _ _ _ _ (h2 z hz) R2
     | exit i => exact hQ _ _ _ _ _ _ _ hq R
     | _ => exact hQ _ _ _ _ _ _ _ hq R
   clear h hQ Q Q'
   intro Q Q' hQ h;simp only [condP, lkT] at h
   cases hb : Nat.blt t 1000000 with
   | false => rw [hb] at h; exact h.elim
   | true =>
   rw [hb] at h;have hlt : t < 1000000 := by simpa [Nat.blt_eq] using hb
   simp only [cond_true] at h
   cases hv : lk sl t with
   | none => rw [hv] at h; exact h.elim
   | some v =>
    rw [hv] at h
    cases v with
    | s z =>
     cases z with
     | i => exact h.elim
     | b c =>
      simp only at h;obtain ⟨u, hu, hr⟩ := R.slots t _ hv;rw [slotAt_lt hlt] at hu;have hr : u = .bool c := hr;subst hr;have he : a.eval (.tmp t) = .bool c := by simp [Act.eval, Array.getD_eq_getD_getElem?, hu]
      cases c with
      | true => exact wp_cond_true he (ihx Q Q' hQ _ en nx g a w h (by rw [toS_same hv]; exact R))
      | false => exact wp_cond_false he (ihy Q Q' hQ _ en nx g a w h (by rw [toS_same hv]; exact R))
    | _ => exact h.elim
  | const v =>
   cases v with
   | bool c =>
    cases c with
    | true => exact wp_cond_true rfl (ihx Q Q' hQ _ en nx g a w h R)
    | false => exact wp_cond_false rfl (ihy Q Q' hQ _ en nx g a w h R)
   | _ => exact h.elim
  | _ => exact h.elim
 | scope c ih =>
  intro Q Q' hQ sl en nx g a w h R;simp only [wpC] at h;refine wp_scope_straight (ih _ _ (fun e sl en nx g a w hq R => ?_) sl en nx g a w h R)
  cases e with
  | goto l => exact hq.elim
  | _ => exact hQ _ _ _ _ _ _ _ hq R
 | block id c ih =>
  intro Q Q' hQ sl en nx g a w h R;simp only [wpC] at h
  cases hj : X.join.elem (X.nt * 1000 + id) with
  | true =>
   rw [hj, cond_true] at h;unfold JoinP at h;obtain ⟨α, I, A, B, nx2, h1, h2⟩ := h;have fin : ∀ (sl : Sl) (en : En) (nx : Nat) (g : G) (a : Act) (w : World), (∃ z, I z /\ Weak sl en (A z) (B z) nx2) -> Rel (fun n => n < nx) O0 w0 X.nt (toS sl en) g a w -> Q' .normal a w := fun sl en nx g a w hq R => by
    obtain ⟨z, hz, hwk⟩ := hq;obtain ⟨g2, R2⟩ := R.weak hwk;exact hQ _ _ _ _ _ _ _ (h2 z hz) R2
   refine wp_block (ih _ _ (fun e sl en nx g a w hq R => ?_) sl en nx g a w h1 R)
   cases e with
   | normal => exact fin _ _ _ _ _ _ hq R
   | exit i =>
    simp only at hq;simp only [Exit.inBlock];by_cases hi : i = id
    ·subst hi;rw [Nat.beq_refl, cond_true] at hq;rw [if_pos rfl]; exact fin _ _ _ _ _ _ hq R
    ·have : Nat.beq i id = false := by cases hb : Nat.beq i id with
      | false => rfl
      | true => exact absurd (qBq hb) hi
     rw [this, cond_false] at hq;rw [if_neg hi]; exact hQ _ _ _ _ _ _ _ hq R
   | _ => exact hQ _ _ _ _ _ _ _ hq R
  | false =>
  rw [hj, cond_false] at h;refine wp_block (ih _ _ (fun e sl en nx g a w hq R => ?_) sl en nx g a w h R)
  cases e with
  | exit i =>
   simp only at hq;simp only [Exit.inBlock];by_cases hi : i = id
   ·subst hi;rw [Nat.beq_refl, cond_true] at hq;rw [if_pos rfl]; exact hQ _ _ _ _ _ _ _ hq R
   ·have : Nat.beq i id = false := by cases hb : Nat.beq i id with
     | false => rfl
     | true => exact absurd (qBq hb) hi
    rw [this, cond_false] at hq;rw [if_neg hi]; exact hQ _ _ _ _ _ _ _ hq R
  | _ => exact hQ _ _ _ _ _ _ _ hq R
 | loop c ih =>
  intro Q Q' hQ sl en nx0 g a w h R;simp only [wpC] at h;unfold LoopP at h;obtain ⟨α, I, μ, A, B, nx, x, hI, hW, hround⟩ := h;obtain ⟨g1, R1⟩ := R.weak hW;refine wp_loop_ghost (fun n a w => ∃ x, I x /\ μ x = n /\ ∃ g, Rel (fun m => m < nx) O0 w0 X.nt (toS (A x) (B x)) g a w) (μ x) ⟨x, hI, rfl, g1, R1⟩ ?_;rintro n a w ⟨y, hy, rfl, g, R⟩;refine ih _ _ (fun e sl en nx' g' a' w' hq R' => ?_) _ _ _ g a w (hround y hy) R
  cases e with
  | normal =>
   obtain ⟨z, hz, hlt, hwk⟩ := hq;obtain ⟨g2, R2⟩ := R'.weak hwk;exact ⟨μ z, hlt, z, hz, rfl, g2, R2⟩
  | _ => exact hQ _ _ _ _ _ _ _ hq R'
 | _ => intro Q Q' hQ sl en nx g a w h R; exact h.elim
end
end Go.Sh
namespace Go.Sh
variable [Fwd]
def cellP (en : En) : SV -> C -> Prop
 | .s x, .s y => x = y
 | .nils, .flat true sz rows => rows = [] /\ Nat.blt 0 sz = true
 | .nils, .nest true sz rows => rows = [] /\ Nat.blt 0 sz = true
 | .sl n none sub, .flat true sz rows => match lk en n with
  | some (some (.flat true sz' rows')) => sz = sz' /\ rows = cut sub rows'
  | _ => False
 | .sl n (some (i, ver)) sub, .flat true sz rows => match lk en n with
  | some (some (.nest true sz' rows' holes log)) => sz = sz' /\ i ∉ holes /\ (∀ c ∈ log.take (log.length - ver), c ≠ i) /\ ∃ fl, rows'[i]? = some fl /\ rows = cut sub fl
  | _ => False
 | .sl n none none, .nest true sz rows => match lk en n with
  | some (some (.nest true sz' rows' [] _)) => sz = sz' /\ rows = rows'
  | _ => False
 | _, _ => False
def cellsP (en : En) : List SV -> List C -> Prop
 | [], [] => True
 | v :: vs, c :: cs => cellP en v c /\ cellsP en vs cs
 | _, _ => False
def V1P (en : En) (v : SV) (x : V) : Prop :=
 match v, x with
 | .agg l, .agg cs => cellsP en l cs
 | v, .one c => cellP en v c
 | _, _ => False
def V1sP (en : En) : List SV -> List V -> Prop
 | [], [] => True
 | v :: vs, x :: xs => V1P en v x /\ V1sP en vs xs
 | _, _ => False
def roots : List SV -> List Nat
 | [] => []
 | .sl n _ _ :: r => n :: roots r
 | _ :: r => roots r
def svCells : SV -> List SV
 | .agg l => l
 | v => [v]
def one1 : List SV -> Bool
 | [_] => true
 | _ => false
def oneP (en : En) (r : V) : List SV -> Prop
 | [v] => V1P en v r
 | _ => False
def ansP (en : En) (r : V) (vs : List SV) : Prop :=
 dup (roots (vs.flatMap svCells)) = false /\ match r with
  | .tup l => one1 vs = false /\ V1sP en vs l
  | r => oneP en r vs
def packV : List Value -> Value
 | [u] => u
 | us => .tuple us.toArray
def posOf : List SV -> Nat -> Nat -> Option (Nat × Option Nat)
 | [], _, _ => none
 | .sl m row _ :: r, n, q => if m = n then some (q, row.map (·.1)) else posOf r n (q + 1)
 | _ :: r, n, q => posOf r n (q + 1)
theorem roots_mem {cells : List SV} {j n : Nat} {row sub : Option (Nat × Nat)} (h : cells[j]? = some (.sl n row sub)) : n ∈ roots cells := by
 induction cells generalizing j with
 | nil => simp at h
 | cons v r ih =>
  cases j with
  | zero => simp at h; subst h; simp [roots]
  | succ j =>
   have := ih (by simpa using h);cases v <;> simp [roots, this]
theorem posOf_at {cells : List SV} (hd : dup (roots cells) = false) {j n : Nat} {row sub : Option (Nat × Nat)} (h : cells[j]? = some (.sl n row sub)) : ∀ q, posOf cells n q = some (q + j, row.map (·.1)) := by
 induction cells generalizing j with
 | nil => simp at h
 | cons v r ih =>
  intro q;have hd' : dup (roots r) = false := by
   cases v <;> simp only [roots] at hd <;> first | exact hd | (simp only [dup, Bool.or_eq_false_iff] at hd; exact hd.2)
  cases j with
  | zero => simp at h; subst h; simp [posOf]
  | succ j =>
   have h' : r[j]? = some (.sl n row sub) := by simpa using h
   have hi := ih hd' h' (q + 1);rw [show q + 1 + j = q + (j + 1) by omega] at hi
   cases v with
   | sl m row' sub' =>
    simp only [posOf];rw [if_neg]
    ·exact hi
    ·rintro rfl;simp only [roots, dup, Bool.or_eq_false_iff] at hd;have := roots_mem h';have h1 := hd.1;simp at h1;exact h1 this
   | _ => simp only [posOf]; exact hi
def labOf (own : Nat -> Option Key) (cells : List SV) (b : Nat) : Option Key :=
 match own b with
 | none => none
 | some (n, x) => match posOf cells n 0 with
  | none => none
  | some (q, none) => some (q, x)
  | some (q, some i) => if x = some i then some (q, none) else none
section
variable {P : Program} {X : Cx} {Mn O0 : Nat -> Prop} {w0 : Base} {w w' : World} {nt : Nat} {s : S} {g : G} {a : Act} {nx : Nat} {sl : Sl} {en : En}
theorem fe_lk {n : Nat} {e : Ent} (h : lk en n = some (some e)) : (toS sl en).fe n = some e := by simp [toS, h]
theorem cell_out (R : Rel Mn O0 w0 nt (toS sl en) g a w) {all : List SV} (hd : dup (roots all) = false) {j : Nat} {v : SV} (hj : all[j]? = some v) {c : C} {u : Value} (h : cellP en v c) (hv : VR1 (toS sl en) g v u) : CellOk w (labOf g.own all) j c u := by
 unfold cellP at h
 split at h
 ·subst h; exact ⟨⟨none, 0, fun _ => none, fun _ => 0⟩, hv⟩
 ·obtain ⟨rfl, hz⟩ := h;exact ⟨⟨none, 0, fun _ => none, fun _ => 0⟩, hv, FlatOk.nil (by simpa [Nat.blt_eq] using hz)⟩
 ·obtain ⟨rfl, hz⟩ := h;exact ⟨⟨none, 0, fun _ => none, fun _ => 0⟩, hv, by simp, by simpa [Nat.blt_eq] using hz, fun i fl h => by simp at h, fun i fl h => by simp at h, fun _ => .inl ⟨rfl, rfl⟩⟩
 ·rename_i n sub sz rows;split at h
  ·rename_i sz' rows' he;obtain ⟨rfl, rfl⟩ := h;have hF : FlatOk w g.own (some (n, none)) (g.base n) (g.cap n) sz rows' := R.ents n _ (fe_lk he);obtain ⟨A, len, cap, rfl, hs⟩ := hv;obtain ⟨k1, k2⟩ := hF.sub (hs rows'.length sz (by simp [lenSz, fe_lk he]));subst k2;have hp := posOf_at hd hj 0;exact ⟨⟨A, cap, fun _ => none, fun _ => 0⟩, rfl, k1.mono (fun _ => rfl) (fun b _ ho => ⟨by simp [labOf, ho, hp], rfl⟩)⟩
  ·exact h.elim
 ·rename_i n i ver sub sz rows;split at h
  ·rename_i sz' rows' holes log he;obtain ⟨rfl, h1, h2, fl, h3, rfl⟩ := h;have hN : NestOk w g.own (some (n, none)) (fun i => some (n, some i)) (g.base n) (g.cap n) (g.rbase n) (g.rcap n) sz rows' holes := R.ents n _ (fe_lk he);obtain ⟨_, A, len, cap, rfl, hs⟩ := hv;obtain ⟨k1, k2⟩ := (hN.row i fl h3 h1).sub (hs fl.length sz ⟨_, _, _, _, fl, fe_lk he, h1, h2, h3, rfl⟩);subst k2;have hp := posOf_at hd hj 0;exact ⟨⟨A, cap, fun _ => none, fun _ => 0⟩, rfl, k1.mono (fun _ => rfl) (fun b _ ho => ⟨by simp [labOf, ho, hp], rfl⟩)⟩
  ·exact h.elim
 ·rename_i n sz rows;split at h
  ·rename_i sz' rows' log he;obtain ⟨rfl, rfl⟩ := h;have hN : NestOk w g.own (some (n, none)) (fun i => some (n, some i)) (g.base n) (g.cap n) (g.rbase n) (g.rcap n) sz rows [] := R.ents n _ (fe_lk he);obtain ⟨A, len, cap, rfl, hs⟩ := hv;obtain ⟨rfl, rfl, rfl⟩ := hs rows.length 1 (by simp [lenSz, fe_lk he]);have hp := posOf_at hd hj 0;exact ⟨⟨_, _, g.rbase n, g.rcap n⟩, rfl, hN.mono (fun _ => rfl) (fun b _ ho => ⟨by simp [labOf, ho, hp], rfl⟩) (fun _ _ => rfl) (fun i b _ _ ho => ⟨by simp [labOf, ho, hp], rfl⟩) (fun _ _ => ⟨rfl, rfl⟩)⟩
  ·exact h.elim
 ·exact h.elim
theorem cells_out (R : Rel Mn O0 w0 nt (toS sl en) g a w) {all : List SV} (hd : dup (roots all) = false) : ∀ {l : List SV} {cs : List C} {us : List Value} {q : Nat}, (∀ i v, l[i]? = some v -> all[q + i]? = some v) -> cellsP en l cs -> All2 (VR1 (toS sl en) g) l us -> CellsOk w (labOf g.own all) q cs us := by
 intro l
 induction l with
 | nil =>
  intro cs us q hq h hv
  cases cs with
  | nil => cases us with
   | nil => exact trivial
   | cons _ _ => have := hv.1; simp at this
  | cons _ _ => exact h.elim
 | cons v l ih =>
  intro cs us q hq h hv
  cases cs with
  | nil => exact h.elim
  | cons c cs =>
   cases us with
   | nil => have := hv.1; simp at this
   | cons u us =>
    exact ⟨cell_out R hd (by have := hq 0 v rfl; simpa using this) h.1 (hv.2 0 v u rfl rfl), ih (fun i v' hi => by rw [show q + 1 + i = q + (i + 1) by omega]; exact hq (i + 1) v' (by simpa using hi)) h.2 ⟨by have := hv.1; simpa using this, fun i p r hp hr => hv.2 (i + 1) p r (by simpa using hp) (by simpa using hr)⟩⟩
theorem cellsP_length : ∀ {l : List SV} {cs : List C}, cellsP en l cs -> l.length = cs.length := by
 intro l
 induction l with
 | nil => intro cs h; cases cs with
  | nil => rfl
  | cons _ _ => exact h.elim
 | cons v l ih => intro cs h; cases cs with
  | nil => exact h.elim
  | cons c cs => simp [ih h.2]
theorem cellP_one {v : SV} {c : C} (h : cellP en v c) : svCells v = [v] /\ ∀ {s : S} {g : G} {u : Value}, VR2 s g v u -> VR1 s g v u := by
 cases v with
 | agg l => exact h.elim
 | fn f l => cases c <;> exact h.elim
 | _ => exact ⟨rfl, fun h => h⟩
theorem v1_out (R : Rel Mn O0 w0 nt (toS sl en) g a w) {all : List SV} (hd : dup (roots all) = false) {v : SV} {x : V} {u : Value} {q : Nat} (hq : ∀ i z, (svCells v)[i]? = some z -> all[q + i]? = some z) (h : V1P en v x) (hv : VR2 (toS sl en) g v u) :
  V1Ok w (labOf g.own all) q x u /\ (svCells v).length = width x := by
 unfold V1P at h
 split at h
 ·obtain ⟨cs, rfl, hc⟩ := hv;exact ⟨⟨cs, rfl, cells_out R hd hq h hc⟩, cellsP_length h⟩
 ·obtain ⟨h1, h2⟩ := cellP_one h;refine ⟨cell_out R hd (by have := hq 0 v (by rw [h1]; rfl); simpa using this) h (h2 hv), by rw [h1]; rfl⟩
 ·exact h.elim
theorem v1s_out (R : Rel Mn O0 w0 nt (toS sl en) g a w) {all : List SV} (hd : dup (roots all) = false) : ∀ {vs : List SV} {xs : List V} {us : List Value} {q : Nat}, (∀ i z, (vs.flatMap svCells)[i]? = some z -> all[q + i]? = some z) -> V1sP en vs xs -> All2 (VR2 (toS sl en) g) vs us -> V1sOk w (labOf g.own all) q xs us := by
 intro vs
 induction vs with
 | nil =>
  intro xs us q _ h hv
  cases xs with
  | nil => cases us with
   | nil => exact trivial
   | cons _ _ => have := hv.1; simp at this
  | cons _ _ => exact h.elim
 | cons v vs ih =>
  intro xs us q hq h hv
  cases xs with
  | nil => exact h.elim
  | cons x xs =>
   cases us with
   | nil => have := hv.1; simp at this
   | cons u us =>
    obtain ⟨k1, k2⟩ := v1_out R hd (v := v) (q := q) (fun i z hz => hq i z (by simp only [List.flatMap_cons]; rw [qLq (qSq.1 hz).1]; exact hz)) h.1 (hv.2 0 v u rfl rfl);refine ⟨k1, ih (fun i z hz => ?_) h.2 ⟨by have := hv.1; simpa using this, fun i p r hp hr => hv.2 (i + 1) p r (by simpa using hp) (by simpa using hr)⟩⟩;rw [<- k2, Nat.add_assoc];refine hq _ z ?_;simp only [List.flatMap_cons];rw [qRq (by omega), show (svCells v).length + i - (svCells v).length = i by omega];exact hz
end
end Go.Sh
namespace Go.Sh
variable [Fwd]
def cellsIn (vs : List V) : List C := vs.flatMap flatC
def inS (vs : List V) : Sl := slIn 0 (svVs 0 vs)
def inE (vs : List V) : En := wsVs 0 vs
def resRun (tmps : Array Value) : ResultVar -> Sem Value
 | .tmp t => pure (tmps.getD t undef)
 | .cell a t => do loadVar t (<- asAddr (tmps.getD a undef))
theorem slIn_lk : ∀ (l : List SV) (i t : Nat) (v : SV), lk (slIn i l) t = some v -> i <= t /\ l[t - i]? = some v := by
 intro l
 induction l with
 | nil => intro i t v h; simp [slIn, lk] at h
 | cons x r ih =>
  intro i t v h;simp only [slIn, lk] at h
  cases hb : Nat.beq i t with
  | true =>
   rw [hb] at h;have := qBq hb;subst this;simp only [cond_true, Option.some.injEq] at h;subst h;exact ⟨Nat.le_refl _, by simp⟩
  | false =>
   rw [hb] at h;obtain ⟨h1, h2⟩ := ih (i + 1) t v h;refine ⟨by omega, ?_⟩;rw [show t - i = (t - (i + 1)) + 1 by omega, List.getElem?_cons_succ];exact h2
theorem putW_fe_congr {s s' : S} (h : ∀ n, s.fe n = s'.fe n) : ∀ (ws : Ws) (n : Nat), (s.putW ws).fe n = (s'.putW ws).fe n := by
 intro ws
 induction ws with
 | nil => exact h
 | cons p q ih =>
  obtain ⟨m, e⟩ := p;intro n;simp only [S.putW, S.setE];split
  ·rfl
  ·exact ih n
section
variable {P : Program} {X : Cx} {O0 : Nat -> Prop} {w0 : Base} {w w' : World} {nt : Nat} {s : S} {g : G} {a : Act} {nx : Nat} {sl : Sl} {en : En} {cr : CallR}
theorem loadAgg_run (hT : TabOk P X.T) {t : Nat} {ti : TI} (ht : lk X.T t = some ti) (ha : ti.isAgg = true) {b : Nat} {arr : Array Value} {ty : TypeId} (hh : w.heap[b]? = some (.cells arr ty (0, 0))) (hsz : arr.size = ti.size) :
  (loadVar t ⟨b, 0, none⟩).run P w = .ok (.agg arr) w := by
 have tk := hT t ti ht
 have hcl := run_loadCells_list (P := P) w ⟨b, 0, none⟩ arr.toList (fun j x hj => by
  rw [Addr.add_plain, cells_at hh]; simpa using hj)
 simp only [Array.length_toList, hsz] at hcl
 simp [loadVar, tk.run_agg w, ha, tk.run_size w, hcl]
theorem resP_run (hT : TabOk P X.T) (R : Rel (fun n => n < nx) O0 w0 nt (toS sl en) g a w) : ∀ (rs : List ResultVar) (K : List SV -> Prop), resP X.T sl en rs K ->
  ∃ vs us, (rs.mapM (resRun a.tmps)).run P w = .ok us w /\ All2 (VR3 (toS sl en) g) vs us /\ K vs /\ ∀ n ∈ vs.flatMap names3, n < nx := by
 intro rs
 induction rs with
 | nil => intro K h; exact ⟨[], [], by simp, ⟨rfl, fun i x y hx => by simp at hx⟩, h, fun n hn => by simp at hn⟩
 | cons r rs ih =>
  intro K h;have fin : ∀ (v : SV) (u : Value), (∀ n ∈ names3 v, n < nx) -> (resRun a.tmps r).run P w = .ok u w -> VR3 (toS sl en) g v u -> resP X.T sl en rs (fun vs => K (v :: vs)) ->
    ∃ vs us, ((r :: rs).mapM (resRun a.tmps)).run P w = .ok us w /\ All2 (VR3 (toS sl en) g) vs us /\ K vs /\ ∀ n ∈ vs.flatMap names3, n < nx := by
   intro v u hnv hu hv hk;obtain ⟨vs, us, h1, h2, h3, h4⟩ := ih _ hk;refine ⟨v :: vs, u :: us, ?_, ⟨by simp [h2.1], fun i x y hx hy => ?_⟩, h3, fun n hn => ?_⟩
   ·simp only [List.mapM_cons, Sem.run_bind, hu, Result.andThen_ok, h1, Sem.run_pure]
   ·cases i with
    | zero => simp at hx hy; subst hx; subst hy; exact hv
    | succ i => exact h2.2 i x y (by simpa using hx) (by simpa using hy)
   ·simp only [List.flatMap_cons, List.mem_append] at hn;rcases hn with hn | hn
    ·exact hnv n hn
    ·exact h4 n hn
  cases r with
  | tmp t =>
   simp only [resP] at h
   cases hv : lkT sl t with
   | none => rw [hv] at h; exact h.elim
   | some v =>
    rw [hv] at h;obtain ⟨u, hu, hr, _, hnv⟩ := R.slotT hv;exact fin v u hnv (by simp [resRun, Array.getD_eq_getD_getElem?, hu]) hr h
  | cell x t =>
   simp only [resP] at h;split at h
   ·rename_i n hv;split at h
    ·rename_i ti ht;split at h
     ·rename_i cs he;obtain ⟨u, hu, hr, _, _⟩ := R.slotT hv;obtain ⟨b, hb, rfl⟩ := hr;have hmn := (R.me n _ (fe_lk he)).2;obtain ⟨b', arr, ty, hb', ho, hh, hcs⟩ := R.ents n _ (fe_lk he);rw [hb] at hb';injection hb' with hb'
      injection hb' with hb'
      subst hb';have haddr : (asAddr (a.tmps.getD x undef)).run P w = .ok ⟨b, 0, none⟩ w := by
       simp [Array.getD_eq_getD_getElem?, hu, asAddr]
      cases hagg : ti.isAgg with
      | true =>
       rw [hagg] at h;simp only [cond_true] at h
       cases hq : Nat.beq cs.length ti.size with
       | false => rw [hq] at h; exact h.elim
       | true =>
        rw [hq] at h;have hsz : arr.size = ti.size := by
         have := qBq hq;have h1 := hcs.1;simp at h1;omega
        exact fin (.agg cs) (.agg arr) hmn (by simp only [resRun, Sem.run_bind, haddr, Result.andThen_ok]; exact loadAgg_run hT ht hagg hh hsz) ⟨arr, rfl, hcs⟩ h
      | false =>
       rw [hagg] at h;simp only [cond_false] at h;split at h
       ·rename_i v;have h1 := hcs.1;simp at h1;obtain ⟨u, hua⟩ : ∃ u, arr.toList = [u] := List.length_eq_one_iff.1 (by simpa using h1.symm);have hcell : w.cell? ⟨b, 0, none⟩ = some u := by
         rw [cells_at hh, <- Array.getElem?_toList, hua]; rfl
        have hr := hcs.2 0 v u rfl (by rw [hua]; rfl);refine fin v u (fun n hn => hmn n (by have : names3 v = names1 v := by { cases v <;> first | rfl | exact hr.elim }; rw [this] at hn; simp [namesE, namesL1, hn])) ?_ (VR3.one hr) h;simp only [resRun, Sem.run_bind, haddr, Result.andThen_ok];simp [loadVar, (hT t ti ht).run_agg w, hagg, run_load, hcell]
       ·exact h.elim
     ·rename_i own sz rows he
      cases hgr : (isGreat ti && Nat.beq sz 1) with
      | false => rw [hgr] at h; exact h.elim
      | true =>
      rw [hgr] at h;simp only [cond_true] at h;simp only [Bool.and_eq_true] at hgr;obtain ⟨hg, hsz⟩ := hgr;have hsz := qBq hsz;subst hsz;obtain ⟨hl, h⟩ := h;obtain ⟨u, hu, hr, _, _⟩ := R.slotT hv;obtain ⟨b, hb, rfl⟩ := hr;have haddr : (asAddr (a.tmps.getD x undef)).run P w = .ok ⟨b, 0, none⟩ w := by
       simp [Array.getD_eq_getD_getElem?, hu, asAddr]
      have hagg : ti.isAgg = true := isGreat_agg hg;have hF : FlatOk w g.own (if own then some (n, none) else none) (g.base n) (g.cap n) 1 rows := R.ents n _ (fe_lk he);have hul := unvec_map hF.even;have hcl := run_loadCells_list (P := P) w ⟨b, 0, none⟩ ((unvec rows).map Sc.val) (fun j x hj => by
       rw [List.getElem?_map, Option.map_eq_some_iff] at hj;obtain ⟨y, hy, rfl⟩ := hj;have hr : rows[j]? = some [y] := by rw [<- hul, vecR_get hy]
       obtain ⟨a', ha', _, hc⟩ := hF.cell j [y] 0 y hr rfl;rw [hb] at ha';injection ha' with ha'
       subst ha';rw [Nat.mul_one, Nat.add_zero] at hc;exact hc)
      have hlen : ((unvec rows).map Sc.val).length = ti.size := by
       rw [List.length_map, <- hl]
       conv => rhs; rw [<- hul]
       rw [vecR_length]
      rw [hlen] at hcl;refine fin (.vec (unvec rows)) (.agg ((unvec rows).map Sc.val).toArray) (fun n hn => by simp [names3, names2, names1] at hn) ?_ (VR3.one ⟨_, rfl, rfl⟩) h;simp only [resRun, Sem.run_bind, haddr, Result.andThen_ok];simp [loadVar, (hT t ti ht).run_agg w, hagg, (hT t ti ht).run_size w, hcl]
     ·exact h.elim
    ·exact h.elim
   ·exact h.elim
theorem results_run {fn : Func} {us : List Value} (h : (fn.results.toList.mapM (resRun a.tmps)).run P w = .ok us w) : (results fn a.tmps).run P w = .ok (packV us) w := by
 have h' : (fn.results.mapM (resRun a.tmps)).run P w = .ok us.toArray w := by
  rw [Array.mapM_eq_mapM_toList];show Sem.run P ((fn.results.toList.mapM (resRun a.tmps)) >>= fun l => pure l.toArray) w = _
  simp only [Sem.run_bind, h, Result.andThen_ok, Sem.run_pure]
 have hr : results fn a.tmps = (do
  let vs <- fn.results.mapM (resRun a.tmps)
  pure (if h : vs.size = 1 then vs[0] else .tuple vs)) := rfl
 rw [hr]
 simp only [Sem.run_bind, h', Result.andThen_ok, Sem.run_pure]
 cases us with
 | nil => simp [packV]
 | cons u us => cases us with
  | nil => simp [packV]
  | cons _ _ => simp [packV]
theorem ans_out (R : Rel (fun n => n < nx) O0 w0 nt (toS sl en) g a w) {vs : List SV} {us : List Value} (hv : All2 (VR3 (toS sl en) g) vs us) {r : V} (h : ansP en r vs) : VOk w (labOf g.own (vs.flatMap svCells)) 0 r (packV us) := by
 obtain ⟨hd, h⟩ := h
 have two : ∀ {v : SV} {x : V} {u : Value}, V1P en v x -> VR3 (toS sl en) g v u -> VR2 (toS sl en) g v u := by
  intro v x u h hu
  cases v with
  | tup l => cases x <;> exact h.elim
  | _ => exact hu
 have one : ∀ {r : V}, (∀ l, r ≠ .tup l) -> oneP en r vs -> V1Ok w (labOf g.own (vs.flatMap svCells)) 0 r (packV us) := by
  intro r _ h
  cases vs with
  | nil => exact h.elim
  | cons v vs => cases vs with
   | cons _ _ => exact h.elim
   | nil =>
    cases us with
    | nil => have := hv.1; simp at this
    | cons u us => cases us with
     | cons _ _ => have := hv.1; simp at this
     | nil =>
      exact (v1_out R hd (v := v) (q := 0) (fun i z hz => by simpa using hz) h (two h (hv.2 0 v u rfl rfl))).1
 cases r with
 | tup l =>
  obtain ⟨h1, h2⟩ := h;have hus : packV us = Value.tuple us.toArray := by
   cases us with
   | nil => rfl
   | cons u us => cases us with
    | cons _ _ => rfl
    | nil =>
     cases vs with
     | nil => have := hv.1; simp at this
     | cons v vs => cases vs with
      | nil => simp [one1] at h1
      | cons _ _ => have := hv.1; simp at this
  rw [hus];refine ⟨us.toArray, rfl, v1s_out R hd (q := 0) (fun i z hz => by simpa using hz) h2 ⟨by simpa using hv.1, fun i x y hx hy => ?_⟩⟩;obtain ⟨z, hz⟩ : ∃ z, l[i]? = some z := by
   have : ∀ {vs : List SV} {l : List V} {i : Nat} {x : SV}, V1sP en vs l -> vs[i]? = some x -> ∃ z, l[i]? = some z /\ V1P en x z := by
    intro vs
    induction vs with
    | nil => intro l i x _ h; simp at h
    | cons v vs ih =>
     intro l i x h hi
     cases l with
     | nil => exact h.elim
     | cons z l => cases i with
      | zero => simp at hi; subst hi; exact ⟨z, rfl, h.1⟩
      | succ i =>
       obtain ⟨z', k1, k2⟩ := ih (l := l) (i := i) h.2 (by simpa using hi);exact ⟨z', by simpa using k1, k2⟩
   obtain ⟨z, h1, _⟩ := this h2 hx;exact ⟨z, h1⟩
  have hp : ∀ {vs : List SV} {l : List V} {i : Nat} {x : SV} {z : V}, V1sP en vs l -> vs[i]? = some x -> l[i]? = some z -> V1P en x z := by
   intro vs
   induction vs with
   | nil => intro l i x z _ h; simp at h
   | cons v vs ih =>
    intro l i x z h hi hz
    cases l with
    | nil => exact h.elim
    | cons z' l => cases i with
     | zero => simp at hi hz; subst hi; subst hz; exact h.1
     | succ i => exact ih h.2 (by simpa using hi) (by simpa using hz)
  exact two (hp h2 hx hz) (hv.2 i x y hx (by simpa using hy))
 | one c => exact one (r := .one c) (fun l h => by simp at h) h
 | agg l => exact one (r := .agg l) (fun l h => by simp at h) h
 | clo f l => exact one (r := .clo f l) (fun l h => by simp at h) h
theorem entry_rel {vs : List V} {us : Array Value} {L : Nat -> Loc} {lab : Nat -> Option Key} (h : V1sAt w lab L 0 vs us.toList) (hl : us.size <= nt) (hsm : nt <= 1000000) (hb : ∀ b k, lab b = some k -> b < w.heap.size /\ k.1 < (cellsIn vs).length) :
  ∃ g, Rel (fun n => n < (cellsIn vs).length) (fun b => ∃ k, lab b = some k) ⟨w, fun _ => none⟩ nt (toS (inS vs) (inE vs)) g { tmps := us ++ Array.replicate (nt - us.size) undef, defers := [] } w := by
 have his : vs.all isV1 = true := by
  have : ∀ {vs : List V} {us : List Value} {q : Nat}, V1sAt w lab L q vs us -> vs.all isV1 = true := by
   intro vs
   induction vs with
   | nil => intro us q _; rfl
   | cons v vs ih =>
    intro us q h
    cases us with
    | nil => exact h.elim
    | cons u us =>
     simp only [List.all_cons, Bool.and_eq_true];exact ⟨by cases v <;> first | rfl | exact h.1.elim, ih h.2⟩
  exact this h
 let g : G := { base := fun n => (L n).A, cap := fun n => (L n).c, rbase := fun n => (L n).rb, rcap := fun n => (L n).rc, own := lab }
 have hE : inE vs = wsCs 0 (cellsIn vs) := wsVs_eq his
 have hfe : ∀ n e, (toS (inS vs) (inE vs)).fe n = some e -> ∃ c, (cellsIn vs)[n]? = some c /\ some e = entOf c := by
  intro n e he;rw [hE] at he;obtain ⟨j, c, h1, h2, h3, _⟩ := wsCs_mem (fe_mem he);rw [Nat.zero_add] at h2;subst h2;exact ⟨c, h1, h3⟩
 have hV := v1s_VR (s := ⟨(toS (inS vs) (inE vs)).fs, fun _ => none⟩) (fresh := 0) (g' := g) (all := cellsIn vs) (vs := vs) (us := us.toList) (q := 0) (fun i c hc => by rw [Nat.zero_add]; exact hc) (fun j _ => by rw [Nat.zero_add]; exact ⟨rfl, rfl⟩) h
 have hS : (⟨(toS (inS vs) (inE vs)).fs, fun _ => none⟩ : S).putW (wsCs 0 (cellsIn vs)) = toS (inS vs) (inE vs) := by
  have := toS_put (inS vs) [] none .bad (wsCs 0 (cellsIn vs));simp only [List.append_nil] at this;refine S.ext' (fun t => by rw [putW_fs]) (fun n => ?_);rw [hE, this];show _ = ((toS (inS vs) []).putW _).fe n
  exact putW_fe_congr (s := ⟨((toS (inS vs) []).put none SV.bad (wsCs 0 (cellsIn vs))).fs, fun _ => none⟩) (s' := toS (inS vs) []) (fun _ => rfl) _ n
 rw [hS, Nat.zero_add] at hV
 have names1_lt : ∀ {cs : List C} {q i : Nat} {x : SV}, (svCs q cs)[i]? = some x -> ∀ n ∈ names1 x, q <= n /\ n < q + cs.length := by
  intro cs q i x hx n hn;obtain ⟨c, hc, rfl⟩ := svCs_get hx;have := (qSq.1 hc).1;cases c <;> simp [svC, names1] at hn <;> omega
 have namesL : ∀ {cs : List C} {q n : Nat}, n ∈ namesL1 (svCs q cs) -> n < q + cs.length := by
  intro cs
  induction cs with
  | nil => intro q n h; simp [svCs, namesL1] at h
  | cons c cs ih =>
   intro q n h;simp only [svCs, namesL1, List.mem_append] at h;rcases h with h | h
   ·cases c <;> simp [svC, names1] at h <;> (simp; omega)
   ·have := ih h; simp; omega
 have hnames : ∀ {vs : List V} {q i n : Nat} {x : SV}, vs.all isV1 = true -> (svVs q vs)[i]? = some x -> n ∈ names2 x -> n < q + (cellsIn vs).length := by
  intro vs
  induction vs with
  | nil => intro q i n x _ h; simp [svVs] at h
  | cons v vs ih =>
   intro q i n x hh h hn;simp only [List.all_cons, Bool.and_eq_true] at hh;have hw := width_flat hh.1;simp only [cellsIn, List.flatMap_cons, List.length_append]
   cases i with
   | zero =>
    simp [svVs] at h;subst h
    cases v with
    | one c => cases c <;> simp [svV1, svC, names2, names1] at hn <;> (simp [flatC]; omega)
    | agg l => have := namesL (show n ∈ namesL1 (svCs q l) from hn); simp only [flatC]; omega
    | clo f l => have := namesL (show n ∈ namesL1 (svCs q l) from hn); simp only [flatC]; omega
    | _ => simp [isV1] at hh
   | succ i =>
    have := ih (q := q + width v) hh.2 (by simpa [svVs] using h) hn;simp only [cellsIn] at this;omega
 refine ⟨g, ?_, rfl, hsm, fun t v hv => ?_, fun n e he => ?_, fun b k hk => (hb b k hk).1, fun b n r hk => (hb b _ hk).2, fun t v hv n hn => ?_, fun n e he => ?_, Frm.refl _ _, fun b k hk _ => ⟨k, hk⟩⟩
 ·simp; omega
 ·obtain ⟨_, h1⟩ := slIn_lk _ _ _ _ hv;rw [Nat.sub_zero] at h1;have hlt : t < us.toList.length := by rw [<- hV.1]; exact (qSq.1 h1).1
  obtain ⟨u, hu⟩ : ∃ u, us.toList[t]? = some u := ⟨_, qEq hlt⟩;refine ⟨u, ?_, ?_⟩
  ·simp at hlt hu;rw [slotAt_lt (by omega), Array.getElem?_append_left hlt];simpa using hu
  ·have := hV.2 t v u h1 hu
   cases v with
   | tup l => exact this.elim
   | _ => exact this
 ·obtain ⟨c, hc, he'⟩ := hfe n e he;obtain ⟨u, hcell⟩ := h.get hc;rw [Nat.zero_add] at hcell
  cases c with
  | s x => simp [entOf] at he'
  | dead => simp [entOf] at he'
  | cap z =>
   simp only [entOf, Option.some.injEq] at he';subst he';obtain ⟨b, arr, ty, k1, _, k2, k3, k4⟩ := hcell;refine ⟨b, arr, ty, k1, k2, k3, by rw [k4]; rfl, fun i x y hx hy => ?_⟩;rw [k4] at hy
   cases i with
   | zero => simp at hx hy; subst hx; subst hy; rfl
   | succ i => simp at hx
  | flat own sz rows => simp only [entOf, Option.some.injEq] at he'; subst he'; exact hcell.2
  | nest own sz rows => simp only [entOf, Option.some.injEq] at he'; subst he'; exact hcell.2
 ·obtain ⟨_, h1⟩ := slIn_lk _ _ _ _ hv;have hn2 : n ∈ names2 v := by
   cases v with
   | tup l =>
    exfalso
    have hlt : t < us.toList.length := by rw [<- hV.1]; rw [Nat.sub_zero] at h1; exact (qSq.1 h1).1
    exact hV.2 t _ _ (by rw [Nat.sub_zero] at h1; exact h1) (qEq hlt)
   | _ => exact hn
  have := hnames his h1 hn2;omega
 ·obtain ⟨c, hc, he'⟩ := hfe n e he;refine ⟨(qSq.1 hc).1, fun m hm => ?_⟩;cases c <;> simp [entOf] at he' <;> subst he' <;> simp [namesE, namesL1, names1] at hm
def lenAcc : Nat -> List C -> Nat
 | n, [] => n
 | n, _ :: r => lenAcc (n + 1) r
def inSf : Nat -> Nat -> List V -> Sl
 | _, _, [] => []
 | i, q, .one c :: r => (i, svC q c) :: inSf (i + 1) (q + 1) r
 | i, q, .agg l :: r => (i, .agg (svCs q l)) :: inSf (i + 1) (lenAcc q l) r
 | i, q, .clo f l :: r => (i, .fn f (svCs q l)) :: inSf (i + 1) (lenAcc q l) r
 | i, q, v :: r => (i, .bad) :: inSf (i + 1) (q + width v) r
def inEf : Nat -> List V -> En
 | _, [] => []
 | q, .one c :: r => wsC q c ++ inEf (q + 1) r
 | q, .agg l :: r => wsCs q l ++ inEf (lenAcc q l) r
 | q, .clo _ l :: r => wsCs q l ++ inEf (lenAcc q l) r
 | q, v :: r => inEf (q + width v) r
theorem lenAcc_eq : ∀ (l : List C) (n : Nat), lenAcc n l = n + l.length := by
 intro l
 induction l with
 | nil => intro n; rfl
 | cons c r ih => intro n; simp only [lenAcc, ih, List.length_cons]; omega
theorem inSf_eq : ∀ (vs : List V) (i q : Nat), inSf i q vs = slIn i (svVs q vs) := by
 intro vs
 induction vs with
 | nil => intro i q; rfl
 | cons v r ih =>
  intro i q
  cases v with
  | one c => simp only [inSf, svVs, slIn, svV1, width, ih]
  | agg l => simp only [inSf, svVs, slIn, svV1, width, ih, lenAcc_eq]
  | clo f l => simp only [inSf, svVs, slIn, svV1, width, ih, lenAcc_eq]
  | tup l => simp only [inSf, svVs, slIn, svV1, ih]
theorem inEf_eq : ∀ (vs : List V) (q : Nat), inEf q vs = wsVs q vs := by
 intro vs
 induction vs with
 | nil => intro q; rfl
 | cons v r ih =>
  intro q
  cases v with
  | one c => simp only [inEf, wsVs, wsV1, width, ih]
  | agg l => simp only [inEf, wsVs, wsV1, width, ih, lenAcc_eq]
  | clo f l => simp only [inEf, wsVs, wsV1, width, ih, lenAcc_eq]
  | tup l => simp only [inEf, wsVs, wsV1, ih, List.nil_append]
def endP (X : Cx) (rs : List ResultVar) (r : V) (e : Exit) (sl : Sl) (en : En) : Prop :=
 match e with
 | .normal | .ret => resP X.T sl en rs (ansP en r)
 | _ => False
theorem fun_pure (hcr : CrOk P cr) (hmix : P.follows .mixedOrders = true) (hT : TabOk P X.T) (hΓ : Sound P X.T X.Γ) {f : FuncId} {fn : Func} {c : Code} (hf : P.funcs[f]? = some fn) (hb : fn.body = some c) (hnt : fn.ntmps = X.nt) (hsm : Nat.ble X.nt 1000000 = true) {F : List V -> Option (V × List V)} (n0 : Nat)
  (h : ∀ vs r outs, F vs = some (r, outs) -> vs.length <= X.nt /\ (cellsIn vs).length <= n0 /\ wpC cr X c (fun e sl en _ => endP X fn.results.toList r e sl en) (inSf 0 0 vs) (inEf 0 vs) n0) : SoundP P f F := by
 intro vs r outs hF w us hvs
 obtain ⟨hlen, hn0, hwp⟩ := h vs r outs hF
 rw [inSf_eq, inEf_eq] at hwp
 obtain ⟨L, hL⟩ := hvs.at_
 have hsz : us.size = vs.length := by
  have : ∀ {vs : List V} {us : List Value} {q : Nat}, V1sOk w noLab q vs us -> us.length = vs.length := by
   intro vs
   induction vs with
   | nil => intro us q h; cases us with
    | nil => rfl
    | cons _ _ => exact h.elim
   | cons v vs ih => intro us q h; cases us with
    | nil => exact h.elim
    | cons u us => simp [ih h.2]
  simpa using this hvs
 obtain ⟨g, R⟩ := entry_rel (nt := X.nt) hL (by omega) (Nat.le_of_ble_eq_true hsm) (fun b k h => by simp [noLab] at h)
 have R := R.wider (Mn' := fun n => n < n0) (fun n hn => by omega)
 refine calls_of_wp hf hb ?_
 rw [hnt]
 refine wpC_sim hmix hcr hT hΓ c _ _ (fun e sl en nx g' a' w' hq R' => ?_) _ _ _ g _ w hwp R
 have fin : resP X.T sl en fn.results.toList (ansP en r) -> a'.defers = [] /\ ∃ v, (results fn a'.tmps).run P w' = .ok v w' /\ ∃ u lab, Ending.returned v = .returned u /\ Frm (fun _ => False) w w' /\ (∀ b k, lab b = some k -> w.heap.size <= b /\ b < w'.heap.size) /\ VOk w' lab 0 r u := by
  intro hq;obtain ⟨vs', us', h1, h2, h3, _⟩ := resP_run hT R' _ _ hq;have hno : ∀ b k, g'.own b = some k -> w.heap.size <= b := fun b k hk => by
   rcases Nat.lt_or_ge b w.heap.size with h | h
   ·obtain ⟨k', hk'⟩ := R'.ours b k hk h;simp [noLab] at hk'
   ·exact h
  refine ⟨R'.defers, _, results_run h1, _, _, rfl, ⟨R'.frm.os, R'.frm.tape, R'.frm.output, R'.frm.size, fun b hb _ => R'.frm.block b hb (fun ⟨k, hk⟩ => by simp [noLab] at hk)⟩, fun b k hk => ?_, ans_out R' h2 h3⟩;simp only [labOf] at hk
  cases ho : g'.own b with
  | none => rw [ho] at hk; simp at hk
  | some k' => exact ⟨hno b k' ho, R'.bound b k' ho⟩
 cases e with
 | normal => exact fin hq
 | ret => exact fin hq
 | _ => exact hq.elim
end
end Go.Sh
namespace Go.Sh
variable [Fwd]
def kdB : Kd -> TypeDesc -> Bool
 | .int k, .int k' => decide (k = k')
 | .bool, .bool => true
 | .slice e, .slice e' => e == e'
 | .struct fs, .struct fields => fields.toList.map (fun f => (f.offset, f.type)) == fs
 | .array n e, .array n' e' => n == n' && e == e'
 | .ptr e, .pointer e' => e == e'
 | .map k e _ _, .map k' e' => k == k' && e == e'
 | .fmap k e, .map k' e' => k == k' && e == e'
 | .other, .map _ _ => true
 | .other, .func _ _ _ => true
 | .other, .interface _ => true
 | .other, .tuple _ => true
 | _, _ => false
theorem kdB_ok {k : Kd} {d : TypeDesc} (h : kdB k d = true) : KdOk k d := by
 cases k <;> cases d <;> simp [kdB, KdOk] at h ⊢ <;> exact h
def zB : SV -> Value -> Bool
 | .s (.i k n), .int k' n' => decide (k = k') && n == n'
 | .s (.b c), .bool c' => c == c'
 | .nils, .slice none 0 0 => true
 | .bad, .pointer none => true
 | .bad, .nilFunc => true
 | .bad, .map none => true
 | _, _ => false
theorem zB_ok {v : SV} {u : Value} (h : zB v u = true) : ZOk v u := by
 unfold zB at h
 split at h <;> simp at h <;> simp [ZOk, Value.oneCell', Sc.val, h]
def zsB : List SV -> List Value -> Bool
 | [], [] => true
 | v :: r, u :: s => zB v u && zsB r s
 | _, _ => false
theorem zsB_ok : ∀ {l : List SV} {m : List Value}, zsB l m = true -> All2 ZOk l m := by
 intro l
 induction l with
 | nil => intro m h; cases m with
  | nil => exact ⟨rfl, fun i a b h => by simp at h⟩
  | cons _ _ => simp [zsB] at h
 | cons v l ih =>
  intro m h
  cases m with
  | nil => simp [zsB] at h
  | cons u m =>
   simp only [zsB, Bool.and_eq_true] at h;obtain ⟨k1, k2⟩ := ih h.2;refine ⟨by simp [k1], fun i a b ha hb => ?_⟩
   cases i with
   | zero => simp at ha hb; subst ha; subst hb; exact zB_ok h.1
   | succ i => exact k2 i a b (by simpa using ha) (by simpa using hb)
def aggB : Value -> Bool
 | .agg _ => true
 | _ => false
def eqB (P : Program) : List SV -> Nat -> List Field -> Bool
 | [], _, [] => true
 | .s (.i k _) :: r, i, f :: fs => (f.name != "_") && f.offset == i && (match P.underlying f.type with | some (.int k') => decide (k = k') | _ => false) && eqB P r (i + 1) fs
 | .s (.b _) :: r, i, f :: fs => (f.name != "_") && f.offset == i && (match P.underlying f.type with | some .bool => true | _ => false) && eqB P r (i + 1) fs
 | _, _, _ => false
def intsB (P : Program) : Nat -> List Field -> Bool
 | _, [] => true
 | i, f :: fs => (f.name != "_") && f.offset == i && P.cellsOf f.type == 1 && (match P.underlying f.type with | some (.int .i64) => true | _ => false) && intsB P (i + 1) fs
def keyB (P : Program) (k : TypeId) (ag : Bool) (nk : Nat) : Bool :=
 match P.underlying k with
 | some (.int .i64) => !ag && nk == 1
 | some (.struct fs) => ag && fs.size == nk && P.cellsOf k == nk && intsB P 0 fs.toList && P.keyTypeAt 2 k && P.keyType k && decide (k < P.types.size) && decide (1 <= P.types.size)
 | _ => false
def sameI (k : IntKind) (n : Int) : List SV -> Bool
 | [] => true
 | .s (.i k' n') :: r => decide (k = k') && (n == n' && sameI k n r)
 | _ => false
def greatB (ti : TI) : Bool := !isGreat ti || (match ti.zero with | .s (.i k n) :: r => sameI k n r && Nat.beq (r.length + 1) ti.size | _ => false)
theorem sameI_ok {k : IntKind} {n : Int} : ∀ {l : List SV}, sameI k n l = true -> l = List.replicate l.length (.s (.i k n)) := by
 intro l
 induction l with
 | nil => intro _; rfl
 | cons v r ih =>
  intro h
  match v, h with
  | .s (.i k' n'), h =>
   simp only [sameI, Bool.and_eq_true, decide_eq_true_eq, beq_iff_eq] at h;obtain ⟨rfl, rfl, h⟩ := h;rw [List.length_cons, List.replicate_succ, <- ih h]
theorem greatB_ok {ti : TI} (h : greatB ti = true) (hg : isGreat ti = true) {x : Sc} {r : List SV} (hz : ti.zero = .s x :: r) : ti.zero = List.replicate ti.size (.s x) := by
 unfold greatB at h
 rw [hg, hz] at h
 simp only [Bool.not_true, Bool.false_or] at h
 cases x with
 | b c => simp at h
 | i k n =>
  simp only [Bool.and_eq_true] at h;have h2 := qBq h.2;rw [hz, <- h2, List.replicate_succ, <- sameI_ok h.1]
def rowB (P : Program) (T : Tab) (t : Nat) (ti : TI) : Bool :=
 (match P.info? t with
  | some i => i.size == ti.size && i.bytes == ti.bytes && (match i.zero with
   | some z => z.cells.size == ti.size && zsB ti.zero z.cells.toList && (!ti.isAgg || aggB z)
   | none => false)
  | none => false) &&
 (match P.underlying t with | some d => kdB ti.kind d | none => false) &&
 Nat.blt 0 ti.bytes && Nat.ble ti.bytes 32768 && Nat.blt 0 ti.size &&
 (match ti.kind with | .struct fs => fs.all (fun p => (lk T p.2).isSome) | _ => true) &&
 (!ti.eqs || (match P.underlying t with | some (.struct fields) => !P.stoodInHeld t && !P.eqGuardType P.depth t && eqB P ti.zero 0 fields.toList | _ => false)) &&
 (match ti.kind with | .map k e ag nk => keyB P k ag nk && (match P.info? e with | some i => (match i.zero with | some (.int .i64 n) => n == 0 | _ => false) | none => false) && laidOutB P | .fmap k e => keyB P k false 1 && (match P.info? e with | some i => (match i.zero with | some (.slice none 0 0) => true | _ => false) | none => false) && laidOutB P | _ => true) && greatB ti
def tabB (P : Program) (T : Tab) : Bool := T.all fun p => rowB P T p.1 p.2
section
variable {P : Program}
theorem part_one {P : Program} (w : World) {t : Nat} {xs : Array Value} {i : Nat} {u : Value} (h : xs[i]? = some u) (hd : (∃ k, P.underlying t = some (.int k)) \/ P.underlying t = some .bool) : (part t xs i).run P w = .ok u w := by
 rcases hd with ⟨k, hd⟩ | hd <;> simp [part, isAgg, underlying, hd, h]
theorem eqFields_run (w : World) : ∀ (z l m : List SV) (i : Nat) (fs : List Field) (xs ys : Array Value) (c : Bool), eqB P z i fs = true -> eqCells l m = some c -> kin l z = true ->
  (∀ (j : Nat) (x : Sc), l[j]? = some (.s x) -> xs[i + j]? = some x.val) -> (∀ (j : Nat) (x : Sc), m[j]? = some (.s x) -> ys[i + j]? = some x.val) -> (Op.eqFields 9999 xs ys fs).run P w = .ok c w := by
 intro z
 induction z with
 | nil =>
  intro l m i fs xs ys c h1 h2 h3 _ _
  cases fs with
  | cons _ _ => simp [eqB] at h1
  | nil =>
   cases l with
   | cons a l => cases a <;> simp [kin] at h3
   | nil => cases m with
    | nil => simp [eqCells] at h2; subst h2; simp [Op.eqFields]
    | cons _ _ => simp [eqCells] at h2
 | cons v z ih =>
  intro l m i fs xs ys c h1 h2 h3 hx hy
  cases fs with
  | nil => cases v <;> simp [eqB] at h1
  | cons f fs =>
   cases l with
   | nil => cases v <;> simp [kin] at h3
   | cons a l =>
    cases m with
    | nil => cases a <;> simp [eqCells] at h2
    | cons b m =>
     have hx' : ∀ (j : Nat) (x : Sc), l[j]? = some (.s x) -> xs[i + 1 + j]? = some x.val := fun j x h => by rw [show i + 1 + j = i + (j + 1) by omega]; exact hx (j + 1) x (by simpa using h)
     have hy' : ∀ (j : Nat) (x : Sc), m[j]? = some (.s x) -> ys[i + 1 + j]? = some x.val := fun j x h => by rw [show i + 1 + j = i + (j + 1) by omega]; exact hy (j + 1) x (by simpa using h)
     have fin : ∀ (x y : Sc) (c0 c1 : Bool), a = .s x -> b = .s y -> f.name ≠ "_" -> f.offset = i -> ((∃ k, P.underlying f.type = some (.int k)) \/ P.underlying f.type = some .bool) -> (Op.equalIn 9999 f.type x.val y.val).run P w = .ok c0 w ->
       eqCells l m = some c1 -> eqB P z (i + 1) fs = true -> kin l z = true -> c = (c0 && c1) -> (Op.eqFields 9999 xs ys (f :: fs)).run P w = .ok c w := by
      rintro x y c0 c1 rfl rfl hn ho hd he hc hb hk rfl;have h0 := part_one w (hx 0 x (by simp)) hd;have h0' := part_one w (hy 0 y (by simp)) hd;rw [Nat.add_zero] at h0 h0';simp only [Op.eqFields, if_pos hn, Sem.run_bind, ho, h0, h0', Result.andThen_ok, he]
      cases c0 with
      | false => simp
      | true =>
       have := ih l m (i + 1) fs xs ys c1 hb hc hk hx' hy';simpa using this
     cases v with
     | s zx =>
      cases zx with
      | i k z0 =>
       cases a with
       | s ax =>
        cases ax with
        | i k' a0 =>
         cases b with
         | s bx =>
          cases bx with
          | i k'' b0 =>
           simp only [eqB, Bool.and_eq_true, bne_iff_ne, ne_eq, beq_iff_eq] at h1;obtain ⟨⟨⟨q1, q2⟩, q3⟩, q4⟩ := h1;simp only [kin, Bool.and_eq_true, decide_eq_true_eq] at h3;simp only [eqCells] at h2
           cases hkk : decide (k' = k'') with
           | false => rw [hkk] at h2; simp at h2
           | true =>
            rw [hkk] at h2;simp only [cond_true, Option.map_eq_some_iff] at h2;obtain ⟨c1, hc1, rfl⟩ := h2;have hkk := of_decide_eq_true hkk;subst hkk;obtain ⟨k3, hu⟩ : ∃ k, P.underlying f.type = some (.int k) := by
             split at q3
             ·rename_i k' hu; exact ⟨k', hu⟩
             ·simp at q3
            exact fin _ _ (a0 == b0) c1 rfl rfl q1 q2 (.inl ⟨k3, hu⟩) (run_equalIn_int w 9998 f.type k' k3 a0 b0 hu) hc1 q4 h3.2 rfl
          | b _ => simp [eqCells] at h2
         | _ => simp [eqCells] at h2
        | b _ => simp [kin] at h3
       | _ => simp [kin] at h3
      | b z0 =>
       cases a with
       | s ax =>
        cases ax with
        | b a0 =>
         cases b with
         | s bx =>
          cases bx with
          | b b0 =>
           simp only [eqB, Bool.and_eq_true, bne_iff_ne, ne_eq, beq_iff_eq] at h1;obtain ⟨⟨⟨q1, q2⟩, q3⟩, q4⟩ := h1;simp only [kin] at h3;simp only [eqCells, Option.map_eq_some_iff] at h2;obtain ⟨c1, hc1, rfl⟩ := h2;have hu : P.underlying f.type = some .bool := by
            split at q3
            ·assumption
            ·simp at q3
           exact fin _ _ (a0 == b0) c1 rfl rfl q1 q2 (.inr hu) (run_equalIn_bool' w 9998 f.type a0 b0 hu) hc1 q4 h3 rfl
          | i _ _ => simp [eqCells] at h2
         | _ => simp [eqCells] at h2
        | i _ _ => simp [kin] at h3
       | _ => simp [kin] at h3
     | _ => simp [eqB] at h1
theorem lit_wf {n : Int} (h : IntKind.i64.wrap n = n) : (Lit.int .i64 n).wf = true := by
 rw [<- h]
 simp [Lit.wf, IntKind.wrap, IntKind.min, IntKind.max, IntKind.signed, IntKind.bits] <;> (try split) <;> omega
theorem ints_lits (P : Program) (d : Nat) : ∀ (fs : List Field) (i : Nat) (l : List Int) (cs : List Value), intsB P i fs = true -> l.length = fs.length -> (∀ x ∈ l, IntKind.i64.wrap x = x) -> (∀ (j : Nat) (x : Int), l[j]? = some x -> cs[i + j]? = some (.int .i64 x)) ->
  ∃ ls, (fs.mapM fun f => P.keyLits (d + 1) f.type ((cs.drop f.offset).take (P.cellsOf f.type))) = some ls := by
 intro fs
 induction fs with
 | nil => intro i l cs _ _ _ _; exact ⟨[], rfl⟩
 | cons f fs ih =>
  intro i l cs h hl hw hc;simp only [intsB, Bool.and_eq_true, beq_iff_eq, bne_iff_ne] at h;obtain ⟨⟨⟨⟨h1, h2⟩, h3⟩, h4⟩, h5⟩ := h
  cases l with
  | nil => simp at hl
  | cons x l =>
   have hu : P.underlying f.type = some (.int .i64) := by
    split at h4
    ·assumption
    ·simp at h4
   obtain ⟨ls, hls⟩ := ih (i + 1) l cs h5 (by simpa using hl) (fun y hy => hw y (List.mem_cons_of_mem _ hy)) (fun j y hy => by rw [show i + 1 + j = i + (j + 1) by omega]; exact hc (j + 1) y (by simpa using hy));have h0 := hc 0 x rfl;rw [Nat.add_zero] at h0;have hd : (cs.drop f.offset).take (P.cellsOf f.type) = [.int .i64 x] := by
    rw [h2, h3];have hlt := (qSq.1 h0).1;rw [List.drop_eq_getElem_cons hlt];have := (qSq.1 h0).2;simp [this]
   refine ⟨[.int .i64 x] :: ls, ?_⟩;have hk : P.keyLits (d + 1) f.type [.int .i64 x] = some [.int .i64 x] := by
    unfold Program.keyLits;rw [hu];simp [lit_wf (hw x (by simp))]
   simp only [List.mapM_cons, hd, hk, hls]
   rfl
theorem key_ok {k : TypeId} {ag : Bool} {nk : Nat} (h : keyB P k ag nk = true) (hl : laidOutB P = true) : Go.Maps.Keyed P k /\ (ag = true \/ nk = 1) /\ ∀ l : List Int, l.length = nk -> (∀ x ∈ l, IntKind.i64.wrap x = x) -> ∃ kl, keyOf P k (keyV ag l) = some kl := by
 unfold keyB at h
 split at h
 ·rename_i hu;simp only [Bool.and_eq_true, Bool.not_eq_true', beq_iff_eq] at h;obtain ⟨rfl, rfl⟩ := h;refine ⟨Go.Maps.int_keyed hu, .inr rfl, fun l hl hw => ?_⟩;obtain ⟨x, rfl⟩ := List.length_eq_one_iff.1 hl;exact ⟨_, Go.Maps.keyOf_int_mk hu (lit_wf (hw x (by simp)))⟩
 ·rename_i fs hu;simp only [Bool.and_eq_true, beq_iff_eq, decide_eq_true_eq] at h;obtain ⟨⟨⟨⟨⟨⟨⟨rfl, h2⟩, h3⟩, h4⟩, h5⟩, h6⟩, h7⟩, h8⟩ := h;refine ⟨Go.Maps.Keyed.of_law (deep_law_laid hl (m := 2) (by omega) h7 h5 (by rw [hu])), .inl rfl, fun l hll hw => ?_⟩;obtain ⟨m, hm⟩ : ∃ m, P.types.size = m + 1 := ⟨P.types.size - 1, by omega⟩;obtain ⟨ls, hls⟩ := ints_lits P m fs.toList 0 l (l.map (Value.int .i64)) h4 (by rw [hll, <- h2]; simp) hw (fun j x hj => by simp [hj]);have hform : (keyV true l).formed P k = true := by
   simp [keyV, Value.formed, hu, h3, hll]
  have hname : fs.all (·.name != "_") = true := by
   rw [<- Array.all_toList];have : ∀ (fs : List Field) (i : Nat), intsB P i fs = true -> fs.all (·.name != "_") = true := by
    intro fs
    induction fs with
    | nil => intro i _; rfl
    | cons f fs ih =>
     intro i h;simp only [intsB, Bool.and_eq_true] at h;simp only [List.all_cons, Bool.and_eq_true];exact ⟨h.1.1.1.1, ih _ h.2⟩
   exact this _ _ h4
  have hlits : P.keyLits (P.types.size + 1) k (keyV true l).cells.toList = some ls.flatten := by
   rw [hm];unfold Program.keyLits;rw [hu];simp only [keyV, if_true, Value.cells];rw [if_pos ⟨by simp [h3, hll], hname⟩, hls]; rfl
  refine ⟨.string (keyBytes ls.flatten), ?_⟩;unfold keyOf;rw [hu];simp only [h6, hform, Bool.and_self, if_true, hlits, Option.map_some]
 ·simp at h
set_option maxHeartbeats 1000000 in
theorem row_ok {T : Tab} {t : Nat} {ti : TI} (h : rowB P T t ti = true) : TOk P T t ti := by
 unfold rowB at h
 simp only [Bool.and_eq_true] at h
 obtain ⟨⟨⟨⟨⟨⟨⟨⟨h1, h2⟩, h3⟩, h4⟩, h5⟩, h6⟩, h7⟩, h8⟩, h9⟩ := h
 refine ⟨?_, ?_, ⟨by simpa [Nat.blt_eq] using h3, Nat.le_of_ble_eq_true h4, by simpa [Nat.blt_eq] using h5⟩, ?_, ?_, fun hg x r hz => greatB_ok h9 hg hz, ?_, ?_⟩
 ·split at h1
  ·rename_i i hi;simp only [Bool.and_eq_true, beq_iff_eq] at h1;obtain ⟨⟨k1, k2⟩, k3⟩ := h1;split at k3
   ·rename_i z hz;simp only [Bool.and_eq_true, beq_iff_eq, Bool.or_eq_true, Bool.not_eq_true'] at k3;refine ⟨i, z, hi, k1, k2, hz, k3.1.1, zsB_ok k3.1.2, fun ha => ?_⟩;have := k3.2.resolve_left (by rw [ha]; simp);cases z <;> simp [aggB] at this
    rfl
   ·simp at k3
  ·simp at h1
 ·split at h2
  ·rename_i d hd; exact ⟨d, hd, kdB_ok h2⟩
  ·simp at h2
 ·intro fs hk d ft hm;rw [hk] at h6;simp only [List.all_eq_true] at h6;have := h6 _ hm;exact Option.isSome_iff_exists.1 this
 ·intro he w l m xs ys c x y hc hk hx hy;rw [he] at h7;simp only [Bool.not_true, Bool.false_or] at h7;split at h7
  ·rename_i fields hu;simp only [Bool.and_eq_true, Bool.not_eq_true'] at h7;obtain ⟨⟨k1, k2⟩, k3⟩ := h7;have hf : P.fieldsOf t = fields := by simp [Program.fieldsOf, hu]
   have hrun : (Op.equalIn 10000 t (.agg xs) (.agg ys)).run P w = .ok c w := by
    rw [run_equalIn_struct w 9999 t xs ys (by rw [hf]; exact hu) k1, hf];refine eqFields_run w ti.zero l m 0 fields.toList xs ys c k3 hc hk (fun j v hj => ?_) (fun j v hj => ?_)
    ·have hlt : j < xs.toList.length := by rw [<- hx.1]; exact (qSq.1 hj).1
     obtain ⟨v', e1, e2⟩ := hx.2 j _ _ hj (qEq hlt);injection e1 with e1
     subst e1;rw [Nat.zero_add, <- Array.getElem?_toList, qEq hlt, e2]
    ·have hlt : j < ys.toList.length := by rw [<- hy.1]; exact (qSq.1 hj).1
     obtain ⟨v', e1, e2⟩ := hy.2 j _ _ hj (qEq hlt);injection e1 with e1
     subst e1;rw [Nat.zero_add, <- Array.getElem?_toList, qEq hlt, e2]
   refine ⟨fun op => run_eqGuard_agg w op t x y xs ys k2, ?_, ?_⟩
   ·rw [run_eql_struct, hrun]; rfl
   ·rw [run_neq_struct, hrun]; rfl
  ·simp at h7
 ·intro k e ag nk hk;rw [hk] at h8;simp only [Bool.and_eq_true] at h8;obtain ⟨⟨q1, q2⟩, q3⟩ := h8;obtain ⟨k1, k2, k3⟩ := key_ok q1 q3;refine ⟨k1, fun w => ?_, k2, k3⟩;split at q2
  ·rename_i i hi;split at q2
   ·rename_i n hz;simp only [beq_iff_eq] at q2;subst q2;simp [zeroValue, typeInfo, hi, hz]
   ·simp at q2
  ·simp at q2
 ·intro k e hk;rw [hk] at h8;simp only [Bool.and_eq_true] at h8;obtain ⟨⟨q1, q2⟩, q3⟩ := h8;obtain ⟨k1, k2, k3⟩ := key_ok q1 q3;refine ⟨k1, fun w => ?_, k3⟩;split at q2
  ·rename_i i hi;split at q2
   ·rename_i hz;simp [zeroValue, typeInfo, hi, hz]
   ·simp at q2
  ·simp at q2
theorem tab_ok {T : Tab} (h : tabB P T = true) : TabOk P T := by
 intro t ti hl
 unfold tabB at h
 have h1 := List.all_eq_true.1 h (t, ti) (lk_mem hl)
 dsimp only at h1
 exact row_ok h1
end
instance (priority := low) Fwd.no : Fwd := ⟨False⟩
theorem Tp.of {w w' : World} (h : w'.tape = w.tape) : @Tp Fwd.no w w' := ⟨h, fun h => h.elim⟩
end Go.Sh
namespace Go.Sh
variable [Fwd]
def body (f : Func) : Code := match f.body with | some c => c | none => .skip
open Classical in
noncomputable def conF {α : Type} (pre : α -> Prop) (enc : α -> List V) (val : α -> V) : List V -> Option (V × List V) := fun vs =>
 if h : ∃ a, pre a /\ enc a = vs then some (val (Classical.choose h), []) else none
theorem conF_at {α : Type} {pre : α -> Prop} {enc : α -> List V} {val : α -> V} (hinj : ∀ a b, pre a -> pre b -> enc a = enc b -> val a = val b) {a : α} (ha : pre a) : conF pre enc val (enc a) = some (val a, []) := by
 unfold conF
 have h : ∃ b, pre b /\ enc b = enc a := ⟨a, ha, rfl⟩
 rw [dif_pos h]
 have hs := Classical.choose_spec h
 rw [hinj _ _ hs.1 ha hs.2]
theorem conF_inv {α : Type} {pre : α -> Prop} {enc : α -> List V} {val : α -> V} {vs : List V} {r : V} {outs : List V} (h : conF pre enc val vs = some (r, outs)) : ∃ a, pre a /\ vs = enc a /\ r = val a := by
 unfold conF at h
 split at h
 ·rename_i hx;have hs := Classical.choose_spec hx;simp only [Option.some.injEq, Prod.mk.injEq] at h;exact ⟨_, hs.1, hs.2.symm, h.1.symm⟩
 ·simp at h
noncomputable def conP {α : Type} (n : Nat) (pre : α -> Prop) (enc : α -> List V) (val : α -> V) : Con := ⟨List.replicate n true, false, conF pre enc val⟩
section
variable {P : Program} {X : Cx} {T : Tab} {cr : CallR}
theorem con_pure (hcr : CrOk P cr) (hmix : P.follows .mixedOrders = true) (hT : TabOk P X.T) (hΓ : Sound P X.T X.Γ) {f : FuncId} {fn : Func} (hf : P.funcs[f]? = some fn) (hb : fn.body.isSome = true) (hnt : fn.ntmps = X.nt) (hsm : Nat.ble X.nt 1000000 = true) {α : Type} {pre : α -> Prop} {enc : α -> List V} {val : α -> V} (n0 : Nat)
  (h : ∀ a, pre a -> ((enc a).length <= X.nt /\ (cellsIn (enc a)).length <= n0) /\ wpC cr X (body fn) (fun e sl en _ => endP X fn.results.toList (val a) e sl en) (inSf 0 0 (enc a)) (inEf 0 (enc a)) n0) : SoundP P f (conF pre enc val) := by
 have hb' : fn.body = some (body fn) := by
  unfold body
  cases hx : fn.body with
  | none => rw [hx] at hb; simp at hb
  | some c => rfl
 refine fun_pure hcr hmix hT hΓ hf hb' hnt hsm n0 ?_
 intro vs r outs hF
 obtain ⟨a, ha, rfl, rfl⟩ := conF_inv hF
 exact ⟨(h a ha).1.1, (h a ha).1.2, (h a ha).2⟩
theorem sound_pure {f : FuncId} {fn : Func} (hf : P.funcs[f]? = some fn) (hname : (fn.name == "runtime.NumGoroutine") = false) (hb : fn.body.isSome = true) {con : Con} (hc : (con.ro.all id && !con.rro) = true) (h : SoundP P f con.F) : SoundC P T f con := by
 refine ⟨⟨fn, hf, by simpa using hname, fun e => by rw [e] at hb; simp at hb⟩, ?_⟩
 intro Mn O0 w0 w nt s g a fresh seen rd r ts vs us R hs hfr hargs _ hrun
 unfold callWith at hrun
 rw [hc] at hrun
 exact pure_sim R hs hfr h hargs hrun
theorem sound_nil : Sound P T [] := fun f con h => by simp [lk] at h
theorem sound_cons {f : FuncId} {con : Con} {Γ : List (Nat × Con)} (h : SoundC P T f con) (k : Sound P T Γ) : Sound P T ((f, con) :: Γ) := by
 intro f' con' hl
 simp only [lk] at hl
 cases hb : Nat.beq f f' with
 | true =>
  rw [hb] at hl;have := qBq hb;subst this;simp only [cond_true, Option.some.injEq] at hl;subst hl; exact h
 | false => rw [hb] at hl; exact k f' con' hl
theorem sound_con (hcr : CrOk P cr) (hmix : P.follows .mixedOrders = true) (hT : TabOk P X.T) (hΓ : Sound P X.T X.Γ) {f : FuncId} {fn : Func} (hf : P.funcs[f]? = some fn) (hname : (fn.name == "runtime.NumGoroutine") = false) (hb : fn.body.isSome = true) (hnt : fn.ntmps = X.nt) (hsm : Nat.ble X.nt 1000000 = true) {α : Type} {n : Nat} {pre : α -> Prop} {enc : α -> List V} {val : α -> V} (n0 : Nat)
  (h : ∀ a, pre a -> ((enc a).length <= X.nt /\ (cellsIn (enc a)).length <= n0) /\ wpC cr X (body fn) (fun e sl en _ => endP X fn.results.toList (val a) e sl en) (inSf 0 0 (enc a)) (inEf 0 (enc a)) n0) : SoundC P X.T f (conP n pre enc val) :=
 sound_pure hf hname hb (by simp [conP]) (con_pure hcr hmix hT hΓ hf hb hnt hsm n0 h)
end
theorem inI64_of {a : Int} (h : -9223372036854775808 <= a) (k : a <= 9223372036854775807) : inI64 a = true := by
 exact inI64_iff.2 ⟨h, k⟩
def ints (l : List Int) : Flat := l.map fun x => [.i .i64 x]
def bools (l : List Bool) : Flat := l.map fun x => [.b x]
theorem qiq (l : List Int) : (ints l).length = l.length := by simp [ints]
theorem qhq {l : List Int} {i : Nat} {x : Int} (h : l[i]? = some x) : (ints l)[i]? = some [.i .i64 x] := by simp [ints, h]
theorem ints_inj {l m : List Int} (h : ints l = ints m) : l = m := by
 unfold ints at h
 exact (List.map_inj_right (fun x y h => by simpa using h)).1 h
theorem bools_length (l : List Bool) : (bools l).length = l.length := by simp [bools]
theorem bools_get {l : List Bool} {i : Nat} {x : Bool} (h : l[i]? = some x) : (bools l)[i]? = some [.b x] := by simp [bools, h]
theorem bools_inj {l m : List Bool} (h : bools l = bools m) : l = m := by
 unfold bools at h
 exact (List.map_inj_right (fun x y h => by simpa using h)).1 h
end Go.Sh
namespace Go.Sh
variable [Fwd]
def InlOk (P : Program) (l : List (Nat × Inl)) : Prop := ∀ f i, lk l f = some i -> i.nt <= 1000000 /\ ∃ fn, P.funcs[f]? = some fn /\ fn.name ≠ "runtime.NumGoroutine" /\ fn.body = some i.code /\ fn.results.toList = i.res /\ fn.ntmps = i.nt
theorem lk_append {α : Type} {l m : List (Nat × α)} {t : Nat} {v : α} (h : lk (l ++ m) t = some v) : lk l t = some v \/ lk m t = some v := by
 induction l with
 | nil => exact .inr h
 | cons p r ih =>
  obtain ⟨a, x⟩ := p;simp only [List.cons_append, lk] at h ⊢
  cases hb : Nat.beq a t with
  | true => rw [hb] at h; exact .inl h
  | false => rw [hb] at h; exact ih h
theorem lk_up {sl : Sl} {t : Nat} {v : SV} (h : lk (up sl) t = some v) : 1000000 <= t /\ lk sl (t - 1000000) = some v := by
 induction sl with
 | nil => simp [up, lk] at h
 | cons p r ih =>
  obtain ⟨a, x⟩ := p;simp only [up, lk] at h
  cases hb : Nat.beq (a + 1000000) t with
  | true =>
   rw [hb] at h;have := qBq hb;subst this;simp only [cond_true, Option.some.injEq] at h;subst h;refine ⟨by omega, ?_⟩;simp only [lk, Nat.add_sub_cancel, Nat.beq_refl, cond_true]
  | false =>
   rw [hb] at h;obtain ⟨h1, h2⟩ := ih h;refine ⟨h1, ?_⟩;simp only [lk];have : Nat.beq a (t - 1000000) = false := by
    cases hq : Nat.beq a (t - 1000000) with
    | false => rfl
    | true =>
     have := qBq hq;have : a + 1000000 = t := by omega
     subst this;rw [Nat.beq_refl] at hb; simp at hb
   rw [this]; exact h2
theorem lk_down {sl : Sl} {t : Nat} {v : SV} (h : lk (down sl) t = some v) : lk sl (t + 1000000) = some v := by
 induction sl with
 | nil => simp [down, lk] at h
 | cons p r ih =>
  obtain ⟨a, x⟩ := p;simp only [down] at h;simp only [lk]
  cases hq : Nat.ble 1000000 a with
  | false =>
   rw [hq] at h;have hlt : a < 1000000 := by
    rcases Nat.lt_or_ge a 1000000 with h | h
    ·exact h
    ·rw [Nat.ble_eq_true_of_le h] at hq; simp at hq
   have : Nat.beq a (t + 1000000) = false := by
    cases hb : Nat.beq a (t + 1000000) with
    | false => rfl
    | true => have := qBq hb; omega
   rw [this]; exact ih h
  | true =>
   rw [hq] at h;have hge : 1000000 <= a := Nat.le_of_ble_eq_true hq;simp only [cond_true, lk] at h
   cases hb : Nat.beq (a - 1000000) t with
   | true =>
    rw [hb] at h;have := qBq hb;have : a = t + 1000000 := by omega
    subst this;rw [Nat.beq_refl]; exact h
   | false =>
    rw [hb] at h;have : Nat.beq a (t + 1000000) = false := by
     cases hb' : Nat.beq a (t + 1000000) with
     | false => rfl
     | true =>
      have := qBq hb';have : a - 1000000 = t := by omega
      subst this;rw [Nat.beq_refl] at hb; simp at hb
    rw [this]; exact ih h
section
variable {P : Program} {X : Cx} {O0 : Nat -> Prop} {w0 : Base} {nt : Nat} {g : G} {a : Act} {w : World} {sl : Sl} {en : En} {nx : Nat} {cr : CallR}
theorem less_sl (sl sl' : Sl) (en : En) (g : G) (n : Nat) : Less (toS sl en) (toS sl' en) g g n :=
 ⟨rfl, rfl, fun p h => h, fun r ver L sz _ h => ⟨h, rfl, rfl⟩, fun ver h => h⟩
theorem VR3.reslot {v : SV} {u : Value} (sl' : Sl) (h : VR3 (toS sl en) g v u) : VR3 (toS sl' en) g v u := h.less (fun n _ => less_sl sl sl' en g n)
theorem EntOk.reslot {n : Nat} {e : Ent} (sl' : Sl) (h : EntOk w (toS sl en) g n e) : EntOk w (toS sl' en) g n e :=
 h.keep (fun _ _ _ _ => ⟨rfl, rfl⟩) (fun _ _ h => ⟨h, rfl⟩) rfl rfl (fun _ => rfl) (fun _ => rfl) (fun m _ => less_sl sl sl' en g m)
theorem slotAt_ge {gh : Nat -> Option Value} {tmps : Array Value} {t : Nat} (h : 1000000 <= t) : slotAt gh tmps t = gh (t - 1000000) := by
 rw [slotAt, if_neg (Nat.not_lt.2 h)]
theorem Rel.enter (R : Rel (fun n => n < nx) O0 w0 nt (toS sl en) g a w) {vs : List SV} {us : List Value} (hvs : All2 (VR3 (toS sl en) g) vs us) (hn : ∀ n ∈ vs.flatMap names3, n < nx) {m : Nat} (hm : vs.length <= m) (hs : m <= 1000000) :
  Rel (fun n => n < nx) O0 ⟨w0.w, slotAt w0.gh a.tmps⟩ m (toS (slIn 0 vs ++ up sl) en) g { tmps := us.toArray ++ Array.replicate (m - us.length) undef, defers := [] } w := by
 have hl := hvs.1
 have hlk : ∀ t v, lk (slIn 0 vs ++ up sl) t = some v -> vs[t]? = some v \/ (1000000 <= t /\ lk sl (t - 1000000) = some v) := fun t v h => by
  rcases lk_append h with h | h
  ·obtain ⟨_, h⟩ := slIn_lk _ _ _ _ h;exact .inl (by simpa using h)
  ·exact .inr (lk_up h)
 refine ⟨by simp; omega, rfl, hs, fun t v hv => ?_, fun n e he => EntOk.reslot _ (R.ents n e he), R.bound, R.label, fun t v hv n hnn => ?_, R.me, R.frm, R.ours⟩
 ·rcases hlk t v hv with h | ⟨h1, h2⟩
  ·have hlt := (qSq.1 h).1;have hlu : t < us.length := by omega
   obtain ⟨u, hu⟩ : ∃ u, us[t]? = some u := ⟨_, qEq hlu⟩;refine ⟨u, ?_, VR3.reslot _ (hvs.2 t v u h hu)⟩;rw [slotAt_lt (by omega), Array.getElem?_append_left (by simpa using hlu)];simpa using hu
  ·obtain ⟨u, hu, hr⟩ := R.slots _ v h2;refine ⟨u, ?_, VR3.reslot _ hr⟩;have hu : (slotAt w0.gh a.tmps) (t - 1000000) = some u := hu;rw [<- hu];exact slotAt_ge (gh := slotAt w0.gh a.tmps) h1
 ·rcases hlk t v hv with h | ⟨h1, h2⟩
  ·exact hn n (List.mem_flatMap.2 ⟨v, qMq h, hnn⟩)
  ·exact R.ms _ v h2 n hnn
theorem Rel.leave {m : Nat} {gh : Nat -> Option Value} {a0 : Act} {w1 : World} (R : Rel (fun n => n < nx) O0 ⟨w0.w, slotAt w0.gh a0.tmps⟩ m (toS sl en) g a w1) (h1 : a0.tmps.size = nt) (h2 : a0.defers = []) (h3 : nt <= 1000000) :
  Rel (fun n => n < nx) O0 w0 nt (toS (down sl) en) g a0 w1 := by
 refine ⟨h1, h2, h3, fun t v hv => ?_, fun n e he => EntOk.reslot _ (R.ents n e he), R.bound, R.label, fun t v hv n hnn => R.ms _ v (lk_down hv) n hnn, R.me, R.frm, R.ours⟩
 obtain ⟨u, hu, hr⟩ := R.slots _ v (lk_down hv)
 refine ⟨u, ?_, VR3.reslot _ hr⟩
 have : slotAt (slotAt w0.gh a0.tmps) a.tmps (t + 1000000) = slotAt w0.gh a0.tmps t := by
  rw [slotAt, if_neg (by omega), Nat.add_sub_cancel]
 rw [<- this]; exact hu
theorem names_flat {rs : List SV} {n : Nat} (hall : rs.all (fun v => !isTup v) = true) (hn : n ∈ namesL2 rs) : n ∈ rs.flatMap names3 := by
 induction rs with
 | nil => simp [namesL2] at hn
 | cons v rs ihr =>
  simp only [List.all_cons, Bool.and_eq_true] at hall;simp only [namesL2, List.mem_append] at hn;simp only [List.flatMap_cons, List.mem_append];rcases hn with hn | hn
  ·left; cases v with
   | tup l => simp [isTup] at hall
   | _ => exact hn
  ·exact .inr (ihr hall.2 hn)
theorem callAt_ok (hmix : P.follows .mixedOrders = true) (hT : TabOk P X.T) (hΓ : Sound P X.T X.Γ) (hI : InlOk P X.inl) (hB : CrOk P X.base) : ∀ d, CrOk P (callAt d X) := by
 intro d
 induction d with
 | zero => intro f vs K sl en nx h; exact h.elim
 | succ d ih =>
  intro f vs K sl en nx h;simp only [callAt] at h
  cases hi : lk X.inl f with
  | none => rw [hi] at h; exact hB f vs K sl en nx h
  | some i =>
   rw [hi] at h;simp only at h
   cases hc : (Nat.ble vs.length i.nt && vs.all (fun v => !isTup v)) with
   | false => rw [hc] at h; exact h.elim
   | true =>
    rw [hc] at h;simp only [cond_true] at h;simp only [Bool.and_eq_true] at hc;have hlen : vs.length <= i.nt := Nat.le_of_ble_eq_true hc.1;obtain ⟨hnt, fn, hf, hname, hbody, hres, hnt'⟩ := hI f i hi;intro O0 w0 nt g a w us R hus hn;refine ⟨⟨fn, hf, hname, by rw [hbody]; simp⟩, calls_of_wp hf hbody ?_⟩;have R1 := R.enter hus hn hlen hnt;rw [hnt', show us.toArray.size = us.length by simp];refine wpC_sim (X := { X with nt := i.nt }) hmix ih hT hΓ i.code _ _ (fun e sl1 en1 nx1 g1 a1 w1 hq R2 => ?_) _ _ _ g _ w h R1;have fin : (resP X.T sl1 en1 i.res fun rs => packS rs fun v => K v (down sl1) en1 nx1) -> a1.defers = [] /\ ∃ v, (results fn a1.tmps).run P w1 = .ok v w1 /\
      ∃ v' u sl' en' nx' g', Ending.returned v = .returned u /\ K v' sl' en' nx' /\ VR3 (toS sl' en') g' v' u /\ (∀ n ∈ names3 v', n < nx') /\ Rel (fun n => n < nx') O0 w0 nt (toS sl' en') g' a w1 := by
     intro hq;obtain ⟨rs, us', k1, k2, k3, k4⟩ := resP_run (X := X) hT R2 _ _ hq;rw [<- hres] at k1;have R3 := R2.leave (gh := w0.gh) (nt := nt) R.size R.defers R.small;refine ⟨R2.defers, packV us', results_run k1, ?_⟩;unfold packS at k3;split at k3
     ·rename_i v
      cases us' with
      | nil => have := k2.1; simp at this
      | cons u us' =>
       cases us' with
       | cons _ _ => have := k2.1; simp at this
       | nil =>
        exact ⟨v, u, down sl1, en1, nx1, g1, rfl, k3, VR3.reslot _ (k2.2 0 v u rfl rfl), fun n hn => k4 n (by simpa using hn), R3⟩
     ·rename_i hne
      cases hall : rs.all (fun v => !isTup v) with
      | false => rw [hall] at k3; exact k3.elim
      | true =>
       rw [hall] at k3;have hpv : packV us' = .tuple us'.toArray := by
        cases us' with
        | nil => rfl
        | cons u us' =>
         cases us' with
         | cons _ _ => rfl
         | nil =>
          cases rs with
          | nil => have := k2.1; simp at this
          | cons v rs => cases rs with
           | nil => exact absurd rfl (hne v)
           | cons _ _ => have := k2.1; simp at this
       have h2 : ∀ {v : SV} {u : Value}, isTup v = false -> VR3 (toS sl1 en1) g1 v u -> VR2 (toS (down sl1) en1) g1 v u := by
        intro v u hv h;have := VR3.reslot (down sl1) h
        cases v with
        | tup l => simp [isTup] at hv
        | _ => exact this
       refine ⟨.tup rs, packV us', down sl1, en1, nx1, g1, rfl, k3, ⟨us'.toArray, hpv, by simpa using k2.1, fun i x y hx hy => ?_⟩, fun n hn => k4 n ?_, R3⟩
       ·refine h2 ?_ (k2.2 i x y hx (by simpa using hy));have := List.all_eq_true.1 hall x (qMq hx);simpa using this
       ·have hn : n ∈ namesL2 rs := hn;exact names_flat hall hn
    cases e with
    | normal => exact fin hq
    | ret => exact fin hq
    | _ => exact hq.elim
def sg : Nat -> List Nat -> List (Nat × Option Nat)
 | _, [] => []
 | i, a :: r => (i, some a) :: sg (i + 1) r
theorem Weak.by {sl sl' : Sl} {en en' : En} {nx : Nat} (σ : List (Nat × Option Nat)) (h : weakS σ sl en sl') (k : weakE σ en en') (t : tidy σ nx sl' en' = true) : Weak sl en sl' en' nx := ⟨[], σ, t, h, k⟩
theorem Weak.bf {sl sl' : Sl} {en en' : En} {nx : Nat} (fz : List Nat) (σ : List (Nat × Option Nat)) (h : weakS σ sl (frz fz en) sl' /\ weakE σ (frz fz en) en') (t : tidy σ nx sl' en' = true := by rfl) : Weak sl en sl' en' nx := ⟨fz, σ, t, h.1, h.2⟩
theorem Weak.bw {sl sl' : Sl} {en en' : En} {nx : Nat} (σ : List (Nat × Option Nat)) (h : weakS σ sl en sl' /\ weakE σ en en') (t : tidy σ nx sl' en' = true := by rfl) : Weak sl en sl' en' nx := ⟨[], σ, t, h.1, h.2⟩
theorem Weak.ba {sl sl' : Sl} {en en' : En} {nx : Nat} (σ : List (Nat × Option Nat)) (h : weakS σ sl en sl' /\ weakE σ en en' := by ((repeat' first|exact rfl|exact trivial|apply And.intro) <;> (repeat' first|exact rfl|exact trivial|apply And.intro))) (t : tidy σ nx sl' en' = true := by rfl) : Weak sl en sl' en' nx := ⟨[], σ, t, h.1, h.2⟩
theorem Pick.n {a : Int} {A B : Prop} (k : A) (h1 : -9223372036854775808 <= a := by omega) (h2 : a <= 9223372036854775807 := by omega) : Pick (inI64 a) A B := Pick.T (inI64_of h1 h2) k
theorem two_le {a b c d : Nat} {X : Prop} (k : X) (h1 : Nat.ble a b = true := by exact rfl) (h2 : Nat.ble c d = true := by exact rfl) : (a <= b /\ c <= d) /\ X := ⟨⟨Nat.le_of_ble_eq_true h1, Nat.le_of_ble_eq_true h2⟩, k⟩
theorem Seg.by {ops : List Oper} {lo : Nat} {log : Log} {A : Prop} (h : okSeg ops lo log = true) (k : A) : Drw true (okSeg ops lo log = true) A := ⟨h, k⟩
theorem Idx.by {a : Int} {L : Nat} {P : Nat -> Prop} (m : Nat) (h : a = m) (hl : m < L) (k : P m) : ∃ m : Nat, a = m /\ m < L /\ P m := ⟨m, h, hl, k⟩
theorem Rng.by {a b : Int} {L : Nat} {P : Nat -> Nat -> Prop} (m n : Nat) (h1 : a = m) (h2 : b = n) (h3 : m <= n) (h4 : n <= L) (k : P m n) : ∃ m n : Nat, a = m /\ b = n /\ m <= n /\ n <= L /\ P m n := ⟨m, n, h1, h2, h3, h4, k⟩
theorem Look.by {α : Type} {l : List α} {i : Nat} {P : α -> Prop} (x : α) (h : l[i]? = some x) (k : P x) : ∃ x, l[i]? = some x /\ P x := ⟨x, h, k⟩
theorem Call.by {F : List V -> Option (V × List V)} {vs : List V} {P : V -> List V -> Prop} (r : V) (outs : List V) (h : F vs = some (r, outs)) (k : P r outs) : ∃ r outs, F vs = some (r, outs) /\ P r outs := ⟨r, outs, h, k⟩
theorem Next.by {α : Type} {I : α -> Prop} {R : α -> Prop} {W : α -> Prop} (b : α) (h : I b) (h2 : R b) (h3 : W b) : ∃ b, I b /\ R b /\ W b := ⟨b, h, h2, h3⟩
theorem sc_eq {k : IntKind} {a b : Int} (h : a = b) : Sc.i k a = Sc.i k b := by rw [h]
theorem cr_none : CrOk P (fun _ _ _ _ _ _ => False) := fun _ _ _ _ _ _ h => h.elim
end
end Go.Sh
namespace Go.Sh
def inlF (fn : Func) : Inl := ⟨body fn, fn.results.toList, fn.ntmps⟩
theorem inl_nil {P : Program} : InlOk P [] := fun f i h => by simp [lk] at h
theorem inl_cons {P : Program} {f : FuncId} {fn : Func} {l : List (Nat × Inl)} (hf : P.funcs[f]? = some fn) (hname : (fn.name == "runtime.NumGoroutine") = false) (hb : fn.body.isSome = true) (hnt : Nat.ble fn.ntmps 1000000 = true) (h : InlOk P l) : InlOk P ((f, inlF fn) :: l) := by
 intro f' i hl
 simp only [lk] at hl
 cases hq : Nat.beq f f' with
 | false => rw [hq] at hl; exact h f' i hl
 | true =>
  rw [hq] at hl;have := qBq hq;subst this;simp only [cond_true, Option.some.injEq] at hl;subst hl;refine ⟨Nat.le_of_ble_eq_true hnt, fn, hf, by simpa using hname, ?_, rfl, rfl⟩;simp only [inlF, body]
  cases hx : fn.body with
  | none => rw [hx] at hb; simp at hb
  | some c => rfl
end Go.Sh
namespace Go.Sh
variable [Fwd]
def ScTy (T : Tab) (t : Nat) (x : Sc) : Prop := match lk T t with
 | some ti => match ti.kind, x with
  | .int k, .i k' n => k' = k /\ (Lit.int k n).wf = true
  | .bool, .b _ => True
  | _, _ => False
 | none => False
def oneB (T : Tab) : Nat -> List (Nat × Nat) -> Bool
 | _, [] => true
 | i, (d, ft) :: r => Nat.beq d i && Nat.beq (sizeT T ft) 1 && oneB T (i + 1) r
def RowTy (T : Tab) (e : Nat) (row : Row) : Prop := match lk T e with
 | some ti => match ti.kind with
  | .struct fs => oneB T 0 fs = true /\ All2 (fun (f : Nat × Nat) x => ScTy T f.2 x) fs row
  | _ => ∃ x, row = [x] /\ ScTy T e x
 | none => False
def FlatTy (T : Tab) (e : Nat) (rows : Flat) : Prop := rows.length <= maxLen /\ ∀ row ∈ rows, RowTy T e row
def sliceE (T : Tab) (t : Nat) : Option Nat := match lk T t with
 | some ti => match ti.kind with | .slice e => some e | _ => none
 | none => none
def CTy (T : Tab) (t : Nat) (c : C) : Prop := match sliceE T t with
 | some e => match sliceE T e with
  | some e2 => ∃ rows, c = .nest false (sizeT T e2) rows /\ rows.length <= maxLen /\ ∀ fl ∈ rows, FlatTy T e2 fl
  | none => ∃ rows, c = .flat false (sizeT T e) rows /\ FlatTy T e rows
 | none => ∃ x, c = .s x /\ ScTy T t x
def VTy (T : Tab) (t : Nat) (v : V) : Prop := match lk T t with
 | some ti => match ti.kind with
  | .struct fs => ∃ cs, v = .agg cs /\ All2 (fun (f : Nat × Nat) c => CTy T f.2 c) fs cs
  | .array n e => ∃ cs, v = .agg cs /\ cs.length = n /\ ∀ c ∈ cs, CTy T e c
  | _ => ∃ c, v = .one c /\ CTy T t c
 | none => False
def plainB (T : Tab) (e : Nat) : Bool := match lk T e with
 | some ti => match ti.kind with
  | .int _ | .bool => Nat.beq ti.size 1
  | .struct fs => Nat.beq ti.size fs.length && oneB T 0 fs && fs.all (fun f => match lk T f.2 with | some fi => (match fi.kind with | .int _ | .bool => true | _ => false) | none => false)
  | _ => false
 | none => false
def cellB (T : Tab) (t : Nat) : Bool := match sliceE T t with
 | some e => match sliceE T e with
  | some e2 => Nat.beq (sizeT T e) 1 && plainB T e2
  | none => plainB T e
 | none => match lk T t with | some ti => (match ti.kind with | .int _ | .bool => true | _ => false) | none => false
def argB (T : Tab) (t : Nat) : Bool := match lk T t with
 | some ti => match ti.kind with
  | .struct fs => Nat.beq ti.size fs.length && oneB T 0 fs && fs.all (fun f => cellB T f.2)
  | .array n e => Nat.beq ti.size n && (Nat.beq (sizeT T e) 1 && cellB T e)
  | _ => cellB T t
 | none => false
section
variable {P : Program} {T : Tab} {H : Type} {enc : TypeId × Value -> H} {w : World} {sp : Nat -> Bool} {held : Bool}
theorem mapM_all {α β : Type} {f : α -> Option β} : ∀ {l : List α} {ys : List β}, l.mapM f = some ys -> ∀ x ∈ l, ∃ y, f x = some y := by
 intro l
 induction l with
 | nil => intro ys _ x hx; simp at hx
 | cons a l ih =>
  intro ys h x hx;simp only [List.mapM_cons, Option.bind_eq_bind, Option.bind_eq_some_iff] at h;obtain ⟨y, h1, zs, h2, _⟩ := h;rcases List.mem_cons.1 hx with rfl | hx
  ·exact ⟨y, h1⟩
  ·exact ih h2 x hx
theorem cellsOf_eq (hT : TabOk P T) {t : Nat} {ti : TI} (ht : lk T t = some ti) : P.cellsOf t = ti.size := by
 obtain ⟨i, z, hi, hs, _⟩ := (hT t ti ht).info
 simp [Program.cellsOf, hi, hs]
theorem sizeT_eq {t : Nat} {ti : TI} (ht : lk T t = some ti) : sizeT T t = ti.size := by simp [sizeT, ht]
theorem trod_sc (hT : TabOk P T) {t : Nat} {ti : TI} (ht : lk T t = some ti) (hk : (∃ k, ti.kind = .int k) \/ ti.kind = .bool) {fuel : Nat} {cs : List Value} {r : DataW H × List MemPlace} (h : DataW.trod enc P w 0 sp held fuel t cs = some r) :
  ∃ x, cs = [Sc.val x] /\ ScTy T t x := by
 cases fuel with
 | zero => simp [DataW.trod] at h
 | succ fuel =>
  obtain ⟨d, hd, hkd⟩ := (hT t ti ht).und;rcases hk with ⟨k, hk⟩ | hk
  ·rw [hk] at hkd;cases d <;> simp [KdOk] at hkd
   subst hkd;unfold DataW.trod at h;rw [hd] at h;split at h <;> rename_i heq <;> try (simp at heq; done)
   all_goals first
    | (simp at heq
       subst heq;split at h
       ·rename_i hc;obtain ⟨rfl, hw⟩ := hc;exact ⟨.i _ _, rfl, by unfold ScTy; rw [ht]; simp only; rw [hk]; exact ⟨rfl, hw⟩⟩
       ·simp at h)
    | (simp at h)
    | skip
  ·rw [hk] at hkd;cases d <;> simp [KdOk] at hkd
   unfold DataW.trod at h;rw [hd] at h;split at h <;> rename_i heq <;> try (simp at heq; done)
   all_goals first
    | (exact ⟨.b _, rfl, by unfold ScTy; rw [ht]; simp only; rw [hk]; trivial⟩)
    | (simp at h)
    | skip
theorem und_struct (hT : TabOk P T) {t : Nat} {ti : TI} (ht : lk T t = some ti) {fs : List (Nat × Nat)} (hk : ti.kind = .struct fs) : ∃ fields, P.underlying t = some (.struct fields) /\ fields.toList.map (fun f => (f.offset, f.type)) = fs := by
 obtain ⟨d, hd, hkd⟩ := (hT t ti ht).und
 rw [hk] at hkd
 cases d <;> simp [KdOk] at hkd
 exact ⟨_, hd, hkd⟩
theorem und_slice (hT : TabOk P T) {t : Nat} {ti : TI} (ht : lk T t = some ti) {e : Nat} (hk : ti.kind = .slice e) : P.underlying t = some (.slice e) := by
 obtain ⟨d, hd, hkd⟩ := (hT t ti ht).und
 rw [hk] at hkd
 cases d <;> simp [KdOk] at hkd
 subst hkd; exact hd
theorem trod_struct (hT : TabOk P T) {t : Nat} {ti : TI} (ht : lk T t = some ti) {fs : List (Nat × Nat)} (hk : ti.kind = .struct fs) (hsz : ti.size = fs.length) (ho : oneB T 0 fs = true) {fuel : Nat} {cs : List Value} {r : DataW H × List MemPlace}
  (hft : ∀ f ∈ fs, ∃ fi, lk T f.2 = some fi) (h : DataW.trod enc P w 0 sp held fuel t cs = some r) :
  cs.length = fs.length /\ ∀ (i : Nat) (f : Nat × Nat), fs[i]? = some f -> ∃ v fuel' r', cs[i]? = some v /\ DataW.trod enc P w 0 sp held fuel' f.2 [v] = some r' := by
 cases fuel with
 | zero => simp [DataW.trod] at h
 | succ fuel =>
  obtain ⟨fields, hu, hfs⟩ := und_struct hT ht hk;have hco := cellsOf_eq hT ht;have hh : cs.length = P.cellsOf t /\ ∃ ys, (fields.toList.mapM fun f => DataW.trod enc P w 0 sp held fuel f.type ((cs.drop f.offset).take (P.cellsOf f.type))) = some ys := by
   unfold DataW.trod at h;rw [hu] at h;simp only at h;split at h
   ·rename_i hl;simp only [Option.map_eq_some_iff] at h;obtain ⟨ys, hy, _⟩ := h;exact ⟨hl, ys, hy⟩
   ·simp at h
  obtain ⟨hlen, ys, hy⟩ := hh;rw [hco, hsz] at hlen;refine ⟨hlen, fun i f hi => ?_⟩;have hil := (qSq.1 hi).1;have hone : ∀ (l : List (Nat × Nat)) (q i : Nat) (f : Nat × Nat), oneB T q l = true -> l[i]? = some f -> f.1 = q + i /\ sizeT T f.2 = 1 := by
   intro l
   induction l with
   | nil => intro q i f _ h; simp at h
   | cons p l ih =>
    intro q i f h hi;obtain ⟨d, ft⟩ := p;simp only [oneB, Bool.and_eq_true] at h
    cases i with
    | zero => simp at hi; subst hi; exact ⟨qBq h.1.1, qBq h.1.2⟩
    | succ i =>
     obtain ⟨k1, k2⟩ := ih (q + 1) i f h.2 (by simpa using hi);exact ⟨by omega, k2⟩
  obtain ⟨h1, h2⟩ := hone fs 0 i f ho hi;rw [Nat.zero_add] at h1;have hfi : fields.toList[i]?.map (fun f => (f.offset, f.type)) = some f := by rw [<- List.getElem?_map, hfs]; exact hi
  obtain ⟨fd, hfd, hfe⟩ := Option.map_eq_some_iff.1 hfi;obtain ⟨r', hr'⟩ := mapM_all hy fd (qMq hfd);have e1 : fd.offset = i := by rw [<- h1, <- hfe]
  have e2 : fd.type = f.2 := by rw [<- hfe]
  obtain ⟨fi, hfi'⟩ := hft f (qMq hi);have e3 : P.cellsOf f.2 = 1 := by rw [cellsOf_eq hT hfi', <- sizeT_eq hfi']; exact h2
  have hic : i < cs.length := by omega
  refine ⟨cs[i], fuel, r', qEq hic, ?_⟩;rw [e1, e2, e3] at hr';have : (cs.drop i).take 1 = [cs[i]] := by rw [List.drop_eq_getElem_cons hic]; rfl
  rw [this] at hr';exact hr'
theorem trod_row (hT : TabOk P T) {e : Nat} (hp : plainB T e = true) {fuel : Nat} {cs : List Value} {r : DataW H × List MemPlace} (h : DataW.trod enc P w 0 sp held fuel e cs = some r) : ∃ row, cs = row.map Sc.val /\ row.length = sizeT T e /\ RowTy T e row := by
 unfold plainB at hp
 cases ht : lk T e with
 | none => rw [ht] at hp; simp at hp
 | some ti =>
  rw [ht] at hp;simp only at hp;have one : ((∃ k, ti.kind = .int k) \/ ti.kind = .bool) -> ∃ row, cs = row.map Sc.val /\ row.length = sizeT T e /\ RowTy T e row := by
   intro hk;obtain ⟨x, rfl, hx⟩ := trod_sc hT ht hk h;have hs : ti.size = 1 := by
    rcases hk with ⟨k, hk⟩ | hk <;> rw [hk] at hp <;> exact qBq hp
   refine ⟨[x], rfl, by rw [sizeT_eq ht, hs]; rfl, ?_⟩;unfold RowTy;rw [ht];simp only;rcases hk with ⟨k, hk⟩ | hk <;> rw [hk] <;> exact ⟨x, rfl, hx⟩
  cases hk : ti.kind with
  | int k => exact one (.inl ⟨k, hk⟩)
  | bool => exact one (.inr hk)
  | struct fs =>
   rw [hk] at hp;simp only [Bool.and_eq_true, List.all_eq_true] at hp;obtain ⟨⟨h1, h2⟩, h3⟩ := hp;have h1 := qBq h1;have hft : ∀ f ∈ fs, ∃ fi, lk T f.2 = some fi := fun f hf => by
    have := h3 f hf
    cases hl : lk T f.2 with
    | none => rw [hl] at this; simp at this
    | some fi => exact ⟨fi, rfl⟩
   obtain ⟨hlen, hc⟩ := trod_struct hT ht hk h1 h2 hft h;have hall : ∀ i, i < fs.length -> ∃ x : Sc, cs[i]? = some x.val /\ ∀ f, fs[i]? = some f -> ScTy T f.2 x := by
    intro i hi;obtain ⟨v, fuel', r', hv, hr⟩ := hc i _ (qEq hi);obtain ⟨fi, hfi⟩ := hft _ (List.getElem_mem hi);have hpl := h3 _ (List.getElem_mem hi);rw [hfi] at hpl;simp only at hpl;obtain ⟨x, hx, hty⟩ := trod_sc hT hfi (by cases hk' : fi.kind <;> rw [hk'] at hpl <;> simp at hpl <;> simp) hr;injection hx with hx _
    refine ⟨x, by rw [hv, hx], fun f hf => ?_⟩;rw [qEq hi] at hf;injection hf with hf
    subst hf; exact hty
   obtain ⟨g, hg⟩ : ∃ g : Nat -> Sc, ∀ i, i < fs.length -> cs[i]? = some (g i).val /\ ∀ f, fs[i]? = some f -> ScTy T f.2 (g i) := by
    refine ⟨fun i => if h : i < fs.length then Classical.choose (hall i h) else .b false, fun i hi => ?_⟩;simp only [dif_pos hi];exact Classical.choose_spec (hall i hi)
   refine ⟨(List.range fs.length).map g, ?_, by simp [sizeT_eq ht, h1], ?_⟩
   ·apply List.ext_getElem?
    intro i;by_cases hi : i < fs.length
    ·rw [(hg i hi).1]; simp [hi]
    ·rw [List.getElem?_eq_none (by omega), List.getElem?_eq_none (by simp; omega)]
   ·unfold RowTy;rw [ht];simp only;rw [hk];refine ⟨h2, by simp, fun i f x hf hx => ?_⟩;have hi := (qSq.1 hf).1;simp [hi] at hx;subst hx;exact (hg i hi).2 f hf
  | _ => rw [hk] at hp; simp at hp
theorem trod_slice (hT : TabOk P T) {t e : Nat} {ti : TI} (ht : lk T t = some ti) (hk : ti.kind = .slice e) {fuel : Nat} {v : Value} {r : DataW H × List MemPlace} (h : DataW.trod enc P w 0 sp held fuel t [v] = some r) :
  v = .slice none 0 0 \/ ∃ a len cap, v = .slice (some a) len cap /\ len <= cap /\ cap <= maxLen /\ ∀ i, i < len -> ∃ cs fuel' r', w.cells? 0 (a.add (i * P.cellsOf e)) (P.cellsOf e) = some cs /\ DataW.trod enc P w 0 sp held fuel' e cs = some r' := by
 cases fuel with
 | zero => simp [DataW.trod] at h
 | succ fuel =>
  have hu := und_slice hT ht hk;unfold DataW.trod at h;rw [hu] at h;split at h <;> rename_i hA hB <;> first
   | (exfalso; simp at hA; done)
   | (exfalso; simp at hB; done)
   | (simp at hB; exact .inl hB)
   | skip
  all_goals first
   | (simp at h; done)
   | skip
  ·simp at hA hB;subst hA;subst hB;simp only at h;split at h
   ·rename_i hc;obtain ⟨_, h3, h4⟩ := hc;obtain ⟨ys, hy, _⟩ := Option.bind_eq_some_iff.1 h;refine .inr ⟨_, _, _, rfl, h3, h4, fun i hi => ?_⟩;obtain ⟨y, hy'⟩ := mapM_all hy i (List.mem_range.2 hi);obtain ⟨cs, h5, h6⟩ := Option.bind_eq_some_iff.1 hy';exact ⟨cs, fuel, y, h5, h6⟩
   ·simp at h
theorem cells_at? {a : Addr} {n : Nat} {cs : List Value} (h : w.cells? 0 a n = some cs) : cs.length = n /\ ∀ j v, cs[j]? = some v -> w.cell? (a.add j) = some v := by
 unfold World.cells? at h
 rw [if_pos (Nat.zero_le _)] at h
 have key : ∀ (l : List Nat) (cs : List Value), l.mapM (fun i => w.cell? (a.add i)) = some cs -> cs.length = l.length /\ ∀ (j : Nat) (v : Value) (i : Nat), cs[j]? = some v -> l[j]? = some i -> w.cell? (a.add i) = some v := by
  intro l
  induction l with
  | nil => intro cs h; simp at h; subst h; exact ⟨rfl, fun j v i h => by simp at h⟩
  | cons x l ih =>
   intro cs h;simp only [List.mapM_cons, Option.bind_eq_bind, Option.bind_eq_some_iff] at h;obtain ⟨y, h1, zs, h2, h3⟩ := h;simp at h3;subst h3;obtain ⟨k1, k2⟩ := ih zs h2;refine ⟨by simp [k1], fun j v i hj hi => ?_⟩
   cases j with
   | zero => simp at hj hi; subst hj; subst hi; exact h1
   | succ j => exact k2 j v i (by simpa using hj) (by simpa using hi)
 obtain ⟨k1, k2⟩ := key (List.range n) cs h
 rw [List.length_range] at k1
 refine ⟨k1, fun j v hj => k2 j v j hj ?_⟩
 have := (qSq.1 hj).1
 exact List.getElem?_range (by omega)
theorem flat_read (hT : TabOk P T) {e : Nat} (hp : plainB T e = true) (hpos : 0 < sizeT T e) (hce : P.cellsOf e = sizeT T e) {a : Addr} {len cap : Nat} (hl : len <= cap) (hm : cap <= maxLen)
  (h : ∀ i, i < len -> ∃ cs fuel' r', w.cells? 0 (a.add (i * P.cellsOf e)) (P.cellsOf e) = some cs /\ DataW.trod (H := H) enc P w 0 sp held fuel' e cs = some r') :
  ∃ rows, rows.length = len /\ FlatTy T e rows /\ FlatOk w noLab none (some a) cap (sizeT T e) rows := by
 have hall : ∀ i, i < len -> ∃ row : Row, row.length = sizeT T e /\ RowTy T e row /\ ∀ j x, row[j]? = some x -> w.cell? (a.add (i * sizeT T e + j)) = some (Sc.val x) := by
  intro i hi;obtain ⟨cs, fuel', r', h1, h2⟩ := h i hi;obtain ⟨row, rfl, h3, h4⟩ := trod_row hT hp h2;refine ⟨row, h3, h4, fun j x hj => ?_⟩;have := (cells_at? h1).2 j (Sc.val x) (by rw [List.getElem?_map, hj]; rfl);rw [hce, Addr.add_add] at this;exact this
 obtain ⟨g, hg⟩ : ∃ g : Nat -> Row, ∀ i, i < len -> (g i).length = sizeT T e /\ RowTy T e (g i) /\ ∀ j x, (g i)[j]? = some x -> w.cell? (a.add (i * sizeT T e + j)) = some (Sc.val x) := by
  refine ⟨fun i => if h : i < len then Classical.choose (hall i h) else [], fun i hi => ?_⟩;simp only [dif_pos hi];exact Classical.choose_spec (hall i hi)
 have hat : ∀ (i : Nat) (row : Row), ((List.range len).map g)[i]? = some row -> i < len /\ row = g i := fun i row hi => by
  have := (qSq.1 hi).1;simp at this;simp [this] at hi;exact ⟨this, hi.symm⟩
 refine ⟨(List.range len).map g, by simp, ⟨by simp; omega, fun row hr => ?_⟩, ⟨by simpa using hl, hpos, fun i row hi => ?_, fun i row j x hi hj => ?_, fun h => by simp at h⟩⟩
 ·obtain ⟨i, hi⟩ := List.mem_iff_getElem?.1 hr;obtain ⟨h1, rfl⟩ := hat i row hi;exact (hg i h1).2.1
 ·obtain ⟨h1, rfl⟩ := hat i row hi;exact (hg i h1).1
 ·obtain ⟨h1, rfl⟩ := hat i row hi;exact ⟨a, rfl, rfl, (hg i h1).2.2 j x hj⟩
theorem plain_size (hT : TabOk P T) {e : Nat} (hp : plainB T e = true) : 0 < sizeT T e /\ P.cellsOf e = sizeT T e := by
 unfold plainB at hp
 cases ht : lk T e with
 | none => rw [ht] at hp; simp at hp
 | some ti => exact ⟨by rw [sizeT_eq ht]; exact (hT e ti ht).pos.2.2, by rw [cellsOf_eq hT ht, sizeT_eq ht]⟩
theorem sliceE_some {t e : Nat} (h : sliceE T t = some e) : ∃ ti, lk T t = some ti /\ ti.kind = .slice e := by
 unfold sliceE at h
 cases ht : lk T t with
 | none => rw [ht] at h; simp at h
 | some ti =>
  rw [ht] at h;simp only at h;cases hk : ti.kind <;> rw [hk] at h <;> simp at h
  subst h;exact ⟨ti, rfl, hk⟩
theorem trod_array (hT : TabOk P T) {t : Nat} {ti : TI} (ht : lk T t = some ti) {n e : Nat} (hk : ti.kind = .array n e) (hsz : ti.size = n) (ho : sizeT T e = 1) (hfe : ∃ fi, lk T e = some fi) {fuel : Nat} {cs : List Value} {r : DataW H × List MemPlace}
  (h : DataW.trod enc P w 0 sp held fuel t cs = some r) : cs.length = n /\ ∀ i, i < n -> ∃ v fuel' r', cs[i]? = some v /\ DataW.trod enc P w 0 sp held fuel' e [v] = some r' := by
 cases fuel with
 | zero => simp [DataW.trod] at h
 | succ fuel =>
  obtain ⟨d, hd, hkd⟩ := (hT t ti ht).und;rw [hk] at hkd;cases d <;> simp [KdOk] at hkd
  obtain ⟨rfl, rfl⟩ := hkd;have hco := cellsOf_eq hT ht;obtain ⟨fi, hfi⟩ := hfe;have e3 : P.cellsOf e = 1 := by rw [cellsOf_eq hT hfi, <- sizeT_eq hfi]; exact ho
  have hh : cs.length = P.cellsOf t /\ ∃ ys, ((List.range n).mapM fun i => DataW.trod enc P w 0 sp held fuel e ((cs.drop (i * P.cellsOf e)).take (P.cellsOf e))) = some ys := by
   unfold DataW.trod at h;rw [hd] at h;simp only at h;split at h
   ·rename_i hl;simp only [Option.map_eq_some_iff] at h;obtain ⟨ys, hy, _⟩ := h;exact ⟨hl, ys, hy⟩
   ·simp at h
  obtain ⟨hlen, ys, hy⟩ := hh;rw [hco, hsz] at hlen;refine ⟨hlen, fun i hi => ?_⟩;obtain ⟨r', hr'⟩ := mapM_all hy i (List.mem_range.2 hi);have hic : i < cs.length := by omega
  refine ⟨cs[i], fuel, r', qEq hic, ?_⟩;have e4 : (cs.drop i).take 1 = [cs[i]] := by rw [List.drop_eq_getElem_cons hic]; rfl
  rw [e3, Nat.mul_one, e4] at hr';exact hr'
theorem cell_read (hT : TabOk P T) {t : Nat} (hc : cellB T t = true) {fuel : Nat} {v : Value} {r : DataW H × List MemPlace} (h : DataW.trod enc P w 0 sp held fuel t [v] = some r) : ∃ c, CTy T t c /\ ∀ q, CellOk w noLab q c v := by
 unfold cellB at hc
 cases hs : sliceE T t with
 | none =>
  rw [hs] at hc;simp only at hc
  cases ht : lk T t with
  | none => rw [ht] at hc; simp at hc
  | some ti =>
   rw [ht] at hc;simp only at hc;obtain ⟨x, hx, hty⟩ := trod_sc hT ht (by cases hk : ti.kind <;> rw [hk] at hc <;> simp at hc <;> simp) h;injection hx with hx _
   refine ⟨.s x, by unfold CTy; rw [hs]; exact ⟨x, rfl, hty⟩, fun q => ⟨⟨none, 0, fun _ => none, fun _ => 0⟩, hx⟩⟩
 | some e =>
  rw [hs] at hc;simp only at hc;obtain ⟨ti, ht, hk⟩ := sliceE_some hs;have hsl := trod_slice hT ht hk h
  cases hs2 : sliceE T e with
  | none =>
   rw [hs2] at hc;simp only at hc;obtain ⟨hpos, hce⟩ := plain_size hT hc;rcases hsl with rfl | ⟨a, len, cap, rfl, h1, h2, h3⟩
   ·refine ⟨.flat false (sizeT T e) [], ?_, fun q => ⟨⟨none, 0, fun _ => none, fun _ => 0⟩, rfl, FlatOk.nil hpos⟩⟩;unfold CTy; rw [hs]; simp only; rw [hs2]
    exact ⟨[], rfl, by simp [maxLen], fun _ h => by simp at h⟩
   ·obtain ⟨rows, hl, hty, hF⟩ := flat_read hT hc hpos hce h1 h2 h3;refine ⟨.flat false (sizeT T e) rows, ?_, fun q => ⟨⟨some a, cap, fun _ => none, fun _ => 0⟩, by rw [hl], hF⟩⟩;unfold CTy; rw [hs]; simp only; rw [hs2]
    exact ⟨rows, rfl, hty⟩
  | some e2 =>
   rw [hs2] at hc;simp only [Bool.and_eq_true] at hc;obtain ⟨hc1, hc⟩ := hc;obtain ⟨hpos, hce⟩ := plain_size hT hc;obtain ⟨te, hte, hke⟩ := sliceE_some hs2;rcases hsl with rfl | ⟨a, len, cap, rfl, h1, h2, h3⟩
   ·refine ⟨.nest false (sizeT T e2) [], ?_, fun q => ⟨⟨none, 0, fun _ => none, fun _ => 0⟩, rfl, ⟨by simp, hpos, fun i fl h => by simp at h, fun i fl h => by simp at h, fun h => by simp at h⟩⟩⟩;unfold CTy; rw [hs]; simp only; rw [hs2]
    exact ⟨[], rfl, by simp [maxLen], fun _ h => by simp at h⟩
   ·have hsz : te.size = 1 := by rw [<- sizeT_eq hte]; exact qBq hc1
    have hce1 : P.cellsOf e = 1 := by rw [cellsOf_eq hT hte, hsz]
    have hall : ∀ i, i < len -> ∃ (fl : Flat) (A : Option Addr) (c : Nat), w.cell? (a.add i) = some (.slice A fl.length c) /\ FlatTy T e2 fl /\ FlatOk w noLab none A c (sizeT T e2) fl := by
     intro i hi;obtain ⟨cs, fuel', r', h4, h5⟩ := h3 i hi;rw [hce1, Nat.mul_one] at h4;obtain ⟨k1, k2⟩ := cells_at? h4;obtain ⟨u, rfl⟩ := List.length_eq_one_iff.1 k1;have hu := k2 0 u rfl;rw [Addr.add_zero] at hu;rcases trod_slice hT hte hke h5 with rfl | ⟨b, len2, cap2, rfl, h6, h7, h8⟩
     ·exact ⟨[], none, 0, hu, ⟨by simp [maxLen], fun _ h => by simp at h⟩, FlatOk.nil hpos⟩
     ·obtain ⟨rows, hl, hty, hF⟩ := flat_read hT hc hpos hce h6 h7 h8;exact ⟨rows, some b, cap2, by rw [hl]; exact hu, hty, hF⟩
    obtain ⟨g, hg⟩ : ∃ g : Nat -> Flat × Option Addr × Nat, ∀ i, i < len -> w.cell? (a.add i) = some (.slice (g i).2.1 (g i).1.length (g i).2.2) /\ FlatTy T e2 (g i).1 /\ FlatOk w noLab none (g i).2.1 (g i).2.2 (sizeT T e2) (g i).1 := by
     have hall' : ∀ i, i < len -> ∃ p : Flat × Option Addr × Nat, w.cell? (a.add i) = some (.slice p.2.1 p.1.length p.2.2) /\ FlatTy T e2 p.1 /\ FlatOk w noLab none p.2.1 p.2.2 (sizeT T e2) p.1 := fun i hi => by
      obtain ⟨fl, A, c, h⟩ := hall i hi;exact ⟨(fl, A, c), h⟩
     refine ⟨fun i => if h : i < len then Classical.choose (hall' i h) else ([], none, 0), fun i hi => ?_⟩;simp only [dif_pos hi];exact Classical.choose_spec (hall' i hi)
    have hat : ∀ (i : Nat) (fl : Flat), ((List.range len).map fun i => (g i).1)[i]? = some fl -> i < len /\ fl = (g i).1 := fun i fl hi => by
     have := (qSq.1 hi).1;simp at this;simp [this] at hi;exact ⟨this, hi.symm⟩
    refine ⟨.nest false (sizeT T e2) ((List.range len).map fun i => (g i).1), ?_, fun q => ⟨⟨some a, cap, fun i => (g i).2.1, fun i => (g i).2.2⟩, by simp, ⟨by simpa using h1, hpos, fun i fl hi => ?_, fun i fl hi _ => ?_, fun h => by simp at h⟩⟩⟩
    ·unfold CTy; rw [hs]; simp only; rw [hs2]
     refine ⟨_, rfl, by simp; omega, fun fl hf => ?_⟩;obtain ⟨i, hi⟩ := List.mem_iff_getElem?.1 hf;obtain ⟨k1, rfl⟩ := hat i fl hi;exact (hg i k1).2.1
    ·obtain ⟨k1, rfl⟩ := hat i fl hi;exact ⟨a, _, rfl, rfl, (hg i k1).1, fun _ => rfl⟩
    ·obtain ⟨k1, rfl⟩ := hat i fl hi;exact (hg i k1).2.2
end
end Go.Sh
namespace Go.Sh
variable [Fwd]
open Go.RowKit Go.ChangeShapes Go.WideShapes
section
variable {P : Program} {T : Tab} {H : Type} {enc : TypeId × Value -> H} {w : World} {base : Nat}
theorem cells_no_agg {v : Value} (h : ∀ cs, v ≠ .agg cs) : v.cells.toList = [v] := by
 cases v <;> simp_all [Value.cells]
theorem CellsOk.mk {lab : Nat -> Option Key} : ∀ {cs : List C} {us : List Value} {q : Nat}, cs.length = us.length -> (∀ i c u, cs[i]? = some c -> us[i]? = some u -> CellOk w lab (q + i) c u) -> CellsOk w lab q cs us := by
 intro cs
 induction cs with
 | nil => intro us q hl _; cases us <;> simp at hl; trivial
 | cons c cs ih =>
  intro us q hl h
  cases us with
  | nil => simp at hl
  | cons u us =>
   exact ⟨h 0 c u rfl rfl, ih (by simpa using hl) fun i c u h1 h2 => by have := h (i + 1) c u (by simpa using h1) (by simpa using h2); rwa [Nat.add_assoc, Nat.add_comm 1]⟩
theorem All2.cons' {α β : Type} {R : α -> β -> Prop} {a : α} {b : β} {l : List α} {m : List β} (h : R a b) (hs : All2 R l m) : All2 R (a :: l) (b :: m) := by
 refine ⟨by simp [hs.1], fun i x y hx hy => ?_⟩
 cases i with
 | zero => simp at hx hy; subst hx; subst hy; exact h
 | succ i => exact hs.2 i x y (by simpa using hx) (by simpa using hy)
theorem arg_read (hT : TabOk P T) {t : Nat} (ha : argB T t = true) {v : Value} {d : DataW H} {ps : List MemPlace} (ok : Value.okWide P w .any base t v) (h : DataW.Trod enc P w 0 (fun _ => true) true t v d ps) :
  ∃ V, VTy T t V /\ ∀ q, V1Ok w noLab q V v := by
 obtain ⟨fuel, hf⟩ := h
 unfold argB at ha
 cases ht : lk T t with
 | none => rw [ht] at ha; simp at ha
 | some ti =>
  rw [ht] at ha;simp only at ha;have one : cellB T t = true -> (∀ cs, v ≠ .agg cs) -> (∀ fs, ti.kind ≠ .struct fs) -> ∃ V, VTy T t V /\ ∀ q, V1Ok w noLab q V v := by
   intro hc hv hk;have hna : ∀ n e, ti.kind ≠ .array n e := fun n e hka => by unfold cellB sliceE at hc; rw [ht] at hc; simp [hka] at hc
   rw [cells_no_agg hv] at hf;obtain ⟨c, hc, hok⟩ := cell_read hT hc hf;refine ⟨.one c, ?_, fun q => ?_⟩
   ·unfold VTy;rw [ht];simp only;exact ⟨c, rfl, hc⟩
   ·exact hok q
  obtain ⟨d', hd, hkd⟩ := (hT t ti ht).und
  cases hk : ti.kind with
  | struct fs =>
   rw [hk] at ha;simp only [Bool.and_eq_true, List.all_eq_true] at ha;obtain ⟨⟨h1, h2⟩, h3⟩ := ha;have h1 := qBq h1;have hft : ∀ f ∈ fs, ∃ fi, lk T f.2 = some fi := fun f hf => by
    have := h3 f hf;unfold cellB at this
    cases hl : lk T f.2 with
    | none => unfold sliceE at this; rw [hl] at this; simp at this
    | some fi => exact ⟨fi, rfl⟩
   obtain ⟨hlen, hc⟩ := trod_struct hT ht hk h1 h2 hft hf;rw [hk] at hkd;cases d' <;> simp [KdOk] at hkd
   unfold Value.okWide at ok;rw [hd] at ok;obtain ⟨cs, rfl, _, _⟩ := ok;simp only [Value.cells] at hlen hc;have hall : ∀ i, i < fs.length -> ∃ (c : C) (v : Value), cs.toList[i]? = some v /\ (∀ q, CellOk w noLab q c v) /\ ∀ f, fs[i]? = some f -> CTy T f.2 c := by
    intro i hi;obtain ⟨v, fuel', r', hv, hr⟩ := hc i _ (qEq hi);obtain ⟨c, h4, h5⟩ := cell_read hT (h3 _ (List.getElem_mem hi)) hr;refine ⟨c, v, hv, h5, fun f hf => ?_⟩;rw [qEq hi] at hf;injection hf with hf
    subst hf; exact h4
   obtain ⟨g, hg⟩ : ∃ g : Nat -> C, ∀ i, i < fs.length -> ∃ v, cs.toList[i]? = some v /\ (∀ q, CellOk w noLab q (g i) v) /\ ∀ f, fs[i]? = some f -> CTy T f.2 (g i) := by
    refine ⟨fun i => if h : i < fs.length then Classical.choose (hall i h) else .dead, fun i hi => ?_⟩;simp only [dif_pos hi];exact Classical.choose_spec (hall i hi)
   refine ⟨.agg ((List.range fs.length).map g), ?_, fun q => ⟨cs, rfl, ?_⟩⟩
   ·unfold VTy;rw [ht];simp only;rw [hk];refine ⟨_, rfl, by simp, fun i f c hf hc => ?_⟩;have hi := (qSq.1 hf).1;simp [hi] at hc;subst hc;exact (hg i hi).choose_spec.2.2 f hf
   ·refine CellsOk.mk (by simpa using hlen.symm) fun i c u hc hu => ?_
    have hi : i < fs.length := by have := (qSq.1 hc).1; simpa using this
    simp [hi] at hc;subst hc;obtain ⟨v, h4, h5, _⟩ := hg i hi;rw [h4] at hu;injection hu with hu
    subst hu;exact h5 _
  | int k =>
   rw [hk] at ha hkd;cases d' <;> simp [KdOk] at hkd
   subst hkd;obtain ⟨n, rfl⟩ := okWide_int hd ok;exact one ha (fun _ => by simp) (fun fs => by rw [hk]; simp)
  | bool =>
   rw [hk] at ha hkd;cases d' <;> simp [KdOk] at hkd
   obtain ⟨n, rfl⟩ := okWide_bool hd ok;exact one ha (fun _ => by simp) (fun fs => by rw [hk]; simp)
  | slice e =>
   rw [hk] at ha hkd;cases d' <;> simp [KdOk] at hkd
   obtain ⟨a, l, c, rfl⟩ := okWide_slice hd ok;exact one ha (fun _ => by simp) (fun fs => by rw [hk]; simp)
  | array n e =>
   rw [hk] at ha;simp only [Bool.and_eq_true] at ha;obtain ⟨h1, h2, h3⟩ := ha;have h1 := qBq h1;have h2 := qBq h2;have hfe : ∃ fi, lk T e = some fi := by
    cases hl : lk T e with
    | none => unfold sizeT at h2; rw [hl] at h2; simp at h2
    | some fi => exact ⟨fi, rfl⟩
   obtain ⟨hlen, hc⟩ := trod_array hT ht hk h1 h2 hfe hf;rw [hk] at hkd;cases d' <;> simp [KdOk] at hkd
   unfold Value.okWide at ok;rw [hd] at ok;obtain ⟨cs, rfl, _, _⟩ := ok;simp only [Value.cells] at hlen hc;have hall : ∀ i, i < n -> ∃ (c : C) (v : Value), cs.toList[i]? = some v /\ (∀ q, CellOk w noLab q c v) /\ CTy T e c := by
    intro i hi;obtain ⟨v, fuel', r', hv, hr⟩ := hc i hi;obtain ⟨c, h4, h5⟩ := cell_read hT h3 hr;exact ⟨c, v, hv, h5, h4⟩
   obtain ⟨g, hg⟩ : ∃ g : Nat -> C, ∀ i, i < n -> ∃ v, cs.toList[i]? = some v /\ (∀ q, CellOk w noLab q (g i) v) /\ CTy T e (g i) := by
    refine ⟨fun i => if h : i < n then Classical.choose (hall i h) else .dead, fun i hi => ?_⟩;simp only [dif_pos hi];exact Classical.choose_spec (hall i hi)
   refine ⟨.agg ((List.range n).map g), ?_, fun q => ⟨cs, rfl, ?_⟩⟩
   ·unfold VTy;rw [ht];simp only;rw [hk];refine ⟨_, rfl, by simp, fun c hc => ?_⟩;obtain ⟨i, hi, rfl⟩ := List.mem_map.1 hc;exact (hg i (List.mem_range.1 hi)).choose_spec.2.2
   ·refine CellsOk.mk (by simpa using hlen.symm) fun i c u hc hu => ?_
    have hi : i < n := by have := (qSq.1 hc).1; simpa using this
    simp [hi] at hc;subst hc;obtain ⟨v, h4, h5, _⟩ := hg i hi;rw [h4] at hu;injection hu with hu
    subst hu;exact h5 _
  | _ => rw [hk] at ha; simp only at ha; unfold cellB sliceE at ha; rw [ht] at ha; simp [hk] at ha
theorem args_read (hT : TabOk P T) : ∀ (ts : List TypeId) (vs : List Value) (ds : List (DataW H)) (ps : List MemPlace), (∀ (j : Nat) t v, ts[j]? = some t -> vs[j]? = some v -> Value.okWide P w .any base t v) ->
  DataW.TrodAll enc P w 0 (fun _ => true) true ts vs ds ps -> ts.all (argB T) = true -> ds.length = ts.length /\ ∃ Vs, All2 (fun t V => VTy T t V) ts Vs /\ ∀ q, V1sOk w noLab q Vs vs := by
 intro ts
 induction ts with
 | nil =>
  intro vs ds ps _ h _;obtain ⟨rfl, rfl, rfl⟩ := trodAll_nil h;exact ⟨rfl, [], ⟨rfl, fun i a b h => by simp at h⟩, fun _ => trivial⟩
 | cons t ts ih =>
  intro vs ds ps ok h ha;obtain ⟨v, vs, d, ds, p, q, rfl, rfl, rfl, h1, h2⟩ := trodAll_cons h;simp only [List.all_cons, Bool.and_eq_true] at ha;obtain ⟨V, hV, hok⟩ := arg_read hT ha.1 (ok 0 t v rfl rfl) h1;obtain ⟨hl, Vs, hVs, hoks⟩ := ih vs ds q (fun j t v h1 h2 => ok (j + 1) t v (by simpa using h1) (by simpa using h2)) h2 ha.2;refine ⟨by simp [hl], V :: Vs, All2.cons' hV hVs, fun q => ⟨hok q, hoks _⟩⟩
theorem args_after (hl : laidOutB P = true) {w' : World} (hb : Below w.heap.size w w') : ∀ (ts : List TypeId) (vs : List Value) (ds : List (DataW H)) (ps : List MemPlace),
  DataW.TrodAll enc P w 0 (fun _ => true) true ts vs ds ps -> (∀ t ∈ ts, P.readableRec t = true /\ t < P.types.size) -> DataW.TrodAll enc P w' 0 (fun b => decide (b < w.heap.size)) true ts vs ds ps := by
 intro ts
 induction ts with
 | nil =>
  intro vs ds ps h _;obtain ⟨rfl, rfl, rfl⟩ := trodAll_nil h;exact trodAll_mk0
 | cons t ts ih =>
  intro vs ds ps h ha;obtain ⟨v, vs, d, ds, p, q, rfl, rfl, rfl, h1, h2⟩ := trodAll_cons h;have lt : ∀ x ∈ p, x.block < w.heap.size := by obtain ⟨m, hm⟩ := h1; exact DataW.trod_lt m _ _ _ hm
  exact trodAll_cons_mk (Below.trod hl (ha t (by simp)).1 (ha t (by simp)).2 h1 hb lt) (ih vs ds q h2 fun t ht => ha t (by simp [ht]))
theorem Frm.below {w w' : World} (h : Frm (fun _ => False) w w') : Below w.heap.size w w' := ⟨h.os, h.tape.1, h.output, h.size, fun b hb => h.block b hb (fun h => h)⟩
def LawV (T : Tab) (ts : List TypeId) (F : List V -> Option (V × List V)) : Prop := ∀ vs, All2 (fun t V => VTy T t V) ts vs -> ∃ outs, F vs = some (.one (.s (.b true)), outs)
theorem law_contract (hT : TabOk P T) (hl : laidOutB P = true) {f : FuncId} {fn : Func} {s : ChangeSpec} {conds : List PathCond} {apart fresh handsOn : Bool} (hv : s.vars = []) {ts : List TypeId} {tb : TypeId} {F : List V -> Option (V × List V)}
  (hts : fn.params.toList = ts) (ha : ts.all (argB T) = true) (hr : ∀ t ∈ ts, P.readableRec t = true /\ t < P.types.size) (hres : fn.resultTypes = #[tb]) (hb : P.underlying tb = some .bool)
  (hsp : ∀ ds : List (DataW H), ds.length = ts.length -> (s.fn H ds).results = [.lit (.bool true)] /\ (s.fn H ds).args = ds /\ (s.fn H ds).vars = [])
  (hS : SoundP P f F) (hF : LawV T ts F) {W : World} {base : Nat} {args : Array Value} {ds gs : List (DataW H)} {before : List MemPlace}
  (ok : ∀ (j : Nat) t v, fn.params[j]? = some t -> args[j]? = some v -> Value.okWide P W .any base t v)
  (hW : DataW.Whole enc P fn.params.toList s.vars apart W args.toList ds gs before) :
  Calls P f args W fun e W' => ∃ v, e = .returned v /\ s.post enc P fn apart fresh handsOn false W args v W' := by
 have hW' := hW
 obtain ⟨p, q, hA, hV, rfl, hfz, hnd⟩ := hW
 rw [hv] at hV
 obtain ⟨rfl, rfl⟩ := trodVars_none hV
 rw [hts] at hA
 obtain ⟨hlen, vs, hvs, hoks⟩ := args_read hT ts args.toList ds p (fun j t v h1 h2 => ok j t v (by rw [<- Array.getElem?_toList, hts]; exact h1) (by rw [<- Array.getElem?_toList]; exact h2)) hA ha
 obtain ⟨outs, hF⟩ := hF vs hvs
 refine (hS vs _ outs hF W args (hoks 0)).mono fun e W' ⟨u, lab, he, hfr, _, hu⟩ => ?_
 subst he
 obtain ⟨x, hx⟩ := hu
 obtain rfl : u = .bool true := hx
 obtain ⟨k1, k2, k3⟩ := hsp ds hlen
 refine ⟨_, rfl, ds, [], _, [], p, [], hW', ?_, ?_, ?_, (Frm.below hfr).frame _, fun h => by cases h⟩
 ·rw [List.append_nil, k1, hres];exact trodAll_mk1 (shut_bool hb _)
 ·rw [List.append_nil, k2, hts];exact args_after hl (Frm.below hfr) ts args.toList ds p hA hr
 ·rw [List.append_nil, k3, hv]
  rfl
end
end Go.Sh
namespace Go.Sh
variable [Fwd]
def FlatCall (P : Program) (f : Nat) (pre : List Int -> Int -> Prop) (F : List Int -> Int -> List Int) : Prop :=
 (∃ fn, P.funcs[f]? = some fn /\ fn.name ≠ "runtime.NumGoroutine" /\ fn.body ≠ none) /\
 ∀ (l : List Int) (x : Int), pre l x -> ∀ (w : World) (own : Nat -> Option Key) (key : Key) (A : Option Addr) (cap : Nat), FlatOk w own (some key) A cap 1 (ints l) ->
  Calls P f #[.slice A l.length cap, .int .i64 x] w fun e w' => ∃ A' cap', e = .returned (.slice A' (F l x).length cap') /\ Frm (fun b => own b = some key) w w' /\
   FlatOk w' (fun b => if w.heap.size <= b then (if b < w'.heap.size then some key else none) else own b) (some key) A' cap' 1 (ints (F l x))
def orCR (a b : CallR) : CallR := fun f vs K sl en nx => a f vs K sl en nx \/ b f vs K sl en nx
section
variable {P : Program} {X : Cx} {O0 : Nat -> Prop} {w0 : Base} {nt : Nat} {s : S} {g : G} {a : Act} {w : World} {sl : Sl} {en : En} {nx : Nat} {cr : CallR}
theorem or_ok {c d : CallR} (h : CrOk P c) (k : CrOk P d) : CrOk P (orCR c d) := fun f vs K sl en nx hx => hx.elim (h f vs K sl en nx) (k f vs K sl en nx)
theorem flat_step {f : Nat} {pre : List Int -> Int -> Prop} {F : List Int -> Int -> List Int} (hF : FlatCall P f pre F) {Mn : Nat -> Prop} (R : Rel Mn O0 w0 nt s g a w) {n m : Nat} {l : List Int} {x : Int} (he : s.fe n = some (.flat true 1 (ints l))) (hp : pre l x) (hnew : ¬ Mn m) :
  Calls P f #[.slice (g.base n) l.length (g.cap n), .int .i64 x] w fun e w' => ∃ u g', e = .returned u /\ Did Mn s g w (fun k => k = m) (.sl m none none) [(m, some (.flat true 1 (ints (F l x)))), (n, none)] u w' g' := by
 have hok : FlatOk w g.own (some (n, none)) (g.base n) (g.cap n) 1 (ints l) := R.ents n _ he
 have hmn := (R.me n _ he).1
 refine (hF.2 l x hp w g.own (n, none) _ _ hok).mono ?_
 rintro e w' ⟨A', cap', rfl, hfr, hFl⟩
 let fk : Key -> Key := fun k => if k.1 = n then (m, none) else k
 let own' : Nat -> Option Key := fun b => if w.heap.size <= b then (if b < w'.heap.size then some (m, none) else none) else (g.own b).map fk
 refine ⟨_, g.new m A' cap' (fun _ => none) (fun _ => 0) own', rfl, did_new (N := fun k => k = m) R rfl hnew A' cap' _ _ fk [n] (fun k hk => by simp at hk; subst hk; exact hmn) (fun k r hk => ?_) (fun k r hk => ?_) own' (fun b hb => ?_) w' ⟨hfr.os, hfr.tape, hfr.output, hfr.size⟩ (fun b k hb hk => ?_) (fun b hb hk => ?_) (fun g' hg' _ => ?_) (fun g' hg' => ?_)⟩
 ·have : k ≠ n := by simpa using hk
  simp [fk, this]
 ·have : k = n := by simpa using hk
  simp [fk, this]
 ·show (if w.heap.size <= b then _ else _) = _
  rw [if_neg (by omega)]
 ·have hk : (if w.heap.size <= b then (if b < w'.heap.size then some (m, none) else none) else (g.own b).map fk) = some k := hk;rw [if_pos hb] at hk;split at hk
  ·rename_i h; injection hk with hk; subst hk; exact ⟨h, rfl⟩
  ·simp at hk
 ·exact hfr.block b hb fun ho => hk n none ho (by simp)
 ·subst hg';show FlatOk w' own' (some (m, none)) ((g.new m A' cap' _ _ own').base m) ((g.new m A' cap' _ _ own').cap m) 1 (ints (F l x))
  have e1 : (g.new m A' cap' (fun _ => none) (fun _ => 0) own').base m = A' := by simp [G.new]
  have e2 : (g.new m A' cap' (fun _ => none) (fun _ => 0) own').cap m = cap' := by simp [G.new]
  rw [e1, e2];refine hFl.mono (fun _ => rfl) fun b hb ho => ⟨?_, rfl⟩
  show (if w.heap.size <= b then (if b < w'.heap.size then some (m, none) else none) else (g.own b).map fk) = some (m, none)
  by_cases hlt : w.heap.size <= b
  ·rw [if_pos hlt, if_pos hb]
  ·rw [if_neg hlt] at ho ⊢;rw [ho]; simp [fk]
 ·subst hg';refine ⟨A', _, cap', rfl, fun L sz hl => ?_⟩;have hl : lenSz (s.putW ((m, some (.flat true 1 (ints (F l x)))) :: [n].map fun k => (k, none))) m = some (L, sz) := hl;simp only [lenSz, S.putW, S.setE, if_true] at hl;injection hl with hl
  injection hl with h1 h2
  refine ⟨by simp [G.new], by rw [<- h1, qiq], by simp [G.new]⟩
noncomputable def turnC (pre : List Int -> Int -> Prop) (F : List Int -> Int -> List Int) : Con := ⟨[false, true], true, conF (fun a : List Int × Int => pre a.1 a.2) (fun a => [.one (.flat true 1 (ints a.1)), .one (.s (.i .i64 a.2))]) (fun a => .one (.flat true 1 (ints (F a.1 a.2))))⟩
theorem turnC_at {pre : List Int -> Int -> Prop} {F : List Int -> Int -> List Int} {l : List Int} {x : Int} (h : pre l x) : (turnC pre F).F [.one (.flat true 1 (ints l)), .one (.s (.i .i64 x))] = some (.one (.flat true 1 (ints (F l x))), []) :=
 conF_at (pre := fun a : List Int × Int => pre a.1 a.2) (enc := fun a => [.one (.flat true 1 (ints a.1)), .one (.s (.i .i64 a.2))]) (val := fun a => .one (.flat true 1 (ints (F a.1 a.2)))) (a := (l, x)) (fun a b _ _ h => by
  obtain ⟨l, x⟩ := a;obtain ⟨m, y⟩ := b;simp at h;obtain ⟨h1, h2⟩ := h;rw [ints_inj h1, h2]) h
theorem turn_inv {pre : List Int -> Int -> Prop} {F : List Int -> Int -> List Int} {sz : Nat} {fl : Flat} {x : Sc} {res : V} {outs : List V} (h : (turnC pre F).F [.one (.flat true sz fl), .one (.s x)] = some (res, outs)) : ∃ l y, pre l y /\ sz = 1 /\ fl = ints l /\ x = .i .i64 y /\ res = .one (.flat true 1 (ints (F l y))) := by
 obtain ⟨⟨l, y⟩, hp, he, hv⟩ := conF_inv (pre := fun a : List Int × Int => pre a.1 a.2) (enc := fun a => [.one (.flat true 1 (ints a.1)), .one (.s (.i .i64 a.2))]) (val := fun a => .one (.flat true 1 (ints (F a.1 a.2)))) h
 injection he with he1 he2
 injection he1 with he1
 injection he1 with _ e1 e2
 injection he2 with he2 _
 injection he2 with he2
 injection he2 with he2
 exact ⟨l, y, hp, e1, e2, he2, hv⟩
theorem turn_sound {T : Tab} {f : Nat} {pre : List Int -> Int -> Prop} {F : List Int -> Int -> List Int} (hF : FlatCall P f pre F) : SoundC P T f (turnC pre F) := by
 refine ⟨hF.1, ?_⟩
 intro Mn O0 w0 w nt s g a fresh seen rd r ts vs us R hs hf hargs _ h
 change runP s fresh (turnP fresh (turnC pre F) vs) seen rd = some r at h
 have hin : InR fresh fresh := ⟨Nat.le_refl _, by omega⟩
 have hin1 : InR fresh (fresh + 1) := ⟨by omega, by omega⟩
 have call_inv : ∀ {Fc : List V -> Option (V × List V)} {xs : List V} {k : V -> List V -> Prog} {seen rd : List Nat}, runP s fresh (.call Fc xs k) seen rd = some r -> ∃ res outs, Fc xs = some (res, outs) /\ runP s fresh (k res outs) seen rd = some r := fun {Fc xs k seen rd} h => by
  simp only [runP] at h
  cases hc : Fc xs with
  | none => rw [hc] at h; simp at h
  | some p => rw [hc] at h; exact ⟨p.1, p.2, rfl, h⟩
 unfold turnP at h
 split at h
 ·rename_i n x _;obtain ⟨u1, u2, rfl, h1, h2⟩ : ∃ u1 u2, us = #[u1, u2] /\ VR3 s g (.sl n none none) u1 /\ u2 = x.val := by
   obtain ⟨us⟩ := us
   match us, hargs with
   | [u1, u2], hus => exact ⟨u1, u2, rfl, hus.2 0 _ _ rfl rfl, hus.2 1 _ _ rfl rfl⟩
   | [], hus => exact absurd hus.1 (by simp)
   | [_], hus => exact absurd hus.1 (by simp)
   | _ :: _ :: _ :: _, hus => exact absurd hus.1 (by simp)
  obtain ⟨e, s1, r1, he, hok, hmn, _, hs1, h3⟩ := ent_inv R h hs;split at h3
  ·rename_i sz rows;obtain ⟨res, outs, hFc, h4⟩ := call_inv h3;obtain ⟨l, y, hp, rfl, rfl, rfl, rfl⟩ := turn_inv hFc;simp only at h4;obtain ⟨_, h5⟩ := bif_inv h4;obtain ⟨rfl, hn⟩ := ret_inv h5 hs1;obtain ⟨A, len, cap, rfl, hsub⟩ := h1;obtain ⟨e1, e2, e3⟩ := hsub _ _ (show lenSz s n = some ((ints l).length, 1) by simp [lenSz, he]);subst e1; subst e3; subst h2
   rw [qiq] at e2;subst e2;refine (flat_step hF R he hp (m := fresh) (hf _ hin)).mono ?_;rintro e w' ⟨u, g', rfl, hd⟩;refine ⟨u, g', rfl, fun d hd' => ?_⟩;have R2 := Did.rel R hd (d := d) (u' := u) hd' (fun _ => rfl) (fun k hk => by
    simp [names3, names2, names1, namesW, namesE] at hk;rcases hk with rfl | rfl
    ·exact .inr rfl
    ·exact .inl hmn)
   exact R2.wider fun k hk => hk.imp id fun e => by rw [e]; exact hin
  ·exact (qfq h3).elim
 ·rename_i n x y _;obtain ⟨e, s1, r1, he, hok, hmn, _, hs1, h3⟩ := ent_inv R h hs;split at h3
  ·obtain ⟨res, outs, hFc, h4⟩ := call_inv h3;obtain ⟨_, _, hl, _⟩ := conF_inv (pre := fun a : List Int × Int => pre a.1 a.2) (enc := fun a => [.one (.flat true 1 (ints a.1)), .one (.s (.i .i64 a.2))]) (val := fun a => .one (.flat true 1 (ints (F a.1 a.2)))) hFc;exact absurd (congrArg List.length hl) (by simp)
  ·exact (qfq h3).elim
 ·rename_i n rr ver x _;obtain ⟨u1, u2, rfl, h1, h2⟩ : ∃ u1 u2, us = #[u1, u2] /\ VR3 s g (.sl n (some (rr, ver)) none) u1 /\ u2 = x.val := by
   obtain ⟨us⟩ := us
   match us, hargs with
   | [u1, u2], hus => exact ⟨u1, u2, rfl, hus.2 0 _ _ rfl rfl, hus.2 1 _ _ rfl rfl⟩
   | [], hus => exact absurd hus.1 (by simp)
   | [_], hus => exact absurd hus.1 (by simp)
   | _ :: _ :: _ :: _, hus => exact absurd hus.1 (by simp)
  obtain ⟨own', sz, rows, holes, log, fl, s1, r1, he, hown, hok, hmn, k1, k2, k3, hs1, h3⟩ := rowOf_inv R h hs;have hown := hown rfl;subst hown;obtain ⟨res, outs, hFc, h4⟩ := call_inv h3;obtain ⟨l, y, hp, rfl, rfl, rfl, rfl⟩ := turn_inv hFc;simp only at h4;obtain ⟨_, h5⟩ := bif_inv h4;obtain ⟨rfl, hn⟩ := ret_inv h5 hs1;obtain ⟨_, A, len, cap, rfl, hsub⟩ := h1;obtain ⟨e1, e2, e3⟩ := hsub (ints l).length 1 ⟨_, _, _, _, _, he, k1, k2, k3, rfl⟩;subst e1; subst e3; subst h2
  rw [qiq] at e2;subst e2;obtain ⟨g1, hd1, q1, q2, f1, hf1⟩ := split_row (N := fun m => m = fresh + 1) R rfl (hf _ hin1) he k1 k3;have R1 := Did.rel R hd1 (d := none) (u' := undef) (fun t h => by simp at h) (fun _ => rfl) (fun m hm => by
   simp [names3, names2, names1, namesW, namesE] at hm;rcases hm with rfl | rfl
   ·exact .inr rfl
   ·exact .inl hmn)
  have he1 : (s.put none .bad [(fresh + 1, some (.flat true 1 (ints l))), (n, some (.nest true 1 rows (rr :: holes) (rr :: log)))]).fe (fresh + 1) = some (.flat true 1 (ints l)) := by simp [S.put, S.putW, S.setE]
  rw [<- q1, <- q2];have hnf : ¬ ((fun m => Mn m \/ m = fresh + 1) fresh) := fun h => h.elim (fun h => hf _ hin h) (fun h => by omega)
  refine (flat_step hF R1 he1 hp (m := fresh) hnf).mono ?_;rintro e w' ⟨u, g', rfl, hd⟩;refine ⟨u, g', rfl, fun d hd' => ?_⟩;have R2 := Did.rel R1 hd (d := d) (u' := u) hd' (fun _ => rfl) (fun k hk => by
   simp [names3, names2, names1, namesW, namesE] at hk;rcases hk with rfl | rfl
   ·exact .inr rfl
   ·exact .inl (.inr rfl))
  have hS : (s.put none .bad [(fresh + 1, some (.flat true 1 (ints l))), (n, some (.nest true 1 rows (rr :: holes) (rr :: log)))]).put d (.sl fresh none none) [(fresh, some (.flat true 1 (ints (F l y)))), (fresh + 1, none)] =
    s.put d (.sl fresh none none) [(fresh, some (.flat true 1 (ints (F l y)))), (n, some (.nest true 1 rows (rr :: holes) (rr :: log)))] := by
   have hnone : s.fe (fresh + 1) = none := by
    cases hq : s.fe (fresh + 1) with
    | none => rfl
    | some e => exact absurd (R.me _ e hq).1 (hf _ hin1)
   have hn1 : n ≠ fresh + 1 := fun e => hf _ hin1 (e ▸ hmn)
   refine S.ext' (fun t => ?_) (fun k => ?_)
   ·cases d <;> simp [S.put, S.putW, S.setE, S.setS]
   ·rw [put_fe, put_fe];simp only [S.put, S.putW, S.setE];by_cases q1 : k = fresh
    ·simp [q1]
    ·by_cases q2 : k = fresh + 1
     ·subst q2; simp [Ne.symm hn1, hnone]
     ·simp [q1, q2]
  rw [hS] at R2;exact R2.wider fun m hm => by
   rcases hm with (h | rfl) | rfl
   ·exact .inl h
   ·exact .inr hin1
   ·exact .inr hin
 ·exact (qfq h).elim
end
end Go.Sh
namespace Go.Sh
variable [Fwd]
def RowCall (P : Program) (f : Nat) (pre : List Int -> Prop) (F : List Int -> List Int) : Prop :=
 (∃ fn, P.funcs[f]? = some fn /\ fn.name ≠ "runtime.NumGoroutine" /\ fn.body ≠ none) /\ (∀ l, (F l).length = l.length) /\
 ∀ (l : List Int), pre l -> ∀ (w : World) (own : Nat -> Option Key) (key : Key) (A : Option Addr) (cap : Nat), FlatOk w own (some key) A cap 1 (ints l) ->
  Calls P f #[.slice A l.length cap] w fun e w' => e = .returned (.tuple #[]) /\ Frm (fun b => own b = some key) w w' /\ FlatOk w' own (some key) A cap 1 (ints (F l))
def rowCR (f0 : Nat) (pre : List Int -> Prop) (F : List Int -> List Int) : CallR := fun f vs K sl en nx => f = f0 /\ match vs with
 | [.sl n none none] => ∃ l, lk en n = some (some (.flat true 1 (ints l))) /\ pre l /\ K (.tup []) sl ((n, some (.flat true 1 (ints (F l)))) :: en) nx
 | [.sl n (some (r, ver)) none] => ∃ rows holes log l, lk en n = some (some (.nest true 1 rows holes log)) /\ r ∉ holes /\ (∀ c ∈ log.take (log.length - ver), c ≠ r) /\ rows[r]? = some (ints l) /\ pre l /\
   K (.tup []) sl ((n, some (.nest true 1 (rows.set r (ints (F l))) holes log)) :: en) nx
 | _ => False
section
variable {P : Program} {X : Cx} {O0 : Nat -> Prop} {w0 : Base} {nt : Nat} {s : S} {g : G} {a : Act} {w w' : World} {sl : Sl} {en : En} {nx : Nat} {cr : CallR}
theorem same_place {Mn : Nat -> Prop} (R : Rel Mn O0 w0 nt s g a w) {n : Nat} {e e' : Ent} {key : Key} (hk : key.1 = n) (he : s.fe n = some e) (hfr : Frm (fun b => g.own b = some key) w w')
  (hlen : ∀ p, lenSz (s.putW [(n, some e')]) n = some p -> lenSz s n = some p)
  (hrow : ∀ r ver L sz, RowAt (s.putW [(n, some e')]) n r ver L sz -> RowAt s n r ver L sz) (hver : ∀ ver, VerOk s n ver -> VerOk (s.putW [(n, some e')]) n ver)
  (hok : (∀ k, Mn k -> Less s (s.putW [(n, some e')]) g g k) -> EntOk w' (s.putW [(n, some e')]) g n e') : Did Mn s g w (fun _ => False) (.tup []) [(n, some e')] (.tuple #[]) w' g := by
 have hfe : ∀ k, k ≠ n -> (s.putW [(n, some e')]).fe k = s.fe k := fun k hk => by simp [S.putW, S.setE, hk]
 have hfn : (s.putW [(n, some e')]).fe n = some e' := by simp [S.putW, S.setE]
 have hmn := (R.me n _ he).1
 have hl : ∀ k, Mn k -> Less s (s.putW [(n, some e')]) g g k := fun k _ => by
  by_cases hkn : k = n
  ·subst hkn;exact ⟨rfl, rfl, hlen, fun r ver L sz _ h => ⟨hrow r ver L sz h, rfl, rfl⟩, hver⟩
  ·exact Less.of (.inl (hfe k hkn)) rfl rfl (fun _ => rfl) (fun _ => rfl)
 refine did_of R (fun k => k = n) (fun k _ hd => hfe k hd) (fun k x hx => ?_) (fun k _ _ => ⟨rfl, rfl, fun _ => rfl, fun _ => rfl⟩) (fun b k r hb ho hd => ⟨rfl, hfr.block b hb fun h => ?_⟩) (fun b hb ho => ⟨ho, hfr.block b hb fun h => ?_⟩)
  ⟨hfr.os, hfr.tape, hfr.output, hfr.size⟩ (fun b k hb => Nat.lt_of_lt_of_le (R.bound b k hb) hfr.size) (fun b k r hb => .inl (R.label b k r hb)) (fun k hk _ => hl k hk) (fun k x hx hd => ?_) (fun _ => ⟨#[], rfl, rfl, fun i a b h => by simp at h⟩)
 ·by_cases hkn : k = n
  ·subst hkn; exact .inl hmn
  ·rw [hfe k hkn] at hx; exact .inl (R.me k x hx).1
 ·have h : g.own b = some key := h;rw [ho] at h; injection h with h; exact hd (by rw [<- hk, <- h])
 ·have h : g.own b = some key := h;rw [ho] at h; simp at h
 ·by_cases hkn : k = n
  ·subst hkn;rw [hfn] at hx; injection hx with hx; subst hx
   exact hok hl
  ·rw [hfe k hkn] at hx;exact absurd (hd (R.me k x hx).1) hkn
theorem rowIn_ok {f : Nat} {pre : List Int -> Prop} {F : List Int -> List Int} (hF : RowCall P f pre F) : CrOk P (rowCR f pre F) := by
 intro f' vs K sl en nx h O0 w0 nt g a w us R hus hn
 obtain ⟨rfl, h⟩ := h
 refine ⟨hF.1, ?_⟩
 have hlenF := hF.2.1
 split at h
 ·rename_i n;obtain ⟨l, he, hp, hK⟩ := h;have he' : (toS sl en).fe n = some (.flat true 1 (ints l)) := by simp [toS, he]
  obtain ⟨u1, rfl, h1⟩ : ∃ u1, us = [u1] /\ VR3 (toS sl en) g (.sl n none none) u1 := by
   match us, hus with
   | [u1], hus => exact ⟨u1, rfl, hus.2 0 _ _ rfl rfl⟩
   | [], hus => exact absurd hus.1 (by simp)
   | _ :: _ :: _, hus => exact absurd hus.1 (by simp)
  obtain ⟨A, len, cap, rfl, hsub⟩ := h1;obtain ⟨e1, e2, e3⟩ := hsub _ _ (show lenSz (toS sl en) n = some ((ints l).length, 1) by simp [lenSz, he']);subst e1; subst e3
  rw [qiq] at e2;subst e2;have hok : FlatOk w g.own (some (n, none)) (g.base n) (g.cap n) 1 (ints l) := R.ents n _ he';refine (hF.2.2 l hp w g.own (n, none) _ _ hok).mono ?_;rintro e w' ⟨rfl, hfr, hFl⟩;have hd : Did (fun n => n < nx) (toS sl en) g w (fun _ => False) (.tup []) [(n, some (.flat true 1 (ints (F l))))] (.tuple #[]) w' g := by
   have hfn : ((toS sl en).putW [(n, some (.flat true 1 (ints (F l))))]).fe n = some (.flat true 1 (ints (F l))) := by simp [S.putW, S.setE]
   refine same_place R (key := (n, none)) rfl he' hfr (fun p hp => ?_) (fun r ver L sz hr => ?_) (fun ver hv => ?_) (fun _ => hFl)
   ·simp only [lenSz, hfn, qiq, hlenF] at hp;simp only [lenSz, he', qiq]; exact hp
   ·obtain ⟨_, _, _, _, _, h, _⟩ := hr;rw [hfn] at h; simp at h
   ·intro q1 q2 q3 q4 q5 h;rw [hfn] at h; simp at h
  have R2 := Did.rel R hd (d := none) (u' := .tuple #[]) (fun t h => by simp at h) (fun _ => rfl) (fun k hk => by
   simp [names3, namesL2, namesW, namesE] at hk;subst hk; exact .inl (R.me _ _ he').1)
  have hS := toS_put sl en none (.tup []) [(n, some (.flat true 1 (ints (F l))))];refine ⟨.tup [], _, sl, _, _, g, rfl, hK, ⟨#[], rfl, rfl, fun i a b h => by simp at h⟩, fun k hk => by simp [names3, namesL2] at hk, ?_⟩;rw [show toS sl ((n, some (.flat true 1 (ints (F l)))) :: en) = (toS sl en).put none (.tup []) [(n, some (.flat true 1 (ints (F l))))] from hS];exact R2.wider fun k hk => by rcases hk with hk | hk <;> first | exact hk | exact hk.elim
 ·rename_i n r ver;obtain ⟨rows, holes, log, l, he, k1, k2, k3, hp, hK⟩ := h;have he' : (toS sl en).fe n = some (.nest true 1 rows holes log) := by simp [toS, he]
  obtain ⟨u1, rfl, h1⟩ : ∃ u1, us = [u1] /\ VR3 (toS sl en) g (.sl n (some (r, ver)) none) u1 := by
   match us, hus with
   | [u1], hus => exact ⟨u1, rfl, hus.2 0 _ _ rfl rfl⟩
   | [], hus => exact absurd hus.1 (by simp)
   | _ :: _ :: _, hus => exact absurd hus.1 (by simp)
  obtain ⟨_, A, len, cap, rfl, hsub⟩ := h1;obtain ⟨e1, e2, e3⟩ := hsub (ints l).length 1 ⟨_, _, _, _, _, he', k1, k2, k3, rfl⟩;subst e1; subst e3
  rw [qiq] at e2;subst e2;have hN : NestOk w g.own (some (n, none)) (fun i => some (n, some i)) (g.base n) (g.cap n) (g.rbase n) (g.rcap n) 1 rows holes := R.ents n _ he';have hok : FlatOk w g.own (some (n, some r)) (g.rbase n r) (g.rcap n r) 1 (ints l) := hN.row r _ k3 k1;refine (hF.2.2 l hp w g.own (n, some r) _ _ hok).mono ?_;rintro e w' ⟨rfl, hfr, hFl⟩;have keep : ∀ b, b < w.heap.size -> g.own b ≠ some (n, some r) -> w'.heap[b]? = w.heap[b]? := fun b hb h => hfr.block b hb h
  have hrl : r < rows.length := (qSq.1 k3).1;have len_at : ∀ (i : Nat) (fl' : Flat), (rows.set r (ints (F l)))[i]? = some fl' -> ∃ fl, rows[i]? = some fl /\ fl.length = fl'.length := fun i fl' hi => by
   by_cases e : i = r
   ·subst e;rw [List.getElem?_set_self hrl] at hi;injection hi with hi
    exact ⟨_, k3, by rw [<- hi, qiq, qiq, hlenF]⟩
   ·rw [qNq (fun h => e h.symm)] at hi;exact ⟨fl', hi, rfl⟩
  have hd : Did (fun n => n < nx) (toS sl en) g w (fun _ => False) (.tup []) [(n, some (.nest true 1 (rows.set r (ints (F l))) holes log))] (.tuple #[]) w' g := by
   have hfn : ((toS sl en).putW [(n, some (.nest true 1 (rows.set r (ints (F l))) holes log))]).fe n = some (.nest true 1 (rows.set r (ints (F l))) holes log) := by simp [S.putW, S.setE]
   refine same_place R (key := (n, some r)) rfl he' hfr (fun p hp => ?_) (fun r' ver' L sz hr => ?_) (fun ver hv => ?_) (fun _ => ?_)
   ·simp only [lenSz, hfn, List.length_set] at hp;simp only [lenSz, he']; exact hp
   ·obtain ⟨q1, q2, q3, q4, fl', h, h2, h3, h4, h5⟩ := hr;rw [hfn] at h;injection h with h
    injection h with z1 z2 z3 z4 z5
    subst z1 z2 z3 z4 z5;obtain ⟨fl, hfl, hll⟩ := len_at r' fl' h4;exact ⟨_, _, _, _, fl, he', h2, h3, hfl, by rw [hll]; exact h5⟩
   ·intro q1 q2 q3 q4 q5 h;rw [hfn] at h;injection h with h
    injection h with z1 z2 z3 z4 z5
    subst z5;exact hv _ _ _ _ _ he'
   ·refine (?_ : NestOk w' g.own (some (n, none)) (fun i => some (n, some i)) (g.base n) (g.cap n) (g.rbase n) (g.rcap n) 1 (rows.set r (ints (F l))) holes);refine ⟨by rw [List.length_set]; exact hN.fits, hN.pos, fun i fl' hi => ?_, fun i fl' hi hni => ?_, fun hs => ?_⟩
    ·obtain ⟨fl, hfl, hll⟩ := len_at i fl' hi;obtain ⟨ad, z, x1, x2, x3, x4⟩ := hN.head i fl hfl;have hlt := World.block_lt_of_cell? w _ x3;rw [Addr.add_block] at hlt;refine ⟨ad, z, x1, x2, by rw [cell_of_block (w := w) (by rw [Addr.add_block]; exact keep _ hlt (by rw [x2]; simp))]; exact x3, fun hni => by rw [<- hll]; exact x4 hni⟩
    ·by_cases e : i = r
     ·subst e;rw [List.getElem?_set_self hrl] at hi;injection hi with hi
      subst hi;exact hFl
     ·rw [qNq (fun h => e h.symm)] at hi;exact (hN.row i fl' hi hni).mono (fun _ => rfl) (fun b hb ho => ⟨ho, keep b hb (by rw [ho]; simp [e])⟩)
    ·rcases hN.room hs with h | ⟨b, off, arr, ty, x1, x2, x3, x4⟩
     ·exact .inl (by rw [h.1, h.2]; simp)
     ·have hlt : b < w.heap.size := by
       rcases Nat.lt_or_ge b w.heap.size with h | h
       ·exact h
       ·simp [Array.getElem?_eq_none h] at x3
      exact .inr ⟨b, off, arr, ty, x1, x2, by rw [keep b hlt (by rw [x2]; simp)]; exact x3, x4⟩
  have R2 := Did.rel R hd (d := none) (u' := .tuple #[]) (fun t h => by simp at h) (fun _ => rfl) (fun k hk => by
   simp [names3, namesL2, namesW, namesE] at hk;subst hk; exact .inl (R.me _ _ he').1)
  have hS := toS_put sl en none (.tup []) [(n, some (.nest true 1 (rows.set r (ints (F l))) holes log))];refine ⟨.tup [], _, sl, _, _, g, rfl, hK, ⟨#[], rfl, rfl, fun i a b h => by simp at h⟩, fun k hk => by simp [names3, namesL2] at hk, ?_⟩;rw [show toS sl ((n, some (.nest true 1 (rows.set r (ints (F l))) holes log)) :: en) = (toS sl en).put none (.tup []) [(n, some (.nest true 1 (rows.set r (ints (F l))) holes log))] from hS];exact R2.wider fun k hk => by rcases hk with hk | hk <;> first | exact hk | exact hk.elim
 ·exact h.elim
end
end Go.Sh
namespace Go.Sh
variable [Fwd]
section
variable {P : Program} {T : Tab} {X : Cx} {Mn O0 : Nat -> Prop} {w0 : Base} {w w' : World} {nt : Nat} {s : S} {g g' : G} {a : Act} {fresh : Nat} {seen rd : List Nat} {r : List Nat × SV × Ws} {cr : CallR}
theorem VR1.to3 {v : SV} {u : Value} (h : VR1 s g v u) : VR3 s g v u := by
 cases v <;> first | exact h | exact h.elim
theorem Rel.ghosts {w0 : World} {sl : Sl} {en : En} (R : Rel Mn O0 ⟨w0, fun _ => none⟩ nt (toS sl en) g a w) {gs : List SV} {ur : List Value} (hg : All2 (VR1 (toS sl en) g) gs ur) (hn : ∀ x ∈ gs, ∀ n ∈ names3 x, Mn n) :
  Rel Mn O0 ⟨w0, fun i => ur[i]?⟩ nt (toS (slIn 1000000 gs ++ sl) en) g a w := by
 have hl : ∀ n, Less (toS sl en) (toS (slIn 1000000 gs ++ sl) en) g g n := fun n => Less.of (.inl rfl) rfl rfl (fun _ => rfl) (fun _ => rfl)
 have hfs : ∀ t v, (toS (slIn 1000000 gs ++ sl) en).fs t = some v -> (1000000 <= t /\ gs[t - 1000000]? = some v) \/ (toS sl en).fs t = some v := by
  intro t v h;have h : lk (slIn 1000000 gs ++ sl) t = some v := h;rcases lk_append h with hq | h
  ·exact .inl (slIn_lk _ _ _ _ hq)
  ·exact .inr h
 refine { R with slots := fun t v hv => ?_, ents := fun n e he => ?_, ms := fun t v hv => ?_ }
 ·rcases hfs t v hv with ⟨h1, h2⟩ | h
  ·have hlt : t - 1000000 < ur.length := by rw [<- hg.1]; exact (qSq.1 h2).1
   obtain ⟨u, hu⟩ : ∃ u, ur[t - 1000000]? = some u := ⟨_, qEq hlt⟩;refine ⟨u, ?_, (VR1.to3 (hg.2 _ _ _ h2 hu)).less fun n _ => hl n⟩;unfold slotAt;rw [if_neg (by omega)];exact hu
  ·obtain ⟨u, h1, h2⟩ := R.slots t v h;refine ⟨u, ?_, h2.less fun n _ => hl n⟩;unfold slotAt at h1 ⊢;split at h1
   ·rename_i h; rw [if_pos h]; exact h1
   ·simp at h1
 ·exact (R.ents n e he).keep (fun b r _ ho => ⟨rfl, rfl⟩) (fun b _ ho => ⟨ho, rfl⟩) rfl rfl (fun _ => rfl) (fun _ => rfl) fun m _ => hl m
 ·rcases hfs t v hv with ⟨h1, h2⟩ | h
  ·exact hn v (qMq h2)
  ·exact R.ms t v h
end
end Go.Sh
namespace Go.Sh
variable [Fwd]
def RowFnCall (P : Program) (f c sz : Nat) (pre : Flat -> Prop) (F : Flat -> Flat) : Prop :=
 (∃ fn, P.funcs[f]? = some fn /\ fn.name ≠ "runtime.NumGoroutine" /\ fn.body ≠ none) /\ (∀ l, pre l -> (F l).length = l.length) /\
 ∀ (l : Flat), pre l -> ∀ (w : World) (own : Nat -> Option Key) (key : Key) (A : Option Addr) (cap : Nat), FlatOk w own (some key) A cap sz l -> (∀ b k, own b = some k -> b < w.heap.size) ->
  Calls P f #[.slice A l.length cap, .func (.func c) #[] #[]] w fun e w' => e = .returned (.tuple #[]) /\ Frm (fun b => own b = some key) w w' /\ FlatOk w' own (some key) A cap sz (F l)
def rowFnCR (f0 c0 sz : Nat) (pre : Flat -> Prop) (F : Flat -> Flat) : CallR := fun f vs K sl en nx => f = f0 /\ match vs with
 | [.sl n none none, .fn c []] => c = c0 /\ ∃ l, lk en n = some (some (.flat true sz l)) /\ pre l /\ K (.tup []) sl ((n, some (.flat true sz (F l))) :: en) nx
 | _ => False
section
variable {P : Program} {X : Cx} {O0 : Nat -> Prop} {w0 : Base} {nt : Nat} {s : S} {g : G} {a : Act} {w w' : World} {sl : Sl} {en : En} {nx : Nat} {cr : CallR}
theorem rowFn_ok {f c sz : Nat} {pre : Flat -> Prop} {F : Flat -> Flat} (hF : RowFnCall P f c sz pre F) : CrOk P (rowFnCR f c sz pre F) := by
 intro f' vs K sl en nx h O0 w0 nt g a w us R hus hn
 obtain ⟨rfl, h⟩ := h
 refine ⟨hF.1, ?_⟩
 have hlenF := hF.2.1
 split at h
 ·rename_i n c';obtain ⟨rfl, l, he, hp, hK⟩ := h;have hlenF := hlenF l hp;have he' : (toS sl en).fe n = some (.flat true sz l) := by simp [toS, he]
  obtain ⟨u1, rfl, h1⟩ : ∃ u1, us = [u1, .func (.func c') #[] #[]] /\ VR3 (toS sl en) g (.sl n none none) u1 := by
   match us, hus with
   | [u1, u2], hus =>
    obtain ⟨cs, hc, hc2⟩ : VR3 (toS sl en) g (.fn c' []) u2 := hus.2 1 _ _ rfl rfl;have : cs = #[] := by apply Array.ext'; simpa using hc2.1.symm
    subst this;exact ⟨u1, by rw [hc], hus.2 0 _ _ rfl rfl⟩
   | [], hus => exact absurd hus.1 (by simp)
   | [_], hus => exact absurd hus.1 (by simp)
   | _ :: _ :: _ :: _, hus => exact absurd hus.1 (by simp)
  obtain ⟨A, len, cap, rfl, hsub⟩ := h1;obtain ⟨e1, e2, e3⟩ := hsub _ _ (show lenSz (toS sl en) n = some (l.length, sz) by simp [lenSz, he']);subst e1; subst e3
  subst e2;have hok : FlatOk w g.own (some (n, none)) (g.base n) (g.cap n) sz l := R.ents n _ he';refine (hF.2.2 l hp w g.own (n, none) _ _ hok R.bound).mono ?_;rintro e w' ⟨rfl, hfr, hFl⟩;have hd : Did (fun n => n < nx) (toS sl en) g w (fun _ => False) (.tup []) [(n, some (.flat true sz (F l)))] (.tuple #[]) w' g := by
   have hfn : ((toS sl en).putW [(n, some (.flat true sz (F l)))]).fe n = some (.flat true sz (F l)) := by simp [S.putW, S.setE]
   refine same_place R (key := (n, none)) rfl he' hfr (fun p hp => ?_) (fun r ver L sz hr => ?_) (fun ver hv => ?_) (fun _ => hFl)
   ·simp only [lenSz, hfn, hlenF] at hp;simp only [lenSz, he']; exact hp
   ·obtain ⟨_, _, _, _, _, h, _⟩ := hr;rw [hfn] at h; simp at h
   ·intro q1 q2 q3 q4 q5 h;rw [hfn] at h; simp at h
  have R2 := Did.rel R hd (d := none) (u' := .tuple #[]) (fun t h => by simp at h) (fun _ => rfl) (fun k hk => by
   simp [names3, namesL2, namesW, namesE] at hk;subst hk; exact .inl (R.me _ _ he').1)
  have hS := toS_put sl en none (.tup []) [(n, some (.flat true sz (F l)))];refine ⟨.tup [], _, sl, _, _, g, rfl, hK, ⟨#[], rfl, rfl, fun i a b h => by simp at h⟩, fun k hk => by simp [names3, namesL2] at hk, ?_⟩;rw [show toS sl ((n, some (.flat true sz (F l))) :: en) = (toS sl en).put none (.tup []) [(n, some (.flat true sz (F l)))] from hS];exact R2.wider fun k hk => by rcases hk with hk | hk <;> first | exact hk | exact hk.elim
 ·exact h.elim
end
end Go.Sh
namespace Go.Sh
variable [Fwd]
section
variable {P : Program} {X : Cx} {O0 : Nat -> Prop} {w0 : Base} {nt : Nat} {s : S} {g : G} {a : Act} {w : World} {sl : Sl} {en : En} {nx : Nat} {cr : CallR}
end
end Go.Sh
namespace Go.Sh
variable [Fwd]
def NestFnCall (P : Program) (f c sz : Nat) (pre : List Flat -> Prop) (F : List Flat -> List Flat) : Prop :=
 (∃ fn, P.funcs[f]? = some fn /\ fn.name ≠ "runtime.NumGoroutine" /\ fn.body ≠ none) /\
 ∀ (rows : List Flat), pre rows -> ∀ (w : World) (own : Nat -> Option Key) (n : Nat) (A : Option Addr) (cap : Nat) (rb : Nat -> Option Addr) (rc : Nat -> Nat) (rkey : Nat -> Option Key), (∀ i, rkey i ≠ some (n, none)) ->
  NestOk w own (some (n, none)) rkey A cap rb rc sz rows [] -> (∀ b k, own b = some k -> b < w.heap.size) ->
  Calls P f #[.slice A rows.length cap, .func (.func c) #[] #[]] w fun e w' => e = .returned (.tuple #[]) /\ Frm (fun b => own b = some (n, none)) w w' /\
   ∃ s t : Nat -> Nat, (∀ i, i < rows.length -> s i < rows.length /\ t (s i) = i) /\ (∀ i, i < rows.length -> t i < rows.length /\ s (t i) = i) /\ (F rows).length = rows.length /\
    (∀ i fl, (F rows)[i]? = some fl -> rows[s i]? = some fl) /\
    (∀ i fl, (F rows)[i]? = some fl -> ∃ a, A = some a /\ w'.cell? (a.add i) = some (.slice (rb (s i)) fl.length (rc (s i)))) /\
    ((cap = 0 /\ F rows = []) \/ ∃ b off arr T, A = some ⟨b, off, none⟩ /\ own b = some (n, none) /\ w'.heap[b]? = some (.cells arr T (0, 0)) /\ off + cap <= arr.size)
section
variable {P : Program} {X : Cx} {O0 : Nat -> Prop} {w0 : Base} {nt : Nat} {s : S} {g : G} {a : Act} {w w' : World} {sl : Sl} {en : En} {nx : Nat} {cr : CallR}
end
end Go.Sh
namespace Go.Sh
variable [Fwd]
def newOut (w w' : World) (u : Value) : Option (Nat × Flat) -> Prop
 | none => u = .slice none 0 0
 | some (sz, fl) => ∃ A cap, u = .slice A fl.length cap /\ ∀ key : Key, FlatOk w' (fun b => if w.heap.size <= b /\ b < w'.heap.size then some key else none) (some key) A cap sz fl
def newK (r : Option (Nat × Flat)) (K : SV -> Sl -> En -> Nat -> Prop) (sl : Sl) (en : En) (nx : Nat) : Prop := match r with
 | none => K .nils sl en nx
 | some (sz, fl) => K (.sl nx none none) sl ((nx, some (.flat true sz fl)) :: en) (nx + 1)
section
variable {P : Program} {X : Cx} {O0 : Nat -> Prop} {w0 : Base} {nt : Nat} {s : S} {g : G} {a : Act} {w w' : World} {sl : Sl} {en : En} {nx : Nat} {cr : CallR}
end
end Go.Sh
namespace Go.Sh
variable [Fwd]
section
variable {P : Program} {X : Cx} {O0 : Nat -> Prop} {w0 : Base} {nt : Nat} {s : S} {g : G} {a : Act} {w w' : World} {sl : Sl} {en : En} {nx : Nat} {cr : CallR}
theorem new_core {f : Nat} {us : Array Value} {r : Option (Nat × Flat)} {K : SV -> Sl -> En -> Nat -> Prop} (R : Rel (fun n => n < nx) O0 w0 nt (toS sl en) g a w)
  (hc : Calls P f us w fun e w' => ∃ u, e = .returned u /\ Frm (fun _ => False) w w' /\ newOut w w' u r) (hK : newK r K sl en nx) :
  Calls P f us w fun e w' => ∃ v u sl' en' nx' g', e = .returned u /\ K v sl' en' nx' /\ VR3 (toS sl' en') g' v u /\ (∀ n ∈ names3 v, n < nx') /\ Rel (fun n => n < nx') O0 w0 nt (toS sl' en') g' a w' := by
 have hnx : ¬ (fun k => k < nx) nx := by simp
 refine hc.mono ?_
 rintro e w' ⟨u, rfl, hfr, ho⟩
 match r, hK, ho with
 | none, hK, ho =>
  have hu : u = .slice none 0 0 := ho;subst hu;have hd : Did (fun n => n < nx) (toS sl en) g w (fun _ => False) .nils [] (.slice none 0 0) w' g := by
   refine did_of R (fun _ => False) (fun _ _ _ => rfl) (fun k x hx => .inl (R.me k x hx).1) (fun k _ _ => ⟨rfl, rfl, fun _ => rfl, fun _ => rfl⟩) (fun b k r hb _ _ => ⟨rfl, hfr.block b hb (fun h => h)⟩) (fun b hb ho => ⟨ho, hfr.block b hb (fun h => h)⟩)
    ⟨hfr.os, hfr.tape, hfr.output, hfr.size⟩ (fun b k hb => Nat.lt_of_lt_of_le (R.bound b k hb) hfr.size) (fun b k r hb => .inl (R.label b k r hb)) (fun _ _ h => h.elim) (fun k e he h => (h (R.me k e he).1).elim) (fun _ => rfl)
  have R2 := Did.rel R hd (d := none) (u' := .slice none 0 0) (fun t h => by simp at h) (fun _ => rfl) (fun k hk => by simp [names3, names2, names1, namesW] at hk);refine ⟨.nils, _, sl, en, nx, g, rfl, hK, rfl, fun k hk => by simp [names3, names2, names1] at hk, ?_⟩;exact R2.wider fun k hk => by rcases hk with hk | hk <;> first | exact hk | exact hk.elim
 | some (sz, fl), hK, ho =>
  obtain ⟨A, cap, rfl, hfl⟩ := ho
  let own' : Nat -> Option Key := fun b => if w.heap.size <= b then (if b < w'.heap.size then some (nx, none) else none) else g.own b
  have hd : Did (fun n => n < nx) (toS sl en) g w (fun k => k = nx) (.sl nx none none) [(nx, some (.flat true sz fl))] (.slice A fl.length cap) w' (g.new nx A cap (fun _ => none) (fun _ => 0) own') := by
   refine did_new (N := fun k => k = nx) R rfl hnx A cap _ _ (fun k => k) [] (fun k hk => by simp at hk) (fun k r _ => rfl) (fun k r hk => by simp at hk) own' (fun b hb => ?_) w' ⟨hfr.os, hfr.tape, hfr.output, hfr.size⟩ (fun b k hb hk => ?_) (fun b hb _ => hfr.block b hb (fun h => h)) (fun g' hg' _ => ?_) (fun g' hg' => ?_)
   ·show (if w.heap.size <= b then _ else _) = _
    rw [if_neg (by omega)]; simp
   ·have hk : (if w.heap.size <= b then (if b < w'.heap.size then some (nx, none) else none) else g.own b) = some k := hk;rw [if_pos hb] at hk;split at hk
    ·rename_i h; injection hk with hk; subst hk; exact ⟨h, rfl⟩
    ·simp at hk
   ·subst hg';show FlatOk w' own' (some (nx, none)) ((g.new nx A cap _ _ own').base nx) ((g.new nx A cap _ _ own').cap nx) sz fl
    have e1 : (g.new nx A cap (fun _ => none) (fun _ => 0) own').base nx = A := by simp [G.new]
    have e2 : (g.new nx A cap (fun _ => none) (fun _ => 0) own').cap nx = cap := by simp [G.new]
    rw [e1, e2];refine (hfl (nx, none)).mono (fun _ => rfl) fun b hb ho => ⟨?_, rfl⟩
    split at ho
    ·rename_i h;show (if w.heap.size <= b then (if b < w'.heap.size then some (nx, none) else none) else g.own b) = some (nx, none)
     rw [if_pos h.1, if_pos h.2]
    ·simp at ho
   ·subst hg';refine ⟨A, _, cap, rfl, fun L sz' hl => ?_⟩;simp only [List.map_nil, lenSz, S.putW, S.setE, if_true] at hl;injection hl with hl
    injection hl with h1 h2
    refine ⟨by simp [G.new], by rw [<- h1], by simp [G.new]⟩
  have R2 := Did.rel R hd (d := none) (u' := .slice A fl.length cap) (fun t h => by simp at h) (fun _ => rfl) (fun k hk => by
   simp [names3, names2, names1, namesW, namesE] at hk;exact .inr hk)
  have hS := toS_put sl en none (.sl nx none none) [(nx, some (.flat true sz fl))];refine ⟨.sl nx none none, _, sl, _, _, g.new nx A cap (fun _ => none) (fun _ => 0) own', rfl, hK, ?_, ?_, ?_⟩
  ·have := hd.val;rw [show toS sl ((nx, some (.flat true sz fl)) :: en) = (toS sl en).putW [(nx, some (.flat true sz fl))] from hS];exact this
  ·intro k hk; simp [names3, names2, names1] at hk; omega
  ·rw [show toS sl ((nx, some (.flat true sz fl)) :: en) = (toS sl en).put none (.sl nx none none) [(nx, some (.flat true sz fl))] from hS];exact R2.wider fun k hk => by rcases hk with hk | rfl <;> simp at * <;> omega
def NilCall (P : Program) (f : Nat) (F : Sc -> Option (Option (Nat × Flat))) : Prop :=
 (∃ fn, P.funcs[f]? = some fn /\ fn.name ≠ "runtime.NumGoroutine" /\ fn.body ≠ none) /\
 ∀ (x : Sc) (r : Option (Nat × Flat)), F x = some r -> ∀ w : World, Calls P f #[.slice none 0 0, x.val] w fun e w' => ∃ u, e = .returned u /\ Frm (fun _ => False) w w' /\ newOut w w' u r
def nilCR (f0 : Nat) (F : Sc -> Option (Option (Nat × Flat))) : CallR := fun f vs K sl en nx => f = f0 /\ ∃ x r, vs = [.nils, .s x] /\ F x = some r /\ newK r K sl en nx
theorem nil_ok {f : Nat} {F : Sc -> Option (Option (Nat × Flat))} (hF : NilCall P f F) : CrOk P (nilCR f F) := by
 intro f' vs K sl en nx h O0 w0 nt g a w us R hus hn
 obtain ⟨rfl, x, r, rfl, hx, hK⟩ := h
 refine ⟨hF.1, ?_⟩
 obtain rfl : us = [.slice none 0 0, x.val] := by
  match us, hus with
  | [u1, u2], hus => rw [show u1 = .slice none 0 0 from hus.2 0 _ _ rfl rfl, show u2 = x.val from hus.2 1 _ _ rfl rfl]
  | [], hus => exact absurd hus.1 (by simp)
  | [_], hus => exact absurd hus.1 (by simp)
  | _ :: _ :: _ :: _, hus => exact absurd hus.1 (by simp)
 exact new_core R (hF.2 x r hx w) hK
def cellIs (en : En) (n : Nat) (v : SV) : Prop := lk en n = some (some (.blk [v])) \/ lk en n = some (some (.rblk [v]))
end
end Go.Sh
namespace Go.Sh
variable [Fwd]
def ro1 (n : Nat) (en : En) : Option En := match lk en n with
 | some (some (.blk l)) => some ((n, some (.rblk l)) :: en)
 | some (some (.rblk l)) => some ((n, some (.rblk l)) :: en)
 | some (some (.fnb _ f l)) => some ((n, some (.fnb false f l)) :: en)
 | some (some (.nest _ sz rows [] log)) => some ((n, some (.nest false sz rows [] log)) :: en)
 | some (some (.flat _ sz rows)) => some ((n, some (.flat false sz rows)) :: en)
 | _ => none
def ro : List Nat -> En -> Option En
 | [], en => some en
 | n :: r, en => match ro1 n en with
  | some en' => ro r en'
  | none => none
section
variable {P : Program} {X : Cx} {Mn O0 : Nat -> Prop} {w0 : Base} {w w' : World} {nt : Nat} {s s' : S} {g : G} {a : Act} {nx : Nat} {sl sl' : Sl} {en en' : En}
theorem turn_less {D : Key -> Prop} {n : Nat} (hfe : ∀ m, m ≠ n -> s'.fe m = s.fe m) (hl : Less s s' g (g.free D) n) (m : Nat) : Less s s' g (g.free D) m := by
 by_cases hm : m = n
 ·subst hm; exact hl
 ·exact Less.of (.inl (hfe m hm)) rfl rfl (fun _ => rfl) (fun _ => rfl)
theorem Rel.ro1 (R : Rel Mn O0 w0 nt (toS sl en) g a w) {n : Nat} (h : ro1 n en = some en') : Rel Mn O0 w0 nt (toS sl en') (g.free fun k => k.1 = n) a w /\ ∀ m, Less (toS sl en) (toS sl en') g (g.free fun k => k.1 = n) m := by
 unfold Go.Sh.ro1 at h
 split at h
 ·rename_i l he;injection h with h; subst h
  have hfe : (toS sl en).fe n = some (.blk l) := by simp [toS, he]
  obtain ⟨h1, h2, h3⟩ := toS_head (sl := sl) (en := en) (n := n) (e := .rblk l);have hl : Less (toS sl en) (toS sl ((n, some (.rblk l)) :: en)) g (g.free fun k => k.1 = n) n :=
   ⟨rfl, rfl, fun p hp => by simp only [lenSz, h3] at hp; simp at hp, fun r ver L sz' _ hr => by obtain ⟨_, _, _, _, _, h, _⟩ := hr; rw [h3] at h; simp at h, fun ver _ => by intro q1 q2 q3 q4 q5 h; rw [h3] at h; simp at h⟩
  refine ⟨R.turn _ (fun m r h => h) h1 h2 h3 (R.me n _ hfe).1 (R.me n _ hfe).2 hl ?_, turn_less h2 hl⟩;obtain ⟨b, arr, T, k1, k2, k3, k4⟩ := R.ents n _ hfe;exact ⟨b, arr, T, k1, free_gone k2 rfl, k3, k4.1, fun i x u hx hu => (k4.2 i x u hx hu).less fun m _ => turn_less h2 hl m⟩
 ·rename_i l he;injection h with h; subst h
  have hfe : (toS sl en).fe n = some (.rblk l) := by simp [toS, he]
  obtain ⟨h1, h2, h3⟩ := toS_head (sl := sl) (en := en) (n := n) (e := .rblk l);have hl : Less (toS sl en) (toS sl ((n, some (.rblk l)) :: en)) g (g.free fun k => k.1 = n) n :=
   ⟨rfl, rfl, fun p hp => by simp only [lenSz, h3] at hp; simp at hp, fun r ver L sz' _ hr => by obtain ⟨_, _, _, _, _, h, _⟩ := hr; rw [h3] at h; simp at h, fun ver _ => by intro q1 q2 q3 q4 q5 h; rw [h3] at h; simp at h⟩
  refine ⟨R.turn _ (fun m r h => h) h1 h2 h3 (R.me n _ hfe).1 (R.me n _ hfe).2 hl ?_, turn_less h2 hl⟩;obtain ⟨b, arr, T, k1, k2, k3, k4⟩ := R.ents n _ hfe;exact ⟨b, arr, T, k1, free_none k2, k3, k4.1, fun i x u hx hu => (k4.2 i x u hx hu).less fun m _ => turn_less h2 hl m⟩
 ·rename_i own f l he;injection h with h; subst h
  have hfe : (toS sl en).fe n = some (.fnb own f l) := by simp [toS, he]
  obtain ⟨h1, h2, h3⟩ := toS_head (sl := sl) (en := en) (n := n) (e := .fnb false f l);have hl : Less (toS sl en) (toS sl ((n, some (.fnb false f l)) :: en)) g (g.free fun k => k.1 = n) n :=
   ⟨rfl, rfl, fun p hp => by simp only [lenSz, h3] at hp; simp at hp, fun r ver L sz' _ hr => by obtain ⟨_, _, _, _, _, h, _⟩ := hr; rw [h3] at h; simp at h, fun ver _ => by intro q1 q2 q3 q4 q5 h; rw [h3] at h; simp at h⟩
  refine ⟨R.turn _ (fun m r h => h) h1 h2 h3 (R.me n _ hfe).1 (R.me n _ hfe).2 hl ?_, turn_less h2 hl⟩;obtain ⟨b, arr, T, cs, k1, k2, k3, k4, k5⟩ := R.ents n _ hfe;refine ⟨b, arr, T, cs, k1, ?_, k3, k4, k5.1, fun i x u hx hu => (k5.2 i x u hx hu).less fun m _ => turn_less h2 hl m⟩
  cases own with
  | true => exact free_gone k2 rfl
  | false => exact free_none k2
 ·rename_i own sz rows log he;injection h with h; subst h
  have hfe : (toS sl en).fe n = some (.nest own sz rows [] log) := by simp [toS, he]
  obtain ⟨h1, h2, h3⟩ := toS_head (sl := sl) (en := en) (n := n) (e := .nest false sz rows [] log);have hl : Less (toS sl en) (toS sl ((n, some (.nest false sz rows [] log)) :: en)) g (g.free fun k => k.1 = n) n := by
   refine ⟨rfl, rfl, fun p hp => ?_, fun r ver L sz' _ hr => ?_, fun ver hv => ?_⟩
   ·simp only [lenSz, h3] at hp; simp only [lenSz, hfe]; exact hp
   ·obtain ⟨q1, q2, q3, q4, fl, q5, q6⟩ := hr;rw [h3] at q5; injection q5 with q5; injection q5 with e1 e2 e3 e4 e5
    subst e2 e3 e4 e5;exact ⟨⟨own, rows, [], log, fl, hfe, q6⟩, rfl, rfl⟩
   ·intro q1 q2 q3 q4 q5 h;rw [h3] at h; injection h with h; injection h with e1 e2 e3 e4 e5
    subst e5;exact hv own sz rows [] log hfe
  refine ⟨R.turn _ (fun m r h => h) h1 h2 h3 (R.me n _ hfe).1 (fun m hm => by simp [namesE] at hm) hl ?_, turn_less h2 hl⟩;have hN : NestOk w g.own (if own then some (n, none) else none) (fun i => if own then some (n, some i) else none) (g.base n) (g.cap n) (g.rbase n) (g.rcap n) sz rows [] := R.ents n _ hfe;show NestOk w _ none (fun _ => none) (g.base n) (g.cap n) (g.rbase n) (g.rcap n) sz rows []
  refine hN.mono (by simp) (fun b _ ho => ⟨?_, rfl⟩) (fun i h => by simp at h) (fun i b _ _ ho => ⟨?_, rfl⟩) (fun _ _ => ⟨rfl, rfl⟩)
  ·cases own with
   | true => exact free_gone ho rfl
   | false => exact free_none ho
  ·cases own with
   | true => exact free_gone ho rfl
   | false => exact free_none ho
 ·rename_i own sz rows he;injection h with h; subst h
  have hfe : (toS sl en).fe n = some (.flat own sz rows) := by simp [toS, he]
  obtain ⟨h1, h2, h3⟩ := toS_head (sl := sl) (en := en) (n := n) (e := .flat false sz rows);have hl : Less (toS sl en) (toS sl ((n, some (.flat false sz rows)) :: en)) g (g.free fun k => k.1 = n) n := by
   refine ⟨rfl, rfl, fun p hp => ?_, fun r ver L sz' _ hr => ?_, fun ver _ => ?_⟩
   ·simp only [lenSz, h3] at hp; simp only [lenSz, hfe]; exact hp
   ·obtain ⟨_, _, _, _, _, h, _⟩ := hr; rw [h3] at h; simp at h
   ·intro q1 q2 q3 q4 q5 h; rw [h3] at h; simp at h
  refine ⟨R.turn _ (fun m r h => h) h1 h2 h3 (R.me n _ hfe).1 (fun m hm => by simp [namesE] at hm) hl ?_, turn_less h2 hl⟩;have hF : FlatOk w g.own (if own then some (n, none) else none) (g.base n) (g.cap n) sz rows := R.ents n _ hfe;show FlatOk w _ none (g.base n) (g.cap n) sz rows
  refine hF.mono (by simp) (fun b _ ho => ⟨?_, rfl⟩)
  cases own with
  | true => exact free_gone ho rfl
  | false => exact free_none ho
 ·simp at h
theorem Rel.ro : ∀ {ns : List Nat} {en en' : En} {g : G}, Rel Mn O0 w0 nt (toS sl en) g a w -> Go.Sh.ro ns en = some en' ->
  ∃ g', Rel Mn O0 w0 nt (toS sl en') g' a w /\ ∀ m, Less (toS sl en) (toS sl en') g g' m := by
 intro ns
 induction ns with
 | nil => intro en en' g R h; injection h with h; subst h; exact ⟨g, R, fun m => Less.refl _ _ _⟩
 | cons n r ih =>
  intro en en' g R h;simp only [Go.Sh.ro] at h;split at h
  ·rename_i en1 h1;obtain ⟨R1, l1⟩ := R.ro1 h1;obtain ⟨g', R', l2⟩ := ih R1 h;exact ⟨g', R', fun m => (l1 m).trans (l2 m)⟩
  ·simp at h
def GRel (n0 : Nat) (O : Nat -> Prop) (w0 : Base) (cvs : List SV) (cEn : En) (g : G) (w : World) : Prop := Rel (fun n => n < n0) O w0 0 (toS (slIn 1000000 cvs) cEn) g { tmps := #[], defers := [] } w
theorem ghost_only {cvs : List SV} {t : Nat} {v : SV} (h : (toS (slIn 1000000 cvs) en).fs t = some v) : 1000000 <= t /\ cvs[t - 1000000]? = some v := slIn_lk _ _ _ _ h
theorem Rel.act {cvs : List SV} (R : Rel Mn O0 w0 nt (toS (slIn 1000000 cvs) en) g a w) {a' : Act} {nt' : Nat} (h1 : a'.tmps.size = nt') (h2 : a'.defers = []) (h3 : nt' <= 1000000) : Rel Mn O0 w0 nt' (toS (slIn 1000000 cvs) en) g a' w :=
 { R with
   size := h1
   defers := h2
   small := h3
   slots := fun t v hv => by
    obtain ⟨k1, _⟩ := ghost_only hv;obtain ⟨u, hu, hr⟩ := R.slots t v hv;refine ⟨u, ?_, hr⟩;unfold slotAt at hu ⊢;rw [if_neg (by omega)] at hu ⊢;exact hu }
theorem lk_app {α : Type} {l m : List (Nat × α)} {t : Nat} : lk (l ++ m) t = match lk l t with | some v => some v | none => lk m t := by
 induction l with
 | nil => rfl
 | cons p r ih =>
  obtain ⟨x, v⟩ := p;simp only [List.cons_append, lk]
  cases Nat.beq x t with
  | true => rfl
  | false => exact ih
theorem slIn_at : ∀ {l : List SV} {i j : Nat} {v : SV}, l[j]? = some v -> lk (slIn i l) (i + j) = some v := by
 intro l
 induction l with
 | nil => intro i j v h; simp at h
 | cons x r ih =>
  intro i j v h
  cases j with
  | zero => simp at h; subst h; simp [slIn, lk, Nat.beq_refl]
  | succ j =>
   have := ih (i := i + 1) (j := j) (v := v) (by simpa using h);simp only [slIn, lk];have hb : Nat.beq i (i + (j + 1)) = false := by
    cases hq : Nat.beq i (i + (j + 1)) with
    | false => rfl
    | true => have := qBq hq; omega
   rw [hb, show i + (j + 1) = i + 1 + j by omega];exact this
abbrev Spec := List SV -> List SV -> En -> Sc -> En -> Prop
def SpecOk (P : Program) (f : Nat) (n0 : Nat) (Sp : Spec) : Prop :=
 (∃ fn, P.funcs[f]? = some fn /\ fn.name ≠ "runtime.NumGoroutine" /\ fn.body ≠ none) /\
 ∀ cvs xs cEn x cEn', Sp cvs xs cEn x cEn' -> ∀ (w : World) (us ux : List Value) (g : G) (O : Nat -> Prop), us.length = cvs.length -> ux.length = xs.length -> GRel n0 O ⟨w, fun i => (us ++ ux)[i]?⟩ (cvs ++ xs) cEn g w ->
  Calls P f us.toArray w fun e w' => e = .returned x.val /\ ∃ g', GRel n0 O ⟨w, fun i => (us ++ ux)[i]?⟩ (cvs ++ xs) cEn' g' w'
def slotsAre (sl : Sl) : List Nat -> List SV -> Prop
 | [], [] => True
 | t :: ts, v :: vs => lk sl t = some v /\ slotsAre sl ts vs
 | _, _ => False
def isOwn : Ent -> Bool
 | .blk _ | .flat true _ _ | .nest true _ _ _ _ | .map _ _ _ | .fmap _ | .fnb true _ _ | .fnest true _ _ => true
 | _ => false
def ownAt (en : En) (n : Nat) : Bool := match lk en n with | some (some e) => isOwn e | _ => false
def kills (σ : List (Nat × Option Nat)) (en : En) : En := ((images σ).filter (ownAt en)).map fun n => (n, none)
def pinB (σ : List (Nat × Option Nat)) (n : Nat) : List SV -> List SV -> Bool
 | .ptr m 0 :: vs, .ptr i 0 :: cvs => (Nat.beq m n && (match lk σ n with | some (some j) => Nat.beq j i | _ => false)) || pinB σ n vs cvs
 | _ :: vs, _ :: cvs => pinB σ n vs cvs
 | _, _ => false
def updB (nx : Nat) (vs cvs : List SV) (σ : List (Nat × Option Nat)) (upd : En) : Bool := upd.all fun p => match p.2 with
 | some (.blk l) => (Nat.ble nx p.1 || pinB σ p.1 vs cvs) && (namesL1 l).all fun m => Nat.ble nx m && (firsts upd).elem m
 | some (.flat true _ _) => Nat.ble nx p.1
 | some (.nest true _ _ [] _) => Nat.ble nx p.1
 | some (.fnest true _ _) => Nat.ble nx p.1
 | _ => false
theorem pinB_at {σ : List (Nat × Option Nat)} {n : Nat} : ∀ {vs cvs : List SV}, pinB σ n vs cvs = true -> ∃ j i : Nat, vs[j]? = some (.ptr n 0) /\ cvs[j]? = some (.ptr i 0) /\ lk σ n = some (some i) := by
 intro vs
 induction vs with
 | nil => intro cvs h; simp [pinB] at h
 | cons v vs ih =>
  intro cvs h
  cases cvs with
  | nil => cases v <;> simp [pinB] at h
  | cons c cvs =>
   have rest : pinB σ n vs cvs = true -> ∃ j i : Nat, (v :: vs)[j]? = some (.ptr n 0) /\ (c :: cvs)[j]? = some (.ptr i 0) /\ lk σ n = some (some i) := fun h => by
    obtain ⟨j, i, h1, h2, h3⟩ := ih h;exact ⟨j + 1, i, by simpa using h1, by simpa using h2, h3⟩
   unfold pinB at h;split at h
   ·rename_i m vs' i cvs' e1 e2;injection e1 with e1 e1'
    injection e2 with e2 e2'
    subst e1 e1' e2 e2';rw [Bool.or_eq_true] at h;rcases h with h | h
    ·rw [Bool.and_eq_true] at h;obtain ⟨h1, h2⟩ := h;have h1 := qBq h1;subst h1;split at h2
     ·rename_i j hj;have := qBq h2;subst this;exact ⟨0, _, rfl, rfl, hj⟩
     ·simp at h2
    ·exact rest h
   ·rename_i e1 e2;injection e1 with e1 e1'
    injection e2 with e2 e2'
    subst e1' e2';exact rest h
   ·simp at h
def weakA (σ : List (Nat × Option Nat)) (en : En) : List SV -> List SV -> Prop
 | [], [] => True
 | v :: vs, u :: us => renV2 σ en v u /\ weakA σ en vs us
 | _, _ => False
theorem weakA_at {σ : List (Nat × Option Nat)} : ∀ {vs us : List SV}, weakA σ en vs us -> vs.length = us.length /\ ∀ (i : Nat) (v : SV), vs[i]? = some v -> ∃ u, us[i]? = some u /\ renV2 σ en v u := by
 intro vs
 induction vs with
 | nil => intro us h; cases us with | nil => exact ⟨rfl, fun i v h => by simp at h⟩ | cons _ _ => exact h.elim
 | cons v vs ih =>
  intro us h
  cases us with
  | nil => exact h.elim
  | cons u us =>
   obtain ⟨k1, k2⟩ := ih h.2;refine ⟨by simp [k1], fun i x hx => ?_⟩
   cases i with
   | zero => simp at hx; subst hx; exact ⟨u, rfl, h.1⟩
   | succ i => simpa using k2 i x (by simpa using hx)
def ownsB (σ : List (Nat × Option Nat)) (en : En) : Bool := (firsts en).all fun n => !ownAt en n || (images σ).elem n
def frameCR (f0 n0 : Nat) (Sp : Spec) : CallR := fun f vs K sl en nx => f = f0 /\ ∃ cvs xs cEn x cEn' ns en1 σ0 slW enW nxW vsW ts xsW σ σ' upd,
 Sp cvs xs cEn x cEn' /\ ro ns en = some en1 /\
 (weakS σ0 sl en1 slW /\ weakE σ0 en1 enW /\ weakA σ0 en1 vsW vs) /\ tidy σ0 nxW slW enW = true /\ slotsAre slW ts xsW /\
 (weakA σ enW (cvs ++ xs) (vsW ++ xsW) /\ weakE σ enW cEn) /\ tidy σ n0 (slIn 1000000 (cvs ++ xs)) cEn = true /\ ownsB σ enW = true /\
 weakE σ' cEn' upd /\ tidy σ' (nxW + n0) [] upd = true /\ updB nxW (vsW ++ xsW) (cvs ++ xs) σ' upd = true /\ (images σ).all (fun k => Nat.blt k nxW) = true /\ (vsW.flatMap names3).all (fun k => Nat.blt k nxW) = true /\ vsW.length = cvs.length /\
 K (.s x) slW (upd ++ kills σ enW ++ enW) (nxW + n0)
theorem kills_lk {σ : List (Nat × Option Nat)} {n : Nat} {v : Option Ent} (h : lk (kills σ en) n = some v) : v = none := by
 have := lk_mem h
 unfold kills at this
 obtain ⟨m, _, e⟩ := List.mem_map.1 this
 injection e with _ e
 exact e.symm
theorem kills_mem {σ : List (Nat × Option Nat)} {n : Nat} (h : n ∈ images σ) (hn : ownAt en n = true) : lk (kills σ en) n = some none := by
 unfold kills
 have hm : n ∈ (images σ).filter (ownAt en) := List.mem_filter.2 ⟨h, hn⟩
 clear h
 generalize (images σ).filter (ownAt en) = l at hm
 induction l with
 | nil => simp at hm
 | cons x r ih =>
  simp only [List.map_cons, lk]
  cases hb : Nat.beq x n with
  | true => rfl
  | false =>
   rcases List.mem_cons.1 hm with e | hm
   ·subst e; rw [Nat.beq_refl] at hb; simp at hb
   ·exact ih hm
theorem Rel.freeN (R : Rel Mn O0 w0 nt (toS sl en) g a w) (Q : Nat -> Prop) (hQ : ∀ n e, (toS sl en).fe n = some e -> isOwn e = true -> Q n) : Rel Mn O0 w0 nt (toS sl en) (g.free fun k => ¬ Q k.1) a w := by
 have hl : ∀ n, Less (toS sl en) (toS sl en) g (g.free fun k => ¬ Q k.1) n := fun n => Less.of (.inl rfl) rfl rfl (fun _ => rfl) (fun _ => rfl)
 refine ⟨R.size, R.defers, R.small, fun t v hv => ?_, fun n e he => ?_, fun b k hk => R.bound b k (free_some hk).1, fun b m r hk => R.label b m r (free_some hk).1, R.ms, R.me, R.frm, fun b k hk hb => R.ours b k (free_some hk).1 hb⟩
 ·obtain ⟨u, hu, hx⟩ := R.slots t v hv;exact ⟨u, hu, hx.less fun m _ => hl m⟩
 ·by_cases hq : Q n
  ·exact (R.ents n e he).keep (fun b r _ ho => ⟨by rw [ho, free_kept ho (fun h => h hq)], rfl⟩) (fun b _ ho => ⟨free_none ho, rfl⟩) rfl rfl (fun _ => rfl) (fun _ => rfl) fun m _ => hl m
  ·have hno : isOwn e = false := by
    cases h : isOwn e with
    | false => rfl
    | true => exact absurd (hQ n e he h) hq
   have hok := R.ents n e he
   cases e with
   | was L sz => exact trivial
   | blk l => simp [isOwn] at hno
   | map _ _ _ => simp [isOwn] at hno
   | fmap _ => simp [isOwn] at hno
   | rblk l =>
    obtain ⟨b, arr, T, h1, h2, h3, h4⟩ := hok;exact ⟨b, arr, T, h1, free_none h2, h3, h4.1, fun i x u hx hu => (h4.2 i x u hx hu).less fun m _ => hl m⟩
   | rmap ag nk l =>
    obtain ⟨b, es, clock, h1, h2, h3, h4⟩ := hok;exact ⟨b, es, clock, h1, free_none h2, h3, h4⟩
   | flat own sz rows =>
    cases own with
    | true => simp [isOwn] at hno
    | false =>
     have hF : FlatOk w g.own none (g.base n) (g.cap n) sz rows := hok;exact hF.mono id fun b _ ho => ⟨free_none ho, rfl⟩
   | nest own sz rows holes log =>
    cases own with
    | true => simp [isOwn] at hno
    | false =>
     have hN : NestOk w g.own none (fun _ => none) (g.base n) (g.cap n) (g.rbase n) (g.rcap n) sz rows holes := hok;exact hN.mono id (fun b _ ho => ⟨free_none ho, rfl⟩) (fun i => id) (fun i b _ _ ho => ⟨free_none ho, rfl⟩) (fun _ _ => ⟨rfl, rfl⟩)
   | fnest own sz rows =>
    cases own with
    | true => simp [isOwn] at hno
    | false =>
     have hN : NestOk w g.own none (fun _ => none) (g.base n) (g.cap n) (g.rbase n) (g.rcap n) sz rows [] := hok;exact hN.mono id (fun b _ ho => ⟨free_none ho, rfl⟩) (fun i => id) (fun i b _ _ ho => ⟨free_none ho, rfl⟩) (fun _ _ => ⟨rfl, rfl⟩)
   | fnb own f l =>
    cases own with
    | true => simp [isOwn] at hno
    | false =>
     obtain ⟨b, arr, T, cs, h1, h2, h3, h4, h5⟩ := hok;exact ⟨b, arr, T, cs, h1, free_none h2, h3, h4, h5.1, fun i x u hx hu => (h5.2 i x u hx hu).less fun m _ => hl m⟩
end
end Go.Sh
namespace Go.Sh
variable [Fwd]
section
variable {P : Program} {X : Cx} {Mn O0 : Nat -> Prop} {w0 : Base} {w w' : World} {nt : Nat} {s s' : S} {g : G} {a : Act} {nx : Nat} {sl sl' : Sl} {en en' : En} {cr : CallR}
theorem lk_none {α : Type} {l : List (Nat × α)} {n : Nat} (h : lk l n = none) : n ∉ firsts l := by
 induction l with
 | nil => simp [firsts]
 | cons p r ih =>
  obtain ⟨x, v⟩ := p;simp only [lk] at h
  cases hb : Nat.beq x n with
  | true => rw [hb] at h; simp at h
  | false =>
   rw [hb] at h;simp only [firsts, List.mem_cons, not_or];exact ⟨fun e => by subst e; rw [Nat.beq_refl] at hb; simp at hb, ih h⟩
theorem frame_ok {f n0 : Nat} {Sp : Spec} (hSp : SpecOk P f n0 Sp) : CrOk P (frameCR f n0 Sp) := by
 intro f' vs K sl0 en0 nx0 h O0 w0 nt g0 a w us0 R0 hus0 hn0
 obtain ⟨rfl, cvs0, xs, cEn, x, cEn', ns, en1, σ0, sl, en, nx, vs0, ts, xsW, σ, σ', upd, hs, hro, ⟨hS0, hE0, hA0⟩, ht0, hsl, ⟨hA, hE⟩, ht, how, hE', ht', hup, him, hvn, hlc0, hK⟩ := h
 refine ⟨hSp.1, ?_⟩
 -- the caller's state, told anew
 obtain ⟨g1, R1, l1⟩ := R0.ro hro
 have RW := R1.weakR ht0 hS0 hE0
 obtain ⟨la, ha⟩ := weakA_at hA0
 have husW : All2 (VR3 (toS sl en) (g1.ren σ0)) vs0 us0 := ⟨la.trans hus0.1, fun i v u hv hu => by
  obtain ⟨v0, h1, h2⟩ := ha i v hv;exact renV2_rel hE0 h2 ((hus0.2 i v0 u h1 hu).less fun m _ => l1 m)⟩
 have R := RW.freeN (fun n => ownAt en n = true) fun n e he ho => by
  have : lk en n = some (some e) := by
   simp only [toS] at he
   cases hl : lk en n with
   | none => rw [hl] at he; simp at he
   | some y => rw [hl] at he; simp only [Option.join_some] at he; rw [he]
  simp [ownAt, this, ho]
 have hus0' : All2 (VR3 (toS sl en) ((g1.ren σ0).free fun k => ¬ ownAt en k.1 = true)) vs0 us0 := ⟨husW.1, fun i v u hv hu => (husW.2 i v u hv hu).less fun m _ => Less.of (.inl rfl) rfl rfl (fun _ => rfl) (fun _ => rfl)⟩
 have hlabO : ∀ b n r, ((g1.ren σ0).free fun k => ¬ ownAt en k.1 = true).own b = some (n, r) -> ownAt en n = true := fun b n r h => Classical.byContradiction fun hc => (free_some h).2 hc
 obtain ⟨g, hg⟩ : ∃ g, ((g1.ren σ0).free fun k => ¬ ownAt en k.1 = true) = g := ⟨_, rfl⟩
 rw [hg] at R hus0' hlabO
 -- the other pointers that are told of
 obtain ⟨ux, hux, hxn⟩ : ∃ ux, All2 (VR3 (toS sl en) g) xsW ux /\ ∀ n ∈ xsW.flatMap names3, n < nx := by
  have key : ∀ {ts : List Nat} {xs : List SV}, slotsAre sl ts xs -> ∃ ux, All2 (VR3 (toS sl en) g) xs ux /\ ∀ n ∈ xs.flatMap names3, n < nx := by
   intro ts
   induction ts with
   | nil =>
    intro xs h
    cases xs with
    | nil => exact ⟨[], ⟨rfl, fun i a b h => by simp at h⟩, fun n h => by simp at h⟩
    | cons _ _ => exact h.elim
   | cons t ts ih =>
    intro xs h
    cases xs with
    | nil => exact h.elim
    | cons v xs =>
     obtain ⟨ux, k1, k2⟩ := ih h.2;obtain ⟨u, _, hr⟩ := R.slots t v h.1;refine ⟨u :: ux, All2.cons' hr k1, fun n hm => ?_⟩;rw [List.flatMap_cons, List.mem_append] at hm;rcases hm with hm | hm
     ·exact R.ms t v h.1 n hm
     ·exact k2 n hm
  exact key hsl
 have happ : ∀ {l l' : List SV} {m m' : List Value}, All2 (VR3 (toS sl en) g) l m -> All2 (VR3 (toS sl en) g) l' m' -> All2 (VR3 (toS sl en) g) (l ++ l') (m ++ m') := by
  intro l
  induction l with
  | nil =>
   intro l' m m' h k
   cases m with
   | nil => exact k
   | cons _ _ => have := h.1; simp at this
  | cons v l ih =>
   intro l' m m' h k
   cases m with
   | nil => have := h.1; simp at this
   | cons u m => exact All2.cons' (h.2 0 v u rfl rfl) (ih ⟨by have := h.1; simpa using this, fun i a b ha hb => h.2 (i + 1) a b (by simpa using ha) (by simpa using hb)⟩ k)
 have hus := happ hus0' hux
 have hl1 : us0.length = cvs0.length := by rw [<- hus0'.1, hlc0]
 have hl2 : ux.length = xs.length := by
  have h1 := (weakA_at hA).1;rw [List.length_append, List.length_append] at h1;have := hux.1;omega
 obtain ⟨us, hus_⟩ : ∃ us, us0 ++ ux = us := ⟨_, rfl⟩
 obtain ⟨vsW, hvs_⟩ : ∃ v, vs0 ++ xsW = v := ⟨_, rfl⟩
 obtain ⟨cvs, hcvs_⟩ : ∃ c, cvs0 ++ xs = c := ⟨_, rfl⟩
 rw [hus_, hvs_] at hus
 rw [hvs_, hcvs_] at hA hup
 rw [hcvs_] at ht
 clear RW husW R0 hus0 hn0 R1 l1 hS0 hE0 hA0 ha la hro
 have hn : ∀ n ∈ vsW.flatMap names3, n < nx := fun n hm => by
  rw [<- hvs_, List.flatMap_append] at hm;rcases List.mem_append.1 hm with hm | hm
  ·simpa [Nat.blt_eq] using List.all_eq_true.1 hvn n hm
  ·exact hxn n hm
 have hD : ∀ n, ownAt en n = true -> lk (kills σ en) n = some none := fun n hn => by
  refine kills_mem ?_ hn;have hf : n ∈ firsts en := by
   unfold ownAt at hn;split at hn
   ·rename_i e he; exact lk_firsts (by rw [he]; rfl)
   ·simp at hn
  have := List.all_eq_true.1 how n hf;rw [hn] at this;simpa using this
 -- the state as it is handed over
 have hl0 : ∀ n, Less (toS sl en) (toS (slIn 1000000 vsW) en) g g n := fun n => Less.of (.inl rfl) rfl rfl (fun _ => rfl) (fun _ => rfl)
 have R1 : Rel (fun n => n < nx) O0 ⟨w0.w, fun i => us[i]?⟩ nt (toS (slIn 1000000 vsW) en) g a w := by
  refine { R with slots := fun t v hv => ?_, ents := fun n e he => ?_, ms := fun t v hv n hm => ?_ }
  ·obtain ⟨h1, h2⟩ := ghost_only hv;have hlt : t - 1000000 < us.length := by rw [<- hus.1]; exact (qSq.1 h2).1
   refine ⟨us[t - 1000000], ?_, (hus.2 _ _ _ h2 (qEq hlt)).less fun n _ => hl0 n⟩;unfold slotAt;rw [if_neg (by omega)];exact qEq hlt
  ·exact (R.ents n e he).keep (fun b r _ ho => ⟨rfl, rfl⟩) (fun b _ ho => ⟨ho, rfl⟩) rfl rfl (fun _ => rfl) (fun _ => rfl) fun m _ => hl0 m
  ·obtain ⟨h1, h2⟩ := ghost_only hv;exact hn n (List.mem_flatMap.2 ⟨v, qMq h2, hm⟩)
 obtain ⟨lc, hc⟩ := weakA_at hA
 have hS : weakS σ (slIn 1000000 vsW) en (slIn 1000000 cvs) := by
  have key : ∀ (cv : List SV) (i : Nat), (∀ (j : Nat) (v : SV), cv[j]? = some v -> ∃ u, lk (slIn 1000000 vsW) (i + j) = some u /\ renV2 σ en v u) -> weakS σ (slIn 1000000 vsW) en (slIn i cv) := by
   intro cv
   induction cv with
   | nil => intro i _; trivial
   | cons v cv ih =>
    intro i h;obtain ⟨u, h1, h2⟩ := h 0 v rfl;refine ⟨by simp only [Nat.add_zero] at h1; rw [h1]; exact h2, ih (i + 1) fun j v hv => ?_⟩;have := h (j + 1) v (by simpa using hv)
    rwa [show i + (j + 1) = i + 1 + j by omega] at this
  refine key cvs 1000000 fun j v hv => ?_
  obtain ⟨u, h1, h2⟩ := hc j v hv;exact ⟨u, slIn_at h1, h2⟩
 have R2 := R1.weakR ht hS hE
 obtain ⟨g2, hg2⟩ : ∃ g2, g.ren σ = g2 := ⟨_, rfl⟩
 rw [hg2] at R2
 have R2a := R2.act (a' := { tmps := #[], defers := [] }) (nt' := 0) rfl rfl (by omega)
 have R3 : GRel n0 (fun b => ∃ k, g2.own b = some k) ⟨w, fun i => us[i]?⟩ cvs cEn g2 w := { R2a with frm := Frm.refl _ _, ours := fun b k h _ => ⟨k, h⟩ }
 have hcall := hSp.2 cvs0 xs cEn x cEn' hs w us0 ux g2 _ hl1 hl2 (by rw [hus_, hcvs_]; exact R3)
 rw [hus_, hcvs_] at hcall
 refine hcall.mono ?_
 rintro e w' ⟨rfl, g3, R4⟩
 have R5 := Rel.weakR (sl' := []) R4 ht' trivial hE'
 obtain ⟨g5, hg5⟩ : ∃ g5, g3.ren σ' = g5 := ⟨_, rfl⟩
 rw [hg5] at R5
 have hsz : w.heap.size <= w'.heap.size := R4.frm.size
 -- labels
 have F2 : ∀ b, g.own b = none -> (g2.own b) = none := fun b hb => by rw [<- hg2]; exact ren_none hb
 have F1 : ∀ b, b < w.heap.size -> g.own b = none -> g5.own b = none := fun b hb ho => by
  rw [<- hg5];refine ren_none ?_
  cases h3 : g3.own b with
  | none => rfl
  | some k3 =>
   obtain ⟨k2, hk2⟩ := R4.ours b k3 h3 hb;rw [F2 b ho] at hk2; simp at hk2
 let g' : G := { base := fun n => if nx <= n then g5.base n else g.base n, cap := fun n => if nx <= n then g5.cap n else g.cap n, rbase := fun n => if nx <= n then g5.rbase n else g.rbase n, rcap := fun n => if nx <= n then g5.rcap n else g.rcap n, own := g5.own }
 -- entries
 have hupd : ∀ n v, lk upd n = some v -> ∃ e, v = some e /\ (toS [] upd).fe n = some e /\ (n, some e) ∈ upd := fun n v h => by
  have hm := lk_mem h
  cases v with
  | none =>
   exfalso
   have key : ∀ {u : En}, (n, (none : Option Ent)) ∈ u -> ¬ weakE σ' cEn' u := by
    intro u
    induction u with
    | nil => intro h; simp at h
    | cons p r ih =>
     intro h hw;obtain ⟨a, y⟩ := p;rcases List.mem_cons.1 h with h1 | h1
     ·injection h1 with _ h1; subst h1; exact hw
     ·cases y with
      | none => exact hw
      | some y => exact ih h1 hw.2
   exact key hm hE'
  | some e => exact ⟨e, rfl, by simp [toS, h], hm⟩
 have hUlt : ∀ n, n ∈ firsts upd -> n < nx + n0 := fun n hm => by
  cases hq : lk upd n with
  | none => exact absurd hm (lk_none hq)
  | some v =>
   obtain ⟨e, _, he, _⟩ := hupd n v hq;exact (R5.me n e he).1
 have hfe : ∀ n, ((toS sl en).putW (upd ++ kills σ en)).fe n = match lk upd n with
   | some v => v
   | none => match lk (kills σ en) n with
    | some v => none
    | none => (toS sl en).fe n := fun n => by
  have := toS_put sl en none (.s x) (upd ++ kills σ en);have e : ((toS sl en).putW (upd ++ kills σ en)).fe n = (lk (upd ++ kills σ en ++ en) n).join := by
   show ((toS sl en).put none (.s x) (upd ++ kills σ en)).fe n = _
   rw [<- this]; rfl
  rw [e, lk_app, lk_app]
  cases h1 : lk upd n with
  | some v => rfl
  | none =>
   simp only
   cases h2 : lk (kills σ en) n with
   | some v => rw [kills_lk h2]; rfl
   | none => rfl
 have hU : ∀ p ∈ upd, (match p.2 with
   | some (.blk l) => (Nat.ble nx p.1 || pinB σ' p.1 vsW cvs) && (namesL1 l).all fun m => Nat.ble nx m && (firsts upd).elem m
   | some (.flat true _ _) => Nat.ble nx p.1
   | some (.nest true _ _ [] _) => Nat.ble nx p.1
   | some (.fnest true _ _) => Nat.ble nx p.1
   | _ => false) = true := fun p hp => List.all_eq_true.1 hup p hp
 have hbox : ∀ n e, (n, some e) ∈ upd -> n < nx -> ∃ l, e = .blk l := fun n e hm hlt => by
  have := hU _ hm;simp only at this;split at this
  ·rename_i l hq; injection hq with hq; exact ⟨l, hq⟩
  ·rename_i hq; have := Nat.le_of_ble_eq_true this; omega
  ·rename_i hq; have := Nat.le_of_ble_eq_true this; omega
  ·rename_i hq; have := Nat.le_of_ble_eq_true this; omega
  ·simp at this
 have hpin : ∀ n l, (n, some (.blk l)) ∈ upd -> g'.base n = g5.base n := fun n l hm => by
  show (if nx <= n then g5.base n else g.base n) = _
  by_cases hlt : nx <= n
  ·rw [if_pos hlt]
  ·rw [if_neg hlt];have := hU _ hm;simp only [Bool.and_eq_true, Bool.or_eq_true] at this;rcases this.1 with h | h
   ·exact absurd (Nat.le_of_ble_eq_true h) hlt
   ·obtain ⟨j, i, h1, h2, h3⟩ := pinB_at h;have hj : j < us.length := by rw [<- hus.1]; exact (qSq.1 h1).1
    obtain ⟨b1, q1, q2⟩ : ∃ b, g.base n = some ⟨b, 0, none⟩ /\ us[j] = .pointer (some ⟨b, 0, none⟩) := hus.2 j _ _ h1 (qEq hj);obtain ⟨u, hu, hr⟩ := R4.slots (1000000 + j) (.ptr i 0) (slIn_at h2);obtain ⟨b2, q3, q4⟩ : ∃ b, g3.base i = some ⟨b, 0, none⟩ /\ u = .pointer (some ⟨b, 0, none⟩) := hr;unfold slotAt at hu;rw [if_neg (by omega), show 1000000 + j - 1000000 = j by omega] at hu;simp only [qEq hj] at hu;injection hu with hu
    rw [q2, q4] at hu;injection hu with hu; injection hu with hu; injection hu with hu
    rw [q1, <- hg5];simp [G.ren, h3, q3, hu]
 have hless5 : ∀ m, nx <= m -> m ∈ firsts upd -> Less (toS [] upd) ((toS sl en).putW (upd ++ kills σ en)) g5 g' m := fun m hm hf => by
  refine Less.of (.inl ?_) (if_pos hm) (if_pos hm) (fun i => by show (if nx <= m then g5.rbase m else g.rbase m) i = _; rw [if_pos hm]) (fun i => by show (if nx <= m then g5.rcap m else g.rcap m) i = _; rw [if_pos hm]);rw [hfe m]
  cases hq : lk upd m with
  | none => exact absurd hf (lk_none hq)
  | some v => simp [toS, hq]
 have hent : ∀ n e, lk upd n = some (some e) -> EntOk w' ((toS sl en).putW (upd ++ kills σ en)) g' n e := fun n e hq => by
  obtain ⟨e', he1, he2, hm⟩ := hupd n _ hq;injection he1 with he1; subst he1
  have hok := R5.ents n e he2;have hc := hU _ hm;simp only at hc;split at hc
  ·rename_i l hql; injection hql with hql; subst hql
   obtain ⟨b, arr, T, k1, k2, k3, k4⟩ := hok;refine ⟨b, arr, T, by rw [hpin n l hm]; exact k1, k2, k3, k4.1, fun i y u hy hu => (k4.2 i y u hy hu).less fun m hmm => ?_⟩;rw [Bool.and_eq_true] at hc;have := List.all_eq_true.1 hc.2 m (mem_namesL1 hy hmm);rw [Bool.and_eq_true] at this;exact hless5 m (Nat.le_of_ble_eq_true this.1) (by simpa using this.2)
  ·rename_i sz rows hql; injection hql with hql; subst hql
   have hge := Nat.le_of_ble_eq_true hc;have hok : FlatOk w' g5.own (some (n, none)) (g5.base n) (g5.cap n) sz rows := hok;show FlatOk w' g5.own (some (n, none)) (if nx <= n then g5.base n else g.base n) (if nx <= n then g5.cap n else g.cap n) sz rows
   rw [if_pos hge, if_pos hge];exact hok.mono id (fun b _ ho => ⟨ho, rfl⟩)
  ·rename_i sz rows log hql; injection hql with hql; subst hql
   have hge := Nat.le_of_ble_eq_true hc;have hok : NestOk w' g5.own (some (n, none)) (fun i => some (n, some i)) (g5.base n) (g5.cap n) (g5.rbase n) (g5.rcap n) sz rows [] := hok;show NestOk w' g5.own (some (n, none)) (fun i => some (n, some i)) (if nx <= n then g5.base n else g.base n) (if nx <= n then g5.cap n else g.cap n) (if nx <= n then g5.rbase n else g.rbase n) (if nx <= n then g5.rcap n else g.rcap n) sz rows []
   rw [if_pos hge, if_pos hge, if_pos hge, if_pos hge];exact hok.mono id (fun b _ ho => ⟨ho, rfl⟩) (fun i => id) (fun i b _ _ ho => ⟨ho, rfl⟩) (fun _ _ => ⟨rfl, rfl⟩)
  ·rename_i sz rows hql; injection hql with hql; subst hql
   have hge := Nat.le_of_ble_eq_true hc;have hok : NestOk w' g5.own (some (n, none)) (fun i => none) (g5.base n) (g5.cap n) (g5.rbase n) (g5.rcap n) sz rows [] := hok;show NestOk w' g5.own (some (n, none)) (fun i => none) (if nx <= n then g5.base n else g.base n) (if nx <= n then g5.cap n else g.cap n) (if nx <= n then g5.rbase n else g.rbase n) (if nx <= n then g5.rcap n else g.rcap n) sz rows []
   rw [if_pos hge, if_pos hge, if_pos hge, if_pos hge];exact hok.mono id (fun b _ ho => ⟨ho, rfl⟩) (fun i => id) (fun i b _ _ ho => ⟨ho, rfl⟩) (fun _ _ => ⟨rfl, rfl⟩)
  ·simp at hc
 have hd : Did (fun n => n < nx) (toS sl en) g w (fun n => nx <= n /\ n < nx + n0) (.s x) (upd ++ kills σ en) x.val w' g' := by
  refine did_of R (fun n => n ∈ firsts upd \/ lk (kills σ en) n = some none) (fun n hlt hDn => ?_) (fun n e he => ?_) (fun n hlt _ => ?_) (fun b n r hb ho hDn => ?_) (fun b hb ho => ?_) ⟨R4.frm.os, R4.frm.tape, R4.frm.output, hsz⟩ (fun b k hk => ?_) (fun b n r hk => ?_) (fun n hlt hDn => ?_) (fun n e he hDn => ?_) (fun _ => rfl)
  ·rw [hfe n]
   cases h1 : lk upd n with
   | some v => exact absurd (.inl (lk_firsts (by rw [h1]; rfl))) hDn
   | none =>
    simp only
    cases h2 : lk (kills σ en) n with
    | none => rfl
    | some v => exact absurd (.inr (by rw [h2, kills_lk h2])) hDn
  ·rw [hfe n] at he
   cases h1 : lk upd n with
   | some v =>
    have := hUlt n (lk_firsts (by rw [h1]; rfl));by_cases hlt : n < nx
    ·exact .inl hlt
    ·exact .inr ⟨by omega, this⟩
   | none =>
    rw [h1] at he;simp only at he
    cases h2 : lk (kills σ en) n with
    | some v => rw [h2] at he; simp at he
    | none => rw [h2] at he; exact .inl (R.me n e he).1
  ·have h : ¬ nx <= n := by omega
   exact ⟨if_neg h, if_neg h, fun i => by show (if nx <= n then g5.rbase n else g.rbase n) i = _; rw [if_neg h], fun i => by show (if nx <= n then g5.rcap n else g.rcap n) i = _; rw [if_neg h]⟩
  ·exact absurd (.inr (hD n (hlabO b n r ho))) hDn
  ·exact ⟨F1 b hb ho, R4.frm.block b hb (fun ⟨k, hk⟩ => by rw [F2 b ho] at hk; simp at hk)⟩
  ·exact R5.bound b k hk
  ·have := R5.label b n r hk; show n < nx \/ _; omega
  ·have hge : ¬ nx <= n := by omega
   have hcase : ((toS sl en).putW (upd ++ kills σ en)).fe n = none \/ ∃ l, ((toS sl en).putW (upd ++ kills σ en)).fe n = some (.blk l) := by
    rw [hfe n]
    cases h1 : lk upd n with
    | some v =>
     obtain ⟨e, rfl, _, hm⟩ := hupd n v h1;obtain ⟨l, rfl⟩ := hbox n e hm hlt;exact .inr ⟨l, rfl⟩
    | none =>
     rcases hDn with hDn | hDn
     ·exact absurd hDn (lk_none h1)
     ·rw [hDn]; exact .inl rfl
   rcases hcase with hc | ⟨l, hc⟩
   ·exact Less.of (.inr hc) (if_neg hge) (if_neg hge) (fun i => by show (if nx <= n then g5.rbase n else g.rbase n) i = _; rw [if_neg hge]) (fun i => by show (if nx <= n then g5.rcap n else g.rcap n) i = _; rw [if_neg hge])
   ·exact ⟨if_neg hge, if_neg hge, fun p hp => by simp only [lenSz, hc] at hp; simp at hp, fun r ver L sz' _ hr => by obtain ⟨_, _, _, _, _, h, _⟩ := hr; rw [hc] at h; simp at h, fun ver _ => by intro q1 q2 q3 q4 q5 h; rw [hc] at h; simp at h⟩
  ·rw [hfe n] at he
   cases h1 : lk upd n with
   | some v =>
    rw [h1] at he;simp only at he;subst he;exact hent n e h1
   | none =>
    rw [h1] at he;simp only at he
    cases h2 : lk (kills σ en) n with
    | some v => rw [h2] at he; simp at he
    | none =>
     rw [h2] at he;simp only at he;rcases hDn (R.me n e he).1 with hDn | hDn
     ·exact absurd hDn (lk_none h1)
     ·rw [h2] at hDn; simp at hDn
 have R6 := Did.rel R hd (d := none) (u' := x.val) (fun t h => by simp at h) (fun _ => rfl) (fun k hk => by
  have hk : k ∈ namesW (upd ++ kills σ en) := by simpa [names3, names2, names1] using hk
  have hsplit : ∀ {u v : Ws} {k : Nat}, k ∈ namesW (u ++ v) -> k ∈ namesW u \/ k ∈ namesW v := by
   intro u
   induction u with
   | nil => intro v k h; exact .inr h
   | cons p r ih =>
    intro v k h;obtain ⟨n, e⟩ := p
    cases e with
    | none =>
     simp only [List.cons_append, namesW, List.mem_cons] at h ⊢;rcases h with h | h
     ·exact .inl (.inl h)
     ·exact (ih h).imp .inr id
    | some e =>
     simp only [List.cons_append, namesW, List.mem_cons, List.mem_append] at h ⊢;rcases h with h | h | h
     ·exact .inl (.inl h)
     ·exact .inl (.inr (.inl h))
     ·exact (ih h).imp (fun h => .inr (.inr h)) id
  have hupN : ∀ {u : En}, (∀ p ∈ u, p ∈ upd) -> ∀ {k : Nat}, k ∈ namesW u -> k < nx + n0 := by
   intro u
   induction u with
   | nil => intro _ k h; simp [namesW] at h
   | cons p r ih =>
    intro hu k h;obtain ⟨n, e⟩ := p;have hp := hu _ List.mem_cons_self;have ihr := ih (fun q hq => hu q (List.mem_cons_of_mem _ hq)) (k := k)
    cases e with
    | none =>
     simp only [namesW, List.mem_cons] at h;rcases h with h | h
     ·subst h; exact hUlt _ (mem_firsts hp)
     ·exact ihr h
    | some e =>
     simp only [namesW, List.mem_cons, List.mem_append] at h;rcases h with h | h | h
     ·subst h; exact hUlt _ (mem_firsts hp)
     ·have hc := hU _ hp
      cases e with
      | blk l =>
       simp only [Bool.and_eq_true] at hc;have := List.all_eq_true.1 hc.2 k h;rw [Bool.and_eq_true] at this;exact hUlt k (by simpa using this.2)
      | rblk l => simp at hc
      | fnb _ _ l => simp at hc
      | _ => simp [namesE] at h
     ·exact ihr h
  have hki : ∀ {u : En}, (∀ p ∈ u, p ∈ kills σ en) -> ∀ {k : Nat}, k ∈ namesW u -> k ∈ images σ := by
   intro u
   induction u with
   | nil => intro _ k h; simp [namesW] at h
   | cons p r ih =>
    intro hu k h;have hp := hu _ List.mem_cons_self;have ihr := ih (fun q hq => hu q (List.mem_cons_of_mem _ hq)) (k := k);unfold kills at hp;obtain ⟨m, hm, rfl⟩ := List.mem_map.1 hp;simp only [namesW, List.mem_cons] at h;rcases h with h | h
    ·subst h; exact (List.mem_filter.1 hm).1
    ·exact ihr h
  rcases hsplit hk with hk | hk
  ·have := hupN (fun _ h => h) hk;by_cases hlt : k < nx
   ·exact .inl hlt
   ·exact .inr ⟨by omega, this⟩
  ·have hi := hki (fun _ h => h) hk;exact .inl (by simpa [Nat.blt_eq] using List.all_eq_true.1 him k hi))
 refine ⟨.s x, x.val, sl, upd ++ kills σ en ++ en, nx + n0, g', rfl, hK, rfl, fun n hm => by simp [names3, names2, names1] at hm, ?_⟩
 have e : toS sl (upd ++ kills σ en ++ en) = (toS sl en).put none (.s x) (upd ++ kills σ en) := toS_put sl en none (.s x) (upd ++ kills σ en)
 rw [e]
 exact R6.wider fun k hk => by
  rcases hk with hk | ⟨_, hk⟩
  ·exact Nat.lt_of_lt_of_le hk (Nat.le_add_right _ _)
  ·exact hk
def endF (X : Cx) (rs : List ResultVar) (n0 : Nat) (cvs : List SV) (x : Sc) (cEn' : En) : Post := fun e sl en _ => match e with
 | .normal | .ret => resP X.T sl en rs fun vs => vs = [.s x] /\ Weak sl en (slIn 1000000 cvs) cEn' n0
 | _ => False
theorem spec_body (hcr : CrOk P cr) (hmix : P.follows .mixedOrders = true) (hT : TabOk P X.T) (hΓ : Sound P X.T X.Γ) {f : FuncId} {fn : Func} {c : Code} (hf : P.funcs[f]? = some fn) (hname : (fn.name == "runtime.NumGoroutine") = false) (hb : fn.body = some c) (hnt : fn.ntmps = X.nt) (hsm : Nat.ble X.nt 1000000 = true) {n0 : Nat} {Sp : Spec}
  (h : ∀ cvs xs cEn x cEn', Sp cvs xs cEn x cEn' -> cvs.length <= X.nt /\ wpC cr X c (endF X fn.results.toList n0 (cvs ++ xs) x cEn') (slIn 0 cvs ++ slIn 1000000 (cvs ++ xs)) cEn n0) : SpecOk P f n0 Sp := by
 refine ⟨⟨fn, hf, fun e => by rw [e] at hname; simp at hname, by rw [hb]; simp⟩, fun cvs xs cEn x cEn' hs w us ux g O hlen hlx hg => ?_⟩
 obtain ⟨hnl, hwp⟩ := h cvs xs cEn x cEn' hs
 have hsm := Nat.le_of_ble_eq_true hsm
 have hl0 : ∀ n, Less (toS (slIn 1000000 (cvs ++ xs)) cEn) (toS (slIn 0 cvs ++ slIn 1000000 (cvs ++ xs)) cEn) g g n := fun n => Less.of (.inl rfl) rfl rfl (fun _ => rfl) (fun _ => rfl)
 have hg' := Rel.act (a' := { tmps := us.toArray ++ Array.replicate (X.nt - us.toArray.size) undef, defers := [] }) (nt' := X.nt) hg (by simp; omega) rfl hsm
 have hfs : ∀ t v, (toS (slIn 0 cvs ++ slIn 1000000 (cvs ++ xs)) cEn).fs t = some v -> (t < cvs.length /\ cvs[t]? = some v) \/ (toS (slIn 1000000 (cvs ++ xs)) cEn).fs t = some v := fun t v hv => by
  have hv : lk (slIn 0 cvs ++ slIn 1000000 (cvs ++ xs)) t = some v := hv;rcases lk_append hv with hv | hv
  ·obtain ⟨_, h2⟩ := slIn_lk _ _ _ _ hv;exact .inl ⟨(qSq.1 h2).1, by simpa using h2⟩
  ·exact .inr hv
 have R : Rel (fun n => n < n0) O ⟨w, fun i => (us ++ ux)[i]?⟩ X.nt (toS (slIn 0 cvs ++ slIn 1000000 (cvs ++ xs)) cEn) g { tmps := us.toArray ++ Array.replicate (X.nt - us.toArray.size) undef, defers := [] } w := by
  refine { hg' with slots := fun t v hv => ?_, ents := fun n e he => ?_, ms := fun t v hv => ?_ }
  ·rcases hfs t v hv with ⟨h1, h2⟩ | hv
   ·obtain ⟨u, hu, hr⟩ := hg'.slots (1000000 + t) v (slIn_at (by rw [qLq h1]; exact h2));refine ⟨u, ?_, hr.less fun n _ => hl0 n⟩;unfold slotAt at hu ⊢;rw [if_neg (by omega), show 1000000 + t - 1000000 = t by omega] at hu;rw [if_pos (by omega)];have hu : (us ++ ux)[t]? = some u := hu;rw [qLq (by omega)] at hu;show (us.toArray ++ Array.replicate (X.nt - us.toArray.size) undef)[t]? = some u
    rw [Array.getElem?_append_left (by simp; omega)];simpa using hu
   ·obtain ⟨u, hu, hr⟩ := hg'.slots t v hv;exact ⟨u, hu, hr.less fun n _ => hl0 n⟩
  ·exact (hg'.ents n e he).keep (fun b r _ ho => ⟨rfl, rfl⟩) (fun b _ ho => ⟨ho, rfl⟩) rfl rfl (fun _ => rfl) (fun _ => rfl) fun m _ => hl0 m
  ·rcases hfs t v hv with ⟨h1, h2⟩ | hv
   ·exact hg'.ms (1000000 + t) v (slIn_at (by rw [qLq h1]; exact h2))
   ·exact hg'.ms t v hv
 refine calls_of_wp hf hb ?_
 rw [hnt]
 refine wpC_sim hmix hcr hT hΓ c _ _ (fun e sl en nx g' a' w' hq R' => ?_) _ _ _ g _ w hwp R
 have fin : resP X.T sl en fn.results.toList (fun vs => vs = [.s x] /\ Weak sl en (slIn 1000000 (cvs ++ xs)) cEn' n0) -> a'.defers = [] /\ ∃ v, (results fn a'.tmps).run P w' = .ok v w' /\ (Ending.returned v = .returned x.val /\ ∃ g', GRel n0 O ⟨w, fun i => (us ++ ux)[i]?⟩ (cvs ++ xs) cEn' g' w') := by
  intro hq;obtain ⟨vs', us', h1, h2, ⟨rfl, hW⟩, _⟩ := resP_run hT R' _ _ hq;obtain rfl : us' = [x.val] := by
   match us', h2 with
   | [u1], h2 => rw [show u1 = x.val from h2.2 0 _ _ rfl rfl]
   | [], h2 => exact absurd h2.1 (by simp)
   | _ :: _ :: _, h2 => exact absurd h2.1 (by simp)
  obtain ⟨g'', R''⟩ := R'.weak hW;exact ⟨R'.defers, _, results_run h1, rfl, g'', R''.act rfl rfl (by omega)⟩
 cases e with
 | normal => exact fin hq
 | ret => exact fin hq
 | _ => exact hq.elim
end
end Go.Sh
namespace Go.Sh
variable [Fwd]
section
variable {P : Program} {X : Cx} {cr : CallR}
def frzCR (cr : CallR) : CallR := fun f vs K sl en nx => ∃ fz, cr f vs (fun v sl en nx => v = .tup [] /\ K v sl (frz fz en) nx) sl en nx
theorem frz_ok {cr : CallR} (h : CrOk P cr) : CrOk P (frzCR cr) := by
 intro f vs K sl en nx hk O0 w0 nt g a w us R hus hn
 obtain ⟨fz, hk⟩ := hk
 obtain ⟨h1, h2⟩ := h f vs _ sl en nx hk O0 w0 nt g a w us R hus hn
 refine ⟨h1, h2.mono ?_⟩
 rintro e w' ⟨v, u, sl', en', nx', g', rfl, ⟨rfl, hK⟩, hv, hnm, R'⟩
 obtain ⟨g'', R''⟩ := R'.frz fz
 refine ⟨.tup [], u, sl', frz fz en', nx', g'', rfl, hK, ?_, fun n hm => by simp [names3, namesL2] at hm, R''⟩
 obtain ⟨vs, rfl, hl⟩ := hv
 exact ⟨vs, rfl, hl.1, fun i a b ha => by simp at ha⟩
theorem spec_from (hcr : CrOk P cr) (hmix : P.follows .mixedOrders = true) (hT : TabOk P X.T) (hΓ : Sound P X.T X.Γ) {f : FuncId} {fn : Func} (hf : P.funcs[f]? = some fn) (hname : (fn.name == "runtime.NumGoroutine") = false) (hb : fn.body.isSome = true) (hnt : fn.ntmps = X.nt) (hsm : Nat.ble X.nt 1000000 = true) {n0 : Nat} {Sp : Spec}
  (h : ∀ cvs xs cEn x cEn', Sp cvs xs cEn x cEn' -> cvs.length <= X.nt /\ wpC cr X (body fn) (endF X fn.results.toList n0 (cvs ++ xs) x cEn') (slIn 0 cvs ++ slIn 1000000 (cvs ++ xs)) cEn n0) : SpecOk P f n0 Sp := by
 have hb' : fn.body = some (body fn) := by
  unfold body
  cases hx : fn.body with
  | none => rw [hx] at hb; simp at hb
  | some c => rfl
 exact spec_body hcr hmix hT hΓ hf hname hb' hnt hsm h
end
end Go.Sh
namespace Go.Sh
variable [Fwd]
def fnestFnCR (f0 c0 sz : Nat) (pre : List Flat -> Prop) (F : List Flat -> List Flat) : CallR := fun f vs K sl en nx => f = f0 /\ match vs with
 | [.sl n none none, .fn c []] => c = c0 /\ ∃ l, lk en n = some (some (.fnest true sz l)) /\ pre l /\ K (.tup []) sl ((n, some (.fnest true sz (F l))) :: en) nx
 | _ => False
section
variable {P : Program} {X : Cx} {O0 : Nat -> Prop} {w0 : Base} {nt : Nat} {s : S} {g : G} {a : Act} {w w' : World} {sl : Sl} {en : En} {nx : Nat} {cr : CallR}
theorem fnestFn_ok {f c sz : Nat} {pre : List Flat -> Prop} {F : List Flat -> List Flat} (hF : NestFnCall P f c sz pre F) : CrOk P (fnestFnCR f c sz pre F) := by
 intro f' vs K sl en nx h O0 w0 nt g a w us R hus hn
 obtain ⟨rfl, h⟩ := h
 refine ⟨hF.1, ?_⟩
 split at h
 ·rename_i n c';obtain ⟨rfl, l, he, hp, hK⟩ := h;have he' : (toS sl en).fe n = some (.fnest true sz l) := by simp [toS, he]
  obtain ⟨u1, rfl, h1⟩ : ∃ u1, us = [u1, .func (.func c') #[] #[]] /\ VR3 (toS sl en) g (.sl n none none) u1 := by
   match us, hus with
   | [u1, u2], hus =>
    obtain ⟨cs, hc, hc2⟩ : VR3 (toS sl en) g (.fn c' []) u2 := hus.2 1 _ _ rfl rfl;have : cs = #[] := by apply Array.ext'; simpa using hc2.1.symm
    subst this;exact ⟨u1, by rw [hc], hus.2 0 _ _ rfl rfl⟩
   | [], hus => exact absurd hus.1 (by simp)
   | [_], hus => exact absurd hus.1 (by simp)
   | _ :: _ :: _ :: _, hus => exact absurd hus.1 (by simp)
  obtain ⟨A, len, cap, rfl, hsub⟩ := h1;obtain ⟨e1, e2, e3⟩ := hsub _ _ (show lenSz (toS sl en) n = some (l.length, 1) by simp [lenSz, he']);subst e1; subst e3
  subst e2;have hok : NestOk w g.own (some (n, none)) (fun _ => none) (g.base n) (g.cap n) (g.rbase n) (g.rcap n) sz l [] := R.ents n _ he';have hmn := (R.me n _ he').1;refine (hF.2 l hp w g.own n _ _ _ _ _ (fun i => by simp) hok R.bound).mono ?_;rintro e w' ⟨rfl, hfr, s, t, hs, ht, hlen, hrw, hhd, hroom⟩
  let g' : G := { g with rbase := fun m i => if m = n then g.rbase n (s i) else g.rbase m i, rcap := fun m i => if m = n then g.rcap n (s i) else g.rcap m i }
  have hfe : ∀ k, k ≠ n -> ((toS sl en).putW [(n, some (.fnest true sz (F l)))]).fe k = (toS sl en).fe k := fun k hk => by simp [S.putW, S.setE, hk]
  have hfn : ((toS sl en).putW [(n, some (.fnest true sz (F l)))]).fe n = some (.fnest true sz (F l)) := by simp [S.putW, S.setE]
  have hd : Did (fun n => n < nx) (toS sl en) g w (fun _ => False) (.tup []) [(n, some (.fnest true sz (F l)))] (.tuple #[]) w' g' := by
   refine did_of R (fun k => k = n) (fun k _ hd => hfe k hd) (fun k x hx => ?_) (fun k _ hd => ⟨rfl, rfl, fun i => by simp only [g']; rw [if_neg hd], fun i => by simp only [g']; rw [if_neg hd]⟩)
    (fun b k r hb ho hd => ⟨rfl, hfr.block b hb fun h => ?_⟩) (fun b hb ho => ⟨ho, hfr.block b hb fun h => ?_⟩)
    ⟨hfr.os, hfr.tape, hfr.output, hfr.size⟩ (fun b k hb => Nat.lt_of_lt_of_le (R.bound b k hb) hfr.size) (fun b k r hb => .inl (R.label b k r hb)) (fun k hk hd => ?_) (fun k x hx hd => ?_) (fun _ => ⟨#[], rfl, rfl, fun i a b h => by simp at h⟩)
   ·by_cases hkn : k = n
    ·subst hkn; exact .inl hmn
    ·rw [hfe k hkn] at hx; exact .inl (R.me k x hx).1
   ·have h : g.own b = some (n, none) := h;rw [ho] at h; injection h with h; injection h with h _; exact hd h
   ·have h : g.own b = some (n, none) := h;rw [ho] at h; simp at h
   ·subst hd;refine ⟨rfl, rfl, fun p hp => ?_, fun r ver L sz' hv hr => ?_, fun ver hv => ?_⟩
    ·simp only [lenSz, hfn, hlen] at hp;simp only [lenSz, he'];exact hp
    ·obtain ⟨_, _, _, _, _, h, _⟩ := hr; rw [hfn] at h; simp at h
    ·intro q1 q2 q3 q4 q5 hx; rw [hfn] at hx; simp at hx
   ·by_cases hkn : k = n
    ·subst hkn;rw [hfn] at hx; injection hx with hx; subst hx
     show NestOk w' g.own (some (k, none)) (fun _ => none) (g'.base k) (g'.cap k) (g'.rbase k) (g'.rcap k) sz (F l) []
     have e1 : g'.base k = g.base k := rfl;have e2 : g'.cap k = g.cap k := rfl;have e3 : g'.rbase k = fun i => g.rbase k (s i) := by funext i; simp [g']
     have e4 : g'.rcap k = fun i => g.rcap k (s i) := by funext i; simp [g']
     rw [e1, e2, e3, e4];refine ⟨by rw [hlen]; exact hok.fits, hok.pos, fun i fl hi => ?_, fun i fl hi _ => ?_, fun _ => ?_⟩
     ·obtain ⟨ad, q1, q2⟩ := hhd i fl hi;obtain ⟨ad', z, p1, p2, p3, p4⟩ := hok.head _ _ (hrw i fl hi);rw [q1] at p1; injection p1 with p1; subst p1
      exact ⟨ad, _, q1, p2, q2, fun _ => rfl⟩
     ·refine (hok.row (s i) fl (hrw i fl hi) (by simp)).mono (fun h => h) fun b hb ho => ⟨ho, hfr.block b hb fun h => ?_⟩
      have h : g.own b = some (k, none) := h;rw [ho] at h; simp at h
     ·exact hroom
    ·rw [hfe k hkn] at hx;exact absurd (hd (R.me k x hx).1) hkn
  have R2 := Did.rel R hd (d := none) (u' := .tuple #[]) (fun t h => by simp at h) (fun _ => rfl) (fun k hk => by
   simp [names3, namesL2, namesW, namesE] at hk;subst hk; exact .inl (R.me _ _ he').1)
  have hS := toS_put sl en none (.tup []) [(n, some (.fnest true sz (F l)))];refine ⟨.tup [], _, sl, _, _, g', rfl, hK, ⟨#[], rfl, rfl, fun i a b h => by simp at h⟩, fun k hk => by simp [names3, namesL2] at hk, ?_⟩;rw [show toS sl ((n, some (.fnest true sz (F l))) :: en) = (toS sl en).put none (.tup []) [(n, some (.fnest true sz (F l)))] from hS];exact R2.wider fun k hk => by rcases hk with hk | hk <;> first | exact hk | exact hk.elim
 ·exact h.elim
end
end Go.Sh
namespace Go.Sh
variable [Fwd]
def SeqCall (P : Program) (f c sz : Nat) (pre : Flat -> Prop) (F : Flat -> Flat) : Prop :=
 (∃ fn, P.funcs[f]? = some fn /\ fn.name ≠ "runtime.NumGoroutine" /\ fn.body ≠ none) /\
 ∀ l, pre l -> ∀ (w : World) (b : Nat) (arr : Array Value) (T : TypeId) (A : Option Addr) (cap : Nat), w.heap[b]? = some (.cells arr T (0, 0)) -> arr.toList = [.slice A l.length cap] -> FlatOk w noLab none A cap sz l ->
  Calls P f #[.func (.func c) #[] #[.pointer (some ⟨b, 0, none⟩)]] w fun e w' => ∃ u, e = .returned u /\ Frm (fun _ => False) w w' /\ newOut w w' u (some (sz, F l))
def seqCR (f0 c0 sz : Nat) (pre : Flat -> Prop) (F : Flat -> Flat) : CallR := fun f vs K sl en nx => f = f0 /\ match vs with
 | [.fn c [.ptr n 0]] => c = c0 /\ ∃ m own l, cellIs en n (.sl m none none) /\ lk en m = some (some (.flat own sz l)) /\ pre l /\ newK (some (sz, F l)) K sl en nx
 | _ => False
section
variable {P : Program} {X : Cx} {O0 : Nat -> Prop} {w0 : Base} {nt : Nat} {s : S} {g : G} {a : Act} {w w' : World} {sl : Sl} {en : En} {nx : Nat} {cr : CallR}
theorem seq_ok {f c sz : Nat} {pre : Flat -> Prop} {F : Flat -> Flat} (hF : SeqCall P f c sz pre F) : CrOk P (seqCR f c sz pre F) := by
 intro f' vs K sl en nx h O0 w0 nt g a w us R hus hn
 obtain ⟨rfl, h⟩ := h
 refine ⟨hF.1, ?_⟩
 split at h
 ·rename_i c' n;obtain ⟨rfl, m, own, l, hc1, hm, hp, hK⟩ := h;have fe : ∀ {n e}, lk en n = some (some e) -> (toS sl en).fe n = some e := fun h => by simp [toS, h]
  obtain ⟨b1, hb1, rfl⟩ : ∃ b1, g.base n = some b1 /\ us = [.func (.func c') #[] #[.pointer (some b1)]] := by
   match us, hus with
   | [u1], hus =>
    obtain ⟨cs, hc, hc2⟩ : VR3 (toS sl en) g (.fn c' [.ptr n 0]) u1 := hus.2 0 _ _ rfl rfl
    match hcl : cs.toList, hc2 with
    | [v1], hc2 =>
     obtain ⟨b1, hb1, e1⟩ := (hc2.2 0 _ v1 rfl rfl : VR1 (toS sl en) g (.ptr n 0) v1);have : cs = #[v1] := by apply Array.ext'; simpa using hcl
     subst this;refine ⟨⟨b1, 0, none⟩, hb1, ?_⟩;rw [hc, e1]
    | [], hc2 => exact absurd hc2.1 (by simp)
    | _ :: _ :: _, hc2 => exact absurd hc2.1 (by simp)
   | [], hus => exact absurd hus.1 (by simp)
   | _ :: _ :: _, hus => exact absurd hus.1 (by simp)
  have key : ∀ {arr : Array Value} {T : TypeId} {b : Nat}, g.base n = some ⟨b, 0, none⟩ -> w.heap[b]? = some (.cells arr T (0, 0)) -> All2 (VR1 (toS sl en) g) [.sl m none none] arr.toList -> ∃ b arr T, b1 = ⟨b, 0, none⟩ /\ w.heap[b]? = some (.cells arr T (0, 0)) /\ ∃ q, arr.toList = [q] /\ VR1 (toS sl en) g (.sl m none none) q := by
   intro arr T b hA hh hl;rw [hb1] at hA;injection hA with hA
   obtain ⟨q, hq⟩ : ∃ q, arr.toList = [q] := List.length_eq_one_iff.1 (by rw [<- hl.1]; rfl);exact ⟨b, arr, T, hA, hh, q, hq, hl.2 0 _ _ rfl (by rw [hq]; rfl)⟩
  obtain ⟨b, arr, T, rfl, e1, q, hq, hv⟩ : ∃ b arr T, b1 = ⟨b, 0, none⟩ /\ w.heap[b]? = some (.cells arr T (0, 0)) /\ ∃ q, arr.toList = [q] /\ VR1 (toS sl en) g (.sl m none none) q := by
   rcases hc1 with h | h
   ·obtain ⟨b, arr, T, hA, _, hh, hl⟩ := R.ents _ _ (fe h); exact key hA hh hl
   ·obtain ⟨b, arr, T, hA, _, hh, hl⟩ := R.ents _ _ (fe h); exact key hA hh hl
  obtain ⟨A, len, cap, rfl, hsub⟩ := hv;obtain ⟨q1, q2, q3⟩ := hsub _ _ (show lenSz (toS sl en) m = some (l.length, sz) by simp [lenSz, fe hm]);subst q1; subst q3; subst q2
  have hok : FlatOk w g.own (if own then some (m, none) else none) (g.base m) (g.cap m) sz l := R.ents m _ (fe hm);exact new_core R (hF.2 l hp w b arr T _ _ e1 hq hok.ro) hK
 ·exact h.elim
end
end Go.Sh
namespace Go.Sh
variable [Fwd]
section
variable {P : Program} {X : Cx} {O0 : Nat -> Prop} {w0 : Base} {nt : Nat} {s : S} {g : G} {a : Act} {w w' : World} {sl : Sl} {en : En} {nx : Nat} {cr : CallR}
end
end Go.Sh
