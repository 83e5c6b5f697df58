/- What the functions answer that the statement reaches. No condition. -/
import Derived.Test.YthdaaiafakijdaaFn2
import Derived.Test.YthdaaiafakijdaaRows
set_option linter.unusedVariables false
set_option linter.unusedSimpArgs false
set_option linter.unusedSectionVars false
namespace Go.Sh
open Go.Proofs
def indG (n : Int) (E : List Ed) (l : List Int) : (Int × List Ed) × Int :=
 if RightP n E then (if ∀ v ∈ l, 0 <= v /\ v < n then (if l.Nodup then indR (l.length : Nat) (placeF n.toNat l) E else ((0, []), 1)) else ((0, []), 4)) else ((0, []), 1)
noncomputable def IndC : Con := conP 2 (fun a : (Int × List Ed) × List Int => a.2.length <= 1000) (fun a => [grV a.1.1 a.1.2, .one (.flat false 1 (ints a.2))]) (fun a => .tup [grO (indG a.1.1 a.1.2 a.2).1.1 (indG a.1.1 a.1.2 a.2).1.2, .one (.s (.i .i64 (indG a.1.1 a.1.2 a.2).2))])
theorem IndC_at {n : Int} {E : List Ed} {l : List Int} (h : l.length <= 1000) : IndC.F [grV n E, .one (.flat false 1 (ints l))] = some (.tup [grO (indG n E l).1.1 (indG n E l).1.2, .one (.s (.i .i64 (indG n E l).2))], []) :=
 conP_at (a := ((n, E), l)) (fun x y _ _ h => by
  obtain ⟨⟨n, E⟩, l⟩ := x;obtain ⟨⟨n', E'⟩, l'⟩ := y;simp at h;obtain ⟨h1, h2⟩ := h;obtain ⟨rfl, rfl⟩ := grV_inj h1;rw [ints_inj h2]) h
noncomputable def XInd : Cx := { Γ := [(42, RightC)], T := T, nt := Try.f17.ntmps, ext := [44], base := renCR 44 43 IndP indV }
theorem XInd_s : Sound Try.prog T XInd.Γ := sound_cons RightG_ok sound_nil
theorem XInd_ok : CrOk Try.prog (callAt 1 XInd) := callAt_ok hmix hT XInd_s inl_nil (ren_ok Ren_call) 1
set_option maxRecDepth 200000 in
set_option maxHeartbeats 4000000 in
theorem Ind_ok : SoundC Try.prog T 17 IndC := by
 refine sound_con (X := XInd) (cr := callAt 1 XInd) XInd_ok hmix hT XInd_s Try.func17 (by rfl) (by rfl) (by rfl) (by rfl) 3 ?_
 rintro ⟨⟨n, E⟩, l⟩ hl
 dsimp only at hl ⊢
 refine two_le ?_
 refine Call.by _ _ (RightC_at n E) ?_
 refine Pick.by (fun h1 => ?_) (fun h1 => ?_)
 ·have h1 : ¬ RightP n E := by have h1 : (!decide (RightP n E)) = true := h1; simpa using h1
  rw [show indG n E l = ((0, []), 1) from if_neg h1];refine ⟨rfl, ?_⟩
  (repeat' first|exact rfl|exact trivial|apply And.intro)
 have h1 : RightP n E := by have h1 : (!decide (RightP n E)) = false := h1; simpa using h1
 have hn0 := h1.1
 have hn1 := h1.2.1
 have hel := h1.2.2.1
 have hll := qiq l
 have hI : indG n E l = if ∀ v ∈ l, 0 <= v /\ v < n then (if l.Nodup then indR (l.length : Nat) (placeF n.toNat l) E else ((0, []), 1)) else ((0, []), 4) := if_pos h1
 refine Pick.T (beq_self_eq_true _) ?_
 refine Idx.by n.toNat (by omega) (by omega) ?_
 refine LoopP.intro (α := Nat × List Int × Bool) (fun a => a.1 <= l.length /\ a.2.1.length = n.toNat /\ (∀ v ∈ l.take a.1, 0 <= v /\ v < n) /\ (∀ v : Int, 0 <= v -> v < n -> 0 <= a.2.1.getD v.toNat 0 /\ a.2.1.getD v.toNat 0 <= 1000 /\ (0 < a.2.1.getD v.toNat 0 ↔ v ∈ l.take a.1)) /\ (a.2.2 = false -> (l.take a.1).Nodup /\ a.2.1 = placeF n.toNat (l.take a.1)) /\ (a.2.2 = true -> ¬ (l.take a.1).Nodup)) (fun a => l.length - a.1)
  (fun a => [(1, .sl 0 none none), (2, .ptr 1 0), (4, .ptr 3 0), (6, .ptr 4 0), (7, .s (.b a.2.2)), (17, .sl 0 none none), (18, .s (.i .i64 l.length)), (19, .s (.i .i64 a.1))])
  (fun a => [(0, some (.flat false 1 (ints l))), (1, some (.blk [.s (.i .i64 n), .sl 2 none none])), (2, some (.flat false 2 (edges E))), (3, some (.blk [.s (.i .i64 0), .nils])), (4, some (.blk [.sl 5 none none])), (5, some (.flat true 1 (ints a.2.1)))]) 6 (0, placeF n.toNat [], false)
  ⟨by omega, placeF_len, by simp, fun v h0 h1 => by rw [placeF_at h0 (by omega)]; simp, fun _ => ⟨by simp, by simp⟩, by simp⟩ (by refine Weak.bw (sg 0 [_,_,_,_,_,_]) (by ((repeat' first|exact rfl|exact trivial|apply And.intro) <;> (repeat' first|exact rfl|exact trivial|apply And.intro)); all_goals ((first|exact sc_eq (by rw [hll]) | exact placeF_zero.symm | exact placeF_zero)))) ?_
 rintro ⟨i, P, tw⟩ ⟨hi, hP, hrg, hpv, hno, hyes⟩
 dsimp only at hi hP hrg hpv hno hyes ⊢
 have hPl : (ints P).length = n.toNat := by rw [qiq, hP]
 refine Pick.by (fun hc => ?_) (fun hc => ?_)
 ·have hlt : i < l.length := by have := of_decide_eq_true hc; omega
  obtain ⟨v, hv⟩ : ∃ v, l[i] = v := ⟨_, rfl⟩;have hli : l[i]? = some v := by rw [qEq hlt, hv]
  have hvm := qMq hli;have hts : l.take (i + 1) = l.take i ++ [v] := by rw [List.take_add_one, hli]; rfl
  refine Idx.by i rfl (by omega) ?_;refine Look.by _ (qhq hli) ?_;refine Pick.by (fun c1 => ?_) (fun c1 => ?_)
  ·have c1 : v < 0 := of_decide_eq_true c1;rw [show indG n E l = ((0, []), 4) by rw [hI, if_neg (fun h => by have := h v hvm; omega)]];refine ⟨rfl, ?_⟩
   (repeat' first|exact rfl|exact trivial|apply And.intro)
  have c1 : ¬ v < 0 := of_decide_eq_false c1;refine Pick.by (fun c2 => ?_) (fun c2 => ?_)
  ·have c2 : v ≥ n := of_decide_eq_true c2;rw [show indG n E l = ((0, []), 4) by rw [hI, if_neg (fun h => by have := h v hvm; omega)]];refine ⟨rfl, ?_⟩
   (repeat' first|exact rfl|exact trivial|apply And.intro)
  have c2 : ¬ v ≥ n := of_decide_eq_false c2;have hvg := hpv v (by omega) (by omega);have hPg : (ints P)[v.toNat]? = some [.i .i64 (P.getD v.toNat 0)] := qhq (by rw [qDq, qEq (by omega)]; rfl);have hset : ints (P.set v.toNat ((i : Int) + 1)) = (ints P).set v.toNat [.i .i64 ((i : Int) + 1)] := ints_set ..;have hrg2 : ∀ u ∈ l.take (i + 1), 0 <= u /\ u < n := fun u hu => by
   rw [hts] at hu;rcases List.mem_append.1 hu with hu | hu
   ·exact hrg u hu
   ·rw [List.mem_singleton] at hu; subst hu; omega
  have hpv2 : ∀ u : Int, 0 <= u -> u < n -> 0 <= (P.set v.toNat ((i : Int) + 1)).getD u.toNat 0 /\ (P.set v.toNat ((i : Int) + 1)).getD u.toNat 0 <= 1000 /\ (0 < (P.set v.toNat ((i : Int) + 1)).getD u.toNat 0 ↔ u ∈ l.take (i + 1)) := fun u h0 h2 => by
   rw [hts, List.mem_append, List.mem_singleton, qDq, List.getElem?_set];by_cases e : v.toNat = u.toNat
   ·rw [if_pos e, if_pos (by omega)];have : u = v := by omega
    refine ⟨by show (0 : Int) <= (i : Int) + 1; omega, by show (i : Int) + 1 <= 1000; omega, fun _ => .inr this, fun _ => by show (0 : Int) < (i : Int) + 1; omega⟩
   ·rw [if_neg e, <- qDq];have hu := hpv u h0 h2;have : u ≠ v := fun h => e (by rw [h])
    exact ⟨hu.1, hu.2.1, by rw [hu.2.2]; exact ⟨.inl, fun h => h.resolve_right this⟩⟩
  cases tw with
  | true =>
   have hd := hyes rfl;refine Pick.n ?_;refine Idx.by v.toNat (by omega) (by omega) ?_;refine Look.by _ hPg ?_;refine Pick.n ?_;refine Next.by (i + 1, P.set v.toNat ((i : Int) + 1), true) ⟨by show i + 1 <= _; omega, by show (List.set _ _ _).length = _; rw [List.length_set]; exact hP, hrg2, hpv2, by simp, fun _ => fun h => hd (h.sublist (List.take_sublist_take_left (by omega)))⟩ (by show l.length - (i + 1) < l.length - i; omega) (by refine Weak.bw (sg 0 [_,_,_,_,_,_]) (by ((repeat' first|exact rfl|exact trivial|apply And.intro) <;> (repeat' first|exact rfl|exact trivial|apply And.intro)); all_goals ((first|exact sc_eq (by show ((i + 1 : Nat) : Int) = _; omega) | exact hset))))
  | false =>
   obtain ⟨hd, hPe⟩ := hno rfl;refine Idx.by v.toNat (by omega) (by omega) ?_;refine Look.by _ hPg ?_;refine Pick.n ?_;refine Idx.by v.toNat (by omega) (by omega) ?_;refine Look.by _ hPg ?_;refine Pick.n ?_;by_cases c3 : P.getD v.toNat 0 > 0
   ·have hm := hvg.2.2.1 c3;have hnd : ¬ (l.take (i + 1)).Nodup := fun h => by
     rw [hts, List.nodup_append] at h;exact h.2.2 v hm v (by simp) rfl
    refine Next.by (i + 1, P.set v.toNat ((i : Int) + 1), true) ⟨by show i + 1 <= _; omega, by show (List.set _ _ _).length = _; rw [List.length_set]; exact hP, hrg2, hpv2, by simp, fun _ => hnd⟩ (by show l.length - (i + 1) < l.length - i; omega) (by refine Weak.bw (sg 0 [_,_,_,_,_,_]) (by ((repeat' first|exact rfl|exact trivial|apply And.intro) <;> (repeat' first|exact rfl|exact trivial|apply And.intro)); all_goals ((first|exact sc_eq (by show ((i + 1 : Nat) : Int) = _; omega) | exact hset | (rw [decide_eq_true c3]; rfl)))))
   ·have hm : v ∉ l.take i := fun h => c3 (hvg.2.2.2 h)
    have hnd : (l.take (i + 1)).Nodup := by
     rw [hts];refine List.nodup_append.2 ⟨hd, by simp, fun a ha b hb => ?_⟩;simp at hb;subst hb;rintro rfl;exact hm ha
    have hpe2 : P.set v.toNat ((i : Int) + 1) = placeF n.toNat (l.take (i + 1)) := by
     rw [hts, placeF_snoc (by omega) (by omega) hm, <- hPe, List.length_take, show min i l.length = i by omega]
    refine Next.by (i + 1, P.set v.toNat ((i : Int) + 1), false) ⟨by show i + 1 <= _; omega, by show (List.set _ _ _).length = _; rw [List.length_set]; exact hP, hrg2, hpv2, fun _ => ⟨hnd, hpe2⟩, by simp⟩ (by show l.length - (i + 1) < l.length - i; omega) (by refine Weak.bw (sg 0 [_,_,_,_,_,_]) (by ((repeat' first|exact rfl|exact trivial|apply And.intro) <;> (repeat' first|exact rfl|exact trivial|apply And.intro)); all_goals ((first|exact sc_eq (by show ((i + 1 : Nat) : Int) = _; omega) | exact hset | (rw [decide_eq_false c3]; rfl)))))
 have hil : i = l.length := by have := of_decide_eq_false hc; omega
 subst hil
 rw [List.take_length] at hrg hpv hno hyes
 rw [if_pos hrg] at hI
 cases tw with
 | true =>
  rw [show indG n E l = ((0, []), 1) by rw [hI, if_neg (hyes rfl)]];refine ⟨rfl, ?_⟩
  (repeat' first|exact rfl|exact trivial|apply And.intro)
 | false =>
  obtain ⟨hd, hPe⟩ := hno rfl;rw [if_pos hd] at hI;have hV : indV ((ints l).length : Nat) n (ints P) (edges E) = ((indG n E l).1.1, edges (indG n E l).1.2, (indG n E l).2) := by
   unfold indV;rw [hll, unI_ints, unE_edges, hPe, <- hI]
  refine ⟨rfl, rfl, _, _, _, _, _, .inl rfl, rfl, rfl, ⟨P, E, rfl, rfl, hel, hn1, h1.2.2.2.1, by omega, fun x hx => ?_⟩, ?_⟩
  ·obtain ⟨j, hj, rfl⟩ := List.getElem_of_mem hx;have := hpv (j : Int) (by omega) (by omega);rw [Int.toNat_natCast, qDq, qEq hj] at this;have h2 : 0 <= P[j] /\ P[j] <= 1000 := ⟨this.1, this.2.1⟩;omega
  ·rw [hV];refine ⟨rfl, ?_⟩
   (repeat' first|exact rfl|exact trivial|apply And.intro)
theorem near_there {N : List (List Int)} {G : List Bool} (h : Wf N G) {v x : Int} (hv : 0 <= v) (hx : x ∈ rowAt N v) : 0 <= x /\ x < N.length /\ goneAt G x = false := by
 have hr := (h.rows v).2 x hx
 refine ⟨hr.1, hr.2, ?_⟩
 cases hg : goneAt G x with
 | false => rfl
 | true =>
  have h2 := h.sym v x hv hr.1 hx;rw [h.gone x hr.1 hg] at h2; simp at h2
theorem leftF_length (G : List Bool) : (leftF G).length = live G := by
 unfold leftF live
 rw [List.length_map, <- List.countP_eq_length_filter]
 have e : G = (List.range G.length).map fun v => G.getD v false := by
  apply List.ext_getElem?
  intro i;rw [List.getElem?_map];by_cases hi : i < G.length
  ·rw [List.getElem?_range hi, Option.map_some, qDq, qEq hi]; rfl
  ·rw [List.getElem?_eq_none (by omega), List.getElem?_eq_none (by simp; omega)]; rfl
 conv => rhs; rw [e]
 rw [List.countP_map]; rfl
structure Core (N : List (List Int)) (G : List Bool) : Prop where
 wf : Wf N G
 no : ∀ u, mayB N G u = false
theorem Core.three {N : List (List Int)} {G : List Bool} (h : Core N G) {v : Int} (h0 : 0 <= v) (h1 : v < N.length) (hg : goneAt G v = false) : 3 <= (rowAt N v).length := by
 have := h.no v
 by_cases hl : (rowAt N v).length <= 2
 ·rw [mayB_iff.2 ⟨h0, h1, hg, hl⟩] at this; cases this
 ·omega
theorem Core.four {N : List (List Int)} {G : List Bool} (h : Core N G) (hl : leftF G ≠ []) : 4 <= (leftF G).length := by
 obtain ⟨v, hv⟩ := List.exists_mem_of_ne_nil _ hl
 obtain ⟨h0, h1, hg⟩ := mem_leftF.1 hv
 rw [h.wf.len] at h1
 have h3 := h.three h0 h1 hg
 have hnd : (v :: rowAt N v).Nodup := List.nodup_cons.2 ⟨h.wf.irr v h0, (h.wf.rows v).1.imp fun hab => by omega⟩
 have := nodup_lenG (m := leftF G) hnd fun x hx => by
  rcases List.mem_cons.1 hx with e | hx
  ·rw [e]; exact hv
  ·obtain ⟨x0, x1, xg⟩ := near_there h.wf h0 hx;exact mem_leftF.2 ⟨x0, by rw [h.wf.len]; exact x1, xg⟩
 simp only [List.length_cons] at this
 omega
theorem core_run {n : Int} {E : List Ed} (hR : RightP n E) : Core (runR n E).2.1 (runR n E).2.2 /\ (runR n E).2.1.length = n.toNat /\ (runR n E).1.length + (leftF (runR n E).2.2).length = n.toNat := by
 have hW := begin_wf hR
 have hl : live (List.replicate n.toNat false) <= n.toNat := by rw [live_zero]; omega
 obtain ⟨h1, h2, h3⟩ := runS_wf n.toNat hW
 have hc := run_count (f := n.toNat) hW
 rw [live_zero] at hc
 exact ⟨⟨h1, run_end hW hl⟩, by rw [show (runR n E).2.1.length = _ from h2, nbrs_length], by rw [leftF_length]; exact hc⟩
end Go.Sh
namespace Go.Sh
def up1 (v i : Nat) : Nat := if i < v then i else i + 1
def lessX (x v : Nat) : Nat := (x &&& (2 ^ v - 1)) ||| ((x >>> (v + 1)) <<< v)
theorem lessX_bit (x v i : Nat) : (lessX x v).testBit i = x.testBit (up1 v i) := by
 unfold lessX up1
 rw [Nat.testBit_or, Nat.testBit_and, Nat.testBit_two_pow_sub_one, Nat.testBit_shiftLeft, Nat.testBit_shiftRight]
 by_cases h : i < v
 ·rw [if_pos h];have : ¬ i ≥ v := by omega
  simp [h, this]
 ·rw [if_neg h];have : i ≥ v := by omega
  simp [h, this]
  congr 1
  omega
def lessL (r : List Nat) (v : Nat) : List Nat := (r.eraseIdx v).map (lessX · v)
def offX (x y : Nat) : Nat := x ^^^ (x &&& y)
def mergeX (r : List Nat) (a b i x : Nat) : Nat := if i = a then offX (r.getD a 0 ||| r.getD b 0) (2 ^ a ||| 2 ^ b) else if x.testBit b then x ||| 2 ^ a else x
def mergeL (r : List Nat) (a b : Nat) : List Nat := (List.range r.length).map fun i => mergeX r a b i (r.getD i 0)
def mergedL (r : List Nat) (a b : Nat) : List Nat := lessL (mergeL r a b) b
def bitL (r : List Nat) (a b : Nat) : Bool := (r.getD a 0).testBit b
def isB (r : List Nat) (p q : Nat) : Bool := (r.getD p 0 &&& offX 31 (2 ^ p ||| 2 ^ q) == offX 31 (2 ^ p ||| 2 ^ q)) && (r.getD q 0 &&& offX 31 (2 ^ p ||| 2 ^ q) == offX 31 (2 ^ p ||| 2 ^ q))
def isL (r : List Nat) (k : Int) : Bool :=
 if k = 1 then (r.getD 0 0 ||| 1 == 15) && (r.getD 1 0 ||| 2 == 15) && (r.getD 2 0 ||| 4 == 15) && (r.getD 3 0 ||| 8 == 15)
 else (List.range 5).any fun p => (List.range p).any fun q => isB r p q
def sizeN (k : Int) : Nat := (patG k).1.toNat
def comesL : Nat -> List Nat -> Int -> Bool
 | 0, r, k => decide (r.length = sizeN k) && isL r k
 | f + 1, r, k => if r.length <= sizeN k then decide (r.length = sizeN k) && isL r k else
  ((List.range r.length).any fun a => (List.range r.length).any fun b => decide (a < b) && (bitL r a b && comesL f (mergedL r a b) k)) || (List.range r.length).any fun v => comesL f (lessL r v) k
def hasL (r : List Nat) (k : Int) : Bool := comesL r.length r k
theorem lessL_length {r : List Nat} {v : Nat} (h : v < r.length) : (lessL r v).length = r.length - 1 := by
 unfold lessL
 rw [List.length_map, List.length_eraseIdx_of_lt h]
theorem mergeL_length (r : List Nat) (a b : Nat) : (mergeL r a b).length = r.length := by simp [mergeL]
theorem mergedL_length {r : List Nat} {a b : Nat} (h : b < r.length) : (mergedL r a b).length = r.length - 1 := by
 unfold mergedL
 rw [lessL_length (by rw [mergeL_length]; exact h), mergeL_length]
theorem up1_ne (v i : Nat) : up1 v i ≠ v := by unfold up1; split <;> omega
theorem up1_lt {v i n : Nat} (h : i < n - 1) : up1 v i < n := by unfold up1; split <;> omega
def dn1 (v i : Nat) : Nat := if i < v then i else i - 1
theorem up_dn {v i : Nat} (h : i ≠ v) : up1 v (dn1 v i) = i := by
 unfold up1 dn1
 by_cases h1 : i < v
 ·rw [if_pos h1, if_pos h1]
 ·rw [if_neg h1, if_neg (by omega)]; omega
theorem dn_lt {v i n : Nat} (h : i ≠ v) (hv : v < n) (hi : i < n) : dn1 v i < n - 1 := by unfold dn1; split <;> omega
theorem up_inj {v i j : Nat} (h : up1 v i = up1 v j) : i = j := by unfold up1 at h; split at h <;> split at h <;> omega
theorem lessL_getD (r : List Nat) (v i : Nat) : (lessL r v).getD i 0 = lessX (r.getD (up1 v i) 0) v := by
 have z : lessX 0 v = 0 := by simp [lessX]
 unfold lessL up1
 rw [qDq, List.getElem?_map, List.getElem?_eraseIdx, qDq]
 split
 ·cases r[i]? with
  | none => simp [z]
  | some x => simp
 ·cases r[i + 1]? with
  | none => simp [z]
  | some x => simp
theorem bit_less (r : List Nat) (v i j : Nat) : bitL (lessL r v) i j = bitL r (up1 v i) (up1 v j) := by
 unfold bitL
 rw [lessL_getD, lessX_bit]
structure Sq (r : List Nat) : Prop where
 bnd : ∀ a b, bitL r a b = true -> b < r.length
 sym : ∀ a b, bitL r a b = true -> bitL r b a = true
 irr : ∀ a, bitL r a a = false
theorem Sq.lt {r : List Nat} (h : Sq r) {a b : Nat} (hb : bitL r a b = true) : a < r.length := h.bnd _ _ (h.sym _ _ hb)
theorem off_bit (x y j : Nat) : (offX x y).testBit j = (x.testBit j && !y.testBit j) := by
 unfold offX
 rw [Nat.testBit_xor, Nat.testBit_and]
 cases x.testBit j <;> cases y.testBit j <;> rfl
theorem off2_bit (x a b j : Nat) : (offX x (2 ^ a ||| 2 ^ b)).testBit j = true ↔ x.testBit j = true /\ j ≠ a /\ j ≠ b := by
 rw [off_bit, Nat.testBit_or, Nat.testBit_two_pow, Nat.testBit_two_pow]
 simp only [Bool.and_eq_true, Bool.not_eq_true', Bool.or_eq_false_iff, decide_eq_false_iff_not]
 constructor
 ·rintro ⟨h1, h2, h3⟩; exact ⟨h1, fun e => h2 e.symm, fun e => h3 e.symm⟩
 ·rintro ⟨h1, h2, h3⟩; exact ⟨h1, fun e => h2 e.symm, fun e => h3 e.symm⟩
theorem mergeL_getD (r : List Nat) (a b i : Nat) (h : i < r.length) : (mergeL r a b).getD i 0 = mergeX r a b i (r.getD i 0) := by
 unfold mergeL
 rw [qDq, List.getElem?_map, List.getElem?_range h]; rfl
theorem getD_out {r : List Nat} {i : Nat} (h : ¬ i < r.length) : r.getD i 0 = 0 := by
 rw [qDq, List.getElem?_eq_none (by omega)]; rfl
theorem bit_merge {r : List Nat} {a b i j : Nat} (h : i < r.length) : bitL (mergeL r a b) i j = true ↔ (i = a /\ (bitL r a j = true \/ bitL r b j = true) /\ j ≠ a /\ j ≠ b) \/ (i ≠ a /\ (bitL r i j = true \/ (bitL r i b = true /\ j = a))) := by
 unfold bitL
 rw [mergeL_getD _ _ _ _ h]
 unfold mergeX
 by_cases ha : i = a
 ·rw [if_pos ha, off2_bit, Nat.testBit_or];simp [ha]
 ·rw [if_neg ha];split
  ·rename_i hb;rw [Nat.testBit_or, Nat.testBit_two_pow];simp only [Bool.or_eq_true, decide_eq_true_eq, ha, false_and, false_or, not_false_eq_true, true_and, hb, ne_eq];constructor
   ·rintro (h | h)
    ·exact .inl h
    ·exact .inr h.symm
   ·rintro (h | h)
    ·exact .inl h
    ·exact .inr h.symm
  ·rename_i hb;constructor
   ·intro h2; exact .inr ⟨ha, .inl h2⟩
   ·rintro (⟨h2, _⟩ | ⟨_, h2 | ⟨h2, _⟩⟩)
    ·exact absurd h2 ha
    ·exact h2
    ·exact absurd h2 hb
def mAdj (r : List Nat) (a b x y : Nat) : Prop := (x = a /\ (bitL r a y = true \/ bitL r b y = true) /\ y ≠ a /\ y ≠ b) \/ (x ≠ a /\ (bitL r x y = true \/ (bitL r x b = true /\ y = a)))
theorem bit_merged {r : List Nat} {a b i j : Nat} (h : i < r.length - 1) : bitL (mergedL r a b) i j = true ↔ mAdj r a b (up1 b i) (up1 b j) := by
 unfold mergedL
 rw [bit_less, bit_merge (up1_lt h)]; rfl
theorem bit_len {r : List Nat} {a b : Nat} (h : bitL r a b = true) : a < r.length := by
 apply Classical.byContradiction
 intro hn
 unfold bitL at h
 rw [getD_out hn] at h
 simp at h
theorem Sq.less {r : List Nat} (h : Sq r) {v : Nat} (hv : v < r.length) : Sq (lessL r v) := by
 refine ⟨fun a b hb => ?_, fun a b hb => ?_, fun a => ?_⟩
 ·rw [bit_less] at hb;have := h.bnd _ _ hb;rw [lessL_length hv];unfold up1 at this;split at this <;> omega
 ·rw [bit_less] at hb ⊢; exact h.sym _ _ hb
 ·rw [bit_less]; exact h.irr _
theorem Sq.merged {r : List Nat} (h : Sq r) {a b : Nat} (ha : a < b) (hb : b < r.length) : Sq (mergedL r a b) := by
 have hl := mergedL_length (a := a) hb
 have key : ∀ i j, bitL (mergedL r a b) i j = true -> i < r.length - 1 /\ mAdj r a b (up1 b i) (up1 b j) := fun i j hij => by
  have hi := bit_len hij;rw [hl] at hi;exact ⟨hi, (bit_merged hi).1 hij⟩
 have sm : ∀ x y, x ≠ b -> y ≠ b -> mAdj r a b x y -> mAdj r a b y x := fun x y hx hy hm => by
  rcases hm with ⟨rfl, h1, h2, h3⟩ | ⟨h1, h2⟩
  ·refine .inr ⟨h2, ?_⟩;rcases h1 with h1 | h1
   ·exact .inl (h.sym _ _ h1)
   ·exact .inr ⟨h.sym _ _ h1, rfl⟩
  ·by_cases e : y = a
   ·subst e;refine .inl ⟨rfl, ?_, h1, hx⟩;rcases h2 with h2 | ⟨h2, _⟩
    ·exact .inl (h.sym _ _ h2)
    ·exact .inr (h.sym _ _ h2)
   ·refine .inr ⟨e, .inl ?_⟩;rcases h2 with h2 | ⟨_, h2⟩
    ·exact h.sym _ _ h2
    ·exact absurd h2 e
 have bd : ∀ i j, mAdj r a b (up1 b i) (up1 b j) -> j < r.length - 1 := fun i j hm => by
  have : up1 b j < r.length := by
   rcases hm with ⟨_, h1 | h1, _⟩ | ⟨_, h1 | ⟨_, h1⟩⟩
   ·exact h.bnd _ _ h1
   ·exact h.bnd _ _ h1
   ·exact h.bnd _ _ h1
   ·omega
  unfold up1 at this;split at this <;> omega
 refine ⟨fun i j hij => ?_, fun i j hij => ?_, fun i => ?_⟩
 ·rw [hl]; exact bd _ _ (key _ _ hij).2
 ·obtain ⟨hi, hm⟩ := key _ _ hij;exact (bit_merged (bd _ _ hm)).2 (sm _ _ (up1_ne _ _) (up1_ne _ _) hm)
 ·cases hc : bitL (mergedL r a b) i i with
  | false => rfl
  | true =>
   obtain ⟨hi, hm⟩ := key _ _ hc;rcases hm with ⟨h1, _, h2, _⟩ | ⟨h1, h2 | ⟨_, h2⟩⟩
   ·exact absurd h1 h2
   ·rw [h.irr] at h2; cases h2
   ·exact absurd h2 h1
structure Mod (r : List Nat) (m : Nat) (pat : List (Nat × Nat)) (c : Nat -> Nat) : Prop where
 some : ∀ i, i < m -> ∃ x, x < r.length /\ c x = i
 conn : ∀ i, i < m -> ∀ P : Nat -> Prop, (∃ x, x < r.length /\ c x = i /\ P x) -> (∀ x y, c x = i -> c y = i -> bitL r x y = true -> P x -> P y) -> ∀ x, x < r.length -> c x = i -> P x
 meet : ∀ q ∈ pat, ∃ x y, bitL r x y = true /\ c x = q.1 /\ c y = q.2
theorem Mod.less {r : List Nat} {m : Nat} {pat : List (Nat × Nat)} {c : Nat -> Nat} (h : Mod r m pat c) (hp : ∀ q ∈ pat, q.1 < m /\ q.2 < m /\ q.1 ≠ q.2) {v : Nat} (hv : v < r.length) (hc : m <= c v) : Mod (lessL r v) m pat fun i => c (up1 v i) := by
 have hl := lessL_length hv
 refine ⟨fun i hi => ?_, fun i hi P hP hcl x hx hcx => ?_, fun q hq => ?_⟩
 ·obtain ⟨x, h1, h2⟩ := h.some i hi;have hx : x ≠ v := fun e => by subst e; omega
  exact ⟨dn1 v x, by rw [hl]; exact dn_lt hx hv h1, by rw [up_dn hx]; exact h2⟩
 ·have := h.conn i hi (fun x => ∃ y, up1 v y = x /\ P y) ?_ ?_ (up1 v x) (by rw [hl] at hx; exact up1_lt hx) hcx
  ·obtain ⟨y, h1, h2⟩ := this;rw [<- up_inj h1]; exact h2
  ·obtain ⟨x, h1, h2, h3⟩ := hP;exact ⟨up1 v x, by rw [hl] at h1; exact up1_lt h1, h2, x, rfl, h3⟩
  ·rintro x y cx cy hb ⟨x', rfl, hPx⟩;have hy : y ≠ v := fun e => by subst e; omega
   refine ⟨dn1 v y, up_dn hy, hcl x' _ cx (by rw [up_dn hy]; exact cy) ?_ hPx⟩;rw [bit_less, up_dn hy]; exact hb
 ·obtain ⟨x, y, h1, h2, h3⟩ := h.meet q hq;have hx : x ≠ v := fun e => by subst e; have := hp q hq; omega
  have hy : y ≠ v := fun e => by subst e; have := hp q hq; omega
  exact ⟨dn1 v x, dn1 v y, by rw [bit_less, up_dn hx, up_dn hy]; exact h1, by rw [up_dn hx]; exact h2, by rw [up_dn hy]; exact h3⟩
def toM (a b x : Nat) : Nat := if x = b then a else dn1 b x
theorem Mod.merged {r : List Nat} {m : Nat} {pat : List (Nat × Nat)} {c : Nat -> Nat} (hs : Sq r) (h : Mod r m pat c) (hp : ∀ q ∈ pat, q.1 < m /\ q.2 < m /\ q.1 ≠ q.2) {a b : Nat} (ha : a < b) (hb : b < r.length) (hc : c a = c b) : Mod (mergedL r a b) m pat fun i => c (up1 b i) := by
 have hl := mergedL_length (a := a) hb
 have up_a : up1 b a = a := by unfold up1; rw [if_pos ha]
 have cT : ∀ x, c (up1 b (toM a b x)) = c x := fun x => by
  unfold toM;split
  ·rename_i e; rw [up_a, e, hc]
  ·rename_i e; rw [up_dn e]
 have lT : ∀ x, x < r.length -> toM a b x < r.length - 1 := fun x hx => by
  unfold toM;split
  ·omega
  ·rename_i e; exact dn_lt e hb hx
 have uT : ∀ x, toM a b (up1 b x) = x := fun x => by
  unfold toM;rw [if_neg (up1_ne _ _)];exact up_inj (up_dn (up1_ne _ _))
 have bT : ∀ x y, bitL r x y = true -> toM a b x = toM a b y \/ bitL (mergedL r a b) (toM a b x) (toM a b y) = true := fun x y hxy => by
  by_cases e : toM a b x = toM a b y
  ·exact .inl e
  refine .inr ((bit_merged (lT x (hs.lt hxy))).2 ?_);by_cases hx : x = b
  ·subst hx;have ex : up1 x (toM a x x) = a := by unfold toM; rw [if_pos rfl, up_a]
   have hy : y ≠ x := fun h => e (by rw [h])
   have ey : up1 x (toM a x y) = y := by unfold toM; rw [if_neg hy, up_dn hy]
   rw [ex, ey];refine .inl ⟨rfl, .inr hxy, fun h => e ?_, hy⟩;have : up1 x (toM a x x) = up1 x (toM a x y) := by rw [ex, ey, h]
   exact up_inj this
  ·have ex : up1 b (toM a b x) = x := by unfold toM; rw [if_neg hx, up_dn hx]
   by_cases hy : y = b
   ·subst hy;have ey : up1 y (toM a y y) = a := by unfold toM; rw [if_pos rfl, up_a]
    rw [ex, ey];refine .inr ⟨fun h => e ?_, .inr ⟨hxy, rfl⟩⟩;have : up1 y (toM a y x) = up1 y (toM a y y) := by rw [ex, ey, h]
    exact up_inj this
   ·have ey : up1 b (toM a b y) = y := by unfold toM; rw [if_neg hy, up_dn hy]
    rw [ex, ey];by_cases hxa : x = a
    ·subst hxa;refine .inl ⟨rfl, .inl hxy, fun h => ?_, hy⟩;rw [h, hs.irr] at hxy; cases hxy
    ·exact .inr ⟨hxa, .inl hxy⟩
 refine ⟨fun i hi => ?_, fun i hi P hP hcl x hx hcx => ?_, fun q hq => ?_⟩
 ·obtain ⟨x, h1, h2⟩ := h.some i hi;exact ⟨toM a b x, by rw [hl]; exact lT x h1, by rw [cT]; exact h2⟩
 ·have := h.conn i hi (fun x => P (toM a b x)) ?_ ?_ (up1 b x) (by rw [hl] at hx; exact up1_lt hx) hcx
  ·rwa [uT] at this
  ·obtain ⟨x, h1, h2, h3⟩ := hP;exact ⟨up1 b x, by rw [hl] at h1; exact up1_lt h1, h2, by rw [uT]; exact h3⟩
  ·intro x y cx cy hxy hPx;rcases bT x y hxy with e | e
   ·rw [<- e]; exact hPx
   ·exact hcl _ _ (by rw [cT]; exact cx) (by rw [cT]; exact cy) e hPx
 ·obtain ⟨x, y, h1, h2, h3⟩ := h.meet q hq;rcases bT x y h1 with e | e
  ·exfalso
   have := cT x;rw [e, cT, h2, h3] at this;exact (hp q hq).2.2 this.symm
  ·exact ⟨_, _, e, by rw [cT]; exact h2, by rw [cT]; exact h3⟩
theorem color_cover {n m : Nat} {c : Nat -> Nat} (h : ∀ i, i < m -> ∃ x, x < n /\ c x = i) : m <= n /\ (m = n -> ∀ x, x < n -> c x < n /\ ∀ y, y < n -> c x = c y -> x = y) := by
 obtain ⟨s, hs⟩ : ∃ s : Nat -> Nat, ∀ i, i < m -> s i < n /\ c (s i) = i := ⟨fun i => if hi : i < m then Classical.choose (h i hi) else 0, fun i hi => by
  dsimp only;rw [dif_pos hi]; exact Classical.choose_spec (h i hi)⟩
 have nd : ((List.range m).map s).Nodup := by
  refine List.pairwise_map.2 ((List.nodup_range (n := m)).imp_of_mem ?_);intro a b ha hb hne he;refine hne ?_;rw [<- (hs a (List.mem_range.1 ha)).2, he, (hs b (List.mem_range.1 hb)).2]
 have sub : ∀ x ∈ (List.range m).map s, x ∈ List.range n := fun x hx => by
  obtain ⟨i, hi, rfl⟩ := List.mem_map.1 hx;exact List.mem_range.2 (hs i (List.mem_range.1 hi)).1
 have hle := nodup_lenG nd sub
 rw [List.length_map, List.length_range, List.length_range] at hle
 refine ⟨hle, fun e x hx => ?_⟩
 have cov : ∀ x, x < n -> ∃ i, i < m /\ s i = x := fun x hx => Classical.byContradiction fun hn => by
  have : (x :: (List.range m).map s).Nodup := List.nodup_cons.2 ⟨fun hm => by
   obtain ⟨i, hi, e⟩ := List.mem_map.1 hm;exact hn ⟨i, List.mem_range.1 hi, e⟩, nd⟩
  have := nodup_lenG this (fun y hy => by
   rcases List.mem_cons.1 hy with rfl | hy
   ·exact List.mem_range.2 hx
   ·exact sub y hy)
  simp at this;omega
 obtain ⟨i, hi, rfl⟩ := cov x hx
 refine ⟨by rw [(hs i hi).2]; omega, fun y hy he => ?_⟩
 obtain ⟨j, hj, rfl⟩ := cov y hy
 rw [(hs i hi).2, (hs j hj).2] at he
 rw [he]
def patN (k : Int) : List (Nat × Nat) := (patG k).2.map fun q => (q.1.toNat, q.2.toNat)
theorem patN_one : sizeN 1 = 4 /\ patN 1 = [(0, 1), (0, 2), (0, 3), (1, 2), (1, 3), (2, 3)] := by decide
theorem patN_two : sizeN 2 = 5 /\ patN 2 = [(0, 2), (0, 3), (0, 4), (1, 2), (1, 3), (1, 4)] := by decide
theorem bit_or {r : List Nat} (hs : Sq r) {n i : Nat} (hl : r.length = n) (hi : i < n) (h : ∀ j, j < n -> j ≠ i -> bitL r i j = true) : r.getD i 0 ||| 2 ^ i = 2 ^ n - 1 := by
 apply Nat.eq_of_testBit_eq
 intro j
 rw [Nat.testBit_or, Nat.testBit_two_pow, Nat.testBit_two_pow_sub_one]
 by_cases hj : j < n
 ·by_cases e : i = j
  ·simp [e, hj]
  ·have := h j hj (fun e2 => e e2.symm);unfold bitL at this;rw [this]; simp [hj]
 ·have : (r.getD i 0).testBit j = false := by
   cases hc : (r.getD i 0).testBit j with
   | false => rfl
   | true => exact absurd (hs.bnd i j hc) (by omega)
  rw [this];have : i ≠ j := by omega
  simp [this, hj]
theorem isB_of {r : List Nat} {p q : Nat} (h : ∀ j, j < 5 -> j ≠ p -> j ≠ q -> bitL r p j = true /\ bitL r q j = true) : isB r p q = true := by
 have key : ∀ x : Nat, (∀ j, j < 5 -> j ≠ p -> j ≠ q -> x.testBit j = true) -> x &&& offX 31 (2 ^ p ||| 2 ^ q) = offX 31 (2 ^ p ||| 2 ^ q) := fun x hx => by
  apply Nat.eq_of_testBit_eq
  intro j;rw [Nat.testBit_and]
  cases hc : (offX 31 (2 ^ p ||| 2 ^ q)).testBit j with
  | false => simp
  | true =>
   obtain ⟨h1, h2, h3⟩ := (off2_bit _ _ _ _).1 hc;have : j < 5 := by
    apply Classical.byContradiction
    intro hn;have : (31 : Nat).testBit j = false := Nat.testBit_lt_two_pow (Nat.lt_of_lt_of_le (show 31 < 2 ^ 5 by omega) (Nat.pow_le_pow_right (by omega) (by omega)));rw [this] at h1; cases h1
   rw [hx j this h2 h3]; rfl
 unfold isB
 rw [key _ fun j h1 h2 h3 => (h j h1 h2 h3).1, key _ fun j h1 h2 h3 => (h j h1 h2 h3).2]
 simp
theorem mod_is {r : List Nat} {k : Int} {c : Nat -> Nat} (hk : k = 1 \/ k = 2) (hs : Sq r) (h : Mod r (sizeN k) (patN k) c) (hn : r.length = sizeN k) : isL r k = true := by
 obtain ⟨_, hcov0⟩ := color_cover (n := r.length) h.some
 have hcov := hcov0 hn.symm
 clear hcov0
 have pair : ∀ x y, x < r.length -> y < r.length -> (c x, c y) ∈ patN k \/ (c y, c x) ∈ patN k -> bitL r x y = true := fun x y hx hy hp => by
  rcases hp with hp | hp
  ·obtain ⟨x', y', h1, h2, h3⟩ := h.meet _ hp;rw [(hcov x hx).2 x' (hs.lt h1) h2.symm, (hcov y hy).2 y' (hs.bnd _ _ h1) h3.symm]; exact h1
  ·obtain ⟨y', x', h1, h2, h3⟩ := h.meet _ hp;rw [(hcov x hx).2 x' (hs.bnd _ _ h1) h3.symm, (hcov y hy).2 y' (hs.lt h1) h2.symm]; exact hs.sym _ _ h1
 rcases hk with rfl | rfl
 ·obtain ⟨e1, e2⟩ := patN_one;rw [e1] at hn;rw [e2] at pair;have adj : ∀ x y, x < 4 -> y < 4 -> y ≠ x -> bitL r x y = true := fun x y hx hy hne => by
   refine pair x y (by omega) (by omega) ?_;have a1 := (hcov x (by omega)).1;have a2 := (hcov y (by omega)).1;have a3 : c x ≠ c y := fun e => hne ((hcov x (by omega)).2 y (by omega) e).symm
   rw [hn] at a1 a2;generalize c x = u at *
   generalize c y = v at *
   have : ∀ u : Fin 4, ∀ v : Fin 4, u.val ≠ v.val -> (u.val, v.val) ∈ [(0, 1), (0, 2), (0, 3), (1, 2), (1, 3), (2, 3)] \/ (v.val, u.val) ∈ [(0, 1), (0, 2), (0, 3), (1, 2), (1, 3), (2, 3)] := by decide
   exact this ⟨u, a1⟩ ⟨v, a2⟩ a3
  have b0 := bit_or hs hn (show 0 < 4 by omega) fun j hj hne => adj 0 j (by omega) hj hne
  have b1 := bit_or hs hn (show 1 < 4 by omega) fun j hj hne => adj 1 j (by omega) hj hne
  have b2 := bit_or hs hn (show 2 < 4 by omega) fun j hj hne => adj 2 j (by omega) hj hne
  have b3 := bit_or hs hn (show 3 < 4 by omega) fun j hj hne => adj 3 j (by omega) hj hne
  unfold isL;rw [if_pos rfl];simp only [Nat.reducePow, Nat.reduceSub] at b0 b1 b2 b3;rw [b0, b1, b2, b3]; rfl
 ·obtain ⟨e1, e2⟩ := patN_two;rw [e1] at hn;rw [e2] at pair;obtain ⟨p, hp, cp⟩ := h.some 0 (by rw [e1]; omega);obtain ⟨q, hq, cq⟩ := h.some 1 (by rw [e1]; omega);have hpq : p ≠ q := fun e => by rw [e, cq] at cp; cases cp
  have adj : ∀ j, j < 5 -> j ≠ p -> j ≠ q -> bitL r p j = true /\ bitL r q j = true := fun j hj h1 h2 => by
   have a1 := (hcov j (by omega)).1;have a2 : c j ≠ 0 := fun e => h1 ((hcov j (by omega)).2 p hp (by rw [e, cp]))
   have a3 : c j ≠ 1 := fun e => h2 ((hcov j (by omega)).2 q hq (by rw [e, cq]))
   rw [hn] at a1;have : ∀ u : Fin 5, u.val ≠ 0 -> u.val ≠ 1 -> (0, u.val) ∈ [(0, 2), (0, 3), (0, 4), (1, 2), (1, 3), (1, 4)] /\ (1, u.val) ∈ [(0, 2), (0, 3), (0, 4), (1, 2), (1, 3), (1, 4)] := by decide
   obtain ⟨m1, m2⟩ := this ⟨c j, a1⟩ a2 a3;exact ⟨pair p j hp (by omega) (.inl (by rw [cp]; exact m1)), pair q j hq (by omega) (.inl (by rw [cq]; exact m2))⟩
  unfold isL;rw [if_neg (by decide), List.any_eq_true];by_cases hlt : q < p
  ·refine ⟨p, List.mem_range.2 (by omega), List.any_eq_true.2 ⟨q, List.mem_range.2 hlt, isB_of adj⟩⟩
  ·refine ⟨q, List.mem_range.2 (by omega), List.any_eq_true.2 ⟨p, List.mem_range.2 (by omega), isB_of fun j h1 h2 h3 => ⟨(adj j h1 h3 h2).2, (adj j h1 h3 h2).1⟩⟩⟩
theorem patN_ok {k : Int} (hk : k = 1 \/ k = 2) : ∀ q ∈ patN k, q.1 < sizeN k /\ q.2 < sizeN k /\ q.1 ≠ q.2 := by
 rcases hk with rfl | rfl <;> decide
theorem comes_end {f : Nat} {r : List Nat} {k : Int} (h : r.length <= sizeN k) : comesL f r k = (decide (r.length = sizeN k) && isL r k) := by
 cases f with
 | zero => rfl
 | succ f => exact if_pos h
theorem two_same {n m : Nat} {c : Nat -> Nat} (h : ∀ x, x < n -> c x < m) (hn : m < n) : ∃ x y, x < n /\ y < n /\ x ≠ y /\ c x = c y := Classical.byContradiction fun hc => by
 have nd : ((List.range n).map c).Nodup := by
  refine List.pairwise_map.2 ((List.nodup_range (n := n)).imp_of_mem ?_);intro a b ha hb hne he;exact hc ⟨a, b, List.mem_range.1 ha, List.mem_range.1 hb, hne, he⟩
 have := nodup_lenG (m := List.range m) nd fun x hx => by
  obtain ⟨i, hi, rfl⟩ := List.mem_map.1 hx;exact List.mem_range.2 (h i (List.mem_range.1 hi))
 simp at this
 omega
theorem mod_comes {k : Int} (hk : k = 1 \/ k = 2) : ∀ (f : Nat) (r : List Nat) (c : Nat -> Nat), r.length = f -> Sq r -> Mod r (sizeN k) (patN k) c -> comesL f r k = true := by
 intro f
 induction f with
 | zero =>
  intro r c hl hs h;have := (color_cover (n := r.length) h.some).1;have hz : 0 < sizeN k := by rcases hk with rfl | rfl <;> decide
  omega
 | succ f ih =>
  intro r c hl hs h;have hle := (color_cover (n := r.length) h.some).1;by_cases hn : r.length <= sizeN k
  ·rw [comes_end hn, mod_is hk hs h (by omega)];simp; omega
  show (if r.length <= sizeN k then _ else _) = true
  rw [if_neg hn, Bool.or_eq_true];by_cases hd : ∃ v, v < r.length /\ sizeN k <= c v
  ·obtain ⟨v, hv, hc⟩ := hd;refine .inr (List.any_eq_true.2 ⟨v, List.mem_range.2 hv, ?_⟩);exact ih _ _ (by rw [lessL_length hv]; omega) (hs.less hv) (h.less (patN_ok hk) hv hc)
  ·have hall : ∀ x, x < r.length -> c x < sizeN k := fun x hx => Classical.byContradiction fun hn => hd ⟨x, hx, by omega⟩
   obtain ⟨x, y, hx, hy, hne, he⟩ := two_same hall (by omega);have edge : ∃ a b, c a = c b /\ bitL r a b = true := Classical.byContradiction fun hno => by
    have := h.conn (c x) (hall x hx) (· = x) ⟨x, hx, rfl, rfl⟩ (fun u v hu hv huv _ => absurd ⟨u, v, by rw [hu, hv], huv⟩ hno) y hy he.symm;exact hne this.symm
   obtain ⟨a, b, hab, hb⟩ := edge;have go : ∀ a b, a < b -> c a = c b -> bitL r a b = true -> (List.range r.length).any (fun a => (List.range r.length).any fun b => decide (a < b) && (bitL r a b && comesL f (mergedL r a b) k)) = true := fun a b hlt hc hb => by
    have h2 := hs.bnd _ _ hb;refine List.any_eq_true.2 ⟨a, List.mem_range.2 (hs.lt hb), List.any_eq_true.2 ⟨b, List.mem_range.2 h2, ?_⟩⟩;rw [hb, ih _ _ (by rw [mergedL_length h2]; omega) (hs.merged hlt h2) (h.merged hs (patN_ok hk) hlt h2 hc)];simp [hlt]
   have : a ≠ b := fun e => by rw [e, hs.irr] at hb; cases hb
   rcases Nat.lt_or_gt_of_ne this with hlt | hlt
   ·exact .inl (go a b hlt hab hb)
   ·exact .inl (go b a hlt hab.symm (hs.sym _ _ hb))
def rowStep (r : List Nat) (x : Ed) : List Nat := (r.set x.1.toNat (r.getD x.1.toNat 0 ||| 2 ^ x.2.toNat)).set x.2.toNat ((r.set x.1.toNat (r.getD x.1.toNat 0 ||| 2 ^ x.2.toNat)).getD x.2.toNat 0 ||| 2 ^ x.1.toNat)
def rowsL (n : Int) (E : List Ed) : List Nat := E.foldl rowStep (List.replicate n.toNat 0)
theorem rowStep_length (r : List Nat) (x : Ed) : (rowStep r x).length = r.length := by simp [rowStep]
theorem set_bit {r : List Nat} {i : Nat} (hi : i < r.length) (j a b : Nat) : bitL (r.set i (r.getD i 0 ||| 2 ^ j)) a b = (bitL r a b || (decide (a = i) && decide (b = j))) := by
 unfold bitL
 rw [qDq, List.getElem?_set]
 by_cases e : i = a
 ·subst e;rw [if_pos rfl, if_pos hi];show ((r.getD i 0 ||| 2 ^ j).testBit b) = _
  rw [Nat.testBit_or, Nat.testBit_two_pow, decide_eq_true rfl, Bool.true_and, decide_eq_decide.2 (show j = b ↔ b = j from ⟨Eq.symm, Eq.symm⟩)]
 ·rw [if_neg e];have : ¬ a = i := fun h => e h.symm
  simp [this]
theorem rowStep_bit {r : List Nat} {x : Ed} {n : Int} (hl : r.length = n.toNat) (hx : okE n x) (a b : Nat) : bitL (rowStep r x) a b = (bitL r a b || (decide (a = x.1.toNat) && decide (b = x.2.toNat)) || (decide (a = x.2.toNat) && decide (b = x.1.toNat))) := by
 obtain ⟨h1, h2, h3⟩ := hx
 unfold rowStep
 rw [set_bit (by rw [List.length_set]; omega), set_bit (by omega)]
theorem rows_bit {n : Int} : ∀ (E : List Ed) (r : List Nat), r.length = n.toNat -> (∀ x ∈ E, okE n x) -> (E.foldl rowStep r).length = n.toNat /\ ∀ a b : Nat, bitL (E.foldl rowStep r) a b = true ↔ bitL r a b = true \/ adjE E a b := by
 intro E
 induction E with
 | nil => intro r hl _; exact ⟨hl, fun a b => by simp [adjE]⟩
 | cons x E ih =>
  intro r hl hE;have hx := hE x (by simp);obtain ⟨i1, i2⟩ := ih (rowStep r x) (by rw [rowStep_length]; exact hl) fun y hy => hE y (by simp [hy])
  refine ⟨i1, fun a b => ?_⟩;rw [List.foldl_cons, i2, rowStep_bit hl hx];obtain ⟨h1, h2, h3⟩ := hx;obtain ⟨u, v⟩ := x;dsimp only at h1 h2 h3;simp only [Bool.or_eq_true, Bool.and_eq_true, decide_eq_true_eq, adjE, List.mem_cons, Prod.mk.injEq];constructor
  ·rintro ((( h | ⟨e1, e2⟩) | ⟨e1, e2⟩) | h)
   ·exact .inl h
   ·exact .inr (.inl (.inl ⟨by omega, by omega⟩))
   ·exact .inr (.inr (.inl ⟨by omega, by omega⟩))
   ·rcases h with h | h
    ·exact .inr (.inl (.inr h))
    ·exact .inr (.inr (.inr h))
  ·rintro (h | (⟨e1, e2⟩ | h) | (⟨e1, e2⟩ | h))
   ·exact .inl (.inl (.inl h))
   ·exact .inl (.inl (.inr ⟨by omega, by omega⟩))
   ·exact .inr (.inl h)
   ·exact .inl (.inr ⟨by omega, by omega⟩)
   ·exact .inr (.inr h)
theorem rowsL_length {n : Int} {E : List Ed} (h : ∀ x ∈ E, okE n x) : (rowsL n E).length = n.toNat := (rows_bit E _ (by simp) h).1
theorem rowsL_bit {n : Int} {E : List Ed} (h : ∀ x ∈ E, okE n x) (a b : Nat) : bitL (rowsL n E) a b = true ↔ adjE E a b := by
 unfold rowsL
 rw [(rows_bit E _ (by simp) h).2]
 constructor
 ·rintro (h | h)
  ·exfalso
   unfold bitL at h;rw [qDq, List.getElem?_replicate] at h;split at h <;> simp at h
  ·exact h
 ·exact .inr
theorem adjE_range {n : Int} {E : List Ed} (h : ∀ x ∈ E, okE n x) {a b : Int} (ha : adjE E a b) : 0 <= a /\ a < n /\ 0 <= b /\ b < n /\ a ≠ b := by
 rcases ha with ha | ha
 ·obtain ⟨h1, h2, h3⟩ := h _ ha;dsimp only at h1 h2 h3; omega
 ·obtain ⟨h1, h2, h3⟩ := h _ ha;dsimp only at h1 h2 h3; omega
theorem rowsL_sq {n : Int} {E : List Ed} (h : ∀ x ∈ E, okE n x) : Sq (rowsL n E) := by
 refine ⟨fun a b hb => ?_, fun a b hb => ?_, fun a => ?_⟩
 ·rw [rowsL_bit h] at hb;have := adjE_range h hb;rw [rowsL_length h]; omega
 ·rw [rowsL_bit h] at hb ⊢;exact hb.symm
 ·cases hc : bitL (rowsL n E) a a with
  | false => rfl
  | true =>
   rw [rowsL_bit h] at hc;have := adjE_range h hc;omega
end Go.Sh
namespace Go.Sh
theorem Core.K4 {N : List (List Int)} {G : List Bool} (h : Core N G) : K4 N ↔ leftF G ≠ [] := by
 constructor
 ·rintro ⟨c, hc⟩ e;obtain ⟨x, y, hx, hy, k, _⟩ := hc.meet 0 1 (by omega) (by omega);rw [List.mem_range] at hx;have : (x : Int) ∈ leftF G := mem_leftF.2 ⟨by omega, by rw [h.wf.len]; omega, by
   cases hg : goneAt G (x : Int) with
   | false => rfl
   | true => unfold adjN at k; rw [h.wf.gone x (by omega) hg] at k; simp at k⟩
  rw [e] at this; simp at this
 ·intro hne
  let vs := (List.range N.length).filter fun (x : Nat) => !goneAt G (x : Int)
  have hvs : ∀ x, x ∈ vs ↔ x < N.length /\ goneAt G (x : Int) = false := fun x => by
   rw [List.mem_filter, List.mem_range]; simp
  have h0 : vs ≠ [] := by
   obtain ⟨v, hv⟩ := List.exists_mem_of_ne_nil _ hne;obtain ⟨a0, a1, a2⟩ := mem_leftF.1 hv;intro e;have : v.toNat ∈ vs := (hvs _).2 ⟨by rw [h.wf.len] at a1; omega, by rw [Int.toNat_of_nonneg a0]; exact a2⟩;rw [e] at this; simp at this
  have hd : ∀ x, x ∈ vs -> D3 vs (adjN N) x := fun x hx => by
   obtain ⟨x1, x2⟩ := (hvs x).1 hx;have h3 := h.three (v := (x : Int)) (by omega) (by omega) x2;have hs := (h.wf.rows (x : Int)).1;have hin : ∀ y, y ∈ rowAt N x -> y.toNat ∈ vs /\ adjN N x y.toNat := fun y hy => by
    obtain ⟨y0, y1, y2⟩ := near_there h.wf (by omega) hy;exact ⟨(hvs _).2 ⟨by omega, by rw [Int.toNat_of_nonneg y0]; exact y2⟩, by unfold adjN; rw [Int.toNat_of_nonneg y0]; exact hy⟩
   have hr0 := fun y hy => (near_there h.wf (show (0 : Int) <= x by omega) (x := y) hy).1
   match hrow : rowAt N x, h3 with
   | a :: b :: c :: l, _ =>
    rw [hrow] at hs hin hr0;simp only [List.pairwise_cons] at hs;have ab := hs.1 b (by simp);have ac := hs.1 c (by simp);have bc := hs.2.1 c (by simp);have a0 := hr0 a (by simp);obtain ⟨m1, k1⟩ := hin a (by simp);obtain ⟨m2, k2⟩ := hin b (by simp);obtain ⟨m3, k3⟩ := hin c (by simp);exact ⟨_, _, _, m1, m2, m3, by omega, by omega, by omega, k1, k2, k3⟩
   | [], h3 => simp at h3
   | [_], h3 => simp at h3
   | [_, _], h3 => simp at h3
  obtain ⟨c, hc⟩ := dirac (adjN_sm h.wf) (List.nodup_range.sublist List.filter_sublist) hd h0;exact ⟨_, hc.induced fun x hx => List.mem_range.2 ((hvs x).1 hx).1⟩
theorem narrow_K4 {n : Int} {E : List Ed} (hR : RightP n E) : narrowB n E = true ↔ ¬ K4 (nbrs n.toNat E) := by
 obtain ⟨hC, _, _⟩ := core_run hR
 have h1 : K4 (runR n E).2.1 ↔ K4 (nbrs n.toNat E) := K4_run (begin_wf hR)
 have hrun : runO n E = ((runR n E).1, leftF (runR n E).2.2, edgesF (runR n E).2.1 (runR n E).2.2) := if_pos hR
 unfold narrowB
 rw [decide_eq_true hR, Bool.true_and, decide_eq_true_eq, hrun, <- h1, hC.K4]
 simp
theorem nbrs_adj {n : Int} {E : List Ed} (hR : RightP n E) (x y : Nat) : adjN (nbrs n.toNat E) x y ↔ adjE E x y := by
 unfold adjN
 by_cases hx : (x : Int) < n.toNat
 ·rw [nbrs_row (by omega) hx, mem_nearL]
 ·rw [rowAt_out (by rw [nbrs_length]; omega)];constructor
  ·intro h; simp at h
  ·intro h;have := adjE_range (fun p hp => hR.2.2.2.1 p hp) h;omega
theorem mod_mdl {r : List Nat} (hs : Sq r) {c : Nat -> Nat} : Mod r 4 (patN 1) c ↔ MdL (List.range r.length) (fun x y => bitL r x y = true) c := by
 have rg : ∀ {x}, x ∈ List.range r.length ↔ x < r.length := List.mem_range
 constructor
 ·intro h;refine ⟨fun i hi => ?_, fun i hi P ⟨x, hx, e, hP⟩ hcl y hy ey => ?_, fun i j hij hj => ?_⟩
  ·obtain ⟨x, hx, e⟩ := h.some i hi; exact ⟨x, rg.2 hx, e⟩
  ·exact h.conn i hi P ⟨x, rg.1 hx, e, hP⟩ (fun a b ea eb k => hcl a b (rg.2 (hs.lt k)) (rg.2 (hs.bnd _ _ k)) ea eb k) y (rg.1 hy) ey
  ·have hq : (i, j) ∈ patN 1 := by
    rw [patN_one.2];have : (i = 0 /\ j = 1) \/ (i = 0 /\ j = 2) \/ (i = 0 /\ j = 3) \/ (i = 1 /\ j = 2) \/ (i = 1 /\ j = 3) \/ (i = 2 /\ j = 3) := by omega
    rcases this with ⟨rfl, rfl⟩ | ⟨rfl, rfl⟩ | ⟨rfl, rfl⟩ | ⟨rfl, rfl⟩ | ⟨rfl, rfl⟩ | ⟨rfl, rfl⟩ <;> simp
   obtain ⟨x, y, k, ex, ey⟩ := h.meet _ hq;exact ⟨x, y, rg.2 (hs.lt k), rg.2 (hs.bnd _ _ k), k, ex, ey⟩
 ·intro h;refine ⟨fun i hi => ?_, fun i hi P ⟨x, hx, e, hP⟩ hcl y hy ey => ?_, fun q hq => ?_⟩
  ·obtain ⟨x, hx, e⟩ := h.some i hi; exact ⟨x, rg.1 hx, e⟩
  ·exact h.conn i hi P ⟨x, rg.2 hx, e, hP⟩ (fun a b _ _ ea eb k => hcl a b ea eb k) y (rg.2 hy) ey
  ·have hq2 : q.1 < q.2 /\ q.2 < 4 := by
    rw [patN_one.2] at hq;simp at hq;rcases hq with rfl | rfl | rfl | rfl | rfl | rfl <;> decide
   obtain ⟨x, y, _, _, k, ex, ey⟩ := h.meet q.1 q.2 hq2.1 hq2.2;exact ⟨x, y, k, ex, ey⟩
theorem rows_K4 {n : Int} {E : List Ed} (hR : RightP n E) {c : Nat -> Nat} : MdL (List.range (rowsL n E).length) (fun x y => bitL (rowsL n E) x y = true) c ↔ MdL (List.range (nbrs n.toNat E).length) (adjN (nbrs n.toNat E)) c := by
 have hE : ∀ x ∈ E, okE n x := fun x hx => hR.2.2.2.1 x hx
 rw [rowsL_length hE, nbrs_length]
 have e : ∀ x y : Nat, bitL (rowsL n E) x y = true ↔ adjN (nbrs n.toNat E) x y := fun x y => by rw [rowsL_bit hE, nbrs_adj hR]
 exact ⟨fun h => h.mono fun x y _ _ k => (e x y).1 k, fun h => h.mono fun x y _ _ k => (e x y).2 k⟩
theorem MdL.reindex {m v : Nat} (hv : v < m) {A A' : Nat -> Nat -> Prop} {c : Nat -> Nat} (h : MdL (List.range (m - 1)) A' c) (hA : ∀ i j, i < m - 1 -> j < m - 1 -> A' i j -> A (up1 v i) (up1 v j)) : MdL ((List.range m).erase v) A fun x => c (dn1 v x) := by
 have rg : ∀ x, x ∈ (List.range m).erase v ↔ x < m /\ x ≠ v := fun x => by rw [erase_mem List.nodup_range, List.mem_range]
 have du : ∀ i, dn1 v (up1 v i) = i := fun i => up_inj (v := v) (up_dn (up1_ne v i))
 have upr : ∀ i, i < m - 1 -> up1 v i ∈ (List.range m).erase v := fun i hi => (rg _).2 ⟨up1_lt hi, up1_ne v i⟩
 refine ⟨fun i hi => ?_, fun i hi P ⟨x, hx, e, hP⟩ hcl y hy ey => ?_, fun i j hij hj => ?_⟩
 ·obtain ⟨x, hx, e⟩ := h.some i hi;exact ⟨up1 v x, upr x (List.mem_range.1 hx), by rw [du]; exact e⟩
 ·obtain ⟨x1, x2⟩ := (rg x).1 hx;obtain ⟨y1, y2⟩ := (rg y).1 hy;have := h.conn i hi (fun k => P (up1 v k)) ⟨dn1 v x, List.mem_range.2 (dn_lt x2 hv x1), e, by rw [up_dn x2]; exact hP⟩ (fun a b ha hb ea eb k hp => hcl _ _ (upr a (List.mem_range.1 ha)) (upr b (List.mem_range.1 hb)) (by rw [du]; exact ea) (by rw [du]; exact eb) (hA a b (List.mem_range.1 ha) (List.mem_range.1 hb) k) hp) (dn1 v y) (List.mem_range.2 (dn_lt y2 hv y1)) ey;rw [up_dn y2] at this;exact this
 ·obtain ⟨x, y, hx, hy, k, ex, ey⟩ := h.meet i j hij hj;exact ⟨up1 v x, up1 v y, upr x (List.mem_range.1 hx), upr y (List.mem_range.1 hy), hA x y (List.mem_range.1 hx) (List.mem_range.1 hy) k, by rw [du]; exact ex, by rw [du]; exact ey⟩
theorem is_mdl {r : List Nat} (hl : r.length = 4) (hi : isL r 1 = true) : MdL (List.range r.length) (fun x y => bitL r x y = true) id := by
 have hb : ∀ i j, i < j -> j < 4 -> bitL r i j = true := by
  unfold isL at hi;rw [if_pos rfl] at hi;simp only [Bool.and_eq_true, beq_iff_eq] at hi;obtain ⟨⟨⟨h0, h1⟩, h2⟩, h3⟩ := hi;have key : ∀ (x p j : Nat), x ||| p = 15 -> (15).testBit j = true -> p.testBit j = false -> x.testBit j = true := fun x p j e k1 k2 => by
   rw [<- e, Nat.testBit_or, k2, Bool.or_false] at k1; exact k1
  intro i j hij hj;have : (i = 0 /\ j = 1) \/ (i = 0 /\ j = 2) \/ (i = 0 /\ j = 3) \/ (i = 1 /\ j = 2) \/ (i = 1 /\ j = 3) \/ (i = 2 /\ j = 3) := by omega
  unfold bitL;rcases this with ⟨rfl, rfl⟩ | ⟨rfl, rfl⟩ | ⟨rfl, rfl⟩ | ⟨rfl, rfl⟩ | ⟨rfl, rfl⟩ | ⟨rfl, rfl⟩
  ·exact key _ _ _ h0 (by decide) (by decide)
  ·exact key _ _ _ h0 (by decide) (by decide)
  ·exact key _ _ _ h0 (by decide) (by decide)
  ·exact key _ _ _ h1 (by decide) (by decide)
  ·exact key _ _ _ h1 (by decide) (by decide)
  ·exact key _ _ _ h2 (by decide) (by decide)
 have rg : ∀ {x}, x ∈ List.range r.length ↔ x < 4 := by intro x; rw [List.mem_range, hl]
 refine ⟨fun i hi => ⟨i, rg.2 hi, rfl⟩, fun i hi P ⟨x, hx, e, hP⟩ _ y hy ey => ?_, fun i j hij hj => ⟨i, j, rg.2 (by omega), rg.2 hj, hb i j hij hj, rfl, rfl⟩⟩
 have : x = y := e.trans ey.symm
 rw [<- this]; exact hP
theorem sq_sm {r : List Nat} (h : Sq r) : Sm (fun x y => bitL r x y = true) := ⟨fun x y k => h.sym _ _ k, fun x k => by rw [h.irr] at k; cases k⟩
theorem comes_mdl : ∀ (f : Nat) (r : List Nat), r.length = f -> Sq r -> comesL f r 1 = true -> ∃ c, MdL (List.range r.length) (fun x y => bitL r x y = true) c := by
 intro f
 induction f with
 | zero =>
  intro r hl hs h;unfold comesL at h;rw [Bool.and_eq_true, decide_eq_true_eq, patN_one.1] at h;omega
 | succ f ih =>
  intro r hl hs h;unfold comesL at h;rw [patN_one.1] at h;by_cases h4 : r.length <= 4
  ·rw [if_pos h4, Bool.and_eq_true, decide_eq_true_eq] at h;exact ⟨_, is_mdl h.1 h.2⟩
  ·rw [if_neg h4, Bool.or_eq_true] at h;rcases h with h | h
   ·obtain ⟨a, ha, h⟩ := List.any_eq_true.1 h;obtain ⟨b, hb, h⟩ := List.any_eq_true.1 h;rw [Bool.and_eq_true, Bool.and_eq_true, decide_eq_true_eq] at h;obtain ⟨hab, hbit, hc⟩ := h;rw [List.mem_range] at ha hb;have hml := mergedL_length (r := r) (a := a) hb;obtain ⟨c, hc⟩ := ih (mergedL r a b) (by omega) (hs.merged hab hb) hc;rw [hml] at hc;have h1 : MdL ((List.range r.length).erase b) (mAdj r a b) fun x => c (dn1 b x) := hc.reindex hb fun i j hi hj k => (bit_merged (by omega)).1 k
    have h2 : MdL ((List.range r.length).erase b) (ctr (fun x y => bitL r x y = true) b a) fun x => c (dn1 b x) := h1.mono fun x y _ _ k => by
     rcases k with ⟨e, k | k, n1, n2⟩ | ⟨n, k | ⟨k, e⟩⟩
     ·exact .inl (by rw [e]; exact k)
     ·exact .inr (.inl ⟨e, k, n1⟩)
     ·exact .inl k
     ·exact .inr (.inr ⟨e, hs.sym _ _ k, n⟩)
    exact ⟨_, h2.lift (sq_sm hs) (List.mem_range.2 hb) (List.mem_range.2 ha) (hs.sym _ _ hbit) (erase_mem List.nodup_range b)⟩
   ·obtain ⟨v, hv, hc⟩ := List.any_eq_true.1 h;rw [List.mem_range] at hv;have hll := lessL_length (r := r) hv;obtain ⟨c, hc⟩ := ih (lessL r v) (by omega) (hs.less hv) hc;rw [hll] at hc;have h1 : MdL ((List.range r.length).erase v) (fun x y => bitL r x y = true) fun x => c (dn1 v x) := hc.reindex hv fun i j hi hj k => by rw [<- bit_less]; exact k
    exact ⟨_, h1.induced fun x hx => ((erase_mem List.nodup_range v x).1 hx).1⟩
theorem has_K4 {n : Int} {E : List Ed} (hR : RightP n E) : hasL (rowsL n E) 1 = true ↔ K4 (nbrs n.toNat E) := by
 have hE : ∀ x ∈ E, okE n x := fun x hx => hR.2.2.2.1 x hx
 have hs := rowsL_sq hE
 constructor
 ·intro h;obtain ⟨c, hc⟩ := comes_mdl _ _ rfl hs h;exact ⟨c, (rows_K4 hR).1 hc⟩
 ·rintro ⟨c, hc⟩;have := (mod_mdl hs).2 ((rows_K4 hR).2 hc);exact mod_comes (.inl rfl) _ _ _ rfl hs (by rw [patN_one.1]; exact this)
end Go.Sh
namespace Go.Sh
open Go.Proofs
theorem MdL.iso {vs vs' : List Nat} {A A' : Nat -> Nat -> Prop} {c : Nat -> Nat} (f g : Nat -> Nat) (hf : ∀ x, x ∈ vs -> f x ∈ vs' /\ g (f x) = x) (hg : ∀ y, y ∈ vs' -> g y ∈ vs /\ f (g y) = y) (hA : ∀ x y, x ∈ vs -> y ∈ vs -> A x y -> A' (f x) (f y)) (h : MdL vs A c) : MdL vs' A' fun y => c (g y) := by
 refine ⟨fun i hi => ?_, fun i hi P ⟨y0, hy0, ey0, hP⟩ hcl y hy ey => ?_, fun i j hij hj => ?_⟩
 ·obtain ⟨x, hx, e⟩ := h.some i hi;exact ⟨f x, (hf x hx).1, by rw [(hf x hx).2]; exact e⟩
 ·have := h.conn i hi (fun x => P (f x)) ⟨g y0, (hg y0 hy0).1, ey0, by rw [(hg y0 hy0).2]; exact hP⟩ (fun a b ha hb ea eb k hp => hcl _ _ (hf a ha).1 (hf b hb).1 (by rw [(hf a ha).2]; exact ea) (by rw [(hf b hb).2]; exact eb) (hA a b ha hb k) hp) (g y) (hg y hy).1 ey;rw [(hg y hy).2] at this;exact this
 ·obtain ⟨x, y, hx, hy, k, ex, ey⟩ := h.meet i j hij hj;exact ⟨f x, f y, (hf x hx).1, (hf y hy).1, hA x y hx hy k, by rw [(hf x hx).2]; exact ex, by rw [(hf y hy).2]; exact ey⟩
theorem ren_ownI {n : Int} {E : List Ed} {l : List Int} (hok : ∀ p ∈ E, okE n p) : Try.renE (Try.indF (placeF n.toNat l)) E = ownG l E := by
 unfold Try.renE ownG
 induction E with
 | nil => rfl
 | cons e E ih =>
  have ih := ih fun p hp => hok p (List.mem_cons_of_mem _ hp)
  have he := hok e List.mem_cons_self;unfold okE at he;have at_ : ∀ {v : Int}, 0 <= v -> v < n -> Try.indF (placeF n.toNat l) v = if v ∈ l then ((l.idxOf v : Nat) : Int) else -1 := fun {v} h0 h1 => by
   unfold Try.indF;rw [placeF_at h0 (by omega)];split <;> omega
  have a1 := at_ (v := e.1) (by omega) (by omega);have a2 := at_ (v := e.2) (by omega) (by omega);rw [List.filterMap_cons, List.filter_cons];by_cases h1 : e.1 ∈ l
  ·by_cases h2 : e.2 ∈ l
   ·rw [if_pos h1] at a1;rw [if_pos h2] at a2;have : ownP l e = true := by unfold ownP; simp [h1, h2]
    rw [a1, a2, if_pos ⟨by omega, by omega⟩, if_pos this];simp only [List.map_cons];rw [ih]
   ·rw [if_neg h2] at a2;have : ¬ ownP l e = true := by unfold ownP; simp [h1, h2]
    rw [a2, if_neg (by omega), if_neg this];exact ih
  ·rw [if_neg h1] at a1;have : ¬ ownP l e = true := by unfold ownP; simp [h1]
   rw [a1, if_neg (by omega), if_neg this];exact ih
theorem ind_two {n : Int} {E : List Ed} {l : List Int} (hl : l.length <= 1000) (hR : RightP n E) (hnd : l.Nodup) (hrng : ∀ v ∈ l, 0 <= v /\ v < n) : indG n E l = ((((l.length : Nat) : Int), normE (ownG l E)), (0 : Int)) /\ RightP (l.length : Nat) (normE (ownG l E)) := by
 have hol : (ownG l E).length <= 4000 := Nat.le_trans ownG_len hR.2.2.1
 have hix : ∀ {v : Int}, v ∈ l -> (l.idxOf v : Nat) < l.length := fun {v} hv => List.idxOf_lt_length_iff.2 hv
 have hoR : ∀ p ∈ ownG l E, inR (l.length : Int) p := fun p hp => by
  unfold ownG at hp;obtain ⟨e, he, rfl⟩ := List.mem_map.1 hp;have hm := (List.mem_filter.1 he).2;unfold ownP at hm;simp only [Bool.and_eq_true, List.elem_eq_mem, decide_eq_true_eq] at hm;have q1 := hix hm.1;have q2 := hix hm.2;unfold inR;dsimp only;omega
 have hFl : (normE (ownG l E)).length <= 4000 := Nat.le_trans (normE_length _) hol
 refine ⟨?_, ⟨by omega, by omega, hFl, normE_ok hoR, normE_sorted _⟩⟩
 unfold indG
 rw [if_pos hR, if_pos hrng, if_pos hnd]
 unfold indR
 rw [ren_ownI hR.2.2.2.1]
 unfold normF
 rw [if_neg (by omega), if_neg (by omega), if_pos hoR, if_neg (by omega)]
theorem ind_K4 {n : Int} {E : List Ed} {l : List Int} (hl : l.length <= 1000) (hR : RightP n E) (hnd : l.Nodup) (hrng : ∀ v ∈ l, 0 <= v /\ v < n) : K4 (nbrs l.length (normE (ownG l E))) ↔ ∃ c, MdL (l.map Int.toNat) (fun x y => adjE (withL l E) (x : Int) (y : Int)) c := by
 have hRF := (ind_two hl hR hnd hrng).2
 have hadj : ∀ x y : Nat, adjN (nbrs l.length (normE (ownG l E))) x y ↔ adjE (normE (ownG l E)) x y := fun x y => by
  have := nbrs_adj hRF x y;rw [Int.toNat_natCast] at this;exact this
 have hmap : ∀ x : Nat, x ∈ l.map Int.toNat ↔ (x : Int) ∈ l := fun x => by
  rw [List.mem_map];constructor
  ·rintro ⟨v, hv, rfl⟩;rw [Int.toNat_of_nonneg (hrng v hv).1]; exact hv
  ·intro h; exact ⟨_, h, Int.toNat_natCast x⟩
 have hf : ∀ x, x ∈ List.range l.length -> (l.getD x 0).toNat ∈ l.map Int.toNat /\ l.idxOf (((l.getD x 0).toNat : Nat) : Int) = x := fun x hx => by
  have hx := List.mem_range.1 hx;have e : l.getD x 0 = l[x] := by rw [qDq, qEq hx]; rfl
  have hm : l[x] ∈ l := List.getElem_mem hx;rw [e, Int.toNat_of_nonneg (hrng _ hm).1];exact ⟨List.mem_map.2 ⟨_, hm, rfl⟩, hnd.idxOf_getElem x hx⟩
 have hg : ∀ y : Nat, y ∈ l.map Int.toNat -> l.idxOf (y : Int) ∈ List.range l.length /\ (l.getD (l.idxOf (y : Int)) 0).toNat = y := fun y hy => by
  have hy := (hmap y).1 hy;have hlt := List.idxOf_lt_length_iff.2 hy;refine ⟨List.mem_range.2 hlt, ?_⟩;rw [qDq, qEq hlt, Option.getD_some, List.getElem_idxOf];exact Int.toNat_natCast y
 have key : ∀ x y : Nat, x ∈ List.range l.length -> y ∈ List.range l.length -> (adjN (nbrs l.length (normE (ownG l E))) x y ↔ adjE (withL l E) (((l.getD x 0).toNat : Nat) : Int) (((l.getD y 0).toNat : Nat) : Int)) := fun x y hx hy => by
  obtain ⟨hx1, hx2⟩ := hf x hx;obtain ⟨hy1, hy2⟩ := hf y hy;have hx1 := (hmap _).1 hx1;have hy1 := (hmap _).1 hy1;rw [hadj, with_mem];have := own_adj hR hx1 hy1;rw [hx2, hy2] at this;rw [this];exact ⟨fun h => ⟨h, hx1, hy1⟩, And.left⟩
 unfold K4
 rw [nbrs_length]
 constructor
 ·rintro ⟨c, hc⟩;exact ⟨_, hc.iso (fun x => (l.getD x 0).toNat) (fun y => l.idxOf (y : Int)) hf hg fun x y hx hy k => (key x y hx hy).1 k⟩
 ·rintro ⟨c, hc⟩;refine ⟨_, hc.iso (fun y => l.idxOf (y : Int)) (fun x => (l.getD x 0).toNat) hg hf fun x y hx hy k => ?_⟩;obtain ⟨gx, ex⟩ := hg x hx;obtain ⟨gy, ey⟩ := hg y hy;rw [key _ _ gx gy, ex, ey]; exact k
noncomputable def narG (n : Int) (E : List Ed) (l : List Int) : Bool := narrowB (l.length : Nat) (normE (ownG l E))
theorem narG_iff {n : Int} {E : List Ed} {l : List Int} (hl : l.length <= 1000) (hT : TwoP n E l) : narG n E l = true ↔ ¬ ∃ c, MdL (l.map Int.toNat) (fun x y => adjE (withL l E) (x : Int) (y : Int)) c := by
 obtain ⟨hR, h2, ⟨hnd, hrng⟩, -⟩ := hT
 have hRF := (ind_two hl hR hnd hrng).2
 unfold narG
 rw [narrow_K4 hRF, Int.toNat_natCast, ind_K4 hl hR hnd hrng]
theorem ck_two {n : Int} {E : List Ed} {l : List Int} {t : List Nd} (h : ckF n E l t = true) : TwoP n E l := by
 unfold ckF at h
 rw [Bool.and_eq_true] at h
 exact twoB_iff.1 h.1
theorem ck_nar {n : Int} {E : List Ed} {l : List Int} {t : List Nd} (hl : l.length <= 1000) (h : ckF n E l t = true) : narG n E l = true := (narG_iff hl (ck_two h)).2 (ck_noK4 h)
def borI (a b : Int) : Int := IntKind.wrap .i64 ((BitVec.ofInt (IntKind.bits .i64) a ||| BitVec.ofInt (IntKind.bits .i64) b).toNat : Int)
def boffI (a b : Int) : Int := IntKind.wrap .i64 ((BitVec.ofInt (IntKind.bits .i64) a &&& ~~~ BitVec.ofInt (IntKind.bits .i64) b).toNat : Int)
theorem wrap_nat {m : Nat} (h : m < 2 ^ 63) : IntKind.wrap .i64 (m : Int) = m := by
 have e : (m : Int) % 2 ^ 64 = m := by omega
 simp only [IntKind.wrap, IntKind.bits, IntKind.signed]
 refine (if_neg fun h => ?_).trans e
 simp at h
 omega
theorem ofInt_nat {m : Nat} (h : m < 2 ^ 63) : (BitVec.ofInt (IntKind.bits .i64) (m : Int)).toNat = m := by
 show (BitVec.ofInt 64 (m : Int)).toNat = m
 rw [BitVec.ofInt_natCast, BitVec.toNat_ofNat, Nat.mod_eq_of_lt (by omega)]
theorem and_nat {x y : Nat} (hx : x < 2 ^ 63) (hy : y < 2 ^ 63) : andI (x : Int) (y : Int) = ((x &&& y : Nat) : Int) := by
 unfold andI
 rw [BitVec.toNat_and, ofInt_nat hx, ofInt_nat hy, wrap_nat (Nat.lt_of_le_of_lt Nat.and_le_left hx)]
theorem or_nat {x y : Nat} (hx : x < 2 ^ 63) (hy : y < 2 ^ 63) : borI (x : Int) (y : Int) = ((x ||| y : Nat) : Int) := by
 unfold borI
 rw [BitVec.toNat_or, ofInt_nat hx, ofInt_nat hy, wrap_nat (Nat.or_lt_two_pow hx hy)]
theorem off_nat {x y : Nat} (hx : x < 2 ^ 63) (hy : y < 2 ^ 63) : boffI (x : Int) (y : Int) = ((offX x y : Nat) : Int) := by
 unfold boffI
 have e : (BitVec.ofInt (IntKind.bits .i64) (x : Int) &&& ~~~ BitVec.ofInt (IntKind.bits .i64) (y : Int)).toNat = offX x y := by
  apply Nat.eq_of_testBit_eq
  intro j;rw [off_bit, BitVec.testBit_toNat, BitVec.getLsbD_and, BitVec.getLsbD_not, <- BitVec.testBit_toNat, <- BitVec.testBit_toNat, ofInt_nat hx, ofInt_nat hy];by_cases hj : j < 64
  ·have : j < IntKind.bits .i64 := hj;simp [this]
  ·have : x.testBit j = false := Nat.testBit_lt_two_pow (Nat.lt_of_lt_of_le hx (Nat.pow_le_pow_right (by omega) (by omega)));rw [this]; simp
 rw [e, wrap_nat (Nat.lt_of_le_of_lt ?_ hx)]
 unfold offX
 apply Nat.le_of_testBit
 intro j hj
 rw [Nat.testBit_xor, Nat.testBit_and] at hj
 cases hc : x.testBit j with
 | true => rfl
 | false => rw [hc] at hj; simp at hj
theorem pow7 {v : Nat} (h : v <= 7) : 2 ^ v <= 128 := Nat.pow_le_pow_right (n := 2) (by omega) h
theorem powI (v : Nat) : (1 : Int) * 2 ^ ((v : Int)).toNat = ((2 ^ v : Nat) : Int) := by simp
theorem shrI (x v : Nat) : (x : Int).fdiv (2 ^ ((v : Int)).toNat) = ((x >>> v : Nat) : Int) := by
 rw [Int.toNat_natCast, Nat.shiftRight_eq_div_pow, Int.fdiv_eq_ediv_of_nonneg _ (by exact Int.le_of_lt (Int.pow_pos (by omega)))]
 simp
theorem shr_lt {x v : Nat} (h : x < 256) : x >>> v < 256 := by
 rw [Nat.shiftRight_eq_div_pow]
 exact Nat.lt_of_le_of_lt (Nat.div_le_self _ _) h
theorem inK_u64 {a : Int} (h0 : 0 <= a) (h : a < 9223372036854775808) : inK .u64 a = true := by
 rw [inK_iff]
 simp only [IntKind.wrap, IntKind.bits, IntKind.signed]
 simp
 omega
theorem bitI (x v : Nat) (h : x < 256) : (andI ((x : Int).fdiv (2 ^ ((v : Int)).toNat)) 1 == 1) = x.testBit v := by
 have := shr_lt (v := v) h
 rw [shrI, show (1 : Int) = ((1 : Nat) : Int) from rfl, and_nat (by omega) (by omega), Nat.testBit, Nat.and_comm]
 rcases Nat.mod_two_eq_zero_or_one (x >>> v) with e | e
 ·rw [Nat.one_and_eq_mod_two, e]; rfl
 ·rw [Nat.one_and_eq_mod_two, e]; rfl
def natL (r : List Nat) : List Int := List.map (fun n : Nat => (n : Int)) r
abbrev nats (r : List Nat) : Flat := ints (natL r)
theorem natL_inj {r s : List Nat} (h : natL r = natL s) : r = s := (List.map_inj_right fun a b e => by omega).1 h
theorem natL_length (r : List Nat) : (natL r).length = r.length := by simp [natL]
theorem nats_length (r : List Nat) : (nats r).length = r.length := by rw [qiq, natL_length]
theorem nats_get {r : List Nat} {i : Nat} (h : i < r.length) : (nats r)[i]? = some [.i .i64 ((r.getD i 0 : Nat) : Int)] := by
 refine qhq ?_
 simp [natL, qEq h]
theorem nats_snoc (r : List Nat) (x : Nat) : nats (r ++ [x]) = nats r ++ [[.i .i64 (x : Int)]] := by simp [nats, natL, ints]
theorem nats_set (r : List Nat) (i x : Nat) : nats (r.set i x) = (nats r).set i [.i .i64 (x : Int)] := by simp [nats, natL, ints, List.map_set]
theorem getD_lt {r : List Nat} {m : Nat} (h : ∀ x ∈ r, x < m) (hm : 0 < m) (i : Nat) : r.getD i 0 < m := by
 by_cases hi : i < r.length
 ·rw [qDq, qEq hi]; exact h _ (List.getElem_mem hi)
 ·rw [getD_out hi]; exact hm
def Byt (r : List Nat) : Prop := r.length <= 8 /\ ∀ x ∈ r, x < 256
theorem lessX_lt {x v : Nat} (h : x < 256) : lessX x v < 256 := by
 apply Nat.lt_pow_two_of_testBit (n := 8)
 intro i hi
 rw [lessX_bit]
 exact Nat.testBit_lt_two_pow (Nat.lt_of_lt_of_le (show x < 2 ^ 8 by omega) (Nat.pow_le_pow_right (by omega) (by unfold up1; split <;> omega)))
theorem mergeX_lt {r : List Nat} (h : Byt r) {a b i x : Nat} (ha : a < 8) (hx : x < 256) : mergeX r a b i x < 256 := by
 have h1 := getD_lt h.2 (by omega) a
 have h2 := getD_lt h.2 (by omega) b
 unfold mergeX
 split
 ·apply Nat.lt_pow_two_of_testBit (n := 8)
  intro i hi;rw [off_bit, Nat.testBit_lt_two_pow (Nat.lt_of_lt_of_le (Nat.or_lt_two_pow (n := 8) h1 h2) (Nat.pow_le_pow_right (by omega) hi))]
  rfl
 ·split
  ·exact Nat.or_lt_two_pow (n := 8) hx (Nat.pow_lt_pow_right (by omega) ha)
  ·exact hx
theorem Byt.less {r : List Nat} (h : Byt r) {v : Nat} (hv : v < r.length) : Byt (lessL r v) := by
 refine ⟨by have := lessL_length hv; have := h.1; omega, fun x hx => ?_⟩
 obtain ⟨y, hy, rfl⟩ := List.mem_map.1 hx
 exact lessX_lt (h.2 y (List.mem_of_mem_eraseIdx hy))
theorem Byt.merge {r : List Nat} (h : Byt r) {a b : Nat} (ha : a < r.length) : Byt (mergeL r a b) := by
 refine ⟨by rw [mergeL_length]; exact h.1, fun x hx => ?_⟩
 obtain ⟨i, hi, rfl⟩ := List.mem_map.1 hx
 exact mergeX_lt h (by have := h.1; omega) (getD_lt h.2 (by omega) i)
theorem Byt.merged {r : List Nat} (h : Byt r) {a b : Nat} (ha : a < r.length) (hb : b < r.length) : Byt (mergedL r a b) := (h.merge ha).less (by rw [mergeL_length]; exact hb)
noncomputable def Less8C : Con := conP 2 (fun a : List Nat × Nat => Byt a.1 /\ a.2 < a.1.length) (fun a => [.one (.flat false 1 (nats a.1)), .one (.s (.i .i64 (a.2 : Nat)))]) (fun a => .one (.flat true 1 (nats (lessL a.1 a.2))))
theorem Less8C_at {r : List Nat} {v : Nat} (h : Byt r /\ v < r.length) : Less8C.F [.one (.flat false 1 (nats r)), .one (.s (.i .i64 (v : Nat)))] = some (.one (.flat true 1 (nats (lessL r v))), []) :=
 conP_at (a := (r, v)) (fun a b _ _ h => by
  obtain ⟨r, v⟩ := a;obtain ⟨r', v'⟩ := b;simp at h;obtain ⟨h1, h2⟩ := h;rw [natL_inj (ints_inj h1), show v = v' by omega]) h
theorem lessI {x v : Nat} (hx : x < 256) (hv : v < 8) : borI (andI (x : Int) (1 * 2 ^ ((v : Int)).toNat - 1)) ((x : Int).fdiv (2 ^ ((v : Int) + 1).toNat) * 2 ^ ((v : Int)).toNat) = ((lessX x v : Nat) : Int) := by
 have h1 := pow7 (show v <= 7 by omega)
 have h2 := Nat.pow_pos (n := v) (show 0 < 2 by omega)
 have h3 := shr_lt (v := v + 1) hx
 have e1 : (1 * 2 ^ ((v : Int)).toNat - 1 : Int) = ((2 ^ v - 1 : Nat) : Int) := by rw [powI]; omega
 have e2 : (x : Int).fdiv (2 ^ ((v : Int) + 1).toNat) = ((x >>> (v + 1) : Nat) : Int) := shrI x (v + 1)
 have e3 : ((x >>> (v + 1) : Nat) : Int) * 2 ^ ((v : Int)).toNat = (((x >>> (v + 1)) <<< v : Nat) : Int) := by rw [Nat.shiftLeft_eq]; simp
 have h4 : (x >>> (v + 1)) <<< v < 2 ^ 63 := by
  rw [Nat.shiftLeft_eq];exact Nat.lt_of_le_of_lt (Nat.mul_le_mul (Nat.le_of_lt h3) h1) (by decide)
 rw [e1, e2, e3, and_nat (by omega) (by omega), or_nat (Nat.lt_of_le_of_lt Nat.and_le_left (by omega)) h4]
 rfl
theorem less_take {r : List Nat} {v k : Nat} (hk : k < r.length) : ((r.take (k + 1)).eraseIdx v).map (lessX · v) = ((r.take k).eraseIdx v).map (lessX · v) ++ (if k = v then [] else [lessX (r.getD k 0) v]) := by
 rw [qTq hk]
 have hg : r.getD k 0 = r[k] := by rw [qDq, qEq hk]; rfl
 have hl : (r.take k).length = k := by rw [List.length_take]; omega
 by_cases h : v < k
 ·rw [List.eraseIdx_append_of_lt_length (by omega), if_neg (by omega), hg]; simp
 ·rw [List.eraseIdx_append_of_length_le (by omega), hl];have e : (r.take k).eraseIdx v = r.take k := List.eraseIdx_of_length_le (by omega);rw [e];by_cases h2 : k = v
  ·subst h2; simp
  ·rw [if_neg h2, hg];have : v - k = (v - k - 1) + 1 := by omega
   rw [this, List.eraseIdx_cons_succ, List.eraseIdx_nil, List.map_append]; rfl
set_option maxHeartbeats 1000000 in
theorem Less8_ok : SoundC Try.prog T 72 Less8C := by
 refine sound_con (X := { Γ := [], T := T, nt := 44 }) cr_none hmix hT sound_nil Try.func72 (by rfl) (by rfl) (by rfl) (by rfl) 2 ?_
 rintro ⟨r, v⟩ ⟨⟨hl, hb⟩, hv⟩
 dsimp only at hl hb hv ⊢
 refine two_le ?_
 have hP := pow7 (show v <= 7 by omega)
 have hP0 := Nat.pow_pos (n := v) (show 0 < 2 by omega)
 refine LoopP.intro (α := Nat) (fun k => k <= r.length) (fun k => r.length - k) (fun k => [(0, .sl 0 none none), (1, .s (.i .i64 (v : Nat))), (5, .sl 1 none none), (6, .s (.i .i64 k))])
  (fun k => [(0, some (.flat false 1 (nats r))), (1, some (.flat true 1 (nats (((r.take k).eraseIdx v).map (lessX · v)))))]) 2 0 (by omega) (by refine Weak.bw [(0, some _), (1, some _)] (by ((repeat' first|exact rfl|exact trivial|apply And.intro) <;> (repeat' first|exact rfl|exact trivial|apply And.intro)); all_goals ((rw [show (r.take 0).eraseIdx v = [] by simp]; rfl)))) ?_
 rintro k hk
 refine Pick.by (fun hc => ?_) (fun hc => ?_)
 ·have hlt : k < r.length := by rw [nats_length] at hc; simpa using hc
  have hx := getD_lt hb (by omega) k;have hst := less_take (v := v) hlt;refine Pick.by (fun h1 => ?_) (fun h1 => ?_)
  ·have h1 : k ≠ v := by simp at h1; omega
   rw [if_neg h1] at hst;refine Idx.by k rfl (by rw [nats_length]; exact hlt) ?_;refine Look.by _ (nats_get hlt) ?_;refine Pick.T (inK_u64 (by omega) (by omega)) ?_;refine Pick.T (by simp; omega) ?_;refine Pick.T (by rw [powI]; exact inI64_of (by omega) (by omega)) ?_;refine Pick.T (by rw [powI]; exact inI64_of (by omega) (by omega)) ?_;refine Idx.by k rfl (by rw [nats_length]; exact hlt) ?_;refine Look.by _ (nats_get hlt) ?_;refine Pick.n ?_;refine Pick.T (inK_u64 (by omega) (by omega)) ?_;refine Pick.T (by simp; omega) ?_;refine Pick.T (inK_u64 (by omega) (by omega)) ?_;refine Pick.T (by simp; omega) ?_;refine Pick.T (by
    rw [show ((r.getD k 0 : Nat) : Int).fdiv (2 ^ ((v : Int) + 1).toNat) = ((r.getD k 0 >>> (v + 1) : Nat) : Int) from shrI _ (v + 1)];have h3 := shr_lt (v := v + 1) hx;have : (((r.getD k 0 >>> (v + 1) : Nat) : Int)) * 2 ^ ((v : Int)).toNat = (((r.getD k 0 >>> (v + 1)) * 2 ^ v : Nat) : Int) := by simp
    rw [this];have := Nat.mul_le_mul (Nat.le_of_lt h3) hP;exact inI64_of (by omega) (by omega)) ?_
   refine Pick.T (by simp [cut, qiq, natL_length, List.length_eraseIdx]; split <;> omega) ?_;refine Pick.n ?_;refine Next.by (k + 1) (by omega) (by omega) (by refine Weak.bw [(0, some _), (1, some _)] (by ((repeat' first|exact rfl|exact trivial|apply And.intro) <;> (repeat' first|exact rfl|exact trivial|apply And.intro)); all_goals ((rw [hst, nats_snoc, <- lessI hx (show v < 8 by omega)]; rfl))))
  ·have h1 : k = v := by simp at h1; omega
   rw [if_pos h1, List.append_nil] at hst;refine Pick.n ?_;refine Next.by (k + 1) (by omega) (by omega) (by refine Weak.bw [(0, some _), (1, some _)] (by ((repeat' first|exact rfl|exact trivial|apply And.intro) <;> (repeat' first|exact rfl|exact trivial|apply And.intro)); all_goals ((rw [hst]))))
 ·have hge : r.length <= k := by rw [nats_length] at hc; simpa using hc
  rw [List.take_of_length_le hge];exact ⟨rfl, rfl, rfl⟩
noncomputable def Merged8C : Con := conP 3 (fun a : List Nat × Nat × Nat => Byt a.1 /\ a.2.1 < a.1.length /\ a.2.2 < a.1.length) (fun a => [.one (.flat false 1 (nats a.1)), .one (.s (.i .i64 (a.2.1 : Nat))), .one (.s (.i .i64 (a.2.2 : Nat)))]) (fun a => .one (.flat true 1 (nats (mergedL a.1 a.2.1 a.2.2))))
theorem Merged8C_at {r : List Nat} {a b : Nat} (h : Byt r /\ a < r.length /\ b < r.length) : Merged8C.F [.one (.flat false 1 (nats r)), .one (.s (.i .i64 (a : Nat))), .one (.s (.i .i64 (b : Nat)))] = some (.one (.flat true 1 (nats (mergedL r a b))), []) :=
 conP_at (a := (r, a, b)) (fun x y _ _ h => by
  obtain ⟨r, a, b⟩ := x;obtain ⟨r', a', b'⟩ := y;simp at h;obtain ⟨h1, h2, h3⟩ := h;rw [natL_inj (ints_inj h1), show a = a' by omega, show b = b' by omega]) h
def mrgK (r : List Nat) (a b k : Nat) : List Nat := (List.range r.length).map fun i => if i = a \/ i < k then mergeX r a b i (r.getD i 0) else r.getD i 0
theorem mrgK_length (r : List Nat) (a b k : Nat) : (mrgK r a b k).length = r.length := by simp [mrgK]
theorem mrgK_get {r : List Nat} {a b k i : Nat} (h : i < r.length) : (mrgK r a b k)[i]? = some (if i = a \/ i < k then mergeX r a b i (r.getD i 0) else r.getD i 0) := by
 unfold mrgK
 rw [List.getElem?_map, List.getElem?_range h]; rfl
theorem mrgK_all (r : List Nat) (a b : Nat) {k : Nat} (h : r.length <= k) : mrgK r a b k = mergeL r a b := by
 unfold mrgK mergeL
 refine List.map_congr_left fun i hi => ?_
 rw [if_pos (.inr (by have := List.mem_range.1 hi; omega))]
theorem mrgK_zero {r : List Nat} {a b : Nat} (ha : a < r.length) : mrgK r a b 0 = r.set a (offX (r.getD a 0 ||| r.getD b 0) (2 ^ a ||| 2 ^ b)) := by
 apply List.ext_getElem?
 intro i
 rw [List.getElem?_set]
 by_cases hi : i < r.length
 ·rw [mrgK_get hi];by_cases e : a = i
  ·subst e;rw [if_pos (.inl rfl), if_pos rfl, if_pos hi];unfold mergeX;rw [if_pos rfl]
  ·rw [if_neg (by omega), if_neg e, qDq, qEq hi]; rfl
 ·rw [List.getElem?_eq_none (by rw [mrgK_length]; omega), if_neg (by omega), List.getElem?_eq_none (by omega)]
theorem mrgK_put {r : List Nat} {a b k : Nat} (hk : k < r.length) (ha : k ≠ a) (hb : (r.getD k 0).testBit b = true) : mrgK r a b (k + 1) = (mrgK r a b k).set k (r.getD k 0 ||| 2 ^ a) := by
 apply List.ext_getElem?
 intro i
 rw [List.getElem?_set]
 by_cases hi : i < r.length
 ·rw [mrgK_get hi];by_cases e : k = i
  ·subst e;rw [if_pos (.inr (by omega)), if_pos rfl, if_pos (by rw [mrgK_length]; exact hi)];unfold mergeX;rw [if_neg ha, if_pos hb]
  ·rw [if_neg e, mrgK_get hi];by_cases h2 : i = a \/ i < k
   ·rw [if_pos h2, if_pos (by omega)]
   ·rw [if_neg h2, if_neg (by omega)]
 ·rw [List.getElem?_eq_none (by rw [mrgK_length]; omega), if_neg (by omega), List.getElem?_eq_none (by rw [mrgK_length]; omega)]
theorem mrgK_keep {r : List Nat} {a b k : Nat} (h : k = a \/ (r.getD k 0).testBit b = false) : mrgK r a b (k + 1) = mrgK r a b k := by
 unfold mrgK
 refine List.map_congr_left fun i hi => ?_
 by_cases h2 : i = a \/ i < k
 ·rw [if_pos h2, if_pos (by omega)]
 ·rw [if_neg h2];by_cases e : i = k
  ·subst e;rw [if_pos (.inr (by omega))];have h1 : i ≠ a := by omega
   have h2 : (r.getD i 0).testBit b = false := by rcases h with h | h; · exact absurd h h1
                                                  ·exact h
   unfold mergeX;rw [if_neg h1, if_neg (by rw [h2]; simp)]
  ·rw [if_neg (by omega)]
theorem mrgK_getD {r : List Nat} {a b k : Nat} (hk : k < r.length) (ha : k ≠ a) : (mrgK r a b k).getD k 0 = r.getD k 0 := by
 rw [qDq, mrgK_get hk, if_neg (by omega)]; rfl
theorem one_shl {v : Nat} (h : v < 8) : inI64 (1 * 2 ^ ((v : Int)).toNat) = true := by
 have := pow7 (show v <= 7 by omega)
 rw [powI]
 generalize 2 ^ v = m at *
 exact inI64_of (by omega) (by omega)
theorem or2_lt {a b : Nat} (ha : a < 8) (hb : b < 8) : (2 ^ a ||| 2 ^ b : Nat) < 256 := Nat.or_lt_two_pow (n := 8) (Nat.pow_lt_pow_right (by omega) ha) (Nat.pow_lt_pow_right (by omega) hb)
theorem headI {x y a b : Nat} (hx : x < 256) (hy : y < 256) (ha : a < 8) (hb : b < 8) : boffI (borI (x : Int) (y : Int)) (borI (1 * 2 ^ ((a : Int)).toNat) (1 * 2 ^ ((b : Int)).toNat)) = ((offX (x ||| y) (2 ^ a ||| 2 ^ b) : Nat) : Int) := by
 have h1 := pow7 (show a <= 7 by omega)
 have h2 := pow7 (show b <= 7 by omega)
 have h3 := or2_lt ha hb
 have h4 : (x ||| y : Nat) < 256 := Nat.or_lt_two_pow (n := 8) hx hy
 rw [powI, powI, or_nat (by omega) (by omega), or_nat (by omega) (by omega), off_nat (by omega) (by omega)]
theorem orbI {x a : Nat} (hx : x < 256) (ha : a < 8) : borI (x : Int) (1 * 2 ^ ((a : Int)).toNat) = ((x ||| 2 ^ a : Nat) : Int) := by
 have h1 := pow7 (show a <= 7 by omega)
 rw [powI, or_nat (by omega) (by omega)]
set_option maxHeartbeats 1000000 in
theorem Merged8_ok : SoundC Try.prog T 71 Merged8C := by
 refine sound_con (X := { Γ := [(72, Less8C)], T := T, nt := 66 }) cr_none hmix hT (sound_cons Less8_ok sound_nil) Try.func71 (by rfl) (by rfl) (by rfl) (by rfl) 3 ?_
 rintro ⟨r, a, b⟩ ⟨hB, ha, hb⟩
 dsimp only at hB ha hb ⊢
 have hl := hB.1
 have hra := getD_lt hB.2 (show 0 < 256 by omega) a
 have hrb := getD_lt hB.2 (show 0 < 256 by omega) b
 refine two_le ?_
 refine Pick.T (by simp [cut, qiq, natL_length]; omega) ?_
 refine Idx.by a rfl (by rw [nats_length]; exact ha) ?_
 refine Look.by _ (nats_get ha) ?_
 refine Idx.by b rfl (by rw [nats_length]; exact hb) ?_
 refine Look.by _ (nats_get hb) ?_
 refine Pick.T (inK_u64 (by omega) (by omega)) ?_
 refine Pick.T (by simp; omega) ?_
 refine Pick.T (one_shl (by omega)) ?_
 refine Pick.T (inK_u64 (by omega) (by omega)) ?_
 refine Pick.T (by simp; omega) ?_
 refine Pick.T (one_shl (by omega)) ?_
 refine Idx.by a rfl (by simp [cut, qiq, natL_length]; omega) ?_
 refine Look.by _ (by show (nats r)[a]? = _; exact nats_get ha) ?_
 refine Seg.by (by kernel_rfl) ?_
 refine LoopP.intro (α := Nat) (fun k => k <= r.length) (fun k => r.length - k) (fun k => [(0, .sl 0 none none), (1, .s (.i .i64 (a : Nat))), (2, .s (.i .i64 (b : Nat))), (7, .sl 1 none none), (8, .s (.i .i64 k))])
  (fun k => [(0, some (.flat false 1 (nats r))), (1, some (.flat true 1 (nats (mrgK r a b k))))]) 2 0 (by omega) (by refine Weak.bw [(0, some _), (1, some _)] (by ((repeat' first|exact rfl|exact trivial|apply And.intro) <;> (repeat' first|exact rfl|exact trivial|apply And.intro)); all_goals ((rw [mrgK_zero ha, nats_set, <- headI hra hrb (by omega) (by omega)]; rfl)))) ?_
 rintro k hk
 refine Pick.by (fun hc => ?_) (fun hc => ?_)
 ·have hlt : k < r.length := by rw [nats_length] at hc; simpa using hc
  have hx := getD_lt hB.2 (show 0 < 256 by omega) k;have skip : k = a \/ (r.getD k 0).testBit b = false -> mrgK r a b (k + 1) = mrgK r a b k := mrgK_keep;refine Pick.by (fun h1 => ?_) (fun h1 => ?_)
  ·have h1 : k ≠ a := by simp at h1; omega
   refine Idx.by k rfl (by rw [nats_length]; exact hlt) ?_;refine Look.by _ (nats_get hlt) ?_;refine Pick.T (inK_u64 (by omega) (by omega)) ?_;refine Pick.T (by simp; omega) ?_;refine Pick.by (fun h2 => ?_) (fun h2 => ?_)
   ·have h2 : (r.getD k 0).testBit b = true := by rw [<- bitI _ _ hx]; exact h2
    refine Idx.by k rfl (by rw [nats_length, mrgK_length]; exact hlt) ?_;refine Look.by _ (nats_get (by rw [mrgK_length]; exact hlt)) ?_;refine Pick.T (inK_u64 (by omega) (by omega)) ?_;refine Pick.T (by simp; omega) ?_;refine Pick.T (one_shl (by omega)) ?_;refine Idx.by k rfl (by rw [nats_length, mrgK_length]; exact hlt) ?_;refine Look.by _ (nats_get (by rw [mrgK_length]; exact hlt)) ?_;refine Pick.n ?_;refine Next.by (k + 1) (by omega) (by omega) (by refine Weak.bw [(0, some _), (1, some _)] (by ((repeat' first|exact rfl|exact trivial|apply And.intro) <;> (repeat' first|exact rfl|exact trivial|apply And.intro)); all_goals ((rw [mrgK_put hlt h1 h2, nats_set, <- orbI hx (show a < 8 by omega), <- mrgK_getD (a := a) (b := b) (k := k) hlt h1]; rfl))))
   ·have h2 : (r.getD k 0).testBit b = false := by rw [<- bitI _ _ hx]; exact h2
    refine Pick.n ?_;refine Next.by (k + 1) (by omega) (by omega) (by refine Weak.bw [(0, some _), (1, some _)] (by ((repeat' first|exact rfl|exact trivial|apply And.intro) <;> (repeat' first|exact rfl|exact trivial|apply And.intro)); all_goals ((rw [skip (.inr h2)]))))
  ·have h1 : k = a := by simp at h1; omega
   refine Pick.n ?_;refine Next.by (k + 1) (by omega) (by omega) (by refine Weak.bw [(0, some _), (1, some _)] (by ((repeat' first|exact rfl|exact trivial|apply And.intro) <;> (repeat' first|exact rfl|exact trivial|apply And.intro)); all_goals ((rw [skip (.inl h1)]))))
 ·have hge : r.length <= k := by rw [nats_length] at hc; simpa using hc
  rw [mrgK_all r a b hge];refine Call.by _ _ (Less8C_at ⟨hB.merge ha, by rw [mergeL_length]; exact hb⟩) ?_;exact ⟨rfl, rfl, rfl⟩
noncomputable def Is8C : Con := conP 2 (fun a : List Nat × Int => Byt a.1 /\ (a.2 = 1 /\ a.1.length = 4 \/ a.2 = 2 /\ a.1.length = 5)) (fun a => [.one (.flat false 1 (nats a.1)), .one (.s (.i .i64 a.2))]) (fun a => .one (.s (.b (isL a.1 a.2))))
theorem Is8C_at {r : List Nat} {k : Int} (h : Byt r /\ (k = 1 /\ r.length = 4 \/ k = 2 /\ r.length = 5)) : Is8C.F [.one (.flat false 1 (nats r)), .one (.s (.i .i64 k))] = some (.one (.s (.b (isL r k))), []) :=
 conP_at (a := (r, k)) (fun x y _ _ h => by
  obtain ⟨r, a⟩ := x;obtain ⟨r', a'⟩ := y;simp at h;obtain ⟨h1, h2⟩ := h;rw [natL_inj (ints_inj h1), h2]) h
theorem eqI {x y : Nat} : ((x : Int) == (y : Int)) = (x == y) := by
 rw [Bool.eq_iff_iff]
 simp
 omega
theorem or15 {x c : Nat} (hx : x < 256) (hc : c < 256) : (borI (x : Int) (c : Int) == 15) = ((x ||| c) == 15) := by
 rw [or_nat (by omega) (by omega)]
 exact eqI (y := 15)
theorem bothI {p q : Nat} (hp : p < 8) (hq : q < 8) : boffI 31 (borI (1 * 2 ^ ((p : Int)).toNat) (1 * 2 ^ ((q : Int)).toNat)) = ((offX 31 (2 ^ p ||| 2 ^ q) : Nat) : Int) := by
 have h3 := or2_lt hp hq
 have h1 := pow7 (show p <= 7 by omega)
 have h2 := pow7 (show q <= 7 by omega)
 rw [powI, powI, or_nat (by omega) (by omega)]
 exact off_nat (x := 31) (by omega) (by omega)
theorem off31_lt (m : Nat) : offX 31 m < 32 := by
 apply Nat.lt_pow_two_of_testBit (n := 5)
 intro i hi
 rw [off_bit, Nat.testBit_lt_two_pow (Nat.lt_of_lt_of_le (show 31 < 2 ^ 5 by omega) (Nat.pow_le_pow_right (by omega) hi))]
 rfl
theorem maskI {x p q : Nat} (hx : x < 256) (hp : p < 8) (hq : q < 8) : (andI (x : Int) (boffI 31 (borI (1 * 2 ^ ((p : Int)).toNat) (1 * 2 ^ ((q : Int)).toNat))) == boffI 31 (borI (1 * 2 ^ ((p : Int)).toNat) (1 * 2 ^ ((q : Int)).toNat))) = ((x &&& offX 31 (2 ^ p ||| 2 ^ q)) == offX 31 (2 ^ p ||| 2 ^ q)) := by
 have := off31_lt (2 ^ p ||| 2 ^ q)
 rw [bothI hp hq, and_nat (by omega) (by omega)]
 exact eqI
set_option maxHeartbeats 1000000 in
theorem Is8_ok : SoundC Try.prog T 70 Is8C := by
 refine sound_con (X := { Γ := [], T := T, nt := 71 }) cr_none hmix hT sound_nil Try.func70 (by rfl) (by rfl) (by rfl) (by rfl) 2 ?_
 rintro ⟨r, k⟩ ⟨hB, hk⟩
 dsimp only at hB hk ⊢
 have hx : ∀ i, r.getD i 0 < 256 := fun i => getD_lt hB.2 (show 0 < 256 by omega) i
 refine two_le ?_
 refine Pick.by (fun h1 => ?_) (fun h1 => ?_)
 ·have h1 : k = 1 := by simpa using h1
  have hl : r.length = 4 := by omega
  subst h1;have e : isL r 1 = ((r.getD 0 0 ||| 1 == 15) && (r.getD 1 0 ||| 2 == 15) && (r.getD 2 0 ||| 4 == 15) && (r.getD 3 0 ||| 8 == 15)) := if_pos rfl;rw [e];have o0 := or15 (c := 1) (hx 0) (by omega);have o1 := or15 (c := 2) (hx 1) (by omega);have o2 := or15 (c := 4) (hx 2) (by omega);have o3 := or15 (c := 8) (hx 3) (by omega);rw [<- o0, <- o1, <- o2, <- o3];refine Idx.by 0 rfl (by rw [nats_length]; omega) ?_;refine Look.by _ (nats_get (by omega)) ?_;refine Pick.by (fun h0 => ?_) (fun h0 => ?_)
  ·refine Idx.by 1 rfl (by rw [nats_length]; omega) ?_;refine Look.by _ (nats_get (by omega)) ?_;have h0' : (borI ((r.getD 0 0 : Nat) : Int) ((1 : Nat) : Int) == 15) = true := h0;rw [h0'];refine Pick.by (fun h1 => ?_) (fun h1 => ?_)
   ·refine Idx.by 2 rfl (by rw [nats_length]; omega) ?_;refine Look.by _ (nats_get (by omega)) ?_;have h1' : (borI ((r.getD 1 0 : Nat) : Int) ((2 : Nat) : Int) == 15) = true := h1;rw [h1'];refine Pick.by (fun h2 => ?_) (fun h2 => ?_)
    ·refine Idx.by 3 rfl (by rw [nats_length]; omega) ?_;refine Look.by _ (nats_get (by omega)) ?_;have h2' : (borI ((r.getD 2 0 : Nat) : Int) ((4 : Nat) : Int) == 15) = true := h2;rw [h2'];exact ⟨rfl, rfl⟩
    ·have h2' : (borI ((r.getD 2 0 : Nat) : Int) ((4 : Nat) : Int) == 15) = false := h2;rw [h2'];exact ⟨rfl, rfl⟩
   ·have h1' : (borI ((r.getD 1 0 : Nat) : Int) ((2 : Nat) : Int) == 15) = false := h1;rw [h1'];exact ⟨rfl, rfl⟩
  ·have h0' : (borI ((r.getD 0 0 : Nat) : Int) ((1 : Nat) : Int) == 15) = false := h0;rw [h0'];exact ⟨rfl, rfl⟩
 have h1 : ¬ k = 1 := by simpa using h1
 have hk2 : k = 2 := by omega
 have hl : r.length = 5 := by omega
 have e : isL r k = (List.range 5).any fun p => (List.range p).any fun q => isB r p q := if_neg h1
 have yes : ∀ p q, p < 5 -> q < p -> isB r p q = true -> isL r k = true := fun p q hp hq h => by
  rw [e];exact List.any_eq_true.2 ⟨p, List.mem_range.2 hp, List.any_eq_true.2 ⟨q, List.mem_range.2 hq, h⟩⟩
 refine LoopP.intro (α := Nat) (fun p => p <= 5 /\ ∀ p' q', p' < p -> q' < p' -> isB r p' q' = false) (fun p => 5 - p) (fun p => [(0, .sl 0 none none), (5, .s (.i .i64 p))])
  (fun p => [(0, some (.flat false 1 (nats r)))]) 1 0 ⟨by omega, by intros; omega⟩ (by refine Weak.ba [(0, some _)]) ?_
 rintro p ⟨hp, hno⟩
 refine Pick.by (fun hc => ?_) (fun hc => ?_)
 ·have hp5 : p < 5 := by simp at hc; omega
  refine LoopP.intro (α := Nat) (fun q => q <= p /\ ∀ q', q' < q -> isB r p q' = false) (fun q => p - q) (fun q => [(0, .sl 0 none none), (5, .s (.i .i64 p)), (6, .s (.i .i64 q))])
   (fun q => [(0, some (.flat false 1 (nats r)))]) 1 0 ⟨by omega, by intros; omega⟩ (by refine Weak.ba [(0, some _)]) ?_
  rintro q ⟨hq, hno2⟩;refine Pick.by (fun hc2 => ?_) (fun hc2 => ?_)
  ·have hqp : q < p := by simp at hc2; omega
   refine Pick.T (inK_u64 (by omega) (by omega)) ?_;refine Pick.T (by simp; omega) ?_;refine Pick.T (one_shl (by omega)) ?_;refine Pick.T (inK_u64 (by omega) (by omega)) ?_;refine Pick.T (by simp; omega) ?_;refine Pick.T (one_shl (by omega)) ?_;refine Idx.by p rfl (by rw [nats_length]; omega) ?_;refine Look.by _ (nats_get (by omega)) ?_;have m1 := maskI (p := p) (q := q) (hx p) (by omega) (by omega);have m2 := maskI (p := p) (q := q) (hx q) (by omega) (by omega);have hB2 : isB r p q = (((r.getD p 0 &&& offX 31 (2 ^ p ||| 2 ^ q)) == offX 31 (2 ^ p ||| 2 ^ q)) && ((r.getD q 0 &&& offX 31 (2 ^ p ||| 2 ^ q)) == offX 31 (2 ^ p ||| 2 ^ q))) := rfl;have next : isB r p q = false -> ∀ q', q' < q + 1 -> isB r p q' = false := fun h q' hq' => by
    by_cases e : q' = q
    ·rw [e]; exact h
    ·exact hno2 q' (by omega)
   refine Pick.by (fun h3 => ?_) (fun h3 => ?_)
   ·rw [m1.symm.trans h3] at hB2;refine Idx.by q rfl (by rw [nats_length]; omega) ?_;refine Look.by _ (nats_get (by omega)) ?_;refine Pick.by (fun h4 => ?_) (fun h4 => ?_)
    ·rw [m2.symm.trans h4] at hB2;refine ⟨rfl, ?_⟩;show Sc.b true = Sc.b (isL r k)
     rw [yes p q hp5 hqp hB2]
    ·rw [m2.symm.trans h4] at hB2;refine Pick.n ?_;refine Next.by (q + 1) ⟨by omega, next hB2⟩ (by omega) (by refine Weak.ba [(0, some _)])
   ·rw [m1.symm.trans h3] at hB2;refine Pick.n ?_;refine Next.by (q + 1) ⟨by omega, next hB2⟩ (by omega) (by refine Weak.ba [(0, some _)])
  ·have hqp : p <= q := by simp at hc2; omega
   refine Pick.n ?_;refine Next.by (p + 1) ⟨by omega, fun p' q' h1 h2 => ?_⟩ (by omega) (by refine Weak.ba [(0, some _)]);by_cases e : p' = p
   ·subst e; exact hno2 q' (by omega)
   ·exact hno p' q' (by omega) h2
 ·have hp5 : 5 <= p := by simp at hc; omega
  refine ⟨rfl, ?_⟩;show Sc.b false = Sc.b (isL r k)
  congr 1
  rw [e]
  symm
  rw [List.any_eq_false];intro p' hp';rw [Bool.not_eq_true, List.any_eq_false];intro q' hq';rw [hno p' q' (by have := List.mem_range.1 hp'; omega) (List.mem_range.1 hq')];simp
noncomputable def Rows8C : Con := conP 2 (fun a : Int × List Ed => RightP a.1 a.2 /\ a.1 <= 8) (fun a => [grV a.1 a.2]) (fun a => .one (.flat true 1 (nats (rowsL a.1 a.2))))
theorem Rows8C_at {n : Int} {E : List Ed} (h : RightP n E /\ n <= 8) : Rows8C.F [grV n E] = some (.one (.flat true 1 (nats (rowsL n E))), []) :=
 conP_at (a := (n, E)) (fun x y _ _ h => by
  obtain ⟨n, E⟩ := x;obtain ⟨n', E'⟩ := y;simp at h;obtain ⟨rfl, rfl⟩ := grV_inj h
  rfl) h
theorem rows_byt {n : Int} {E : List Ed} (hR : RightP n E) (h8 : n <= 8) : Byt (rowsL n E) := by
 have hE : ∀ x ∈ E, okE n x := fun x hx => hR.2.2.2.1 x hx
 have hl := rowsL_length hE
 have hs := rowsL_sq hE
 refine ⟨by omega, fun x hx => ?_⟩
 obtain ⟨i, hi, rfl⟩ := List.mem_iff_getElem.1 hx
 apply Nat.lt_pow_two_of_testBit (n := 8)
 intro j hj
 cases hc : (rowsL n E)[i].testBit j with
 | false => rfl
 | true =>
  have : bitL (rowsL n E) i j = true := by
   unfold bitL;rw [qDq, qEq hi]; exact hc
  have := hs.bnd _ _ this;omega
theorem rows_take_byt {n : Int} {E : List Ed} (hR : RightP n E) (h8 : n <= 8) (k : Nat) : Byt ((E.take k).foldl rowStep (List.replicate n.toNat 0)) := rows_byt (right_take hR k) h8
set_option maxHeartbeats 1000000 in
theorem Rows8_ok : SoundC Try.prog T 48 Rows8C := by
 refine sound_con (X := { Γ := [], T := T, nt := 52 }) cr_none hmix hT sound_nil Try.func48 (by rfl) (by rfl) (by rfl) (by rfl) 2 ?_
 rintro ⟨n, E⟩ ⟨hR, h8⟩
 dsimp only at hR h8 ⊢
 have hn0 := hR.1
 have hE4 := hR.2.2.1
 refine two_le ?_
 refine Pick.T (by simp) ?_
 refine Idx.by n.toNat (by omega) (by omega) ?_
 refine LoopP.intro (α := Nat) (fun k => k <= E.length) (fun k => E.length - k) (fun k => [(1, .ptr 0 0), (3, .sl 2 none none), (4, .s (.i .i64 k))])
  (fun k => [(0, some (.blk [.s (.i .i64 n), .sl 1 none none])), (1, some (.flat false 2 (edges E))), (2, some (.flat true 1 (nats ((E.take k).foldl rowStep (List.replicate n.toNat 0)))))]) 3 0 (by omega) (by refine Weak.bw (sg 0 [_,_,_]) (by ((repeat' first|exact rfl|exact trivial|apply And.intro) <;> (repeat' first|exact rfl|exact trivial|apply And.intro)); all_goals ((rw [List.take_zero, List.foldl_nil, show nats (List.replicate n.toNat 0) = List.replicate n.toNat [.i .i64 0] by simp [nats, natL, ints]])))) ?_
 rintro k hk
 have hB := rows_take_byt hR h8 k
 have hlen : ((E.take k).foldl rowStep (List.replicate n.toNat 0)).length = n.toNat := (rows_bit _ _ (by simp) fun x hx => hR.2.2.2.1 x (List.mem_of_mem_take hx)).1
 refine Pick.by (fun hc => ?_) (fun hc => ?_)
 ·have hlt : k < E.length := by simpa [qeq] using hc
  have hst : (E.take (k + 1)).foldl rowStep (List.replicate n.toNat 0) = rowStep ((E.take k).foldl rowStep (List.replicate n.toNat 0)) E[k] := by rw [qTq hlt, List.foldl_append]; rfl
  obtain ⟨o1, o2, o3⟩ := hR.2.2.2.1 _ (List.getElem_mem hlt);have hget := edges_get (qEq hlt);obtain ⟨a, ha⟩ : ∃ a : Nat, E[k].1 = a := ⟨E[k].1.toNat, by omega⟩;obtain ⟨b, hb⟩ : ∃ b : Nat, E[k].2 = b := ⟨E[k].2.toNat, by omega⟩;rw [ha, hb] at hget;have hst2 : rowStep ((E.take k).foldl rowStep (List.replicate n.toNat 0)) E[k] = (((E.take k).foldl rowStep (List.replicate n.toNat 0)).set a (((E.take k).foldl rowStep (List.replicate n.toNat 0)).getD a 0 ||| 2 ^ b)).set b ((((E.take k).foldl rowStep (List.replicate n.toNat 0)).set a (((E.take k).foldl rowStep (List.replicate n.toNat 0)).getD a 0 ||| 2 ^ b)).getD b 0 ||| 2 ^ a) := by
   unfold rowStep; rw [ha, hb]; rfl
  rw [hst2] at hst;generalize (E.take k).foldl rowStep (List.replicate n.toNat 0) = r at *
  have hx := getD_lt hB.2 (show 0 < 256 by omega) a;have hs256 : (r.getD a 0 ||| 2 ^ b : Nat) < 256 := Nat.or_lt_two_pow (n := 8) hx (Nat.pow_lt_pow_right (by omega) (by omega));have hy : (r.set a (r.getD a 0 ||| 2 ^ b)).getD b 0 < 256 := getD_lt (fun x hx => by
   rcases List.mem_or_eq_of_mem_set hx with h | h
   ·exact hB.2 x h
   ·rw [h]; exact hs256) (by omega) b
  have hset : nats (r.set a (r.getD a 0 ||| 2 ^ b)) = (nats r).set a [.i .i64 (borI ((r.getD a 0 : Nat) : Int) (1 * 2 ^ ((b : Int)).toNat))] := by
   rw [nats_set, orbI hx (by omega)]
  refine Idx.by k rfl (by rw [qeq]; exact hlt) ?_;refine Look.by _ hget ?_;refine Idx.by k rfl (by rw [qeq]; exact hlt) ?_;refine Look.by _ hget ?_;refine Idx.by a rfl (by rw [nats_length]; omega) ?_;refine Look.by _ (nats_get (by omega)) ?_;refine Pick.T (inK_u64 (by omega) (by omega)) ?_;refine Pick.T (by simp; omega) ?_;refine Pick.T (one_shl (by omega)) ?_;refine Idx.by a rfl (by rw [nats_length]; omega) ?_;refine Look.by _ (nats_get (by omega)) ?_;refine Idx.by b rfl (by simp [qiq, natL_length]; omega) ?_;refine Look.by _ (by show ((nats r).set a [.i .i64 (borI ((r.getD a 0 : Nat) : Int) (1 * 2 ^ ((b : Int)).toNat))])[b]? = _; rw [<- hset]; exact nats_get (by rw [List.length_set]; omega)) ?_;refine Pick.T (inK_u64 (by omega) (by omega)) ?_;refine Pick.T (by simp; omega) ?_;refine Pick.T (one_shl (by omega)) ?_;refine Idx.by b rfl (by simp [qiq, natL_length]; omega) ?_;refine Look.by _ (by show ((nats r).set a [.i .i64 (borI ((r.getD a 0 : Nat) : Int) (1 * 2 ^ ((b : Int)).toNat))])[b]? = _; rw [<- hset]; exact nats_get (by rw [List.length_set]; omega)) ?_;refine Pick.n ?_;refine Next.by (k + 1) (by omega) (by omega) (by refine Weak.bw (sg 0 [_,_,_]) (by ((repeat' first|exact rfl|exact trivial|apply And.intro) <;> (repeat' first|exact rfl|exact trivial|apply And.intro)); all_goals ((rw [hst, nats_set, hset, <- orbI hy (show a < 8 by omega)]; rfl))))
 ·have hge : E.length <= k := by simpa [qeq] using hc
  rw [List.take_of_length_le hge];exact ⟨rfl, rfl, rfl⟩
theorem size_pos {k : Int} (hk : k = 1 \/ k = 2) : ((sizeN k : Nat) : Int) = (patG k).1 := by rcases hk with rfl | rfl <;> decide
noncomputable def Comes8C (m : Nat) : Con := conP 2 (fun a : List Nat × Int => Byt a.1 /\ a.1.length <= m /\ (a.2 = 1 \/ a.2 = 2)) (fun a => [.one (.flat false 1 (nats a.1)), .one (.s (.i .i64 a.2))]) (fun a => .one (.s (.b (hasL a.1 a.2))))
theorem Comes8C_at {m : Nat} {r : List Nat} {k : Int} (h : Byt r /\ r.length <= m /\ (k = 1 \/ k = 2)) : (Comes8C m).F [.one (.flat false 1 (nats r)), .one (.s (.i .i64 k))] = some (.one (.s (.b (hasL r k))), []) :=
 conP_at (a := (r, k)) (fun x y _ _ h => by
  obtain ⟨r, a⟩ := x;obtain ⟨r', a'⟩ := y;simp at h;obtain ⟨h1, h2⟩ := h;rw [natL_inj (ints_inj h1), h2]) h
theorem has_small {r : List Nat} {k : Int} (h : r.length <= sizeN k) : hasL r k = (decide (r.length = sizeN k) && isL r k) := comes_end h
theorem has_step {r : List Nat} {k : Int} (h : sizeN k < r.length) : hasL r k = (((List.range r.length).any fun a => (List.range r.length).any fun b => decide (a < b) && (bitL r a b && hasL (mergedL r a b) k)) || (List.range r.length).any fun v => hasL (lessL r v) k) := by
 obtain ⟨f, hf⟩ : ∃ f, r.length = f + 1 := ⟨r.length - 1, by omega⟩
 have e : hasL r k = (((List.range r.length).any fun a => (List.range r.length).any fun b => decide (a < b) && (bitL r a b && comesL f (mergedL r a b) k)) || (List.range r.length).any fun v => comesL f (lessL r v) k) := by
  unfold hasL;rw [hf];show (if r.length <= sizeN k then _ else _) = _
  rw [if_neg (by omega), hf]
 rw [e]
 congr 1
 ·rw [Bool.eq_iff_iff, List.any_eq_true, List.any_eq_true];have : ∀ a, (∃ b ∈ List.range r.length, (decide (a < b) && (bitL r a b && comesL f (mergedL r a b) k)) = true) ↔ (∃ b ∈ List.range r.length, (decide (a < b) && (bitL r a b && hasL (mergedL r a b) k)) = true) := fun a => by
   refine exists_congr fun b => and_congr_right fun hb => ?_
   rw [hasL, mergedL_length (List.mem_range.1 hb), hf]; rfl
  refine exists_congr fun a => and_congr_right fun ha => ?_
  rw [List.any_eq_true, List.any_eq_true];exact this a
 ·rw [Bool.eq_iff_iff, List.any_eq_true, List.any_eq_true];refine exists_congr fun v => and_congr_right fun hv => ?_
  rw [hasL, lessL_length (List.mem_range.1 hv), hf]; rfl
set_option maxHeartbeats 2000000 in
theorem Comes8_ok : ∀ m : Nat, SoundC Try.prog T 47 (Comes8C m) := by
 intro m
 induction m with
 | zero =>
  refine sound_con (X := { Γ := [(46, SizeC)], T := T, nt := 63 }) cr_none hmix hT (sound_cons Size_ok sound_nil) Try.func47 (by rfl) (by rfl) (by rfl) (by rfl) 2 ?_;rintro ⟨r, k⟩ ⟨hB, hm, hk⟩;dsimp only at hB hm hk ⊢;have hz := size_pos hk;have hz0 : 0 < sizeN k := by rcases hk with rfl | rfl <;> decide
  refine two_le ?_;refine Call.by _ _ (SizeC_at k) ?_;refine Pick.T (by simp [qiq, natL_length]; omega) ?_;refine Call.by _ _ (SizeC_at k) ?_;refine Pick.F (by simp [qiq, natL_length]; omega) ?_;refine ⟨rfl, ?_⟩;show Sc.b false = Sc.b (hasL r k)
  rw [has_small (by omega), decide_eq_false (by omega)]; rfl
 | succ m ih =>
  refine sound_con (X := { Γ := [(46, SizeC), (70, Is8C), (71, Merged8C), (72, Less8C), (47, Comes8C m)], T := T, nt := 63 }) cr_none hmix hT (sound_cons Size_ok (sound_cons Is8_ok (sound_cons Merged8_ok (sound_cons Less8_ok (sound_cons ih sound_nil))))) Try.func47 (by rfl) (by rfl) (by rfl) (by rfl) 2 ?_;rintro ⟨r, k⟩ ⟨hB, hm, hk⟩;dsimp only at hB hm hk ⊢;have hz := size_pos hk;have hl8 := hB.1;refine two_le ?_;refine Call.by _ _ (SizeC_at k) ?_;refine Pick.by (fun hc => ?_) (fun hc => ?_)
  ·have hle : r.length <= sizeN k := by rw [nats_length] at hc; have hc : decide ((r.length : Int) <= (patG k).1) = true := hc; have := of_decide_eq_true hc; omega
   rw [has_small hle];refine Call.by _ _ (SizeC_at k) ?_;refine Pick.by (fun h2 => ?_) (fun h2 => ?_)
   ·have h2 : r.length = sizeN k := by rw [nats_length] at h2; have h2 : ((r.length : Int) == (patG k).1) = true := h2; have := eq_of_beq h2; omega
    refine Call.by _ _ (Is8C_at ⟨hB, hk.elim (fun e => .inl ⟨e, by rw [h2, e]; decide⟩) fun e => .inr ⟨e, by rw [h2, e]; decide⟩⟩) ?_;refine ⟨rfl, ?_⟩;show Sc.b (isL r k) = Sc.b _
    rw [decide_eq_true h2, Bool.true_and]
   ·have h2 : ¬ r.length = sizeN k := by rw [nats_length] at h2; have h2 : ((r.length : Int) == (patG k).1) = false := h2; intro e; simp at h2; omega
    refine ⟨rfl, ?_⟩;show Sc.b false = Sc.b _
    rw [decide_eq_false h2, Bool.false_and]
  have hgt : sizeN k < r.length := by rw [nats_length] at hc; have hc : decide ((r.length : Int) <= (patG k).1) = false := hc; have := of_decide_eq_false hc; omega
  have hst := has_step hgt;have yes1 : ∀ a b, a < b -> b < r.length -> bitL r a b = true -> hasL (mergedL r a b) k = true -> Sc.b true = Sc.b (hasL r k) := fun a b h1 h2 h3 h4 => by
   rw [hst];have : (List.range r.length).any (fun a => (List.range r.length).any fun b => decide (a < b) && (bitL r a b && hasL (mergedL r a b) k)) = true := List.any_eq_true.2 ⟨a, List.mem_range.2 (by omega), List.any_eq_true.2 ⟨b, List.mem_range.2 h2, by rw [h3, h4]; simp [h1]⟩⟩;rw [this]; rfl
  have yes2 : ∀ v, v < r.length -> hasL (lessL r v) k = true -> Sc.b true = Sc.b (hasL r k) := fun v h1 h2 => by
   rw [hst];have : (List.range r.length).any (fun v => hasL (lessL r v) k) = true := List.any_eq_true.2 ⟨v, List.mem_range.2 h1, h2⟩;rw [this, Bool.or_true]
  refine LoopP.intro (α := Nat) (fun a => a <= r.length /\ ∀ a' b', a' < a -> a' < b' -> b' < r.length -> bitL r a' b' = true -> hasL (mergedL r a' b') k = false) (fun a => r.length - a) (fun a => [(0, .sl 0 none none), (1, .s (.i .i64 k)), (5, .s (.i .i64 (nats r).length)), (6, .s (.i .i64 a))])
   (fun a => [(0, some (.flat false 1 (nats r)))]) 1 0 ⟨by omega, by intros; omega⟩ (by refine Weak.ba [(0, some _)]) ?_
  rintro a ⟨ha, hno⟩;refine Pick.by (fun hc => ?_) (fun hc => ?_)
  ·have hlt : a < r.length := by rw [nats_length] at hc; simpa using hc
   refine Pick.n ?_;refine LoopP.intro (α := Nat) (fun b => a < b /\ b <= r.length /\ ∀ b', a < b' -> b' < b -> bitL r a b' = true -> hasL (mergedL r a b') k = false) (fun b => r.length - b) (fun b => [(0, .sl 0 none none), (1, .s (.i .i64 k)), (5, .s (.i .i64 (nats r).length)), (6, .s (.i .i64 a)), (7, .s (.i .i64 b))])
    (fun b => [(0, some (.flat false 1 (nats r)))]) 1 (a + 1) ⟨by omega, by omega, by intros; omega⟩ (by refine Weak.ba [(0, some _)]) ?_
   rintro b ⟨hab, hb, hno2⟩;refine Pick.by (fun hc2 => ?_) (fun hc2 => ?_)
   ·have hblt : b < r.length := by rw [nats_length] at hc2; simpa using hc2
    have hx := getD_lt hB.2 (show 0 < 256 by omega) a;have next : (bitL r a b = true -> hasL (mergedL r a b) k = false) -> ∀ b', a < b' -> b' < b + 1 -> bitL r a b' = true -> hasL (mergedL r a b') k = false := fun h b' h1 h2 => by
     by_cases e : b' = b
     ·rw [e]; exact h
     ·exact hno2 b' h1 (by omega)
    refine Idx.by a rfl (by rw [nats_length]; exact hlt) ?_;refine Look.by _ (nats_get hlt) ?_;refine Pick.T (inK_u64 (by omega) (by omega)) ?_;refine Pick.T (by simp; omega) ?_;have hbit := bitI (r.getD a 0) b hx;refine Pick.by (fun h3 => ?_) (fun h3 => ?_)
    ·have h3 : bitL r a b = true := hbit.symm.trans h3;refine Call.by _ _ (Merged8C_at ⟨hB, hlt, hblt⟩) ?_;refine Call.by _ _ (Comes8C_at ⟨hB.merged hlt hblt, by rw [mergedL_length hblt]; omega, hk⟩) ?_;refine Pick.by (fun h4 => ?_) (fun h4 => ?_)
     ·exact ⟨rfl, yes1 a b hab hblt h3 h4⟩
     ·have h4 : hasL (mergedL r a b) k = false := h4;refine Pick.n ?_;refine Next.by (b + 1) ⟨by omega, by omega, next fun _ => h4⟩ (by omega) (by refine Weak.ba [(0, some _)])
    ·have h3 : bitL r a b = false := hbit.symm.trans h3;refine Pick.n ?_;refine Next.by (b + 1) ⟨by omega, by omega, next fun h => by rw [h3] at h; cases h⟩ (by omega) (by refine Weak.ba [(0, some _)])
   ·have hbge : r.length <= b := by rw [nats_length] at hc2; simpa using hc2
    refine Pick.n ?_;refine Next.by (a + 1) ⟨by omega, fun a' b' h1 h2 h3 => ?_⟩ (by omega) (by refine Weak.ba [(0, some _)]);by_cases e : a' = a
    ·subst e; exact hno2 b' h2 (by omega)
    ·exact hno a' b' (by omega) h2 h3
  ·have hge : r.length <= a := by rw [nats_length] at hc; simpa using hc
   refine LoopP.intro (α := Nat) (fun v => v <= r.length /\ ∀ v', v' < v -> hasL (lessL r v') k = false) (fun v => r.length - v) (fun v => [(0, .sl 0 none none), (1, .s (.i .i64 k)), (5, .s (.i .i64 (nats r).length)), (8, .s (.i .i64 v))])
    (fun v => [(0, some (.flat false 1 (nats r)))]) 1 0 ⟨by omega, by intros; omega⟩ (by refine Weak.ba [(0, some _)]) ?_
   rintro v ⟨hv, hno2⟩;refine Pick.by (fun hc2 => ?_) (fun hc2 => ?_)
   ·have hvlt : v < r.length := by rw [nats_length] at hc2; simpa using hc2
    refine Call.by _ _ (Less8C_at ⟨hB, hvlt⟩) ?_;refine Call.by _ _ (Comes8C_at ⟨hB.less hvlt, by rw [lessL_length hvlt]; omega, hk⟩) ?_;refine Pick.by (fun h4 => ?_) (fun h4 => ?_)
    ·exact ⟨rfl, yes2 v hvlt h4⟩
    ·have h4 : hasL (lessL r v) k = false := h4;refine Pick.n ?_;refine Next.by (v + 1) ⟨by omega, fun v' h1 => ?_⟩ (by omega) (by refine Weak.ba [(0, some _)]);by_cases e : v' = v
     ·rw [e]; exact h4
     ·exact hno2 v' (by omega)
   ·have hvge : r.length <= v := by rw [nats_length] at hc2; simpa using hc2
    refine ⟨rfl, ?_⟩;show Sc.b false = Sc.b (hasL r k)
    congr 1
    rw [hst]
    symm
    rw [Bool.or_eq_false_iff, List.any_eq_false, List.any_eq_false];refine ⟨fun a' ha' => ?_, fun v' hv' => ?_⟩
    ·rw [Bool.not_eq_true, List.any_eq_false];intro b' hb';by_cases h1 : a' < b'
     ·cases h2 : bitL r a' b' with
      | false => simp
      | true => rw [hno a' b' (by have := List.mem_range.1 ha'; omega) h1 (List.mem_range.1 hb') h2]; simp
     ·simp [h1]
    ·rw [hno2 v' (by have := List.mem_range.1 hv'; omega)]; simp
noncomputable def hasB (n : Int) (E : List Ed) (k : Int) : Bool := decide (RightP n E) && (decide (n <= 8) && (decide ((patG k).1 ≠ 0) && hasL (rowsL n E) k))
noncomputable def Has8C : Con := conP 3 (fun _ : (Int × List Ed) × Int => True) (fun a => [grV a.1.1 a.1.2, .one (.s (.i .i64 a.2))]) (fun a => .one (.s (.b (hasB a.1.1 a.1.2 a.2))))
theorem Has8C_at (n : Int) (E : List Ed) (k : Int) : Has8C.F [grV n E, .one (.s (.i .i64 k))] = some (.one (.s (.b (hasB n E k))), []) :=
 conP_at (a := ((n, E), k)) (fun a b _ _ h => by
  obtain ⟨⟨n, E⟩, v⟩ := a;obtain ⟨⟨n', E'⟩, v'⟩ := b;simp at h;obtain ⟨h1, h2⟩ := h;obtain ⟨rfl, rfl⟩ := grV_inj h1;subst h2
  rfl) trivial
theorem pat_kind {k : Int} (h : (patG k).1 ≠ 0) : k = 1 \/ k = 2 := by
 rcases patG_cases k with ⟨h1, _⟩ | ⟨h1, _⟩ | ⟨_, _, e⟩
 ·exact .inl h1
 ·exact .inr h1
 ·exact absurd (by rw [e]) h
theorem Has8_ok : SoundC Try.prog T 18 Has8C := by
 refine sound_con (X := { Γ := [(45, RightC), (46, SizeC), (48, Rows8C), (47, Comes8C 8)], T := T, nt := 22 }) cr_none hmix hT (sound_cons Right3_ok (sound_cons Size_ok (sound_cons Rows8_ok (sound_cons (Comes8_ok 8) sound_nil)))) Try.func18 (by rfl) (by rfl) (by rfl) (by rfl) 3 ?_
 rintro ⟨⟨n, E⟩, k⟩ -
 refine two_le ?_
 refine Call.by _ _ (RightC_at n E) ?_
 refine Pick.by (fun h1 => ?_) (fun h1 => ?_)
 ·have h1 : ¬ RightP n E := by have h1 : (!decide (RightP n E)) = true := h1; simpa using h1
  refine ⟨rfl, ?_⟩;show Sc.b false = Sc.b (hasB n E k)
  unfold hasB;rw [decide_eq_false h1]; rfl
 have h1 : RightP n E := by have h1 : (!decide (RightP n E)) = false := h1; simpa using h1
 refine Pick.by (fun h2 => ?_) (fun h2 => ?_)
 ·have h2 : ¬ n <= 8 := by simp at h2; omega
  refine ⟨rfl, ?_⟩;show Sc.b false = Sc.b (hasB n E k)
  unfold hasB;rw [decide_eq_false h2, Bool.false_and, Bool.and_false]
 have h2 : n <= 8 := by simp at h2; omega
 refine Call.by _ _ (SizeC_at k) ?_
 refine Pick.by (fun h3 => ?_) (fun h3 => ?_)
 ·have h3 : (patG k).1 = 0 := by simpa using h3
  refine ⟨rfl, ?_⟩;show Sc.b false = Sc.b (hasB n E k)
  unfold hasB;rw [decide_eq_false (not_not_intro h3), Bool.false_and, Bool.and_false, Bool.and_false]
 have h3 : (patG k).1 ≠ 0 := by simpa using h3
 refine Call.by _ _ (Rows8C_at ⟨h1, h2⟩) ?_
 have hB := rows_byt h1 h2
 refine Call.by _ _ (Comes8C_at ⟨hB, hB.1, pat_kind h3⟩) ?_
 refine ⟨rfl, ?_⟩
 show Sc.b (hasL (rowsL n E) k) = Sc.b (hasB n E k)
 unfold hasB
 rw [decide_eq_true h1, decide_eq_true h2, decide_eq_true h3]; rfl
theorem narrow_has {n : Int} {E : List Ed} (hR : RightP n E) (h8 : n <= 8) : narrowB n E = !hasB n E 1 := by
 have h1 : hasB n E 1 = hasL (rowsL n E) 1 := by
  unfold hasB;rw [decide_eq_true hR, decide_eq_true h8, decide_eq_true (show (patG 1).1 ≠ 0 by decide)]; rfl
 rw [h1, Bool.eq_iff_iff, narrow_K4 hR, <- has_K4 hR]
 cases hasL (rowsL n E) 1 <;> simp
noncomputable def SSoundF := conF (fun a : (Int × List Ed) × List Int × List Nd => a.2.1.length <= maxLen /\ a.2.2.length <= maxLen) (fun a => [grV a.1.1 a.1.2, .one (.flat false 1 (ints a.2.1)), .one (.flat false 3 (nods a.2.2))]) (fun _ => .one (.s (.b true)))
set_option maxHeartbeats 1000000 in
theorem SSound_ok : SoundP Try.prog 6 SSoundF := by
 refine con_pure (X := { Γ := [(8, Shown13C), (9, OfC), (14, CkC), (17, IndC), (18, Has8C), (15, TakeC 20)], T := T, nt := Try.f6.ntmps }) cr_none hmix hT
  (sound_cons Shown13_ok (sound_cons Of_ok (sound_cons Ck_ok (sound_cons Ind_ok (sound_cons Has8_ok (sound_cons Ours13_ok sound_nil)))))) Try.func6 (by rfl) (by rfl) (by rfl) 4 ?_
 rintro ⟨⟨n, E⟩, l, t⟩ ⟨hl, ht⟩
 dsimp only at hl ht ⊢
 unfold maxLen at hl ht
 refine two_le ?_
 refine Call.by _ _ Shown13C_at ?_
 refine Call.by _ _ (OfC_at n E (most := 7) (by omega)) ?_
 have hR := any_right (n := n) (l := E) (most := 7) (by omega) (by omega)
 have hm7 := anyN_range (n := n) (most := 7) (by omega)
 obtain ⟨m, hm⟩ : ∃ m, anyN n 7 = m := ⟨_, rfl⟩
 obtain ⟨F, hF⟩ : ∃ F, anyE n E 7 = F := ⟨_, rfl⟩
 rw [hm, hF] at hR
 rw [hm] at hm7
 rw [hm, hF]
 have hlen := qiq l
 refine Rng.by 0 (min l.length 10) rfl (by rw [hlen]; exact min_lt (by omega)) (by omega) (by omega) ?_
 have c1 : cut (subOf none 0 0 (min l.length 10)) (ints l) = ints (l.take 10) := cut_min 10 l ints (ints_take l)
 have hl2 : (l.take 10).length <= 1000 := by rw [List.length_take]; omega
 refine Call.by _ _ (TakeC_at (k := 20) (l := t) (by omega)) ?_
 refine Call.by _ _ (show CkC.F [grV m F, .one (.flat false 1 (cut (subOf none 0 0 (min l.length 10)) (ints l))), .one (.flat false 3 (nods (t.take 20)))] = _ by rw [c1]; exact CkC_at ⟨hl2, by rw [List.length_take]; omega⟩) ?_
 refine Seg.by (by kernel_rfl) ?_
 refine Pick.by (fun h1 => ?_) (fun h1 => ?_)
 ·exact ⟨rfl, rfl⟩
 have h1 : ckF m F (l.take 10) (t.take 20) = true := by have h1 : (!ckF m F (l.take 10) (t.take 20)) = false := h1; simpa using h1
 have hT := ck_two h1
 obtain ⟨hR2, h22, ⟨hnd, hrng⟩, -⟩ := ck_two h1
 obtain ⟨hI, hRF⟩ := ind_two hl2 hR2 hnd hrng
 have hIC := IndC_at (n := m) (E := F) (l := l.take 10) hl2
 rw [hI] at hIC
 refine Call.by _ _ (show IndC.F [grV m F, .one (.flat false 1 (cut (subOf none 0 0 (min l.length 10)) (ints l)))] = _ by rw [c1]; exact hIC) ?_
 have hH := Has8C_at ((l.take 10).length : Nat) (normE (ownG (l.take 10) F)) 1
 have hno : hasB ((l.take 10).length : Nat) (normE (ownG (l.take 10) F)) 1 = false := by
  have hnar := ck_nar hl2 h1;unfold narG at hnar;have h8 : ((l.take 10).length : Int) <= 8 := by
   have := len_subD (m := (List.range m.toNat).map fun (x : Nat) => (x : Int)) hnd fun v hv => List.mem_map.2 ⟨v.toNat, List.mem_range.2 (by have := hrng v hv; omega), Int.toNat_of_nonneg (hrng v hv).1⟩
   rw [List.length_map, List.length_range] at this;omega
  rw [narrow_has hRF h8] at hnar;simpa using hnar
 rw [hno] at hH
 refine Call.by _ _ hH ?_
 exact ⟨rfl, rfl⟩
def i64 (x : Int) : Prop := -9223372036854775808 <= x /\ x <= 9223372036854775807
theorem VTy.struct {T : Tab} {t : Nat} {ti : TI} {fs : List (Nat × Nat)} {v : V} (ht : lk T t = some ti) (hk : ti.kind = .struct fs) (h : VTy T t v) : ∃ cs, v = .agg cs /\ All2 (fun (f : Nat × Nat) c => CTy T f.2 c) fs cs := by
 unfold VTy at h
 rw [ht] at h
 simp only at h
 rw [hk] at h
 exact h
theorem VTy.cell {T : Tab} {t : Nat} {ti : TI} {v : V} (ht : lk T t = some ti) (hk : ∀ fs, ti.kind ≠ .struct fs /\ ∀ n e, ti.kind ≠ .array n e) (h : VTy T t v) : ∃ c, v = .one c /\ CTy T t c := by
 unfold VTy at h
 rw [ht] at h
 simp only at h
 cases hq : ti.kind with
 | struct fs => exact absurd hq (hk fs).1
 | array n e => exact absurd hq ((hk []).2 n e)
 | _ => rw [hq] at h; exact h
theorem VTy.array {T : Tab} {t : Nat} {ti : TI} {n e : Nat} {v : V} (ht : lk T t = some ti) (hk : ti.kind = .array n e) (h : VTy T t v) : ∃ cs, v = .agg cs /\ cs.length = n /\ ∀ c ∈ cs, CTy T e c := by
 unfold VTy at h
 rw [ht] at h
 simp only at h
 rw [hk] at h
 exact h
theorem ScTy.int {T : Tab} {t : Nat} {ti : TI} {k : IntKind} {x : Sc} (ht : lk T t = some ti) (hk : ti.kind = .int k) (h : ScTy T t x) : ∃ n, x = .i k n /\ (Lit.int k n).wf = true := by
 unfold ScTy at h
 rw [ht] at h
 simp only at h
 rw [hk] at h
 cases x with
 | i k' n => obtain ⟨rfl, h⟩ := h; exact ⟨n, rfl, h⟩
 | b _ => exact h.elim
theorem CTy.sc {T : Tab} {t : Nat} {c : C} (hs : sliceE T t = none) (h : CTy T t c) : ∃ x, c = .s x /\ ScTy T t x := by
 unfold CTy at h
 rw [hs] at h
 exact h
theorem CTy.flat {T : Tab} {t e : Nat} {c : C} (hs : sliceE T t = some e) (hs2 : sliceE T e = none) (h : CTy T t c) : ∃ rows, c = .flat false (sizeT T e) rows /\ FlatTy T e rows := by
 unfold CTy at h
 rw [hs] at h
 simp only at h
 rw [hs2] at h
 exact h
theorem CTy.nest {T : Tab} {t e e2 : Nat} {c : C} (hs : sliceE T t = some e) (hs2 : sliceE T e = some e2) (h : CTy T t c) : ∃ rows, c = .nest false (sizeT T e2) rows /\ rows.length <= maxLen /\ ∀ fl ∈ rows, FlatTy T e2 fl := by
 unfold CTy at h
 rw [hs] at h
 simp only at h
 rw [hs2] at h
 exact h
theorem i64_wf {n : Int} (h : (Lit.int .i64 n).wf = true) : i64 n := by
 simp [Lit.wf, IntKind.min, IntKind.max, IntKind.signed, IntKind.bits] at h
 exact h
theorem list_ex {α β : Type} {P : α -> β -> Prop} : ∀ {l : List α}, (∀ x ∈ l, ∃ y, P x y) -> ∃ m : List β, All2 P l m := by
 intro l
 induction l with
 | nil => intro _; exact ⟨[], All2.nil⟩
 | cons x l ih =>
  intro h;obtain ⟨y, hy⟩ := h x (by simp);obtain ⟨m, hm⟩ := ih fun x hx => h x (by simp [hx])
  exact ⟨y :: m, All2.cons' hy hm⟩
theorem All2.map_eq {α β : Type} {f : β -> α} {l : List α} {m : List β} (h : All2 (fun x y => x = f y) l m) : l = m.map f := by
 apply List.ext_getElem?
 intro i
 rw [List.getElem?_map]
 by_cases hi : i < l.length
 ·have him : i < m.length := by rw [<- h.1]; exact hi
  rw [qEq hi, qEq him, Option.map_some, h.2 i _ _ (qEq hi) (qEq him)]
 ·rw [List.getElem?_eq_none (by omega), List.getElem?_eq_none (by rw [<- h.1]; omega)]; rfl
theorem All2.mem {α β : Type} {R : α -> β -> Prop} {l : List α} {m : List β} (h : All2 R l m) {y : β} (hy : y ∈ m) : ∃ x ∈ l, R x y := by
 obtain ⟨i, hi⟩ := List.mem_iff_getElem?.1 hy
 have hl := (qSq.1 hi).1
 rw [<- h.1] at hl
 exact ⟨_, List.getElem_mem hl, h.2 i _ y (qEq hl) hi⟩
theorem row_int {row : Row} (h : RowTy T 3 row) : ∃ n, row = [.i .i64 n] /\ i64 n := by
 obtain ⟨x, rfl, hx⟩ := h
 obtain ⟨n, rfl, hw⟩ := ScTy.int (t := 3) rfl rfl hx
 exact ⟨n, rfl, i64_wf hw⟩
theorem ints_of {fl : Flat} (h : FlatTy T 3 fl) : ∃ l : List Int, fl = ints l /\ l.length <= maxLen /\ ∀ x ∈ l, i64 x := by
 obtain ⟨m, hm⟩ := list_ex (P := fun row n => row = [Sc.i .i64 n] /\ i64 n) fun row hr => row_int (h.2 row hr)
 refine ⟨m, All2.map_eq (f := fun n => [Sc.i .i64 n]) (hm.imp fun _ _ _ k => k.1), by rw [<- hm.1]; exact h.1, fun x hx => ?_⟩
 obtain ⟨_, _, k⟩ := hm.mem hx
 exact k.2
theorem All2.two {α β : Type} {R : α -> β -> Prop} {a b : α} {m : List β} (h : All2 R [a, b] m) : ∃ x y, m = [x, y] /\ R a x /\ R b y := by
 obtain ⟨h1, h2⟩ := h
 match m, h1, h2 with
 | [x, y], _, h2 => exact ⟨x, y, rfl, h2 0 a x rfl rfl, h2 1 b y rfl rfl⟩
theorem All2.one {α β : Type} {R : α -> β -> Prop} {a : α} {m : List β} (h : All2 R [a] m) : ∃ x, m = [x] /\ R a x := by
 obtain ⟨h1, h2⟩ := h
 match m, h1, h2 with
 | [x], _, h2 => exact ⟨x, rfl, h2 0 a x rfl rfl⟩
theorem All2.three {α β : Type} {R : α -> β -> Prop} {a b c : α} {m : List β} (h : All2 R [a, b, c] m) : ∃ x y z, m = [x, y, z] /\ R a x /\ R b y /\ R c z := by
 obtain ⟨h1, h2⟩ := h
 match m, h1, h2 with
 | [x, y, z], _, h2 => exact ⟨x, y, z, rfl, h2 0 a x rfl rfl, h2 1 b y rfl rfl, h2 2 c z rfl rfl⟩
theorem row_edge {row : Row} (h : RowTy T 60 row) : ∃ p : Ed, row = [.i .i64 p.1, .i .i64 p.2] /\ i64 p.1 /\ i64 p.2 := by
 obtain ⟨_, h⟩ := h
 obtain ⟨x, y, rfl, hx, hy⟩ := All2.two h
 obtain ⟨n, rfl, hn⟩ := ScTy.int (t := 3) rfl rfl hx
 obtain ⟨m, rfl, hm⟩ := ScTy.int (t := 3) rfl rfl hy
 exact ⟨(n, m), rfl, i64_wf hn, i64_wf hm⟩
theorem edges_of {fl : Flat} (h : FlatTy T 60 fl) : ∃ E : List Ed, fl = edges E /\ E.length <= maxLen /\ ∀ p ∈ E, i64 p.1 /\ i64 p.2 := by
 obtain ⟨m, hm⟩ := list_ex (P := fun row (p : Ed) => row = [Sc.i .i64 p.1, Sc.i .i64 p.2] /\ i64 p.1 /\ i64 p.2) fun row hr => row_edge (h.2 row hr)
 refine ⟨m, All2.map_eq (f := fun p : Ed => [Sc.i .i64 p.1, Sc.i .i64 p.2]) (hm.imp fun _ _ _ k => k.1), by rw [<- hm.1]; exact h.1, fun x hx => ?_⟩
 obtain ⟨_, _, k⟩ := hm.mem hx
 exact k.2
theorem net_of {v : V} (h : VTy T 24 v) : ∃ n E, v = grV n E /\ i64 n /\ ∀ p ∈ E, i64 p.1 /\ i64 p.2 := by
 obtain ⟨cs, rfl, hcs⟩ := VTy.struct (t := 24) rfl rfl h
 obtain ⟨x, y, rfl, hx, hy⟩ := All2.two hcs
 obtain ⟨z, rfl, hz⟩ := CTy.sc (t := 3) rfl hx
 obtain ⟨n, rfl, hw⟩ := ScTy.int (t := 3) rfl rfl hz
 obtain ⟨rows, rfl, hr⟩ := CTy.flat (t := 22) (e := 60) rfl rfl hy
 obtain ⟨E, rfl, _, hE⟩ := edges_of hr
 exact ⟨n, E, rfl, i64_wf hw, hE⟩
theorem own : ownKnob Try.prog.godebug = none := by kernel_rfl
theorem laidOut : laidOutB Try.prog = true := by kernel_rfl
set_option maxRecDepth 100000 in
theorem law_row {s : ChangeSpec} {f : FuncId} {fn : Func} {conds : List PathCond} {apart fresh handsOn : Bool} {ts : List TypeId} {F : List V -> Option (V × List V)} (hf : Try.prog.funcs[f]? = some fn) (hin : Try.prog.inits.idxOf? f = none) (hv : s.vars = [])
  (hts : fn.params.toList = ts) (ha : ts.all (argB T) = true) (hr : ts.all (fun t => Try.prog.readableRec t && Nat.blt t Try.prog.types.size) = true) (hres : fn.resultTypes = #[4])
  (hsp : ∀ (H : Type) (ds : List (DataW H)), ds.length = ts.length -> (s.fn H ds).results = [.lit (.bool true)] /\ (s.fn H ds).args = ds /\ (s.fn H ds).vars = [])
  (hS : SoundP Try.prog f F) (hF : LawV T ts F) (os : Os) (started : os.Started) (H : Type) (enc : TypeId × Value -> H) (a : Assume)
  (hw : ∃ (w : World) (tape : Tape) (i : Input), w.os = os /\ (w.forCall tape i).Shaped Try.checked.prog /\ i.vars = [] /\ Input.okWide Try.checked.prog (w.forCall tape i) .any w.heap.size f i /\
   s.pre6 enc Try.checked.prog fn conds apart (w.forCall tape i).memory i.args /\ a.holds Try.checked.prog (lone (Frame.enter Try.checked.prog f i.args .normal) [] (w.forCall tape i))) :
  ReturnsInHanded a Try.checked os f .any (s.pre6 enc Try.checked.prog fn conds apart) (s.post enc Try.checked.prog fn apart fresh handsOn false) := by
 refine returnsInHanded_of_change (C := Try.checked) own started hin hf hw ?_
 intro W base args ds gs before hval hW _ _
 refine law_contract (P := Try.prog) (conds := conds) hT laidOut hv hts ha (fun t ht => ?_) hres Try.underlying4 (hsp H) hS hF hval hW
 have := List.all_eq_true.1 hr t ht
 simp only [Bool.and_eq_true] at this
 exact ⟨this.1, Nat.le_of_ble_eq_true this.2⟩
theorem ScTy.bool {T : Tab} {t : Nat} {ti : TI} {x : Sc} (ht : lk T t = some ti) (hk : ti.kind = .bool) (h : ScTy T t x) : ∃ b, x = .b b := by
 unfold ScTy at h
 rw [ht] at h
 simp only at h
 rw [hk] at h
 cases x with
 | i k' n => exact h.elim
 | b b => exact ⟨b, rfl⟩
theorem All2.four {α β : Type} {R : α -> β -> Prop} {a b c d : α} {m : List β} (h : All2 R [a, b, c, d] m) : ∃ x y z t, m = [x, y, z, t] /\ R a x /\ R b y /\ R c z /\ R d t := by
 obtain ⟨h1, h2⟩ := h
 match m, h1, h2 with
 | [x, y, z, t], _, h2 => exact ⟨x, y, z, t, rfl, h2 0 a x rfl rfl, h2 1 b y rfl rfl, h2 2 c z rfl rfl, h2 3 d t rfl rfl⟩
theorem row_nod {row : Row} (h : RowTy T 77 row) : ∃ p : Nd, row = [.i .i64 p.1, .i .i64 p.2.1, .i .i64 p.2.2] := by
 obtain ⟨_, h⟩ := h
 obtain ⟨x, y, z, rfl, hx, hy, hz⟩ := All2.three h
 obtain ⟨n, rfl, hn⟩ := ScTy.int (t := 3) rfl rfl hx
 obtain ⟨m, rfl, hm⟩ := ScTy.int (t := 3) rfl rfl hy
 obtain ⟨k, rfl, hk⟩ := ScTy.int (t := 3) rfl rfl hz
 exact ⟨(n, m, k), rfl⟩
theorem nodes_cell {c : C} (hc : CTy T 33 c) : ∃ l : List Nd, c = .flat false 3 (nods l) /\ l.length <= maxLen := by
 obtain ⟨rows, rfl, hr⟩ := CTy.flat (t := 33) (e := 77) rfl rfl hc
 obtain ⟨m, hm⟩ := list_ex (P := fun row (p : Nd) => row = [Sc.i .i64 p.1, Sc.i .i64 p.2.1, Sc.i .i64 p.2.2]) fun row hq => row_nod (hr.2 row hq)
 have e := All2.map_eq (f := fun p : Nd => [Sc.i .i64 p.1, Sc.i .i64 p.2.1, Sc.i .i64 p.2.2]) hm
 exact ⟨m, by rw [e]; rfl, by rw [<- hm.1]; exact hr.1⟩
theorem nodes_of {v : V} (h : VTy T 33 v) : ∃ l : List Nd, v = .one (.flat false 3 (nods l)) /\ l.length <= maxLen := by
 obtain ⟨c, rfl, hc⟩ := VTy.cell (ti := { kind := .slice 77, size := _, bytes := _, zero := _, eqs := _, cells := _ }) rfl (fun fs => by simp) h
 obtain ⟨l, rfl, hl⟩ := nodes_cell hc
 exact ⟨l, rfl, hl⟩
theorem row_of {v : V} (h : VTy T 25 v) : ∃ l : List Int, v = .one (.flat false 1 (ints l)) /\ l.length <= maxLen /\ ∀ x ∈ l, i64 x := by
 obtain ⟨c, rfl, hc⟩ := VTy.cell (ti := { kind := .slice 3, size := _, bytes := _, zero := _, eqs := _, cells := _ }) rfl (fun fs => by simp) h
 obtain ⟨rows, rfl, hr⟩ := CTy.flat (t := 25) (e := 3) rfl rfl hc
 obtain ⟨l, rfl, h1, h2⟩ := ints_of hr
 exact ⟨l, rfl, h1, h2⟩
end Go.Sh
