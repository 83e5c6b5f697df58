/- What the functions answer that the statement reaches. No condition. -/
import Derived.Test.YthdaaiafakijdaaGreatFn2
import Derived.Sort.QuietIn
import Derived.Sort.QuietTacIn
import Derived.Test.YthdaaiafakijdaaGreatRows
set_option linter.unusedVariables false
set_option linter.unusedSimpArgs false
set_option linter.unusedSectionVars false
namespace Go.Sh
open Go.Proofs
noncomputable def sptF (n : Int) (E : List Ed) (l : List Int) : List Nd × Int := if twoB n E l = true then runSp 6 (withL l E).length l.length (startS E l) else ([], 1)
noncomputable def SptC : Con := conP 2 (fun a : (Int × List Ed) × List Int => a.2.length <= 1000) (fun a => [grV a.1.1 a.1.2, .one (.flat false 1 (ints a.2))]) (fun a => .tup [.one (.flat true 3 (nods (sptF a.1.1 a.1.2 a.2).1)), .one (.s (.i .i64 (sptF a.1.1 a.1.2 a.2).2))])
theorem SptC_at {n : Int} {E : List Ed} {l : List Int} (h : l.length <= 1000) : SptC.F [grV n E, .one (.flat false 1 (ints l))] = some (.tup [.one (.flat true 3 (nods (sptF n E l).1)), .one (.s (.i .i64 (sptF n E l).2))], []) :=
 conP_at (a := ((n, E), l)) (fun x y _ _ h => by
  obtain ⟨⟨n, E⟩, l⟩ := x;obtain ⟨⟨n', E'⟩, l'⟩ := y;simp at h;obtain ⟨h1, h2⟩ := h;obtain ⟨rfl, rfl⟩ := grV_inj h1;rw [ints_inj h2]) h
noncomputable def XSpt : Cx := { Γ := [(33, TwoC), (66, OwnC), (67, ConcatC), (70, IndexC), (71, PairC)], T := T, nt := 204, inl := [(36, inlF Tryz.f36), (68, inlF Tryz.f68), (69, inlF Tryz.f69)], ext := [35], base := seqCR 35 79 1 srtP srtF }
theorem XSpt_s : Sound Tryz.prog T XSpt.Γ := sound_cons Two_ok (sound_cons Own_ok (sound_cons Concat_ok (sound_cons Index_ok (sound_cons Pair_ok sound_nil))))
theorem XSpt_ok : CrOk Tryz.prog (callAt 2 XSpt) := callAt_ok hmix hT XSpt_s (inl_cons Tryz.func36 (by rfl) (by rfl) (by rfl) (inl_cons Tryz.func68 (by rfl) (by rfl) (by rfl) (inl_cons Tryz.func69 (by rfl) (by rfl) (by rfl) inl_nil))) (seq_ok Sorted_call) 2
theorem concat2 {a b : List Int} : [a, b].flatten = a ++ b := by simp
theorem cat_at {F G : Flat} {a b : List Int} (ha : F = ints a) (hb : G = ints b) (hl : a.length + b.length <= 100000000) : ConcatC.F [.one (.nest false 1 [F, G])] = some (.one (.flat true 1 (ints (a ++ b))), []) := by
 subst ha hb
 have := ConcatC_at (L := [a, b]) ⟨by simp, by simp; omega⟩
 rw [concat2] at this
 exact this
theorem stN_snoc {L : List Ed} {x : Ed} : stN (L ++ [x]).reverse = nput (nput (stN L.reverse) x.1 (nget (stN L.reverse) x.1 ++ [x.2])) x.2 (nget (nput (stN L.reverse) x.1 (nget (stN L.reverse) x.1 ++ [x.2])) x.2 ++ [x.1]) := by rw [List.reverse_append]; rfl
theorem stT_snoc {L : List Ed} {x : Ed} : stT (L ++ [x]).reverse = mapPut (stT L.reverse) (keyE x) (L.length : Nat) := by
 rw [List.reverse_append]
 show mapPut (stT L.reverse) (keyE x) (L.reverse.length : Nat) = _
 rw [List.length_reverse]
set_option maxRecDepth 200000 in
set_option maxHeartbeats 4000000 in
theorem Spt_ok : SoundC Tryz.prog T 25 SptC := by
 refine sound_con (X := XSpt) (cr := callAt 2 XSpt) XSpt_ok hmix hT XSpt_s Tryz.func25 (by rfl) (by rfl) (by rfl) (by rfl) 3 ?_
 rintro ⟨⟨n, E⟩, l⟩ hl
 dsimp only at hl ⊢
 refine two_le ?_
 refine Call.by _ _ (TwoC_at hl) ?_
 refine Pick.by (fun h1 => ?_) (fun h1 => ?_)
 ·have hF : sptF n E l = ([], 1) := if_neg fun h => by rw [h] at h1; simp at h1
  rw [hF];refine ⟨rfl, ?_⟩
  (repeat' first|exact rfl|exact trivial|apply And.intro)
 have h1 : twoB n E l = true := by cases h : twoB n E l with | true => rfl | false => rw [h] at h1; simp at h1
 obtain ⟨hR, h2, ⟨hnd, hrng⟩, -⟩ := twoB_iff.1 h1
 have hEl := hR.2.2.1
 obtain ⟨W, hW⟩ : ∃ W, withL l E = W := ⟨_, rfl⟩
 have hWl : W.length <= 4000 := by rw [<- hW]; exact Nat.le_trans withL_len hEl
 have hWok := (withL_ok (l := l) hR).1
 rw [hW] at hWok
 have hF : sptF n E l = runSp 6 W.length l.length (startS E l) := by unfold sptF; rw [if_pos h1, hW]
 have hS : startS E l = { left := sortI l, near := stN W.reverse, thing := stT W.reverse, out := [] } := by unfold startS; rw [hW]
 have hok0 := start_ok (l := l) hR hnd
 refine Call.by _ _ (WithC_at (n := n) (E := E) (l := l) ⟨hEl, by omega, hR, hrng⟩) ?_
 rw [hW]
 refine LoopP.intro (α := Nat) (fun i => i <= W.length) (fun i => W.length - i) (fun i => [(1, .sl 0 none none), (6, .mp 1), (7, .ptr 2 0), (8, .sl 4 none none), (31, .sl 4 none none), (32, .s (.i .i64 W.length)), (33, .s (.i .i64 i))])
  (fun i => [(0, some (.flat false 1 (ints l))), (1, some (.map true 2 (stT (W.take i).reverse))), (2, some (.blk [.mp 3])), (3, some (.fmap (encN (stN (W.take i).reverse)))), (4, some (.flat true 2 (edges W)))]) 5 0 (by omega) (by refine Weak.bw (sg 0 [_,_,_,_,_]) (by ((repeat' first|exact rfl|exact trivial|apply And.intro) <;> (repeat' first|exact rfl|exact trivial|apply And.intro)); all_goals (exact sc_eq (by rw [qeq])))) ?_
 rintro i hi
 refine Pick.by (fun hc => ?_) (fun hc => ?_)
 ·have hlt : i < W.length := by have := of_decide_eq_true hc; omega
  obtain ⟨⟨a, b⟩, hx⟩ : ∃ x, W[i] = x := ⟨_, rfl⟩;have hWi : W[i]? = some (a, b) := by rw [qEq hlt, hx]
  have hok := hWok _ (qMq hWi);unfold okE at hok;have hn := hR.2.1;have hts : W.take (i + 1) = W.take i ++ [(a, b)] := by rw [List.take_add_one, hWi]; rfl
  have hnear : ∀ v, nget (stN (W.take i).reverse) v = nearL (W.take i) v := fun v => by
   have := stN_near (n := n) (r := (W.take i).reverse) (fun p hp => hWok p (List.mem_of_mem_take (by simpa using hp))) v;rw [List.reverse_reverse] at this; exact this
  have hnl : ∀ v, (nearL (W.take i) v).length <= 8000 := fun v => by have := nearL_length (W.take i) v; rw [List.length_take] at this; omega
  refine Idx.by i rfl (by rw [qeq]; exact hlt) ?_;refine Look.by _ (edges_get hWi) ?_;refine Pick.n ?_;refine Pick.n ?_;refine Pick.n ?_;obtain ⟨N, hN⟩ : ∃ N, stN (W.take i).reverse = N := ⟨_, rfl⟩;rw [hN] at hnear;rw [hN];refine Call.by _ _ (cat_at (a := nget N a) (b := [b]) (fget_enc N a) rfl (by rw [hnear, List.length_singleton]; have := hnl a; omega)) ?_;refine Pick.n ?_;refine Seg.by (by kernel_rfl) ?_;rw [fput_enc];obtain ⟨N1, hN1⟩ : ∃ N1, nput N a (nget N a ++ [b]) = N1 := ⟨_, rfl⟩;have hN1g : nget N1 b = nget N b := by rw [<- hN1, nget_put, if_neg (by omega)]
  rw [hN1];refine Pick.n ?_;refine Call.by _ _ (cat_at (a := nget N1 b) (b := [a]) (fget_enc N1 b) rfl (by rw [hN1g, hnear, List.length_singleton]; have := hnl b; omega)) ?_;refine Pick.n ?_;refine Seg.by (by kernel_rfl) ?_;rw [fput_enc];refine Pick.n ?_;have hNf : stN (W.take (i + 1)).reverse = nput N1 b (nget N1 b ++ [a]) := by rw [hts, stN_snoc, hN, hN1]
  have hTf : stT (W.take (i + 1)).reverse = mapPut (stT (W.take i).reverse) [a, b] (i : Int) := by
   rw [hts, stT_snoc, List.length_take, show min i W.length = i by omega]; rfl
  refine Next.by (i + 1) (by omega) (by omega) (by refine Weak.bw (sg 0 [_,_,_,_,_]) (by ((repeat' first|exact rfl|exact trivial|apply And.intro) <;> (repeat' first|exact rfl|exact trivial|apply And.intro)); all_goals ((first|exact sc_eq (by omega) | exact congrArg encN hNf | exact hTf))))
 have hil : i = W.length := by have := of_decide_eq_false hc; omega
 subst hil
 rw [List.take_length]
 refine ⟨rfl, rfl, _, _, _, .inl rfl, rfl, ⟨l, rfl, by omega⟩, ?_⟩
 have hS0 : ({ left := sortI l, near := stN W.reverse, thing := stT W.reverse, out := [] } : Sp) = startS E l := hS.symm
 refine LoopP.intro (α := Sp) (fun s => SpI s /\ runSp 6 W.length s.left.length s = sptF n E l /\ s.out.length + 2 * s.left.length <= 2 * l.length /\ ∀ v ∈ s.left, v ∈ l) (fun s => s.left.length) (fun s => [(6, .mp 0), (7, .ptr 1 0), (8, .sl 3 none none), (11, .sl 4 none none), (12, .sl 5 none none)])
  (fun s => [(0, some (.map true 2 s.thing)), (1, some (.blk [.mp 2])), (2, some (.fmap (encN s.near))), (3, some (.flat true 2 (edges W))), (4, some (.flat true 3 (nods s.out))), (5, some (.flat false 1 (ints s.left)))]) 6 { left := sortI l, near := stN W.reverse, thing := stT W.reverse, out := [] }
  ⟨by rw [hS0]; exact hok0, by rw [hS0, hF]; show runSp 6 W.length (sortI l).length _ = _; rw [sortI_length], by show 0 + 2 * (sortI l).length <= _; rw [sortI_length]; omega, fun v hv => mem_sortI.1 hv⟩ (by refine Weak.bf [229] [(0, some _), (1, some _), (2, some _), (3, some _), (4, none), (5, some _)] (by ((repeat' first|exact rfl|exact trivial|apply And.intro) <;> (repeat' first|exact rfl|exact trivial|apply And.intro)); all_goals ((first | exact (srtF_ints l).symm | exact srtF_ints l))) (by rfl)) ?_
 rintro s ⟨hok, hrun, hout, hin⟩
 have hin64 : ∀ {v : Int}, v ∈ s.left -> inI64 v = true := fun {v} hv => by have h1 := hrng v (hin v hv); have h2 := hR.2.1; exact inI64_of (by omega) (by omega)
 have hleft : s.left.length <= 1000 := by omega
 refine Pick.by (fun hc => ?_) (fun hc => ?_)
 case refine_2 =>
  have h2 : s.left.length <= 2 := by have := of_decide_eq_false hc; rw [qiq] at this; omega
  rw [runSp_stop h2] at hrun;rw [<- hrun];refine ⟨rfl, ?_⟩
  (repeat' first|exact rfl|exact trivial|apply And.intro)
 have h3 : ¬ s.left.length <= 2 := by have := of_decide_eq_true hc; rw [qiq] at this; omega
 obtain ⟨f, hf⟩ : ∃ f, s.left.length = f + 1 := ⟨s.left.length - 1, by omega⟩
 rw [hf] at hrun
 simp only [runSp] at hrun
 rw [if_neg h3] at hrun
 have h20 : ∀ v, (fget (encN s.near) v).length = (nget s.near v).length := fun v => by rw [fget_enc, qiq]
 refine LoopP.intro (α := Nat) (fun k => k <= s.left.length /\ ∀ j (hj : j < s.left.length), j < k -> (nget s.near s.left[j]).length ≠ 2) (fun k => s.left.length - k) (fun k => [(0, .sl 5 none none), (1, .fn 69 [.ptr 1 0]), (7, .s (.i .i64 s.left.length)), (8, .s (.i .i64 k)), (1000006, .mp 0), (1000007, .ptr 1 0), (1000008, .sl 3 none none), (1000011, .sl 4 none none), (1000012, .sl 5 none none)])
  (fun k => [(0, some (.map true 2 s.thing)), (1, some (.blk [.mp 2])), (2, some (.fmap (encN s.near))), (3, some (.flat true 2 (edges W))), (4, some (.flat true 3 (nods s.out))), (5, some (.flat false 1 (ints s.left)))]) 6 0 ⟨by omega, by omega⟩ (by refine Weak.bw (sg 0 [_,_,_,_,_,_]) (by ((repeat' first|exact rfl|exact trivial|apply And.intro) <;> (repeat' first|exact rfl|exact trivial|apply And.intro)); all_goals (exact sc_eq (by rw [qiq])))) ?_
 rintro k ⟨hk, hno⟩
 refine Pick.by (fun hc2 => ?_) (fun hc2 => ?_)
 case refine_2 =>
  have hke : k = s.left.length := by have := of_decide_eq_false hc2; omega
  have hpk : pickS s = none := by
   unfold pickS;rw [List.findIdx?_eq_none_iff];intro x hx;obtain ⟨j, hj, rfl⟩ := List.getElem_of_mem hx;exact decide_eq_false (hno j hj (by omega))
  rw [hpk] at hrun;rw [<- hrun];refine ⟨rfl, ?_⟩
  (repeat' first|exact rfl|exact trivial|apply And.intro)
 have hlt : k < s.left.length := by have := of_decide_eq_true hc2; omega
 have hkm : s.left[k] ∈ s.left := List.getElem_mem hlt
 refine Idx.by k rfl (by rw [qiq]; exact hlt) ?_
 refine Look.by _ (qhq (qEq hlt)) ?_
 refine Pick.T (hin64 hkm) ?_
 refine Pick.by (fun hc3 => ?_) (fun hc3 => ?_)
 case refine_2 =>
  have hne : (nget s.near s.left[k]).length ≠ 2 := fun e => ne_of_beq_false hc3 (by rw [h20, e]; rfl)
  refine Pick.n ?_;refine Next.by (k + 1) ⟨by omega, fun j hj hjk => by
   by_cases e : j = k
   ·subst e; exact hne
   ·exact hno j hj (by omega)⟩ (by omega) (by refine Weak.bw (sg 0 [_,_,_,_,_,_]) (by ((repeat' first|exact rfl|exact trivial|apply And.intro) <;> (repeat' first|exact rfl|exact trivial|apply And.intro)); all_goals (exact sc_eq (by omega))))
 have hc3 : (nget s.near s.left[k]).length = 2 := by have := eq_of_beq hc3; rw [h20] at this; omega
 have hpk : pickS s = some k := by
  unfold pickS;rw [List.findIdx?_eq_some_iff_getElem];exact ⟨hlt, decide_eq_true hc3, fun j hj => by rw [decide_eq_true_eq]; exact hno j (by omega) hj⟩
 rw [hpk] at hrun
 dsimp only at hrun
 obtain ⟨v, p, q, hp⟩ := hok.pick hpk
 obtain ⟨sok, sleft, slen⟩ := hok.step W.length hp
 have hvk : s.left[k]? = some v := hp.at_
 have hv64 := hin64 hp.mem
 have hp64 := hin64 hp.pm
 have hq64 := hin64 hp.qm
 refine Idx.by k rfl (by rw [qiq]; exact hlt) ?_
 refine Look.by _ (qhq hvk) ?_
 have hil := qiq s.left
 refine Rng.by 0 k rfl rfl (by omega) (by omega) ?_
 refine Pick.n ?_
 refine Rng.by (k + 1) s.left.length (by omega) (by rw [hil]) (by omega) (by omega) ?_
 have ct1 : cut (subOf none 0 0 k) (ints s.left) = ints (s.left.take k) := by
  show ((ints s.left).drop 0).take (k - 0) = _
  simp [ints]
 have ct2 : cut (subOf none 0 (k + 1) s.left.length) (ints s.left) = ints (s.left.drop (k + 1)) := cut_from
 refine Call.by _ _ (cat_at ct1 ct2 (by rw [List.length_take, List.length_drop]; omega)) ?_
 refine Seg.by (by kernel_rfl) ?_
 have hgv : fget (encN s.near) v = ints [p, q] := by rw [fget_enc, hp.near]
 refine Pick.T hv64 ?_
 refine Idx.by 0 rfl (by rw [hgv]; show 0 < 2; omega) ?_
 refine Look.by [.i .i64 p] (by rw [hgv]; rfl) ?_
 refine Pick.T hv64 ?_
 refine Idx.by 1 rfl (by rw [hgv]; show 1 < 2; omega) ?_
 refine Look.by [.i .i64 q] (by rw [hgv]; rfl) ?_
 refine Pick.T hv64 ?_
 refine Idx.by 0 rfl (by rw [hgv]; show 0 < 2; omega) ?_
 refine Look.by [.i .i64 p] (by rw [hgv]; rfl) ?_
 refine Pick.T hv64 ?_
 refine Idx.by 1 rfl (by rw [hgv]; show 1 < 2; omega) ?_
 refine Look.by [.i .i64 q] (by rw [hgv]; rfl) ?_
 refine Seg.by (by kernel_rfl) ?_
 refine Pick.T hv64 ?_
 obtain ⟨⟨a, b⟩, hab⟩ : ∃ e, pairF p q = e := ⟨_, rfl⟩
 have ha : (if q < p then q else p) = a := congrArg Prod.fst hab
 have hb : (if q > p then q else p) = b := congrArg Prod.snd hab
 have hends : endsS s v = (a, b) := by unfold endsS; rw [hp.near]; exact hab
 have hgd : s.left.getD k 0 = v := by rw [qDq, hvk]; rfl
 have hlE : s.left.eraseIdx k = s.left.take k ++ s.left.drop (k + 1) := List.eraseIdx_eq_take_drop_succ ..
 have habm : (a ∈ s.left /\ a ≠ v) /\ (b ∈ s.left /\ b ≠ v) := by
  rcases pairF_two p q with ⟨e1, e2⟩ | ⟨e1, e2⟩ <;> rw [hab] at e1 e2 <;> dsimp only at e1 e2 <;> subst e1 <;> subst e2
  ·exact ⟨⟨hp.pm, hp.pv⟩, hp.qm, hp.qv⟩
  ·exact ⟨⟨hp.qm, hp.qv⟩, hp.pm, hp.pv⟩
 have ha64 := hin64 habm.1.1
 have hb64 := hin64 habm.2.1
 have hab2 : a ≠ b := by have := pairF_lt hp.pq; rw [hab] at this; dsimp only at this; omega
 have pr64 : ∀ {x y : Int}, x ∈ s.left -> y ∈ s.left -> inI64 (pairF x y).1 = true /\ inI64 (pairF x y).2 = true := fun {x y} hx hy => by
  rcases pairF_two x y with ⟨e1, e2⟩ | ⟨e1, e2⟩ <;> rw [e1, e2]
  ·exact ⟨hin64 hx, hin64 hy⟩
  ·exact ⟨hin64 hy, hin64 hx⟩
 have hnpq : [p, q].Nodup := by simp [hp.pq]
 have hnl : ∀ u ∈ s.left, (nget s.near u).length <= 1000 := fun u hu => Nat.le_trans (nodup_len (hok.nd u hu) fun x hx => (hok.sym u hu x hx).1) hleft
 refine LoopP.intro (α := Nat) (fun i => i <= 2) (fun i => 2 - i) (fun i => [(6, .mp 0), (7, .ptr 1 0), (8, .sl 3 none none), (11, .sl 4 none none), (12, .sl 5 none none), (14, .s (.i .i64 v)), (15, .s (.i .i64 a)), (16, .s (.i .i64 b)), (114, .sl 6 none none), (115, .s (.i .i64 2)), (116, .s (.i .i64 i))])
  (fun i => [(0, some (.map true 2 s.thing)), (1, some (.blk [.mp 2])), (2, some (.fmap (encN (cutsV v ([p, q].take i) s.near)))), (3, some (.flat true 2 (edges W))), (4, some (.flat true 3 (nods s.out))), (5, some (.flat true 1 (ints (s.left.eraseIdx k)))), (6, some (.flat false 1 (ints [p, q])))]) 7 0 (by omega) (by refine Weak.bw (sg 0 [_,_,_,_,_,_,_]) (by ((repeat' first|exact rfl|exact trivial|apply And.intro) <;> (repeat' first|exact rfl|exact trivial|apply And.intro)); all_goals ((first|exact sc_eq ha.symm | exact sc_eq hb.symm | exact sc_eq (by rw [hgv]; rfl) | exact hgv.symm | exact congrArg ints hlE)))) ?_
 rintro i hi
 refine Pick.by (fun hc4 => ?_) (fun hc4 => ?_)
 ·have hlt4 : i < 2 := by have := of_decide_eq_true hc4; omega
  obtain ⟨x, hx⟩ : ∃ x, [p, q][i]'hlt4 = x := ⟨_, rfl⟩;have hxi : [p, q][i]? = some x := by rw [qEq (by exact hlt4), hx]
  have hxm : x ∈ s.left /\ v ∈ nget s.near x := by
   have : x = p \/ x = q := by simpa using qMq hxi
   rcases this with rfl | rfl
   ·exact ⟨hp.pm, hp.vp⟩
   ·exact ⟨hp.qm, hp.vq⟩
  have hxn : x ∉ [p, q].take i := fun hm => by
   have h1 := hnpq;rw [<- List.take_append_drop i [p, q], List.drop_eq_getElem_cons (by exact hlt4), hx, List.nodup_append] at h1;exact h1.2.2 x hm x List.mem_cons_self rfl
  have hx64 := hin64 hxm.1;obtain ⟨N, hN⟩ : ∃ N, cutsV v ([p, q].take i) s.near = N := ⟨_, rfl⟩;have hNx : nget N x = nget s.near x := by rw [<- hN, cuts_get ((List.take_sublist i [p, q]).nodup hnpq), if_neg hxn]
  have hNn : cutsV v ([p, q].take (i + 1)) s.near = nput N x ((nget N x).erase v) := by
   rw [List.take_add_one, hxi];show ([p, q].take i ++ [x]).foldl (cutV v) s.near = _
   rw [List.foldl_append];show cutV v (cutsV v ([p, q].take i) s.near) x = _
   rw [hN]; rfl
  rw [hN];have hfx : fget (encN N) x = ints (nget s.near x) := by rw [fget_enc, hNx]
  have hrl := hnl x hxm.1;have hidx : idxI (nget s.near x) v = ((nget s.near x).idxOf v : Nat) := if_pos hxm.2;have hio : (nget s.near x).idxOf v < (nget s.near x).length := List.idxOf_lt_length_iff.2 hxm.2;obtain ⟨o, ho⟩ : ∃ o, (nget s.near x).idxOf v = o := ⟨_, rfl⟩;rw [ho] at hidx hio;have her : (nget s.near x).take o ++ (nget s.near x).drop (o + 1) = (nget N x).erase v := by
   rw [hNx, <- eraseIdx_erase (hok.nd x hxm.1) (k := o) (by rw [<- ho, qEq (by rw [ho]; exact hio), List.getElem_idxOf]), List.eraseIdx_eq_take_drop_succ]
  refine Idx.by i rfl hlt4 ?_;refine Look.by _ (qhq hxi) ?_;refine Pick.T hx64 ?_;refine Call.by _ _ (show IndexC.F [.one (.flat false 1 (fget (encN N) x)), .one (.s (.i .i64 v))] = some (.one (.s (.i .i64 (o : Nat))), []) by rw [hfx, <- hidx]; exact IndexC_at v (by omega)) ?_;have hfl : (fget (encN N) x).length = (nget s.near x).length := by rw [hfx, qiq]
  refine Pick.T hx64 ?_;refine Rng.by 0 o rfl rfl (by omega) (by rw [hfl]; omega) ?_;refine Pick.T hx64 ?_;refine Pick.n ?_;refine Rng.by (o + 1) (nget s.near x).length (by omega) (by rw [hfl]) (by omega) (by rw [hfl]; omega) ?_;have ct1 : cut (subOf none 0 0 o) (fget (encN N) x) = ints ((nget s.near x).take o) := by
   rw [hfx];show ((ints (nget s.near x)).drop 0).take (o - 0) = _
   simp [ints]
  have ct2 : cut (subOf none 0 (o + 1) (nget s.near x).length) (fget (encN N) x) = ints ((nget s.near x).drop (o + 1)) := by rw [hfx]; exact cut_from
  refine Call.by _ _ (cat_at ct1 ct2 (by rw [List.length_take, List.length_drop]; omega)) ?_;refine Pick.T hx64 ?_;refine Seg.by (by kernel_rfl) ?_;refine Pick.n ?_;have hNf : encN (cutsV v ([p, q].take (i + 1)) s.near) = fput (encN N) x (ints ((nget s.near x).take o ++ (nget s.near x).drop (o + 1))) := by rw [hNn, <- her, fput_enc]
  refine Next.by (i + 1) (by omega) (by omega) (by refine Weak.bw (sg 0 [_,_,_,_,_,_,_]) (by ((repeat' first|exact rfl|exact trivial|apply And.intro) <;> (repeat' first|exact rfl|exact trivial|apply And.intro)); all_goals ((first|exact sc_eq (by omega) | exact hNf))))
 have hi2 : i = 2 := by have := of_decide_eq_false hc4; omega
 subst hi2
 have hcut : cutsV v ([p, q].take 2) s.near = cutsV v (nget s.near v) s.near := by rw [hp.near]; rfl
 rw [hcut]
 obtain ⟨N, hN⟩ : ∃ N, cutsV v (nget s.near v) s.near = N := ⟨_, rfl⟩
 rw [hN]
 have hva := pr64 hp.mem habm.1.1
 have hvb := pr64 hp.mem habm.2.1
 have hpab := pr64 habm.1.1 habm.2.1
 have hpe : pairF a b = (a, b) := by rw [<- hab, show a = (pairF p q).1 by rw [hab], show b = (pairF p q).2 by rw [hab]]; exact pairF_idem p q
 obtain ⟨o1, ho1⟩ : ∃ o1, s.out ++ [((1, mapGet s.thing (keyE (pairF v a)), mapGet s.thing (keyE (pairF v b))) : Nd)] = o1 := ⟨_, rfl⟩
 have ho1l : o1.length = s.out.length + 1 := by rw [<- ho1]; simp
 have hno1 : nods o1 = nods s.out ++ [[.i .i64 1, .i .i64 (mapGet s.thing (keyE (pairF v a))), .i .i64 (mapGet s.thing (keyE (pairF v b)))]] := by rw [<- ho1]; exact nods_snoc ..
 have hst : stepS W.length s k = if mapHas s.thing (keyE (a, b)) = true then
   { left := s.left.eraseIdx k, near := N, thing := mapPut s.thing (keyE (a, b)) ((W.length : Int) + (o1.length : Int)), out := o1 ++ [(2, mapGet s.thing (keyE (a, b)), (W.length : Int) + (o1.length : Int) - 1)] }
   else { left := s.left.eraseIdx k, near := joinN N a b, thing := mapPut s.thing (keyE (a, b)) ((W.length : Int) + (o1.length : Int) - 1), out := o1 } := by
  unfold stepS;simp only [hgd, hends, hN, ho1]
 have hrm : ((nods s.out).length : Int) = s.out.length := by rw [nods_length]
 refine Call.by _ _ (PairC_at v a) ?_
 refine Pick.T hva.1 ?_
 refine Pick.T hva.2 ?_
 refine Call.by _ _ (PairC_at v b) ?_
 refine Pick.T hvb.1 ?_
 refine Pick.T hvb.2 ?_
 refine Pick.T (by rw [decide_eq_true_iff, nods_length]; show _ + 1 <= _; omega) ?_
 refine Seg.by (by kernel_rfl) ?_
 refine Call.by _ _ (PairC_at a b) ?_
 refine Pick.T hpab.1 ?_
 refine Pick.T hpab.2 ?_
 have hko : keyE (pairF a b) = keyE (a, b) := by rw [hpe]
 refine Pick.by (fun hc5 => ?_) (fun hc5 => ?_)
 ·have hc5 : mapHas s.thing (keyE (a, b)) = true := by rw [<- hko]; exact hc5
  rw [if_pos hc5] at hst;obtain ⟨s', hs'⟩ : ∃ s', stepS W.length s k = s' := ⟨_, rfl⟩;rw [hs'] at hst sok sleft slen hrun;have e1 : s'.left = s.left.eraseIdx k := by rw [hst]
  have e2 : s'.near = N := by rw [hst]
  have e3 : s'.thing = mapPut s.thing (keyE (pairF a b)) ((W.length : Int) + (o1.length : Int)) := by rw [hst, hko]
  have e4 : s'.out = o1 ++ [(2, mapGet s.thing (keyE (pairF a b)), (W.length : Int) + (o1.length : Int) - 1)] := by rw [hst, hko]
  have hX : (nods s.out ++ [[Sc.i .i64 1, Sc.i .i64 (mapGet s.thing (keyE (pairF v a))), Sc.i .i64 (mapGet s.thing (keyE (pairF v b)))]]) = nods o1 := hno1.symm;have hXl : (((nods s.out ++ [[Sc.i .i64 1, Sc.i .i64 (mapGet s.thing (keyE (pairF v a))), Sc.i .i64 (mapGet s.thing (keyE (pairF v b)))]]) : Flat).length : Int) = o1.length := by rw [hX, nods_length]
  have hWe : ((edges W).length : Int) = W.length := by rw [qeq]
  have e4n : nods s'.out = ((nods s.out ++ [[Sc.i .i64 1, Sc.i .i64 (mapGet s.thing (keyE (pairF v a))), Sc.i .i64 (mapGet s.thing (keyE (pairF v b)))]]) ++ [[Sc.i .i64 2, Sc.i .i64 (mapGet s.thing (keyE (pairF a b))), Sc.i .i64 (((edges W).length : Int) + ((nods s.out ++ [[Sc.i .i64 1, Sc.i .i64 (mapGet s.thing (keyE (pairF v a))), Sc.i .i64 (mapGet s.thing (keyE (pairF v b)))]]).length : Int) - 1)]]) := by rw [e4, nods_snoc, hXl, hWe, hX]
  have e4l : ((((nods s.out ++ [[Sc.i .i64 1, Sc.i .i64 (mapGet s.thing (keyE (pairF v a))), Sc.i .i64 (mapGet s.thing (keyE (pairF v b)))]]) ++ [[Sc.i .i64 2, Sc.i .i64 (mapGet s.thing (keyE (pairF a b))), Sc.i .i64 (((edges W).length : Int) + ((nods s.out ++ [[Sc.i .i64 1, Sc.i .i64 (mapGet s.thing (keyE (pairF v a))), Sc.i .i64 (mapGet s.thing (keyE (pairF v b)))]]).length : Int) - 1)]]) : Flat).length : Int) = o1.length + 1 := by rw [<- e4n, nods_length, e4, List.length_append, List.length_singleton]; omega
  refine Pick.T (show inI64 (((edges W).length : Int) + (((nods s.out ++ [[Sc.i .i64 1, Sc.i .i64 (mapGet s.thing (keyE (pairF v a))), Sc.i .i64 (mapGet s.thing (keyE (pairF v b)))]]) : Flat).length : Int)) = true by rw [hXl, hWe]; exact inI64_of (by omega) (by omega)) ?_;refine Pick.T (show inI64 (((edges W).length : Int) + (((nods s.out ++ [[Sc.i .i64 1, Sc.i .i64 (mapGet s.thing (keyE (pairF v a))), Sc.i .i64 (mapGet s.thing (keyE (pairF v b)))]]) : Flat).length : Int) - 1) = true by rw [hXl, hWe]; exact inI64_of (by omega) (by omega)) ?_;refine Pick.T (show decide (((nods s.out ++ [[Sc.i .i64 1, Sc.i .i64 (mapGet s.thing (keyE (pairF v a))), Sc.i .i64 (mapGet s.thing (keyE (pairF v b)))]]) : Flat).length + 1 <= 2147483648) = true by rw [decide_eq_true_iff]; omega) ?_;refine Call.by _ _ (PairC_at a b) ?_;refine Pick.T (show inI64 (((edges W).length : Int) + ((((nods s.out ++ [[Sc.i .i64 1, Sc.i .i64 (mapGet s.thing (keyE (pairF v a))), Sc.i .i64 (mapGet s.thing (keyE (pairF v b)))]]) ++ [[Sc.i .i64 2, Sc.i .i64 (mapGet s.thing (keyE (pairF a b))), Sc.i .i64 (((edges W).length : Int) + ((nods s.out ++ [[Sc.i .i64 1, Sc.i .i64 (mapGet s.thing (keyE (pairF v a))), Sc.i .i64 (mapGet s.thing (keyE (pairF v b)))]]).length : Int) - 1)]]) : Flat).length : Int)) = true by rw [e4l, hWe]; exact inI64_of (by omega) (by omega)) ?_;refine Pick.T (show inI64 (((edges W).length : Int) + ((((nods s.out ++ [[Sc.i .i64 1, Sc.i .i64 (mapGet s.thing (keyE (pairF v a))), Sc.i .i64 (mapGet s.thing (keyE (pairF v b)))]]) ++ [[Sc.i .i64 2, Sc.i .i64 (mapGet s.thing (keyE (pairF a b))), Sc.i .i64 (((edges W).length : Int) + ((nods s.out ++ [[Sc.i .i64 1, Sc.i .i64 (mapGet s.thing (keyE (pairF v a))), Sc.i .i64 (mapGet s.thing (keyE (pairF v b)))]]).length : Int) - 1)]]) : Flat).length : Int) - 1) = true by rw [e4l, hWe]; exact inI64_of (by omega) (by omega)) ?_;refine Pick.T hpab.1 ?_;refine Pick.T hpab.2 ?_;have e3n : s'.thing = mapPut s.thing (keyE (pairF a b)) (((edges W).length : Int) + ((((nods s.out ++ [[Sc.i .i64 1, Sc.i .i64 (mapGet s.thing (keyE (pairF v a))), Sc.i .i64 (mapGet s.thing (keyE (pairF v b)))]]) ++ [[Sc.i .i64 2, Sc.i .i64 (mapGet s.thing (keyE (pairF a b))), Sc.i .i64 (((edges W).length : Int) + ((nods s.out ++ [[Sc.i .i64 1, Sc.i .i64 (mapGet s.thing (keyE (pairF v a))), Sc.i .i64 (mapGet s.thing (keyE (pairF v b)))]]).length : Int) - 1)]]) : Flat).length : Int) - 1) := by rw [e3, e4l, hWe]; congr 1; omega
  have hol : s'.out.length = o1.length + 1 := by rw [e4, List.length_append, List.length_singleton]
  refine Next.by s' ⟨sok, by rw [show s'.left.length = f by omega]; exact hrun, by omega, fun u hu => hin u (List.mem_of_mem_erase (by rw [sleft] at hu; exact hu))⟩ (by omega) (by refine Weak.bf [5] (sg 0 [_,_,_,_,_,_]) (by ((repeat' first|exact rfl|exact trivial|apply And.intro) <;> (repeat' first|exact rfl|exact trivial|apply And.intro)); all_goals ((first | exact e3n | exact congrArg encN e2 | exact e4n | exact congrArg ints e1))) (by rfl))
 ·have hc5 : ¬ mapHas s.thing (keyE (a, b)) = true := by rw [<- hko]; intro e; rw [show mapHas s.thing (keyE (pairF a b)) = false from hc5] at e; simp at e
  rw [if_neg hc5] at hst;obtain ⟨s', hs'⟩ : ∃ s', stepS W.length s k = s' := ⟨_, rfl⟩;rw [hs'] at hst sok sleft slen hrun;have e1 : s'.left = s.left.eraseIdx k := by rw [hst]
  have e2 : s'.near = joinN N a b := by rw [hst]
  have e3 : s'.thing = mapPut s.thing (keyE (pairF a b)) ((W.length : Int) + (o1.length : Int) - 1) := by rw [hst, hko]
  have e4 : s'.out = o1 := by rw [hst]
  have hnN : ∀ u ∈ s.left, (nget N u).length <= 1000 := fun u hu => by
   rw [<- hN, hp.near, cuts_get hnpq];have := hnl u hu;split
   ·exact Nat.le_trans List.length_erase_le this
   ·exact this
  have hna := hnN a habm.1.1;have hnb := hnN b habm.2.1;refine Pick.T ha64 ?_;refine Call.by _ _ (cat_at (a := nget N a) (b := [b]) (fget_enc N a) rfl (by rw [List.length_singleton]; omega)) ?_;refine Pick.T ha64 ?_;refine Seg.by (by kernel_rfl) ?_;have hf1 : fget (fput (encN N) a (ints (nget N a ++ [b]))) b = ints (nget N b) := by rw [fput_enc, fget_enc, nget_put, if_neg hab2]
  have e2n : encN s'.near = fput (fput (encN N) a (ints (nget N a ++ [b]))) b (ints (nget N b ++ [a])) := by
   rw [e2, fput_enc, fput_enc];show encN (nput _ b (nget (nput N a (nget N a ++ [b])) b ++ [a])) = _
   rw [nget_put, if_neg hab2]
  refine Pick.T hb64 ?_;refine Call.by _ _ (cat_at (a := nget N b) (b := [a]) hf1 rfl (by rw [List.length_singleton]; omega)) ?_;refine Pick.T hb64 ?_;refine Seg.by (by kernel_rfl) ?_;refine Call.by _ _ (PairC_at a b) ?_;have hX : (nods s.out ++ [[Sc.i .i64 1, Sc.i .i64 (mapGet s.thing (keyE (pairF v a))), Sc.i .i64 (mapGet s.thing (keyE (pairF v b)))]]) = nods o1 := hno1.symm;have hXl : (((nods s.out ++ [[Sc.i .i64 1, Sc.i .i64 (mapGet s.thing (keyE (pairF v a))), Sc.i .i64 (mapGet s.thing (keyE (pairF v b)))]]) : Flat).length : Int) = o1.length := by rw [hX, nods_length]
  have hWe : ((edges W).length : Int) = W.length := by rw [qeq]
  have e4n : nods s'.out = (nods s.out ++ [[Sc.i .i64 1, Sc.i .i64 (mapGet s.thing (keyE (pairF v a))), Sc.i .i64 (mapGet s.thing (keyE (pairF v b)))]]) := by rw [e4, hX]
  refine Pick.T (show inI64 (((edges W).length : Int) + (((nods s.out ++ [[Sc.i .i64 1, Sc.i .i64 (mapGet s.thing (keyE (pairF v a))), Sc.i .i64 (mapGet s.thing (keyE (pairF v b)))]]) : Flat).length : Int)) = true by rw [hXl, hWe]; exact inI64_of (by omega) (by omega)) ?_;refine Pick.T (show inI64 (((edges W).length : Int) + (((nods s.out ++ [[Sc.i .i64 1, Sc.i .i64 (mapGet s.thing (keyE (pairF v a))), Sc.i .i64 (mapGet s.thing (keyE (pairF v b)))]]) : Flat).length : Int) - 1) = true by rw [hXl, hWe]; exact inI64_of (by omega) (by omega)) ?_;refine Pick.T hpab.1 ?_;refine Pick.T hpab.2 ?_;have e3n : s'.thing = mapPut s.thing (keyE (pairF a b)) (((edges W).length : Int) + (((nods s.out ++ [[Sc.i .i64 1, Sc.i .i64 (mapGet s.thing (keyE (pairF v a))), Sc.i .i64 (mapGet s.thing (keyE (pairF v b)))]]) : Flat).length : Int) - 1) := by rw [e3, hXl, hWe]
  have hol : s'.out.length = o1.length := by rw [e4]
  refine Next.by s' ⟨sok, by rw [show s'.left.length = f by omega]; exact hrun, by omega, fun u hu => hin u (List.mem_of_mem_erase (by rw [sleft] at hu; exact hu))⟩ (by omega) (by refine Weak.bf [5] (sg 0 [_,_,_,_,_,_]) (by ((repeat' first|exact rfl|exact trivial|apply And.intro) <;> (repeat' first|exact rfl|exact trivial|apply And.intro)); all_goals ((first | exact e3n | exact e2n | exact e4n | exact congrArg ints e1))) (by rfl))
noncomputable def CkC : Con := conP 3 (fun a : (Int × List Ed) × List Int × List Nd => a.2.1.length <= 1000 /\ a.2.2.length <= 1000000) (fun a => [grV a.1.1 a.1.2, .one (.flat false 1 (ints a.2.1)), .one (.flat false 3 (nods a.2.2))]) (fun a => .one (.s (.b (ckF a.1.1 a.1.2 a.2.1 a.2.2))))
theorem CkC_at {n : Int} {E : List Ed} {l : List Int} {t : List Nd} (h : l.length <= 1000 /\ t.length <= 1000000) : CkC.F [grV n E, .one (.flat false 1 (ints l)), .one (.flat false 3 (nods t))] = some (.one (.s (.b (ckF n E l t))), []) :=
 conP_at (a := ((n, E), l, t)) (fun x y _ _ h => by
  obtain ⟨⟨n, E⟩, l, t⟩ := x;obtain ⟨⟨n', E'⟩, l', t'⟩ := y;simp at h;obtain ⟨h1, h2, h3⟩ := h;obtain ⟨rfl, rfl⟩ := grV_inj h1;rw [ints_inj h2, nods_inj h3]) h
theorem middle_mem {x y : Ed} (h : (middleF x y).2 = true) : ∃ s t : Ed, (s = x \/ s = (x.2, x.1)) /\ (t = y \/ t = (y.2, y.1)) /\ middleF x y = ((s.2, pairF s.1 t.2), true) := by
 obtain ⟨⟨s, t⟩, hp, h1, h2, h3⟩ := midL_get h
 obtain ⟨hs, ht⟩ := mem_sides2.1 hp
 exact ⟨s, t, hs, ht, h3⟩
def RngE (x : Ed) : Prop := (0 <= x.1 /\ x.1 < 1000) /\ 0 <= x.2 /\ x.2 < 1000
theorem rng_pair {a b : Int} (h : 0 <= a /\ a < 1000) (k : 0 <= b /\ b < 1000) : RngE (pairF a b) := by
 unfold RngE
 rcases pairF_two a b with ⟨e1, e2⟩ | ⟨e1, e2⟩ <;> rw [e1, e2]
 ·exact ⟨h, k⟩
 ·exact ⟨k, h⟩
theorem middle_rng {x y : Ed} (hx : RngE x) (hy : RngE y) (h : (middleF x y).2 = true) : (0 <= (middleF x y).1.1 /\ (middleF x y).1.1 < 1000) /\ RngE (middleF x y).1.2 := by
 obtain ⟨s, t, hs, ht, e⟩ := middle_mem h
 have rs : RngE s := by rcases hs with rfl | rfl; · exact hx
                        ·exact ⟨hx.2, hx.1⟩
 have rt : RngE t := by rcases ht with rfl | rfl; · exact hy
                        ·exact ⟨hy.2, hy.1⟩
 rw [e]
 exact ⟨rs.2, rng_pair rs.1 rt.2⟩
structure CkW (E : List Ed) (t : List Nd) (i : Nat) (s : Ck) : Prop where
 rng : ∀ x ∈ s.poles, RngE x
 run : ckRun (t.drop i) s = ckRun t (ckStart E t.length)
 len : s.poles.length = E.length + i
 ulen : s.used.length = E.length + t.length
 us : ∀ j, 0 <= s.used.getD j 0 /\ s.used.getD j 0 <= 1
 mid : ∀ v, 0 <= mapGet s.mid [v] /\ mapGet s.mid [v] <= i
theorem ckw_start {E : List Ed} {t : List Nd} (hE : ∀ x ∈ E, RngE x) : CkW E t 0 (ckStart E t.length) := by
 refine ⟨hE, by rw [List.drop_zero], rfl, by simp [ckStart], fun j => ?_, fun v => ⟨Int.le_refl _, Int.le_refl _⟩⟩
 have : (ckStart E t.length).used.getD j 0 = 0 := by
  show (List.replicate _ _).getD j 0 = 0
  rw [qDq, List.getElem?_replicate]; split <;> rfl
 omega
theorem us2 {u : List Int} {a b : Nat} (h : ∀ j, 0 <= u.getD j 0 /\ u.getD j 0 <= 1) : ∀ j, 0 <= ((u.set a 1).set b 1).getD j 0 /\ ((u.set a 1).set b 1).getD j 0 <= 1 := by
 have one : ∀ {u : List Int} {a : Nat}, (∀ j, 0 <= u.getD j 0 /\ u.getD j 0 <= 1) -> ∀ j, 0 <= (u.set a 1).getD j 0 /\ (u.set a 1).getD j 0 <= 1 := fun {u a} h j => by
  rw [qDq, List.getElem?_set];by_cases e : a = j
  ·rw [if_pos e];by_cases hl : a < u.length
   ·rw [if_pos hl]; exact ⟨by decide, by decide⟩
   ·rw [if_neg hl]; exact ⟨by decide, by decide⟩
  ·rw [if_neg e, <- qDq]; exact h j
 exact one (one h)
theorem ckw_step {E : List Ed} {t : List Nd} {i : Nat} {s s' : Ck} {x : Nd} (h : CkW E t i s) (hx : t[i]? = some x) (hs : ckStep s x = some s') : CkW E t (i + 1) s' := by
 have hlt := (qSq.1 hx).1
 have hr := h.run
 rw [List.drop_eq_getElem_cons hlt, show t[i] = x by rw [qEq hlt] at hx; injection hx] at hr
 simp only [ckRun, hs] at hr
 have rp : ∀ {i : Int}, 0 <= i -> i < s.poles.length -> RngE (s.pol i) := fun {i} h0 h1 => by
  unfold Ck.pol;rw [qDq, qEq (by omega)];exact h.rng _ (List.getElem_mem _)
 have hl : s'.poles.length = s.poles.length + 1 /\ s'.used = (s.used.set x.2.1.toNat 1).set x.2.2.toNat 1 /\ (s'.mid = s.mid \/ ∃ m, s'.mid = midIn s.mid m) /\ ∃ e, RngE e /\ s'.poles = s.poles ++ [e] := by
  unfold ckStep at hs;split at hs
  ·rename_i hf;split at hs
   ·split at hs
    ·rename_i hm;injection hs with hs; subst hs; exact ⟨by simp, rfl, .inr ⟨_, rfl⟩, _, (middle_rng (rp hf.2.1 hf.2.2.2.1) (rp hf.2.2.1 hf.2.2.2.2.1) hm).2, rfl⟩
    ·simp at hs
   ·split at hs
    ·split at hs
     ·injection hs with hs; subst hs; exact ⟨by simp, rfl, .inl rfl, _, rp hf.2.1 hf.2.2.2.1, rfl⟩
     ·simp at hs
    ·simp at hs
  ·simp at hs
 refine ⟨fun y hy => ?_, hr, by rw [hl.1, h.len]; omega, by rw [hl.2.1, List.length_set, List.length_set, h.ulen], by rw [hl.2.1]; exact us2 h.us, fun v => ?_⟩
 ·obtain ⟨e, he, hpe⟩ := hl.2.2.2;rw [hpe] at hy;rcases List.mem_append.1 hy with hy | hy
  ·exact h.rng y hy
  ·rw [List.mem_singleton] at hy; subst hy; exact he
 have hm := h.mid v
 rcases hl.2.2.1 with e | ⟨m, e⟩
 ·rw [e]; omega
 ·rw [e];unfold midIn;rw [mapGet_put];have hm2 := h.mid m;split <;> omega
theorem ckw_bad {E : List Ed} {t : List Nd} {i : Nat} {s : Ck} {x : Nd} (h : CkW E t i s) (hx : t[i]? = some x) (hs : ckStep s x = none) : ckRun t (ckStart E t.length) = none := by
 have hlt := (qSq.1 hx).1
 rw [<- h.run, List.drop_eq_getElem_cons hlt, show t[i] = x by rw [qEq hlt] at hx; injection hx]
 simp only [ckRun, hs]
noncomputable def XCk : Cx := { Γ := [(33, TwoC), (66, OwnC), (72, MiddleC)], T := T, nt := 159 }
set_option maxRecDepth 200000 in
set_option maxHeartbeats 4000000 in
theorem Ck_ok : SoundC Tryz.prog T 26 CkC := by
 refine sound_con (X := XCk) cr_none hmix hT (sound_cons Two_ok (sound_cons Own_ok (sound_cons Middle_ok sound_nil))) Tryz.func26 (by rfl) (by rfl) (by rfl) (by rfl) 4 ?_
 rintro ⟨⟨n, E⟩, l, t⟩ ⟨hl, ht⟩
 dsimp only at hl ht ⊢
 refine two_le ?_
 refine Call.by _ _ (TwoC_at hl) ?_
 refine Pick.by (fun h1 => ?_) (fun h1 => ?_)
 ·refine ⟨rfl, ?_⟩;show Sc.b false = Sc.b (ckF n E l t)
  unfold ckF;have h1 : (!twoB n E l) = true := h1
  cases hc : twoB n E l with
  | true => rw [hc] at h1; simp at h1
  | false => rfl
 have h1 : twoB n E l = true := by cases h : twoB n E l with | true => rfl | false => rw [h] at h1; simp at h1
 obtain ⟨hR, h2, ⟨hnd, hrng⟩, -⟩ := twoB_iff.1 h1
 have hEl := hR.2.2.1
 obtain ⟨W, hW⟩ : ∃ W, withL l E = W := ⟨_, rfl⟩
 have hWl : W.length <= 4000 := by rw [<- hW]; exact Nat.le_trans withL_len hEl
 refine Call.by _ _ (WithC_at (n := n) (E := E) (l := l) ⟨hEl, by omega, hR, hrng⟩) ?_
 rw [hW]
 have htl := nods_length t
 have hel := qeq W
 have hWr : ∀ x ∈ W, RngE x := fun x hx => by
  have h1 := (withL_ok (l := l) hR).1 x (by rw [hW]; exact hx);have h2 := hR.2.1;unfold okE at h1;exact ⟨⟨by omega, by omega⟩, by omega, by omega⟩
 refine Pick.n ?_
 refine Pick.by (fun h3 => ?_) (fun h3 => ?_)
 ·have h3 : t.length + 1 ≠ W.length := by have := bne_iff_ne.1 h3; rw [htl, hel] at this; omega
  refine ⟨rfl, ?_⟩;show Sc.b false = Sc.b (ckF n E l t)
  unfold ckF;rw [hW, decide_eq_false h3, Bool.false_and, Bool.and_false]
 have h3 : t.length + 1 = W.length := by
  have h3 : ((nods t).length : Int) = ((edges W).length : Int) - 1 := by simpa using h3
  rw [htl, hel] at h3; omega
 have hF : ckF n E l t = ckB E l t := by unfold ckF; rw [h1, hW, decide_eq_true h3]; rfl
 have bad : ckRun t (ckStart W t.length) = none -> Sc.b false = Sc.b (ckF n E l t) := fun h => by rw [hF]; unfold ckB; rw [hW, h]
 have good : ∀ s, ckRun t (ckStart W t.length) = some s -> ckF n E l t = decide (CkEnd l s) := fun s h => by rw [hF]; unfold ckB; rw [hW, h]
 refine Pick.n ?_
 refine Pick.T (beq_self_eq_true _) ?_
 refine Idx.by (W.length + t.length) (by rw [htl, hel]; omega) (by omega) ?_
 refine LoopP.intro (α := Nat × Ck) (fun a => a.1 <= t.length /\ CkW W t a.1 a.2) (fun a => t.length - a.1) (fun a => [(1, .sl 0 none none), (7, .sl 2 none none), (8, .sl 3 none none), (9, .mp 4), (41, .sl 1 none none), (42, .s (.i .i64 t.length)), (43, .s (.i .i64 a.1))])
  (fun a => [(0, some (.flat false 1 (ints l))), (1, some (.flat false 3 (nods t))), (2, some (.flat true 2 (edges a.2.poles))), (3, some (.flat true 1 (ints a.2.used))), (4, some (.map false 1 a.2.mid))]) 5 (0, ckStart W t.length) ⟨by omega, ckw_start hWr⟩ (by refine Weak.bw (sg 0 [_,_,_,_,_]) (by ((repeat' first|exact rfl|exact trivial|apply And.intro) <;> (repeat' first|exact rfl|exact trivial|apply And.intro)); all_goals ((first|exact sc_eq (by rw [htl]) | (show ints (List.replicate _ _) = _; simp [ints]) | (show _ = ints (List.replicate _ _); simp [ints]))))) ?_
 rintro ⟨i, s⟩ ⟨hi, hw⟩
 dsimp only at hi hw ⊢
 have hpl := hw.len
 have hul := hw.ulen
 refine Pick.by (fun hc => ?_) (fun hc => ?_)
 ·have hlt : i < t.length := by have := of_decide_eq_true hc; omega
  obtain ⟨⟨op, L, R⟩, hx⟩ : ∃ x, t[i] = x := ⟨_, rfl⟩;have hti : t[i]? = some (op, L, R) := by rw [qEq hlt, hx]
  have stop : ckStep s (op, L, R) = none -> Sc.b false = Sc.b (ckF n E l t) := fun h => bad (ckw_bad hw hti h)
  have nofree : ¬ FreeP s (op, L, R) -> Sc.b false = Sc.b (ckF n E l t) := fun h => stop (if_neg h)
  refine Idx.by i rfl (by rw [htl]; exact hlt) ?_;refine Look.by _ (nods_get hti) ?_;refine Pick.by (fun e1 => ?_) (fun e1 => ?_)
  ·have e1 : L = R := eq_of_beq e1;refine Seg.by (by kernel_rfl) ?_;exact ⟨rfl, nofree fun h => h.1 e1⟩
  have e1 : L ≠ R := ne_of_beq_false e1;refine Pick.by (fun e2 => ?_) (fun e2 => ?_)
  ·have e2 : (if R < L then R else L) < 0 := of_decide_eq_true e2;refine Seg.by (by kernel_rfl) ?_;exact ⟨rfl, nofree fun h => by have h2 : 0 <= L := h.2.1; have h3 : 0 <= R := h.2.2.1; split at e2 <;> omega⟩
  have e2 : 0 <= L /\ 0 <= R := by
   have e2 : ¬ (if R < L then R else L) < 0 := of_decide_eq_false e2;split at e2 <;> omega
  refine Pick.by (fun e3 => ?_) (fun e3 => ?_)
  ·have e3 : (if R > L then R else L) ≥ ((edges s.poles).length : Int) := of_decide_eq_true e3;rw [qeq] at e3;refine Seg.by (by kernel_rfl) ?_;exact ⟨rfl, nofree fun h => by have h2 : L < s.poles.length := h.2.2.2.1; have h3 : R < s.poles.length := h.2.2.2.2.1; split at e3 <;> omega⟩
  have e3 : L < s.poles.length /\ R < s.poles.length := by
   have e3 : ¬ (if R > L then R else L) ≥ ((edges s.poles).length : Int) := of_decide_eq_false e3;rw [qeq] at e3;split at e3 <;> omega
  have uget : ∀ {k : Int}, 0 <= k -> k < s.poles.length -> (ints s.used)[k.toNat]? = some [.i .i64 (s.usd k)] := fun {k} h0 h1 => qhq (by unfold Ck.usd; rw [qDq, qEq (by omega)]; rfl)
  have pget : ∀ {k : Int}, 0 <= k -> k < s.poles.length -> (edges s.poles)[k.toNat]? = some [.i .i64 (s.pol k).1, .i .i64 (s.pol k).2] := fun {k} h0 h1 => edges_get (x := s.pol k) (by unfold Ck.pol; rw [qDq, qEq (by omega)]; rfl)
  have hel2 := qeq s.poles;have hil := qiq s.used;have uL := hw.us L.toNat;have uR := hw.us R.toNat;refine Idx.by L.toNat (show L = (L.toNat : Int) by omega) (by omega) ?_;refine Look.by _ (uget e2.1 e3.1) ?_;refine Idx.by R.toNat (show R = (R.toNat : Int) by omega) (by omega) ?_;refine Look.by _ (uget e2.2 e3.2) ?_;refine Pick.T (inI64_of (by unfold Ck.usd; omega) (by unfold Ck.usd; omega)) ?_;refine Seg.by (by kernel_rfl) ?_;refine Pick.by (fun e4 => ?_) (fun e4 => ?_)
  ·have e4 : s.usd L + s.usd R > 0 := of_decide_eq_true e4;exact ⟨rfl, nofree fun h => by have h2 : s.usd L + s.usd R <= 0 := h.2.2.2.2.2; omega⟩
  have e4 : ¬ s.usd L + s.usd R > 0 := of_decide_eq_false e4;have free : FreeP s (op, L, R) := ⟨e1, e2.1, e2.2, e3.1, e3.2, by show s.usd L + s.usd R <= 0; omega⟩;refine Idx.by L.toNat (show L = (L.toNat : Int) by omega) (by omega) ?_;refine Look.by _ (uget e2.1 e3.1) ?_;refine Idx.by R.toNat (show R = (R.toNat : Int) by omega) (by show R.toNat < ((ints s.used).set L.toNat [.i .i64 1]).length; rw [List.length_set]; omega) ?_;have hu2 : ((ints s.used).set L.toNat [.i .i64 1])[R.toNat]? = some [.i .i64 (s.usd R)] := by rw [qNq (by omega)]; exact uget e2.2 e3.2
  refine Look.by _ hu2 ?_;refine Seg.by (by kernel_rfl) ?_;refine Idx.by L.toNat (show L = (L.toNat : Int) by omega) (by omega) ?_;refine Look.by _ (pget e2.1 e3.1) ?_;refine Idx.by R.toNat (show R = (R.toNat : Int) by omega) (by omega) ?_;refine Look.by _ (pget e2.2 e3.2) ?_;refine Seg.by (by kernel_rfl) ?_;obtain ⟨X, hX⟩ : ∃ X, s.pol L = X := ⟨_, rfl⟩;obtain ⟨Y, hY⟩ : ∃ Y, s.pol R = Y := ⟨_, rfl⟩;rw [hX, hY];refine Pick.by (fun g1 => ?_) (fun g1 => ?_)
  ·have g1 : op = 1 := eq_of_beq g1;refine Call.by _ _ (MiddleC_at X Y) ?_;obtain ⟨⟨⟨m, ⟨ea, eb⟩⟩, ok⟩, hmid⟩ : ∃ r, middleF X Y = r := ⟨_, rfl⟩;rw [hmid];have hstep : ckStep s (op, L, R) = if ok = true then some { poles := s.poles ++ [(ea, eb)], used := (s.used.set L.toNat 1).set R.toNat 1, mid := midIn s.mid m } else none := by
    unfold ckStep;rw [if_pos free, if_pos g1];show (if (middleF (s.pol L) (s.pol R)).2 = true then _ else _) = _
    rw [hX, hY, hmid]
   refine Pick.by (fun g3 => ?_) (fun g3 => ?_)
   ·have g3 : ¬ ok = true := fun e => by have g3 : (!ok) = true := g3; rw [e] at g3; simp at g3
    rw [if_neg g3] at hstep;exact ⟨rfl, stop hstep⟩
   have g3 : ok = true := by have g3 : (!ok) = false := g3; simpa using g3
   rw [if_pos g3] at hstep;have hw' := ckw_step hw hti hstep;have hXr : RngE X := by rw [<- hX]; exact hw.rng _ (qMq (show s.poles[L.toNat]? = some (s.pol L) by unfold Ck.pol; rw [qDq, qEq (by omega)]; rfl))
   have hYr : RngE Y := by rw [<- hY]; exact hw.rng _ (qMq (show s.poles[R.toNat]? = some (s.pol R) by unfold Ck.pol; rw [qDq, qEq (by omega)]; rfl))
   have hmr := (middle_rng hXr hYr (by rw [hmid]; exact g3)).1;rw [hmid] at hmr;dsimp only at hmr;have hmm := hw.mid m;refine Pick.T (inI64_of (by show _ <= m; omega) (by show m <= _; omega)) ?_;refine Pick.T (inI64_of (by show _ <= mapGet s.mid [m] + 1; omega) (by show mapGet s.mid [m] + 1 <= _; omega)) ?_;refine Pick.T (inI64_of (by show _ <= m; omega) (by show m <= _; omega)) ?_;refine Seg.by (by kernel_rfl) ?_;refine Pick.F (show (!(ea == ea && (eb == eb && true))) = false by simp) ?_;have hP : edges (s.poles ++ [(ea, eb)]) = edges s.poles ++ [[.i .i64 ea, .i .i64 eb]] := edges_snoc ..;have hU : ints ((s.used.set L.toNat 1).set R.toNat 1) = ((ints s.used).set L.toNat [.i .i64 1]).set R.toNat [.i .i64 1] := by rw [ints_set, ints_set]
   have hM : midIn s.mid m = mapPut s.mid [m] (mapGet s.mid [m] + 1) := rfl;refine Pick.T (by rw [decide_eq_true_iff, qeq]; show _ + 1 <= _; omega) ?_;refine Pick.n ?_;refine Next.by (i + 1, ({ poles := s.poles ++ [(ea, eb)], used := (s.used.set L.toNat 1).set R.toNat 1, mid := midIn s.mid m } : Ck)) ⟨by show i + 1 <= _; omega, hw'⟩ (by show t.length - (i + 1) < t.length - i; omega) (by refine Weak.bw (sg 0 [_,_,_,_,_]) (by ((repeat' first|exact rfl|exact trivial|apply And.intro) <;> (repeat' first|exact rfl|exact trivial|apply And.intro)); all_goals ((first|exact sc_eq (by show ((i + 1 : Nat) : Int) = _; omega) | exact hP | exact hU | exact hM))))
  ·have g1 : op ≠ 1 := ne_of_beq_false g1;refine Pick.by (fun g2 => ?_) (fun g2 => ?_)
   ·have g2 : op = 2 := eq_of_beq g2;have hstep : ckStep s (op, L, R) = if X = Y then some { poles := s.poles ++ [X], used := (s.used.set L.toNat 1).set R.toNat 1, mid := s.mid } else none := by
     unfold ckStep;rw [if_pos free, if_neg g1, if_pos g2];show (if s.pol L = s.pol R then some ({ poles := s.poles ++ [s.pol L], used := _, mid := _ } : Ck) else none) = _
     rw [hX, hY]
    refine Pick.by (fun g3 => ?_) (fun g3 => ?_)
    ·have g3 : ¬ X = Y := fun e => by
      have g3 : (!(X.1 == Y.1 && (X.2 == Y.2 && true))) = true := g3;rw [e] at g3; simp at g3
     rw [if_neg g3] at hstep;exact ⟨rfl, stop hstep⟩
    have g3 : X = Y := by
     have g3 : (!(X.1 == Y.1 && (X.2 == Y.2 && true))) = false := g3;simp at g3;exact Prod.ext g3.1 g3.2
    rw [if_pos g3] at hstep;have hw' := ckw_step hw hti hstep;have hP : edges (s.poles ++ [X]) = edges s.poles ++ [[.i .i64 X.1, .i .i64 X.2]] := edges_snoc ..;have hU : ints ((s.used.set L.toNat 1).set R.toNat 1) = ((ints s.used).set L.toNat [.i .i64 1]).set R.toNat [.i .i64 1] := by rw [ints_set, ints_set]
    refine Pick.T (by rw [decide_eq_true_iff, qeq]; show _ + 1 <= _; omega) ?_;refine Pick.n ?_;refine Next.by (i + 1, ({ poles := s.poles ++ [X], used := (s.used.set L.toNat 1).set R.toNat 1, mid := s.mid } : Ck)) ⟨by show i + 1 <= _; omega, hw'⟩ (by show t.length - (i + 1) < t.length - i; omega) (by refine Weak.bw (sg 0 [_,_,_,_,_]) (by ((repeat' first|exact rfl|exact trivial|apply And.intro) <;> (repeat' first|exact rfl|exact trivial|apply And.intro)); all_goals ((first|exact sc_eq (by show ((i + 1 : Nat) : Int) = _; omega) | exact hP | exact hU))))
   ·have g2 : op ≠ 2 := ne_of_beq_false g2;have hs : ckStep s (op, L, R) = none := by
     unfold ckStep; rw [if_pos free, if_neg g1, if_neg g2]
    exact ⟨rfl, stop hs⟩
 have hie : i = t.length := by have := of_decide_eq_false hc; omega
 subst hie
 have hrun := hw.run
 rw [List.drop_length] at hrun
 have hgood := good s hrun.symm
 have hel2 := qeq s.poles
 obtain ⟨last, hlast⟩ : ∃ x, ckLast s = x := ⟨_, rfl⟩
 have hlget : (edges s.poles)[s.poles.length - 1]? = some [.i .i64 last.1, .i .i64 last.2] := edges_get (by rw [<- hlast]; unfold ckLast; rw [qDq, qEq (by omega)]; rfl)
 refine Pick.n ?_
 refine Idx.by (s.poles.length - 1) (by omega) (by omega) ?_
 refine Look.by _ hlget ?_
 have hlen := qiq l
 refine LoopP.intro (α := Nat) (fun j => j <= l.length /\ ∀ v ∈ l.take j, mapGet s.mid [v] = if v = last.1 \/ v = last.2 then 0 else 1) (fun j => l.length - j) (fun j => [(9, .mp 1), (17, .ptr 2 0), (137, .sl 0 none none), (138, .s (.i .i64 l.length)), (139, .s (.i .i64 j))])
  (fun j => [(0, some (.flat false 1 (ints l))), (1, some (.map false 1 s.mid)), (2, some (.blk [.s (.i .i64 last.1), .s (.i .i64 last.2)]))]) 3 0 ⟨by omega, by simp⟩ (by refine Weak.bw (sg 0 [_,_,_]) (by ((repeat' first|exact rfl|exact trivial|apply And.intro) <;> (repeat' first|exact rfl|exact trivial|apply And.intro)); all_goals (exact sc_eq (by rw [hlen])))) ?_
 rintro j ⟨hj, hd⟩
 refine Pick.by (fun hc => ?_) (fun hc => ?_)
 ·have hlt : j < l.length := by have := of_decide_eq_true hc; omega
  obtain ⟨v, hv⟩ : ∃ v, l[j] = v := ⟨_, rfl⟩;have hlj : l[j]? = some v := by rw [qEq hlt, hv]
  have hvm := qMq hlj;have hvr := hrng v hvm;have hn1 := hR.2.1;have hts : l.take (j + 1) = l.take j ++ [v] := by rw [List.take_add_one, hlj]; rfl
  have wrong : mapGet s.mid [v] ≠ (if v = last.1 \/ v = last.2 then 0 else 1) -> Sc.b false = Sc.b (ckF n E l t) := fun h => by
   rw [hgood, decide_eq_false];intro hce;have := hce v hvm;rw [hlast] at this;exact h this
  have next : mapGet s.mid [v] = (if v = last.1 \/ v = last.2 then 0 else 1) -> ∀ u ∈ l.take (j + 1), mapGet s.mid [u] = if u = last.1 \/ u = last.2 then 0 else 1 := fun h u hu => by
   rw [hts] at hu;rcases List.mem_append.1 hu with hu | hu
   ·exact hd u hu
   ·rw [List.mem_singleton] at hu; subst hu; exact h
  refine Idx.by j rfl (by omega) ?_;refine Look.by _ (qhq hlj) ?_;refine Pick.by (fun a1 => ?_) (fun a1 => ?_)
  ·have a1 : v = last.1 := eq_of_beq a1;have hw0 : (if v = last.1 \/ v = last.2 then (0 : Int) else 1) = 0 := if_pos (.inl a1);rw [hw0] at wrong next;refine Pick.n ?_;refine Pick.by (fun a3 => ?_) (fun a3 => ?_)
   ·exact ⟨rfl, wrong (bne_iff_ne.1 a3)⟩
   ·have a3 : mapGet s.mid [v] = 0 := by simpa using a3
    refine Pick.n ?_;refine Next.by (j + 1) ⟨by omega, next a3⟩ (by omega) (by refine Weak.bw (sg 0 [_,_,_]) (by ((repeat' first|exact rfl|exact trivial|apply And.intro) <;> (repeat' first|exact rfl|exact trivial|apply And.intro)); all_goals (exact sc_eq (by omega))))
  have a1 : v ≠ last.1 := ne_of_beq_false a1;refine Pick.by (fun a2 => ?_) (fun a2 => ?_)
  ·have a2 : v = last.2 := eq_of_beq a2;have hw0 : (if v = last.1 \/ v = last.2 then (0 : Int) else 1) = 0 := if_pos (.inr a2);rw [hw0] at wrong next;refine Pick.n ?_;refine Pick.by (fun a3 => ?_) (fun a3 => ?_)
   ·exact ⟨rfl, wrong (bne_iff_ne.1 a3)⟩
   ·have a3 : mapGet s.mid [v] = 0 := by simpa using a3
    refine Pick.n ?_;refine Next.by (j + 1) ⟨by omega, next a3⟩ (by omega) (by refine Weak.bw (sg 0 [_,_,_]) (by ((repeat' first|exact rfl|exact trivial|apply And.intro) <;> (repeat' first|exact rfl|exact trivial|apply And.intro)); all_goals (exact sc_eq (by omega))))
  ·have a2 : v ≠ last.2 := ne_of_beq_false a2;have hw0 : (if v = last.1 \/ v = last.2 then (0 : Int) else 1) = 1 := if_neg (by rintro (h | h); exact a1 h; exact a2 h);rw [hw0] at wrong next;refine Pick.n ?_;refine Pick.by (fun a3 => ?_) (fun a3 => ?_)
   ·exact ⟨rfl, wrong (bne_iff_ne.1 a3)⟩
   ·have a3 : mapGet s.mid [v] = 1 := by simpa using a3
    refine Pick.n ?_;refine Next.by (j + 1) ⟨by omega, next a3⟩ (by omega) (by refine Weak.bw (sg 0 [_,_,_]) (by ((repeat' first|exact rfl|exact trivial|apply And.intro) <;> (repeat' first|exact rfl|exact trivial|apply And.intro)); all_goals (exact sc_eq (by omega))))
 ·have hje : j = l.length := by have := of_decide_eq_false hc; omega
  subst hje;rw [List.take_length] at hd;refine ⟨rfl, ?_⟩;show Sc.b true = Sc.b (ckF n E l t)
  rw [hgood, decide_eq_true];intro v hv;rw [hlast];exact hd v hv
def growL (E : List Ed) (l S : List Int) : List Int := l.filter fun v => S.elem v || E.any fun e => (S.elem e.1 && e.2 == v) || (S.elem e.2 && e.1 == v)
def iterL (E : List Ed) (l : List Int) : Nat -> List Int -> List Int
 | 0, S => S
 | k + 1, S => iterL E l k (growL E l S)
theorem iterL_rch {E : List Ed} {l : List Int} {s : Int} : ∀ {k : Nat} {S : List Int}, (∀ u ∈ S, Rch E l s u) -> ∀ v ∈ iterL E l k S, Rch E l s v := by
 intro k
 induction k with
 | zero => intro S h v hv; exact h v hv
 | succ k ih =>
  intro S h v hv;refine ih (S := growL E l S) (fun u hu => ?_) v hv;obtain ⟨hul, hu⟩ := List.mem_filter.1 hu;rcases Bool.or_eq_true_iff.1 hu with hu | hu
  ·exact h u (by simpa using hu)
  ·obtain ⟨e, he, hh⟩ := List.any_eq_true.1 hu;rcases Bool.or_eq_true_iff.1 hh with hh | hh <;> obtain ⟨h1, h2⟩ := Bool.and_eq_true_iff.1 hh
   ·have h2 := eq_of_beq h2;subst h2;exact .step (h e.1 (by simpa using h1)) (.inl he) hul
   ·have h2 := eq_of_beq h2;subst h2;exact .step (h e.2 (by simpa using h1)) (.inr he) hul
def wholeD (n : Int) (E : List Ed) (l : List Int) : Bool := decide (RightP n E /\ l ≠ [] /\ l.Nodup /\ (∀ v ∈ l, 0 <= v /\ v < n) /\ ∀ v ∈ l, v ∈ iterL E l l.length [l.headD 0])
theorem wholeD_p {n : Int} {E : List Ed} {l : List Int} (h : wholeD n E l = true) : WholeP n E l := by
 obtain ⟨h1, h2, h3, h4, h5⟩ := of_decide_eq_true h
 exact ⟨h1, h2, h3, h4, fun v hv => iterL_rch (k := l.length) (S := [l.headD 0]) (fun u hu => by rw [List.mem_singleton] at hu; subst hu; exact .base) v (h5 v hv)⟩
def twoD (n : Int) (E : List Ed) (l : List Int) : Bool := decide (2 <= l.length) && (decide (l.length <= 1000) && (wholeD n E l && l.all fun c => wholeD n E (l.erase c)))
theorem twoD_p {n : Int} {E : List Ed} {l : List Int} (h : twoD n E l = true) : twoB n E l = true := by
 unfold twoD at h
 simp only [Bool.and_eq_true, decide_eq_true_eq, List.all_eq_true] at h
 obtain ⟨h1, h2, h3, h4⟩ := h
 exact twoB_iff.2 ((two_iff h2).2 ⟨h1, wholeD_p h3, fun c hc => wholeD_p (h4 c hc)⟩)
theorem two_not {n : Int} {E : List Ed} {l : List Int} (S : List Int) (hl : l.length <= 1000) (h0 : l.headD 0 ∈ S) (hS : ∀ e ∈ E, (e.1 ∈ S -> e.2 ∈ l -> e.2 ∈ S) /\ (e.2 ∈ S -> e.1 ∈ l -> e.1 ∈ S)) {v : Int} (hv : v ∈ l) (hn : v ∉ S) : twoB n E l = false := by
 cases h : twoB n E l with
 | false => rfl
 | true =>
  obtain ⟨_, hw, _⟩ := (two_iff hl).1 (twoB_iff.1 h);have : ∀ u, Rch E l (l.headD 0) u -> u ∈ S := fun u hu => by
   induction hu with
   | base => exact h0
   | step _ ha hm ih =>
    rcases ha with ha | ha
    ·exact (hS _ ha).1 ih hm
    ·exact (hS _ ha).2 ih hm
  exact absurd (this v (hw.2.2.2.2 v hv)) hn
def E13 : List Ed := [(0, 1), (0, 3), (1, 2), (2, 3)]
theorem two13 : twoB 4 E13 [0, 1, 2, 3] = true := twoD_p (by decide)
theorem two13r : twoB 4 E13 [3, 2, 1, 0] = true := twoD_p (by decide)
theorem two13n : twoB 4 E13 [0, 2] = false := two_not [0] (by decide) (by decide) (by decide) (v := 2) (by decide) (by decide)
theorem spt13 : sptF 4 E13 [0, 1, 2, 3] = ([(1, 0, 1), (1, 2, 4), (2, 3, 5)], 0) := by
 unfold sptF
 rw [if_pos two13]
 unfold startS
 rw [sortI_id (by decide)]
 decide
theorem spt13n : sptF 4 E13 [0, 2] = ([], 1) := if_neg (by rw [two13n]; simp)
theorem ck13 : ckF 4 E13 [3, 2, 1, 0] [(1, 0, 1), (1, 2, 4), (2, 3, 5)] = true := by
 unfold ckF
 rw [two13r]
 decide
theorem ck13n : ckF 4 E13 [3, 2, 1, 0] [(1, 0, 1), (1, 2, 4)] = false := by
 unfold ckF
 rw [two13r]
 decide
noncomputable def Shown13C : Con := conP 0 (fun _ : Unit => True) (fun _ => []) (fun _ => .one (.s (.b true)))
theorem Shown13C_at : Shown13C.F [] = some (.one (.s (.b true)), []) := conP_at (a := ()) (fun a b _ _ h => rfl) trivial
set_option maxRecDepth 100000 in
theorem Shown13_ok : SoundC Tryz.prog T 23 Shown13C := by
 refine sound_con (X := { Γ := [(25, SptC), (26, CkC)], T := T, nt := 63 }) cr_none hmix hT (sound_cons Spt_ok (sound_cons Ck_ok sound_nil)) Tryz.func23 (by rfl) (by rfl) (by rfl) (by rfl) 0 ?_
 rintro ⟨⟩ -
 refine two_le ?_
 have h1 := SptC_at (n := 4) (E := E13) (l := [0, 1, 2, 3]) (by decide)
 rw [spt13] at h1
 refine Call.by _ _ h1 ?_
 have h2 := SptC_at (n := 4) (E := E13) (l := [0, 2]) (by decide)
 rw [spt13n] at h2
 refine Call.by _ _ h2 ?_
 refine Idx.by 0 rfl (by decide) ?_
 refine Look.by [.i .i64 1, .i .i64 0, .i .i64 1] rfl ?_
 refine Idx.by 2 rfl (by decide) ?_
 refine Look.by [.i .i64 2, .i .i64 3, .i .i64 5] rfl ?_
 have h3 := CkC_at (n := 4) (E := E13) (l := [3, 2, 1, 0]) (t := [(1, 0, 1), (1, 2, 4), (2, 3, 5)]) ⟨by decide, by decide⟩
 rw [ck13] at h3
 refine Call.by _ _ h3 ?_
 refine Rng.by 0 2 rfl rfl (by omega) (by decide) ?_
 have h4 := CkC_at (n := 4) (E := E13) (l := [3, 2, 1, 0]) (t := [(1, 0, 1), (1, 2, 4)]) ⟨by decide, by decide⟩
 rw [ck13n] at h4
 refine Call.by _ _ h4 ?_
 refine Seg.by (by kernel_rfl) ?_
 exact ⟨rfl, rfl⟩
end Go.Sh
namespace Go.Sh
theorem SpI.adj {s : Sp} (h : SpI s) (m : Nat) {k : Nat} {v p q : Int} (hp : PickP s k v p q) {u x : Int} (hu : u ∈ s.left) (huv : u ≠ v) :
  x ∈ nget (stepS m s k).near u ↔ (x ∈ nget s.near u /\ x ≠ v) \/ (q ∉ nget s.near p /\ ((u = p /\ x = q) \/ (u = q /\ x = p))) := by
 have hv : s.left.getD k 0 = v := by rw [qDq, hp.at_]; rfl
 have hends : endsS s v = pairF p q := by unfold endsS; rw [hp.near]; rfl
 have hnpq : [p, q].Nodup := by simp [hp.pq]
 have hne := hp.pq
 have hN1 : ∀ u, nget (cutsV v (nget s.near v) s.near) u = if u = p \/ u = q then (nget s.near u).erase v else nget s.near u := fun u => by
  rw [hp.near, cuts_get hnpq];by_cases hu : u = p \/ u = q
  ·rw [if_pos (by simpa using hu), if_pos hu]
  ·rw [if_neg (by simpa using hu), if_neg hu]
 have hadj : ∀ {u x : Int}, u ∈ s.left -> u ≠ v -> (x ∈ nget (cutsV v (nget s.near v) s.near) u ↔ x ∈ nget s.near u /\ x ≠ v) := fun {u x} hu huv => by
  rw [hN1];by_cases hu2 : u = p \/ u = q
  ·rw [if_pos hu2, (h.nd u hu).mem_erase_iff]; exact And.comm
  ·rw [if_neg hu2];refine ⟨fun hx => ⟨hx, fun e => ?_⟩, And.left⟩;subst e;have := (h.sym u hu x hx).2.2;rw [hp.near] at this;exact hu2 (by simpa using this)
 have hthpq := h.th p hp.pm q hp.qm hp.pq
 by_cases hc : mapHas s.thing (keyE (endsS s v)) = true
 ·have hst : (stepS m s k).near = cutsV v (nget s.near v) s.near := by
   unfold stepS;simp only [hv];rw [if_pos hc]
  rw [hends] at hc;have hq := hthpq.1 hc;rw [hst, hadj hu huv];exact ⟨.inl, fun h => h.resolve_right fun h => h.1 hq⟩
 ·have hst : (stepS m s k).near = joinN (cutsV v (nget s.near v) s.near) (endsS s v).1 (endsS s v).2 := by
   unfold stepS;simp only [hv];rw [if_neg hc]
  rw [hends] at hc;have hq : q ∉ nget s.near p := fun k => hc (hthpq.2 k)
  have hj : ∀ u, nget (joinN (cutsV v (nget s.near v) s.near) (endsS s v).1 (endsS s v).2) u = if u = p then nget (cutsV v (nget s.near v) s.near) p ++ [q] else if u = q then nget (cutsV v (nget s.near v) s.near) q ++ [p] else nget (cutsV v (nget s.near v) s.near) u := fun u => by
   rw [hends];rcases pairF_two p q with ⟨e1, e2⟩ | ⟨e1, e2⟩
   ·rw [e1, e2, join_get hne]
   ·rw [e1, e2, join_get (Ne.symm hne)];by_cases u1 : u = p
    ·rw [if_pos u1, if_neg (by rw [u1]; exact hne), if_pos u1]
    ·by_cases u2 : u = q
     ·rw [if_pos u2, if_neg u1, if_pos u2]
     ·rw [if_neg u2, if_neg u1, if_neg u1, if_neg u2]
  rw [hst, hj];by_cases u1 : u = p
  ·rw [if_pos u1, List.mem_append, <- u1, hadj hu huv, List.mem_singleton];constructor
   ·rintro (h | h)
    ·exact .inl h
    ·exact .inr ⟨by rw [u1]; exact hq, .inl ⟨rfl, h⟩⟩
   ·rintro (h | ⟨_, ⟨_, h⟩ | ⟨h, _⟩⟩)
    ·exact .inl h
    ·exact .inr h
    ·exact absurd (u1.symm.trans h) hne
  ·rw [if_neg u1];by_cases u2 : u = q
   ·rw [if_pos u2, List.mem_append, <- u2, hadj hu huv, List.mem_singleton];constructor
    ·rintro (h | h)
     ·exact .inl h
     ·exact .inr ⟨by rw [u2]; exact hq, .inr ⟨rfl, h⟩⟩
    ·rintro (h | ⟨_, ⟨h, _⟩ | ⟨_, h⟩⟩)
     ·exact .inl h
     ·exact absurd h u1
     ·exact .inr h
   ·rw [if_neg u2, hadj hu huv];constructor
    ·exact .inl
    ·rintro (h | ⟨_, ⟨h, _⟩ | ⟨h, _⟩⟩)
     ·exact h
     ·exact absurd h u1
     ·exact absurd h u2
theorem SpI.left_mem {s : Sp} (h : SpI s) (m : Nat) {k : Nat} {v p q : Int} (hp : PickP s k v p q) {x : Int} : x ∈ (stepS m s k).left ↔ x ∈ s.left /\ x ≠ v := by
 rw [(h.step m hp).2.1, h.nl.mem_erase_iff]; exact And.comm
theorem SpI.pq {s : Sp} (h : SpI s) (m : Nat) {k : Nat} {v p q : Int} (hp : PickP s k v p q) : q ∈ nget (stepS m s k).near p /\ p ∈ nget (stepS m s k).near q := by
 rw [h.adj m hp hp.pm hp.pv, h.adj m hp hp.qm hp.qv]
 by_cases hq : q ∈ nget s.near p
 ·exact ⟨.inl ⟨hq, hp.qv⟩, .inl ⟨(h.sym p hp.pm q hq).2.2, hp.pv⟩⟩
 ·exact ⟨.inr ⟨hq, .inl ⟨rfl, rfl⟩⟩, .inr ⟨hq, .inr ⟨rfl, rfl⟩⟩⟩
def AdjS (s : Sp) (x y : Nat) : Prop := (x : Int) ∈ s.left /\ (y : Int) ∈ nget s.near (x : Int)
theorem adjS_sm {s : Sp} (h : SpI s) : Sm (AdjS s) := ⟨fun x y ⟨h1, h2⟩ => by
  obtain ⟨k1, k2, k3⟩ := h.sym _ h1 _ h2;exact ⟨k1, k3⟩, fun x ⟨h1, h2⟩ => (h.sym _ h1 _ h2).2.1 rfl⟩
theorem SpI.red {s : Sp} (h : SpI s) (h0 : ∀ x ∈ s.left, 0 <= x) (m : Nat) {k : Nat} {v p q : Int} (hp : PickP s k v p q) : Red (AdjS s) (AdjS (stepS m s k)) v.toNat p.toNat q.toNat (q ∉ nget s.near p) := by
 have v0 := h0 v hp.mem
 have p0 := h0 p hp.pm
 have q0 := h0 q hp.qm
 have ev := Int.toNat_of_nonneg v0
 have ep := Int.toNat_of_nonneg p0
 have eq := Int.toNat_of_nonneg q0
 refine ⟨fun y ⟨_, hy⟩ => ?_, fun x y => ?_, fun _ => ?_, fun _ _ _ => ?_⟩
 ·rw [ev, hp.near] at hy;have : (y : Int) = p \/ (y : Int) = q := by simpa using hy
  omega
 ·unfold AdjS;rw [h.left_mem m hp];constructor
  ·rintro ⟨⟨hx, hxv⟩, hy⟩;rw [h.adj m hp hx hxv] at hy;refine ⟨by omega, ?_, ?_⟩
   ·rcases hy with ⟨_, hy⟩ | ⟨_, ⟨_, hy⟩ | ⟨_, hy⟩⟩
    ·omega
    ·have := hp.qv; omega
    ·have := hp.pv; omega
   ·rcases hy with ⟨hy, _⟩ | ⟨hq, hy⟩
    ·exact .inl ⟨hx, hy⟩
    ·exact .inr ⟨hq, by omega⟩
  ·rintro ⟨hx, hy, ⟨k1, k2⟩ | ⟨hq, k1⟩⟩
   ·have hxv : (x : Int) ≠ v := by omega
    exact ⟨⟨k1, hxv⟩, (h.adj m hp k1 hxv).2 (.inl ⟨k2, by omega⟩)⟩
   ·have hpm := hp.pm;have hqm := hp.qm;have hxm : (x : Int) ∈ s.left := by
     rcases k1 with ⟨e, _⟩ | ⟨e, _⟩
     ·rw [show (x : Int) = p by omega]; exact hpm
     ·rw [show (x : Int) = q by omega]; exact hqm
    have hxv : (x : Int) ≠ v := by omega
    exact ⟨⟨hxm, hxv⟩, (h.adj m hp hxm hxv).2 (.inr ⟨hq, by omega⟩)⟩
 ·unfold AdjS;rw [ev, ep, eq, hp.near];exact ⟨⟨hp.mem, by simp⟩, ⟨hp.mem, by simp⟩, fun e => hp.pq (by omega)⟩
 ·unfold AdjS;rw [ep, eq];by_cases hq : q ∈ nget s.near p
  ·exact .inl ⟨hp.pm, hq⟩
  ·exact .inr hq
inductive Pa (s : Sp) (c : Int) : Int -> Int -> Prop
 | refl {a : Int} : Pa s c a a
 | step {a b d : Int} : Pa s c a b -> d ∈ nget s.near b -> d ≠ c -> Pa s c a d
theorem Pa.trans {s : Sp} {c a b d : Int} (h : Pa s c a b) (k : Pa s c b d) : Pa s c a d := by
 induction k with
 | refl => exact h
 | step _ h1 h2 ih => exact .step ih h1 h2
theorem Pa.in_ {s : Sp} (hs : SpI s) {c a b : Int} (h : Pa s c a b) (ha : a ∈ s.left) (hc : a ≠ c) : b ∈ s.left /\ b ≠ c := by
 induction h with
 | refl => exact ⟨ha, hc⟩
 | step _ h1 h2 ih => exact ⟨(hs.sym _ ih.1 _ h1).1, h2⟩
theorem Pa.symm {s : Sp} (hs : SpI s) {c a b : Int} (h : Pa s c a b) (ha : a ∈ s.left) (hc : a ≠ c) : Pa s c b a := by
 induction h with
 | refl => exact .refl
 | @step b d h0 h1 h2 ih =>
  obtain ⟨hb, hbc⟩ := h0.in_ hs ha hc;exact (Pa.step .refl (hs.sym b hb d h1).2.2 hbc).trans ih
theorem Pa.first {s : Sp} {c a b : Int} (h : Pa s c a b) (hne : a ≠ b) : ∃ d ∈ nget s.near a, d ≠ c := by
 induction h with
 | refl => exact absurd rfl hne
 | @step b d h0 h1 h2 ih =>
  by_cases e : a = b
  ·subst e; exact ⟨d, h1, h2⟩
  ·exact ih e
def TwoS (s : Sp) : Prop := ∀ c x y, x ∈ s.left -> y ∈ s.left -> x ≠ c -> y ≠ c -> Pa s c x y
theorem TwoS.deg {s : Sp} (hs : SpI s) (h : TwoS s) (h3 : 3 <= s.left.length) {v : Int} (hv : v ∈ s.left) : 2 <= (nget s.near v).length := by
 have l1 : (s.left.erase v).length = s.left.length - 1 := List.length_erase_of_mem hv
 obtain ⟨w, hw⟩ : ∃ w, w ∈ s.left.erase v := List.exists_mem_of_ne_nil _ (by intro e; rw [e] at l1; simp at l1; omega)
 have l2 := List.length_erase_of_mem hw
 obtain ⟨u, hu⟩ : ∃ u, u ∈ (s.left.erase v).erase w := List.exists_mem_of_ne_nil _ (by intro e; rw [e] at l2; simp at l2; omega)
 obtain ⟨huw, hu⟩ := (hs.nl.erase v).mem_erase_iff.1 hu
 obtain ⟨huv, hul⟩ := hs.nl.mem_erase_iff.1 hu
 obtain ⟨hwv, hwl⟩ := hs.nl.mem_erase_iff.1 hw
 obtain ⟨d1, k1, n1⟩ := (h u v w hv hwl (Ne.symm huv) (Ne.symm huw)).first (Ne.symm hwv)
 have hd1 := hs.sym v hv d1 k1
 obtain ⟨d2, k2, n2⟩ := (h d1 v u hv hul (Ne.symm hd1.2.1) (Ne.symm n1)).first (Ne.symm huv)
 exact nodup_len (l := [d1, d2]) (by simp [Ne.symm n2]) fun x hx => by
  have : x = d1 \/ x = d2 := by simpa using hx
  rcases this with rfl | rfl
  ·exact k1
  ·exact k2
theorem TwoS.step {s : Sp} (hs : SpI s) (h : TwoS s) (m : Nat) {k : Nat} {v p q : Int} (hp : PickP s k v p q) : TwoS (stepS m s k) := by
 intro c x y hx hy hxc hyc
 obtain ⟨hx, hxv⟩ := (hs.left_mem m hp).1 hx
 obtain ⟨hy, hyv⟩ := (hs.left_mem m hp).1 hy
 have hpq := hs.pq m hp
 have keep : ∀ {b d : Int}, b ∈ s.left -> b ≠ v -> d ∈ nget s.near b -> d ≠ v -> d ∈ nget (stepS m s k).near b := fun {b d} hb hbv hd hdv => (hs.adj m hp hb hbv).2 (.inl ⟨hd, hdv⟩)
 by_cases hcv : c = v
 ·subst hcv;have : ∀ {a b : Int}, Pa s c a b -> a ∈ s.left -> a ≠ c -> Pa (stepS m s k) c a b := fun {a b} hab ha hac => by
   induction hab with
   | refl => exact .refl
   | @step b d h0 h1 h2 ih =>
    obtain ⟨hb, hbc⟩ := h0.in_ hs ha hac;exact .step ih (keep hb hbc h1 h2) h2
  exact this (h c x y hx hy hxc hyc) hx hxc
 ·obtain ⟨f, hf⟩ : ∃ f : Int -> Int, f = fun u => if u = v then (if p = c then q else p) else u := ⟨_, rfl⟩
  have fv : f v = if p = c then q else p := by rw [hf]; exact if_pos rfl
  have fn : ∀ {u}, u ≠ v -> f u = u := fun {u} hu => by rw [hf]; exact if_neg hu
  have fvc : f v ≠ c := by
   rw [fv];by_cases e : p = c
   ·rw [if_pos e, <- e]; exact Ne.symm hp.pq
   ·rw [if_neg e]; exact e
  have fv2 : f v = p \/ f v = q := by
   rw [fv];by_cases e : p = c
   ·rw [if_pos e]; exact .inr rfl
   ·rw [if_neg e]; exact .inl rfl
  -- one of both, beside the other
  have other : ∀ {z : Int}, (z = p \/ z = q) -> z ≠ f v -> f v ∈ nget (stepS m s k).near z /\ z ∈ nget (stepS m s k).near (f v) := fun {z} hz hne => by
   rcases hz with rfl | rfl
   ·rcases fv2 with e | e
    ·exact absurd e.symm hne
    ·rw [e]; exact hpq
   ·rcases fv2 with e | e
    ·rw [e]; exact ⟨hpq.2, hpq.1⟩
    ·exact absurd e.symm hne
  have main : ∀ {a b : Int}, Pa s c a b -> a ∈ s.left -> a ≠ c -> Pa (stepS m s k) c (f a) (f b) := fun {a b} hab ha hac => by
   induction hab with
   | refl => exact .refl
   | @step b d h0 h1 h2 ih =>
    obtain ⟨hb, hbc⟩ := h0.in_ hs ha hac;by_cases ebv : b = v
    ·subst ebv;rw [hp.near] at h1;have h1 : d = p \/ d = q := by simpa using h1
     have hdv : d ≠ b := by rcases h1 with rfl | rfl; exact hp.pv; exact hp.qv
     rw [fn hdv];by_cases e : d = f b
     ·rw [e]; exact ih
     ·exact .step ih (other h1 e).2 h2
    ·rw [fn ebv] at ih;by_cases edv : d = v
     ·subst edv;have := (hs.sym b hb d h1).2.2;rw [hp.near] at this;have hbpq : b = p \/ b = q := by simpa using this
      by_cases e : b = f d
      ·rw [<- e]; exact ih
      ·exact .step ih (other hbpq e).1 fvc
     ·rw [fn edv];exact .step ih (keep hb ebv h1 edv) h2
  have := main (h c x y hx hy hxc hyc) hx hxc;rw [fn hxv, fn hyv] at this;exact this
theorem TwoS.start {n : Int} {E : List Ed} {l : List Int} (hl : l.length <= 1000) (hT : TwoP n E l) : TwoS (startS E l) := by
 obtain ⟨_, hw, hwe⟩ := (two_iff hl).1 hT
 obtain ⟨hR, h2, ⟨hnd, hrng⟩, -⟩ := hT
 have hs := start_ok (l := l) hR hnd
 have hm : ∀ {x : Int}, x ∈ (startS E l).left ↔ x ∈ l := fun {x} => (List.mergeSort_perm l _).mem_iff
 intro c x y hx hy hxc hyc
 obtain ⟨k, hk, hkw⟩ : ∃ k : List Int, (∀ u, u ∈ k ↔ u ∈ l /\ u ≠ c) /\ WholeP n E k := by
  by_cases hc : c ∈ l
  ·exact ⟨l.erase c, fun u => by rw [hnd.mem_erase_iff]; exact And.comm, hwe c hc⟩
  ·exact ⟨l, fun u => ⟨fun h => ⟨h, fun e => hc (by rw [<- e]; exact h)⟩, And.left⟩, hw⟩
 obtain ⟨-, hk0, -, -, hconn⟩ := hkw
 have hh : k.headD 0 ∈ k := by
  cases k with
  | nil => exact absurd rfl hk0
  | cons a k => exact List.mem_cons_self
 have to : ∀ {u : Int}, Rch E k (k.headD 0) u -> u ∈ k /\ Pa (startS E l) c (k.headD 0) u := fun {u} h => by
  induction h with
  | base => exact ⟨hh, .refl⟩
  | @step u w h0 ha hm2 ih =>
   refine ⟨hm2, .step ih.2 ?_ ((hk w).1 hm2).2⟩;rw [start_near hR, mem_nearL, with_mem];exact ⟨ha, ((hk u).1 ih.1).1, ((hk w).1 hm2).1⟩
 have hxk := (hk x).2 ⟨hm.1 hx, hxc⟩
 have hyk := (hk y).2 ⟨hm.1 hy, hyc⟩
 have hhl := (hk _).1 hh
 exact ((to (hconn x hxk)).2.symm hs (hm.2 hhl.1) hhl.2).trans (to (hconn y hyk)).2
structure VsP (vs : List Nat) (s : Sp) : Prop where
 nd : vs.Nodup
 in_ : ∀ x : Nat, (x : Int) ∈ s.left -> x ∈ vs
theorem spt_K4 {c : Int} {m : Nat} (hc : c ≠ 0) {vs : List Nat} : ∀ (f : Nat) {s : Sp}, s.left.length <= f -> SpI s -> TwoS s -> (∀ x ∈ s.left, 0 <= x) -> VsP vs s ->
  ((runSp c m f s).2 = 0 /\ ¬ ∃ d, MdL vs (AdjS s) d) \/ (runSp c m f s = ([], c) /\ ∃ d, MdL vs (AdjS s) d) := by
 have stop : ∀ {s : Sp}, s.left.length <= 2 -> SpI s -> ¬ ∃ d, MdL vs (AdjS s) d := by
  rintro s hl hs ⟨d, hd⟩;obtain ⟨x, y, _, _, h1, e1, e2⟩ := hd.meet 0 1 (by omega) (by omega);obtain ⟨z, w, _, _, h2, e3, e4⟩ := hd.meet 2 3 (by omega) (by omega);have hy := ((adjS_sm hs).sym _ _ h1).1;have := nodup_len (l := [(x : Int), (y : Int), (z : Int)]) (m := s.left) (by
   have n1 : x ≠ y := fun e => by rw [e] at e1; omega
   have n2 : x ≠ z := fun e => by rw [e] at e1; omega
   have n3 : y ≠ z := fun e => by rw [e] at e2; omega
   simp;omega) (fun u hu => by
   have : u = x \/ u = y \/ u = z := by simpa using hu
   rcases this with rfl | rfl | rfl
   ·exact h1.1
   ·exact hy
   ·exact h2.1)
  simp at this;omega
 intro f
 induction f with
 | zero => intro s hf hs _ _ _; exact .inl ⟨rfl, stop (by omega) hs⟩
 | succ f ih =>
  intro s hf hs h2 h0 hv;simp only [runSp];by_cases hl : s.left.length <= 2
  ·rw [if_pos hl]; exact .inl ⟨rfl, stop hl hs⟩
  ·rw [if_neg hl]
   cases hk : pickS s with
   | none =>
    right
    refine ⟨rfl, ?_⟩;have h3 : ∀ x ∈ s.left, 3 <= (nget s.near x).length := fun x hx => by
     have := List.findIdx?_eq_none_iff.1 hk x hx;have := of_decide_eq_false this;have := h2.deg hs (by omega) hx;omega
    have hmap : ∀ x : Nat, x ∈ s.left.map Int.toNat ↔ (x : Int) ∈ s.left := fun x => by
     rw [List.mem_map];constructor
     ·rintro ⟨v, hv, rfl⟩;rw [Int.toNat_of_nonneg (h0 v hv)]; exact hv
     ·intro h; exact ⟨_, h, Int.toNat_natCast x⟩
    have hnd2 : (s.left.map Int.toNat).Nodup := by
     refine List.nodup_iff_pairwise_ne.2 ?_;rw [List.pairwise_map];refine (List.nodup_iff_pairwise_ne.1 hs.nl).imp_of_mem fun {a b} ha hb hab => ?_
     have := h0 a ha;have := h0 b hb;omega
    obtain ⟨d, hd⟩ := dirac (vs := s.left.map Int.toNat) (adjS_sm hs) hnd2 (fun x hx => by
     have hx := (hmap x).1 hx;have hn := hs.nd _ hx;have hin : ∀ y ∈ nget s.near (x : Int), y.toNat ∈ s.left.map Int.toNat /\ AdjS s x y.toNat := fun y hy => by
      have h1 := hs.sym _ hx y hy;have := h0 y h1.1;refine ⟨(hmap _).2 (by rw [Int.toNat_of_nonneg this]; exact h1.1), hx, by rw [Int.toNat_of_nonneg this]; exact hy⟩
     have hy0 : ∀ y ∈ nget s.near (x : Int), 0 <= y := fun y hy => h0 y (hs.sym _ hx y hy).1
     match hrow : nget s.near (x : Int), h3 _ hx with
     | a :: b :: e :: r, _ =>
      rw [hrow] at hn hin hy0;simp only [List.nodup_cons, List.mem_cons, not_or] at hn;obtain ⟨m1, k1⟩ := hin a (by simp);obtain ⟨m2, k2⟩ := hin b (by simp);obtain ⟨m3, k3⟩ := hin e (by simp);have a0 := hy0 a (by simp);have b0 := hy0 b (by simp);have e0 := hy0 e (by simp);exact ⟨_, _, _, m1, m2, m3, by omega, by omega, by omega, k1, k2, k3⟩
     | [], h => simp at h
     | [_], h => simp at h
     | [_, _], h => simp at h) (by intro e; have : s.left = [] := List.map_eq_nil_iff.1 e; rw [this] at hl; simp at hl)
    exact ⟨_, hd.induced fun x hx => hv.in_ x ((hmap x).1 hx)⟩
   | some k =>
    obtain ⟨v, p, q, hp⟩ := hs.pick hk;obtain ⟨sok, sleft, slen⟩ := hs.step m hp;have hsub : ∀ x, x ∈ (stepS m s k).left -> x ∈ s.left := fun x hx => ((hs.left_mem m hp).1 hx).1
    have red := hs.red h0 m hp;have v0 := h0 v hp.mem;have p0 := h0 p hp.pm;have vm : v.toNat ∈ vs := hv.in_ _ (by rw [Int.toNat_of_nonneg v0]; exact hp.mem);have pm : p.toNat ∈ vs := hv.in_ _ (by rw [Int.toNat_of_nonneg p0]; exact hp.pm);rcases ih (by omega) sok (h2.step hs m hp) (fun x hx => h0 x (hsub x hx)) ⟨hv.nd, fun x hx => hv.in_ x (hsub _ hx)⟩ with ⟨h1, h3⟩ | ⟨h1, d, h3⟩
    ·exact .inl ⟨h1, fun ⟨d, hd⟩ => h3 (red.go (adjS_sm hs) hv.nd vm (fun x y hxy => hv.in_ x hxy.1) hd)⟩
    ·exact .inr ⟨h1, red.back (adjS_sm hs) hv.nd vm pm h3⟩
end Go.Sh
namespace Go.Sh
theorem runSp_pre {c : Int} {m : Nat} (hc : c ≠ 0) : ∀ (f : Nat) {s : Sp}, (runSp c m f s).2 = 0 -> ∃ r, (runSp c m f s).1 = s.out ++ r := by
 intro f
 induction f with
 | zero => intro s _; exact ⟨[], by simp [runSp]⟩
 | succ f ih =>
  intro s h;simp only [runSp] at h ⊢;by_cases hl : s.left.length <= 2
  ·rw [if_pos hl]; exact ⟨[], by simp⟩
  ·rw [if_neg hl] at h ⊢
   cases hk : pickS s with
   | none => rw [hk] at h; exact absurd h hc
   | some k =>
    rw [hk] at h;dsimp only at h ⊢;obtain ⟨r, hr⟩ := ih h;have : ∃ r', (stepS m s k).out = s.out ++ r' := by
     unfold stepS;dsimp only;split
     ·exact ⟨_, List.append_assoc ..⟩
     ·exact ⟨_, rfl⟩
    obtain ⟨r', hr'⟩ := this;exact ⟨r' ++ r, by rw [hr, hr', List.append_assoc]⟩
theorem ckRun_app : ∀ {t u : List Nd} {s : Ck}, ckRun (t ++ u) s = match ckRun t s with | some s' => ckRun u s' | none => none := by
 intro t
 induction t with
 | nil => intro u s; rfl
 | cons x t ih =>
  intro u s;simp only [List.cons_append, ckRun]
  cases h : ckStep s x with
  | none => rfl
  | some s1 => exact ih
theorem ckRun_one {s s' : Ck} {x : Nd} (hs : CkI s) (h : StepP s x s') : ckRun [x] s = some s' := by
 simp only [ckRun, (ckStep_iff hs).2 h]
structure OutI (W : List Ed) (l : List Int) (N : Nat) (s : Sp) (κ : Ck) : Prop where
 run : ckRun s.out { poles := W, used := List.replicate N 0, mid := [] } = some κ
 ck : CkI κ
 use : UseC N κ
 plen : κ.poles.length = W.length + s.out.length
 ulen : κ.used.length = N
 thg : ∀ a b, a ∈ s.left -> b ∈ s.left -> a ≠ b -> mapHas s.thing (keyE (pairF a b)) = true -> ∃ i : Nat, mapGet s.thing (keyE (pairF a b)) = i /\ opn κ i /\ κ.pol (i : Nat) = pairF a b
 opn : ∀ i, opn κ i -> ∃ a b, a ∈ s.left /\ b ∈ s.left /\ a ≠ b /\ mapHas s.thing (keyE (pairF a b)) = true /\ mapGet s.thing (keyE (pairF a b)) = (i : Nat)
 mid : ∀ v ∈ l, mapGet κ.mid [v] = if v ∈ s.left then 0 else 1
 sub : ∀ v ∈ s.left, v ∈ l
theorem OutI.step {W : List Ed} {l : List Int} {N : Nat} {s : Sp} {κ : Ck} (h : OutI W l N s κ) (hs : SpI s) {k : Nat} {v p q : Int} (hp : PickP s k v p q) (hN : W.length + (stepS W.length s k).out.length <= N) : ∃ κ', OutI W l N (stepS W.length s k) κ' := by
 have hgd : s.left.getD k 0 = v := by rw [qDq, hp.at_]; rfl
 obtain ⟨⟨a, b⟩, hab⟩ : ∃ e, pairF p q = e := ⟨_, rfl⟩
 have hends : endsS s v = (a, b) := by unfold endsS; rw [hp.near]; exact hab
 have hpe : pairF a b = (a, b) := by rw [<- hab, show a = (pairF p q).1 by rw [hab], show b = (pairF p q).2 by rw [hab]]; exact pairF_idem p q
 have habm : ((a ∈ s.left /\ a ≠ v) /\ a ∈ nget s.near v) /\ (b ∈ s.left /\ b ≠ v) /\ b ∈ nget s.near v := by
  rw [hp.near];rcases pairF_two p q with ⟨e1, e2⟩ | ⟨e1, e2⟩ <;> rw [hab] at e1 e2 <;> dsimp only at e1 e2 <;> subst e1 <;> subst e2
  ·exact ⟨⟨⟨hp.pm, hp.pv⟩, by simp⟩, ⟨hp.qm, hp.qv⟩, by simp⟩
  ·exact ⟨⟨⟨hp.qm, hp.qv⟩, by simp⟩, ⟨hp.pm, hp.pv⟩, by simp⟩
 obtain ⟨⟨⟨am, av⟩, an⟩, ⟨bm, bv⟩, bn⟩ := habm
 have hne : a ≠ b := by have := pairF_lt hp.pq; rw [hab] at this; dsimp only at this; omega
 have hva := (hs.th v hp.mem a am (Ne.symm av)).2 an
 have hvb := (hs.th v hp.mem b bm (Ne.symm bv)).2 bn
 obtain ⟨L, hL, oL, pL⟩ := h.thg v a hp.mem am (Ne.symm av) hva
 obtain ⟨R, hR, oR, pR⟩ := h.thg v b hp.mem bm (Ne.symm bv) hvb
 have hLR : L ≠ R := fun e => by rw [e, pR, pairF_inj] at pL; omega
 have hmem : ∀ {x : Int}, x ∈ (stepS W.length s k).left ↔ x ∈ s.left /\ x ≠ v := hs.left_mem W.length hp
 obtain ⟨o1, ho1⟩ : ∃ o1, s.out ++ [((1, mapGet s.thing (keyE (pairF v a)), mapGet s.thing (keyE (pairF v b))) : Nd)] = o1 := ⟨_, rfl⟩
 have ho1l : o1.length = s.out.length + 1 := by rw [<- ho1]; simp
 have hst : stepS W.length s k = if mapHas s.thing (keyE (a, b)) = true then
   { left := s.left.eraseIdx k, near := cutsV v (nget s.near v) s.near, thing := mapPut s.thing (keyE (a, b)) ((W.length : Int) + (o1.length : Int)), out := o1 ++ [(2, mapGet s.thing (keyE (a, b)), (W.length : Int) + (o1.length : Int) - 1)] }
   else { left := s.left.eraseIdx k, near := joinN (cutsV v (nget s.near v) s.near) a b, thing := mapPut s.thing (keyE (a, b)) ((W.length : Int) + (o1.length : Int) - 1), out := o1 } := by
  unfold stepS;simp only [hgd, hends, ho1]
 -- the first node
 obtain ⟨x, hx⟩ : ∃ x : Nd, ((1, mapGet s.thing (keyE (pairF v a)), mapGet s.thing (keyE (pairF v b))) : Nd) = x := ⟨_, rfl⟩
 have hxL : x.2.1 = (L : Nat) := by rw [<- hx]; exact hL
 have hxR : x.2.2 = (R : Nat) := by rw [<- hx]; exact hR
 have hxo : x.1 = 1 := by rw [<- hx]
 have free : FreeP κ x := by
  refine ⟨by rw [hxL, hxR]; omega, by omega, by omega, by rw [hxL]; have := oL.1; omega, by rw [hxR]; have := oR.1; omega, ?_⟩;rw [hxL, hxR, oL.2, oR.2]; exact Int.le_refl _
 have hout : o1.length <= (stepS W.length s k).out.length := by
  rw [hst]; split
  ·show _ <= (o1 ++ [_]).length; simp
  ·exact Nat.le_refl _
 have hlt : κ.poles.length < N := by rw [h.plen]; omega
 obtain ⟨κ1, hk1⟩ : ∃ κ1 : Ck, κ1 = { poles := κ.poles ++ [pairF a b], used := (κ.used.set x.2.1.toNat 1).set x.2.2.toNat 1, mid := midIn κ.mid v } := ⟨_, rfl⟩
 have st1 : StepP κ x κ1 := .ser v a b hxo free (by rw [hxL, hxR, pL, pR]; exact ⟨pairF_comm _ _, rfl, hne, av, bv⟩) hk1
 have mv1 : MoveP κ x κ1 (pairF a b) := ⟨free, by rw [hk1], by rw [hk1]⟩
 have us1 := mv1.use h.ulen hlt h.use
 have ck1 := st1.inv h.ck
 have op1 := mv1.opn h.ulen hlt (h.use.new _ (Nat.le_refl _) hlt)
 have ul1 : κ1.used.length = N := by rw [mv1.used, List.length_set, List.length_set, h.ulen]
 have pl1 : κ1.poles.length = W.length + o1.length := by rw [mv1.poles, List.length_append, List.length_singleton, h.plen, ho1l]; omega
 have rn1 : ckRun o1 { poles := W, used := List.replicate N 0, mid := [] } = some κ1 := by
  rw [<- ho1, hx, ckRun_app, h.run];exact ckRun_one h.ck st1
 have old1 : ∀ i, Go.Sh.opn κ i -> κ1.pol (i : Nat) = κ.pol (i : Nat) := fun i hi => by rw [mv1.pol, if_pos hi.1]
 have new1 : κ1.pol (κ.poles.length : Nat) = pairF a b := by rw [mv1.pol, if_neg (by omega), if_pos rfl]
 have onew1 : Go.Sh.opn κ1 κ.poles.length := (op1 _).2 (.inr rfl)
 have stay1 : ∀ i, Go.Sh.opn κ i -> (∀ c, κ.pol (i : Nat) ≠ pairF v c) -> Go.Sh.opn κ1 i := fun i hi hc => (op1 i).2 (.inl ⟨hi, fun e => hc a (by rw [<- pL]; congr 1; omega), fun e => hc b (by rw [<- pR]; congr 1; omega)⟩)
 have md1 : ∀ w ∈ l, mapGet κ1.mid [w] = if w ∈ (stepS W.length s k).left then 0 else 1 := fun w hw => by
  rw [hk1];show mapGet (midIn κ.mid v) [w] = _
  unfold midIn;have hvl := h.mid v (h.sub v hp.mem);rw [if_pos hp.mem] at hvl;rw [mapGet_put, hvl];by_cases e : v = w
  ·subst e;rw [if_pos rfl, if_neg (fun hh => (hmem.1 hh).2 rfl)]; rfl
  ·rw [if_neg (by simpa using e), h.mid w hw];by_cases hw2 : w ∈ s.left
   ·rw [if_pos hw2, if_pos (hmem.2 ⟨hw2, Ne.symm e⟩)]
   ·rw [if_neg hw2, if_neg (fun hh => hw2 (hmem.1 hh).1)]
 have notv : ∀ {c d : Int}, c ≠ v -> d ≠ v -> ∀ z, pairF c d ≠ pairF v z := fun {c d} hc hd z e => by rw [pairF_inj] at e; omega
 have keyne : ∀ {c d : Int}, keyE (a, b) ≠ keyE (pairF c d) -> pairF c d ≠ pairF a b := fun {c d} hk e => hk (by rw [e, hpe])
 by_cases hc : mapHas s.thing (keyE (a, b)) = true
 ·rw [if_pos hc] at hst;obtain ⟨J, hJ, oJ, pJ⟩ := h.thg a b am bm hne (by rw [hpe]; exact hc);rw [hpe] at hJ;obtain ⟨s', hs'⟩ : ∃ s', stepS W.length s k = s' := ⟨_, rfl⟩;rw [hs'] at hst hmem md1 hN ⊢;have et : s'.thing = mapPut s.thing (keyE (a, b)) ((W.length : Int) + (o1.length : Int)) := by rw [hst]
  have eo : s'.out = o1 ++ [(2, mapGet s.thing (keyE (a, b)), (W.length : Int) + (o1.length : Int) - 1)] := by rw [hst]
  obtain ⟨y, hy⟩ : ∃ y : Nd, ((2, mapGet s.thing (keyE (a, b)), (W.length : Int) + (o1.length : Int) - 1) : Nd) = y := ⟨_, rfl⟩;have hyL : y.2.1 = (J : Nat) := by rw [<- hy]; exact hJ
  have hyR : y.2.2 = (κ.poles.length : Nat) := by rw [<- hy]; show (W.length : Int) + (o1.length : Int) - 1 = _; rw [h.plen, ho1l]; omega
  have hyo : y.1 = 2 := by rw [<- hy]
  have oJ1 := stay1 J oJ (by rw [pJ]; exact notv av bv);have pJ1 : κ1.pol (J : Nat) = pairF a b := by rw [old1 J oJ]; exact pJ
  have free2 : FreeP κ1 y := by
   refine ⟨by rw [hyL, hyR]; have := oJ.1; omega, by omega, by omega, by rw [hyL]; have := oJ1.1; omega, by rw [hyR]; have := onew1.1; omega, ?_⟩;rw [hyL, hyR, oJ1.2, onew1.2]; exact Int.le_refl _
  have hol : s'.out.length = o1.length + 1 := by rw [eo]; simp
  have hlt1 : κ1.poles.length < N := by rw [pl1]; omega
  obtain ⟨κ2, hk2⟩ : ∃ κ2 : Ck, κ2 = { poles := κ1.poles ++ [κ1.pol y.2.1], used := (κ1.used.set y.2.1.toNat 1).set y.2.2.toNat 1, mid := κ1.mid } := ⟨_, rfl⟩;have st2 : StepP κ1 y κ2 := .par hyo free2 (by rw [hyL, hyR, pJ1, new1]) hk2;have mv2 : MoveP κ1 y κ2 (pairF a b) := ⟨free2, by rw [hk2, hyL, pJ1], by rw [hk2]⟩;have us2 := mv2.use ul1 hlt1 us1;have op2 := mv2.opn ul1 hlt1 (us1.new _ (Nat.le_refl _) hlt1);have old2 : ∀ i, Go.Sh.opn κ1 i -> κ2.pol (i : Nat) = κ1.pol (i : Nat) := fun i hi => by rw [mv2.pol, if_pos hi.1]
  have new2 : κ2.pol (κ1.poles.length : Nat) = pairF a b := by rw [mv2.pol, if_neg (by omega), if_pos rfl]
  have onew2 : Go.Sh.opn κ2 κ1.poles.length := (op2 _).2 (.inr rfl);refine ⟨κ2, ?_, st2.inv ck1, us2, by rw [mv2.poles, List.length_append, List.length_singleton, pl1, hol]; omega, by rw [mv2.used, List.length_set, List.length_set, ul1], fun c d hcm hdm hcd hh => ?_, fun i hi => ?_, fun w hw => by rw [hk2]; exact md1 w hw, fun w hw => h.sub w (hmem.1 hw).1⟩
  ·rw [eo, hy, ckRun_app, rn1];exact ckRun_one ck1 st2
  ·rw [et] at hh ⊢;rw [mapGet_put];by_cases hkey : keyE (a, b) = keyE (pairF c d)
   ·rw [if_pos hkey];refine ⟨κ1.poles.length, by rw [pl1]; omega, onew2, ?_⟩;rw [new2, hpe];exact keyE_inj.1 hkey
   ·rw [if_neg hkey];rw [mapHas_put, decide_eq_false hkey, Bool.false_or] at hh;obtain ⟨hc1, hc2⟩ := hmem.1 hcm;obtain ⟨hd1, hd2⟩ := hmem.1 hdm;obtain ⟨i, hi1, hi2, hi3⟩ := h.thg c d hc1 hd1 hcd hh;have hi4 := stay1 i hi2 (by rw [hi3]; exact notv hc2 hd2);refine ⟨i, hi1, (op2 i).2 (.inl ⟨hi4, fun e => ?_, fun e => ?_⟩), by rw [old2 i hi4, old1 i hi2]; exact hi3⟩
    ·have : J = i := by omega
     rw [<- this, pJ] at hi3;exact keyne hkey hi3.symm
    ·have := hi2.1; omega
  ·rcases (op2 i).1 hi with ⟨hi1, n1, n2⟩ | rfl
   ·rcases (op1 i).1 hi1 with ⟨hi0, n3, n4⟩ | rfl
    ·obtain ⟨c, d, hc1, hd1, hcd, hh, hg⟩ := h.opn i hi0;have hcv : c ≠ v := fun e => by
      subst e;have hd2 := (hs.th c hc1 d hd1 hcd).1 hh;rw [hp.near] at hd2;have hd2 : d = p \/ d = q := by simpa using hd2
      have : d = a \/ d = b := by
       rcases pairF_two p q with ⟨e1, e2⟩ | ⟨e1, e2⟩ <;> rw [hab] at e1 e2 <;> dsimp only at e1 e2 <;> omega
      rcases this with rfl | rfl
      ·exact n3 (by rw [hxL]; omega)
      ·exact n4 (by rw [hxR]; omega)
     have hdv : d ≠ v := fun e => by
      subst e;rw [pairF_comm] at hh hg;have hd2 := (hs.th d hd1 c hc1 (Ne.symm hcd)).1 hh;rw [hp.near] at hd2;have hd2 : c = p \/ c = q := by simpa using hd2
      have : c = a \/ c = b := by
       rcases pairF_two p q with ⟨e1, e2⟩ | ⟨e1, e2⟩ <;> rw [hab] at e1 e2 <;> dsimp only at e1 e2 <;> omega
      rcases this with rfl | rfl
      ·exact n3 (by rw [hxL]; omega)
      ·exact n4 (by rw [hxR]; omega)
     have hkey : keyE (a, b) ≠ keyE (pairF c d) := fun e => by
      rw [<- e, hJ] at hg;exact n1 (by rw [hyL]; exact hg)
     refine ⟨c, d, hmem.2 ⟨hc1, hcv⟩, hmem.2 ⟨hd1, hdv⟩, hcd, ?_, ?_⟩
     ·rw [et, mapHas_put, hh, Bool.or_true]
     ·rw [et, mapGet_put, if_neg hkey]; exact hg
    ·exact absurd hyR n2
   ·refine ⟨a, b, hmem.2 ⟨am, av⟩, hmem.2 ⟨bm, bv⟩, hne, ?_, ?_⟩
    ·rw [et, mapHas_put, hpe, decide_eq_true rfl, Bool.true_or]
    ·rw [et, mapGet_put, hpe, if_pos rfl, pl1]; omega
 ·rw [if_neg hc] at hst;obtain ⟨s', hs'⟩ : ∃ s', stepS W.length s k = s' := ⟨_, rfl⟩;rw [hs'] at hst hmem md1 hN ⊢;have et : s'.thing = mapPut s.thing (keyE (a, b)) ((W.length : Int) + (o1.length : Int) - 1) := by rw [hst]
  have eo : s'.out = o1 := by rw [hst]
  refine ⟨κ1, by rw [eo]; exact rn1, ck1, us1, by rw [eo]; exact pl1, ul1, fun c d hcm hdm hcd hh => ?_, fun i hi => ?_, md1, fun w hw => h.sub w (hmem.1 hw).1⟩
  ·rw [et] at hh ⊢;rw [mapGet_put];by_cases hkey : keyE (a, b) = keyE (pairF c d)
   ·rw [if_pos hkey];refine ⟨κ.poles.length, by rw [h.plen, ho1l]; omega, onew1, ?_⟩;rw [new1, hpe];exact keyE_inj.1 hkey
   ·rw [if_neg hkey];rw [mapHas_put, decide_eq_false hkey, Bool.false_or] at hh;obtain ⟨hc1, hc2⟩ := hmem.1 hcm;obtain ⟨hd1, hd2⟩ := hmem.1 hdm;obtain ⟨i, hi1, hi2, hi3⟩ := h.thg c d hc1 hd1 hcd hh;exact ⟨i, hi1, stay1 i hi2 (by rw [hi3]; exact notv hc2 hd2), by rw [old1 i hi2]; exact hi3⟩
  ·rcases (op1 i).1 hi with ⟨hi0, n3, n4⟩ | rfl
   ·obtain ⟨c, d, hc1, hd1, hcd, hh, hg⟩ := h.opn i hi0;have hcv : c ≠ v := fun e => by
     subst e;have hd2 := (hs.th c hc1 d hd1 hcd).1 hh;rw [hp.near] at hd2;have hd2 : d = p \/ d = q := by simpa using hd2
     have : d = a \/ d = b := by
      rcases pairF_two p q with ⟨e1, e2⟩ | ⟨e1, e2⟩ <;> rw [hab] at e1 e2 <;> dsimp only at e1 e2 <;> omega
     rcases this with rfl | rfl
     ·exact n3 (by rw [hxL]; omega)
     ·exact n4 (by rw [hxR]; omega)
    have hdv : d ≠ v := fun e => by
     subst e;rw [pairF_comm] at hh hg;have hd2 := (hs.th d hd1 c hc1 (Ne.symm hcd)).1 hh;rw [hp.near] at hd2;have hd2 : c = p \/ c = q := by simpa using hd2
     have : c = a \/ c = b := by
      rcases pairF_two p q with ⟨e1, e2⟩ | ⟨e1, e2⟩ <;> rw [hab] at e1 e2 <;> dsimp only at e1 e2 <;> omega
     rcases this with rfl | rfl
     ·exact n3 (by rw [hxL]; omega)
     ·exact n4 (by rw [hxR]; omega)
    have hkey : keyE (a, b) ≠ keyE (pairF c d) := fun e => by rw [<- e] at hh; exact hc hh
    refine ⟨c, d, hmem.2 ⟨hc1, hcv⟩, hmem.2 ⟨hd1, hdv⟩, hcd, ?_, ?_⟩
    ·rw [et, mapHas_put, hh, Bool.or_true]
    ·rw [et, mapGet_put, if_neg hkey]; exact hg
   ·refine ⟨a, b, hmem.2 ⟨am, av⟩, hmem.2 ⟨bm, bv⟩, hne, ?_, ?_⟩
    ·rw [et, mapHas_put, hpe, decide_eq_true rfl, Bool.true_or]
    ·rw [et, mapGet_put, hpe, if_pos rfl, h.plen, ho1l]; omega
theorem OutI.run_ {W : List Ed} {l : List Int} {N : Nat} {c : Int} (hc : c ≠ 0) : ∀ (f : Nat) {s : Sp} {κ : Ck}, s.left.length <= f -> SpI s -> TwoS s -> 2 <= s.left.length -> OutI W l N s κ -> (runSp c W.length f s).2 = 0 -> W.length + (runSp c W.length f s).1.length <= N ->
  ∃ s' κ', (runSp c W.length f s).1 = s'.out /\ SpI s' /\ TwoS s' /\ s'.left.length = 2 /\ OutI W l N s' κ' := by
 intro f
 induction f with
 | zero => intro s κ hf _ _ h2 _ _ _; omega
 | succ f ih =>
  intro s κ hf hs h2 hl2 ho hz hN;simp only [runSp] at hz hN ⊢;by_cases hl : s.left.length <= 2
  ·rw [if_pos hl];exact ⟨s, κ, rfl, hs, h2, by omega, ho⟩
  ·rw [if_neg hl] at hz hN ⊢
   cases hk : pickS s with
   | none => rw [hk] at hz; exact absurd hz hc
   | some k =>
    rw [hk] at hz hN;dsimp only at hz hN ⊢;obtain ⟨v, p, q, hp⟩ := hs.pick hk;obtain ⟨sok, sleft, slen⟩ := hs.step W.length hp;obtain ⟨r, hr⟩ := runSp_pre hc f hz;obtain ⟨κ', hk'⟩ := ho.step hs hp (by rw [hr, List.length_append] at hN; omega);exact ih (by omega) sok (h2.step hs W.length hp) (by omega) hk' hz hN
theorem sum_but {f : Nat -> Nat} {i0 : Nat} : ∀ {N : Nat}, (∀ i, i < N -> i ≠ i0 -> f i = 1) -> f i0 = 0 -> ((List.range N).map f).sum = if i0 < N then N - 1 else N := by
 intro N
 induction N with
 | zero => intro _ _; simp
 | succ N ih =>
  intro h h0;have ih := ih (fun i hi => h i (by omega)) h0;rw [List.range_succ, List.map_append, List.sum_append, ih];simp only [List.map_cons, List.map_nil, List.sum_cons, List.sum_nil];by_cases e : N = i0
  ·subst e;rw [h0, if_neg (by omega), if_pos (by omega)]; omega
  ·rw [h N (by omega) e];split <;> split <;> omega
theorem spt_ck {n : Int} {E : List Ed} {l : List Int} (hl : l.length <= 1000) (h : (sptF n E l).2 = 0) : ckF n E l (sptF n E l).1 = true := by
 cases hT : twoB n E l with
 | false => unfold sptF at h; rw [if_neg (by rw [hT]; simp)] at h; simp at h
 | true =>
  have hTP := twoB_iff.1 hT;obtain ⟨hR, h2, ⟨hnd, hrng⟩, -⟩ := twoB_iff.1 hT;have hF : sptF n E l = runSp 6 (withL l E).length l.length (startS E l) := by unfold sptF; rw [if_pos hT]
  obtain ⟨fin, hfin⟩ : ∃ fin, (sptF n E l).1 = fin := ⟨_, rfl⟩;have hsl : (startS E l).left.length = l.length := sortI_length l;have hm : ∀ {x : Int}, x ∈ (startS E l).left ↔ x ∈ l := fun {x} => (List.mergeSort_perm l _).mem_iff
  have hs := start_ok (l := l) hR hnd;have ht2 := TwoS.start hl hTP;have hWp : ∀ e ∈ withL l E, Prop2 e := start_inv (l := l) hR 0;have hWn : (withL l E).Nodup := by
   have := (withL_ok (l := l) hR).2;exact List.nodup_iff_pairwise_ne.2 (this.imp fun h => by rintro rfl; unfold ltE at h; omega)
  have hpl : ∀ i : Nat, i < (withL l E).length -> ∃ e, (withL l E)[i]? = some e /\ e ∈ withL l E /\ Ck.pol { poles := withL l E, used := List.replicate ((withL l E).length + fin.length) 0, mid := [] } (i : Nat) = e := fun i hi => by
   refine ⟨_, qEq hi, List.getElem_mem hi, ?_⟩;unfold Ck.pol;rw [Int.toNat_natCast, qDq, qEq hi]; rfl
  have hz0 : ∀ i : Nat, Ck.usd { poles := withL l E, used := List.replicate ((withL l E).length + fin.length) 0, mid := [] } (i : Nat) = 0 := fun i => by
   unfold Ck.usd;rw [Int.toNat_natCast, qDq, List.getElem?_replicate]; split <;> rfl
  have hget : ∀ {i : Nat} {e : Ed}, (withL l E)[i]? = some e -> mapGet (startS E l).thing (keyE e) = i := fun {i e} he => by
   show mapGet (stT (withL l E).reverse) (keyE e) = i
   exact stT_get ((List.reverse_perm _).nodup_iff.2 hWn) (by rw [List.reverse_reverse]; exact he)
  have ho0 : OutI (withL l E) l ((withL l E).length + fin.length) (startS E l) { poles := withL l E, used := List.replicate ((withL l E).length + fin.length) 0, mid := [] } := by
   refine ⟨rfl, hWp, ⟨fun i => by rw [hz0]; exact Int.le_refl _, fun i _ _ => hz0 i⟩, rfl, by simp, fun a b ha hb hab hh => ?_, fun i hi => ?_, fun v hv => ?_, fun v hv => hm.1 hv⟩
   ·have hh : mapHas (stT (withL l E).reverse) (keyE (pairF a b)) = true := hh;rw [stT_has, List.mem_reverse] at hh;obtain ⟨i, hi, hii⟩ := List.getElem_of_mem hh;have hq : (withL l E)[i]? = some (pairF a b) := by rw [qEq hi, hii]
    obtain ⟨e, he1, _, he2⟩ := hpl i hi;rw [hq] at he1;injection he1 with he1
    exact ⟨i, hget hq, ⟨hi, hz0 i⟩, by rw [he2, <- he1]⟩
   ·obtain ⟨e, he1, he3, he2⟩ := hpl i hi.1;have hp := hWp e he3;have hpf := pairF_self e hp;unfold Prop2 at hp;have hel : e.1 ∈ l /\ e.2 ∈ l := by
     have := (List.mem_filter.1 he3).2;unfold ownP at this;simpa using this
    refine ⟨e.1, e.2, hm.2 hel.1, hm.2 hel.2, by omega, ?_, ?_⟩
    ·rw [hpf];show mapHas (stT (withL l E).reverse) (keyE e) = true
     rw [stT_has, List.mem_reverse]; exact he3
    ·rw [hpf]; exact hget he1
   ·rw [if_pos (hm.2 hv)]; rfl
  rw [hF] at h;have hfin2 : (runSp 6 (withL l E).length l.length (startS E l)).1 = fin := by rw [<- hF]; exact hfin
  obtain ⟨s', κ, e1, sok, st2, sl2, ho⟩ := OutI.run_ (c := 6) (by omega) l.length (by omega) hs ht2 (by omega) ho0 h (by rw [hfin2]; exact Nat.le_refl _);rw [hfin2] at e1
  -- two are left, one thing is open
  obtain ⟨a, b, hab⟩ : ∃ a b, s'.left = [a, b] := by
   match hh : s'.left, sl2 with
   | [a, b], _ => exact ⟨a, b, rfl⟩
  have hne : a ≠ b := by have := sok.nl; rw [hab] at this; simpa using this
  have am : a ∈ s'.left := by rw [hab]; simp
  have bm : b ∈ s'.left := by rw [hab]; simp
  obtain ⟨c, hca, hcb⟩ : ∃ c : Int, a ≠ c /\ b ≠ c := ⟨a + b.natAbs + a.natAbs + 1, by omega, by omega⟩;obtain ⟨d, hd, _⟩ := (st2 c a b am bm hca hcb).first hne;have hdb : d = b := by
   have := sok.sym a am d hd;rw [hab] at this;simp at this;rcases this.1 with e | e
   ·exact absurd e this.2.1
   ·exact e
  rw [hdb] at hd;have hhas := (sok.th a am b bm hne).2 hd;obtain ⟨i0, hi1, hi2, hi3⟩ := ho.thg a b am bm hne hhas;have only : ∀ i, Go.Sh.opn κ i -> i = i0 := fun i hi => by
   obtain ⟨c, d, hc, hd, hcd, _, hg⟩ := ho.opn i hi;rw [hab] at hc hd;have hc : c = a \/ c = b := by simpa using hc
   have hd : d = a \/ d = b := by simpa using hd
   have : pairF c d = pairF a b := by rw [pairF_inj]; omega
   rw [this] at hg;omega
  have hrun : ckRun fin (ckStart (withL l E) fin.length) = some κ := by rw [e1]; exact (by have := ho.run; rw [e1] at this; exact this)
  have hpre := (run_pre (E := withL l E) fin.length 0 (by omega) (by omega) (pre_start (t := fin) hWp)).1 κ (by rw [List.drop_zero]; exact hrun);have hlen := hpre.len;have usd := hpre.usd;have rng := hpre.rng;rw [List.take_length] at usd rng;have hW0 : 0 < (withL l E).length \/ fin.length = 0 := by
   cases fin with
   | nil => exact .inr rfl
   | cons x t =>
    left
    have := rng x List.mem_cons_self;have h1 := (hpre.ck)
    -- the first node has two things that are edges
    refine Nat.pos_of_ne_zero fun e0 => ?_
    have hw : withL l E = [] := List.eq_nil_of_length_eq_zero e0;rw [hw] at hrun;simp only [ckRun] at hrun;have : ckStep (ckStart [] (x :: t).length) x = none := by
     unfold ckStep;rw [if_neg];rintro ⟨_, k1, _, k2, _⟩;have k2 : x.2.1 < (0 : Nat) := k2;omega
    rw [this] at hrun;simp at hrun
  have hi0 : i0 < (withL l E).length + fin.length := by have := hi2.1; omega
  have zero : cntN fin (i0 : Nat) = 0 := by have := usd i0 hi0; have := hi2.2; omega
  have ones : ∀ i, i < (withL l E).length + fin.length -> i ≠ i0 -> cntN fin (i : Nat) = 1 := fun i hi hne => by
   have hu := usd i hi;rcases Nat.lt_or_ge (cntN fin (i : Nat)) 1 with h0 | h1
   ·exact absurd (only i ⟨by omega, by omega⟩) hne
   ·omega
  have s1 := cnt_sum (N := (withL l E).length + fin.length) (t := fin) fun x hx => by have := rng x hx; omega
  have s2 := sum_but (f := fun i => cntN fin (i : Nat)) (N := (withL l E).length + fin.length) ones zero;rw [if_pos hi0] at s2;have hcount : fin.length + 1 = (withL l E).length := by
   have := s1.symm.trans s2;omega
  -- the last thing is the open one
  have hlast : i0 = (withL l E).length + fin.length - 1 := by
   have hz : cntN fin (((withL l E).length + fin.length - 1 : Nat) : Int) = 0 := by
    unfold cntN;rw [List.countP_eq_zero.2 fun x hx => ?_, List.countP_eq_zero.2 fun x hx => ?_]
    ·have := rng x hx; simp; omega
    ·have := rng x hx; simp; omega
   have hu := usd ((withL l E).length + fin.length - 1) (by omega);exact (only _ ⟨by omega, by omega⟩).symm
  have hcl : ckLast κ = pairF a b := by
   rw [<- hi3];unfold ckLast Ck.pol;rw [hlen, Int.toNat_natCast, hlast]
  rw [hfin];unfold ckF;rw [hT, decide_eq_true hcount];unfold ckB;rw [hrun];show decide (CkEnd l κ) = true
  rw [decide_eq_true_iff];intro v hv;rw [ho.mid v hv, hcl];have : v ∈ s'.left ↔ v = (pairF a b).1 \/ v = (pairF a b).2 := by
   rw [hab];rcases pairF_two a b with ⟨k1, k2⟩ | ⟨k1, k2⟩ <;> rw [k1, k2] <;> simp
   exact or_comm
  by_cases hvm : v ∈ s'.left
  ·rw [if_pos hvm, if_pos (this.1 hvm)]
  ·rw [if_neg hvm, if_neg (fun k => hvm (this.2 k))]
end Go.Sh
namespace Go.Proofs
open Go.RowKit Go.Shelf Go.Sh
attribute [local go_sem] Oper.semAt_some
def Tryz.renE (f : Int -> Int) (E : List Ed) : List Ed := E.filterMap fun p => if f p.1 ≥ 0 /\ f p.2 ≥ 0 then some (f p.1, f p.2) else none
def Tryz.conF (hi lo x : Int) : Int := if x = hi then lo else if x > hi then x - 1 else x
end Go.Proofs
namespace Go.Proofs
open Go.RowKit Go.Shelf Go.Sh
attribute [local go_sem] Oper.semAt_some
theorem Tryz.wide_fn (f : Nat) : Fence.wide.fn f = True := rfl
attribute [local go_sem] Tryz.wide_fn
end Go.Proofs
namespace Go.Proofs
open Go.RowKit Go.Shelf Go.Sh
attribute [local go_sem] Oper.semAt_some
theorem Tryz.wide_fn10 (f : Nat) : Fence.wide.fn f = True := rfl
attribute [local go_sem] Tryz.wide_fn10
def Tryz.indF (p : List Int) (x : Int) : Int := p.getD x.toNat 0 - 1
end Go.Proofs
namespace Go.Sh
open Go.Proofs Go.RowKit Go.Shelf
def indR (N : Int) (p : List Int) (E : List Ed) : (Int × List Ed) × Int := normF N (Tryz.renE (Tryz.indF p) E)
end Go.Sh
namespace Go.Proofs
open Go.RowKit Go.Shelf Go.Sh
attribute [local go_sem] Oper.semAt_some
theorem Tryz.wide_fn2 (f : Nat) : Fence.wide.fn f = True := rfl
attribute [local go_sem] Tryz.wide_fn2
end Go.Proofs
namespace Go.Sh
open Go.Proofs Go.RowKit Go.Shelf
end Go.Sh
namespace Go.Sh
open Go.Proofs
def indG (n : Int) (E : List Ed) (l : List Int) : (Int × List Ed) × Int :=
 if RightP n E then (if ∀ v ∈ l, 0 <= v /\ v < n then (if l.Nodup then indR (l.length : Nat) (placeF n.toNat l) E else ((0, []), 1)) else ((0, []), 4)) else ((0, []), 1)
theorem near_there {N : List (List Int)} {G : List Bool} (h : Wf N G) {v x : Int} (hv : 0 <= v) (hx : x ∈ rowAt N v) : 0 <= x /\ x < N.length /\ goneAt G x = false := by
 have hr := (h.rows v).2 x hx
 refine ⟨hr.1, hr.2, ?_⟩
 cases hg : goneAt G x with
 | false => rfl
 | true =>
  have h2 := h.sym v x hv hr.1 hx;rw [h.gone x hr.1 hg] at h2; simp at h2
theorem leftF_length (G : List Bool) : (leftF G).length = live G := by
 unfold leftF live
 rw [List.length_map, <- List.countP_eq_length_filter]
 have e : G = (List.range G.length).map fun v => G.getD v false := by
  apply List.ext_getElem?
  intro i;rw [List.getElem?_map];by_cases hi : i < G.length
  ·rw [List.getElem?_range hi, Option.map_some, qDq, qEq hi]; rfl
  ·rw [List.getElem?_eq_none (by omega), List.getElem?_eq_none (by simp; omega)]; rfl
 conv => rhs; rw [e]
 rw [List.countP_map]; rfl
structure Core (N : List (List Int)) (G : List Bool) : Prop where
 wf : Wf N G
 no : ∀ u, mayB N G u = false
theorem Core.three {N : List (List Int)} {G : List Bool} (h : Core N G) {v : Int} (h0 : 0 <= v) (h1 : v < N.length) (hg : goneAt G v = false) : 3 <= (rowAt N v).length := by
 have := h.no v
 by_cases hl : (rowAt N v).length <= 2
 ·rw [mayB_iff.2 ⟨h0, h1, hg, hl⟩] at this; cases this
 ·omega
theorem Core.four {N : List (List Int)} {G : List Bool} (h : Core N G) (hl : leftF G ≠ []) : 4 <= (leftF G).length := by
 obtain ⟨v, hv⟩ := List.exists_mem_of_ne_nil _ hl
 obtain ⟨h0, h1, hg⟩ := mem_leftF.1 hv
 rw [h.wf.len] at h1
 have h3 := h.three h0 h1 hg
 have hnd : (v :: rowAt N v).Nodup := List.nodup_cons.2 ⟨h.wf.irr v h0, (h.wf.rows v).1.imp fun hab => by omega⟩
 have := nodup_lenG (m := leftF G) hnd fun x hx => by
  rcases List.mem_cons.1 hx with e | hx
  ·rw [e]; exact hv
  ·obtain ⟨x0, x1, xg⟩ := near_there h.wf h0 hx;exact mem_leftF.2 ⟨x0, by rw [h.wf.len]; exact x1, xg⟩
 simp only [List.length_cons] at this
 omega
theorem core_run {n : Int} {E : List Ed} (hR : RightP n E) : Core (runR n E).2.1 (runR n E).2.2 /\ (runR n E).2.1.length = n.toNat /\ (runR n E).1.length + (leftF (runR n E).2.2).length = n.toNat := by
 have hW := begin_wf hR
 have hl : live (List.replicate n.toNat false) <= n.toNat := by rw [live_zero]; omega
 obtain ⟨h1, h2, h3⟩ := runS_wf n.toNat hW
 have hc := run_count (f := n.toNat) hW
 rw [live_zero] at hc
 exact ⟨⟨h1, run_end hW hl⟩, by rw [show (runR n E).2.1.length = _ from h2, nbrs_length], by rw [leftF_length]; exact hc⟩
end Go.Sh
namespace Go.Sh
def up1 (v i : Nat) : Nat := if i < v then i else i + 1
theorem adjE_range {n : Int} {E : List Ed} (h : ∀ x ∈ E, okE n x) {a b : Int} (ha : adjE E a b) : 0 <= a /\ a < n /\ 0 <= b /\ b < n /\ a ≠ b := by
 rcases ha with ha | ha
 ·obtain ⟨h1, h2, h3⟩ := h _ ha;dsimp only at h1 h2 h3; omega
 ·obtain ⟨h1, h2, h3⟩ := h _ ha;dsimp only at h1 h2 h3; omega
end Go.Sh
namespace Go.Sh
theorem Core.K4 {N : List (List Int)} {G : List Bool} (h : Core N G) : K4 N ↔ leftF G ≠ [] := by
 constructor
 ·rintro ⟨c, hc⟩ e;obtain ⟨x, y, hx, hy, k, _⟩ := hc.meet 0 1 (by omega) (by omega);rw [List.mem_range] at hx;have : (x : Int) ∈ leftF G := mem_leftF.2 ⟨by omega, by rw [h.wf.len]; omega, by
   cases hg : goneAt G (x : Int) with
   | false => rfl
   | true => unfold adjN at k; rw [h.wf.gone x (by omega) hg] at k; simp at k⟩
  rw [e] at this; simp at this
 ·intro hne
  let vs := (List.range N.length).filter fun (x : Nat) => !goneAt G (x : Int)
  have hvs : ∀ x, x ∈ vs ↔ x < N.length /\ goneAt G (x : Int) = false := fun x => by
   rw [List.mem_filter, List.mem_range]; simp
  have h0 : vs ≠ [] := by
   obtain ⟨v, hv⟩ := List.exists_mem_of_ne_nil _ hne;obtain ⟨a0, a1, a2⟩ := mem_leftF.1 hv;intro e;have : v.toNat ∈ vs := (hvs _).2 ⟨by rw [h.wf.len] at a1; omega, by rw [Int.toNat_of_nonneg a0]; exact a2⟩;rw [e] at this; simp at this
  have hd : ∀ x, x ∈ vs -> D3 vs (adjN N) x := fun x hx => by
   obtain ⟨x1, x2⟩ := (hvs x).1 hx;have h3 := h.three (v := (x : Int)) (by omega) (by omega) x2;have hs := (h.wf.rows (x : Int)).1;have hin : ∀ y, y ∈ rowAt N x -> y.toNat ∈ vs /\ adjN N x y.toNat := fun y hy => by
    obtain ⟨y0, y1, y2⟩ := near_there h.wf (by omega) hy;exact ⟨(hvs _).2 ⟨by omega, by rw [Int.toNat_of_nonneg y0]; exact y2⟩, by unfold adjN; rw [Int.toNat_of_nonneg y0]; exact hy⟩
   have hr0 := fun y hy => (near_there h.wf (show (0 : Int) <= x by omega) (x := y) hy).1
   match hrow : rowAt N x, h3 with
   | a :: b :: c :: l, _ =>
    rw [hrow] at hs hin hr0;simp only [List.pairwise_cons] at hs;have ab := hs.1 b (by simp);have ac := hs.1 c (by simp);have bc := hs.2.1 c (by simp);have a0 := hr0 a (by simp);obtain ⟨m1, k1⟩ := hin a (by simp);obtain ⟨m2, k2⟩ := hin b (by simp);obtain ⟨m3, k3⟩ := hin c (by simp);exact ⟨_, _, _, m1, m2, m3, by omega, by omega, by omega, k1, k2, k3⟩
   | [], h3 => simp at h3
   | [_], h3 => simp at h3
   | [_, _], h3 => simp at h3
  obtain ⟨c, hc⟩ := dirac (adjN_sm h.wf) (List.nodup_range.sublist List.filter_sublist) hd h0;exact ⟨_, hc.induced fun x hx => List.mem_range.2 ((hvs x).1 hx).1⟩
theorem narrow_K4 {n : Int} {E : List Ed} (hR : RightP n E) : narrowB n E = true ↔ ¬ K4 (nbrs n.toNat E) := by
 obtain ⟨hC, _, _⟩ := core_run hR
 have h1 : K4 (runR n E).2.1 ↔ K4 (nbrs n.toNat E) := K4_run (begin_wf hR)
 have hrun : runO n E = ((runR n E).1, leftF (runR n E).2.2, edgesF (runR n E).2.1 (runR n E).2.2) := if_pos hR
 unfold narrowB
 rw [decide_eq_true hR, Bool.true_and, decide_eq_true_eq, hrun, <- h1, hC.K4]
 simp
theorem nbrs_adj {n : Int} {E : List Ed} (hR : RightP n E) (x y : Nat) : adjN (nbrs n.toNat E) x y ↔ adjE E x y := by
 unfold adjN
 by_cases hx : (x : Int) < n.toNat
 ·rw [nbrs_row (by omega) hx, mem_nearL]
 ·rw [rowAt_out (by rw [nbrs_length]; omega)];constructor
  ·intro h; simp at h
  ·intro h;have := adjE_range (fun p hp => hR.2.2.2.1 p hp) h;omega
end Go.Sh
namespace Go.Sh
open Go.Proofs
theorem MdL.iso {vs vs' : List Nat} {A A' : Nat -> Nat -> Prop} {c : Nat -> Nat} (f g : Nat -> Nat) (hf : ∀ x, x ∈ vs -> f x ∈ vs' /\ g (f x) = x) (hg : ∀ y, y ∈ vs' -> g y ∈ vs /\ f (g y) = y) (hA : ∀ x y, x ∈ vs -> y ∈ vs -> A x y -> A' (f x) (f y)) (h : MdL vs A c) : MdL vs' A' fun y => c (g y) := by
 refine ⟨fun i hi => ?_, fun i hi P ⟨y0, hy0, ey0, hP⟩ hcl y hy ey => ?_, fun i j hij hj => ?_⟩
 ·obtain ⟨x, hx, e⟩ := h.some i hi;exact ⟨f x, (hf x hx).1, by rw [(hf x hx).2]; exact e⟩
 ·have := h.conn i hi (fun x => P (f x)) ⟨g y0, (hg y0 hy0).1, ey0, by rw [(hg y0 hy0).2]; exact hP⟩ (fun a b ha hb ea eb k hp => hcl _ _ (hf a ha).1 (hf b hb).1 (by rw [(hf a ha).2]; exact ea) (by rw [(hf b hb).2]; exact eb) (hA a b ha hb k) hp) (g y) (hg y hy).1 ey;rw [(hg y hy).2] at this;exact this
 ·obtain ⟨x, y, hx, hy, k, ex, ey⟩ := h.meet i j hij hj;exact ⟨f x, f y, (hf x hx).1, (hf y hy).1, hA x y hx hy k, by rw [(hf x hx).2]; exact ex, by rw [(hf y hy).2]; exact ey⟩
theorem ren_ownI {n : Int} {E : List Ed} {l : List Int} (hok : ∀ p ∈ E, okE n p) : Tryz.renE (Tryz.indF (placeF n.toNat l)) E = ownG l E := by
 unfold Tryz.renE ownG
 induction E with
 | nil => rfl
 | cons e E ih =>
  have ih := ih fun p hp => hok p (List.mem_cons_of_mem _ hp)
  have he := hok e List.mem_cons_self;unfold okE at he;have at_ : ∀ {v : Int}, 0 <= v -> v < n -> Tryz.indF (placeF n.toNat l) v = if v ∈ l then ((l.idxOf v : Nat) : Int) else -1 := fun {v} h0 h1 => by
   unfold Tryz.indF;rw [placeF_at h0 (by omega)];split <;> omega
  have a1 := at_ (v := e.1) (by omega) (by omega);have a2 := at_ (v := e.2) (by omega) (by omega);rw [List.filterMap_cons, List.filter_cons];by_cases h1 : e.1 ∈ l
  ·by_cases h2 : e.2 ∈ l
   ·rw [if_pos h1] at a1;rw [if_pos h2] at a2;have : ownP l e = true := by unfold ownP; simp [h1, h2]
    rw [a1, a2, if_pos ⟨by omega, by omega⟩, if_pos this];simp only [List.map_cons];rw [ih]
   ·rw [if_neg h2] at a2;have : ¬ ownP l e = true := by unfold ownP; simp [h1, h2]
    rw [a2, if_neg (by omega), if_neg this];exact ih
  ·rw [if_neg h1] at a1;have : ¬ ownP l e = true := by unfold ownP; simp [h1]
   rw [a1, if_neg (by omega), if_neg this];exact ih
theorem ind_two {n : Int} {E : List Ed} {l : List Int} (hl : l.length <= 1000) (hR : RightP n E) (hnd : l.Nodup) (hrng : ∀ v ∈ l, 0 <= v /\ v < n) : indG n E l = ((((l.length : Nat) : Int), normE (ownG l E)), (0 : Int)) /\ RightP (l.length : Nat) (normE (ownG l E)) := by
 have hol : (ownG l E).length <= 4000 := Nat.le_trans ownG_len hR.2.2.1
 have hix : ∀ {v : Int}, v ∈ l -> (l.idxOf v : Nat) < l.length := fun {v} hv => List.idxOf_lt_length_iff.2 hv
 have hoR : ∀ p ∈ ownG l E, inR (l.length : Int) p := fun p hp => by
  unfold ownG at hp;obtain ⟨e, he, rfl⟩ := List.mem_map.1 hp;have hm := (List.mem_filter.1 he).2;unfold ownP at hm;simp only [Bool.and_eq_true, List.elem_eq_mem, decide_eq_true_eq] at hm;have q1 := hix hm.1;have q2 := hix hm.2;unfold inR;dsimp only;omega
 have hFl : (normE (ownG l E)).length <= 4000 := Nat.le_trans (normE_length _) hol
 refine ⟨?_, ⟨by omega, by omega, hFl, normE_ok hoR, normE_sorted _⟩⟩
 unfold indG
 rw [if_pos hR, if_pos hrng, if_pos hnd]
 unfold indR
 rw [ren_ownI hR.2.2.2.1]
 unfold normF
 rw [if_neg (by omega), if_neg (by omega), if_pos hoR, if_neg (by omega)]
theorem ind_K4 {n : Int} {E : List Ed} {l : List Int} (hl : l.length <= 1000) (hR : RightP n E) (hnd : l.Nodup) (hrng : ∀ v ∈ l, 0 <= v /\ v < n) : K4 (nbrs l.length (normE (ownG l E))) ↔ ∃ c, MdL (l.map Int.toNat) (fun x y => adjE (withL l E) (x : Int) (y : Int)) c := by
 have hRF := (ind_two hl hR hnd hrng).2
 have hadj : ∀ x y : Nat, adjN (nbrs l.length (normE (ownG l E))) x y ↔ adjE (normE (ownG l E)) x y := fun x y => by
  have := nbrs_adj hRF x y;rw [Int.toNat_natCast] at this;exact this
 have hmap : ∀ x : Nat, x ∈ l.map Int.toNat ↔ (x : Int) ∈ l := fun x => by
  rw [List.mem_map];constructor
  ·rintro ⟨v, hv, rfl⟩;rw [Int.toNat_of_nonneg (hrng v hv).1]; exact hv
  ·intro h; exact ⟨_, h, Int.toNat_natCast x⟩
 have hf : ∀ x, x ∈ List.range l.length -> (l.getD x 0).toNat ∈ l.map Int.toNat /\ l.idxOf (((l.getD x 0).toNat : Nat) : Int) = x := fun x hx => by
  have hx := List.mem_range.1 hx;have e : l.getD x 0 = l[x] := by rw [qDq, qEq hx]; rfl
  have hm : l[x] ∈ l := List.getElem_mem hx;rw [e, Int.toNat_of_nonneg (hrng _ hm).1];exact ⟨List.mem_map.2 ⟨_, hm, rfl⟩, hnd.idxOf_getElem x hx⟩
 have hg : ∀ y : Nat, y ∈ l.map Int.toNat -> l.idxOf (y : Int) ∈ List.range l.length /\ (l.getD (l.idxOf (y : Int)) 0).toNat = y := fun y hy => by
  have hy := (hmap y).1 hy;have hlt := List.idxOf_lt_length_iff.2 hy;refine ⟨List.mem_range.2 hlt, ?_⟩;rw [qDq, qEq hlt, Option.getD_some, List.getElem_idxOf];exact Int.toNat_natCast y
 have key : ∀ x y : Nat, x ∈ List.range l.length -> y ∈ List.range l.length -> (adjN (nbrs l.length (normE (ownG l E))) x y ↔ adjE (withL l E) (((l.getD x 0).toNat : Nat) : Int) (((l.getD y 0).toNat : Nat) : Int)) := fun x y hx hy => by
  obtain ⟨hx1, hx2⟩ := hf x hx;obtain ⟨hy1, hy2⟩ := hf y hy;have hx1 := (hmap _).1 hx1;have hy1 := (hmap _).1 hy1;rw [hadj, with_mem];have := own_adj hR hx1 hy1;rw [hx2, hy2] at this;rw [this];exact ⟨fun h => ⟨h, hx1, hy1⟩, And.left⟩
 unfold K4
 rw [nbrs_length]
 constructor
 ·rintro ⟨c, hc⟩;exact ⟨_, hc.iso (fun x => (l.getD x 0).toNat) (fun y => l.idxOf (y : Int)) hf hg fun x y hx hy k => (key x y hx hy).1 k⟩
 ·rintro ⟨c, hc⟩;refine ⟨_, hc.iso (fun y => l.idxOf (y : Int)) (fun x => (l.getD x 0).toNat) hg hf fun x y hx hy k => ?_⟩;obtain ⟨gx, ex⟩ := hg x hx;obtain ⟨gy, ey⟩ := hg y hy;rw [key _ _ gx gy, ex, ey]; exact k
noncomputable def narG (n : Int) (E : List Ed) (l : List Int) : Bool := narrowB (l.length : Nat) (normE (ownG l E))
theorem narG_iff {n : Int} {E : List Ed} {l : List Int} (hl : l.length <= 1000) (hT : TwoP n E l) : narG n E l = true ↔ ¬ ∃ c, MdL (l.map Int.toNat) (fun x y => adjE (withL l E) (x : Int) (y : Int)) c := by
 obtain ⟨hR, h2, ⟨hnd, hrng⟩, -⟩ := hT
 have hRF := (ind_two hl hR hnd hrng).2
 unfold narG
 rw [narrow_K4 hRF, Int.toNat_natCast, ind_K4 hl hR hnd hrng]
theorem spt_cases {n : Int} {E : List Ed} {l : List Int} (hl : l.length <= 1000) : ((sptF n E l).2 = 1 /\ ¬ TwoP n E l) \/ (TwoP n E l /\ (sptF n E l).2 = 0 /\ narG n E l = true /\ ckF n E l (sptF n E l).1 = true) \/ (TwoP n E l /\ sptF n E l = ([], 6) /\ narG n E l = false) := by
 cases hT : twoB n E l with
 | false =>
  left
  unfold sptF;rw [if_neg (by rw [hT]; simp)];exact ⟨rfl, fun h => by rw [twoB_iff.2 h] at hT; simp at hT⟩
 | true =>
  right
  have hTP := twoB_iff.1 hT;obtain ⟨hR, h2, ⟨hnd, hrng⟩, -⟩ := twoB_iff.1 hT;have hF : sptF n E l = runSp 6 (withL l E).length l.length (startS E l) := by unfold sptF; rw [if_pos hT]
  have hm : ∀ {x : Int}, x ∈ (startS E l).left ↔ x ∈ l := fun {x} => (List.mergeSort_perm l _).mem_iff
  have hmap : ∀ x : Nat, x ∈ l.map Int.toNat ↔ (x : Int) ∈ l := fun x => by
   rw [List.mem_map];constructor
   ·rintro ⟨v, hv, rfl⟩;rw [Int.toNat_of_nonneg (hrng v hv).1]; exact hv
   ·intro h; exact ⟨_, h, Int.toNat_natCast x⟩
  have hnd2 : (l.map Int.toNat).Nodup := by
   refine List.nodup_iff_pairwise_ne.2 ?_;rw [List.pairwise_map];refine (List.nodup_iff_pairwise_ne.1 hnd).imp_of_mem fun {a b} ha hb hab => ?_
   have := hrng a ha;have := hrng b hb;omega
  have hadj : ∀ x y : Nat, AdjS (startS E l) x y ↔ adjE (withL l E) (x : Int) (y : Int) := fun x y => by
   unfold AdjS;rw [start_near hR, mem_nearL, hm];refine ⟨And.right, fun h => ⟨(with_mem.1 h).2.1, h⟩⟩
  have hK := spt_K4 (c := 6) (m := (withL l E).length) (by omega) (vs := l.map Int.toNat) l.length (s := startS E l) (by show (sortI l).length <= _; rw [sortI_length]; exact Nat.le_refl _) (start_ok hR hnd) (TwoS.start hl hTP) (fun x hx => (hrng x (hm.1 hx)).1) ⟨hnd2, fun x hx => (hmap x).2 (hm.1 hx)⟩;rw [<- hF] at hK;have hiff : (∃ d, MdL (l.map Int.toNat) (AdjS (startS E l)) d) ↔ ∃ c, MdL (l.map Int.toNat) (fun x y => adjE (withL l E) (x : Int) (y : Int)) c :=
   ⟨fun ⟨d, hd⟩ => ⟨d, hd.mono fun x y _ _ k => (hadj x y).1 k⟩, fun ⟨d, hd⟩ => ⟨d, hd.mono fun x y _ _ k => (hadj x y).2 k⟩⟩
  have hn := narG_iff hl hTP;rcases hK with ⟨h1, h3⟩ | ⟨h1, h3⟩
  ·left
   refine ⟨hTP, h1, hn.2 fun h => h3 (hiff.2 h), spt_ck hl h1⟩
  ·right
   refine ⟨hTP, h1, ?_⟩
   cases hh : narG n E l with
   | false => rfl
   | true => exact absurd (hiff.1 h3) (hn.1 hh)
end Go.Sh
namespace Go.Sh
inductive PeelD (near : List (List Int)) : (Int -> Prop) -> List (List Int) -> Prop
 | base {R : Int -> Prop} : (∀ y, R y ↔ okD near y) -> PeelD near R []
 | lone {R R' : Int -> Prop} {out : List (List Int)} {v : Int} : PeelD near R out -> R v -> (∀ w ∈ nbD near v, ¬ R w) -> (∀ y, R' y ↔ R y /\ y ≠ v) -> PeelD near R' out
 | leaf {R R' : Int -> Prop} {out : List (List Int)} {L : List Int} {v : Int} : PeelD near R out -> L.Nodup -> (∀ y ∈ L, R y) -> v ∈ L -> (∀ t ∈ L, t ≠ v -> ∀ w ∈ nbD near t, R w -> w ∈ L) -> (∀ y, R' y ↔ R y /\ (y ∈ L -> y = v)) -> PeelD near R' (out ++ [L])
theorem PeelD.congr {near : List (List Int)} {R R' : Int -> Prop} {out : List (List Int)} (h : PeelD near R out) (e : ∀ y, R' y ↔ R y) : PeelD near R' out := by
 have : R' = R := funext fun y => propext (e y)
 rw [this]; exact h
def PeelS (near : List (List Int)) (s : DS) : Prop := PeelD near (fun y => okD near y /\ (¬ 0 < s.D y \/ y ∈ s.opn)) s.out
variable {near : List (List Int)} {s s1 s2 : DS} {P : List Int} {v up lo l x : Int} {T Tx pre : List Int}
theorem visit_start (G : GraphD near) (hrow : ∀ v, (near.getD v []).length < 1000000) (hn : near.length < 900000) (S : StD near s P) (hv : okD near v) (hv0 : ¬ 0 < s.D v) (ht : TreeD near P v up) (k : Nat) :
  ∃ s1, visitF near (k + 1) v up s = rowD (visitF near k) v up (nbD near v) s1 (P.length + 1 : Nat) /\ LoopD near s s1 P v up (P.length + 1 : Nat) [v] [] /\ s1.out = s.out /\ s1.opn = s.opn ++ [v] /\ ∀ y, okD near y -> s1.D y = if y = v then ((P.length + 1 : Nat) : Int) else s.D y := by
  have hvl : v.toNat < s.dep.length := by rw [S.dl]; exact hv.2
  have hvo : v ∉ s.opn := fun h => hv0 (S.opk v h).2
  have hvP : v ∉ P := fun h => hvo (S.pop v h)
  have hPl : P.length <= near.length := by
   have hnd : P.Nodup := by
    show List.Pairwise (· ≠ ·) P
    rw [List.pairwise_iff_getElem];intro i j hi hj hij e;have e1 := S.pd i P[i] (qEq hi);have e2 := S.pd j P[j] (qEq hj);rw [e, e2] at e1;omega
   have h1 := len_subD hnd S.pop;have h2 := S.pot;have h3 := cntD_le (l := s.dep);rw [S.dl] at h3;omega
  obtain ⟨dep, hdep, hda⟩ : ∃ dep, depD s.dep v up = some dep /\ dep = s.dep.set v.toNat (P.length + 1 : Nat) := by
   unfold depD;rcases ht with ⟨e, hu⟩ | ⟨P', e, hu⟩
   ·rw [if_neg (by omega)];exact ⟨_, rfl, by rw [e]; rfl⟩
   ·have huP : up ∈ P := by rw [e]; simp
    have huo := S.pok up huP;rw [if_pos huo.1];have hne : v.toNat ≠ up.toNat := fun e => hvP ((ok_inj hv huo e) ▸ huP)
    have hD : s.D up = P.length := by
     have := S.pd 0 up (by rw [e]; rfl);simpa using this
    have hg : (s.dep.set v.toNat 1).getD up.toNat 0 = P.length := by
     rw [set_at hvl, if_neg hne]; exact hD
    rw [hg, if_pos ⟨by rw [S.dl]; exact huo.2, by omega, by omega⟩];refine ⟨_, rfl, ?_⟩;rw [List.set_set]
    congr 1
  have hDv : ∀ y, okD near y -> dep.getD y.toNat 0 = if y = v then ((P.length + 1 : Nat) : Int) else s.D y := fun y hy => by
   rw [hda, set_at hvl];by_cases e : y = v
   ·subst e; rw [if_pos rfl, if_pos rfl]
   ·rw [if_neg e, if_neg (fun h => e (ok_inj hv hy h).symm)]; rfl
  obtain ⟨s1, hs1⟩ : ∃ s1 : DS, ({ s with dep := dep, opn := s.opn ++ [v] } : DS) = s1 := ⟨_, rfl⟩;have d1 : ∀ y, okD near y -> s1.D y = if y = v then ((P.length + 1 : Nat) : Int) else s.D y := fun y hy => by rw [<- hs1]; exact hDv y hy
  have dn : ∀ y, okD near y -> 0 < s.D y -> s1.D y = s.D y := fun y hy h => by rw [d1 y hy, if_neg (fun e => hv0 (by rw [<- e]; exact h))]
  have dv1 : s1.D v = (P.length + 1 : Nat) := by rw [d1 v hv, if_pos rfl]
  have new1 : ∀ y, okD near y -> ¬ 0 < s.D y -> 0 < s1.D y -> y = v := fun y h1 h2 h3 => Classical.byContradiction fun e => by rw [d1 y h1, if_neg e] at h3; exact h2 h3
  have hcnt : cntD s1.dep = cntD s.dep + 1 := by
   rw [<- hs1, show ({ s with dep := dep, opn := s.opn ++ [v] } : DS).dep = dep from rfl, hda];exact cnt_set hvl hv0 (by omega)
  have e_opn : s1.opn = s.opn ++ [v] := by rw [<- hs1]
  have e_out : s1.out = s.out := by rw [<- hs1]
  have e_inn : s1.inn = s.inn := by rw [<- hs1]
  have e_dl : s1.dep.length = near.length := by rw [<- hs1, show ({ s with dep := dep, opn := s.opn ++ [v] } : DS).dep = dep from rfl, hda, List.length_set, S.dl]
  have hst : StD near s1 (v :: P) := by
   refine { dl := e_dl, il := by rw [e_inn]; exact S.il, nn := fun y hy => ?_, pok := fun y hy => ?_, pd := fun i y hy => ?_, opk := fun y hy => ?_, ond := ?_, pop := fun y hy => ?_, cl := fun y h1 h2 h3 w hw => ?_, pot := ?_, inb := by rw [e_inn, e_out]; exact S.inb, wit := fun L hL => ?_, pw := by rw [e_out]; exact S.pw, two := by rw [e_out]; exact S.two }
   ·rw [d1 y hy]; split
    ·omega
    ·exact S.nn y hy
   ·rcases List.mem_cons.1 hy with e | hy
    ·rw [e]; exact hv
    ·exact S.pok y hy
   ·cases i with
    | zero =>
     have : v = y := by simpa using hy
     subst this;rw [dv1]; simp
    | succ i =>
     have hy : P[i]? = some y := by simpa using hy
     have hyP := qMq hy;rw [dn y (S.pok y hyP) (S.vis hyP), S.pd i y hy];simp
   ·rw [e_opn] at hy;rcases List.mem_append.1 hy with hy | hy
    ·obtain ⟨a1, a2⟩ := S.opk y hy;exact ⟨a1, by rw [dn y a1 a2]; exact a2⟩
    ·have : y = v := by simpa using hy
     rw [this]; exact ⟨hv, by rw [dv1]; omega⟩
   ·rw [e_opn];exact List.nodup_append.2 ⟨S.ond, by simp, fun a ha b hb e => by simp at hb; subst hb; exact hvo (e ▸ ha)⟩
   ·rw [e_opn];rcases List.mem_cons.1 hy with e | hy
    ·rw [e]; simp
    ·exact List.mem_append_left _ (S.pop y hy)
   ·have hyv : y ≠ v := fun e => h3 (by rw [e]; simp)
    rw [d1 y h1, if_neg hyv] at h2;have := S.cl y h1 h2 (fun h => h3 (List.mem_cons_of_mem _ h)) w hw;rw [dn w (G.range y h1 w hw) this]; exact this
   ·rw [e_out, e_opn, hcnt, List.length_append, List.length_singleton];have := S.pot; omega
   ·rw [e_out] at hL;obtain ⟨z, z1, z2, z3, z4⟩ := S.wit L hL;refine ⟨z, z1, z2, by rw [dn z z2 z3]; exact z3, fun h => ?_⟩;rw [e_opn] at h;rcases List.mem_append.1 h with h | h
    ·exact z4 h
    ·have : z = v := by simpa using h
     rw [this] at z3; exact hv0 z3
  have hnew : NewD near s s1 P v (P.length + 1 : Nat) [v] := by
   refine { mono := dn, dv := dv1, deep := fun y h1 h2 h3 => by rw [new1 y h1 h2 h3, dv1]; omega, opn := e_opn, vT := by simp, tok := fun t ht => ?_, conn := fun t ht => ?_, q := fun c hc t ht hne => ?_, wl := ⟨by omega, by omega⟩, wt := fun h => by omega, olen := by rw [e_out]; omega, sep := fun _ h => absurd (by rw [e_out]) h, all := fun _ y h1 h2 h3 => by rw [new1 y h1 h2 h3]; simp, same := fun _ => e_out, root := fun _ _ => .inl (by rw [e_out]) }
   ·have : t = v := by simpa using ht
    rw [this]; exact ⟨hv, hv0, by rw [dv1]; omega⟩
   ·have : t = v := by simpa using ht
    rw [this]; exact .refl (by simp)
   ·have h1 : t = v := by simpa using ht
    have h2 : c = v := by simpa using hc
    exact absurd (h1.trans h2.symm) hne
  have hloop : LoopD near s s1 P v up (P.length + 1 : Nat) [v] [] := ⟨hst, hnew, fun y h1 h2 h3 h4 => absurd (new1 y h1 h2 h3) h4, fun u _ h => by simp at h, fun w h => by simp at h, by omega⟩;refine ⟨s1, ?_, hloop, e_out, e_opn, d1⟩;have hol : s.opn.length < 1000000 := by
   have h3 := S.pot;have h4 := cntD_le (l := s.dep);rw [S.dl] at h4;omega
  conv => lhs; unfold visitF
  rw [if_pos ⟨hv.1, hvl, hv.2, hol, hrow _⟩, hdep];show rowD (visitF near k) v up (nbD near v) { s with dep := dep, opn := s.opn ++ [v] } (dep.getD v.toNat 0) = _
  rw [hs1, hDv v hv, if_pos rfl]
theorem shut_peel (G : GraphD near) (S : StD near s P) (h : LoopD near s s1 P v up lo T pre) (hx : x ∈ nbD near v) (hd : ¬ 0 < s1.D x) (k : PostD near s1 s2 (v :: P) x v l Tx) (hl : ¬ l < s2.D v) (hq : PeelS near s2) {s3 : DS} {lo3 : Int}
  (h3 : shutD s2 v s1.opn.length lo = some (s3, lo3)) : PeelS near s3 := by
 have hvok := h.st.pok v (by simp)
 have hv1 : 0 < s1.D v := h.st.vis (by simp)
 obtain ⟨t1, t2, t3, t4⟩ := new_trans h k
 have hl' : ((P.length + 1 : Nat) : Int) <= l := by rw [t2] at hl; omega
 have hTx : ∀ t ∈ Tx, okD near t /\ ¬ 0 < s1.D t /\ 0 < s2.D t := k.new.tok
 have hop : s2.opn = s1.opn ++ Tx := k.new.opn
 have hdrop : s2.opn.drop s1.opn.length = Tx := by rw [hop]; simp
 have htake : s2.opn.take s1.opn.length = s1.opn := by rw [hop]; simp
 have hnd2 := k.st.ond
 rw [hop, List.nodup_append] at hnd2
 have hTn : Tx.Nodup := hnd2.2.1
 have hvT : v ∉ Tx := fun e => (hTx v e).2.1 hv1
 have hvo : v ∈ s1.opn := h.st.pop v (by simp)
 obtain ⟨L, hL⟩ : ∃ L, sortI (Tx ++ [v]) = L := ⟨_, rfl⟩
 have hLp : L.Perm (Tx ++ [v]) := by rw [<- hL]; exact perm_sort
 have hLm : ∀ a, a ∈ L ↔ a ∈ Tx \/ a = v := fun a => by rw [hLp.mem_iff]; simp
 have hLn : L.Nodup := hLp.nodup_iff.2 (List.nodup_append.2 ⟨hTn, by simp, fun a ha b hb => by simp at hb; subst hb; exact fun e => hvT (e ▸ ha)⟩)
 have side : ∀ y, okD near y -> ¬ 0 < s1.D y -> 0 < s2.D y -> ∀ w ∈ nbD near y, (okD near w /\ ¬ 0 < s1.D w /\ 0 < s2.D w) \/ w = v := fun y h1 h2 h3 w hw => by
  have hwok := G.range y h1 w hw;have hyP : y ∉ v :: P := fun e => h2 (h.st.vis e)
  have hw2 := k.st.cl y h1 h3 hyP w hw;by_cases h4 : 0 < s1.D w
  ·right
   have hwP : w ∈ v :: P := Classical.byContradiction fun hc => h2 (h.st.cl w hwok h4 hc y (G.sym y w h1 hw))
   rcases k.edge y h1 h2 h3 w hwP hw with ⟨_, e⟩ | e
   ·exact e
   ·rcases List.mem_cons.1 hwP with e' | hwP
    ·exact e'
    ·have := S.depth hwP;have := h.new.mono w (S.pok w hwP) (S.vis hwP);omega
  ·exact .inl ⟨hwok, h4, hw2⟩
 unfold shutD at h3
 split at h3
 ·rw [hdrop, hL, htake] at h3;split at h3
  ·rename_i c' hb;injection h3 with h3
   have e3 := (Prod.mk.inj h3).1;have e_out : s3.out = s2.out ++ [L] := by rw [<- e3]
   have e_opn : s3.opn = s1.opn := by rw [<- e3]
   have e_D : ∀ y, s3.D y = s2.D y := fun y => by rw [<- e3]; rfl
   unfold PeelS;rw [e_out, e_opn];refine PeelD.leaf (v := v) hq hLn (fun y hy => ?_) ((hLm v).2 (.inr rfl)) (fun t ht htv w hw hR => ?_) fun y => ?_
   ·rcases (hLm y).1 hy with h | h
    ·exact ⟨(hTx y h).1, .inr (by rw [hop]; exact List.mem_append_right _ h)⟩
    ·rw [h]; exact ⟨hvok, .inr (by rw [hop]; exact List.mem_append_left _ hvo)⟩
   ·have htT : t ∈ Tx := ((hLm t).1 ht).resolve_right htv;obtain ⟨a1, a2, a3⟩ := hTx t htT;rcases side t a1 a2 a3 w hw with ⟨b1, b2, b3⟩ | e
    ·rcases hR.2 with h9 | h9
     ·exact absurd b3 h9
     ·rw [hop] at h9;rcases List.mem_append.1 h9 with h9 | h9
      ·exact absurd (h.st.opk w h9).2 b2
      ·exact (hLm w).2 (.inl h9)
    ·exact (hLm w).2 (.inr e)
   ·rw [e_D, hop, List.mem_append, hLm];constructor
    ·rintro ⟨h1, h2⟩;refine ⟨⟨h1, h2.imp_right .inl⟩, fun h4 => ?_⟩;rcases h4 with h4 | h4
     ·rcases h2 with h2 | h2
      ·exact absurd (hTx y h4).2.2 h2
      ·exact absurd (h.st.opk y h2).2 (hTx y h4).2.1
     ·exact h4
    ·rintro ⟨⟨h1, h2⟩, h4⟩;refine ⟨h1, ?_⟩;rcases h2 with h2 | h2 | h2
     ·exact .inl h2
     ·exact .inr h2
     ·rw [h4 (.inl h2)]; exact .inr hvo
  ·cases h3
 ·cases h3
theorem row_peel (G : GraphD near) (hn : near.length < 900000) (hrow : ∀ v, (near.getD v []).length < 1000000) (S : StD near s P) (hv : okD near v) (hv0 : ¬ 0 < s.D v) (ht : TreeD near P v up) {k : Nat} (hk : near.length - cntD s.dep <= k + 1)
  (ih : ∀ (s : DS) (P : List Int) (v up : Int), StD near s P -> okD near v -> ¬ 0 < s.D v -> TreeD near P v up -> near.length - cntD s.dep <= k -> PeelS near s -> ∀ s' low, visitF near k v up s = some (s', low) -> PeelS near s') :
  ∀ (rest pre : List Int) (s1 : DS) (lo : Int) (T : List Int), pre ++ rest = nbD near v -> LoopD near s s1 P v up lo T pre -> PeelS near s1 -> ∀ s' low, rowD (visitF near k) v up rest s1 lo = some (s', low) -> PeelS near s' := by
 intro rest
 induction rest with
 | nil =>
  intro pre s1 lo T he h hq s' low hr;simp only [rowD] at hr;injection hr with hr
  rw [<- (Prod.mk.inj hr).1]; exact hq
 | cons x rest ihr =>
  intro pre s1 lo T he h hq s' low hr;have hx : x ∈ nbD near v := by rw [<- he]; simp
  have hxok := G.range v hv x hx;have he' : (pre ++ [x]) ++ rest = nbD near v := by rw [<- he]; simp
  have go : ∀ {s2 : DS} {lo2 : Int} {T2 : List Int}, stepD (visitF near k) v up s1 lo x = some (s2, lo2) -> LoopD near s s2 P v up lo2 T2 (pre ++ [x]) -> PeelS near s2 -> PeelS near s' := fun {s2 lo2 T2} h1 h2 h3 => by
   refine ihr (pre ++ [x]) s2 lo2 T2 he' h2 h3 s' low ?_;simp only [rowD] at hr;rw [h1] at hr;exact hr
  by_cases hxu : x = up
  ·have hd : 0 < s1.D x := by
    rcases ht with ⟨_, e⟩ | ⟨P', e, _⟩
    ·have := hxok.1; omega
    ·subst hxu; exact h.st.vis (by rw [e]; simp)
   exact go (by unfold stepD; rw [if_pos hxu]) (loop_up h hxok hxu hd) hq
  by_cases hd : 0 < s1.D x
  ·exact go (by unfold stepD; rw [if_neg hxu, if_pos ⟨hxok.1, by rw [h.st.dl]; exact hxok.2⟩]; exact if_pos hd) (loop_seen G S hv hv0 h hx hd) hq
  have hc1 : cntD s1.dep <= near.length := by have := cntD_le (l := s1.dep); rwa [h.st.dl] at this
  have hkk : near.length - cntD s1.dep <= k := by have := h.cnt; omega
  have htx : TreeD near (v :: P) x v := .inr ⟨P, rfl, hx⟩;obtain ⟨s2, l, Tx, hq2, k2⟩ := visit_post G hn hrow k s1 (v :: P) x v h.st hxok hd htx hkk;have hp2 := ih s1 (v :: P) x v h.st hxok hd htx hkk hq s2 l hq2;have hstep : stepD (visitF near k) v up s1 lo x = backD s2 v s1.opn.length lo l := by
   unfold stepD;rw [if_neg hxu, if_pos ⟨hxok.1, by rw [h.st.dl]; exact hxok.2⟩];show (if 0 < s1.D x then _ else _) = _
   rw [if_neg hd, hq2]
  have hb : backD s2 v s1.opn.length lo l = if l < s2.D v then some (s2, mnD lo l) else shutD s2 v s1.opn.length lo := by
   unfold backD;rw [if_pos (by rw [k2.st.dl]; exact hv.2)]
   rfl
  by_cases hl : l < s2.D v
  ·exact go (by rw [hstep, hb, if_pos hl]) (loop_in G S hv hv0 ht h hx hd k2 hl) hp2
  ·obtain ⟨s3, h3, h4⟩ := loop_shut G S hv hv0 ht h hx hd k2 hl hn;exact go (by rw [hstep, hb, if_neg hl, h3]) h4 (shut_peel G S h hx hd k2 hl hp2 h3)
theorem visit_peel (G : GraphD near) (hn : near.length < 900000) (hrow : ∀ v, (near.getD v []).length < 1000000) : ∀ (k : Nat) (s : DS) (P : List Int) (v up : Int), StD near s P -> okD near v -> ¬ 0 < s.D v -> TreeD near P v up -> near.length - cntD s.dep <= k -> PeelS near s -> ∀ s' low, visitF near k v up s = some (s', low) -> PeelS near s' := by
 intro k
 induction k with
 | zero =>
  intro s P v up S hv hv0 ht hk hq s' low h;simp only [visitF] at h;cases h
 | succ k ih =>
  intro s P v up S hv hv0 ht hk hq s' low h;obtain ⟨s1, e1, h1, e_out, e_opn, d1⟩ := visit_start G hrow hn S hv hv0 ht k;rw [e1] at h;refine row_peel G hn hrow S hv hv0 ht hk ih (nbD near v) [] s1 _ [v] rfl h1 ?_ s' low h;unfold PeelS;rw [e_out, e_opn];refine PeelD.congr hq fun y => ?_
  constructor
  ·rintro ⟨h1, h2⟩;refine ⟨h1, ?_⟩;by_cases e : y = v
   ·rw [e]; exact .inl hv0
   ·rw [d1 y h1, if_neg e] at h2;refine h2.imp_right fun h => ?_
    rcases List.mem_append.1 h with h | h
    ·exact h
    ·exact absurd (by simpa using h) e
  ·rintro ⟨h1, h2⟩;refine ⟨h1, ?_⟩;by_cases e : y = v
   ·rw [e]; exact .inr (by simp)
   ·rw [d1 y h1, if_neg e];exact h2.imp_right fun h => List.mem_append_left _ h
theorem roots_peel (G : GraphD near) (hn : near.length < 900000) (hrow : ∀ v, (near.getD v []).length < 1000000) : ∀ (l : List Nat) (s : DS), StD near s [] -> (∀ v ∈ l, v < near.length) -> PeelS near { s with opn := [] } -> ∀ s', rootsD near l s = some s' -> PeelS near { s' with opn := [] } /\ (∀ v ∈ l, 0 < s'.D (v : Int)) /\ ∀ y, okD near y -> 0 < s.D y -> 0 < s'.D y := by
 intro l
 induction l with
 | nil =>
  intro s S _ hq s' h;simp only [rootsD] at h;injection h with h
  subst h;exact ⟨hq, by simp, fun _ _ h => h⟩
 | cons v l ih =>
  intro s S hl hq s' h;have hv := hl v (by simp);have hvo : okD near (v : Int) := ⟨by omega, by simpa using hv⟩;have hl' : ∀ u ∈ l, u < near.length := fun u hu => hl u (List.mem_cons_of_mem _ hu)
  unfold rootsD at h;rw [if_pos (by rw [S.dl]; exact hv)] at h;by_cases h0 : s.dep.getD v 0 = 0
  ·rw [if_pos h0] at h;have hd : ¬ 0 < ({ s with opn := [] } : DS).D (v : Int) := by show ¬ 0 < s.dep.getD (v : Int).toNat 0; simp only [Int.toNat_natCast]; omega
   have htr : TreeD near [] (v : Int) (-1) := .inl ⟨rfl, by omega⟩;have hfu : near.length - cntD ({ s with opn := [] } : DS).dep <= fuelD := by rw [fuelD_is]; omega
   obtain ⟨s1, low, T, h1, h2⟩ := visit_post G hn hrow fuelD { s with opn := [] } [] v (-1) S.clear hvo hd htr hfu;have hp := visit_peel G hn hrow fuelD { s with opn := [] } [] v (-1) S.clear hvo hd htr hfu hq s1 low h1;rw [h1] at h;simp only at h;have hTv : ∀ t ∈ T, t = (v : Int) := fun t ht => Classical.byContradiction fun hc => by
    obtain ⟨z, _, u, hu, _⟩ := h2.new.q _ h2.new.vT t ht hc;simp at hu
   have hop : ∀ y, y ∈ s1.opn ↔ y = (v : Int) := fun y => by
    rw [h2.new.opn];show y ∈ [] ++ T ↔ _
    rw [List.nil_append];exact ⟨hTv y, fun e => e ▸ h2.new.vT⟩
   have hDv : 0 < s1.D (v : Int) := by rw [h2.new.dv]; simp
   have hp1 : PeelS near { s1 with opn := [] } := by
    refine PeelD.lone (v := (v : Int)) hp ⟨hvo, .inr ((hop _).2 rfl)⟩ (fun w hw hR => ?_) fun y => ?_
    ·have hw1 := h2.st.cl _ hvo hDv (by simp) w hw;rcases hR.2 with h | h
     ·exact h hw1
     ·have := (hop w).1 h;subst this;exact G.irr _ hvo hw
    ·show (okD near y /\ (¬ 0 < s1.D y \/ y ∈ [])) ↔ (okD near y /\ (¬ 0 < s1.D y \/ y ∈ s1.opn)) /\ y ≠ v
     rw [hop];constructor
     ·rintro ⟨a, b | b⟩
      ·exact ⟨⟨a, .inl b⟩, fun e => b (e ▸ hDv)⟩
      ·cases b
     ·rintro ⟨⟨a, b | b⟩, c⟩
      ·exact ⟨a, .inl b⟩
      ·exact absurd b c
   obtain ⟨q1, q2, q3⟩ := ih s1 h2.st hl' hp1 s' h;refine ⟨q1, fun u hu => ?_, fun y hy h => q3 y hy ?_⟩
   ·rcases List.mem_cons.1 hu with e | hu
    ·rw [e]; exact q3 _ hvo hDv
    ·exact q2 u hu
   ·have := h2.new.mono y hy h;rw [this]; exact h
  ·rw [if_neg h0] at h;obtain ⟨q1, q2, q3⟩ := ih s S hl' hq s' h;refine ⟨q1, fun u hu => ?_, q3⟩;rcases List.mem_cons.1 hu with e | hu
   ·rw [e];have hnn := S.nn _ hvo;refine q3 _ hvo ?_;have : s.D (v : Int) = s.dep.getD v 0 := by show s.dep.getD (v : Int).toNat 0 = _; rw [Int.toNat_natCast]
    omega
   ·exact q2 u hu
theorem tree_peel (G : GraphD near) (hn : near.length < 900000) (hrow : ∀ v, (near.getD v []).length < 1000000) {s : DS} (h : treeD near = some s) : PeelD near (fun _ => False) s.out := by
 have h0 : PeelS near { zeroD near with opn := [] } := by
  refine PeelD.base fun y => ?_
  constructor
  ·exact And.left
  ·intro hy;refine ⟨hy, .inl ?_⟩;show ¬ 0 < (List.replicate near.length (0 : Int)).getD y.toNat 0
   rw [qDq, List.getElem?_replicate]; split <;> simp
 obtain ⟨q1, q2, _⟩ := roots_peel G hn hrow (List.range near.length) (zeroD near) zero_std (fun v hv => List.mem_range.1 hv) h0 s h
 refine PeelD.congr q1 fun y => ?_
 constructor
 ·exact False.elim
 ·rintro ⟨hy, h | h⟩
  ·have := q2 y.toNat (List.mem_range.2 hy.2);rw [Int.toNat_of_nonneg hy.1] at this;exact h this
  ·cases h
end Go.Sh
namespace Go.Sh
structure MdP (V : Nat -> Prop) (A : Nat -> Nat -> Prop) (c : Nat -> Nat) : Prop where
 some : ∀ i, i < 4 -> ∃ x, V x /\ c x = i
 conn : ∀ i, i < 4 -> ∀ P : Nat -> Prop, (∃ x, V x /\ c x = i /\ P x) -> (∀ x y, V x -> V y -> c x = i -> c y = i -> A x y -> P x -> P y) -> ∀ x, V x -> c x = i -> P x
 meet : ∀ i j, i < j -> j < 4 -> ∃ x y, V x /\ V y /\ A x y /\ c x = i /\ c y = j
theorem mdL_P {vs : List Nat} {A : Nat -> Nat -> Prop} {c : Nat -> Nat} : MdL vs A c ↔ MdP (· ∈ vs) A c := ⟨fun h => ⟨h.some, h.conn, h.meet⟩, fun h => ⟨h.some, h.conn, h.meet⟩⟩
variable {V X Y : Nat -> Prop} {A : Nat -> Nat -> Prop} {c : Nat -> Nat} {v : Nat}
theorem MdP.meets (hs : ∀ x y, A x y -> A y x) (h : MdP V A c) {i j : Nat} (hi : i < 4) (hj : j < 4) (hij : i ≠ j) : ∃ x y, V x /\ V y /\ A x y /\ c x = i /\ c y = j := by
 rcases Nat.lt_or_gt_of_ne hij with k | k
 ·exact h.meet i j k hj
 ·obtain ⟨x, y, a, b, d, e, f⟩ := h.meet j i k hi;exact ⟨y, x, b, a, hs _ _ d, f, e⟩
theorem MdP.side (hs : ∀ x y, A x y -> A y x) (h : MdP V A c) (hX : ∀ y, X y -> V y) (hv : X v) (hcl : ∀ t w, X t -> t ≠ v -> V w -> A t w -> X w) {j0 : Nat} (hj0 : j0 < 4) (hj : c v ≠ j0) (hin : ∃ x, X x /\ c x = j0) : MdP X A c := by
 have out_ : ∀ t w, X t -> V w -> ¬ X w -> A t w -> t = v := fun t w h1 h2 h3 h4 => Classical.byContradiction fun hc => h3 (hcl t w h1 hc h2 h4)
 have whole : ∀ {j}, j < 4 -> c v ≠ j -> (∃ x, X x /\ c x = j) -> ∀ y, V y -> c y = j -> X y := fun {j} hj hcv ⟨x, hx, ex⟩ => h.conn j hj X ⟨x, hX x hx, ex, hx⟩ fun a b ha hb ea eb hab hxa => hcl a b hxa (fun e => hcv (by rw [<- e]; exact ea)) hb hab
 have all : ∀ {j}, j < 4 -> c v ≠ j -> ∀ y, V y -> c y = j -> X y := fun {j} hj4 hcv => by
  refine whole hj4 hcv ?_;by_cases e : j = j0
  ·subst e; exact hin
  ·obtain ⟨a, b, ha, hb, hab, ea, eb⟩ := h.meets hs hj0 hj4 (Ne.symm e);exact ⟨b, hcl a b (whole hj0 hj hin a ha ea) (fun e => hj (by rw [<- e]; exact ea)) hb hab, eb⟩
 refine ⟨fun i hi => ?_, fun i hi P ⟨x0, hx0, e0, p0⟩ hP x hx ex => ?_, fun i j hij hj4 => ?_⟩
 ·by_cases e : c v = i
  ·exact ⟨v, hv, e⟩
  ·obtain ⟨x, hx, ex⟩ := h.some i hi;exact ⟨x, all hi e x hx ex, ex⟩
 ·have := h.conn i hi (fun y => (X y /\ P y) \/ (¬ X y /\ P v)) ⟨x0, hX x0 hx0, e0, .inl ⟨hx0, p0⟩⟩ (fun a b ha hb ea eb hab hp => by
   by_cases hb' : X b
   ·refine .inl ⟨hb', ?_⟩;rcases hp with ⟨q1, q2⟩ | ⟨q1, q2⟩
    ·exact hP a b q1 hb' ea eb hab q2
    ·rw [out_ b a hb' ha q1 (hs _ _ hab)]; exact q2
   ·refine .inr ⟨hb', ?_⟩;rcases hp with ⟨q1, q2⟩ | ⟨q1, q2⟩
    ·rw [<- out_ a b q1 hb hb' hab]; exact q2
    ·exact q2) x (hX x hx) ex
  rcases this with q | q
  ·exact q.2
  ·exact absurd hx q.1
 ·obtain ⟨a, b, ha, hb, hab, ea, eb⟩ := h.meet i j hij hj4;by_cases e : c v = i
  ·have hb' := all hj4 (by omega) b hb eb;exact ⟨a, b, hcl b a hb' (fun e2 => by rw [e2] at eb; omega) ha (hs _ _ hab), hb', hab, ea, eb⟩
  ·have ha' := all (by omega) e a ha ea;exact ⟨a, b, ha', hcl a b ha' (fun e2 => e (by rw [<- e2]; exact ea)) hb hab, hab, ea, eb⟩
theorem MdP.leaf (hs : ∀ x y, A x y -> A y x) (h : MdP V A c) (hX : ∀ y, X y -> V y) (hv : X v) (hcl : ∀ t w, X t -> t ≠ v -> V w -> A t w -> X w) (hY : ∀ y, Y y ↔ V y /\ (X y -> y = v)) : MdP X A c \/ MdP Y A c := by
 obtain ⟨j0, hj0, hj⟩ : ∃ j0, j0 < 4 /\ c v ≠ j0 := by
  by_cases e : c v = 0
  ·exact ⟨1, by omega, by omega⟩
  ·exact ⟨0, by omega, e⟩
 by_cases hin : ∃ x, X x /\ c x = j0
 ·exact .inl (h.side hs hX hv hcl hj0 hj hin)
 ·refine .inr (h.side hs (v := v) (fun y hy => ((hY y).1 hy).1) ((hY v).2 ⟨hX v hv, fun _ => rfl⟩) (fun t w ht htv hw hA => (hY w).2 ⟨hw, fun hXw => Classical.byContradiction fun hwv => ?_⟩) hj0 hj ?_)
  ·exact htv (((hY t).1 ht).2 (hcl w t hXw hwv ((hY t).1 ht).1 (hs _ _ hA)))
  ·obtain ⟨x, hx, ex⟩ := h.some j0 hj0;exact ⟨x, (hY x).2 ⟨hx, fun hXx => absurd ⟨x, hXx, ex⟩ hin⟩, ex⟩
theorem MdP.lone (hs : ∀ x y, A x y -> A y x) (h : MdP V A c) (hv : V v) (hl : ∀ w, V w -> ¬ A v w) (hY : ∀ y, Y y ↔ V y /\ y ≠ v) : MdP Y A c := by
 have hc : ∀ i, i < 4 -> c v ≠ i := fun i hi e => by
  have hall := h.conn i hi (· = v) ⟨v, hv, e, rfl⟩ fun x y hx hy _ _ hA ex => absurd hA (by rw [ex]; exact hl y hy)
  obtain ⟨j, hj, hij⟩ : ∃ j, j < 4 /\ i ≠ j := by
   by_cases e : i = 0
   ·exact ⟨1, by omega, by omega⟩
   ·exact ⟨0, by omega, e⟩
  obtain ⟨x, y, hx, hy, hA, ex, ey⟩ := h.meets hs hi hj hij;have := hall x hx ex;exact hl y hy (by rw [<- this]; exact hA)
 have to : ∀ {y}, V y -> c y < 4 -> Y y := fun {y} hy h4 => (hY y).2 ⟨hy, fun e => hc _ h4 (by rw [e])⟩
 refine ⟨fun i hi => ?_, fun i hi P ⟨x0, hx0, e0, p0⟩ hP x hx ex => ?_, fun i j hij hj4 => ?_⟩
 ·obtain ⟨x, hx, ex⟩ := h.some i hi;exact ⟨x, to hx (by omega), ex⟩
 ·exact h.conn i hi P ⟨x0, ((hY _).1 hx0).1, e0, p0⟩ (fun a b ha hb ea eb hA hp => hP a b (to ha (by omega)) (to hb (by omega)) ea eb hA hp) x ((hY _).1 hx).1 ex
 ·obtain ⟨a, b, ha, hb, hab, ea, eb⟩ := h.meet i j hij hj4;exact ⟨a, b, to ha (by omega), to hb (by omega), hab, ea, eb⟩
theorem MdP.congr {V' : Nat -> Prop} (h : MdP V A c) (e : ∀ y, V' y ↔ V y) : MdP V' A c := by
 have : V' = V := funext fun y => propext (e y)
 rw [this]; exact h
def adjD (near : List (List Int)) (x y : Nat) : Prop := x < near.length /\ (y : Int) ∈ nbD near (x : Int)
theorem peel_K4 {near : List (List Int)} (G : GraphD near) {R : Int -> Prop} {out : List (List Int)} (h : PeelD near R out) (hm : MdP (fun y => y < near.length) (adjD near) c) : MdP (fun y => R (y : Int)) (adjD near) c \/ ∃ L ∈ out, MdP (fun y => (y : Int) ∈ L) (adjD near) c := by
 have ok : ∀ {y : Nat}, okD near (y : Int) ↔ y < near.length := fun {y} => by unfold okD; rw [Int.toNat_natCast]; omega
 have hs : ∀ x y, adjD near x y -> adjD near y x := fun x y ⟨h1, h2⟩ => ⟨ok.1 (G.range _ (ok.2 h1) _ h2), G.sym _ _ (ok.2 h1) h2⟩
 have inR : ∀ {R : Int -> Prop} {out : List (List Int)}, PeelD near R out -> ∀ y, R y -> okD near y := by
  intro R out h
  induction h with
  | base e => exact fun y => (e y).1
  | lone _ _ _ e ih => exact fun y hy => ih y ((e y).1 hy).1
  | leaf _ _ _ _ _ e ih => exact fun y hy => ih y ((e y).1 hy).1
 have back : ∀ {t : Int}, okD near t -> ((t.toNat : Nat) : Int) = t := fun ht => Int.toNat_of_nonneg ht.1
 induction h with
 | base e => exact .inl (hm.congr fun y => by rw [e, ok])
 | @lone R R' out v h0 hv hl e ih =>
  rcases ih with ih | ih
  ·left
   have hvo := inR h0 v hv;refine ih.lone hs (v := v.toNat) (by rw [back hvo]; exact hv) (fun w hw hA => hl w ?_ hw) fun y => ?_
   ·have := hA.2;rw [back hvo] at this;exact this
   ·rw [e];have := hvo.1;exact ⟨fun k => ⟨k.1, fun e2 => k.2 (by omega)⟩, fun k => ⟨k.1, fun e2 => k.2 (by omega)⟩⟩
  ·exact .inr ih
 | @leaf R R' out L v h0 hn hLR hvL hcl e ih =>
  rcases ih with ih | ⟨M, hM, hm⟩
  ·have hvo := inR h0 v (hLR v hvL);have h0v := hvo.1;rcases ih.leaf hs (X := fun y => (y : Int) ∈ L) (Y := fun y => R' (y : Int)) (v := v.toNat) (fun y hy => hLR _ hy) (by rw [back hvo]; exact hvL) (fun t w ht htv hw hA => hcl t ht (fun e2 => htv (by omega)) w hA.2 hw) (fun y => by
    rw [e];exact ⟨fun k => ⟨k.1, fun k2 => by have := k.2 k2; omega⟩, fun k => ⟨k.1, fun k2 => by have := k.2 k2; omega⟩⟩) with q | q
   ·exact .inr ⟨L, by simp, q⟩
   ·exact .inl q
  ·exact .inr ⟨M, List.mem_append_left _ hM, hm⟩
theorem two2_P {n : Int} {E : List Ed} {L : List Int} (hR : RightP n E) (hl : L.length <= 1000) (hnd : L.Nodup) (h2 : 2 <= L.length) (hok : ∀ x ∈ L, okD (nbrs n.toNat E) x) (h : Two2 (nbrs n.toNat E) (· ∈ L)) : TwoP n E L := by
 have hrng : ∀ x ∈ L, 0 <= x /\ x < n := fun x hx => by
  have := ok_nbrs.1 (hok x hx);have := hR.1;omega
 have to : ∀ {k : List Int} {a b : Int}, (∀ x ∈ k, okD (nbrs n.toNat E) x) -> RchD (nbrs n.toNat E) (· ∈ k) a b -> Rch E k a b := fun {k a b} hk h => by
  have step : ∀ {a b c}, Rch E k a b -> Rch E k b c -> Rch E k a c := fun h1 h2 => by
   induction h2 with
   | base => exact h1
   | step _ h3 h4 ih => exact .step ih h3 h4
  induction h with
  | refl _ => exact .base
  | @step a b c h1 h3 h4 ih =>
   have h3 : b ∈ nbD (nbrs n.toNat E) a := h3;rw [nbD_nbrs (hk _ h1), mem_nearL] at h3;exact step (.step .base h3 h4.left) ih
 have hd : ∀ {k : List Int}, k ≠ [] -> k.headD 0 ∈ k := fun {k} hk => by cases k with | nil => exact absurd rfl hk | cons a k => exact List.mem_cons_self
 have hL0 : L ≠ [] := by intro e; rw [e] at h2; simp at h2
 refine (two_iff hl).2 ⟨h2, ⟨hR, hL0, hnd, hrng, fun x hx => to hok (h.1 _ _ (hd hL0) hx)⟩, fun c hc => ?_⟩
 have hlen := List.length_erase_of_mem hc
 have he0 : L.erase c ≠ [] := by intro e; rw [e] at hlen; simp at hlen; omega
 have hme : ∀ x, x ∈ L.erase c ↔ x ∈ L /\ x ≠ c := fun x => by rw [hnd.mem_erase_iff]; exact And.comm
 refine ⟨hR, he0, hnd.erase c, fun x hx => hrng x ((hme x).1 hx).1, fun x hx => to (fun x hx => hok x ((hme x).1 hx).1) ?_⟩
 have hh := (hme _).1 (hd he0)
 have hx := (hme _).1 hx
 exact (h.2 c hc _ _ hh.1 hx.1 hh.2 hx.2).mono fun y hy => (hme y).2 hy
theorem blk_of {n : Int} {E : List Ed} (hR : RightP n E) {s : DS} (h : treeD (nbrs n.toNat E) = some s) (hS : StD (nbrs n.toNat E) s []) (hn : n <= 1000) : (∀ L ∈ s.out, TwoP n E L /\ L.length <= n.toNat) /\ (narrowB n E = true ↔ ∀ L ∈ s.out, narG n E L = true) := by
 have hG := graph_nbrs hR
 have hlen : (nbrs n.toNat E).length = n.toNat := nbrs_length _ _
 have hle : ∀ L ∈ s.out, L.length <= n.toNat := fun L hL => by
  obtain ⟨q1, _, q2, _⟩ := hS.two L hL;have := len_subD (m := (List.range n.toNat).map fun (v : Nat) => (v : Int)) q1 fun x hx => by
   have := ok_nbrs.1 (q2 x hx);exact List.mem_map.2 ⟨x.toNat, List.mem_range.2 (by omega), by omega⟩
  simpa using this
 have hT : ∀ L ∈ s.out, TwoP n E L := fun L hL => by
  obtain ⟨q1, q2, q3, q4⟩ := hS.two L hL;have := hle L hL;exact two2_P hR (by omega) q1 q2 q3 q4
 have hA : ∀ x y : Nat, adjD (nbrs n.toNat E) x y ↔ adjE E (x : Int) (y : Int) := fun x y => by
  unfold adjD;have key := nbrs_adj hR x y;unfold adjN at key;constructor
  ·rintro ⟨h1, h2⟩;rw [nbD_nbrs (by unfold okD; rw [Int.toNat_natCast]; omega), mem_nearL] at h2;exact h2
  ·intro h;have hx : x < (nbrs n.toNat E).length := by
    have hx : ∃ p ∈ E, (x : Int) = p.1 \/ (x : Int) = p.2 := by
     rcases h with h | h
     ·exact ⟨_, h, .inl rfl⟩
     ·exact ⟨_, h, .inr rfl⟩
    obtain ⟨p, hp, e⟩ := hx;have := hR.2.2.2.1 p hp;unfold okE at this;rw [hlen];omega
   refine ⟨hx, ?_⟩;rw [nbD_nbrs (by unfold okD; rw [Int.toNat_natCast]; omega), mem_nearL];exact h
 refine ⟨fun L hL => ⟨hT L hL, hle L hL⟩, ?_⟩
 rw [narrow_K4 hR]
 unfold K4
 rw [hlen]
 constructor
 ·intro hno L hL;have hLt := hT L hL;obtain ⟨hR', h2, ⟨hnd, hrng⟩, -⟩ := hT L hL;have := hle L hL;refine (narG_iff (by omega) hLt).2 fun ⟨c, hc⟩ => hno ⟨_, (hc.mono (A' := adjN (nbrs n.toNat E)) fun x y _ _ k => (nbrs_adj hR x y).2 (with_mem.1 k).1).induced fun x hx => ?_⟩
  obtain ⟨a, ha, rfl⟩ := List.mem_map.1 hx;have := hrng a ha;exact List.mem_range.2 (by omega)
 ·rintro hall ⟨c, hc⟩;have hm : MdP (fun y => y < (nbrs n.toNat E).length) (adjD (nbrs n.toNat E)) c := by
   have h1 := mdL_P.1 (hc.mono (A' := adjD (nbrs n.toNat E)) fun x y _ _ k => (hA x y).2 ((nbrs_adj hR x y).1 k));exact h1.congr fun y => by rw [hlen]; exact List.mem_range.symm
  rcases peel_K4 hG (tree_peel hG (by rw [hlen]; omega) (nbrs_rows hR) h) hm with q | ⟨L, hL, q⟩
  ·obtain ⟨x, hx, _⟩ := q.some 0 (by omega);exact hx
  ·have hLt := hT L hL;obtain ⟨hR', h2, ⟨hnd, hrng⟩, -⟩ := hT L hL;have hle := hle L hL;have hmap : ∀ x : Nat, x ∈ L.map Int.toNat ↔ (x : Int) ∈ L := fun x => by
    rw [List.mem_map];constructor
    ·rintro ⟨v, hv, rfl⟩;rw [Int.toNat_of_nonneg (hrng v hv).1]; exact hv
    ·intro h; exact ⟨_, h, Int.toNat_natCast x⟩
   refine (narG_iff (by omega) hLt).1 (hall L hL) ⟨c, ?_⟩;have h2 := mdL_P.2 (q.congr (V' := (· ∈ L.map Int.toNat)) fun y => hmap y);exact h2.mono fun x y hx hy k => with_mem.2 ⟨(hA x y).1 k, (hmap x).1 hx, (hmap y).1 hy⟩
def serN (t : List Nd) : Nat := t.countP fun x => decide (x.1 = 1)
theorem step_ser {m : Nat} {s : Sp} {k : Nat} (hk : k < s.left.length) : serN (stepS m s k).out = serN s.out + 1 /\ (stepS m s k).left.length + 1 = s.left.length := by
 have hl : (s.left.eraseIdx k).length + 1 = s.left.length := by rw [List.length_eraseIdx_of_lt hk]; omega
 unfold stepS
 dsimp only
 split
 ·refine ⟨?_, hl⟩;unfold serN;rw [List.countP_append, List.countP_append];simp
 ·refine ⟨?_, hl⟩;unfold serN;rw [List.countP_append];simp
theorem run_ser {c : Int} {m : Nat} (hc : c ≠ 0) : ∀ (f : Nat) {s : Sp}, s.left.length <= f -> 2 <= s.left.length -> (runSp c m f s).2 = 0 -> serN (runSp c m f s).1 + 2 = serN s.out + s.left.length := by
 intro f
 induction f with
 | zero => intro s h1 h2; omega
 | succ f ih =>
  intro s h1 h2 h;by_cases h3 : s.left.length <= 2
  ·rw [runSp_stop h3];show serN s.out + 2 = _
   omega
  ·simp only [runSp] at h ⊢;rw [if_neg h3] at h ⊢
   cases hk : pickS s with
   | none => rw [hk] at h; exact absurd h hc
   | some k =>
    rw [hk] at h;dsimp only at h ⊢;have hlt : k < s.left.length := by
     unfold pickS at hk;exact (List.findIdx?_eq_some_iff_getElem.1 hk).1
    obtain ⟨a, b⟩ := step_ser (m := m) hlt;have := ih (by omega) (by omega) h;omega
theorem spt_ser {n : Int} {E : List Ed} {l : List Int} (hT : TwoP n E l) (h : (sptF n E l).2 = 0) : serN (sptF n E l).1 + 2 = l.length := by
 have hF : sptF n E l = runSp 6 (withL l E).length l.length (startS E l) := by unfold sptF; rw [if_pos (twoB_iff.2 hT)]
 have hll : (startS E l).left.length = l.length := sortI_length _
 rw [hF] at h ⊢
 have := run_ser (c := 6) (m := (withL l E).length) (by omega) l.length (s := startS E l) (by omega) (by have := hT.2.1; omega) h
 rw [this, hll]
 show serN [] + _ = _
 simp [serN]
end Go.Sh
namespace Go.Sh
open Go.Proofs
noncomputable def SBlkF := conF (fun _ : Int × List Ed => True) (fun a => [grV a.1 a.2]) (fun _ => .one (.s (.b true)))
noncomputable def XBlk : Cx := { Γ := [(23, Shown13C), (11, OfC), (49, RightC), (25, SptC), (26, CkC), (27, Within13C), (28, NarrowC)], T := T, nt := Tryz.f7.ntmps, inl := [(24, inlF Tryz.f24)], ext := [64], base := orCR (frameCR 61 16 (SpecD 61 fuelD)) (fnestFnCR 64 65 1 (sortNP goodL cmpL) (sortN cmpL)) }
theorem XBlk_s : Sound Tryz.prog T XBlk.Γ := sound_cons Shown13_ok (sound_cons Of_ok (sound_cons RightG_ok (sound_cons Spt_ok (sound_cons Ck_ok (sound_cons Within13_ok (sound_cons Narrow_ok sound_nil))))))
theorem XBlk_ok : CrOk Tryz.prog (callAt 2 XBlk) := callAt_ok hmix hT XBlk_s (inl_cons Tryz.func24 (by rfl) (by rfl) (by rfl) inl_nil) (or_ok (frame_ok (visit_spec fuelD)) (fnestFn_ok SortB_row)) 2
set_option maxRecDepth 200000 in
set_option maxHeartbeats 4000000 in
theorem SBlk_ok : SoundP Tryz.prog 7 SBlkF := by
 refine con_pure (X := XBlk) (cr := callAt 2 XBlk) XBlk_ok hmix hT XBlk_s Tryz.func7 (by rfl) (by rfl) (by rfl) 4 ?_
 rintro ⟨n, E⟩ -
 dsimp only
 refine two_le ?_
 refine Call.by _ _ Shown13C_at ?_
 refine Call.by _ _ (OfC_at n E (most := 30) (by omega)) ?_
 have hRF := any_right (n := n) (l := E) (most := 30) (by omega) (by omega)
 have hr := anyN_range (n := n) (most := 30) (by omega)
 obtain ⟨m0, hm0⟩ : ∃ m, anyN n 30 = m := ⟨_, rfl⟩
 obtain ⟨F, hF⟩ : ∃ F, anyE n E 30 = F := ⟨_, rfl⟩
 rw [hm0] at hr
 rw [hm0, hF] at hRF ⊢
 obtain ⟨m, rfl⟩ : ∃ m : Nat, m0 = (m : Int) := ⟨m0.toNat, by omega⟩
 have hm1 : m <= 1000 := by omega
 refine Call.by _ _ (RightC_at (m : Int) F) ?_
 refine Pick.F (by rw [decide_eq_true hRF]; rfl) ?_
 have hok2 := hRF.2.2.2.1
 have hFl : F.length <= 4000 := hRF.2.2.1
 refine Pick.T (beq_self_eq_true _) ?_
 refine Idx.by m rfl (by omega) ?_
 refine LoopP.intro (α := Nat) (fun i => i <= F.length) (fun i => F.length - i) (fun i => [(1, .ptr 0 0), (2, .ptr 2 0), (3, .ptr 3 0), (4, .ptr 4 0), (21, .sl 1 none none), (22, .s (.i .i64 F.length)), (23, .s (.i .i64 i)), (1000003, .s (.b true)), (1000004, .ptr 6 0)])
  (fun i => [(0, some (.blk [.s (.i .i64 m), .sl 1 none none])), (1, some (.flat true 2 (edges F))), (2, some (.blk [.nils, .nils])), (3, some (.blk [.nils, .nils])), (4, some (.blk [.sl 5 none none])), (5, some (.nest true 1 (rowsI (nbrs m (F.take i))) [] [])), (6, some (.blk [.s (.i .i64 m), .sl 1 none none]))]) 7 0 (by omega) (by refine Weak.bw (sg 0 [_,_,_,_,_,_,_]) (by ((repeat' first|exact rfl|exact trivial|apply And.intro) <;> (repeat' first|exact rfl|exact trivial|apply And.intro)); all_goals ((first|exact sc_eq (by rw [qeq]) | (simp [nbrs, nearL, rowsI, ints, List.map_const']; done))))) ?_
 rintro i hi
 refine Pick.by (fun hc => ?_) (fun hc => ?_)
 ·have hlt : i < F.length := by have := of_decide_eq_true hc; omega
  have hok := hok2 _ (List.getElem_mem hlt);have hget := edges_get (qEq hlt);have hnl2 : ∀ v, (nearL (F.take i) v).length <= 8000 := fun v => by have := nearL_length (F.take i) v; rw [List.length_take] at this; omega
  have hst : nbrs m (F.take (i + 1)) = nbrs m (F.take i ++ [F[i]]) := by rw [qTq hlt]
  obtain ⟨⟨a, b⟩, hab⟩ : ∃ p, F[i] = p := ⟨_, rfl⟩;rw [hab] at hok hget hst;rw [nbrs_snoc hok rfl] at hst;unfold okE at hok;obtain ⟨o1, o2, o3⟩ := hok;dsimp only at o1 o2 o3 hget hst;have hrw : ∀ v : Int, 0 <= v -> v < m -> (rowsI (nbrs m (F.take i)))[v.toNat]? = some (ints (nearL (F.take i) v)) := fun v h0 h1 => by
   refine qgq ?_;unfold nbrs;rw [List.getElem?_map, List.getElem?_range (by omega)];show some (nearL (F.take i) (v.toNat : Int)) = _
   rw [Int.toNat_of_nonneg h0]
  have hrl : (rowsI (nbrs m (F.take i))).length = m := by rw [qrq, nbrs_length]
  refine Idx.by i rfl (by rw [qeq]; exact hlt) ?_;refine Look.by _ hget ?_;refine Idx.by a.toNat (by omega) (by rw [hrl]; omega) ?_;refine Pick.T (by rw [hrl]; simp; omega) ?_;refine Look.by _ (hrw a (by omega) (by omega)) ?_;refine Pick.T (by simp [cut, qiq]; have := hnl2 a; omega) ?_;refine Idx.by a.toNat (by omega) (by rw [hrl]; omega) ?_;refine Pick.T (by rw [hrl]; simp; omega) ?_;refine Pick.T (by simp) ?_;refine Seg.by (by kernel_rfl) ?_;have hset : (rowsI (nbrs m (F.take i))).set a.toNat (ints (nearL (F.take i) a) ++ [[.i .i64 b]]) = rowsI ((nbrs m (F.take i)).set a.toNat (nearL (F.take i) a ++ [b])) := by rw [rowsI_set, ints_snoc]
  have hrl2 : ((rowsI (nbrs m (F.take i))).set a.toNat (ints (nearL (F.take i) a) ++ [[.i .i64 b]])).length = m := by rw [List.length_set, hrl]
  refine Idx.by b.toNat (by omega) (by show b.toNat < ((rowsI (nbrs m (F.take i))).set a.toNat (ints (nearL (F.take i) a) ++ [[.i .i64 b]])).length; rw [hrl2]; omega) ?_;refine Pick.T (by show decide (b.toNat < ((rowsI (nbrs m (F.take i))).set a.toNat (ints (nearL (F.take i) a) ++ [[.i .i64 b]])).length) = true; rw [hrl2]; simp; omega) ?_;refine Look.by (ints (nearL (F.take i) b)) (by show ((rowsI (nbrs m (F.take i))).set a.toNat (ints (nearL (F.take i) a) ++ [[.i .i64 b]]))[b.toNat]? = _; rw [qNq (by omega)]; exact hrw b (by omega) (by omega)) ?_;refine Pick.T (by simp [cut, qiq]; have := hnl2 b; omega) ?_;refine Idx.by b.toNat (by omega) (by show b.toNat < ((rowsI (nbrs m (F.take i))).set a.toNat (ints (nearL (F.take i) a) ++ [[.i .i64 b]])).length; rw [hrl2]; omega) ?_;refine Pick.T (by show decide (b.toNat < ((rowsI (nbrs m (F.take i))).set a.toNat (ints (nearL (F.take i) a) ++ [[.i .i64 b]])).length) = true; rw [hrl2]; simp; omega) ?_;refine Pick.T (by simp) ?_;refine Seg.by (by kernel_rfl) ?_;refine Pick.n ?_;have hfin : rowsI (nbrs m (F.take (i + 1))) = ((rowsI (nbrs m (F.take i))).set a.toNat (ints (nearL (F.take i) a) ++ [[.i .i64 b]])).set b.toNat (ints (nearL (F.take i) b) ++ [[.i .i64 a]]) := by
   rw [hst, hset, <- ints_snoc, <- rowsI_set]
  refine Next.by (i + 1) (by omega) (by omega) (by refine Weak.bw (sg 0 [_,_,_,_,_,_,_]) (by ((repeat' first|exact rfl|exact trivial|apply And.intro) <;> (repeat' first|exact rfl|exact trivial|apply And.intro)); all_goals ((first|exact sc_eq (by omega) | exact hfin))))
 have hiF : i = F.length := by have := of_decide_eq_false hc; omega
 subst hiF
 rw [List.take_length]
 refine Pick.T (beq_self_eq_true _) ?_
 refine Idx.by m rfl (by omega) ?_
 refine Pick.T (beq_self_eq_true _) ?_
 refine Idx.by m rfl (by omega) ?_
 obtain ⟨sF, hsF, hStd, hone⟩ := tree_nbrs hRF
 rw [Int.toNat_natCast] at hsF hStd hone
 have hN : (nbrs m F).length = m := nbrs_length m F
 have hblk0 := fun (h : treeD (nbrs m F) = some sF) => blk_of (n := (m : Int)) (E := F) hRF (s := sF) (by rw [Int.toNat_natCast]; exact h) (by rw [Int.toNat_natCast]; exact hStd) (by omega)
 have hblk := hblk0 hsF
 have hroot : rootsD (nbrs m F) ((List.range m).drop 0) (zeroD (nbrs m F)) = some sF := by
  have : treeD (nbrs m F) = some sF := hsF;unfold treeD at this
  rwa [hN] at this
 have zi : ints (List.replicate (nbrs m F).length 0) = List.replicate m [.i .i64 0] := by rw [hN]; simp [ints]
 refine LoopP.intro (α := Nat × DS × Bool) (fun a => a.1 <= m /\ rootsD (nbrs m F) ((List.range m).drop a.1) a.2.1 = some sF) (fun a => m - a.1) (fun a => [(1, .ptr 12 0), (2, .ptr 11 0), (3, .ptr 7 0), (4, .ptr 4 0), (7, .ptr 0 0), (8, .ptr 9 0), (9, .ptr 2 0), (10, .ptr 6 0), (62, .s (.i .i64 m)), (63, .s (.i .i64 a.1)), (1000003, .s (.b true)), (1000004, .ptr 13 0)])
  (fun a => match a.2.2 with
   | false => [(0, some (.blk [.sl 1 none none])), (1, some (.flat true 1 (ints (a.2.1).dep))), (2, some (.blk [.sl 3 none none])), (3, some (.flat true 1 (ints (a.2.1).opn))), (4, some (.blk [.sl 5 none none])), (5, some (.nest true 1 (rowsI (nbrs m F)) [] [])), (6, some (.fnb true 61 [.ptr 0 0, .ptr 2 0, .ptr 4 0, .ptr 6 0, .ptr 7 0, .ptr 9 0])), (7, some (.blk [.nils, .sl 8 none none])), (8, some (.fnest true 1 (rowsI (a.2.1).out))), (9, some (.blk [.sl 10 none none])), (10, some (.flat true 1 (ints (a.2.1).inn))), (11, some (.blk [.nils, .nils])), (12, some (.blk [.s (.i .i64 m), .sl 14 none none])), (13, some (.blk [.s (.i .i64 m), .sl 14 none none])), (14, some (.flat false 2 (edges F)))]
   | true => [(0, some (.blk [.sl 1 none none])), (1, some (.flat true 1 (ints (a.2.1).dep))), (2, some (.blk [.sl 3 none none])), (3, some (.flat true 1 (ints (a.2.1).opn))), (4, some (.rblk [.sl 5 none none])), (5, some (.nest false 1 (rowsI (nbrs m F)) [] [])), (6, some (.fnb false 61 [.ptr 0 0, .ptr 2 0, .ptr 4 0, .ptr 6 0, .ptr 7 0, .ptr 9 0])), (7, some (.blk [.nils, .sl 8 none none])), (8, some (.fnest true 1 (rowsI (a.2.1).out))), (9, some (.blk [.sl 10 none none])), (10, some (.flat true 1 (ints (a.2.1).inn))), (11, some (.blk [.nils, .nils])), (12, some (.rblk [.s (.i .i64 m), .sl 14 none none])), (13, some (.rblk [.s (.i .i64 m), .sl 14 none none])), (14, some (.flat false 2 (edges F)))]) 16 (0, zeroD (nbrs m F), false) ⟨Nat.zero_le _, hroot⟩ (by refine Weak.bf [1] [(0, some _), (1, some _), (2, some _), (3, none), (4, some _), (5, some _), (6, some _), (7, some _), (8, none), (9, some _), (10, some _), (11, some _), (12, some _), (13, some _), (14, some _)] (by ((repeat' first|exact rfl|exact trivial|apply And.intro) <;> (repeat' first|exact rfl|exact trivial|apply And.intro)); all_goals ((first | exact zi | (rw [zi]; rfl)))) (by rfl)) ?_
 rintro ⟨i, s, b⟩ ⟨hi, h⟩
 dsimp only at hi h ⊢
 let B := b
 let H : List SV -> Ent := match b with | false => .blk | true => .rblk
 cases b <;> dsimp only
 all_goals
  refine Pick.by (fun hc => ?_) (fun hc => ?_)
  ·have hlt : i < m := by have := of_decide_eq_true hc; omega
   have hdr : (List.range m).drop i = i :: (List.range m).drop (i + 1) := by rw [List.drop_eq_getElem_cons (by simpa using hlt), List.getElem_range]
   rw [hdr] at h;unfold rootsD at h;have hd : i < s.dep.length := by
    by_cases hd : i < s.dep.length
    ·exact hd
    ·rw [if_neg hd] at h; cases h
   rw [if_pos hd] at h;refine Idx.by i rfl (by rw [qiq]; exact hd) ?_;refine Look.by _ (qhq (x := s.dep.getD i 0) (by rw [qDq, qEq hd]; rfl)) ?_;refine Pick.by (fun h5 => ?_) (fun h5 => ?_)
   ·have h5 : s.dep.getD i 0 = 0 := eq_of_beq h5;rw [if_pos h5] at h;have hv : ∃ s1 l1, visitF (nbrs m F) fuelD i (-1) { s with opn := [] } = some (s1, l1) := by
     cases hv : visitF (nbrs m F) fuelD i (-1) { s with opn := [] } with
     | none => rw [hv] at h; cases h
     | some p => exact ⟨p.1, p.2, rfl⟩
    obtain ⟨s1, l1, hv⟩ := hv;rw [hv] at h;simp only at h;refine .inl (frame_by (cvs := argD i (-1)) (xs := [.ptr 11 0]) (cEn := capD 61 (nbrs m F) { s with opn := [] }) (x := .i .i64 l1) (cEn' := capD 61 (nbrs m F) s1) ⟨nbrs m F, i, -1, { s with opn := [] }, s1, l1, hv, rfl, rfl, rfl, rfl, rfl⟩ [4, 5, 6, 12, 13]
     [(0, some 0), (1, some 1), (2, some 2), (4, some 4), (5, some 5), (6, some 6), (7, some 7), (8, some 8), (9, some 9), (10, some 10), (11, some 11), (12, some 12), (13, some 13), (14, some 14)]
     [(1, .ptr 12 0), (2, .ptr 11 0), (3, .ptr 7 0), (4, .ptr 4 0), (7, .ptr 0 0), (8, .ptr 9 0), (9, .ptr 2 0), (10, .ptr 6 0), (62, .s (.i .i64 m)), (63, .s (.i .i64 i)), (1000003, .s (.b true)), (1000004, .ptr 13 0)]
     [(0, some (.blk [.sl 1 none none])), (1, some (.flat true 1 (ints s.dep))), (2, some (.blk [.nils])), (4, some (.rblk [.sl 5 none none])), (5, some (.nest false 1 (rowsI (nbrs m F)) [] [])), (6, some (.fnb false 61 [.ptr 0 0, .ptr 2 0, .ptr 4 0, .ptr 6 0, .ptr 7 0, .ptr 9 0])), (7, some (.blk [.nils, .sl 8 none none])), (8, some (.fnest true 1 (rowsI s.out))), (9, some (.blk [.sl 10 none none])), (10, some (.flat true 1 (ints s.inn))), (11, some (.blk [.nils, .nils])), (12, some (.rblk [.s (.i .i64 m), .sl 14 none none])), (13, some (.rblk [.s (.i .i64 m), .sl 14 none none])), (14, some (.flat false 2 (edges F)))] 16 (argD i (-1)) [2] [.ptr 11 0]
     [(0, some 0), (1, some 1), (2, some 2), (3, none), (4, some 4), (5, some 5), (6, some 6), (7, some 7), (8, some 8), (9, some 9), (10, some 10), (11, some 11)]
     [(0, some 0), (17, some 1), (2, some 2), (19, some 3), (7, some 7), (24, some 8), (9, some 9), (26, some 10), (11, some 11)]
     [(0, some (.blk [.sl 17 none none])), (17, some (.flat true 1 (ints s1.dep))), (2, some (.blk [.sl 19 none none])), (19, some (.flat true 1 (ints s1.opn))), (7, some (.blk [.nils, .sl 24 none none])), (24, some (.fnest true 1 (rowsI s1.out))), (9, some (.blk [.sl 26 none none])), (26, some (.flat true 1 (ints s1.inn))), (11, some (.blk [.nils, .nils]))]
     rfl (by (repeat' first|exact rfl|exact trivial|apply And.intro); all_goals (first|exact sc_eq (by first | omega | (rw [qiq])) | exact List.not_mem_nil | (intro c hc; simp at hc; done))) rfl ⟨rfl, trivial⟩ (by (repeat' first|exact rfl|exact trivial|apply And.intro); all_goals (first|exact sc_eq (by first | omega | (rw [qiq])) | exact List.not_mem_nil | (intro c hc; simp at hc; done))) rfl rfl (by (repeat' first|exact rfl|exact trivial|apply And.intro); all_goals (first|exact sc_eq (by first | omega | (rw [qiq])) | exact List.not_mem_nil | (intro c hc; simp at hc; done))) rfl rfl rfl rfl rfl ?_)
    refine Pick.n ?_;refine Next.by (i + 1, s1, true) ⟨by dsimp only; omega, h⟩ (by dsimp only; omega) (by refine Weak.bw (sg 0 [_,_,_,_,_,_,_,_,_,_,_,_,_,_,_]) (by ((repeat' first|exact rfl|exact trivial|apply And.intro) <;> (repeat' first|exact rfl|exact trivial|apply And.intro)); all_goals ((first|exact sc_eq (by omega) | exact List.not_mem_nil | (intro c hc; simp at hc; done)))))
   ·have h5 : ¬ s.dep.getD i 0 = 0 := ne_of_beq_false h5;rw [if_neg h5] at h;refine Pick.n ?_;refine Next.by (i + 1, s, B) ⟨by dsimp only; omega, h⟩ (by dsimp only; omega) (by refine Weak.bw (sg 0 [_,_,_,_,_,_,_,_,_,_,_,_,_,_,_]) (by ((repeat' first|exact rfl|exact trivial|apply And.intro) <;> (repeat' first|exact rfl|exact trivial|apply And.intro)); all_goals ((first|exact sc_eq (by omega) | exact List.not_mem_nil | (intro c hc; simp at hc; done)))))
  have him : i = m := by have := of_decide_eq_false hc; omega
  subst him;rw [List.drop_eq_nil_of_le (by simp)] at h;injection h with h
  subst h;have hcv : ∀ L ∈ s.out, L.length <= i := fun L hL => by
   obtain ⟨q1, _, q2, _⟩ := hStd.two L hL;have := len_subD (m := (List.range i).map fun (v : Nat) => (v : Int)) q1 fun x hx => by
    have := ok_nbrs.1 (q2 x hx);exact List.mem_map.2 ⟨x.toNat, List.mem_range.2 (by omega), by omega⟩
   simpa using this
  have hpot := hStd.pot;have hcd := cntD_le (l := s.dep);rw [hStd.dl, hN] at hcd;refine .inr ⟨rfl, rfl, rowsI s.out, rfl, ⟨s.out, rfl, fun r hr => by have := hcv r hr; unfold goodL; omega, hStd.pw.imp fun {a b} hab => by
   have h1 := cmpL_neg a b;have h2 : cmpL a b ≠ 0 := fun e => hab (cmpL_zero e)
   rcases Int.lt_or_gt_of_ne h2 with h3 | h3
   ·exact .inl (decide_eq_true h3)
   ·exact .inr (decide_eq_true (by omega)), by omega⟩, ?_⟩
  rw [sortN_rows];obtain ⟨SO, hSO⟩ : ∃ SO, sortL cmpL s.out = SO := ⟨_, rfl⟩;have hSp : SO.Perm s.out := by rw [<- hSO]; exact sortL_perm _ _
  rw [hSO];have hSl : SO.length = s.out.length := hSp.length_eq;refine LoopP.intro (α := Nat × List Int) (fun a => a.1 <= i /\ a.2.length <= a.1) (fun a => i - a.1) (fun a => [(2, .ptr 11 0), (3, .ptr 7 0), (8, .ptr 9 0), (79, .s (.i .i64 i)), (80, .s (.i .i64 a.1)), (1000003, .s (.b true)), (1000004, .ptr 13 0)])
   (fun a => [(7, some (.blk [.sl 15 none none, .sl 8 none none])), (8, some (.fnest true 1 (rowsI SO))), (9, some (.blk [.sl 10 none none])), (10, some (.flat true 1 (ints s.inn))), (11, some (.blk [.nils, .nils])), (13, some (H [.s (.i .i64 i), .sl 14 none none])), (14, some (.flat false 2 (edges F))), (15, some (.flat true 1 (ints a.2)))]) 16 (0, []) ⟨Nat.zero_le _, Nat.le_refl _⟩ (by refine Weak.bw [(7, some _), (8, some _), (9, some _), (10, some _), (11, some _), (13, some _), (14, some _), (15, none)] (by ((repeat' first|exact rfl|exact trivial|apply And.intro) <;> (repeat' first|exact rfl|exact trivial|apply And.intro)); all_goals ((first|exact sc_eq (by omega) | rfl)))) ?_
  rintro ⟨j, cs⟩ ⟨hj, hcs⟩;dsimp only at hj hcs ⊢;refine Pick.by (fun hc => ?_) (fun hc => ?_)
  ·have hlt : j < i := by have := of_decide_eq_true hc; omega
   have hjl : j < s.inn.length := by rw [hStd.il, hN]; exact hlt
   refine Idx.by j rfl (by rw [qiq]; exact hjl) ?_;refine Look.by _ (qhq (x := s.inn.getD j 0) (by rw [qDq, qEq hjl]; rfl)) ?_;refine Pick.by (fun h5 => ?_) (fun h5 => ?_)
   ·refine Pick.T (by rw [decide_eq_true_iff, qiq]; show _ + 1 <= _; omega) ?_;refine Pick.n ?_;refine Next.by (j + 1, cs ++ [(j : Int)]) ⟨by dsimp only; omega, by dsimp only; rw [List.length_append]; show _ + 1 <= _; omega⟩ (by dsimp only; omega) (by refine Weak.bw [(7, some _), (8, some _), (9, some _), (10, some _), (11, some _), (13, some _), (14, some _), (15, some _)] (by ((repeat' first|exact rfl|exact trivial|apply And.intro) <;> (repeat' first|exact rfl|exact trivial|apply And.intro)); all_goals ((first|exact sc_eq (by omega) | exact ints_snoc _ _))))
   ·refine Pick.n ?_;refine Next.by (j + 1, cs) ⟨by dsimp only; omega, by dsimp only; omega⟩ (by dsimp only; omega) (by refine Weak.bw [(7, some _), (8, some _), (9, some _), (10, some _), (11, some _), (13, some _), (14, some _), (15, some _)] (by ((repeat' first|exact rfl|exact trivial|apply And.intro) <;> (repeat' first|exact rfl|exact trivial|apply And.intro)); all_goals ((first|exact sc_eq (by omega)))))
  refine LoopP.intro (α := Nat × Bool) (fun a => a.1 <= SO.length /\ (a.2 = true ↔ ∀ L ∈ SO.take a.1, narG (i : Int) F L = true)) (fun a => SO.length - a.1) (fun a => [(3, .s (.b true)), (4, .ptr 0 0), (5, .sl 2 none none), (6, .s (.b a.2)), (7, .s (.i .i64 a.1))])
   (fun a => [(0, some (H [.s (.i .i64 i), .sl 1 none none])), (1, some (.flat false 2 (edges F))), (2, some (.fnest true 1 (rowsI SO)))]) 3 (0, true) ⟨by omega, by simp⟩ (by refine Weak.ba (sg 0 [_,_,_])) ?_
  rintro ⟨j2, good⟩ ⟨hj2, hgood⟩;dsimp only at hj2 hgood ⊢;refine Pick.by (fun hc2 => ?_) (fun hc2 => ?_)
  ·have hlt : j2 < SO.length := by have := of_decide_eq_true hc2; rw [qrq] at this; omega
   obtain ⟨L, hL⟩ : ∃ L, SO[j2] = L := ⟨_, rfl⟩;have hLi : SO[j2]? = some L := by rw [qEq hlt, hL]
   have hLm : L ∈ s.out := hSp.mem_iff.1 (qMq hLi);have hts : SO.take (j2 + 1) = SO.take j2 ++ [L] := by rw [List.take_add_one, hLi]; rfl
   obtain ⟨hLT, hLl⟩ := hblk.1 L hLm;rw [Int.toNat_natCast] at hLl;have hL2 : L.length <= 1000 := by omega
   have hSt := SptC_at (n := (i : Int)) (E := F) (l := L) hL2;refine Idx.by j2 rfl (by rw [qrq]; exact hlt) ?_;refine Look.by _ (qgq hLi) ?_;refine Call.by _ _ hSt ?_;rcases spt_cases (n := (i : Int)) (E := F) (l := L) hL2 with ⟨_, hT⟩ | ⟨_, h0, hn, hck⟩ | ⟨_, h6, hn⟩
   ·exact absurd hLT hT
   ·have hsr := spt_ser hLT h0;have hcd : ckF (i : Int) F L (sptF (i : Int) F L).1 = true := hck;obtain ⟨t, ht⟩ : ∃ t, (sptF (i : Int) F L).1 = t := ⟨_, rfl⟩;have htl : t.length + 1 = (withL L F).length := by
     rw [ht] at hcd;unfold ckF at hcd;simp only [Bool.and_eq_true, decide_eq_true_eq] at hcd;exact hcd.2.1
    have hwl : (withL L F).length <= 4000 := Nat.le_trans withL_len hFl;have hCk := CkC_at (n := (i : Int)) (E := F) (l := L) (t := t) ⟨hL2, by omega⟩;rw [ht] at hck hsr;rw [hck] at hCk;refine Seg.by (by kernel_rfl) ?_;refine Pick.F (by rw [h0]; rfl) ?_;rw [ht];refine LoopP.intro (α := Nat) (fun k => k <= t.length) (fun k => t.length - k) (fun k => [(3, .s (.b true)), (4, .ptr 0 0), (5, .sl 2 none none), (6, .s (.b good)), (7, .s (.i .i64 j2)), (8, .sl 3 none none), (10, .s (.i .i64 (serN (t.take k)))), (11, .s (.i .i64 k))])
     (fun k => [(0, some (H [.s (.i .i64 i), .sl 1 none none])), (1, some (.flat false 2 (edges F))), (2, some (.fnest true 1 (rowsI SO))), (3, some (.flat true 3 (nods t)))]) 4 0 (by omega) (by refine Weak.ba (sg 0 [_,_,_,_])) ?_
    rintro k hk;refine Pick.by (fun hc3 => ?_) (fun hc3 => ?_)
    ·have hlt3 : k < t.length := by have := of_decide_eq_true hc3; rw [nods_length] at this; omega
     obtain ⟨x, hx⟩ : ∃ x, t[k] = x := ⟨_, rfl⟩;have hxi : t[k]? = some x := by rw [qEq hlt3, hx]
     have hse : serN (t.take (k + 1)) = serN (t.take k) + if x.1 = 1 then 1 else 0 := by
      rw [List.take_add_one, hxi];unfold serN;rw [List.countP_append];simp [List.countP_cons]
     have hsk : serN (t.take k) <= 4000 := Nat.le_trans List.countP_le_length (by rw [List.length_take]; omega);refine Idx.by k rfl (by rw [nods_length]; exact hlt3) ?_;refine Look.by _ (nods_get hxi) ?_;refine Pick.by (fun h7 => ?_) (fun h7 => ?_)
     ·have h7 : x.1 = 1 := eq_of_beq h7;rw [if_pos h7] at hse;refine Pick.n ?_;refine Pick.n ?_;refine Next.by (k + 1) (by omega) (by omega) (by refine Weak.bw (sg 0 [_,_,_,_]) (by ((repeat' first|exact rfl|exact trivial|apply And.intro) <;> (repeat' first|exact rfl|exact trivial|apply And.intro)); all_goals ((first|exact sc_eq (by omega)))))
     ·have h7 : ¬ x.1 = 1 := ne_of_beq_false h7;rw [if_neg h7] at hse;refine Pick.n ?_;refine Next.by (k + 1) (by omega) (by omega) (by refine Weak.bw (sg 0 [_,_,_,_]) (by ((repeat' first|exact rfl|exact trivial|apply And.intro) <;> (repeat' first|exact rfl|exact trivial|apply And.intro)); all_goals ((first|exact sc_eq (by omega)))))
    have hkt : k = t.length := by have := of_decide_eq_false hc3; rw [nods_length] at this; omega
    subst hkt;rw [List.take_length];refine Idx.by j2 rfl (by rw [qrq]; exact hlt) ?_;refine Look.by _ (qgq hLi) ?_;refine Call.by _ _ hCk ?_;have hsr2 : (((serN t : Nat) : Int) != (((ints L).length : Int) - 2)) = false := by rw [qiq]; simp; omega
    have hil := qiq L;have hel := qeq (withL L F);have hW := WithC_at (k := 2) (pre := fun _ _ => True) (n := (i : Int)) (E := F) (l := L) ⟨hFl, hL2, trivial⟩;refine Idx.by j2 rfl (by rw [qrq]; exact hlt) ?_;refine Look.by _ (qgq hLi) ?_;refine Pick.n ?_;refine Pick.F hsr2 ?_;refine Idx.by j2 rfl (by rw [qrq]; exact hlt) ?_;refine Look.by _ (qgq hLi) ?_;refine Call.by _ _ hW ?_;refine Pick.n ?_;refine Seg.by (by kernel_rfl) ?_;refine Pick.F (by rw [qeq, nods_length]; simp; omega) ?_;refine Pick.n ?_;have hgo : good = true ↔ ∀ M ∈ SO.take (j2 + 1), narG (i : Int) F M = true := by
     rw [hgood, hts];refine ⟨fun h M hM => ?_, fun h M hM => h M (List.mem_append_left _ hM)⟩;rcases List.mem_append.1 hM with hM | hM
     ·exact h M hM
     ·have : M = L := by simpa using hM
      rw [this]; exact hn
    refine Next.by (j2 + 1, good) ⟨by dsimp only; omega, hgo⟩ (by dsimp only; omega) (by refine Weak.bw (sg 0 [_,_,_]) (by ((repeat' first|exact rfl|exact trivial|apply And.intro) <;> (repeat' first|exact rfl|exact trivial|apply And.intro)); all_goals ((first|exact sc_eq (by omega)))))
   ·have hh : (sptF (i : Int) F L).2 = 6 := by rw [h6]
    refine Seg.by (by kernel_rfl) ?_;refine Pick.T (by rw [hh]; rfl) ?_;refine Pick.F (by rw [hh]; rfl) ?_;refine Pick.F (by rw [h6]; rfl) ?_;refine Pick.n ?_;have hgo : false = true ↔ ∀ M ∈ SO.take (j2 + 1), narG (i : Int) F M = true := by
     refine ⟨fun h => by simp at h, fun h => ?_⟩;have := h L (by rw [hts]; simp);rw [this] at hn;exact absurd hn (by simp)
    refine Next.by (j2 + 1, false) ⟨by dsimp only; omega, hgo⟩ (by dsimp only; omega) (by refine Weak.bw (sg 0 [_,_,_]) (by ((repeat' first|exact rfl|exact trivial|apply And.intro) <;> (repeat' first|exact rfl|exact trivial|apply And.intro)); all_goals ((first|exact sc_eq (by omega)))))
  have hje : j2 = SO.length := by have := of_decide_eq_false hc2; rw [qrq] at this; omega
  subst hje;rw [List.take_length] at hgood;refine Call.by _ _ (NarrowC_at (i : Int) F) ?_;refine ⟨rfl, ?_⟩;show Sc.b (good == narrowB (i : Int) F) = Sc.b true
  have hgn : good = narrowB (i : Int) F := by
   rw [Bool.eq_iff_iff, hgood, hblk.2];exact ⟨fun h L hL => h L (hSp.mem_iff.2 hL), fun h L hL => h L (hSp.mem_iff.1 hL)⟩
  rw [hgn];exact congrArg Sc.b (beq_self_eq_true _)
def i64 (x : Int) : Prop := -9223372036854775808 <= x /\ x <= 9223372036854775807
theorem VTy.struct {T : Tab} {t : Nat} {ti : TI} {fs : List (Nat × Nat)} {v : V} (ht : lk T t = some ti) (hk : ti.kind = .struct fs) (h : VTy T t v) : ∃ cs, v = .agg cs /\ All2 (fun (f : Nat × Nat) c => CTy T f.2 c) fs cs := by
 unfold VTy at h
 rw [ht] at h
 simp only at h
 rw [hk] at h
 exact h
theorem VTy.cell {T : Tab} {t : Nat} {ti : TI} {v : V} (ht : lk T t = some ti) (hk : ∀ fs, ti.kind ≠ .struct fs /\ ∀ n e, ti.kind ≠ .array n e) (h : VTy T t v) : ∃ c, v = .one c /\ CTy T t c := by
 unfold VTy at h
 rw [ht] at h
 simp only at h
 cases hq : ti.kind with
 | struct fs => exact absurd hq (hk fs).1
 | array n e => exact absurd hq ((hk []).2 n e)
 | _ => rw [hq] at h; exact h
theorem VTy.array {T : Tab} {t : Nat} {ti : TI} {n e : Nat} {v : V} (ht : lk T t = some ti) (hk : ti.kind = .array n e) (h : VTy T t v) : ∃ cs, v = .agg cs /\ cs.length = n /\ ∀ c ∈ cs, CTy T e c := by
 unfold VTy at h
 rw [ht] at h
 simp only at h
 rw [hk] at h
 exact h
theorem ScTy.int {T : Tab} {t : Nat} {ti : TI} {k : IntKind} {x : Sc} (ht : lk T t = some ti) (hk : ti.kind = .int k) (h : ScTy T t x) : ∃ n, x = .i k n /\ (Lit.int k n).wf = true := by
 unfold ScTy at h
 rw [ht] at h
 simp only at h
 rw [hk] at h
 cases x with
 | i k' n => obtain ⟨rfl, h⟩ := h; exact ⟨n, rfl, h⟩
 | b _ => exact h.elim
theorem CTy.sc {T : Tab} {t : Nat} {c : C} (hs : sliceE T t = none) (h : CTy T t c) : ∃ x, c = .s x /\ ScTy T t x := by
 unfold CTy at h
 rw [hs] at h
 exact h
theorem CTy.flat {T : Tab} {t e : Nat} {c : C} (hs : sliceE T t = some e) (hs2 : sliceE T e = none) (h : CTy T t c) : ∃ rows, c = .flat false (sizeT T e) rows /\ FlatTy T e rows := by
 unfold CTy at h
 rw [hs] at h
 simp only at h
 rw [hs2] at h
 exact h
theorem CTy.nest {T : Tab} {t e e2 : Nat} {c : C} (hs : sliceE T t = some e) (hs2 : sliceE T e = some e2) (h : CTy T t c) : ∃ rows, c = .nest false (sizeT T e2) rows /\ rows.length <= maxLen /\ ∀ fl ∈ rows, FlatTy T e2 fl := by
 unfold CTy at h
 rw [hs] at h
 simp only at h
 rw [hs2] at h
 exact h
theorem i64_wf {n : Int} (h : (Lit.int .i64 n).wf = true) : i64 n := by
 simp [Lit.wf, IntKind.min, IntKind.max, IntKind.signed, IntKind.bits] at h
 exact h
theorem list_ex {α β : Type} {P : α -> β -> Prop} : ∀ {l : List α}, (∀ x ∈ l, ∃ y, P x y) -> ∃ m : List β, All2 P l m := by
 intro l
 induction l with
 | nil => intro _; exact ⟨[], All2.nil⟩
 | cons x l ih =>
  intro h;obtain ⟨y, hy⟩ := h x (by simp);obtain ⟨m, hm⟩ := ih fun x hx => h x (by simp [hx])
  exact ⟨y :: m, All2.cons' hy hm⟩
theorem All2.map_eq {α β : Type} {f : β -> α} {l : List α} {m : List β} (h : All2 (fun x y => x = f y) l m) : l = m.map f := by
 apply List.ext_getElem?
 intro i
 rw [List.getElem?_map]
 by_cases hi : i < l.length
 ·have him : i < m.length := by rw [<- h.1]; exact hi
  rw [qEq hi, qEq him, Option.map_some, h.2 i _ _ (qEq hi) (qEq him)]
 ·rw [List.getElem?_eq_none (by omega), List.getElem?_eq_none (by rw [<- h.1]; omega)]; rfl
theorem All2.mem {α β : Type} {R : α -> β -> Prop} {l : List α} {m : List β} (h : All2 R l m) {y : β} (hy : y ∈ m) : ∃ x ∈ l, R x y := by
 obtain ⟨i, hi⟩ := List.mem_iff_getElem?.1 hy
 have hl := (qSq.1 hi).1
 rw [<- h.1] at hl
 exact ⟨_, List.getElem_mem hl, h.2 i _ y (qEq hl) hi⟩
theorem row_int {row : Row} (h : RowTy T 3 row) : ∃ n, row = [.i .i64 n] /\ i64 n := by
 obtain ⟨x, rfl, hx⟩ := h
 obtain ⟨n, rfl, hw⟩ := ScTy.int (t := 3) rfl rfl hx
 exact ⟨n, rfl, i64_wf hw⟩
theorem ints_of {fl : Flat} (h : FlatTy T 3 fl) : ∃ l : List Int, fl = ints l /\ l.length <= maxLen /\ ∀ x ∈ l, i64 x := by
 obtain ⟨m, hm⟩ := list_ex (P := fun row n => row = [Sc.i .i64 n] /\ i64 n) fun row hr => row_int (h.2 row hr)
 refine ⟨m, All2.map_eq (f := fun n => [Sc.i .i64 n]) (hm.imp fun _ _ _ k => k.1), by rw [<- hm.1]; exact h.1, fun x hx => ?_⟩
 obtain ⟨_, _, k⟩ := hm.mem hx
 exact k.2
theorem All2.two {α β : Type} {R : α -> β -> Prop} {a b : α} {m : List β} (h : All2 R [a, b] m) : ∃ x y, m = [x, y] /\ R a x /\ R b y := by
 obtain ⟨h1, h2⟩ := h
 match m, h1, h2 with
 | [x, y], _, h2 => exact ⟨x, y, rfl, h2 0 a x rfl rfl, h2 1 b y rfl rfl⟩
theorem All2.one {α β : Type} {R : α -> β -> Prop} {a : α} {m : List β} (h : All2 R [a] m) : ∃ x, m = [x] /\ R a x := by
 obtain ⟨h1, h2⟩ := h
 match m, h1, h2 with
 | [x], _, h2 => exact ⟨x, rfl, h2 0 a x rfl rfl⟩
theorem All2.three {α β : Type} {R : α -> β -> Prop} {a b c : α} {m : List β} (h : All2 R [a, b, c] m) : ∃ x y z, m = [x, y, z] /\ R a x /\ R b y /\ R c z := by
 obtain ⟨h1, h2⟩ := h
 match m, h1, h2 with
 | [x, y, z], _, h2 => exact ⟨x, y, z, rfl, h2 0 a x rfl rfl, h2 1 b y rfl rfl, h2 2 c z rfl rfl⟩
theorem row_edge {row : Row} (h : RowTy T 37 row) : ∃ p : Ed, row = [.i .i64 p.1, .i .i64 p.2] /\ i64 p.1 /\ i64 p.2 := by
 obtain ⟨_, h⟩ := h
 obtain ⟨x, y, rfl, hx, hy⟩ := All2.two h
 obtain ⟨n, rfl, hn⟩ := ScTy.int (t := 3) rfl rfl hx
 obtain ⟨m, rfl, hm⟩ := ScTy.int (t := 3) rfl rfl hy
 exact ⟨(n, m), rfl, i64_wf hn, i64_wf hm⟩
theorem edges_of {fl : Flat} (h : FlatTy T 37 fl) : ∃ E : List Ed, fl = edges E /\ E.length <= maxLen /\ ∀ p ∈ E, i64 p.1 /\ i64 p.2 := by
 obtain ⟨m, hm⟩ := list_ex (P := fun row (p : Ed) => row = [Sc.i .i64 p.1, Sc.i .i64 p.2] /\ i64 p.1 /\ i64 p.2) fun row hr => row_edge (h.2 row hr)
 refine ⟨m, All2.map_eq (f := fun p : Ed => [Sc.i .i64 p.1, Sc.i .i64 p.2]) (hm.imp fun _ _ _ k => k.1), by rw [<- hm.1]; exact h.1, fun x hx => ?_⟩
 obtain ⟨_, _, k⟩ := hm.mem hx
 exact k.2
theorem net_of {v : V} (h : VTy T 24 v) : ∃ n E, v = grV n E /\ i64 n /\ ∀ p ∈ E, i64 p.1 /\ i64 p.2 := by
 obtain ⟨cs, rfl, hcs⟩ := VTy.struct (t := 24) rfl rfl h
 obtain ⟨x, y, rfl, hx, hy⟩ := All2.two hcs
 obtain ⟨z, rfl, hz⟩ := CTy.sc (t := 3) rfl hx
 obtain ⟨n, rfl, hw⟩ := ScTy.int (t := 3) rfl rfl hz
 obtain ⟨rows, rfl, hr⟩ := CTy.flat (t := 22) (e := 37) rfl rfl hy
 obtain ⟨E, rfl, _, hE⟩ := edges_of hr
 exact ⟨n, E, rfl, i64_wf hw, hE⟩
theorem own : ownKnob Tryz.prog.godebug = none := by kernel_rfl
theorem laidOut : laidOutB Tryz.prog = true := by kernel_rfl
set_option maxRecDepth 100000 in
theorem law_row {s : ChangeSpec} {f : FuncId} {fn : Func} {conds : List PathCond} {apart fresh handsOn : Bool} {ts : List TypeId} {F : List V -> Option (V × List V)} (hf : Tryz.prog.funcs[f]? = some fn) (hin : Tryz.prog.inits.idxOf? f = none) (hv : s.vars = [])
  (hts : fn.params.toList = ts) (ha : ts.all (argB T) = true) (hr : ts.all (fun t => Tryz.prog.readableRec t && Nat.blt t Tryz.prog.types.size) = true) (hres : fn.resultTypes = #[4])
  (hsp : ∀ (H : Type) (ds : List (DataW H)), ds.length = ts.length -> (s.fn H ds).results = [.lit (.bool true)] /\ (s.fn H ds).args = ds /\ (s.fn H ds).vars = [])
  (hS : SoundP Tryz.prog f F) (hF : LawV T ts F) (os : Os) (started : os.Started) (H : Type) (enc : TypeId × Value -> H) (a : Assume)
  (hw : ∃ (w : World) (tape : Tape) (i : Input), w.os = os /\ (w.forCall tape i).Shaped Tryz.checked.prog /\ i.vars = [] /\ Input.okWide Tryz.checked.prog (w.forCall tape i) .any w.heap.size f i /\
   s.pre6 enc Tryz.checked.prog fn conds apart (w.forCall tape i).memory i.args /\ a.holds Tryz.checked.prog (lone (Frame.enter Tryz.checked.prog f i.args .normal) [] (w.forCall tape i))) :
  ReturnsInHanded a Tryz.checked os f .any (s.pre6 enc Tryz.checked.prog fn conds apart) (s.post enc Tryz.checked.prog fn apart fresh handsOn false) := by
 refine returnsInHanded_of_change (C := Tryz.checked) own started hin hf hw ?_
 intro W base args ds gs before hval hW _ _
 refine law_contract (P := Tryz.prog) (conds := conds) hT laidOut hv hts ha (fun t ht => ?_) hres Tryz.underlying4 (hsp H) hS hF hval hW
 have := List.all_eq_true.1 hr t ht
 simp only [Bool.and_eq_true] at this
 exact ⟨this.1, Nat.le_of_ble_eq_true this.2⟩
theorem ScTy.bool {T : Tab} {t : Nat} {ti : TI} {x : Sc} (ht : lk T t = some ti) (hk : ti.kind = .bool) (h : ScTy T t x) : ∃ b, x = .b b := by
 unfold ScTy at h
 rw [ht] at h
 simp only at h
 rw [hk] at h
 cases x with
 | i k' n => exact h.elim
 | b b => exact ⟨b, rfl⟩
theorem All2.four {α β : Type} {R : α -> β -> Prop} {a b c d : α} {m : List β} (h : All2 R [a, b, c, d] m) : ∃ x y z t, m = [x, y, z, t] /\ R a x /\ R b y /\ R c z /\ R d t := by
 obtain ⟨h1, h2⟩ := h
 match m, h1, h2 with
 | [x, y, z, t], _, h2 => exact ⟨x, y, z, t, rfl, h2 0 a x rfl rfl, h2 1 b y rfl rfl, h2 2 c z rfl rfl, h2 3 d t rfl rfl⟩
end Go.Sh
