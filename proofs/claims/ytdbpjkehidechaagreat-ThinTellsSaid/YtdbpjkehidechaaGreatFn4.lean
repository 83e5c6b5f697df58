/- What the functions answer that the statement reaches. No condition. -/
import Derived.Test.YtdbpjkehidechaaGreatFn3
import Derived.Test.YtdbpjkehidechaaGreatRows
set_option linter.unusedVariables false
set_option linter.unusedSimpArgs false
set_option linter.unusedSectionVars false
namespace Go.Sh
open Go.Proofs
noncomputable def XTK : Cx := { Γ := [(12, Shown14C), (8, OfC), (13, K4C), (31, RightC), (32, NearC), (34, TurnedC), (35, AheadC), (36, SubC), (11, Same9C), (16, RestC), (17, RestKC), (15, SameGC)], T := T, nt := 40, inl := [(14, inlF Tryz.f14), (10, inlF Tryz.f10), (33, inlF Tryz.f33)], jc := [121073] }
theorem XTK_s : Sound Tryz.prog T XTK.Γ := sound_cons Shown14_ok (sound_cons Of_ok (sound_cons K4_ok (sound_cons Right3_ok (sound_cons Near3_ok (sound_cons Turned_ok (sound_cons Ahead_ok (sound_cons Sub9_ok (sound_cons Same9_ok (sound_cons Rest_ok (sound_cons RestK_ok (sound_cons SameG_ok sound_nil)))))))))))
theorem XTK_ok : CrOk Tryz.prog (callAt 3 XTK) := callAt_ok hmix hT XTK_s (inl_cons Tryz.func14 (by rfl) (by rfl) (by rfl) (inl_cons Tryz.func10 (by rfl) (by rfl) (by rfl) (inl_cons Tryz.func33 (by rfl) (by rfl) (by rfl) inl_nil))) cr_none 3
noncomputable def XTS : Cx := { Γ := [(12, Shown14C), (8, OfC), (13, K4C), (31, RightC), (32, NearC), (34, TurnedC), (35, AheadC), (36, SubC), (11, Same9C), (16, RestC), (17, RestSC), (15, SameGC)], T := T, nt := 40, inl := [(14, inlF Tryz.f14), (10, inlF Tryz.f10), (33, inlF Tryz.f33)], jc := [121073] }
theorem XTS_s : Sound Tryz.prog T XTS.Γ := sound_cons Shown14_ok (sound_cons Of_ok (sound_cons K4_ok (sound_cons Right3_ok (sound_cons Near3_ok (sound_cons Turned_ok (sound_cons Ahead_ok (sound_cons Sub9_ok (sound_cons Same9_ok (sound_cons Rest_ok (sound_cons RestS_ok (sound_cons SameG_ok sound_nil)))))))))))
theorem XTS_ok : CrOk Tryz.prog (callAt 3 XTS) := callAt_ok hmix hT XTS_s (inl_cons Tryz.func14 (by rfl) (by rfl) (by rfl) (inl_cons Tryz.func10 (by rfl) (by rfl) (by rfl) (inl_cons Tryz.func33 (by rfl) (by rfl) (by rfl) inl_nil))) cr_none 3
set_option maxRecDepth 20000 in
set_option maxHeartbeats 4000000 in
theorem TTk_ok : SoundP Tryz.prog 4 (conF (fun a : Int × List Ed => Keep (anyN a.1 9) (anyE a.1 a.2 9)) (fun a => [grV a.1 a.2]) (fun _ => .one (.s (.b true)))) := by
 refine con_pure (X := XTK) (cr := callAt 3 XTK) XTK_ok hmix hT XTK_s Tryz.func4 (by rfl) (by rfl) (by rfl) 2 ?_
 rintro ⟨n, E⟩ hk
 dsimp only at hk ⊢
 refine two_le ?_
 refine Call.by _ _ Shown14C_at ?_
 refine Call.by _ _ (OfC_at n E (most := 9) (by omega)) ?_
 have hR0 := any_right (n := n) (l := E) (most := 9) (by omega) (by omega)
 have hm9 := (anyN_range (n := n) (most := 9) (by omega)).2
 obtain ⟨m, hm⟩ : ∃ m, anyN n 9 = m := ⟨_, rfl⟩
 obtain ⟨F, hF⟩ : ∃ F, anyE n E 9 = F := ⟨_, rfl⟩
 rw [hm] at hm9
 rw [hm, hF] at hR0 hk ⊢
 have hR := hR0
 have hm20 : m <= 20 := by omega
 have hkF : ((restF m F).1, (restF m F).2) = (m, F) := by rw [restF_yes hk.1 hk.2.1, hk.2.2]
 have hr := K4C_at (n := m) (E := F) (Nat.le_trans hR.2.2.1 (by omega))
 rw [show k4O m F = readF m F by show readF (restF m F).1 (restF m F).2 = _; rw [restF_yes hk.1 hk.2.1, hk.2.2]] at hr
 have hFl := hR.2.2.1
 have hm1 := hR.2.1
 obtain ⟨⟨⟨k9, T9, L9⟩, b9⟩, h9⟩ : ∃ x, readF m F = x := ⟨_, rfl⟩
 rw [h9] at hr
 dsimp only at hr
 refine Call.by _ _ hr ?_
 refine Call.by _ _ (RestKC_at hk) ?_
 refine Call.by _ _ (RightC_at m F) ?_
 refine Pick.F (by rw [decide_eq_true hR]; rfl) ?_
 have hN : ∀ v : Nat, (ints (nearF m F v)).length = (nearL F v).length := fun v => by
  rw [qiq, show nearF m F v = sortI (nearL F v) from if_pos hR, sortI_length]
 have hNl : ∀ v : Nat, (nearL F v).length <= 8000 := fun v => by have := nearL_length F v; omega
 have hm0 := hR.1
 have hkl : ∀ v, (topsK F v).length <= v := fun v => by
  unfold topsK;rw [List.length_map];have := List.length_filter_le (fun v => (nearL F (v : Nat)).length == 3) (List.range v);simpa using this
 refine LoopP.intro (α := Nat) (fun v => v <= m.toNat) (fun v => m.toNat - v) (fun v => [(1, .ptr 2 0), (2, .ptr 4 0), (4, .ptr 5 0), (5, .s (.i .i64 v)), (1000002, .ptr 0 0), (2000003, .s (.b true)), (2000004, .ptr 1 0), (2000005, .ptr 7 0), (2000006, .s (.b b9))])
  (fun v => [(0, some (.blk [.s (.i .i64 0), .nils, .nils])), (1, some (.blk [.s (.i .i64 m), .sl 3 none none])), (2, some (.blk [.s (.i .i64 m), .sl 3 none none])), (3, some (.flat true 2 (edges F))), (4, some (.blk [.s (.i .i64 0), .nils, .nils])), (5, some (.blk [.s (.i .i64 0), .sl 6 none none, .nils])), (6, some (.flat true 1 (ints (topsK F v)))), (7, some (.blk [.s (.i .i64 k9), .sl 8 none none, .sl 9 none none])), (8, some (.flat true 1 (ints T9))), (9, some (.nest true 1 (rowsI L9) [] []))]) 10 0 (by omega) (by refine Weak.ba [(0, some _), (1, some _), (2, some _), (3, some _), (4, some _), (5, some _), (6, none), (7, some _), (8, some _), (9, some _)]) ?_
 rintro v hv
 refine Pick.by (fun hc => ?_) (fun hc => ?_)
 ·have hlt : (v : Int) < m := by have := of_decide_eq_true hc; omega
  have hkv := hkl v;refine Call.by _ _ (NearC_at m F v) ?_;refine Pick.by (fun h3 => ?_) (fun h3 => ?_)
  ·have h3 : (nearL F v).length = 3 := by have := hN v; simp at h3; omega
   refine Pick.T (by rw [decide_eq_true_iff, qiq]; show _ + 1 <= _; omega) ?_;refine Pick.n ?_;refine Next.by (v + 1) (by omega) (by omega) (by refine Weak.bw (sg 0 [_,_,_,_,_,_,_,_,_,_]) (by ((repeat' first|exact rfl|exact trivial|apply And.intro) <;> (repeat' first|exact rfl|exact trivial|apply And.intro)); all_goals ((first|exact sc_eq (by omega) | (rw [topsK_succ, if_pos h3]; simp [ints, cut]; done)))))
  ·have h3 : ¬ (nearL F v).length = 3 := by have := hN v; simp at h3; omega
   refine Pick.n ?_;refine Next.by (v + 1) (by omega) (by omega) (by refine Weak.bw (sg 0 [_,_,_,_,_,_,_,_,_,_]) (by ((repeat' first|exact rfl|exact trivial|apply And.intro) <;> (repeat' first|exact rfl|exact trivial|apply And.intro)); all_goals ((first|exact sc_eq (by omega) | (rw [topsK_succ, if_neg h3, List.append_nil]; done)))))
 have hvm : v = m.toNat := by have := of_decide_eq_false hc; omega
 subst hvm
 obtain ⟨Ts, hTs⟩ : ∃ Ts, topsK F m.toNat = Ts := ⟨_, rfl⟩
 have hkt := hkl m.toNat
 rw [hTs] at hkt ⊢
 refine LoopP.intro (α := Nat) (fun i => i <= F.length) (fun i => F.length - i) (fun i => [(1, .ptr 2 0), (3, .sl 4 none none), (4, .s (.i .i64 i)), (1000001, .ptr 5 0), (1000002, .ptr 6 0), (1000004, .ptr 7 0), (2000002, .ptr 0 0), (3000003, .s (.b true)), (3000004, .ptr 1 0), (3000005, .ptr 9 0), (3000006, .s (.b b9))])
  (fun i => [(0, some (.blk [.s (.i .i64 0), .nils, .nils])), (1, some (.blk [.s (.i .i64 m), .sl 3 none none])), (2, some (.blk [.s (.i .i64 m), .sl 3 none none])), (3, some (.flat true 2 (edges F))), (4, some (.nest true 1 (rowsI ((F.take i).map fun e => [e.1, e.2])) [] [])), (5, some (.blk [.s (.i .i64 m), .sl 3 none none])), (6, some (.blk [.s (.i .i64 0), .nils, .nils])), (7, some (.blk [.s (.i .i64 0), .sl 8 none none, .nils])), (8, some (.flat true 1 (ints Ts))), (9, some (.blk [.s (.i .i64 k9), .sl 10 none none, .sl 11 none none])), (10, some (.flat true 1 (ints T9))), (11, some (.nest true 1 (rowsI L9) [] []))]) 12 0 (by omega) (by refine Weak.ba [(0, some _), (1, some _), (2, some _), (3, some _), (4, none), (5, some _), (6, some _), (7, some _), (8, some _), (9, some _), (10, some _), (11, some _)]) ?_
 rintro i hi
 refine Pick.by (fun hc => ?_) (fun hc => ?_)
 ·have hlt : i < F.length := by have := of_decide_eq_true hc; rw [qeq] at this; omega
  have hg := edges_get (qEq hlt);have he1 : rowsI ((F.take (i + 1)).map fun e => [e.1, e.2]) = rowsI ((F.take i).map fun e => [e.1, e.2]) ++ [ints [F[i].1, F[i].2]] := by
   rw [List.take_add_one, qEq hlt]; unfold rowsI; rw [List.map_append, List.map_append]; rfl
  refine Idx.by i rfl (by rw [qeq]; exact hlt) ?_;refine Look.by _ hg ?_;refine Idx.by i rfl (by rw [qeq]; exact hlt) ?_;refine Look.by _ hg ?_;refine Pick.T (by rw [decide_eq_true_iff, qrq, List.length_map, List.length_take]; show _ + 1 <= _; omega) ?_;refine Seg.by (by kernel_rfl) ?_;refine Pick.n ?_;refine Next.by (i + 1) (by omega) (by omega) (by refine Weak.bw (sg 0 [_,_,_,_,_,_,_,_,_,_,_,_]) (by ((repeat' first|exact rfl|exact trivial|apply And.intro) <;> (repeat' first|exact rfl|exact trivial|apply And.intro)); all_goals ((first|exact sc_eq (by omega) | exact he1))))
 have hin : i = F.length := by have := of_decide_eq_false hc; rw [qeq] at this; omega
 subst hin
 rw [List.take_length]
 refine LoopP.intro (α := Nat × List (List Int)) (fun a => a.1 <= m.toNat /\ jnF F a.1 = some a.2) (fun a => m.toNat - a.1) (fun a => [(1, .ptr 2 0), (3, .sl 4 none none), (5, .s (.i .i64 a.1)), (1000001, .ptr 5 0), (1000002, .ptr 6 0), (1000004, .ptr 7 0), (2000002, .ptr 0 0), (3000003, .s (.b true)), (3000004, .ptr 1 0), (3000005, .ptr 9 0), (3000006, .s (.b b9))])
  (fun a => [(0, some (.blk [.s (.i .i64 0), .nils, .nils])), (1, some (.blk [.s (.i .i64 m), .sl 3 none none])), (2, some (.blk [.s (.i .i64 m), .sl 3 none none])), (3, some (.flat true 2 (edges F))), (4, some (.fnest true 1 (rowsI a.2))), (5, some (.blk [.s (.i .i64 m), .sl 3 none none])), (6, some (.blk [.s (.i .i64 0), .nils, .nils])), (7, some (.blk [.s (.i .i64 0), .sl 8 none none, .nils])), (8, some (.flat true 1 (ints Ts))), (9, some (.blk [.s (.i .i64 k9), .sl 10 none none, .sl 11 none none])), (10, some (.flat true 1 (ints T9))), (11, some (.nest true 1 (rowsI L9) [] []))]) 12 (0, F.map fun e => [e.1, e.2]) ⟨Nat.zero_le _, rfl⟩ (by refine Weak.bf [4] (sg 0 [_,_,_,_,_,_,_,_,_,_,_,_]) (by ((repeat' first|exact rfl|exact trivial|apply And.intro) <;> (repeat' first|exact rfl|exact trivial|apply And.intro))) (by rfl)) ?_
 rintro ⟨v, L⟩ ⟨hv, hL⟩
 dsimp only at hv hL ⊢
 have hI := jnF_inv hR hL
 obtain ⟨hLl, hLf, hLp⟩ := hI.len
 have hnil : ∀ p ∈ L, p ≠ [] := fun p hp e => by have := hI.two p hp; rw [e] at this; simp at this
 refine Pick.by (fun hc => ?_) (fun hc => ?_)
 ·have hlt : (v : Int) < m := by have := of_decide_eq_true hc; omega
  refine Call.by _ _ (NearC_at m F v) ?_;refine Pick.by (fun h3 => ?_) (fun h3 => ?_)
  ·have h3 : ¬ (nearL F v).length = 2 := by have := hN v; simp at h3; omega
   refine Pick.n ?_;refine Next.by (v + 1, L) ⟨by show v + 1 <= _; omega, by unfold jnF; rw [hL]; simp only; rw [if_neg h3]⟩ (by show m.toNat - (v + 1) < m.toNat - v; omega) (by refine Weak.ba (sg 0 [_,_,_,_,_,_,_,_,_,_,_,_]))
  have h3 : (nearL F v).length = 2 := by have := hN v; simp at h3; omega
  refine LoopP.intro (α := Nat) (fun i => i <= L.length /\ shutB v (L.take i) = false) (fun i => L.length - i) (fun i => [(1, .ptr 2 0), (3, .sl 4 none none), (5, .s (.i .i64 v)), (6, .sl 12 none none), (7, .sl 13 none none), (8, .s (.i .i64 i)), (1000001, .ptr 5 0), (1000002, .ptr 6 0), (1000004, .ptr 7 0), (2000002, .ptr 0 0), (3000003, .s (.b true)), (3000004, .ptr 1 0), (3000005, .ptr 9 0), (3000006, .s (.b b9))])
   (fun i => [(0, some (.blk [.s (.i .i64 0), .nils, .nils])), (1, some (.blk [.s (.i .i64 m), .sl 3 none none])), (2, some (.blk [.s (.i .i64 m), .sl 3 none none])), (3, some (.flat true 2 (edges F))), (4, some (.fnest true 1 (rowsI L))), (5, some (.blk [.s (.i .i64 m), .sl 3 none none])), (6, some (.blk [.s (.i .i64 0), .nils, .nils])), (7, some (.blk [.s (.i .i64 0), .sl 8 none none, .nils])), (8, some (.flat true 1 (ints Ts))), (9, some (.blk [.s (.i .i64 k9), .sl 10 none none, .sl 11 none none])), (10, some (.flat true 1 (ints T9))), (11, some (.nest true 1 (rowsI L9) [] [])), (12, some (.fnest true 1 (rowsI (offT v (L.take i))))), (13, some (.flat false 1 (ints (oneF v ((L.take i).filter (tipT v))))))]) 14 0 ⟨Nat.zero_le _, by simp [shutB]⟩ (by refine Weak.ba [(0, some _), (1, some _), (2, some _), (3, some _), (4, some _), (5, some _), (6, some _), (7, some _), (8, some _), (9, some _), (10, some _), (11, some _), (12, none), (13, none)]) ?_
  rintro i ⟨hi, hsh⟩;obtain ⟨rest, hrest⟩ : ∃ rest, offT v (L.take i) = rest := ⟨_, rfl⟩;obtain ⟨one, hone⟩ : ∃ one, oneF v ((L.take i).filter (tipT v)) = one := ⟨_, rfl⟩;rw [hrest, hone];refine Pick.by (fun hc2 => ?_) (fun hc2 => ?_)
  ·have hlt2 : i < L.length := by have := of_decide_eq_true hc2; rw [qrq] at this; omega
   obtain ⟨p, hp⟩ : ∃ p, L[i] = p := ⟨_, rfl⟩;have hLi : L[i]? = some p := by rw [qEq hlt2, hp]
   have hpm : p ∈ L := qMq hLi;have hp2 := hI.two p hpm;have hpl := hLp p hpm;have hpi := (qiq p);have g : ∀ {i : Nat}, i < p.length -> (ints p)[i]? = some [.i .i64 (p.getD i 0)] := fun h => qhq (by rw [qDq, qEq h]; rfl)
   have iI : inI64 (((ints p).length : Int) - 1) = true := inI64_of (by omega) (by omega);refine Idx.by i rfl (by rw [qrq]; exact hlt2) ?_;refine Look.by _ (qgq hLi) ?_;refine Idx.by 0 rfl (by omega) ?_;refine Look.by _ (g (by omega)) ?_;have hhd : p.headD 0 = p.getD 0 0 := headD_at (by omega);have hld : p.getLastD 0 = p.getD (p.length - 1) 0 := lastD_at;have hts : L.take (i + 1) = L.take i ++ [p] := by rw [List.take_add_one, hLi]; rfl
   have hrl : rest.length <= L.length := by
    rw [<- hrest]; unfold offT
    have := List.length_filter_le (fun p => !tipT (v : Nat) p) (L.take i);rw [List.length_take] at this; omega
   have hol : one.length <= 8000 := by
    rw [<- hone];have h1 := oneF_len (v : Int) ((L.take i).filter (tipT v));have h2 : ((L.take i).filter (tipT v)).flatten.length <= L.flatten.length := flat_sub (List.filter_sublist.trans (List.take_sublist _ _));omega
   have hoi := qiq one;have stay : tipT v p = false -> rowsI (offT v (L.take (i + 1))) = rowsI rest ++ [ints p] /\ oneF v ((L.take (i + 1)).filter (tipT v)) = one /\ shutB v (L.take (i + 1)) = false := fun ht => by
    refine ⟨?_, ?_, ?_⟩
    ·rw [hts]; unfold offT; rw [List.filter_append]
     have : List.filter (fun p => !tipT (v : Nat) p) [p] = [p] := by simp [ht]
     rw [this, show List.filter (fun p => !tipT (v : Nat) p) (L.take i) = rest from hrest];simp [rowsI]
    ·rw [hts, List.filter_append];have : List.filter (tipT (v : Nat)) [p] = [] := by simp [ht]
     rw [this, List.append_nil, hone]
    ·rw [hts]; unfold shutB at hsh ⊢; rw [List.any_append, hsh]; simp [ht]
   have goes : tipT v p = true -> p.getD 0 0 ≠ p.getD (p.length - 1) 0 -> offT v (L.take (i + 1)) = rest /\ oneF v ((L.take (i + 1)).filter (tipT v)) = add1 v one p /\ shutB v (L.take (i + 1)) = false := fun ht hne => by
    refine ⟨?_, ?_, ?_⟩
    ·rw [hts]; unfold offT; rw [List.filter_append]
     have : List.filter (fun p => !tipT (v : Nat) p) [p] = [] := by simp [ht]
     rw [this, List.append_nil]; exact hrest
    ·rw [hts, List.filter_append];have : List.filter (tipT (v : Nat)) [p] = [p] := by simp [ht]
     rw [this, <- hone]; simp [oneF]
    ·rw [hts]; unfold shutB at hsh ⊢; rw [List.any_append, hsh]
     have : (p.headD 0 == p.getLastD 0) = false := by rw [hhd, hld]; simpa using hne
     rw [List.any_cons, this, Bool.and_false]; rfl
   have shut : tipT v p = true -> p.getD 0 0 = p.getD (p.length - 1) 0 -> jnF F m.toNat = none := fun ht he => by
    have h1 : jnF F (v + 1) = none := by
     unfold jnF; rw [hL]; simp only
     rw [if_pos h3, if_pos];unfold shutB;rw [List.any_eq_true];exact ⟨p, hpm, by rw [ht, hhd, hld, he]; simp⟩
    have : ∀ k, jnF F (v + 1 + k) = none := by
     intro k
     induction k with
     | zero => exact h1
     | succ k ih => show jnF F (v + 1 + k + 1) = none; unfold jnF; rw [ih]
    have := this (m.toNat - (v + 1))
    rwa [show v + 1 + (m.toNat - (v + 1)) = m.toNat by omega] at this
   refine Pick.by (fun h1 => ?_) (fun h1 => ?_)
   ·have h1 : p.getD 0 0 ≠ (v : Int) := by simpa using h1
    refine Pick.T iI ?_;refine Idx.by (p.length - 1) (by omega) (by omega) ?_;refine Look.by _ (g (by omega)) ?_;refine Pick.by (fun h2 => ?_) (fun h2 => ?_)
    ·have h2 : p.getD (p.length - 1) 0 ≠ (v : Int) := by simpa using h2
     have ht : tipT v p = false := by
      rw [Bool.eq_false_iff]; intro h; rcases tipT_iff.1 h with h | h
      ·exact h1 (hhd ▸ h)
      ·exact h2 (hld ▸ h)
     obtain ⟨e1, e2, e3⟩ := stay ht;refine Pick.T (by rw [decide_eq_true_iff, qrq]; show _ + 1 <= _; omega) ?_;refine Pick.n ?_;refine Next.by (i + 1) ⟨by omega, e3⟩ (by omega) (by refine Weak.bw (sg 0 [_,_,_,_,_,_,_,_,_,_,_,_,_,_]) (by ((repeat' first|exact rfl|exact trivial|apply And.intro) <;> (repeat' first|exact rfl|exact trivial|apply And.intro)); all_goals ((first|exact sc_eq (by omega) | exact e1 | rw [e2]))))
    ·have h2 : p.getD (p.length - 1) 0 = (v : Int) := by simpa using h2
     have ht : tipT v p = true := tipT_iff.2 (.inr (hld.trans h2));refine Idx.by 0 rfl (by omega) ?_;refine Look.by _ (g (by omega)) ?_;refine Pick.T iI ?_;refine Idx.by (p.length - 1) (by omega) (by omega) ?_;refine Look.by _ (g (by omega)) ?_;refine Seg.by (by kernel_rfl) ?_;refine Pick.by (fun h4 => ?_) (fun h4 => ?_)
     ·have h4 : p.getD 0 0 = p.getD (p.length - 1) 0 := by simpa using h4
      have hno := shut ht h4;have hP : ¬ ReadP m F := fun h => by obtain ⟨L', q1, _⟩ := fin_yes h; rw [hno] at q1; cases q1
      rw [readF_no hP] at h9;cases h9;refine Pick.by (fun a1 => ?_) (fun a1 => ?_)
      ·refine Pick.by (fun a2 => ?_) (fun a2 => ?_)
       ·refine Call.by _ _ (Same9C_at (a := ((0, [], []) : Sb)) (b := ((0, [], []) : Sb)) ⟨⟨by simp, by simp [small]⟩, by simp, by simp [small]⟩) ?_;refine Call.by _ _ (RestC_at m F) ?_;refine Call.by _ _ (RestKC_at hk) ?_;refine Call.by _ _ (SameGC_at (n := (restF m F).1) (l := (restF m F).2) (n' := m) (m := F) (Nat.le_trans restF_len (by omega))) ?_;refine Seg.by (by kernel_rfl) ?_;exact ⟨rfl, congrArg Sc.b (decide_eq_true hkF)⟩
       ·refine Call.by _ _ (Same9C_at (a := ((0, [], []) : Sb)) (b := ((0, [], []) : Sb)) ⟨⟨by simp, by simp [small]⟩, by simp, by simp [small]⟩) ?_;refine Call.by _ _ (RestC_at m F) ?_;refine Call.by _ _ (RestKC_at hk) ?_;refine Call.by _ _ (SameGC_at (n := (restF m F).1) (l := (restF m F).2) (n' := m) (m := F) (Nat.le_trans restF_len (by omega))) ?_;refine Seg.by (by kernel_rfl) ?_;exact ⟨rfl, congrArg Sc.b (decide_eq_true hkF)⟩
      ·refine Pick.by (fun a2 => ?_) (fun a2 => ?_)
       ·refine Call.by _ _ (Same9C_at (a := ((0, [], []) : Sb)) (b := ((0, [], []) : Sb)) ⟨⟨by simp, by simp [small]⟩, by simp, by simp [small]⟩) ?_;refine Call.by _ _ (RestC_at m F) ?_;refine Call.by _ _ (RestKC_at hk) ?_;refine Call.by _ _ (SameGC_at (n := (restF m F).1) (l := (restF m F).2) (n' := m) (m := F) (Nat.le_trans restF_len (by omega))) ?_;refine Seg.by (by kernel_rfl) ?_;exact ⟨rfl, congrArg Sc.b (decide_eq_true hkF)⟩
       ·refine Call.by _ _ (Same9C_at (a := ((0, [], []) : Sb)) (b := ((0, [], []) : Sb)) ⟨⟨by simp, by simp [small]⟩, by simp, by simp [small]⟩) ?_;refine Call.by _ _ (RestC_at m F) ?_;refine Call.by _ _ (RestKC_at hk) ?_;refine Call.by _ _ (SameGC_at (n := (restF m F).1) (l := (restF m F).2) (n' := m) (m := F) (Nat.le_trans restF_len (by omega))) ?_;refine Seg.by (by kernel_rfl) ?_;exact ⟨rfl, congrArg Sc.b (decide_eq_true hkF)⟩
     have h4 : p.getD 0 0 ≠ p.getD (p.length - 1) 0 := by simpa using h4
     obtain ⟨e1, e2, e3⟩ := goes ht h4;refine Idx.by 0 rfl (by omega) ?_;refine Look.by _ (g (by omega)) ?_;refine Pick.F (by simpa using h1) ?_;refine Idx.by 0 rfl (by omega) ?_;refine Look.by _ (g (by omega)) ?_;refine Pick.T (by simpa using h1) ?_;refine Pick.by (fun h5 => ?_) (fun h5 => ?_)
     ·have h5 : one ≠ [] := by intro e; rw [hoi, e] at h5; simp at h5
      refine Call.by _ _ (TurnedC_at (l := p) (by omega)) ?_;refine Pick.F (by rw [hoi]; simpa using h5) ?_;have hpr : (ints p.reverse).length = p.length := by rw [qiq, List.length_reverse]
      refine Pick.T (by rw [decide_eq_true_iff]; show 0 + (ints one).length <= _; omega) ?_;refine ⟨1, (p.reverse).length, rfl, by first | rfl | (rw [qiq]; done) | exact congrArg _ (qiq _).symm, by first | omega | (rw [List.length_reverse]; omega), Nat.le_of_eq (qiq _).symm, ?_⟩;refine Pick.T (by rw [decide_eq_true_iff]; simp only [cut, subOf, List.length_append, List.length_take, List.length_drop, List.length_nil]; omega) ?_;refine Seg.by (by kernel_rfl) ?_;refine Pick.n ?_;have e4 : add1 v one p = one ++ p.reverse.tail := by unfold add1 turn1; rw [if_neg h5, if_pos (.inr ⟨by rw [hhd]; exact h1, h5⟩)]
      rw [e4] at e2;refine Next.by (i + 1) ⟨by omega, e3⟩ (by omega) (by refine Weak.bf [1086] (sg 0 [_,_,_,_,_,_,_,_,_,_,_,_,_,_]) (by ((repeat' first|exact rfl|exact trivial|apply And.intro) <;> (repeat' first|exact rfl|exact trivial|apply And.intro)); all_goals ((first|exact sc_eq (by omega) | rw [e1] | (rw [e2]; exact glue_ints _ _)))) (by rfl))
     ·have h5 : one = [] := by have := of_decide_eq_false h5; rw [<- List.length_eq_zero_iff]; omega
      refine Pick.T (by cases h5; rfl) ?_;refine Pick.n ?_;have e4 : add1 v one p = p := by unfold add1 turn1; rw [if_pos h5, if_neg (fun k => k.elim (fun a => h1 (hhd ▸ a.1)) (fun a => a.2 h5))]
      rw [e4] at e2;refine Next.by (i + 1) ⟨by omega, e3⟩ (by omega) (by refine Weak.bw (sg 0 [_,_,_,_,_,_,_,_,_,_,_,_,_,_]) (by ((repeat' first|exact rfl|exact trivial|apply And.intro) <;> (repeat' first|exact rfl|exact trivial|apply And.intro)); all_goals ((first|exact sc_eq (by omega) | rw [e1] | rw [e2]))))
   ·have h1 : p.getD 0 0 = (v : Int) := by simpa using h1
    have ht : tipT v p = true := tipT_iff.2 (.inl (hhd.trans h1));refine Idx.by 0 rfl (by omega) ?_;refine Look.by _ (g (by omega)) ?_;refine Pick.T iI ?_;refine Idx.by (p.length - 1) (by omega) (by omega) ?_;refine Look.by _ (g (by omega)) ?_;refine Seg.by (by kernel_rfl) ?_;refine Pick.by (fun h4 => ?_) (fun h4 => ?_)
    ·have h4 : p.getD 0 0 = p.getD (p.length - 1) 0 := by simpa using h4
     have hno := shut ht h4;have hP : ¬ ReadP m F := fun h => by obtain ⟨L', q1, _⟩ := fin_yes h; rw [hno] at q1; cases q1
     rw [readF_no hP] at h9;cases h9;refine Pick.by (fun a1 => ?_) (fun a1 => ?_)
     ·refine Pick.by (fun a2 => ?_) (fun a2 => ?_)
      ·refine Call.by _ _ (Same9C_at (a := ((0, [], []) : Sb)) (b := ((0, [], []) : Sb)) ⟨⟨by simp, by simp [small]⟩, by simp, by simp [small]⟩) ?_;refine Call.by _ _ (RestC_at m F) ?_;refine Call.by _ _ (RestKC_at hk) ?_;refine Call.by _ _ (SameGC_at (n := (restF m F).1) (l := (restF m F).2) (n' := m) (m := F) (Nat.le_trans restF_len (by omega))) ?_;refine Seg.by (by kernel_rfl) ?_;exact ⟨rfl, congrArg Sc.b (decide_eq_true hkF)⟩
      ·refine Call.by _ _ (Same9C_at (a := ((0, [], []) : Sb)) (b := ((0, [], []) : Sb)) ⟨⟨by simp, by simp [small]⟩, by simp, by simp [small]⟩) ?_;refine Call.by _ _ (RestC_at m F) ?_;refine Call.by _ _ (RestKC_at hk) ?_;refine Call.by _ _ (SameGC_at (n := (restF m F).1) (l := (restF m F).2) (n' := m) (m := F) (Nat.le_trans restF_len (by omega))) ?_;refine Seg.by (by kernel_rfl) ?_;exact ⟨rfl, congrArg Sc.b (decide_eq_true hkF)⟩
     ·refine Pick.by (fun a2 => ?_) (fun a2 => ?_)
      ·refine Call.by _ _ (Same9C_at (a := ((0, [], []) : Sb)) (b := ((0, [], []) : Sb)) ⟨⟨by simp, by simp [small]⟩, by simp, by simp [small]⟩) ?_;refine Call.by _ _ (RestC_at m F) ?_;refine Call.by _ _ (RestKC_at hk) ?_;refine Call.by _ _ (SameGC_at (n := (restF m F).1) (l := (restF m F).2) (n' := m) (m := F) (Nat.le_trans restF_len (by omega))) ?_;refine Seg.by (by kernel_rfl) ?_;exact ⟨rfl, congrArg Sc.b (decide_eq_true hkF)⟩
      ·refine Call.by _ _ (Same9C_at (a := ((0, [], []) : Sb)) (b := ((0, [], []) : Sb)) ⟨⟨by simp, by simp [small]⟩, by simp, by simp [small]⟩) ?_;refine Call.by _ _ (RestC_at m F) ?_;refine Call.by _ _ (RestKC_at hk) ?_;refine Call.by _ _ (SameGC_at (n := (restF m F).1) (l := (restF m F).2) (n' := m) (m := F) (Nat.le_trans restF_len (by omega))) ?_;refine Seg.by (by kernel_rfl) ?_;exact ⟨rfl, congrArg Sc.b (decide_eq_true hkF)⟩
    have h4 : p.getD 0 0 ≠ p.getD (p.length - 1) 0 := by simpa using h4
    obtain ⟨e1, e2, e3⟩ := goes ht h4;refine Idx.by 0 rfl (by omega) ?_;refine Look.by _ (g (by omega)) ?_;refine Pick.T (by rw [h1]; exact beq_self_eq_true _) ?_;refine Pick.by (fun h5 => ?_) (fun h5 => ?_)
    ·have h5 : one = [] := by have := eq_of_beq h5; rw [<- List.length_eq_zero_iff]; omega
     refine Call.by _ _ (TurnedC_at (l := p) (by omega)) ?_;refine Pick.T (by cases h5; rfl) ?_;refine Pick.n ?_;have e4 : add1 v one p = p.reverse := by unfold add1 turn1; rw [if_pos h5, if_pos (.inl ⟨hhd.trans h1, h5⟩)]
     rw [e4] at e2;refine Next.by (i + 1) ⟨by omega, e3⟩ (by omega) (by refine Weak.bf [926] (sg 0 [_,_,_,_,_,_,_,_,_,_,_,_,_,_]) (by ((repeat' first|exact rfl|exact trivial|apply And.intro) <;> (repeat' first|exact rfl|exact trivial|apply And.intro)); all_goals ((first|exact sc_eq (by omega) | rw [e1] | rw [e2]))) (by rfl))
    ·have h5 : one ≠ [] := by intro e; rw [hoi, e] at h5; exact absurd h5 (by decide)
     refine Idx.by 0 rfl (by omega) ?_;refine Look.by _ (g (by omega)) ?_;refine Pick.F (by rw [h1]; simp) ?_;refine Pick.F (by rw [hoi]; simpa using h5) ?_;refine Pick.T (by rw [decide_eq_true_iff]; show 0 + (ints one).length <= _; omega) ?_;refine ⟨1, (p).length, rfl, by first | rfl | (rw [qiq]; done) | exact congrArg _ (qiq _).symm, by first | omega | (rw [List.length_reverse]; omega), Nat.le_of_eq (qiq _).symm, ?_⟩;refine Pick.T (by rw [decide_eq_true_iff]; simp only [cut, subOf, List.length_append, List.length_take, List.length_drop, List.length_nil]; omega) ?_;refine Seg.by (by kernel_rfl) ?_;refine Pick.n ?_;have e4 : add1 v one p = one ++ p.tail := by unfold add1 turn1; rw [if_neg h5, if_neg (fun k => k.elim (fun a => h5 a.2) (fun a => a.1 (hhd.trans h1)))]
     rw [e4] at e2;refine Next.by (i + 1) ⟨by omega, e3⟩ (by omega) (by refine Weak.bf [1038] (sg 0 [_,_,_,_,_,_,_,_,_,_,_,_,_,_]) (by ((repeat' first|exact rfl|exact trivial|apply And.intro) <;> (repeat' first|exact rfl|exact trivial|apply And.intro)); all_goals ((first|exact sc_eq (by omega) | rw [e1] | (rw [e2]; exact glue_ints _ _)))) (by rfl))
  ·have hin2 : i = L.length := by have := of_decide_eq_false hc2; rw [qrq] at this; omega
   subst hin2;rw [List.take_length] at hsh hrest hone;have hrl : rest.length <= L.length := by rw [<- hrest]; exact List.length_filter_le _ _
   refine Pick.T (by rw [decide_eq_true_iff, qrq]; show _ + 1 <= _; omega) ?_;refine Pick.n ?_;refine Next.by (v + 1, rest ++ [one]) ⟨by show v + 1 <= _; omega, by unfold jnF; rw [hL]; simp only; rw [if_pos h3, hsh, hrest, hone]; rfl⟩ (by show m.toNat - (v + 1) < m.toNat - v; omega) (by refine Weak.bw (sg 0 [_,_,_,_,_,_,_,_,_,_,_,_]) (by ((repeat' first|exact rfl|exact trivial|apply And.intro) <;> (repeat' first|exact rfl|exact trivial|apply And.intro)); all_goals (exact rowsI_snoc _ _)))
 ·have hvm : v = m.toNat := by have := of_decide_eq_false hc; omega
  subst hvm;have hTl := qiq Ts;have hrl := qrq L;have none_ : (¬ (Ts.length = 4 /\ L.length = 6) /\ ¬ (Ts.length = 2 /\ L.length = 3)) -> ¬ ReadP m F := fun h hP => by
   have := fin_len hP hL;rw [hTs] at this;exact this.elim h.1 h.2
  refine Pick.by (fun a1 => ?_) (fun a1 => ?_)
  ·have a1 : Ts.length = 4 := by have := eq_of_beq a1; omega
   refine Pick.by (fun a2 => ?_) (fun a2 => ?_)
   ·have a2 : L.length = 6 := by have := eq_of_beq a2; omega
    refine LoopP.intro (α := Nat) (fun i => i <= L.length) (fun i => L.length - i) (fun i => [(1, .ptr 2 0), (2, .ptr 5 0), (4, .ptr 6 0), (6, .sl 4 none none), (7, .s (.i .i64 i)), (1000002, .ptr 0 0), (2000003, .s (.b true)), (2000004, .ptr 1 0), (2000005, .ptr 9 0), (2000006, .s (.b b9))])
     (fun i => [(0, some (.blk [.s (.i .i64 0), .nils, .nils])), (1, some (.blk [.s (.i .i64 m), .sl 3 none none])), (2, some (.blk [.s (.i .i64 m), .sl 3 none none])), (3, some (.flat true 2 (edges F))), (4, some (.fnest true 1 (rowsI L))), (5, some (.blk [.s (.i .i64 0), .nils, .nils])), (6, some (.blk [.s (.i .i64 1), .sl 7 none none, .sl 8 none none])), (7, some (.flat true 1 (ints Ts))), (8, some (.fnest true 1 (rowsI (srtT ((L.take i).map orient))))), (9, some (.blk [.s (.i .i64 k9), .sl 10 none none, .sl 11 none none])), (10, some (.flat true 1 (ints T9))), (11, some (.nest true 1 (rowsI L9) [] []))]) 12 0 (by omega) (by refine Weak.ba [(0, some _), (1, some _), (2, some _), (3, some _), (4, some _), (5, some _), (6, some _), (7, some _), (8, none), (9, some _), (10, some _), (11, some _)]) ?_
    rintro i hi;refine Pick.by (fun hc3 => ?_) (fun hc3 => ?_)
    ·have hlt3 : i < L.length := by have := of_decide_eq_true hc3; omega
     obtain ⟨p, hp⟩ : ∃ p, L[i] = p := ⟨_, rfl⟩;have hLi : L[i]? = some p := by rw [qEq hlt3, hp]
     have hpm : p ∈ L := qMq hLi;have hp2 := hI.two p hpm;have hpl := hLp p hpm;have hpi := (qiq p);have g : ∀ {i : Nat}, i < p.length -> (ints p)[i]? = some [.i .i64 (p.getD i 0)] := fun h => qhq (by rw [qDq, qEq h]; rfl)
     have iI : inI64 (((ints p).length : Int) - 1) = true := inI64_of (by omega) (by omega);have hhd : p.headD 0 = p.getD 0 0 := headD_at (by omega);have hld : p.getLastD 0 = p.getD (p.length - 1) 0 := lastD_at;obtain ⟨q, hq⟩ : ∃ q, orient p = q := ⟨_, rfl⟩;have hql : q.length = p.length := by rw [<- hq]; unfold orient; split <;> simp
     obtain ⟨P, hPe⟩ : ∃ P, srtT ((L.take i).map orient) = P := ⟨_, rfl⟩;have hPp := (srtT_all ((L.take i).map orient)).1;rw [hPe] at hPp;have hPl : P.length = i := by rw [hPp.length_eq, List.length_map, List.length_take]; omega
     have hPm : ∀ x ∈ P, 2 <= x.length /\ x.length <= 8000 := fun x hx => by
      obtain ⟨y, hy, rfl⟩ := List.mem_map.1 (hPp.mem_iff.1 hx);have hy := List.mem_of_mem_take hy;have := hI.two y hy;have := hLp y hy;unfold orient;split <;> (try rw [List.length_reverse]) <;> omega
     have hnx : srtT ((L.take (i + 1)).map orient) = insT q P := by
      rw [List.take_add_one, hLi, <- hq, <- hPe, <- srtT_snoc]; simp
     rw [hPe];refine Idx.by i rfl (by rw [qrq]; exact hlt3) ?_;refine Look.by _ (qgq hLi) ?_;refine Idx.by 0 rfl (by omega) ?_;refine Look.by _ (g (by omega)) ?_;refine Pick.T iI ?_;refine Idx.by (p.length - 1) (by omega) (by omega) ?_;refine Look.by _ (g (by omega)) ?_;refine Seg.by (by kernel_rfl) ?_;refine JoinP.intro (α := Unit) (fun _ => True) (fun _ => [(1, .ptr 2 0), (2, .ptr 5 0), (4, .ptr 6 0), (6, .sl 4 none none), (7, .s (.i .i64 i)), (8, .sl 12 none none), (1000002, .ptr 0 0), (2000003, .s (.b true)), (2000004, .ptr 1 0), (2000005, .ptr 9 0), (2000006, .s (.b b9))])
      (fun _ => [(0, some (.blk [.s (.i .i64 0), .nils, .nils])), (1, some (.blk [.s (.i .i64 m), .sl 3 none none])), (2, some (.blk [.s (.i .i64 m), .sl 3 none none])), (3, some (.flat true 2 (edges F))), (4, some (.fnest true 1 (rowsI L))), (5, some (.blk [.s (.i .i64 0), .nils, .nils])), (6, some (.blk [.s (.i .i64 1), .sl 7 none none, .sl 8 none none])), (7, some (.flat true 1 (ints Ts))), (8, some (.fnest true 1 (rowsI P))), (9, some (.blk [.s (.i .i64 k9), .sl 10 none none, .sl 11 none none])), (10, some (.flat true 1 (ints T9))), (11, some (.nest true 1 (rowsI L9) [] [])), (12, some (.flat false 1 (ints q)))]) 13 ?_ ?_
     ·refine Pick.by (fun h1 => ?_) (fun h1 => ?_)
      ·have h1 : p.getLastD 0 < p.headD 0 := by rw [hhd, hld]; have := of_decide_eq_true h1; omega
       have e1 : p.reverse = q := by rw [<- hq]; unfold orient; rw [if_pos h1]
       refine Call.by _ _ (TurnedC_at (l := p) (by omega)) ?_;refine ⟨(), trivial, ?_⟩;refine Weak.bf [332] (sg 0 [_,_,_,_,_,_,_,_,_,_,_,_,_]) (by ((repeat' first|exact rfl|exact trivial|apply And.intro) <;> (repeat' first|exact rfl|exact trivial|apply And.intro)); all_goals (rw [e1])) (by rfl)
      ·have h1 : ¬ p.getLastD 0 < p.headD 0 := by rw [hhd, hld]; have := of_decide_eq_false h1; omega
       have e1 : p = q := by rw [<- hq]; unfold orient; rw [if_neg h1]
       refine ⟨(), trivial, ?_⟩;refine Weak.bw (sg 0 [_,_,_,_,_,_,_,_,_,_,_,_,_]) (by ((repeat' first|exact rfl|exact trivial|apply And.intro) <;> (repeat' first|exact rfl|exact trivial|apply And.intro)); all_goals (rw [e1]))
     rintro _ -;refine Pick.T (by rw [decide_eq_true_iff, qrq]; show _ + 1 <= _; omega) ?_;refine LoopP.intro (α := Nat) (fun a => a <= P.length /\ spot q P a = spot q P P.length) (fun a => a) (fun a => [(1, .ptr 2 0), (2, .ptr 5 0), (4, .ptr 6 0), (6, .sl 4 none none), (7, .s (.i .i64 i)), (8, .sl 12 none none), (9, .s (.i .i64 a)), (1000002, .ptr 0 0), (2000003, .s (.b true)), (2000004, .ptr 1 0), (2000005, .ptr 9 0), (2000006, .s (.b b9))])
      (fun a => [(0, some (.blk [.s (.i .i64 0), .nils, .nils])), (1, some (.blk [.s (.i .i64 m), .sl 3 none none])), (2, some (.blk [.s (.i .i64 m), .sl 3 none none])), (3, some (.flat true 2 (edges F))), (4, some (.fnest true 1 (rowsI L))), (5, some (.blk [.s (.i .i64 0), .nils, .nils])), (6, some (.blk [.s (.i .i64 1), .sl 7 none none, .sl 8 none none])), (7, some (.flat true 1 (ints Ts))), (8, some (.fnest true 1 (rowsI (P.take a ++ q :: P.drop a)))), (9, some (.blk [.s (.i .i64 k9), .sl 10 none none, .sl 11 none none])), (10, some (.flat true 1 (ints T9))), (11, some (.nest true 1 (rowsI L9) [] [])), (12, some (.flat false 1 (ints q)))]) 13 P.length ⟨Nat.le_refl _, rfl⟩ (by refine Weak.bw (sg 0 [_,_,_,_,_,_,_,_,_,_,_,_,_]) (by ((repeat' first|exact rfl|exact trivial|apply And.intro) <;> (repeat' first|exact rfl|exact trivial|apply And.intro)); all_goals ((first|exact sc_eq (by rw [qrq]) | (rw [List.take_length, List.drop_length]; exact rowsI_snoc _ _))))) ?_
     rintro a ⟨ha, hsp⟩;have hll : (P.take a ++ q :: P.drop a).length = P.length + 1 := by simp; omega
     refine Pick.by (fun h5 => ?_) (fun h5 => ?_)
     ·have h5 : 0 < a := by have := of_decide_eq_true h5; omega
      obtain ⟨r, hr5⟩ : ∃ r, P[a - 1]'(by omega) = r := ⟨_, rfl⟩;have hrm := hPm r (by rw [<- hr5]; exact List.getElem_mem _);have hrow : (rowsI (P.take a ++ q :: P.drop a))[a - 1]? = some (ints r) := qgq (by
       rw [qLq (by rw [List.length_take]; omega), List.getElem?_take, if_pos (by omega), qEq (by omega), hr5])
      have iA : inI64 ((a : Int) - 1) = true := inI64_of (by omega) (by omega);refine Pick.T iA ?_;refine Idx.by (a - 1) (by omega) (by rw [qrq, hll]; omega) ?_;refine Look.by _ hrow ?_;refine Call.by _ _ (AheadC_at (p := q) (q := r) ⟨⟨by omega, by omega⟩, by omega, by omega⟩) ?_;have hsu : spot q P a = if ltT q r then spot q P (a - 1) else a := by
       obtain ⟨b, rfl⟩ : ∃ b, a = b + 1 := ⟨a - 1, by omega⟩;have : P.getD b [] = r := by rw [qDq, qEq (by omega), <- hr5]; rfl
       show (if ltT q (P.getD b []) then spot q P b else b + 1) = _
       rw [this]; rfl
      refine Pick.by (fun h6 => ?_) (fun h6 => ?_)
      ·have h6 : ltT q r := of_decide_eq_true h6;rw [if_pos h6] at hsu;refine Pick.T iA ?_;refine Idx.by (a - 1) (by omega) (by rw [qrq, hll]; omega) ?_;refine Look.by _ hrow ?_;refine Idx.by a rfl (by rw [qrq, hll]; omega) ?_;refine Pick.T (by rw [decide_eq_true_iff, qrq, hll]; omega) ?_;refine Seg.by (by kernel_rfl) ?_;refine Pick.T iA ?_;refine Idx.by (a - 1) (by omega) (by rw [List.length_set, qrq, hll]; omega) ?_;refine Pick.T (by rw [decide_eq_true_iff, List.length_set, qrq, hll]; omega) ?_;refine Pick.T iA ?_;refine Next.by (a - 1) ⟨by omega, by rw [<- hsu, hsp]⟩ (by omega) (by refine Weak.bw (sg 0 [_,_,_,_,_,_,_,_,_,_,_,_,_]) (by ((repeat' first|exact rfl|exact trivial|apply And.intro) <;> (repeat' first|exact rfl|exact trivial|apply And.intro)); all_goals ((first|exact sc_eq (by omega) | exact down_rows h5 ha hr5))))
      ·have h6 : ¬ ltT q r := of_decide_eq_false h6;rw [if_neg h6] at hsu;refine Pick.n ?_;refine Next.by (i + 1) (by omega) (by omega) (by refine Weak.bw (sg 0 [_,_,_,_,_,_,_,_,_,_,_,_]) (by ((repeat' first|exact rfl|exact trivial|apply And.intro) <;> (repeat' first|exact rfl|exact trivial|apply And.intro)); all_goals ((first|exact sc_eq (by omega) | (rw [hnx]; unfold insT; rw [<- hsp, hsu]; done)))))
     ·have h5 : a = 0 := by have := of_decide_eq_false h5; omega
      subst h5;refine Pick.n ?_;refine Next.by (i + 1) (by omega) (by omega) (by refine Weak.bw (sg 0 [_,_,_,_,_,_,_,_,_,_,_,_]) (by ((repeat' first|exact rfl|exact trivial|apply And.intro) <;> (repeat' first|exact rfl|exact trivial|apply And.intro)); all_goals ((first|exact sc_eq (by omega) | (rw [hnx]; unfold insT; rw [<- hsp]; rfl)))))
    have hin3 : i = L.length := by have := of_decide_eq_false hc3; omega
    subst hin3;rw [List.take_length];obtain ⟨S, hS⟩ : ∃ S, srtT (L.map orient) = S := ⟨_, rfl⟩;have hSp := (srtT_all (L.map orient)).1;rw [hS] at hSp ⊢;have hSl : S.length = L.length := by rw [hSp.length_eq, List.length_map]
    have hSm : ∀ x ∈ S, x.length <= 2 * F.length := fun x hx => by
     obtain ⟨y, hy, rfl⟩ := List.mem_map.1 (hSp.mem_iff.1 hx);have := hLp y hy;unfold orient;split <;> (try rw [List.length_reverse]) <;> omega
    have hF9 : F.length <= 20 * 20 := right_sq hR (by omega);refine Call.by _ _ (SubC_at (n := m) (E := F) (k := 1) (Ts := Ts) (L := S) ⟨by rw [hSl]; omega, fun x hx => by have := hSm x hx; omega⟩) ?_;refine Pick.by (fun h7 => ?_) (fun h7 => ?_)
    ·have h7 : ¬ SubP m F 1 Ts S := fun h => by
      have h7 : (!subB m F 1 Ts S) = true := h7;rw [subB_iff.2 h] at h7; cases h7
     have hP : ¬ ReadP m F := fun h => h7 (by
      obtain ⟨L', q1, q2⟩ := fin_yes h;rw [hL] at q1;injection q1 with q1
      subst q1;have := h.2.2.2.2;rw [<- q2, hS, hTs, show kindT Ts = 1 from (by unfold kindT; rw [a1]; rfl)] at this;exact this)
     rw [readF_no hP] at h9;cases h9;refine Call.by _ _ (Same9C_at (a := ((0, [], []) : Sb)) (b := ((0, [], []) : Sb)) ⟨⟨by simp, by simp [small]⟩, by simp, by simp [small]⟩) ?_;refine Call.by _ _ (RestC_at m F) ?_;refine Call.by _ _ (RestKC_at hk) ?_;refine Call.by _ _ (SameGC_at (n := (restF m F).1) (l := (restF m F).2) (n' := m) (m := F) (Nat.le_trans restF_len (by omega))) ?_;refine Seg.by (by kernel_rfl) ?_;exact ⟨rfl, congrArg Sc.b (decide_eq_true hkF)⟩
    ·have h7 : SubP m F 1 Ts S := by
      have h7 : (!subB m F 1 Ts S) = false := h7;exact subB_iff.1 (by simpa using h7)
     have hP : ReadP m F := Classical.byContradiction fun h => by
      refine fin_no hR h hL (k := 1) ?_;rw [hS, hTs]; exact h7
     obtain ⟨L', q1, q2⟩ := fin_yes hP;rw [hL] at q1;injection q1 with q1
     subst q1;have e9 := readF_yes hP;rw [<- q2, hS, hTs, show kindT Ts = 1 from (by unfold kindT; rw [a1]; rfl), h9] at e9;cases e9;refine Call.by _ _ (Same9C_at (a := ((1, T9, L9) : Sb)) (b := ((1, T9, L9) : Sb)) ⟨⟨by show T9.length <= _; omega, by show L9.length <= _; omega, fun x hx => by have := hSm x hx; omega⟩, by show T9.length <= _; omega, by show L9.length <= _; omega, fun x hx => by have := hSm x hx; omega⟩) ?_;refine Pick.T (decide_eq_true rfl) ?_;refine Call.by _ _ (RestC_at m F) ?_;refine Call.by _ _ (RestKC_at hk) ?_;refine Call.by _ _ (SameGC_at (n := (restF m F).1) (l := (restF m F).2) (n' := m) (m := F) (Nat.le_trans restF_len (by omega))) ?_;refine Seg.by (by kernel_rfl) ?_;exact ⟨rfl, congrArg Sc.b (decide_eq_true hkF)⟩
   ·have a2 : ¬ L.length = 6 := by have := ne_of_beq_false a2; omega
    have hP : ¬ ReadP m F := none_ (by omega);rw [readF_no hP] at h9;cases h9;refine Pick.F (beq_eq_false_iff_ne.2 (by omega)) ?_;refine Call.by _ _ (Same9C_at (a := ((0, [], []) : Sb)) (b := ((0, [], []) : Sb)) ⟨⟨by simp, by simp [small]⟩, by simp, by simp [small]⟩) ?_;refine Call.by _ _ (RestC_at m F) ?_;refine Call.by _ _ (RestKC_at hk) ?_;refine Call.by _ _ (SameGC_at (n := (restF m F).1) (l := (restF m F).2) (n' := m) (m := F) (Nat.le_trans restF_len (by omega))) ?_;refine Seg.by (by kernel_rfl) ?_;exact ⟨rfl, congrArg Sc.b (decide_eq_true hkF)⟩
  ·have a1 : ¬ Ts.length = 4 := by have := ne_of_beq_false a1; omega
   refine Pick.by (fun a3 => ?_) (fun a3 => ?_)
   ·have a3 : Ts.length = 2 := by have := eq_of_beq a3; omega
    refine Pick.by (fun a2 => ?_) (fun a2 => ?_)
    ·have a2 : L.length = 3 := by have := eq_of_beq a2; omega
     refine LoopP.intro (α := Nat) (fun i => i <= L.length) (fun i => L.length - i) (fun i => [(1, .ptr 2 0), (2, .ptr 5 0), (4, .ptr 6 0), (6, .sl 4 none none), (7, .s (.i .i64 i)), (1000002, .ptr 0 0), (2000003, .s (.b true)), (2000004, .ptr 1 0), (2000005, .ptr 9 0), (2000006, .s (.b b9))])
      (fun i => [(0, some (.blk [.s (.i .i64 0), .nils, .nils])), (1, some (.blk [.s (.i .i64 m), .sl 3 none none])), (2, some (.blk [.s (.i .i64 m), .sl 3 none none])), (3, some (.flat true 2 (edges F))), (4, some (.fnest true 1 (rowsI L))), (5, some (.blk [.s (.i .i64 0), .nils, .nils])), (6, some (.blk [.s (.i .i64 2), .sl 7 none none, .sl 8 none none])), (7, some (.flat true 1 (ints Ts))), (8, some (.fnest true 1 (rowsI (srtT ((L.take i).map orient))))), (9, some (.blk [.s (.i .i64 k9), .sl 10 none none, .sl 11 none none])), (10, some (.flat true 1 (ints T9))), (11, some (.nest true 1 (rowsI L9) [] []))]) 12 0 (by omega) (by refine Weak.ba [(0, some _), (1, some _), (2, some _), (3, some _), (4, some _), (5, some _), (6, some _), (7, some _), (8, none), (9, some _), (10, some _), (11, some _)]) ?_
     rintro i hi;refine Pick.by (fun hc3 => ?_) (fun hc3 => ?_)
     ·have hlt3 : i < L.length := by have := of_decide_eq_true hc3; omega
      obtain ⟨p, hp⟩ : ∃ p, L[i] = p := ⟨_, rfl⟩;have hLi : L[i]? = some p := by rw [qEq hlt3, hp]
      have hpm : p ∈ L := qMq hLi;have hp2 := hI.two p hpm;have hpl := hLp p hpm;have hpi := (qiq p);have g : ∀ {i : Nat}, i < p.length -> (ints p)[i]? = some [.i .i64 (p.getD i 0)] := fun h => qhq (by rw [qDq, qEq h]; rfl)
      have iI : inI64 (((ints p).length : Int) - 1) = true := inI64_of (by omega) (by omega);have hhd : p.headD 0 = p.getD 0 0 := headD_at (by omega);have hld : p.getLastD 0 = p.getD (p.length - 1) 0 := lastD_at;obtain ⟨q, hq⟩ : ∃ q, orient p = q := ⟨_, rfl⟩;have hql : q.length = p.length := by rw [<- hq]; unfold orient; split <;> simp
      obtain ⟨P, hPe⟩ : ∃ P, srtT ((L.take i).map orient) = P := ⟨_, rfl⟩;have hPp := (srtT_all ((L.take i).map orient)).1;rw [hPe] at hPp;have hPl : P.length = i := by rw [hPp.length_eq, List.length_map, List.length_take]; omega
      have hPm : ∀ x ∈ P, 2 <= x.length /\ x.length <= 8000 := fun x hx => by
       obtain ⟨y, hy, rfl⟩ := List.mem_map.1 (hPp.mem_iff.1 hx);have hy := List.mem_of_mem_take hy;have := hI.two y hy;have := hLp y hy;unfold orient;split <;> (try rw [List.length_reverse]) <;> omega
      have hnx : srtT ((L.take (i + 1)).map orient) = insT q P := by
       rw [List.take_add_one, hLi, <- hq, <- hPe, <- srtT_snoc]; simp
      rw [hPe];refine Idx.by i rfl (by rw [qrq]; exact hlt3) ?_;refine Look.by _ (qgq hLi) ?_;refine Idx.by 0 rfl (by omega) ?_;refine Look.by _ (g (by omega)) ?_;refine Pick.T iI ?_;refine Idx.by (p.length - 1) (by omega) (by omega) ?_;refine Look.by _ (g (by omega)) ?_;refine Seg.by (by kernel_rfl) ?_;refine JoinP.intro (α := Unit) (fun _ => True) (fun _ => [(1, .ptr 2 0), (2, .ptr 5 0), (4, .ptr 6 0), (6, .sl 4 none none), (7, .s (.i .i64 i)), (8, .sl 12 none none), (1000002, .ptr 0 0), (2000003, .s (.b true)), (2000004, .ptr 1 0), (2000005, .ptr 9 0), (2000006, .s (.b b9))])
       (fun _ => [(0, some (.blk [.s (.i .i64 0), .nils, .nils])), (1, some (.blk [.s (.i .i64 m), .sl 3 none none])), (2, some (.blk [.s (.i .i64 m), .sl 3 none none])), (3, some (.flat true 2 (edges F))), (4, some (.fnest true 1 (rowsI L))), (5, some (.blk [.s (.i .i64 0), .nils, .nils])), (6, some (.blk [.s (.i .i64 2), .sl 7 none none, .sl 8 none none])), (7, some (.flat true 1 (ints Ts))), (8, some (.fnest true 1 (rowsI P))), (9, some (.blk [.s (.i .i64 k9), .sl 10 none none, .sl 11 none none])), (10, some (.flat true 1 (ints T9))), (11, some (.nest true 1 (rowsI L9) [] [])), (12, some (.flat false 1 (ints q)))]) 13 ?_ ?_
      ·refine Pick.by (fun h1 => ?_) (fun h1 => ?_)
       ·have h1 : p.getLastD 0 < p.headD 0 := by rw [hhd, hld]; have := of_decide_eq_true h1; omega
        have e1 : p.reverse = q := by rw [<- hq]; unfold orient; rw [if_pos h1]
        refine Call.by _ _ (TurnedC_at (l := p) (by omega)) ?_;refine ⟨(), trivial, ?_⟩;refine Weak.bf [332] (sg 0 [_,_,_,_,_,_,_,_,_,_,_,_,_]) (by ((repeat' first|exact rfl|exact trivial|apply And.intro) <;> (repeat' first|exact rfl|exact trivial|apply And.intro)); all_goals (rw [e1])) (by rfl)
       ·have h1 : ¬ p.getLastD 0 < p.headD 0 := by rw [hhd, hld]; have := of_decide_eq_false h1; omega
        have e1 : p = q := by rw [<- hq]; unfold orient; rw [if_neg h1]
        refine ⟨(), trivial, ?_⟩;refine Weak.bw (sg 0 [_,_,_,_,_,_,_,_,_,_,_,_,_]) (by ((repeat' first|exact rfl|exact trivial|apply And.intro) <;> (repeat' first|exact rfl|exact trivial|apply And.intro)); all_goals (rw [e1]))
      rintro _ -;refine Pick.T (by rw [decide_eq_true_iff, qrq]; show _ + 1 <= _; omega) ?_;refine LoopP.intro (α := Nat) (fun a => a <= P.length /\ spot q P a = spot q P P.length) (fun a => a) (fun a => [(1, .ptr 2 0), (2, .ptr 5 0), (4, .ptr 6 0), (6, .sl 4 none none), (7, .s (.i .i64 i)), (8, .sl 12 none none), (9, .s (.i .i64 a)), (1000002, .ptr 0 0), (2000003, .s (.b true)), (2000004, .ptr 1 0), (2000005, .ptr 9 0), (2000006, .s (.b b9))])
       (fun a => [(0, some (.blk [.s (.i .i64 0), .nils, .nils])), (1, some (.blk [.s (.i .i64 m), .sl 3 none none])), (2, some (.blk [.s (.i .i64 m), .sl 3 none none])), (3, some (.flat true 2 (edges F))), (4, some (.fnest true 1 (rowsI L))), (5, some (.blk [.s (.i .i64 0), .nils, .nils])), (6, some (.blk [.s (.i .i64 2), .sl 7 none none, .sl 8 none none])), (7, some (.flat true 1 (ints Ts))), (8, some (.fnest true 1 (rowsI (P.take a ++ q :: P.drop a)))), (9, some (.blk [.s (.i .i64 k9), .sl 10 none none, .sl 11 none none])), (10, some (.flat true 1 (ints T9))), (11, some (.nest true 1 (rowsI L9) [] [])), (12, some (.flat false 1 (ints q)))]) 13 P.length ⟨Nat.le_refl _, rfl⟩ (by refine Weak.bw (sg 0 [_,_,_,_,_,_,_,_,_,_,_,_,_]) (by ((repeat' first|exact rfl|exact trivial|apply And.intro) <;> (repeat' first|exact rfl|exact trivial|apply And.intro)); all_goals ((first|exact sc_eq (by rw [qrq]) | (rw [List.take_length, List.drop_length]; exact rowsI_snoc _ _))))) ?_
      rintro a ⟨ha, hsp⟩;have hll : (P.take a ++ q :: P.drop a).length = P.length + 1 := by simp; omega
      refine Pick.by (fun h5 => ?_) (fun h5 => ?_)
      ·have h5 : 0 < a := by have := of_decide_eq_true h5; omega
       obtain ⟨r, hr5⟩ : ∃ r, P[a - 1]'(by omega) = r := ⟨_, rfl⟩;have hrm := hPm r (by rw [<- hr5]; exact List.getElem_mem _);have hrow : (rowsI (P.take a ++ q :: P.drop a))[a - 1]? = some (ints r) := qgq (by
        rw [qLq (by rw [List.length_take]; omega), List.getElem?_take, if_pos (by omega), qEq (by omega), hr5])
       have iA : inI64 ((a : Int) - 1) = true := inI64_of (by omega) (by omega);refine Pick.T iA ?_;refine Idx.by (a - 1) (by omega) (by rw [qrq, hll]; omega) ?_;refine Look.by _ hrow ?_;refine Call.by _ _ (AheadC_at (p := q) (q := r) ⟨⟨by omega, by omega⟩, by omega, by omega⟩) ?_;have hsu : spot q P a = if ltT q r then spot q P (a - 1) else a := by
        obtain ⟨b, rfl⟩ : ∃ b, a = b + 1 := ⟨a - 1, by omega⟩;have : P.getD b [] = r := by rw [qDq, qEq (by omega), <- hr5]; rfl
        show (if ltT q (P.getD b []) then spot q P b else b + 1) = _
        rw [this]; rfl
       refine Pick.by (fun h6 => ?_) (fun h6 => ?_)
       ·have h6 : ltT q r := of_decide_eq_true h6;rw [if_pos h6] at hsu;refine Pick.T iA ?_;refine Idx.by (a - 1) (by omega) (by rw [qrq, hll]; omega) ?_;refine Look.by _ hrow ?_;refine Idx.by a rfl (by rw [qrq, hll]; omega) ?_;refine Pick.T (by rw [decide_eq_true_iff, qrq, hll]; omega) ?_;refine Seg.by (by kernel_rfl) ?_;refine Pick.T iA ?_;refine Idx.by (a - 1) (by omega) (by rw [List.length_set, qrq, hll]; omega) ?_;refine Pick.T (by rw [decide_eq_true_iff, List.length_set, qrq, hll]; omega) ?_;refine Pick.T iA ?_;refine Next.by (a - 1) ⟨by omega, by rw [<- hsu, hsp]⟩ (by omega) (by refine Weak.bw (sg 0 [_,_,_,_,_,_,_,_,_,_,_,_,_]) (by ((repeat' first|exact rfl|exact trivial|apply And.intro) <;> (repeat' first|exact rfl|exact trivial|apply And.intro)); all_goals ((first|exact sc_eq (by omega) | exact down_rows h5 ha hr5))))
       ·have h6 : ¬ ltT q r := of_decide_eq_false h6;rw [if_neg h6] at hsu;refine Pick.n ?_;refine Next.by (i + 1) (by omega) (by omega) (by refine Weak.bw (sg 0 [_,_,_,_,_,_,_,_,_,_,_,_]) (by ((repeat' first|exact rfl|exact trivial|apply And.intro) <;> (repeat' first|exact rfl|exact trivial|apply And.intro)); all_goals ((first|exact sc_eq (by omega) | (rw [hnx]; unfold insT; rw [<- hsp, hsu]; done)))))
      ·have h5 : a = 0 := by have := of_decide_eq_false h5; omega
       subst h5;refine Pick.n ?_;refine Next.by (i + 1) (by omega) (by omega) (by refine Weak.bw (sg 0 [_,_,_,_,_,_,_,_,_,_,_,_]) (by ((repeat' first|exact rfl|exact trivial|apply And.intro) <;> (repeat' first|exact rfl|exact trivial|apply And.intro)); all_goals ((first|exact sc_eq (by omega) | (rw [hnx]; unfold insT; rw [<- hsp]; rfl)))))
     have hin3 : i = L.length := by have := of_decide_eq_false hc3; omega
     subst hin3;rw [List.take_length];obtain ⟨S, hS⟩ : ∃ S, srtT (L.map orient) = S := ⟨_, rfl⟩;have hSp := (srtT_all (L.map orient)).1;rw [hS] at hSp ⊢;have hSl : S.length = L.length := by rw [hSp.length_eq, List.length_map]
     have hSm : ∀ x ∈ S, x.length <= 2 * F.length := fun x hx => by
      obtain ⟨y, hy, rfl⟩ := List.mem_map.1 (hSp.mem_iff.1 hx);have := hLp y hy;unfold orient;split <;> (try rw [List.length_reverse]) <;> omega
     have hF9 : F.length <= 20 * 20 := right_sq hR (by omega);refine Call.by _ _ (SubC_at (n := m) (E := F) (k := 2) (Ts := Ts) (L := S) ⟨by rw [hSl]; omega, fun x hx => by have := hSm x hx; omega⟩) ?_;refine Pick.by (fun h7 => ?_) (fun h7 => ?_)
     ·have h7 : ¬ SubP m F 2 Ts S := fun h => by
       have h7 : (!subB m F 2 Ts S) = true := h7;rw [subB_iff.2 h] at h7; cases h7
      have hP : ¬ ReadP m F := fun h => h7 (by
       obtain ⟨L', q1, q2⟩ := fin_yes h;rw [hL] at q1;injection q1 with q1
       subst q1;have := h.2.2.2.2;rw [<- q2, hS, hTs, show kindT Ts = 2 from (by unfold kindT; rw [a3]; rfl)] at this;exact this)
      rw [readF_no hP] at h9;cases h9;refine Call.by _ _ (Same9C_at (a := ((0, [], []) : Sb)) (b := ((0, [], []) : Sb)) ⟨⟨by simp, by simp [small]⟩, by simp, by simp [small]⟩) ?_;refine Call.by _ _ (RestC_at m F) ?_;refine Call.by _ _ (RestKC_at hk) ?_;refine Call.by _ _ (SameGC_at (n := (restF m F).1) (l := (restF m F).2) (n' := m) (m := F) (Nat.le_trans restF_len (by omega))) ?_;refine Seg.by (by kernel_rfl) ?_;exact ⟨rfl, congrArg Sc.b (decide_eq_true hkF)⟩
     ·have h7 : SubP m F 2 Ts S := by
       have h7 : (!subB m F 2 Ts S) = false := h7;exact subB_iff.1 (by simpa using h7)
      have hP : ReadP m F := Classical.byContradiction fun h => by
       refine fin_no hR h hL (k := 2) ?_;rw [hS, hTs]; exact h7
      obtain ⟨L', q1, q2⟩ := fin_yes hP;rw [hL] at q1;injection q1 with q1
      subst q1;have e9 := readF_yes hP;rw [<- q2, hS, hTs, show kindT Ts = 2 from (by unfold kindT; rw [a3]; rfl), h9] at e9;cases e9;refine Call.by _ _ (Same9C_at (a := ((2, T9, L9) : Sb)) (b := ((2, T9, L9) : Sb)) ⟨⟨by show T9.length <= _; omega, by show L9.length <= _; omega, fun x hx => by have := hSm x hx; omega⟩, by show T9.length <= _; omega, by show L9.length <= _; omega, fun x hx => by have := hSm x hx; omega⟩) ?_;refine Pick.T (decide_eq_true rfl) ?_;refine Call.by _ _ (RestC_at m F) ?_;refine Call.by _ _ (RestKC_at hk) ?_;refine Call.by _ _ (SameGC_at (n := (restF m F).1) (l := (restF m F).2) (n' := m) (m := F) (Nat.le_trans restF_len (by omega))) ?_;refine Seg.by (by kernel_rfl) ?_;exact ⟨rfl, congrArg Sc.b (decide_eq_true hkF)⟩
    ·have a2 : ¬ L.length = 3 := by have := ne_of_beq_false a2; omega
     have hP : ¬ ReadP m F := none_ (by omega);rw [readF_no hP] at h9;cases h9;refine Call.by _ _ (Same9C_at (a := ((0, [], []) : Sb)) (b := ((0, [], []) : Sb)) ⟨⟨by simp, by simp [small]⟩, by simp, by simp [small]⟩) ?_;refine Call.by _ _ (RestC_at m F) ?_;refine Call.by _ _ (RestKC_at hk) ?_;refine Call.by _ _ (SameGC_at (n := (restF m F).1) (l := (restF m F).2) (n' := m) (m := F) (Nat.le_trans restF_len (by omega))) ?_;refine Seg.by (by kernel_rfl) ?_;exact ⟨rfl, congrArg Sc.b (decide_eq_true hkF)⟩
   ·have a3 : ¬ Ts.length = 2 := by have := ne_of_beq_false a3; omega
    have hP : ¬ ReadP m F := none_ (by omega);rw [readF_no hP] at h9;cases h9;refine Call.by _ _ (Same9C_at (a := ((0, [], []) : Sb)) (b := ((0, [], []) : Sb)) ⟨⟨by simp, by simp [small]⟩, by simp, by simp [small]⟩) ?_;refine Call.by _ _ (RestC_at m F) ?_;refine Call.by _ _ (RestKC_at hk) ?_;refine Call.by _ _ (SameGC_at (n := (restF m F).1) (l := (restF m F).2) (n' := m) (m := F) (Nat.le_trans restF_len (by omega))) ?_;refine Seg.by (by kernel_rfl) ?_;exact ⟨rfl, congrArg Sc.b (decide_eq_true hkF)⟩
set_option maxRecDepth 20000 in
set_option maxHeartbeats 4000000 in
theorem TTs_ok : SoundP Tryz.prog 4 (conF (fun a : Int × List Ed => ¬ Keep (anyN a.1 9) (anyE a.1 a.2 9)) (fun a => [grV a.1 a.2]) (fun _ => .one (.s (.b true)))) := by
 refine con_pure (X := XTS) (cr := callAt 3 XTS) XTS_ok hmix hT XTS_s Tryz.func4 (by rfl) (by rfl) (by rfl) 2 ?_
 rintro ⟨n, E⟩ hk
 dsimp only at hk ⊢
 refine two_le ?_
 refine Call.by _ _ Shown14C_at ?_
 refine Call.by _ _ (OfC_at n E (most := 9) (by omega)) ?_
 have hR0 := any_right (n := n) (l := E) (most := 9) (by omega) (by omega)
 have hm9 := (anyN_range (n := n) (most := 9) (by omega)).2
 obtain ⟨m0, hm⟩ : ∃ m, anyN n 9 = m := ⟨_, rfl⟩
 obtain ⟨F0, hF⟩ : ∃ F, anyE n E 9 = F := ⟨_, rfl⟩
 rw [hm] at hm9
 rw [hm, hF] at hR0 hk ⊢
 have hF0l := hR0.2.2.1
 obtain ⟨⟨m, F⟩, hmF⟩ : ∃ x, restF m0 F0 = x := ⟨_, rfl⟩
 have hR : RightP m F /\ m <= 20 := by
  by_cases h : narrowB m0 F0 = false
  ·rw [restF_yes hR0 h] at hmF;cases hmF;exact ⟨right_sub hR0 (restK_sub (by simp)), by omega⟩
  ·rw [restF_narrow (by simpa using h)] at hmF;cases hmF;exact ⟨by unfold RightP okE; simp, by omega⟩
 have hm20 := hR.2
 have hR := hR.1
 have hr := K4C_at (n := m0) (E := F0) (Nat.le_trans hR0.2.2.1 (by omega))
 rw [show k4O m0 F0 = readF m F by show readF (restF m0 F0).1 (restF m0 F0).2 = _; rw [hmF]] at hr
 have hrs := RestSC_at hk
 rw [hmF] at hrs
 have hFl := hR.2.2.1
 have hm1 := hR.2.1
 obtain ⟨⟨⟨k9, T9, L9⟩, b9⟩, h9⟩ : ∃ x, readF m F = x := ⟨_, rfl⟩
 rw [h9] at hr
 dsimp only at hr
 refine Call.by _ _ hr ?_
 refine Call.by _ _ (hrs) ?_
 refine Call.by _ _ (RightC_at m F) ?_
 refine Pick.F (by rw [decide_eq_true hR]; rfl) ?_
 have hN : ∀ v : Nat, (ints (nearF m F v)).length = (nearL F v).length := fun v => by
  rw [qiq, show nearF m F v = sortI (nearL F v) from if_pos hR, sortI_length]
 have hNl : ∀ v : Nat, (nearL F v).length <= 8000 := fun v => by have := nearL_length F v; omega
 have hm0 := hR.1
 have hkl : ∀ v, (topsK F v).length <= v := fun v => by
  unfold topsK;rw [List.length_map];have := List.length_filter_le (fun v => (nearL F (v : Nat)).length == 3) (List.range v);simpa using this
 refine LoopP.intro (α := Nat) (fun v => v <= m.toNat) (fun v => m.toNat - v) (fun v => [(1, .ptr 3 0), (2, .ptr 5 0), (4, .ptr 6 0), (5, .s (.i .i64 v)), (1000002, .ptr 0 0), (2000003, .s (.b true)), (2000004, .ptr 1 0), (2000005, .ptr 8 0), (2000006, .s (.b b9))])
  (fun v => [(0, some (.blk [.s (.i .i64 0), .nils, .nils])), (1, some (.blk [.s (.i .i64 m0), .sl 2 none none])), (2, some (.flat true 2 (edges F0))), (3, some (.blk [.s (.i .i64 m), .sl 4 none none])), (4, some (.flat true 2 (edges F))), (5, some (.blk [.s (.i .i64 0), .nils, .nils])), (6, some (.blk [.s (.i .i64 0), .sl 7 none none, .nils])), (7, some (.flat true 1 (ints (topsK F v)))), (8, some (.blk [.s (.i .i64 k9), .sl 9 none none, .sl 10 none none])), (9, some (.flat true 1 (ints T9))), (10, some (.nest true 1 (rowsI L9) [] []))]) 11 0 (by omega) (by refine Weak.ba [(0, some _), (1, some _), (2, some _), (3, some _), (4, some _), (5, some _), (6, some _), (7, none), (8, some _), (9, some _), (10, some _)]) ?_
 rintro v hv
 refine Pick.by (fun hc => ?_) (fun hc => ?_)
 ·have hlt : (v : Int) < m := by have := of_decide_eq_true hc; omega
  have hkv := hkl v;refine Call.by _ _ (NearC_at m F v) ?_;refine Pick.by (fun h3 => ?_) (fun h3 => ?_)
  ·have h3 : (nearL F v).length = 3 := by have := hN v; simp at h3; omega
   refine Pick.T (by rw [decide_eq_true_iff, qiq]; show _ + 1 <= _; omega) ?_;refine Pick.n ?_;refine Next.by (v + 1) (by omega) (by omega) (by refine Weak.bw (sg 0 [_,_,_,_,_,_,_,_,_,_,_]) (by ((repeat' first|exact rfl|exact trivial|apply And.intro) <;> (repeat' first|exact rfl|exact trivial|apply And.intro)); all_goals ((first|exact sc_eq (by omega) | (rw [topsK_succ, if_pos h3]; simp [ints, cut]; done)))))
  ·have h3 : ¬ (nearL F v).length = 3 := by have := hN v; simp at h3; omega
   refine Pick.n ?_;refine Next.by (v + 1) (by omega) (by omega) (by refine Weak.bw (sg 0 [_,_,_,_,_,_,_,_,_,_,_]) (by ((repeat' first|exact rfl|exact trivial|apply And.intro) <;> (repeat' first|exact rfl|exact trivial|apply And.intro)); all_goals ((first|exact sc_eq (by omega) | (rw [topsK_succ, if_neg h3, List.append_nil]; done)))))
 have hvm : v = m.toNat := by have := of_decide_eq_false hc; omega
 subst hvm
 obtain ⟨Ts, hTs⟩ : ∃ Ts, topsK F m.toNat = Ts := ⟨_, rfl⟩
 have hkt := hkl m.toNat
 rw [hTs] at hkt ⊢
 refine LoopP.intro (α := Nat) (fun i => i <= F.length) (fun i => F.length - i) (fun i => [(1, .ptr 3 0), (3, .sl 5 none none), (4, .s (.i .i64 i)), (1000001, .ptr 6 0), (1000002, .ptr 7 0), (1000004, .ptr 8 0), (2000002, .ptr 0 0), (3000003, .s (.b true)), (3000004, .ptr 1 0), (3000005, .ptr 10 0), (3000006, .s (.b b9))])
  (fun i => [(0, some (.blk [.s (.i .i64 0), .nils, .nils])), (1, some (.blk [.s (.i .i64 m0), .sl 2 none none])), (2, some (.flat true 2 (edges F0))), (3, some (.blk [.s (.i .i64 m), .sl 4 none none])), (4, some (.flat true 2 (edges F))), (5, some (.nest true 1 (rowsI ((F.take i).map fun e => [e.1, e.2])) [] [])), (6, some (.blk [.s (.i .i64 m), .sl 4 none none])), (7, some (.blk [.s (.i .i64 0), .nils, .nils])), (8, some (.blk [.s (.i .i64 0), .sl 9 none none, .nils])), (9, some (.flat true 1 (ints Ts))), (10, some (.blk [.s (.i .i64 k9), .sl 11 none none, .sl 12 none none])), (11, some (.flat true 1 (ints T9))), (12, some (.nest true 1 (rowsI L9) [] []))]) 13 0 (by omega) (by refine Weak.ba [(0, some _), (1, some _), (2, some _), (3, some _), (4, some _), (5, none), (6, some _), (7, some _), (8, some _), (9, some _), (10, some _), (11, some _), (12, some _)]) ?_
 rintro i hi
 refine Pick.by (fun hc => ?_) (fun hc => ?_)
 ·have hlt : i < F.length := by have := of_decide_eq_true hc; rw [qeq] at this; omega
  have hg := edges_get (qEq hlt);have he1 : rowsI ((F.take (i + 1)).map fun e => [e.1, e.2]) = rowsI ((F.take i).map fun e => [e.1, e.2]) ++ [ints [F[i].1, F[i].2]] := by
   rw [List.take_add_one, qEq hlt]; unfold rowsI; rw [List.map_append, List.map_append]; rfl
  refine Idx.by i rfl (by rw [qeq]; exact hlt) ?_;refine Look.by _ hg ?_;refine Idx.by i rfl (by rw [qeq]; exact hlt) ?_;refine Look.by _ hg ?_;refine Pick.T (by rw [decide_eq_true_iff, qrq, List.length_map, List.length_take]; show _ + 1 <= _; omega) ?_;refine Seg.by (by kernel_rfl) ?_;refine Pick.n ?_;refine Next.by (i + 1) (by omega) (by omega) (by refine Weak.bw (sg 0 [_,_,_,_,_,_,_,_,_,_,_,_,_]) (by ((repeat' first|exact rfl|exact trivial|apply And.intro) <;> (repeat' first|exact rfl|exact trivial|apply And.intro)); all_goals ((first|exact sc_eq (by omega) | exact he1))))
 have hin : i = F.length := by have := of_decide_eq_false hc; rw [qeq] at this; omega
 subst hin
 rw [List.take_length]
 refine LoopP.intro (α := Nat × List (List Int)) (fun a => a.1 <= m.toNat /\ jnF F a.1 = some a.2) (fun a => m.toNat - a.1) (fun a => [(1, .ptr 3 0), (3, .sl 5 none none), (5, .s (.i .i64 a.1)), (1000001, .ptr 6 0), (1000002, .ptr 7 0), (1000004, .ptr 8 0), (2000002, .ptr 0 0), (3000003, .s (.b true)), (3000004, .ptr 1 0), (3000005, .ptr 10 0), (3000006, .s (.b b9))])
  (fun a => [(0, some (.blk [.s (.i .i64 0), .nils, .nils])), (1, some (.blk [.s (.i .i64 m0), .sl 2 none none])), (2, some (.flat true 2 (edges F0))), (3, some (.blk [.s (.i .i64 m), .sl 4 none none])), (4, some (.flat true 2 (edges F))), (5, some (.fnest true 1 (rowsI a.2))), (6, some (.blk [.s (.i .i64 m), .sl 4 none none])), (7, some (.blk [.s (.i .i64 0), .nils, .nils])), (8, some (.blk [.s (.i .i64 0), .sl 9 none none, .nils])), (9, some (.flat true 1 (ints Ts))), (10, some (.blk [.s (.i .i64 k9), .sl 11 none none, .sl 12 none none])), (11, some (.flat true 1 (ints T9))), (12, some (.nest true 1 (rowsI L9) [] []))]) 13 (0, F.map fun e => [e.1, e.2]) ⟨Nat.zero_le _, rfl⟩ (by refine Weak.bf [5] (sg 0 [_,_,_,_,_,_,_,_,_,_,_,_,_]) (by ((repeat' first|exact rfl|exact trivial|apply And.intro) <;> (repeat' first|exact rfl|exact trivial|apply And.intro))) (by rfl)) ?_
 rintro ⟨v, L⟩ ⟨hv, hL⟩
 dsimp only at hv hL ⊢
 have hI := jnF_inv hR hL
 obtain ⟨hLl, hLf, hLp⟩ := hI.len
 have hnil : ∀ p ∈ L, p ≠ [] := fun p hp e => by have := hI.two p hp; rw [e] at this; simp at this
 refine Pick.by (fun hc => ?_) (fun hc => ?_)
 ·have hlt : (v : Int) < m := by have := of_decide_eq_true hc; omega
  refine Call.by _ _ (NearC_at m F v) ?_;refine Pick.by (fun h3 => ?_) (fun h3 => ?_)
  ·have h3 : ¬ (nearL F v).length = 2 := by have := hN v; simp at h3; omega
   refine Pick.n ?_;refine Next.by (v + 1, L) ⟨by show v + 1 <= _; omega, by unfold jnF; rw [hL]; simp only; rw [if_neg h3]⟩ (by show m.toNat - (v + 1) < m.toNat - v; omega) (by refine Weak.ba (sg 0 [_,_,_,_,_,_,_,_,_,_,_,_,_]))
  have h3 : (nearL F v).length = 2 := by have := hN v; simp at h3; omega
  refine LoopP.intro (α := Nat) (fun i => i <= L.length /\ shutB v (L.take i) = false) (fun i => L.length - i) (fun i => [(1, .ptr 3 0), (3, .sl 5 none none), (5, .s (.i .i64 v)), (6, .sl 13 none none), (7, .sl 14 none none), (8, .s (.i .i64 i)), (1000001, .ptr 6 0), (1000002, .ptr 7 0), (1000004, .ptr 8 0), (2000002, .ptr 0 0), (3000003, .s (.b true)), (3000004, .ptr 1 0), (3000005, .ptr 10 0), (3000006, .s (.b b9))])
   (fun i => [(0, some (.blk [.s (.i .i64 0), .nils, .nils])), (1, some (.blk [.s (.i .i64 m0), .sl 2 none none])), (2, some (.flat true 2 (edges F0))), (3, some (.blk [.s (.i .i64 m), .sl 4 none none])), (4, some (.flat true 2 (edges F))), (5, some (.fnest true 1 (rowsI L))), (6, some (.blk [.s (.i .i64 m), .sl 4 none none])), (7, some (.blk [.s (.i .i64 0), .nils, .nils])), (8, some (.blk [.s (.i .i64 0), .sl 9 none none, .nils])), (9, some (.flat true 1 (ints Ts))), (10, some (.blk [.s (.i .i64 k9), .sl 11 none none, .sl 12 none none])), (11, some (.flat true 1 (ints T9))), (12, some (.nest true 1 (rowsI L9) [] [])), (13, some (.fnest true 1 (rowsI (offT v (L.take i))))), (14, some (.flat false 1 (ints (oneF v ((L.take i).filter (tipT v))))))]) 15 0 ⟨Nat.zero_le _, by simp [shutB]⟩ (by refine Weak.ba [(0, some _), (1, some _), (2, some _), (3, some _), (4, some _), (5, some _), (6, some _), (7, some _), (8, some _), (9, some _), (10, some _), (11, some _), (12, some _), (13, none), (14, none)]) ?_
  rintro i ⟨hi, hsh⟩;obtain ⟨rest, hrest⟩ : ∃ rest, offT v (L.take i) = rest := ⟨_, rfl⟩;obtain ⟨one, hone⟩ : ∃ one, oneF v ((L.take i).filter (tipT v)) = one := ⟨_, rfl⟩;rw [hrest, hone];refine Pick.by (fun hc2 => ?_) (fun hc2 => ?_)
  ·have hlt2 : i < L.length := by have := of_decide_eq_true hc2; rw [qrq] at this; omega
   obtain ⟨p, hp⟩ : ∃ p, L[i] = p := ⟨_, rfl⟩;have hLi : L[i]? = some p := by rw [qEq hlt2, hp]
   have hpm : p ∈ L := qMq hLi;have hp2 := hI.two p hpm;have hpl := hLp p hpm;have hpi := (qiq p);have g : ∀ {i : Nat}, i < p.length -> (ints p)[i]? = some [.i .i64 (p.getD i 0)] := fun h => qhq (by rw [qDq, qEq h]; rfl)
   have iI : inI64 (((ints p).length : Int) - 1) = true := inI64_of (by omega) (by omega);refine Idx.by i rfl (by rw [qrq]; exact hlt2) ?_;refine Look.by _ (qgq hLi) ?_;refine Idx.by 0 rfl (by omega) ?_;refine Look.by _ (g (by omega)) ?_;have hhd : p.headD 0 = p.getD 0 0 := headD_at (by omega);have hld : p.getLastD 0 = p.getD (p.length - 1) 0 := lastD_at;have hts : L.take (i + 1) = L.take i ++ [p] := by rw [List.take_add_one, hLi]; rfl
   have hrl : rest.length <= L.length := by
    rw [<- hrest]; unfold offT
    have := List.length_filter_le (fun p => !tipT (v : Nat) p) (L.take i);rw [List.length_take] at this; omega
   have hol : one.length <= 8000 := by
    rw [<- hone];have h1 := oneF_len (v : Int) ((L.take i).filter (tipT v));have h2 : ((L.take i).filter (tipT v)).flatten.length <= L.flatten.length := flat_sub (List.filter_sublist.trans (List.take_sublist _ _));omega
   have hoi := qiq one;have stay : tipT v p = false -> rowsI (offT v (L.take (i + 1))) = rowsI rest ++ [ints p] /\ oneF v ((L.take (i + 1)).filter (tipT v)) = one /\ shutB v (L.take (i + 1)) = false := fun ht => by
    refine ⟨?_, ?_, ?_⟩
    ·rw [hts]; unfold offT; rw [List.filter_append]
     have : List.filter (fun p => !tipT (v : Nat) p) [p] = [p] := by simp [ht]
     rw [this, show List.filter (fun p => !tipT (v : Nat) p) (L.take i) = rest from hrest];simp [rowsI]
    ·rw [hts, List.filter_append];have : List.filter (tipT (v : Nat)) [p] = [] := by simp [ht]
     rw [this, List.append_nil, hone]
    ·rw [hts]; unfold shutB at hsh ⊢; rw [List.any_append, hsh]; simp [ht]
   have goes : tipT v p = true -> p.getD 0 0 ≠ p.getD (p.length - 1) 0 -> offT v (L.take (i + 1)) = rest /\ oneF v ((L.take (i + 1)).filter (tipT v)) = add1 v one p /\ shutB v (L.take (i + 1)) = false := fun ht hne => by
    refine ⟨?_, ?_, ?_⟩
    ·rw [hts]; unfold offT; rw [List.filter_append]
     have : List.filter (fun p => !tipT (v : Nat) p) [p] = [] := by simp [ht]
     rw [this, List.append_nil]; exact hrest
    ·rw [hts, List.filter_append];have : List.filter (tipT (v : Nat)) [p] = [p] := by simp [ht]
     rw [this, <- hone]; simp [oneF]
    ·rw [hts]; unfold shutB at hsh ⊢; rw [List.any_append, hsh]
     have : (p.headD 0 == p.getLastD 0) = false := by rw [hhd, hld]; simpa using hne
     rw [List.any_cons, this, Bool.and_false]; rfl
   have shut : tipT v p = true -> p.getD 0 0 = p.getD (p.length - 1) 0 -> jnF F m.toNat = none := fun ht he => by
    have h1 : jnF F (v + 1) = none := by
     unfold jnF; rw [hL]; simp only
     rw [if_pos h3, if_pos];unfold shutB;rw [List.any_eq_true];exact ⟨p, hpm, by rw [ht, hhd, hld, he]; simp⟩
    have : ∀ k, jnF F (v + 1 + k) = none := by
     intro k
     induction k with
     | zero => exact h1
     | succ k ih => show jnF F (v + 1 + k + 1) = none; unfold jnF; rw [ih]
    have := this (m.toNat - (v + 1))
    rwa [show v + 1 + (m.toNat - (v + 1)) = m.toNat by omega] at this
   refine Pick.by (fun h1 => ?_) (fun h1 => ?_)
   ·have h1 : p.getD 0 0 ≠ (v : Int) := by simpa using h1
    refine Pick.T iI ?_;refine Idx.by (p.length - 1) (by omega) (by omega) ?_;refine Look.by _ (g (by omega)) ?_;refine Pick.by (fun h2 => ?_) (fun h2 => ?_)
    ·have h2 : p.getD (p.length - 1) 0 ≠ (v : Int) := by simpa using h2
     have ht : tipT v p = false := by
      rw [Bool.eq_false_iff]; intro h; rcases tipT_iff.1 h with h | h
      ·exact h1 (hhd ▸ h)
      ·exact h2 (hld ▸ h)
     obtain ⟨e1, e2, e3⟩ := stay ht;refine Pick.T (by rw [decide_eq_true_iff, qrq]; show _ + 1 <= _; omega) ?_;refine Pick.n ?_;refine Next.by (i + 1) ⟨by omega, e3⟩ (by omega) (by refine Weak.bw (sg 0 [_,_,_,_,_,_,_,_,_,_,_,_,_,_,_]) (by ((repeat' first|exact rfl|exact trivial|apply And.intro) <;> (repeat' first|exact rfl|exact trivial|apply And.intro)); all_goals ((first|exact sc_eq (by omega) | exact e1 | rw [e2]))))
    ·have h2 : p.getD (p.length - 1) 0 = (v : Int) := by simpa using h2
     have ht : tipT v p = true := tipT_iff.2 (.inr (hld.trans h2));refine Idx.by 0 rfl (by omega) ?_;refine Look.by _ (g (by omega)) ?_;refine Pick.T iI ?_;refine Idx.by (p.length - 1) (by omega) (by omega) ?_;refine Look.by _ (g (by omega)) ?_;refine Seg.by (by kernel_rfl) ?_;refine Pick.by (fun h4 => ?_) (fun h4 => ?_)
     ·have h4 : p.getD 0 0 = p.getD (p.length - 1) 0 := by simpa using h4
      have hno := shut ht h4;have hP : ¬ ReadP m F := fun h => by obtain ⟨L', q1, _⟩ := fin_yes h; rw [hno] at q1; cases q1
      rw [readF_no hP] at h9;cases h9;refine Pick.by (fun a1 => ?_) (fun a1 => ?_)
      ·refine Pick.by (fun a2 => ?_) (fun a2 => ?_)
       ·refine Call.by _ _ (Same9C_at (a := ((0, [], []) : Sb)) (b := ((0, [], []) : Sb)) ⟨⟨by simp, by simp [small]⟩, by simp, by simp [small]⟩) ?_;refine Call.by _ _ (RestC_at m0 F0) ?_;refine Call.by _ _ (RestSC_at hk) ?_;rw [hmF];refine Call.by _ _ (SameGC_at (n := m) (l := F) (n' := m) (m := F) (by omega)) ?_;refine Seg.by (by kernel_rfl) ?_;exact ⟨rfl, congrArg Sc.b (decide_eq_true rfl)⟩
       ·refine Call.by _ _ (Same9C_at (a := ((0, [], []) : Sb)) (b := ((0, [], []) : Sb)) ⟨⟨by simp, by simp [small]⟩, by simp, by simp [small]⟩) ?_;refine Call.by _ _ (RestC_at m0 F0) ?_;refine Call.by _ _ (RestSC_at hk) ?_;rw [hmF];refine Call.by _ _ (SameGC_at (n := m) (l := F) (n' := m) (m := F) (by omega)) ?_;refine Seg.by (by kernel_rfl) ?_;exact ⟨rfl, congrArg Sc.b (decide_eq_true rfl)⟩
      ·refine Pick.by (fun a2 => ?_) (fun a2 => ?_)
       ·refine Call.by _ _ (Same9C_at (a := ((0, [], []) : Sb)) (b := ((0, [], []) : Sb)) ⟨⟨by simp, by simp [small]⟩, by simp, by simp [small]⟩) ?_;refine Call.by _ _ (RestC_at m0 F0) ?_;refine Call.by _ _ (RestSC_at hk) ?_;rw [hmF];refine Call.by _ _ (SameGC_at (n := m) (l := F) (n' := m) (m := F) (by omega)) ?_;refine Seg.by (by kernel_rfl) ?_;exact ⟨rfl, congrArg Sc.b (decide_eq_true rfl)⟩
       ·refine Call.by _ _ (Same9C_at (a := ((0, [], []) : Sb)) (b := ((0, [], []) : Sb)) ⟨⟨by simp, by simp [small]⟩, by simp, by simp [small]⟩) ?_;refine Call.by _ _ (RestC_at m0 F0) ?_;refine Call.by _ _ (RestSC_at hk) ?_;rw [hmF];refine Call.by _ _ (SameGC_at (n := m) (l := F) (n' := m) (m := F) (by omega)) ?_;refine Seg.by (by kernel_rfl) ?_;exact ⟨rfl, congrArg Sc.b (decide_eq_true rfl)⟩
     have h4 : p.getD 0 0 ≠ p.getD (p.length - 1) 0 := by simpa using h4
     obtain ⟨e1, e2, e3⟩ := goes ht h4;refine Idx.by 0 rfl (by omega) ?_;refine Look.by _ (g (by omega)) ?_;refine Pick.F (by simpa using h1) ?_;refine Idx.by 0 rfl (by omega) ?_;refine Look.by _ (g (by omega)) ?_;refine Pick.T (by simpa using h1) ?_;refine Pick.by (fun h5 => ?_) (fun h5 => ?_)
     ·have h5 : one ≠ [] := by intro e; rw [hoi, e] at h5; simp at h5
      refine Call.by _ _ (TurnedC_at (l := p) (by omega)) ?_;refine Pick.F (by rw [hoi]; simpa using h5) ?_;have hpr : (ints p.reverse).length = p.length := by rw [qiq, List.length_reverse]
      refine Pick.T (by rw [decide_eq_true_iff]; show 0 + (ints one).length <= _; omega) ?_;refine ⟨1, (p.reverse).length, rfl, by first | rfl | (rw [qiq]; done) | exact congrArg _ (qiq _).symm, by first | omega | (rw [List.length_reverse]; omega), Nat.le_of_eq (qiq _).symm, ?_⟩;refine Pick.T (by rw [decide_eq_true_iff]; simp only [cut, subOf, List.length_append, List.length_take, List.length_drop, List.length_nil]; omega) ?_;refine Seg.by (by kernel_rfl) ?_;refine Pick.n ?_;have e4 : add1 v one p = one ++ p.reverse.tail := by unfold add1 turn1; rw [if_neg h5, if_pos (.inr ⟨by rw [hhd]; exact h1, h5⟩)]
      rw [e4] at e2;refine Next.by (i + 1) ⟨by omega, e3⟩ (by omega) (by refine Weak.bf [1087] (sg 0 [_,_,_,_,_,_,_,_,_,_,_,_,_,_,_]) (by ((repeat' first|exact rfl|exact trivial|apply And.intro) <;> (repeat' first|exact rfl|exact trivial|apply And.intro)); all_goals ((first|exact sc_eq (by omega) | rw [e1] | (rw [e2]; exact glue_ints _ _)))) (by rfl))
     ·have h5 : one = [] := by have := of_decide_eq_false h5; rw [<- List.length_eq_zero_iff]; omega
      refine Pick.T (by cases h5; rfl) ?_;refine Pick.n ?_;have e4 : add1 v one p = p := by unfold add1 turn1; rw [if_pos h5, if_neg (fun k => k.elim (fun a => h1 (hhd ▸ a.1)) (fun a => a.2 h5))]
      rw [e4] at e2;refine Next.by (i + 1) ⟨by omega, e3⟩ (by omega) (by refine Weak.bw (sg 0 [_,_,_,_,_,_,_,_,_,_,_,_,_,_,_]) (by ((repeat' first|exact rfl|exact trivial|apply And.intro) <;> (repeat' first|exact rfl|exact trivial|apply And.intro)); all_goals ((first|exact sc_eq (by omega) | rw [e1] | rw [e2]))))
   ·have h1 : p.getD 0 0 = (v : Int) := by simpa using h1
    have ht : tipT v p = true := tipT_iff.2 (.inl (hhd.trans h1));refine Idx.by 0 rfl (by omega) ?_;refine Look.by _ (g (by omega)) ?_;refine Pick.T iI ?_;refine Idx.by (p.length - 1) (by omega) (by omega) ?_;refine Look.by _ (g (by omega)) ?_;refine Seg.by (by kernel_rfl) ?_;refine Pick.by (fun h4 => ?_) (fun h4 => ?_)
    ·have h4 : p.getD 0 0 = p.getD (p.length - 1) 0 := by simpa using h4
     have hno := shut ht h4;have hP : ¬ ReadP m F := fun h => by obtain ⟨L', q1, _⟩ := fin_yes h; rw [hno] at q1; cases q1
     rw [readF_no hP] at h9;cases h9;refine Pick.by (fun a1 => ?_) (fun a1 => ?_)
     ·refine Pick.by (fun a2 => ?_) (fun a2 => ?_)
      ·refine Call.by _ _ (Same9C_at (a := ((0, [], []) : Sb)) (b := ((0, [], []) : Sb)) ⟨⟨by simp, by simp [small]⟩, by simp, by simp [small]⟩) ?_;refine Call.by _ _ (RestC_at m0 F0) ?_;refine Call.by _ _ (RestSC_at hk) ?_;rw [hmF];refine Call.by _ _ (SameGC_at (n := m) (l := F) (n' := m) (m := F) (by omega)) ?_;refine Seg.by (by kernel_rfl) ?_;exact ⟨rfl, congrArg Sc.b (decide_eq_true rfl)⟩
      ·refine Call.by _ _ (Same9C_at (a := ((0, [], []) : Sb)) (b := ((0, [], []) : Sb)) ⟨⟨by simp, by simp [small]⟩, by simp, by simp [small]⟩) ?_;refine Call.by _ _ (RestC_at m0 F0) ?_;refine Call.by _ _ (RestSC_at hk) ?_;rw [hmF];refine Call.by _ _ (SameGC_at (n := m) (l := F) (n' := m) (m := F) (by omega)) ?_;refine Seg.by (by kernel_rfl) ?_;exact ⟨rfl, congrArg Sc.b (decide_eq_true rfl)⟩
     ·refine Pick.by (fun a2 => ?_) (fun a2 => ?_)
      ·refine Call.by _ _ (Same9C_at (a := ((0, [], []) : Sb)) (b := ((0, [], []) : Sb)) ⟨⟨by simp, by simp [small]⟩, by simp, by simp [small]⟩) ?_;refine Call.by _ _ (RestC_at m0 F0) ?_;refine Call.by _ _ (RestSC_at hk) ?_;rw [hmF];refine Call.by _ _ (SameGC_at (n := m) (l := F) (n' := m) (m := F) (by omega)) ?_;refine Seg.by (by kernel_rfl) ?_;exact ⟨rfl, congrArg Sc.b (decide_eq_true rfl)⟩
      ·refine Call.by _ _ (Same9C_at (a := ((0, [], []) : Sb)) (b := ((0, [], []) : Sb)) ⟨⟨by simp, by simp [small]⟩, by simp, by simp [small]⟩) ?_;refine Call.by _ _ (RestC_at m0 F0) ?_;refine Call.by _ _ (RestSC_at hk) ?_;rw [hmF];refine Call.by _ _ (SameGC_at (n := m) (l := F) (n' := m) (m := F) (by omega)) ?_;refine Seg.by (by kernel_rfl) ?_;exact ⟨rfl, congrArg Sc.b (decide_eq_true rfl)⟩
    have h4 : p.getD 0 0 ≠ p.getD (p.length - 1) 0 := by simpa using h4
    obtain ⟨e1, e2, e3⟩ := goes ht h4;refine Idx.by 0 rfl (by omega) ?_;refine Look.by _ (g (by omega)) ?_;refine Pick.T (by rw [h1]; exact beq_self_eq_true _) ?_;refine Pick.by (fun h5 => ?_) (fun h5 => ?_)
    ·have h5 : one = [] := by have := eq_of_beq h5; rw [<- List.length_eq_zero_iff]; omega
     refine Call.by _ _ (TurnedC_at (l := p) (by omega)) ?_;refine Pick.T (by cases h5; rfl) ?_;refine Pick.n ?_;have e4 : add1 v one p = p.reverse := by unfold add1 turn1; rw [if_pos h5, if_pos (.inl ⟨hhd.trans h1, h5⟩)]
     rw [e4] at e2;refine Next.by (i + 1) ⟨by omega, e3⟩ (by omega) (by refine Weak.bf [927] (sg 0 [_,_,_,_,_,_,_,_,_,_,_,_,_,_,_]) (by ((repeat' first|exact rfl|exact trivial|apply And.intro) <;> (repeat' first|exact rfl|exact trivial|apply And.intro)); all_goals ((first|exact sc_eq (by omega) | rw [e1] | rw [e2]))) (by rfl))
    ·have h5 : one ≠ [] := by intro e; rw [hoi, e] at h5; exact absurd h5 (by decide)
     refine Idx.by 0 rfl (by omega) ?_;refine Look.by _ (g (by omega)) ?_;refine Pick.F (by rw [h1]; simp) ?_;refine Pick.F (by rw [hoi]; simpa using h5) ?_;refine Pick.T (by rw [decide_eq_true_iff]; show 0 + (ints one).length <= _; omega) ?_;refine ⟨1, (p).length, rfl, by first | rfl | (rw [qiq]; done) | exact congrArg _ (qiq _).symm, by first | omega | (rw [List.length_reverse]; omega), Nat.le_of_eq (qiq _).symm, ?_⟩;refine Pick.T (by rw [decide_eq_true_iff]; simp only [cut, subOf, List.length_append, List.length_take, List.length_drop, List.length_nil]; omega) ?_;refine Seg.by (by kernel_rfl) ?_;refine Pick.n ?_;have e4 : add1 v one p = one ++ p.tail := by unfold add1 turn1; rw [if_neg h5, if_neg (fun k => k.elim (fun a => h5 a.2) (fun a => a.1 (hhd.trans h1)))]
     rw [e4] at e2;refine Next.by (i + 1) ⟨by omega, e3⟩ (by omega) (by refine Weak.bf [1039] (sg 0 [_,_,_,_,_,_,_,_,_,_,_,_,_,_,_]) (by ((repeat' first|exact rfl|exact trivial|apply And.intro) <;> (repeat' first|exact rfl|exact trivial|apply And.intro)); all_goals ((first|exact sc_eq (by omega) | rw [e1] | (rw [e2]; exact glue_ints _ _)))) (by rfl))
  ·have hin2 : i = L.length := by have := of_decide_eq_false hc2; rw [qrq] at this; omega
   subst hin2;rw [List.take_length] at hsh hrest hone;have hrl : rest.length <= L.length := by rw [<- hrest]; exact List.length_filter_le _ _
   refine Pick.T (by rw [decide_eq_true_iff, qrq]; show _ + 1 <= _; omega) ?_;refine Pick.n ?_;refine Next.by (v + 1, rest ++ [one]) ⟨by show v + 1 <= _; omega, by unfold jnF; rw [hL]; simp only; rw [if_pos h3, hsh, hrest, hone]; rfl⟩ (by show m.toNat - (v + 1) < m.toNat - v; omega) (by refine Weak.bw (sg 0 [_,_,_,_,_,_,_,_,_,_,_,_,_]) (by ((repeat' first|exact rfl|exact trivial|apply And.intro) <;> (repeat' first|exact rfl|exact trivial|apply And.intro)); all_goals (exact rowsI_snoc _ _)))
 ·have hvm : v = m.toNat := by have := of_decide_eq_false hc; omega
  subst hvm;have hTl := qiq Ts;have hrl := qrq L;have none_ : (¬ (Ts.length = 4 /\ L.length = 6) /\ ¬ (Ts.length = 2 /\ L.length = 3)) -> ¬ ReadP m F := fun h hP => by
   have := fin_len hP hL;rw [hTs] at this;exact this.elim h.1 h.2
  refine Pick.by (fun a1 => ?_) (fun a1 => ?_)
  ·have a1 : Ts.length = 4 := by have := eq_of_beq a1; omega
   refine Pick.by (fun a2 => ?_) (fun a2 => ?_)
   ·have a2 : L.length = 6 := by have := eq_of_beq a2; omega
    refine LoopP.intro (α := Nat) (fun i => i <= L.length) (fun i => L.length - i) (fun i => [(1, .ptr 3 0), (2, .ptr 6 0), (4, .ptr 7 0), (6, .sl 5 none none), (7, .s (.i .i64 i)), (1000002, .ptr 0 0), (2000003, .s (.b true)), (2000004, .ptr 1 0), (2000005, .ptr 10 0), (2000006, .s (.b b9))])
     (fun i => [(0, some (.blk [.s (.i .i64 0), .nils, .nils])), (1, some (.blk [.s (.i .i64 m0), .sl 2 none none])), (2, some (.flat true 2 (edges F0))), (3, some (.blk [.s (.i .i64 m), .sl 4 none none])), (4, some (.flat true 2 (edges F))), (5, some (.fnest true 1 (rowsI L))), (6, some (.blk [.s (.i .i64 0), .nils, .nils])), (7, some (.blk [.s (.i .i64 1), .sl 8 none none, .sl 9 none none])), (8, some (.flat true 1 (ints Ts))), (9, some (.fnest true 1 (rowsI (srtT ((L.take i).map orient))))), (10, some (.blk [.s (.i .i64 k9), .sl 11 none none, .sl 12 none none])), (11, some (.flat true 1 (ints T9))), (12, some (.nest true 1 (rowsI L9) [] []))]) 13 0 (by omega) (by refine Weak.ba [(0, some _), (1, some _), (2, some _), (3, some _), (4, some _), (5, some _), (6, some _), (7, some _), (8, some _), (9, none), (10, some _), (11, some _), (12, some _)]) ?_
    rintro i hi;refine Pick.by (fun hc3 => ?_) (fun hc3 => ?_)
    ·have hlt3 : i < L.length := by have := of_decide_eq_true hc3; omega
     obtain ⟨p, hp⟩ : ∃ p, L[i] = p := ⟨_, rfl⟩;have hLi : L[i]? = some p := by rw [qEq hlt3, hp]
     have hpm : p ∈ L := qMq hLi;have hp2 := hI.two p hpm;have hpl := hLp p hpm;have hpi := (qiq p);have g : ∀ {i : Nat}, i < p.length -> (ints p)[i]? = some [.i .i64 (p.getD i 0)] := fun h => qhq (by rw [qDq, qEq h]; rfl)
     have iI : inI64 (((ints p).length : Int) - 1) = true := inI64_of (by omega) (by omega);have hhd : p.headD 0 = p.getD 0 0 := headD_at (by omega);have hld : p.getLastD 0 = p.getD (p.length - 1) 0 := lastD_at;obtain ⟨q, hq⟩ : ∃ q, orient p = q := ⟨_, rfl⟩;have hql : q.length = p.length := by rw [<- hq]; unfold orient; split <;> simp
     obtain ⟨P, hPe⟩ : ∃ P, srtT ((L.take i).map orient) = P := ⟨_, rfl⟩;have hPp := (srtT_all ((L.take i).map orient)).1;rw [hPe] at hPp;have hPl : P.length = i := by rw [hPp.length_eq, List.length_map, List.length_take]; omega
     have hPm : ∀ x ∈ P, 2 <= x.length /\ x.length <= 8000 := fun x hx => by
      obtain ⟨y, hy, rfl⟩ := List.mem_map.1 (hPp.mem_iff.1 hx);have hy := List.mem_of_mem_take hy;have := hI.two y hy;have := hLp y hy;unfold orient;split <;> (try rw [List.length_reverse]) <;> omega
     have hnx : srtT ((L.take (i + 1)).map orient) = insT q P := by
      rw [List.take_add_one, hLi, <- hq, <- hPe, <- srtT_snoc]; simp
     rw [hPe];refine Idx.by i rfl (by rw [qrq]; exact hlt3) ?_;refine Look.by _ (qgq hLi) ?_;refine Idx.by 0 rfl (by omega) ?_;refine Look.by _ (g (by omega)) ?_;refine Pick.T iI ?_;refine Idx.by (p.length - 1) (by omega) (by omega) ?_;refine Look.by _ (g (by omega)) ?_;refine Seg.by (by kernel_rfl) ?_;refine JoinP.intro (α := Unit) (fun _ => True) (fun _ => [(1, .ptr 3 0), (2, .ptr 6 0), (4, .ptr 7 0), (6, .sl 5 none none), (7, .s (.i .i64 i)), (8, .sl 13 none none), (1000002, .ptr 0 0), (2000003, .s (.b true)), (2000004, .ptr 1 0), (2000005, .ptr 10 0), (2000006, .s (.b b9))])
      (fun _ => [(0, some (.blk [.s (.i .i64 0), .nils, .nils])), (1, some (.blk [.s (.i .i64 m0), .sl 2 none none])), (2, some (.flat true 2 (edges F0))), (3, some (.blk [.s (.i .i64 m), .sl 4 none none])), (4, some (.flat true 2 (edges F))), (5, some (.fnest true 1 (rowsI L))), (6, some (.blk [.s (.i .i64 0), .nils, .nils])), (7, some (.blk [.s (.i .i64 1), .sl 8 none none, .sl 9 none none])), (8, some (.flat true 1 (ints Ts))), (9, some (.fnest true 1 (rowsI P))), (10, some (.blk [.s (.i .i64 k9), .sl 11 none none, .sl 12 none none])), (11, some (.flat true 1 (ints T9))), (12, some (.nest true 1 (rowsI L9) [] [])), (13, some (.flat false 1 (ints q)))]) 14 ?_ ?_
     ·refine Pick.by (fun h1 => ?_) (fun h1 => ?_)
      ·have h1 : p.getLastD 0 < p.headD 0 := by rw [hhd, hld]; have := of_decide_eq_true h1; omega
       have e1 : p.reverse = q := by rw [<- hq]; unfold orient; rw [if_pos h1]
       refine Call.by _ _ (TurnedC_at (l := p) (by omega)) ?_;refine ⟨(), trivial, ?_⟩;refine Weak.bf [333] (sg 0 [_,_,_,_,_,_,_,_,_,_,_,_,_,_]) (by ((repeat' first|exact rfl|exact trivial|apply And.intro) <;> (repeat' first|exact rfl|exact trivial|apply And.intro)); all_goals (rw [e1])) (by rfl)
      ·have h1 : ¬ p.getLastD 0 < p.headD 0 := by rw [hhd, hld]; have := of_decide_eq_false h1; omega
       have e1 : p = q := by rw [<- hq]; unfold orient; rw [if_neg h1]
       refine ⟨(), trivial, ?_⟩;refine Weak.bw (sg 0 [_,_,_,_,_,_,_,_,_,_,_,_,_,_]) (by ((repeat' first|exact rfl|exact trivial|apply And.intro) <;> (repeat' first|exact rfl|exact trivial|apply And.intro)); all_goals (rw [e1]))
     rintro _ -;refine Pick.T (by rw [decide_eq_true_iff, qrq]; show _ + 1 <= _; omega) ?_;refine LoopP.intro (α := Nat) (fun a => a <= P.length /\ spot q P a = spot q P P.length) (fun a => a) (fun a => [(1, .ptr 3 0), (2, .ptr 6 0), (4, .ptr 7 0), (6, .sl 5 none none), (7, .s (.i .i64 i)), (8, .sl 13 none none), (9, .s (.i .i64 a)), (1000002, .ptr 0 0), (2000003, .s (.b true)), (2000004, .ptr 1 0), (2000005, .ptr 10 0), (2000006, .s (.b b9))])
      (fun a => [(0, some (.blk [.s (.i .i64 0), .nils, .nils])), (1, some (.blk [.s (.i .i64 m0), .sl 2 none none])), (2, some (.flat true 2 (edges F0))), (3, some (.blk [.s (.i .i64 m), .sl 4 none none])), (4, some (.flat true 2 (edges F))), (5, some (.fnest true 1 (rowsI L))), (6, some (.blk [.s (.i .i64 0), .nils, .nils])), (7, some (.blk [.s (.i .i64 1), .sl 8 none none, .sl 9 none none])), (8, some (.flat true 1 (ints Ts))), (9, some (.fnest true 1 (rowsI (P.take a ++ q :: P.drop a)))), (10, some (.blk [.s (.i .i64 k9), .sl 11 none none, .sl 12 none none])), (11, some (.flat true 1 (ints T9))), (12, some (.nest true 1 (rowsI L9) [] [])), (13, some (.flat false 1 (ints q)))]) 14 P.length ⟨Nat.le_refl _, rfl⟩ (by refine Weak.bw (sg 0 [_,_,_,_,_,_,_,_,_,_,_,_,_,_]) (by ((repeat' first|exact rfl|exact trivial|apply And.intro) <;> (repeat' first|exact rfl|exact trivial|apply And.intro)); all_goals ((first|exact sc_eq (by rw [qrq]) | (rw [List.take_length, List.drop_length]; exact rowsI_snoc _ _))))) ?_
     rintro a ⟨ha, hsp⟩;have hll : (P.take a ++ q :: P.drop a).length = P.length + 1 := by simp; omega
     refine Pick.by (fun h5 => ?_) (fun h5 => ?_)
     ·have h5 : 0 < a := by have := of_decide_eq_true h5; omega
      obtain ⟨r, hr5⟩ : ∃ r, P[a - 1]'(by omega) = r := ⟨_, rfl⟩;have hrm := hPm r (by rw [<- hr5]; exact List.getElem_mem _);have hrow : (rowsI (P.take a ++ q :: P.drop a))[a - 1]? = some (ints r) := qgq (by
       rw [qLq (by rw [List.length_take]; omega), List.getElem?_take, if_pos (by omega), qEq (by omega), hr5])
      have iA : inI64 ((a : Int) - 1) = true := inI64_of (by omega) (by omega);refine Pick.T iA ?_;refine Idx.by (a - 1) (by omega) (by rw [qrq, hll]; omega) ?_;refine Look.by _ hrow ?_;refine Call.by _ _ (AheadC_at (p := q) (q := r) ⟨⟨by omega, by omega⟩, by omega, by omega⟩) ?_;have hsu : spot q P a = if ltT q r then spot q P (a - 1) else a := by
       obtain ⟨b, rfl⟩ : ∃ b, a = b + 1 := ⟨a - 1, by omega⟩;have : P.getD b [] = r := by rw [qDq, qEq (by omega), <- hr5]; rfl
       show (if ltT q (P.getD b []) then spot q P b else b + 1) = _
       rw [this]; rfl
      refine Pick.by (fun h6 => ?_) (fun h6 => ?_)
      ·have h6 : ltT q r := of_decide_eq_true h6;rw [if_pos h6] at hsu;refine Pick.T iA ?_;refine Idx.by (a - 1) (by omega) (by rw [qrq, hll]; omega) ?_;refine Look.by _ hrow ?_;refine Idx.by a rfl (by rw [qrq, hll]; omega) ?_;refine Pick.T (by rw [decide_eq_true_iff, qrq, hll]; omega) ?_;refine Seg.by (by kernel_rfl) ?_;refine Pick.T iA ?_;refine Idx.by (a - 1) (by omega) (by rw [List.length_set, qrq, hll]; omega) ?_;refine Pick.T (by rw [decide_eq_true_iff, List.length_set, qrq, hll]; omega) ?_;refine Pick.T iA ?_;refine Next.by (a - 1) ⟨by omega, by rw [<- hsu, hsp]⟩ (by omega) (by refine Weak.bw (sg 0 [_,_,_,_,_,_,_,_,_,_,_,_,_,_]) (by ((repeat' first|exact rfl|exact trivial|apply And.intro) <;> (repeat' first|exact rfl|exact trivial|apply And.intro)); all_goals ((first|exact sc_eq (by omega) | exact down_rows h5 ha hr5))))
      ·have h6 : ¬ ltT q r := of_decide_eq_false h6;rw [if_neg h6] at hsu;refine Pick.n ?_;refine Next.by (i + 1) (by omega) (by omega) (by refine Weak.bw (sg 0 [_,_,_,_,_,_,_,_,_,_,_,_,_]) (by ((repeat' first|exact rfl|exact trivial|apply And.intro) <;> (repeat' first|exact rfl|exact trivial|apply And.intro)); all_goals ((first|exact sc_eq (by omega) | (rw [hnx]; unfold insT; rw [<- hsp, hsu]; done)))))
     ·have h5 : a = 0 := by have := of_decide_eq_false h5; omega
      subst h5;refine Pick.n ?_;refine Next.by (i + 1) (by omega) (by omega) (by refine Weak.bw (sg 0 [_,_,_,_,_,_,_,_,_,_,_,_,_]) (by ((repeat' first|exact rfl|exact trivial|apply And.intro) <;> (repeat' first|exact rfl|exact trivial|apply And.intro)); all_goals ((first|exact sc_eq (by omega) | (rw [hnx]; unfold insT; rw [<- hsp]; rfl)))))
    have hin3 : i = L.length := by have := of_decide_eq_false hc3; omega
    subst hin3;rw [List.take_length];obtain ⟨S, hS⟩ : ∃ S, srtT (L.map orient) = S := ⟨_, rfl⟩;have hSp := (srtT_all (L.map orient)).1;rw [hS] at hSp ⊢;have hSl : S.length = L.length := by rw [hSp.length_eq, List.length_map]
    have hSm : ∀ x ∈ S, x.length <= 2 * F.length := fun x hx => by
     obtain ⟨y, hy, rfl⟩ := List.mem_map.1 (hSp.mem_iff.1 hx);have := hLp y hy;unfold orient;split <;> (try rw [List.length_reverse]) <;> omega
    have hF9 : F.length <= 20 * 20 := right_sq hR (by omega);refine Call.by _ _ (SubC_at (n := m) (E := F) (k := 1) (Ts := Ts) (L := S) ⟨by rw [hSl]; omega, fun x hx => by have := hSm x hx; omega⟩) ?_;refine Pick.by (fun h7 => ?_) (fun h7 => ?_)
    ·have h7 : ¬ SubP m F 1 Ts S := fun h => by
      have h7 : (!subB m F 1 Ts S) = true := h7;rw [subB_iff.2 h] at h7; cases h7
     have hP : ¬ ReadP m F := fun h => h7 (by
      obtain ⟨L', q1, q2⟩ := fin_yes h;rw [hL] at q1;injection q1 with q1
      subst q1;have := h.2.2.2.2;rw [<- q2, hS, hTs, show kindT Ts = 1 from (by unfold kindT; rw [a1]; rfl)] at this;exact this)
     rw [readF_no hP] at h9;cases h9;refine Call.by _ _ (Same9C_at (a := ((0, [], []) : Sb)) (b := ((0, [], []) : Sb)) ⟨⟨by simp, by simp [small]⟩, by simp, by simp [small]⟩) ?_;refine Call.by _ _ (RestC_at m0 F0) ?_;refine Call.by _ _ (RestSC_at hk) ?_;rw [hmF];refine Call.by _ _ (SameGC_at (n := m) (l := F) (n' := m) (m := F) (by omega)) ?_;refine Seg.by (by kernel_rfl) ?_;exact ⟨rfl, congrArg Sc.b (decide_eq_true rfl)⟩
    ·have h7 : SubP m F 1 Ts S := by
      have h7 : (!subB m F 1 Ts S) = false := h7;exact subB_iff.1 (by simpa using h7)
     have hP : ReadP m F := Classical.byContradiction fun h => by
      refine fin_no hR h hL (k := 1) ?_;rw [hS, hTs]; exact h7
     obtain ⟨L', q1, q2⟩ := fin_yes hP;rw [hL] at q1;injection q1 with q1
     subst q1;have e9 := readF_yes hP;rw [<- q2, hS, hTs, show kindT Ts = 1 from (by unfold kindT; rw [a1]; rfl), h9] at e9;cases e9;refine Call.by _ _ (Same9C_at (a := ((1, T9, L9) : Sb)) (b := ((1, T9, L9) : Sb)) ⟨⟨by show T9.length <= _; omega, by show L9.length <= _; omega, fun x hx => by have := hSm x hx; omega⟩, by show T9.length <= _; omega, by show L9.length <= _; omega, fun x hx => by have := hSm x hx; omega⟩) ?_;refine Pick.T (decide_eq_true rfl) ?_;refine Call.by _ _ (RestC_at m0 F0) ?_;refine Call.by _ _ (RestSC_at hk) ?_;rw [hmF];refine Call.by _ _ (SameGC_at (n := m) (l := F) (n' := m) (m := F) (by omega)) ?_;refine Seg.by (by kernel_rfl) ?_;exact ⟨rfl, congrArg Sc.b (decide_eq_true rfl)⟩
   ·have a2 : ¬ L.length = 6 := by have := ne_of_beq_false a2; omega
    have hP : ¬ ReadP m F := none_ (by omega);rw [readF_no hP] at h9;cases h9;refine Pick.F (beq_eq_false_iff_ne.2 (by omega)) ?_;refine Call.by _ _ (Same9C_at (a := ((0, [], []) : Sb)) (b := ((0, [], []) : Sb)) ⟨⟨by simp, by simp [small]⟩, by simp, by simp [small]⟩) ?_;refine Call.by _ _ (RestC_at m0 F0) ?_;refine Call.by _ _ (RestSC_at hk) ?_;rw [hmF];refine Call.by _ _ (SameGC_at (n := m) (l := F) (n' := m) (m := F) (by omega)) ?_;refine Seg.by (by kernel_rfl) ?_;exact ⟨rfl, congrArg Sc.b (decide_eq_true rfl)⟩
  ·have a1 : ¬ Ts.length = 4 := by have := ne_of_beq_false a1; omega
   refine Pick.by (fun a3 => ?_) (fun a3 => ?_)
   ·have a3 : Ts.length = 2 := by have := eq_of_beq a3; omega
    refine Pick.by (fun a2 => ?_) (fun a2 => ?_)
    ·have a2 : L.length = 3 := by have := eq_of_beq a2; omega
     refine LoopP.intro (α := Nat) (fun i => i <= L.length) (fun i => L.length - i) (fun i => [(1, .ptr 3 0), (2, .ptr 6 0), (4, .ptr 7 0), (6, .sl 5 none none), (7, .s (.i .i64 i)), (1000002, .ptr 0 0), (2000003, .s (.b true)), (2000004, .ptr 1 0), (2000005, .ptr 10 0), (2000006, .s (.b b9))])
      (fun i => [(0, some (.blk [.s (.i .i64 0), .nils, .nils])), (1, some (.blk [.s (.i .i64 m0), .sl 2 none none])), (2, some (.flat true 2 (edges F0))), (3, some (.blk [.s (.i .i64 m), .sl 4 none none])), (4, some (.flat true 2 (edges F))), (5, some (.fnest true 1 (rowsI L))), (6, some (.blk [.s (.i .i64 0), .nils, .nils])), (7, some (.blk [.s (.i .i64 2), .sl 8 none none, .sl 9 none none])), (8, some (.flat true 1 (ints Ts))), (9, some (.fnest true 1 (rowsI (srtT ((L.take i).map orient))))), (10, some (.blk [.s (.i .i64 k9), .sl 11 none none, .sl 12 none none])), (11, some (.flat true 1 (ints T9))), (12, some (.nest true 1 (rowsI L9) [] []))]) 13 0 (by omega) (by refine Weak.ba [(0, some _), (1, some _), (2, some _), (3, some _), (4, some _), (5, some _), (6, some _), (7, some _), (8, some _), (9, none), (10, some _), (11, some _), (12, some _)]) ?_
     rintro i hi;refine Pick.by (fun hc3 => ?_) (fun hc3 => ?_)
     ·have hlt3 : i < L.length := by have := of_decide_eq_true hc3; omega
      obtain ⟨p, hp⟩ : ∃ p, L[i] = p := ⟨_, rfl⟩;have hLi : L[i]? = some p := by rw [qEq hlt3, hp]
      have hpm : p ∈ L := qMq hLi;have hp2 := hI.two p hpm;have hpl := hLp p hpm;have hpi := (qiq p);have g : ∀ {i : Nat}, i < p.length -> (ints p)[i]? = some [.i .i64 (p.getD i 0)] := fun h => qhq (by rw [qDq, qEq h]; rfl)
      have iI : inI64 (((ints p).length : Int) - 1) = true := inI64_of (by omega) (by omega);have hhd : p.headD 0 = p.getD 0 0 := headD_at (by omega);have hld : p.getLastD 0 = p.getD (p.length - 1) 0 := lastD_at;obtain ⟨q, hq⟩ : ∃ q, orient p = q := ⟨_, rfl⟩;have hql : q.length = p.length := by rw [<- hq]; unfold orient; split <;> simp
      obtain ⟨P, hPe⟩ : ∃ P, srtT ((L.take i).map orient) = P := ⟨_, rfl⟩;have hPp := (srtT_all ((L.take i).map orient)).1;rw [hPe] at hPp;have hPl : P.length = i := by rw [hPp.length_eq, List.length_map, List.length_take]; omega
      have hPm : ∀ x ∈ P, 2 <= x.length /\ x.length <= 8000 := fun x hx => by
       obtain ⟨y, hy, rfl⟩ := List.mem_map.1 (hPp.mem_iff.1 hx);have hy := List.mem_of_mem_take hy;have := hI.two y hy;have := hLp y hy;unfold orient;split <;> (try rw [List.length_reverse]) <;> omega
      have hnx : srtT ((L.take (i + 1)).map orient) = insT q P := by
       rw [List.take_add_one, hLi, <- hq, <- hPe, <- srtT_snoc]; simp
      rw [hPe];refine Idx.by i rfl (by rw [qrq]; exact hlt3) ?_;refine Look.by _ (qgq hLi) ?_;refine Idx.by 0 rfl (by omega) ?_;refine Look.by _ (g (by omega)) ?_;refine Pick.T iI ?_;refine Idx.by (p.length - 1) (by omega) (by omega) ?_;refine Look.by _ (g (by omega)) ?_;refine Seg.by (by kernel_rfl) ?_;refine JoinP.intro (α := Unit) (fun _ => True) (fun _ => [(1, .ptr 3 0), (2, .ptr 6 0), (4, .ptr 7 0), (6, .sl 5 none none), (7, .s (.i .i64 i)), (8, .sl 13 none none), (1000002, .ptr 0 0), (2000003, .s (.b true)), (2000004, .ptr 1 0), (2000005, .ptr 10 0), (2000006, .s (.b b9))])
       (fun _ => [(0, some (.blk [.s (.i .i64 0), .nils, .nils])), (1, some (.blk [.s (.i .i64 m0), .sl 2 none none])), (2, some (.flat true 2 (edges F0))), (3, some (.blk [.s (.i .i64 m), .sl 4 none none])), (4, some (.flat true 2 (edges F))), (5, some (.fnest true 1 (rowsI L))), (6, some (.blk [.s (.i .i64 0), .nils, .nils])), (7, some (.blk [.s (.i .i64 2), .sl 8 none none, .sl 9 none none])), (8, some (.flat true 1 (ints Ts))), (9, some (.fnest true 1 (rowsI P))), (10, some (.blk [.s (.i .i64 k9), .sl 11 none none, .sl 12 none none])), (11, some (.flat true 1 (ints T9))), (12, some (.nest true 1 (rowsI L9) [] [])), (13, some (.flat false 1 (ints q)))]) 14 ?_ ?_
      ·refine Pick.by (fun h1 => ?_) (fun h1 => ?_)
       ·have h1 : p.getLastD 0 < p.headD 0 := by rw [hhd, hld]; have := of_decide_eq_true h1; omega
        have e1 : p.reverse = q := by rw [<- hq]; unfold orient; rw [if_pos h1]
        refine Call.by _ _ (TurnedC_at (l := p) (by omega)) ?_;refine ⟨(), trivial, ?_⟩;refine Weak.bf [333] (sg 0 [_,_,_,_,_,_,_,_,_,_,_,_,_,_]) (by ((repeat' first|exact rfl|exact trivial|apply And.intro) <;> (repeat' first|exact rfl|exact trivial|apply And.intro)); all_goals (rw [e1])) (by rfl)
       ·have h1 : ¬ p.getLastD 0 < p.headD 0 := by rw [hhd, hld]; have := of_decide_eq_false h1; omega
        have e1 : p = q := by rw [<- hq]; unfold orient; rw [if_neg h1]
        refine ⟨(), trivial, ?_⟩;refine Weak.bw (sg 0 [_,_,_,_,_,_,_,_,_,_,_,_,_,_]) (by ((repeat' first|exact rfl|exact trivial|apply And.intro) <;> (repeat' first|exact rfl|exact trivial|apply And.intro)); all_goals (rw [e1]))
      rintro _ -;refine Pick.T (by rw [decide_eq_true_iff, qrq]; show _ + 1 <= _; omega) ?_;refine LoopP.intro (α := Nat) (fun a => a <= P.length /\ spot q P a = spot q P P.length) (fun a => a) (fun a => [(1, .ptr 3 0), (2, .ptr 6 0), (4, .ptr 7 0), (6, .sl 5 none none), (7, .s (.i .i64 i)), (8, .sl 13 none none), (9, .s (.i .i64 a)), (1000002, .ptr 0 0), (2000003, .s (.b true)), (2000004, .ptr 1 0), (2000005, .ptr 10 0), (2000006, .s (.b b9))])
       (fun a => [(0, some (.blk [.s (.i .i64 0), .nils, .nils])), (1, some (.blk [.s (.i .i64 m0), .sl 2 none none])), (2, some (.flat true 2 (edges F0))), (3, some (.blk [.s (.i .i64 m), .sl 4 none none])), (4, some (.flat true 2 (edges F))), (5, some (.fnest true 1 (rowsI L))), (6, some (.blk [.s (.i .i64 0), .nils, .nils])), (7, some (.blk [.s (.i .i64 2), .sl 8 none none, .sl 9 none none])), (8, some (.flat true 1 (ints Ts))), (9, some (.fnest true 1 (rowsI (P.take a ++ q :: P.drop a)))), (10, some (.blk [.s (.i .i64 k9), .sl 11 none none, .sl 12 none none])), (11, some (.flat true 1 (ints T9))), (12, some (.nest true 1 (rowsI L9) [] [])), (13, some (.flat false 1 (ints q)))]) 14 P.length ⟨Nat.le_refl _, rfl⟩ (by refine Weak.bw (sg 0 [_,_,_,_,_,_,_,_,_,_,_,_,_,_]) (by ((repeat' first|exact rfl|exact trivial|apply And.intro) <;> (repeat' first|exact rfl|exact trivial|apply And.intro)); all_goals ((first|exact sc_eq (by rw [qrq]) | (rw [List.take_length, List.drop_length]; exact rowsI_snoc _ _))))) ?_
      rintro a ⟨ha, hsp⟩;have hll : (P.take a ++ q :: P.drop a).length = P.length + 1 := by simp; omega
      refine Pick.by (fun h5 => ?_) (fun h5 => ?_)
      ·have h5 : 0 < a := by have := of_decide_eq_true h5; omega
       obtain ⟨r, hr5⟩ : ∃ r, P[a - 1]'(by omega) = r := ⟨_, rfl⟩;have hrm := hPm r (by rw [<- hr5]; exact List.getElem_mem _);have hrow : (rowsI (P.take a ++ q :: P.drop a))[a - 1]? = some (ints r) := qgq (by
        rw [qLq (by rw [List.length_take]; omega), List.getElem?_take, if_pos (by omega), qEq (by omega), hr5])
       have iA : inI64 ((a : Int) - 1) = true := inI64_of (by omega) (by omega);refine Pick.T iA ?_;refine Idx.by (a - 1) (by omega) (by rw [qrq, hll]; omega) ?_;refine Look.by _ hrow ?_;refine Call.by _ _ (AheadC_at (p := q) (q := r) ⟨⟨by omega, by omega⟩, by omega, by omega⟩) ?_;have hsu : spot q P a = if ltT q r then spot q P (a - 1) else a := by
        obtain ⟨b, rfl⟩ : ∃ b, a = b + 1 := ⟨a - 1, by omega⟩;have : P.getD b [] = r := by rw [qDq, qEq (by omega), <- hr5]; rfl
        show (if ltT q (P.getD b []) then spot q P b else b + 1) = _
        rw [this]; rfl
       refine Pick.by (fun h6 => ?_) (fun h6 => ?_)
       ·have h6 : ltT q r := of_decide_eq_true h6;rw [if_pos h6] at hsu;refine Pick.T iA ?_;refine Idx.by (a - 1) (by omega) (by rw [qrq, hll]; omega) ?_;refine Look.by _ hrow ?_;refine Idx.by a rfl (by rw [qrq, hll]; omega) ?_;refine Pick.T (by rw [decide_eq_true_iff, qrq, hll]; omega) ?_;refine Seg.by (by kernel_rfl) ?_;refine Pick.T iA ?_;refine Idx.by (a - 1) (by omega) (by rw [List.length_set, qrq, hll]; omega) ?_;refine Pick.T (by rw [decide_eq_true_iff, List.length_set, qrq, hll]; omega) ?_;refine Pick.T iA ?_;refine Next.by (a - 1) ⟨by omega, by rw [<- hsu, hsp]⟩ (by omega) (by refine Weak.bw (sg 0 [_,_,_,_,_,_,_,_,_,_,_,_,_,_]) (by ((repeat' first|exact rfl|exact trivial|apply And.intro) <;> (repeat' first|exact rfl|exact trivial|apply And.intro)); all_goals ((first|exact sc_eq (by omega) | exact down_rows h5 ha hr5))))
       ·have h6 : ¬ ltT q r := of_decide_eq_false h6;rw [if_neg h6] at hsu;refine Pick.n ?_;refine Next.by (i + 1) (by omega) (by omega) (by refine Weak.bw (sg 0 [_,_,_,_,_,_,_,_,_,_,_,_,_]) (by ((repeat' first|exact rfl|exact trivial|apply And.intro) <;> (repeat' first|exact rfl|exact trivial|apply And.intro)); all_goals ((first|exact sc_eq (by omega) | (rw [hnx]; unfold insT; rw [<- hsp, hsu]; done)))))
      ·have h5 : a = 0 := by have := of_decide_eq_false h5; omega
       subst h5;refine Pick.n ?_;refine Next.by (i + 1) (by omega) (by omega) (by refine Weak.bw (sg 0 [_,_,_,_,_,_,_,_,_,_,_,_,_]) (by ((repeat' first|exact rfl|exact trivial|apply And.intro) <;> (repeat' first|exact rfl|exact trivial|apply And.intro)); all_goals ((first|exact sc_eq (by omega) | (rw [hnx]; unfold insT; rw [<- hsp]; rfl)))))
     have hin3 : i = L.length := by have := of_decide_eq_false hc3; omega
     subst hin3;rw [List.take_length];obtain ⟨S, hS⟩ : ∃ S, srtT (L.map orient) = S := ⟨_, rfl⟩;have hSp := (srtT_all (L.map orient)).1;rw [hS] at hSp ⊢;have hSl : S.length = L.length := by rw [hSp.length_eq, List.length_map]
     have hSm : ∀ x ∈ S, x.length <= 2 * F.length := fun x hx => by
      obtain ⟨y, hy, rfl⟩ := List.mem_map.1 (hSp.mem_iff.1 hx);have := hLp y hy;unfold orient;split <;> (try rw [List.length_reverse]) <;> omega
     have hF9 : F.length <= 20 * 20 := right_sq hR (by omega);refine Call.by _ _ (SubC_at (n := m) (E := F) (k := 2) (Ts := Ts) (L := S) ⟨by rw [hSl]; omega, fun x hx => by have := hSm x hx; omega⟩) ?_;refine Pick.by (fun h7 => ?_) (fun h7 => ?_)
     ·have h7 : ¬ SubP m F 2 Ts S := fun h => by
       have h7 : (!subB m F 2 Ts S) = true := h7;rw [subB_iff.2 h] at h7; cases h7
      have hP : ¬ ReadP m F := fun h => h7 (by
       obtain ⟨L', q1, q2⟩ := fin_yes h;rw [hL] at q1;injection q1 with q1
       subst q1;have := h.2.2.2.2;rw [<- q2, hS, hTs, show kindT Ts = 2 from (by unfold kindT; rw [a3]; rfl)] at this;exact this)
      rw [readF_no hP] at h9;cases h9;refine Call.by _ _ (Same9C_at (a := ((0, [], []) : Sb)) (b := ((0, [], []) : Sb)) ⟨⟨by simp, by simp [small]⟩, by simp, by simp [small]⟩) ?_;refine Call.by _ _ (RestC_at m0 F0) ?_;refine Call.by _ _ (RestSC_at hk) ?_;rw [hmF];refine Call.by _ _ (SameGC_at (n := m) (l := F) (n' := m) (m := F) (by omega)) ?_;refine Seg.by (by kernel_rfl) ?_;exact ⟨rfl, congrArg Sc.b (decide_eq_true rfl)⟩
     ·have h7 : SubP m F 2 Ts S := by
       have h7 : (!subB m F 2 Ts S) = false := h7;exact subB_iff.1 (by simpa using h7)
      have hP : ReadP m F := Classical.byContradiction fun h => by
       refine fin_no hR h hL (k := 2) ?_;rw [hS, hTs]; exact h7
      obtain ⟨L', q1, q2⟩ := fin_yes hP;rw [hL] at q1;injection q1 with q1
      subst q1;have e9 := readF_yes hP;rw [<- q2, hS, hTs, show kindT Ts = 2 from (by unfold kindT; rw [a3]; rfl), h9] at e9;cases e9;refine Call.by _ _ (Same9C_at (a := ((2, T9, L9) : Sb)) (b := ((2, T9, L9) : Sb)) ⟨⟨by show T9.length <= _; omega, by show L9.length <= _; omega, fun x hx => by have := hSm x hx; omega⟩, by show T9.length <= _; omega, by show L9.length <= _; omega, fun x hx => by have := hSm x hx; omega⟩) ?_;refine Pick.T (decide_eq_true rfl) ?_;refine Call.by _ _ (RestC_at m0 F0) ?_;refine Call.by _ _ (RestSC_at hk) ?_;rw [hmF];refine Call.by _ _ (SameGC_at (n := m) (l := F) (n' := m) (m := F) (by omega)) ?_;refine Seg.by (by kernel_rfl) ?_;exact ⟨rfl, congrArg Sc.b (decide_eq_true rfl)⟩
    ·have a2 : ¬ L.length = 3 := by have := ne_of_beq_false a2; omega
     have hP : ¬ ReadP m F := none_ (by omega);rw [readF_no hP] at h9;cases h9;refine Call.by _ _ (Same9C_at (a := ((0, [], []) : Sb)) (b := ((0, [], []) : Sb)) ⟨⟨by simp, by simp [small]⟩, by simp, by simp [small]⟩) ?_;refine Call.by _ _ (RestC_at m0 F0) ?_;refine Call.by _ _ (RestSC_at hk) ?_;rw [hmF];refine Call.by _ _ (SameGC_at (n := m) (l := F) (n' := m) (m := F) (by omega)) ?_;refine Seg.by (by kernel_rfl) ?_;exact ⟨rfl, congrArg Sc.b (decide_eq_true rfl)⟩
   ·have a3 : ¬ Ts.length = 2 := by have := ne_of_beq_false a3; omega
    have hP : ¬ ReadP m F := none_ (by omega);rw [readF_no hP] at h9;cases h9;refine Call.by _ _ (Same9C_at (a := ((0, [], []) : Sb)) (b := ((0, [], []) : Sb)) ⟨⟨by simp, by simp [small]⟩, by simp, by simp [small]⟩) ?_;refine Call.by _ _ (RestC_at m0 F0) ?_;refine Call.by _ _ (RestSC_at hk) ?_;rw [hmF];refine Call.by _ _ (SameGC_at (n := m) (l := F) (n' := m) (m := F) (by omega)) ?_;refine Seg.by (by kernel_rfl) ?_;exact ⟨rfl, congrArg Sc.b (decide_eq_true rfl)⟩
noncomputable def TTellF := conF (fun _ : Int × List Ed => True) (fun a => [grV a.1 a.2]) (fun _ => .one (.s (.b true)))
theorem TTell_ok : SoundP Tryz.prog 4 TTellF := by
 intro vs r outs h
 obtain ⟨a, _, rfl, rfl⟩ := conF_inv h
 have ho : outs = [] := by
  unfold TTellF conF at h;split at h
  ·injection h with h; injection h with _ h; exact h.symm
  ·cases h
 subst ho
 by_cases hk : Keep (anyN a.1 9) (anyE a.1 a.2 9)
 ·exact TTk_ok _ _ _ (conF_at (fun _ _ _ _ _ => rfl) (a := a) hk)
 ·exact TTs_ok _ _ _ (conF_at (fun _ _ _ _ _ => rfl) (a := a) hk)
theorem VTy.struct {T : Tab} {t : Nat} {ti : TI} {fs : List (Nat × Nat)} {v : V} (ht : lk T t = some ti) (hk : ti.kind = .struct fs) (h : VTy T t v) : ∃ cs, v = .agg cs /\ All2 (fun (f : Nat × Nat) c => CTy T f.2 c) fs cs := by
 unfold VTy at h
 rw [ht] at h
 simp only at h
 rw [hk] at h
 exact h
theorem VTy.cell {T : Tab} {t : Nat} {ti : TI} {v : V} (ht : lk T t = some ti) (hk : ∀ fs, ti.kind ≠ .struct fs /\ ∀ n e, ti.kind ≠ .array n e) (h : VTy T t v) : ∃ c, v = .one c /\ CTy T t c := by
 unfold VTy at h
 rw [ht] at h
 simp only at h
 cases hq : ti.kind with
 | struct fs => exact absurd hq (hk fs).1
 | array n e => exact absurd hq ((hk []).2 n e)
 | _ => rw [hq] at h; exact h
theorem VTy.array {T : Tab} {t : Nat} {ti : TI} {n e : Nat} {v : V} (ht : lk T t = some ti) (hk : ti.kind = .array n e) (h : VTy T t v) : ∃ cs, v = .agg cs /\ cs.length = n /\ ∀ c ∈ cs, CTy T e c := by
 unfold VTy at h
 rw [ht] at h
 simp only at h
 rw [hk] at h
 exact h
theorem ScTy.int {T : Tab} {t : Nat} {ti : TI} {k : IntKind} {x : Sc} (ht : lk T t = some ti) (hk : ti.kind = .int k) (h : ScTy T t x) : ∃ n, x = .i k n /\ (Lit.int k n).wf = true := by
 unfold ScTy at h
 rw [ht] at h
 simp only at h
 rw [hk] at h
 cases x with
 | i k' n => obtain ⟨rfl, h⟩ := h; exact ⟨n, rfl, h⟩
 | b _ => exact h.elim
theorem CTy.sc {T : Tab} {t : Nat} {c : C} (hs : sliceE T t = none) (h : CTy T t c) : ∃ x, c = .s x /\ ScTy T t x := by
 unfold CTy at h
 rw [hs] at h
 exact h
theorem CTy.flat {T : Tab} {t e : Nat} {c : C} (hs : sliceE T t = some e) (hs2 : sliceE T e = none) (h : CTy T t c) : ∃ rows, c = .flat false (sizeT T e) rows /\ FlatTy T e rows := by
 unfold CTy at h
 rw [hs] at h
 simp only at h
 rw [hs2] at h
 exact h
theorem CTy.nest {T : Tab} {t e e2 : Nat} {c : C} (hs : sliceE T t = some e) (hs2 : sliceE T e = some e2) (h : CTy T t c) : ∃ rows, c = .nest false (sizeT T e2) rows /\ rows.length <= maxLen /\ ∀ fl ∈ rows, FlatTy T e2 fl := by
 unfold CTy at h
 rw [hs] at h
 simp only at h
 rw [hs2] at h
 exact h
theorem i64_wf {n : Int} (h : (Lit.int .i64 n).wf = true) : i64 n := by
 simp [Lit.wf, IntKind.min, IntKind.max, IntKind.signed, IntKind.bits] at h
 exact h
theorem list_ex {α β : Type} {P : α -> β -> Prop} : ∀ {l : List α}, (∀ x ∈ l, ∃ y, P x y) -> ∃ m : List β, All2 P l m := by
 intro l
 induction l with
 | nil => intro _; exact ⟨[], All2.nil⟩
 | cons x l ih =>
  intro h;obtain ⟨y, hy⟩ := h x (by simp);obtain ⟨m, hm⟩ := ih fun x hx => h x (by simp [hx])
  exact ⟨y :: m, All2.cons' hy hm⟩
theorem All2.map_eq {α β : Type} {f : β -> α} {l : List α} {m : List β} (h : All2 (fun x y => x = f y) l m) : l = m.map f := by
 apply List.ext_getElem?
 intro i
 rw [List.getElem?_map]
 by_cases hi : i < l.length
 ·have him : i < m.length := by rw [<- h.1]; exact hi
  rw [qEq hi, qEq him, Option.map_some, h.2 i _ _ (qEq hi) (qEq him)]
 ·rw [List.getElem?_eq_none (by omega), List.getElem?_eq_none (by rw [<- h.1]; omega)]; rfl
theorem All2.mem {α β : Type} {R : α -> β -> Prop} {l : List α} {m : List β} (h : All2 R l m) {y : β} (hy : y ∈ m) : ∃ x ∈ l, R x y := by
 obtain ⟨i, hi⟩ := List.mem_iff_getElem?.1 hy
 have hl := (qSq.1 hi).1
 rw [<- h.1] at hl
 exact ⟨_, List.getElem_mem hl, h.2 i _ y (qEq hl) hi⟩
theorem row_int {row : Row} (h : RowTy T 3 row) : ∃ n, row = [.i .i64 n] /\ i64 n := by
 obtain ⟨x, rfl, hx⟩ := h
 obtain ⟨n, rfl, hw⟩ := ScTy.int (t := 3) rfl rfl hx
 exact ⟨n, rfl, i64_wf hw⟩
theorem ints_of {fl : Flat} (h : FlatTy T 3 fl) : ∃ l : List Int, fl = ints l /\ l.length <= maxLen /\ ∀ x ∈ l, i64 x := by
 obtain ⟨m, hm⟩ := list_ex (P := fun row n => row = [Sc.i .i64 n] /\ i64 n) fun row hr => row_int (h.2 row hr)
 refine ⟨m, All2.map_eq (f := fun n => [Sc.i .i64 n]) (hm.imp fun _ _ _ k => k.1), by rw [<- hm.1]; exact h.1, fun x hx => ?_⟩
 obtain ⟨_, _, k⟩ := hm.mem hx
 exact k.2
theorem All2.two {α β : Type} {R : α -> β -> Prop} {a b : α} {m : List β} (h : All2 R [a, b] m) : ∃ x y, m = [x, y] /\ R a x /\ R b y := by
 obtain ⟨h1, h2⟩ := h
 match m, h1, h2 with
 | [x, y], _, h2 => exact ⟨x, y, rfl, h2 0 a x rfl rfl, h2 1 b y rfl rfl⟩
theorem All2.one {α β : Type} {R : α -> β -> Prop} {a : α} {m : List β} (h : All2 R [a] m) : ∃ x, m = [x] /\ R a x := by
 obtain ⟨h1, h2⟩ := h
 match m, h1, h2 with
 | [x], _, h2 => exact ⟨x, rfl, h2 0 a x rfl rfl⟩
theorem All2.three {α β : Type} {R : α -> β -> Prop} {a b c : α} {m : List β} (h : All2 R [a, b, c] m) : ∃ x y z, m = [x, y, z] /\ R a x /\ R b y /\ R c z := by
 obtain ⟨h1, h2⟩ := h
 match m, h1, h2 with
 | [x, y, z], _, h2 => exact ⟨x, y, z, rfl, h2 0 a x rfl rfl, h2 1 b y rfl rfl, h2 2 c z rfl rfl⟩
theorem row_edge {row : Row} (h : RowTy T 43 row) : ∃ p : Ed, row = [.i .i64 p.1, .i .i64 p.2] /\ i64 p.1 /\ i64 p.2 := by
 obtain ⟨_, h⟩ := h
 obtain ⟨x, y, rfl, hx, hy⟩ := All2.two h
 obtain ⟨n, rfl, hn⟩ := ScTy.int (t := 3) rfl rfl hx
 obtain ⟨m, rfl, hm⟩ := ScTy.int (t := 3) rfl rfl hy
 exact ⟨(n, m), rfl, i64_wf hn, i64_wf hm⟩
theorem edges_of {fl : Flat} (h : FlatTy T 43 fl) : ∃ E : List Ed, fl = edges E /\ E.length <= maxLen /\ ∀ p ∈ E, i64 p.1 /\ i64 p.2 := by
 obtain ⟨m, hm⟩ := list_ex (P := fun row (p : Ed) => row = [Sc.i .i64 p.1, Sc.i .i64 p.2] /\ i64 p.1 /\ i64 p.2) fun row hr => row_edge (h.2 row hr)
 refine ⟨m, All2.map_eq (f := fun p : Ed => [Sc.i .i64 p.1, Sc.i .i64 p.2]) (hm.imp fun _ _ _ k => k.1), by rw [<- hm.1]; exact h.1, fun x hx => ?_⟩
 obtain ⟨_, _, k⟩ := hm.mem hx
 exact k.2
theorem net_of {v : V} (h : VTy T 24 v) : ∃ n E, v = grV n E /\ i64 n /\ ∀ p ∈ E, i64 p.1 /\ i64 p.2 := by
 obtain ⟨cs, rfl, hcs⟩ := VTy.struct (t := 24) rfl rfl h
 obtain ⟨x, y, rfl, hx, hy⟩ := All2.two hcs
 obtain ⟨z, rfl, hz⟩ := CTy.sc (t := 3) rfl hx
 obtain ⟨n, rfl, hw⟩ := ScTy.int (t := 3) rfl rfl hz
 obtain ⟨rows, rfl, hr⟩ := CTy.flat (t := 22) (e := 43) rfl rfl hy
 obtain ⟨E, rfl, _, hE⟩ := edges_of hr
 exact ⟨n, E, rfl, i64_wf hw, hE⟩
theorem own : ownKnob Tryz.prog.godebug = none := by kernel_rfl
theorem laidOut : laidOutB Tryz.prog = true := by kernel_rfl
set_option maxRecDepth 100000 in
theorem law_row {s : ChangeSpec} {f : FuncId} {fn : Func} {conds : List PathCond} {apart fresh handsOn : Bool} {ts : List TypeId} {F : List V -> Option (V × List V)} (hf : Tryz.prog.funcs[f]? = some fn) (hin : Tryz.prog.inits.idxOf? f = none) (hv : s.vars = [])
  (hts : fn.params.toList = ts) (ha : ts.all (argB T) = true) (hr : ts.all (fun t => Tryz.prog.readableRec t && Nat.blt t Tryz.prog.types.size) = true) (hres : fn.resultTypes = #[4])
  (hsp : ∀ (H : Type) (ds : List (DataW H)), ds.length = ts.length -> (s.fn H ds).results = [.lit (.bool true)] /\ (s.fn H ds).args = ds /\ (s.fn H ds).vars = [])
  (hS : SoundP Tryz.prog f F) (hF : LawV T ts F) (os : Os) (started : os.Started) (H : Type) (enc : TypeId × Value -> H) (a : Assume)
  (hw : ∃ (w : World) (tape : Tape) (i : Input), w.os = os /\ (w.forCall tape i).Shaped Tryz.checked.prog /\ i.vars = [] /\ Input.okWide Tryz.checked.prog (w.forCall tape i) .any w.heap.size f i /\
   s.pre6 enc Tryz.checked.prog fn conds apart (w.forCall tape i).memory i.args /\ a.holds Tryz.checked.prog (lone (Frame.enter Tryz.checked.prog f i.args .normal) [] (w.forCall tape i))) :
  ReturnsInHanded a Tryz.checked os f .any (s.pre6 enc Tryz.checked.prog fn conds apart) (s.post enc Tryz.checked.prog fn apart fresh handsOn false) := by
 refine returnsInHanded_of_change (C := Tryz.checked) own started hin hf hw ?_
 intro W base args ds gs before hval hW _ _
 refine law_contract (P := Tryz.prog) (conds := conds) hT laidOut hv hts ha (fun t ht => ?_) hres Tryz.underlying4 (hsp H) hS hF hval hW
 have := List.all_eq_true.1 hr t ht
 simp only [Bool.and_eq_true] at this
 exact ⟨this.1, Nat.le_of_ble_eq_true this.2⟩
theorem ScTy.bool {T : Tab} {t : Nat} {ti : TI} {x : Sc} (ht : lk T t = some ti) (hk : ti.kind = .bool) (h : ScTy T t x) : ∃ b, x = .b b := by
 unfold ScTy at h
 rw [ht] at h
 simp only at h
 rw [hk] at h
 cases x with
 | i k' n => exact h.elim
 | b b => exact ⟨b, rfl⟩
theorem All2.four {α β : Type} {R : α -> β -> Prop} {a b c d : α} {m : List β} (h : All2 R [a, b, c, d] m) : ∃ x y z t, m = [x, y, z, t] /\ R a x /\ R b y /\ R c z /\ R d t := by
 obtain ⟨h1, h2⟩ := h
 match m, h1, h2 with
 | [x, y, z, t], _, h2 => exact ⟨x, y, z, t, rfl, h2 0 a x rfl rfl, h2 1 b y rfl rfl, h2 2 c z rfl rfl, h2 3 d t rfl rfl⟩
end Go.Sh
