/- What the functions answer that the statement reaches. No condition. -/
import Derived.Test.YtdbpjkehidechaaGreatFn3
import Derived.Test.YtdbpjkehidechaaGreatRows
set_option linter.unusedVariables false
set_option linter.unusedSimpArgs false
set_option linter.unusedSectionVars false
namespace Go.Sh
open Go.Proofs
theorem right_few {n : Int} {E : List Ed} (hR : RightP n E) (hn : n <= 60) : E.length <= 3600 := by
 have h0 := hR.1
 have h1 := nodup_lenG (edge_nodup hR) (m := (List.range n.toNat).flatMap fun (x : Nat) => (List.range n.toNat).map fun (y : Nat) => ((x : Int), (y : Int))) fun e he => by
  have := hR.2.2.2.1 e he
  unfold okE at this
  refine List.mem_flatMap.2 ⟨e.1.toNat, List.mem_range.2 (by omega), List.mem_map.2 ⟨e.2.toNat, List.mem_range.2 (by omega), ?_⟩⟩
  exact Prod.ext (by dsimp only; omega) (by dsimp only; omega)
 have h2 : ((List.range n.toNat).flatMap fun (x : Nat) => (List.range n.toNat).map fun (y : Nat) => ((x : Int), (y : Int))).length = n.toNat * n.toNat := by
  have hs : ∀ (k : Nat) (l : List Nat), (l.map fun _ => k).sum = l.length * k := fun k l => by
   induction l with
   | nil => simp
   | cons a l ih => rw [List.map_cons, List.sum_cons, ih, List.length_cons, Nat.succ_mul]; omega
  rw [List.length_flatMap]
  simp only [List.length_map, List.length_range]
  rw [hs, List.length_range]
 rw [h2] at h1
 exact Nat.le_trans h1 (Nat.mul_le_mul (show n.toNat <= 60 by omega) (show n.toNat <= 60 by omega))
theorem sorted_sub {D F : List Ed} (hD : D.Pairwise ltE) (hF : F.Pairwise ltE) (hs : ∀ x ∈ D, x ∈ F) : D.Sublist F := by
 have : D = F.filter fun x => decide (x ∈ D) := by
  refine sortedE_eq hD (hF.sublist List.filter_sublist) fun x => ?_
  rw [List.mem_filter, decide_eq_true_iff]
  exact ⟨fun h => ⟨hs x h, h⟩, fun h => h.2⟩
 rw [this]
 exact List.filter_sublist
theorem sub_sorted {n : Int} {E : List Ed} {T : List Int} {L : List (List Int)} (h : SubP n E 1 T L) (hT : T.Pairwise (· < ·)) : L.Pairwise ltT := by
 obtain ⟨a, b, c, d, rfl⟩ := four_of (T := T) (by rcases h.1 with ⟨_, h, _⟩ | ⟨e, _⟩; exact h; omega)
 obtain ⟨p0, p1, p2, p3, p4, p5, rfl⟩ := six_of (L := L) (by rcases h.1 with ⟨_, _, h⟩ | ⟨e, _⟩; exact h; omega)
 obtain ⟨⟨⟨_, g0, k0, _⟩, ⟨_, g1, k1, _⟩, ⟨_, g2, k2, _⟩, ⟨_, g3, k3, _⟩, ⟨_, g4, k4, _⟩, ⟨_, g5, k5, _⟩⟩, _⟩ := sub6.1 h
 simp only [List.pairwise_cons, List.mem_cons, List.not_mem_nil, or_false, forall_eq_or_imp, forall_eq, List.Pairwise.nil, and_true, false_imp_iff, implies_true] at hT ⊢
 unfold ltT
 omega
theorem right_wider {n n' : Int} {E : List Ed} (hR : RightP n E) (h : n <= n') (h2 : n' <= 1000) : RightP n' E := by
 obtain ⟨q1, q2, q3, q4, q5⟩ := hR
 refine ⟨by omega, h2, q3, fun p hp => ?_, q5⟩
 have := q4 p hp
 unfold okE at this ⊢
 omega
theorem sub_wider {n n' : Int} {E : List Ed} {k : Int} {T : List Int} {L : List (List Int)} (hS : SubP n E k T L) (hR' : RightP n' E) (h : n <= n') : SubP n' E k T L :=
 ⟨hS.1, fun i p hp => by
  obtain ⟨⟨_, h2, h3, h4⟩, h5⟩ := hS.2.1 i p hp
  exact ⟨⟨hR', h2, ⟨h3.1, by omega⟩, h4⟩, h5⟩, hS.2.2⟩
theorem k4O_self {n : Int} {E : List Ed} {T : List Int} {L : List (List Int)} (hR : RightP n E) (hn : n <= 63) (h : SubP n E 1 T L) (hE : ∀ x ∈ E, x ∈ segs L) (hT : T.Pairwise (· < ·)) : k4O n E = ((1, T, L), true) := by
 have hw := sub_wide hR h
 have hL := rest_least hR hw
 have he := sub_least hn hR h hE hL
 unfold k4O
 rw [restF_yes hR hw, he]
 exact (read_of hR h hE hT (sub_sorted h hT)).2
theorem k4O_hang {n n' : Int} {E E' : List Ed} {T : List Int} {L : List (List Int)} (hR : RightP n E) (hR' : RightP n' E') (hn : n <= n') (hn' : n' <= 63) (h : SubP n E 1 T L) (hE : ∀ x ∈ E, x ∈ segs L) (hT : T.Pairwise (· < ·))
  (hs : ∀ x ∈ E, x ∈ E') (hh : ∀ x ∈ E', x ∈ E \/ ∃ w, ∀ y, adjE E' x.2 y -> y = w) : k4O n' E' = ((1, T, L), true) := by
 have hRw := right_wider hR hn (by omega)
 have hS' := sub_wider h hRw hn
 have hw : narrowB n' E' = false := sub_wide hR' (sub_more hR' hS' fun a b => Or.imp (hs _) (hs _))
 have hL := rest_least hR' hw
 obtain ⟨D, hD⟩ : ∃ D, restK n' [] E' = D := ⟨_, rfl⟩
 rw [hD] at hL
 have hRD := right_sub hR' hL.sub
 obtain ⟨_, T', L', _, h2, _, hE2, _, _⟩ := least_read hR' hn' hL
 have hsub : ∀ x ∈ D, x ∈ E := fun x hx => by
  rcases hh x (hL.sub.subset hx) with k | ⟨w, hw⟩
  ·exact k
  ·exfalso
   have hx2 : x.1 ∈ nearL D x.2 := mem_nearL.2 (.inr hx)
   have h1 : (nearL D x.2).length <= 1 := by
    have := nodup_len (near_nodup hRD x.2) (m := [w]) fun y hy => by
     rw [hw y ((mem_nearL.1 hy).imp (hL.sub.subset ·) (hL.sub.subset ·))]; simp
    simpa using this
   have hp := List.length_pos_of_mem hx2
   rcases deg_kinds hRD h2 hE2 x.2 with ⟨_, k⟩ | ⟨_, k | k⟩ <;> omega
 have hLE : LeastP n' E D := ⟨sorted_sub hRD.2.2.2.2 hR.2.2.2.2 hsub, hL.wide, hL.least⟩
 have he := sub_least hn' hRw hS' hE hLE
 unfold k4O
 rw [restF_yes hR' hw, hD, he]
 exact (read_of hRw hS' hE hT (sub_sorted hS' hT)).2
def hang4E (m a b c d : Int) (j : Nat) : Ed := ((low (if j = 0 then a else if j = 1 then b else if j = 2 then c else d)).tmod m, m + j)
def hang4L (m a b c d : Int) (i : Nat) : List Ed := (List.range i).map (hang4E m a b c d)
theorem hang4L_succ (m a b c d : Int) (i : Nat) : hang4L m a b c d (i + 1) = hang4L m a b c d i ++ [hang4E m a b c d i] := by simp [hang4L, List.range_succ]
theorem mem_hang4 {m a b c d : Int} {x : Ed} : x ∈ hang4L m a b c d 4 ↔ ∃ j : Nat, j < 4 /\ x = hang4E m a b c d j := by
 unfold hang4L
 rw [List.mem_map]
 exact ⟨fun ⟨j, hj, e⟩ => ⟨j, List.mem_range.1 hj, e.symm⟩, fun ⟨j, hj, e⟩ => ⟨j, List.mem_range.2 hj, e.symm⟩⟩
theorem hang4_ok {m a b c d : Int} (h0 : 0 < m) {j : Nat} (hj : j < 4) : 0 <= (hang4E m a b c d j).1 /\ (hang4E m a b c d j).1 < m /\ (hang4E m a b c d j).2 = m + j := by
 have := tmod_range (low_range (if j = 0 then a else if j = 1 then b else if j = 2 then c else d)).1 h0
 exact ⟨this.1, this.2, rfl⟩
theorem norm_hang {m a b c d : Int} {F : List Ed} (hR : RightP m F) (h0 : 0 < m) (hm : m <= 50) : ∃ E', normF (m + 4) (F ++ hang4L m a b c d 4) = ((m + 4, E'), 0) /\ RightP (m + 4) E' /\ ∀ x, x ∈ E' ↔ x ∈ F \/ ∃ j : Nat, j < 4 /\ x = hang4E m a b c d j := by
 have hF := right_few hR (by omega)
 have hok : ∀ p ∈ F ++ hang4L m a b c d 4, (0 <= p.1 /\ p.1 < m + 4) /\ 0 <= p.2 /\ p.2 < m + 4 /\ p.1 < p.2 := fun p hp => by
  rcases List.mem_append.1 hp with hp | hp
  ·have := hR.2.2.2.1 p hp
   unfold okE at this
   omega
  ·obtain ⟨j, hj, rfl⟩ := mem_hang4.1 hp
   have := hang4_ok (a := a) (b := b) (c := c) (d := d) h0 hj
   omega
 have hlen := normE_length (F ++ hang4L m a b c d 4)
 have hl4 : (hang4L m a b c d 4).length = 4 := rfl
 rw [List.length_append, hl4] at hlen
 refine ⟨normE (F ++ hang4L m a b c d 4), ?_, ⟨by omega, by omega, by omega, normE_ok fun p hp => ⟨(hok p hp).1, (hok p hp).2.1, (hok p hp).2.2.1⟩, normE_sorted _⟩, fun x => ?_⟩
 ·unfold normF
  rw [if_neg (by omega), if_neg (by omega), if_pos (fun p hp => by
   have := hok p hp
   unfold inR
   omega), if_neg (by omega)]
 ·have hed : ∀ p ∈ F ++ hang4L m a b c d 4, p.1 ≠ p.2 /\ edN p = p := fun p hp => by
   have := hok p hp
   exact ⟨by omega, by unfold edN mnI mxI; rw [if_neg (by omega), if_pos (by omega)]⟩
  rw [mem_normE, <- mem_hang4, <- List.mem_append]
  constructor
  ·rintro ⟨p, hp, _, rfl⟩
   rw [(hed p hp).2]; exact hp
  ·intro hx
   exact ⟨x, hx, (hed x hx).1, (hed x hx).2.symm⟩
theorem hang_one {m a b c d : Int} {F E' : List Ed} (hR : RightP m F) (h0 : 0 < m) (hE : ∀ x, x ∈ E' ↔ x ∈ F \/ ∃ j : Nat, j < 4 /\ x = hang4E m a b c d j) : ∀ x ∈ E', x ∈ F \/ ∃ w, ∀ y, adjE E' x.2 y -> y = w := fun x hx => by
 rcases (hE x).1 hx with k | ⟨j, hj, rfl⟩
 ·exact .inl k
 refine .inr ⟨(hang4E m a b c d j).1, fun y hy => ?_⟩
 have hj2 := hang4_ok (a := a) (b := b) (c := c) (d := d) h0 hj
 have key : ∀ z ∈ E', (z.1 = (hang4E m a b c d j).2 -> False) /\ (z.2 = (hang4E m a b c d j).2 -> z = hang4E m a b c d j) := fun z hz => by
  rcases (hE z).1 hz with k | ⟨i, hi, rfl⟩
  ·have := hR.2.2.2.1 z k
   unfold okE at this
   exact ⟨fun e => by omega, fun e => by omega⟩
  ·have := hang4_ok (a := a) (b := b) (c := c) (d := d) h0 hi
   refine ⟨fun e => by omega, fun e => ?_⟩
   have : i = j := by omega
   rw [this]
 rcases hy with hy | hy
 ·exact ((key _ hy).1 rfl).elim
 ·have := (key _ hy).2 rfl
  rw [<- this]
noncomputable def TReadsF := conF (fun _ : (Int × List Ed) × (Int × Int × Int × Int) => True) (fun a => [grV a.1.1 a.1.2, .agg [.s (.i .i64 a.2.1), .s (.i .i64 a.2.2.1), .s (.i .i64 a.2.2.2.1), .s (.i .i64 a.2.2.2.2)]]) (fun _ => .one (.s (.b true)))
set_option maxHeartbeats 2000000 in
theorem TReads_ok : SoundP Tryz.prog 5 TReadsF := by
 refine con_pure (X := { Γ := [(12, Shown14C), (8, OfC), (9, ReadC), (18, NormC), (13, K4C), (11, Same9C)], T := T, nt := Tryz.f5.ntmps }) cr_none hmix hT (sound_cons Shown14_ok (sound_cons Of_ok (sound_cons Read_ok (sound_cons NormG_ok (sound_cons K4_ok (sound_cons Same9_ok sound_nil)))))) Tryz.func5 (by rfl) (by rfl) (by rfl) 6 ?_
 rintro ⟨⟨n, E⟩, a, b, c, d⟩ -
 dsimp only
 refine two_le ?_
 refine Call.by _ _ Shown14C_at ?_
 refine Call.by _ _ (OfC_at n E (most := 15) (by omega)) ?_
 have hR := any_right (n := n) (l := E) (most := 15) (by omega) (by omega)
 have hr := anyN_range (n := n) (most := 15) (by omega)
 obtain ⟨m, hm⟩ : ∃ m, anyN n 15 = m := ⟨_, rfl⟩
 obtain ⟨F, hF⟩ : ∃ F, anyE n E 15 = F := ⟨_, rfl⟩
 rw [hm] at hr
 rw [hm, hF] at hR ⊢
 have hF3 := right_few hR (by omega)
 have hRC := ReadC_at (n := m) (E := F) (by omega)
 by_cases hP : ReadP m F
 ·have hv := readF_yes hP
  have hS := hP.2.2.2.2
  have hE : ∀ x ∈ F, x ∈ segs (sortL cmpT (pathsT m F (topsK F m.toNat))) := fun x hx => by
   have := read_edges hP
   rw [<- this] at hx
   exact mem_insAll.1 hx
  have hT := topsK_sorted F m.toNat
  obtain ⟨Ts, hTs⟩ : ∃ Ts, topsK F m.toNat = Ts := ⟨_, rfl⟩
  rw [hTs] at hv hS hT hE
  obtain ⟨K, hKe⟩ : ∃ K, sortL cmpT (pathsT m F Ts) = K := ⟨_, rfl⟩
  obtain ⟨kd, hkd⟩ : ∃ kd, kindT Ts = kd := ⟨_, rfl⟩
  rw [hKe] at hv hS hE
  rw [hkd] at hv hS
  rw [hv] at hRC
  refine Call.by _ _ hRC ?_
  refine Pick.by (fun h1 => ?_) (fun h1 => ?_)
  ·exact ⟨rfl, rfl⟩
  have h1 : kd = 1 := by
   have h1 : (kd != 1) = false := h1
   simpa using h1
  subst h1
  have hm0 : 0 < m := by
   obtain ⟨_, _, hl⟩ := hS.1.resolve_right (by omega)
   have := (hS.2.1 0 _ (List.getElem?_eq_getElem (show 0 < K.length by omega))).1.2.2.1
   omega
  obtain ⟨E', hN, hR', hmem⟩ := norm_hang (a := a) (b := b) (c := c) (d := d) hR hm0 (by omega)
  have hE'l := hR'.2.2.1
  have hk1 := k4O_hang hR hR' (by omega) (by omega) hS hE hT (fun x hx => (hmem x).2 (.inl hx)) (hang_one hR hm0 hmem)
  have hk2 := k4O_self hR (by omega) hS hE hT
  obtain ⟨hfew, hnum, hTl⟩ := sub_few (by omega) hS
  have hsb : sbOk (1, Ts, K) := ⟨by dsimp only; omega, by have := hfew.1; dsimp only; omega, fun p hp => by have := hfew.2 p hp; omega⟩
  refine Pick.T (decide_eq_true (by show 0 + (edges F).length <= _; rw [edges_length]; omega)) ?_
  refine LoopP.intro (α := Nat) (fun i => i <= 4) (fun i => 4 - i) (fun i => [(3, .ptr 0 0), (5, .s (.b true)), (6, .ptr 1 0), (7, .ptr 3 0), (9, .sl 6 none none), (10, .s (.i .i64 i))])
   (fun i => [(0, some (.blk [.s (.i .i64 a), .s (.i .i64 b), .s (.i .i64 c), .s (.i .i64 d)])), (1, some (.blk [.s (.i .i64 m), .sl 2 none none])), (2, some (.flat true 2 (edges F))), (3, some (.blk [.s (.i .i64 1), .sl 4 none none, .sl 5 none none])), (4, some (.flat true 1 (ints Ts))), (5, some (.nest true 1 (rowsI K) [] [])), (6, some (.flat true 2 (edges (F ++ hang4L m a b c d i))))]) 7 0 (by omega) (by refine Weak.bw [(0, some _), (1, some _), (2, some _), (3, some _), (4, some _), (5, some _), (6, some _)] (by ((repeat' first | exact rfl | exact trivial | apply And.intro) <;> (repeat' first | exact rfl | exact trivial | apply And.intro)); all_goals ((rw [show hang4L m a b c d 0 = [] from rfl, List.append_nil]; rfl)))) ?_
  rintro i hi
  refine Pick.by (fun hc => ?_) (fun hc => ?_)
  ·have hlt : i < 4 := by have := of_decide_eq_true hc; omega
   obtain rfl | rfl | rfl | rfl : i = 0 \/ i = 1 \/ i = 2 \/ i = 3 := by omega
   ·refine Idx.by 0 rfl (by decide) ?_
    refine Pick.F (beq_eq_false_iff_ne.2 (by omega)) ?_
    refine Pick.n ?_
    refine Pick.T (decide_eq_true (by rw [edges_length, List.length_append]; show F.length + 0 + 1 <= _; omega)) ?_
    refine Seg.by (by kernel_rfl) ?_
    refine Pick.n ?_
    refine Next.by (0 + 1) (by omega) (by omega) (by refine Weak.bw [(0, some _), (1, some _), (2, some _), (3, some _), (4, some _), (5, some _), (6, some _)] (by ((repeat' first | exact rfl | exact trivial | apply And.intro) <;> (repeat' first | exact rfl | exact trivial | apply And.intro)); all_goals (first | (rw [hang4L_succ, <- List.append_assoc, edges_snoc]; rfl))))
   ·refine Idx.by 1 rfl (by decide) ?_
    refine Pick.F (beq_eq_false_iff_ne.2 (by omega)) ?_
    refine Pick.n ?_
    refine Pick.T (decide_eq_true (by rw [edges_length, List.length_append]; show F.length + 1 + 1 <= _; omega)) ?_
    refine Seg.by (by kernel_rfl) ?_
    refine Pick.n ?_
    refine Next.by (1 + 1) (by omega) (by omega) (by refine Weak.bw [(0, some _), (1, some _), (2, some _), (3, some _), (4, some _), (5, some _), (6, some _)] (by ((repeat' first | exact rfl | exact trivial | apply And.intro) <;> (repeat' first | exact rfl | exact trivial | apply And.intro)); all_goals (first | (rw [hang4L_succ, <- List.append_assoc, edges_snoc]; rfl))))
   ·refine Idx.by 2 rfl (by decide) ?_
    refine Pick.F (beq_eq_false_iff_ne.2 (by omega)) ?_
    refine Pick.n ?_
    refine Pick.T (decide_eq_true (by rw [edges_length, List.length_append]; show F.length + 2 + 1 <= _; omega)) ?_
    refine Seg.by (by kernel_rfl) ?_
    refine Pick.n ?_
    refine Next.by (2 + 1) (by omega) (by omega) (by refine Weak.bw [(0, some _), (1, some _), (2, some _), (3, some _), (4, some _), (5, some _), (6, some _)] (by ((repeat' first | exact rfl | exact trivial | apply And.intro) <;> (repeat' first | exact rfl | exact trivial | apply And.intro)); all_goals (first | (rw [hang4L_succ, <- List.append_assoc, edges_snoc]; rfl))))
   ·refine Idx.by 3 rfl (by decide) ?_
    refine Pick.F (beq_eq_false_iff_ne.2 (by omega)) ?_
    refine Pick.n ?_
    refine Pick.T (decide_eq_true (by rw [edges_length, List.length_append]; show F.length + 3 + 1 <= _; omega)) ?_
    refine Seg.by (by kernel_rfl) ?_
    refine Pick.n ?_
    refine Next.by (3 + 1) (by omega) (by omega) (by refine Weak.bw [(0, some _), (1, some _), (2, some _), (3, some _), (4, some _), (5, some _), (6, some _)] (by ((repeat' first | exact rfl | exact trivial | apply And.intro) <;> (repeat' first | exact rfl | exact trivial | apply And.intro)); all_goals (first | (rw [hang4L_succ, <- List.append_assoc, edges_snoc]; rfl))))
  have hi4 : i = 4 := by have := of_decide_eq_false hc; omega
  subst hi4
  refine Pick.n ?_
  have hl4 : (hang4L m a b c d 4).length = 4 := rfl
  have hNC := NormC_at (n := m + 4) (l := F ++ hang4L m a b c d 4) (by rw [List.length_append, hl4]; omega)
  rw [hN] at hNC
  refine Call.by _ _ hNC ?_
  have hKC := K4C_at (n := m + 4) (E := E') (by omega)
  rw [hk1] at hKC
  refine Call.by _ _ hKC ?_
  have hKC2 := K4C_at (n := m) (E := F) (by omega)
  rw [hk2] at hKC2
  refine Call.by _ _ hKC2 ?_
  have hSm := Same9C_at (a := (1, Ts, K)) (b := (1, Ts, K)) ⟨hsb, hsb⟩
  rw [decide_eq_true rfl] at hSm
  refine Call.by _ _ hSm ?_
  refine Call.by _ _ hSm ?_
  exact ⟨rfl, rfl⟩
 ·rw [readF_no hP] at hRC
  refine Call.by _ _ hRC ?_
  exact ⟨rfl, rfl⟩
theorem VTy.struct {T : Tab} {t : Nat} {ti : TI} {fs : List (Nat × Nat)} {v : V} (ht : lk T t = some ti) (hk : ti.kind = .struct fs) (h : VTy T t v) : ∃ cs, v = .agg cs /\ All2 (fun (f : Nat × Nat) c => CTy T f.2 c) fs cs := by
 unfold VTy at h
 rw [ht] at h
 simp only at h
 rw [hk] at h
 exact h
theorem VTy.cell {T : Tab} {t : Nat} {ti : TI} {v : V} (ht : lk T t = some ti) (hk : ∀ fs, ti.kind ≠ .struct fs /\ ∀ n e, ti.kind ≠ .array n e) (h : VTy T t v) : ∃ c, v = .one c /\ CTy T t c := by
 unfold VTy at h
 rw [ht] at h
 simp only at h
 cases hq : ti.kind with
 | struct fs => exact absurd hq (hk fs).1
 | array n e => exact absurd hq ((hk []).2 n e)
 | _ => rw [hq] at h; exact h
theorem VTy.array {T : Tab} {t : Nat} {ti : TI} {n e : Nat} {v : V} (ht : lk T t = some ti) (hk : ti.kind = .array n e) (h : VTy T t v) : ∃ cs, v = .agg cs /\ cs.length = n /\ ∀ c ∈ cs, CTy T e c := by
 unfold VTy at h
 rw [ht] at h
 simp only at h
 rw [hk] at h
 exact h
theorem ScTy.int {T : Tab} {t : Nat} {ti : TI} {k : IntKind} {x : Sc} (ht : lk T t = some ti) (hk : ti.kind = .int k) (h : ScTy T t x) : ∃ n, x = .i k n /\ (Lit.int k n).wf = true := by
 unfold ScTy at h
 rw [ht] at h
 simp only at h
 rw [hk] at h
 cases x with
 | i k' n => obtain ⟨rfl, h⟩ := h; exact ⟨n, rfl, h⟩
 | b _ => exact h.elim
theorem CTy.sc {T : Tab} {t : Nat} {c : C} (hs : sliceE T t = none) (h : CTy T t c) : ∃ x, c = .s x /\ ScTy T t x := by
 unfold CTy at h
 rw [hs] at h
 exact h
theorem CTy.flat {T : Tab} {t e : Nat} {c : C} (hs : sliceE T t = some e) (hs2 : sliceE T e = none) (h : CTy T t c) : ∃ rows, c = .flat false (sizeT T e) rows /\ FlatTy T e rows := by
 unfold CTy at h
 rw [hs] at h
 simp only at h
 rw [hs2] at h
 exact h
theorem CTy.nest {T : Tab} {t e e2 : Nat} {c : C} (hs : sliceE T t = some e) (hs2 : sliceE T e = some e2) (h : CTy T t c) : ∃ rows, c = .nest false (sizeT T e2) rows /\ rows.length <= maxLen /\ ∀ fl ∈ rows, FlatTy T e2 fl := by
 unfold CTy at h
 rw [hs] at h
 simp only at h
 rw [hs2] at h
 exact h
theorem i64_wf {n : Int} (h : (Lit.int .i64 n).wf = true) : i64 n := by
 simp [Lit.wf, IntKind.min, IntKind.max, IntKind.signed, IntKind.bits] at h
 exact h
theorem list_ex {α β : Type} {P : α -> β -> Prop} : ∀ {l : List α}, (∀ x ∈ l, ∃ y, P x y) -> ∃ m : List β, All2 P l m := by
 intro l
 induction l with
 | nil => intro _; exact ⟨[], All2.nil⟩
 | cons x l ih =>
  intro h
  obtain ⟨y, hy⟩ := h x (by simp)
  obtain ⟨m, hm⟩ := ih fun x hx => h x (by simp [hx])
  exact ⟨y :: m, All2.cons' hy hm⟩
theorem All2.map_eq {α β : Type} {f : β -> α} {l : List α} {m : List β} (h : All2 (fun x y => x = f y) l m) : l = m.map f := by
 apply List.ext_getElem?
 intro i
 rw [List.getElem?_map]
 by_cases hi : i < l.length
 ·have him : i < m.length := by rw [<- h.1]; exact hi
  rw [List.getElem?_eq_getElem hi, List.getElem?_eq_getElem him, Option.map_some, h.2 i _ _ (List.getElem?_eq_getElem hi) (List.getElem?_eq_getElem him)]
 ·rw [List.getElem?_eq_none (by omega), List.getElem?_eq_none (by rw [<- h.1]; omega)]; rfl
theorem All2.mem {α β : Type} {R : α -> β -> Prop} {l : List α} {m : List β} (h : All2 R l m) {y : β} (hy : y ∈ m) : ∃ x ∈ l, R x y := by
 obtain ⟨i, hi⟩ := List.mem_iff_getElem?.1 hy
 have hl := (List.getElem?_eq_some_iff.1 hi).1
 rw [<- h.1] at hl
 exact ⟨_, List.getElem_mem hl, h.2 i _ y (List.getElem?_eq_getElem hl) hi⟩
theorem row_int {row : Row} (h : RowTy T 3 row) : ∃ n, row = [.i .i64 n] /\ i64 n := by
 obtain ⟨x, rfl, hx⟩ := h
 obtain ⟨n, rfl, hw⟩ := ScTy.int (t := 3) rfl rfl hx
 exact ⟨n, rfl, i64_wf hw⟩
theorem ints_of {fl : Flat} (h : FlatTy T 3 fl) : ∃ l : List Int, fl = ints l /\ l.length <= maxLen /\ ∀ x ∈ l, i64 x := by
 obtain ⟨m, hm⟩ := list_ex (P := fun row n => row = [Sc.i .i64 n] /\ i64 n) fun row hr => row_int (h.2 row hr)
 refine ⟨m, All2.map_eq (f := fun n => [Sc.i .i64 n]) (hm.imp fun _ _ _ k => k.1), by rw [<- hm.1]; exact h.1, fun x hx => ?_⟩
 obtain ⟨_, _, k⟩ := hm.mem hx
 exact k.2
theorem All2.two {α β : Type} {R : α -> β -> Prop} {a b : α} {m : List β} (h : All2 R [a, b] m) : ∃ x y, m = [x, y] /\ R a x /\ R b y := by
 obtain ⟨h1, h2⟩ := h
 match m, h1, h2 with
 | [x, y], _, h2 => exact ⟨x, y, rfl, h2 0 a x rfl rfl, h2 1 b y rfl rfl⟩
theorem All2.one {α β : Type} {R : α -> β -> Prop} {a : α} {m : List β} (h : All2 R [a] m) : ∃ x, m = [x] /\ R a x := by
 obtain ⟨h1, h2⟩ := h
 match m, h1, h2 with
 | [x], _, h2 => exact ⟨x, rfl, h2 0 a x rfl rfl⟩
theorem All2.three {α β : Type} {R : α -> β -> Prop} {a b c : α} {m : List β} (h : All2 R [a, b, c] m) : ∃ x y z, m = [x, y, z] /\ R a x /\ R b y /\ R c z := by
 obtain ⟨h1, h2⟩ := h
 match m, h1, h2 with
 | [x, y, z], _, h2 => exact ⟨x, y, z, rfl, h2 0 a x rfl rfl, h2 1 b y rfl rfl, h2 2 c z rfl rfl⟩
theorem row_edge {row : Row} (h : RowTy T 43 row) : ∃ p : Ed, row = [.i .i64 p.1, .i .i64 p.2] /\ i64 p.1 /\ i64 p.2 := by
 obtain ⟨_, h⟩ := h
 obtain ⟨x, y, rfl, hx, hy⟩ := All2.two h
 obtain ⟨n, rfl, hn⟩ := ScTy.int (t := 3) rfl rfl hx
 obtain ⟨m, rfl, hm⟩ := ScTy.int (t := 3) rfl rfl hy
 exact ⟨(n, m), rfl, i64_wf hn, i64_wf hm⟩
theorem edges_of {fl : Flat} (h : FlatTy T 43 fl) : ∃ E : List Ed, fl = edges E /\ E.length <= maxLen /\ ∀ p ∈ E, i64 p.1 /\ i64 p.2 := by
 obtain ⟨m, hm⟩ := list_ex (P := fun row (p : Ed) => row = [Sc.i .i64 p.1, Sc.i .i64 p.2] /\ i64 p.1 /\ i64 p.2) fun row hr => row_edge (h.2 row hr)
 refine ⟨m, All2.map_eq (f := fun p : Ed => [Sc.i .i64 p.1, Sc.i .i64 p.2]) (hm.imp fun _ _ _ k => k.1), by rw [<- hm.1]; exact h.1, fun x hx => ?_⟩
 obtain ⟨_, _, k⟩ := hm.mem hx
 exact k.2
theorem net_of {v : V} (h : VTy T 24 v) : ∃ n E, v = grV n E /\ i64 n /\ ∀ p ∈ E, i64 p.1 /\ i64 p.2 := by
 obtain ⟨cs, rfl, hcs⟩ := VTy.struct (t := 24) rfl rfl h
 obtain ⟨x, y, rfl, hx, hy⟩ := All2.two hcs
 obtain ⟨z, rfl, hz⟩ := CTy.sc (t := 3) rfl hx
 obtain ⟨n, rfl, hw⟩ := ScTy.int (t := 3) rfl rfl hz
 obtain ⟨rows, rfl, hr⟩ := CTy.flat (t := 22) (e := 43) rfl rfl hy
 obtain ⟨E, rfl, _, hE⟩ := edges_of hr
 exact ⟨n, E, rfl, i64_wf hw, hE⟩
theorem own : ownKnob Tryz.prog.godebug = none := by kernel_rfl
theorem laidOut : laidOutB Tryz.prog = true := by kernel_rfl
set_option maxRecDepth 100000 in
theorem law_row {s : ChangeSpec} {f : FuncId} {fn : Func} {conds : List PathCond} {apart fresh handsOn : Bool} {ts : List TypeId} {F : List V -> Option (V × List V)} (hf : Tryz.prog.funcs[f]? = some fn) (hin : Tryz.prog.inits.idxOf? f = none) (hv : s.vars = [])
  (hts : fn.params.toList = ts) (ha : ts.all (argB T) = true) (hr : ts.all (fun t => Tryz.prog.readableRec t && Nat.blt t Tryz.prog.types.size) = true) (hres : fn.resultTypes = #[4])
  (hsp : ∀ (H : Type) (ds : List (DataW H)), ds.length = ts.length -> (s.fn H ds).results = [.lit (.bool true)] /\ (s.fn H ds).args = ds /\ (s.fn H ds).vars = [])
  (hS : SoundP Tryz.prog f F) (hF : LawV T ts F) (os : Os) (started : os.Started) (H : Type) (enc : TypeId × Value -> H) (a : Assume)
  (hw : ∃ (w : World) (tape : Tape) (i : Input), w.os = os /\ (w.forCall tape i).Shaped Tryz.checked.prog /\ i.vars = [] /\ Input.okWide Tryz.checked.prog (w.forCall tape i) .any w.heap.size f i /\
   s.pre6 enc Tryz.checked.prog fn conds apart (w.forCall tape i).memory i.args /\ a.holds Tryz.checked.prog (lone (Frame.enter Tryz.checked.prog f i.args .normal) [] (w.forCall tape i))) :
  ReturnsInHanded a Tryz.checked os f .any (s.pre6 enc Tryz.checked.prog fn conds apart) (s.post enc Tryz.checked.prog fn apart fresh handsOn false) := by
 refine returnsInHanded_of_change (C := Tryz.checked) own started hin hf hw ?_
 intro W base args ds gs before hval hW _ _
 refine law_contract (P := Tryz.prog) (conds := conds) hT laidOut hv hts ha (fun t ht => ?_) hres Tryz.underlying4 (hsp H) hS hF hval hW
 have := List.all_eq_true.1 hr t ht
 simp only [Bool.and_eq_true] at this
 exact ⟨this.1, Nat.le_of_ble_eq_true this.2⟩
theorem ScTy.bool {T : Tab} {t : Nat} {ti : TI} {x : Sc} (ht : lk T t = some ti) (hk : ti.kind = .bool) (h : ScTy T t x) : ∃ b, x = .b b := by
 unfold ScTy at h
 rw [ht] at h
 simp only at h
 rw [hk] at h
 cases x with
 | i k' n => exact h.elim
 | b b => exact ⟨b, rfl⟩
theorem All2.four {α β : Type} {R : α -> β -> Prop} {a b c d : α} {m : List β} (h : All2 R [a, b, c, d] m) : ∃ x y z t, m = [x, y, z, t] /\ R a x /\ R b y /\ R c z /\ R d t := by
 obtain ⟨h1, h2⟩ := h
 match m, h1, h2 with
 | [x, y, z, t], _, h2 => exact ⟨x, y, z, t, rfl, h2 0 a x rfl rfl, h2 1 b y rfl rfl, h2 2 c z rfl rfl, h2 3 d t rfl rfl⟩
theorem four_ints {v : V} (h : VTy T 41 v) : ∃ a b c d : Int, v = .agg [.s (.i .i64 a), .s (.i .i64 b), .s (.i .i64 c), .s (.i .i64 d)] /\ i64 a /\ i64 b /\ i64 c /\ i64 d := by
 obtain ⟨cs, rfl, hl, hc⟩ := VTy.array (t := 41) (n := 4) (e := 3) rfl rfl h
 match cs, hl, hc with
 | [x, y, z, u], _, hc =>
  obtain ⟨p, rfl, hp⟩ := CTy.sc (t := 3) rfl (hc x (by simp))
  obtain ⟨a, rfl, ha⟩ := ScTy.int (t := 3) rfl rfl hp
  obtain ⟨q, rfl, hq⟩ := CTy.sc (t := 3) rfl (hc y (by simp))
  obtain ⟨b, rfl, hb⟩ := ScTy.int (t := 3) rfl rfl hq
  obtain ⟨r, rfl, hr⟩ := CTy.sc (t := 3) rfl (hc z (by simp))
  obtain ⟨c, rfl, hc2⟩ := ScTy.int (t := 3) rfl rfl hr
  obtain ⟨s, rfl, hs⟩ := CTy.sc (t := 3) rfl (hc u (by simp))
  obtain ⟨d, rfl, hd⟩ := ScTy.int (t := 3) rfl rfl hs
  exact ⟨a, b, c, d, rfl, i64_wf ha, i64_wf hb, i64_wf hc2, i64_wf hd⟩
end Go.Sh
