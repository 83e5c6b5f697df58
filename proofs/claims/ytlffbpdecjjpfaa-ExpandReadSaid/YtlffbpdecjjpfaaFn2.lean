/- What the functions answer that the statement reaches. No condition. -/
import Derived.Test.YtlffbpdecjjpfaaFn1
import Derived.Deep.RegionLaw
import Derived.RangeFuncBox
import Derived.RangeFuncLeaves
import Derived.Shelf.Abstract
import Derived.WalkKit
import Derived.OwnWalkIn
import Derived.TacticsInMore
import Derived.LoopNIn
import Derived.LoopIn
import Derived.Maps.AppendAt
import Derived.Test.YtlffbpdecjjpfaaProg
set_option linter.unusedVariables false
set_option linter.unusedSimpArgs false
namespace Go.Sh
open Go.Proofs
/-! ### reduce.Run -/
open Classical in
noncomputable def runO (n : Int) (E : List Ed) : List Stp × List Int × List Ed := if RightP n E then ((runR n E).1, leftF (runR n E).2.2, edgesF (runR n E).2.1 (runR n E).2.2) else ([], [], [])
noncomputable def RunC : Con := conP 2 (fun _ : Int × List Ed => True) (fun a => [grV a.1 a.2]) (fun a => logV true (runO a.1 a.2).1 (runO a.1 a.2).2.1 (runO a.1 a.2).2.2)
theorem RunC_at (n : Int) (E : List Ed) : RunC.F [grV n E] = some (logV true (runO n E).1 (runO n E).2.1 (runO n E).2.2, []) :=
  conP_at (a := (n, E)) (fun x y _ _ h => by
    obtain ⟨n, E⟩ := x
    obtain ⟨n', E'⟩ := y
    simp at h
    obtain ⟨rfl, rfl⟩ := grV_inj h
    rfl) trivial
noncomputable def XRun : Cx := { Γ := [(42, RightC), (50, BeginC), (51, MayC), (52, StepC), (84, turnC (fun l _ => l.Pairwise (· ≤ ·) ∧ l.length ≤ 1000000) (fun l x => l.erase x)), (85, turnC (fun l _ => l.Pairwise (· ≤ ·) ∧ l.length ≤ 1000000) insAt)], T := T, nt := 66, inl := [(56, inlF Try.f56), (57, inlF Try.f57), (55, inlF Try.f55), (53, inlF Try.f53)], join := [82000, 56000], jc := [82050, 70031, 66059, 66024] }
theorem XRun_sound : Sound Try.prog T XRun.Γ := sound_cons RightG_ok (sound_cons Begin_ok (sound_cons May_ok (sound_cons Step_ok (sound_cons (turn_sound Without_call) (sound_cons (turn_sound With_call) sound_nil)))))
theorem XRun_ok : CrOk Try.prog (callAt 1 XRun) := callAt_ok hmix hT XRun_sound (inl_cons Try.func56 (by rfl) (by rfl) (by rfl) (inl_cons Try.func57 (by rfl) (by rfl) (by rfl) (inl_cons Try.func55 (by rfl) (by rfl) (by rfl) (inl_cons Try.func53 (by rfl) (by rfl) (by rfl) inl_nil)))) cr_none 1
theorem may_range {N : List (List Int)} {G : List Bool} {n x : Int} (h : N.length = n.toNat) (k : mayB N G x = true) : 0 ≤ x ∧ x < n := by
  have h1 := (mayB_iff.1 k).lo
  have h2 := (mayB_iff.1 k).hi
  omega
theorem skip_may {i : Nat} {x a b v : Int} {P : Prop} (hx : (i = 0 ∧ x = a) ∨ (i = 1 ∧ x = b)) (hne : v ≠ x) (k : P ∨ (i ≤ 0 ∧ v = a) ∨ (i ≤ 1 ∧ v = b)) : P ∨ (i + 1 ≤ 0 ∧ v = a) ∨ (i + 1 ≤ 1 ∧ v = b) := by
  rcases k with k | ⟨k1, k2⟩ | ⟨k1, k2⟩
  · exact .inl k
  · rcases hx with ⟨_, e⟩ | ⟨e0, _⟩
    · exact absurd (by rw [k2, e]) hne
    · omega
  · rcases hx with ⟨e0, _⟩ | ⟨_, e⟩
    · exact .inr (.inr ⟨by omega, k2⟩)
    · exact absurd (by rw [k2, e]) hne
theorem put_may {i : Nat} {x a b v : Int} {P Q : Prop} (hx : (i = 0 ∧ x = a) ∨ (i = 1 ∧ x = b)) (h : P ∨ v = x → Q) (k : P ∨ (i ≤ 0 ∧ v = a) ∨ (i ≤ 1 ∧ v = b)) : Q ∨ (i + 1 ≤ 0 ∧ v = a) ∨ (i + 1 ≤ 1 ∧ v = b) := by
  rcases k with k | ⟨k1, k2⟩ | ⟨k1, k2⟩
  · exact .inl (h (.inl k))
  · rcases hx with ⟨_, e⟩ | ⟨e0, _⟩
    · exact .inl (h (.inr (by rw [k2, e])))
    · omega
  · rcases hx with ⟨e0, _⟩ | ⟨_, e⟩
    · exact .inr (.inr ⟨by omega, k2⟩)
    · exact .inl (h (.inr (by rw [k2, e])))
set_option maxHeartbeats 4000000 in
theorem Run_ok : SoundC Try.prog T 26 RunC := by
  refine sound_con (X := XRun) (cr := callAt 1 XRun) XRun_ok hmix hT XRun_sound Try.func26 (by rfl) (by rfl) (by rfl) (by rfl) 2 ?_
  rintro ⟨n, E⟩ -
  dsimp only
  refine ⟨⟨Nat.le_of_ble_eq_true rfl, Nat.le_of_ble_eq_true rfl⟩, ?_⟩
  refine Call.by _ _ (RightC_at n E) ?_
  refine Pick.by (fun h1 => ?_) (fun h1 => ?_)
  · have h1 : ¬ RightP n E := by have h1 : (!decide (RightP n E)) = true := h1; simpa using h1
    have hv : runO n E = ([], [], []) := if_neg h1
    rw [hv]
    refine ⟨rfl, ?_⟩
    (repeat' first | exact rfl | exact trivial | refine And.intro ?_ ?_)
  have hR : RightP n E := by have h1 : (!decide (RightP n E)) = false := h1; simpa using h1
  have hv : runO n E = ((runR n E).1, leftF (runR n E).2.2, edgesF (runR n E).2.1 (runR n E).2.2) := if_pos hR
  rw [hv]
  refine Call.by _ _ (BeginC_at hR) ?_
  have hn0 := hR.1
  have hn1 := hR.2.1
  have hW := begin_wf hR
  have hNl := nbrs_length n.toNat E
  have hGl : (List.replicate n.toNat false).length = (nbrs n.toNat E).length := by rw [hNl]; simp
  refine LoopP.intro (α := Nat × List Int) (fun a => a.1 ≤ n.toNat ∧ a.2.length ≤ a.1 ∧ Heap a.2 ∧ (∀ v ∈ a.2, 0 ≤ v ∧ v < n) ∧ ∀ v : Int, v < a.1 → mayB (nbrs n.toNat E) (List.replicate n.toNat false) v = true → v ∈ a.2) (fun a => n.toNat - a.1) (fun a => [(2, .ptr 0 0), (3, .ptr 1 0), (4, .ptr 4 0), (18, .s (.i .i64 n)), (19, .s (.i .i64 a.1))])
    (fun a => [(0, some (.blk [.nils, .nils, .nils])), (1, some (.blk [.sl 2 none none, .sl 3 none none])), (2, some (.nest true 1 (rowsI (nbrs n.toNat E)) [] [])), (3, some (.flat true 1 (bools (List.replicate n.toNat false)))), (4, some (.blk [.sl 5 none none])), (5, some (.flat true 1 (ints a.2)))]) 6 (0, []) ⟨by omega, by simp, heap_nil, by simp, fun v h1 h2 => by rw [mayB_iff] at h2; have := h2.lo; omega⟩ (by refine Weak.by [(0, some _), (1, some _), (2, some _), (3, some _), (4, some _), (5, none)] (by ((repeat' first | exact rfl | exact trivial | refine And.intro ?_ ?_) <;> (repeat' first | exact rfl | exact trivial | refine And.intro ?_ ?_))) (by ((repeat' first | exact rfl | exact trivial | refine And.intro ?_ ?_) <;> (repeat' first | exact rfl | exact trivial | refine And.intro ?_ ?_))) (by rfl)) ?_
  rintro ⟨i, l⟩ ⟨hi, hl, hH, hr, hm⟩
  dsimp only at hi hl hH hr hm ⊢
  refine Pick.by (fun hc => ?_) (fun hc => ?_)
  · have hlt : i < n.toNat := by simp at hc; omega
    refine Call.by _ _ (MayC_at (i : Int) hGl) ?_
    refine JoinP.intro (α := List Int) (fun l => l.length ≤ i + 1 ∧ Heap l ∧ (∀ v ∈ l, 0 ≤ v ∧ v < n) ∧ ∀ v : Int, v < (i + 1 : Nat) → mayB (nbrs n.toNat E) (List.replicate n.toNat false) v = true → v ∈ l) (fun l => [(2, .ptr 0 0), (3, .ptr 1 0), (4, .ptr 4 0), (18, .s (.i .i64 n)), (19, .s (.i .i64 i))])
      (fun l => [(0, some (.blk [.nils, .nils, .nils])), (1, some (.blk [.sl 2 none none, .sl 3 none none])), (2, some (.nest true 1 (rowsI (nbrs n.toNat E)) [] [])), (3, some (.flat true 1 (bools (List.replicate n.toNat false)))), (4, some (.blk [.sl 5 none none])), (5, some (.flat true 1 (ints l)))]) 6 ?_ ?_
    rotate_left
    · rintro l' ⟨a1, a2, a3, a4⟩
      refine Pick.T (inI64_of (by omega) (by omega)) ?_
      exact Next.by (i + 1, l') ⟨by dsimp only; omega, a1, a2, a3, a4⟩ (by dsimp only; omega) (by refine Weak.by [(0, some _), (1, some _), (2, some _), (3, some _), (4, some _), (5, some _)] (by ((repeat' first | exact rfl | exact trivial | refine And.intro ?_ ?_) <;> (repeat' first | exact rfl | exact trivial | refine And.intro ?_ ?_))) (by ((repeat' first | exact rfl | exact trivial | refine And.intro ?_ ?_) <;> (repeat' first | exact rfl | exact trivial | refine And.intro ?_ ?_))) (by rfl))
    refine Pick.by (fun h2 => ?_) (fun h2 => ?_)
    · refine Pick.T (by simp [cut, ints_length]; omega) ?_
      have hraw : ints l = ints l := rfl
      have hlen0 : (ints l ++ [[Sc.i .i64 ((i : Nat) : Int)]]) = ints (l ++ [((i : Nat) : Int)]) := by rw [hraw, ints_snoc]
      refine Pick.T (by show inI64 ((((ints l ++ [[Sc.i .i64 ((i : Nat) : Int)]]).length : Nat) : Int) - 1) = true; rw [hlen0, ints_length]; simp; exact inI64_of (by omega) (by omega)) ?_
      have hlen1 : ((l.length : Nat) : Int) = (((ints l ++ [[Sc.i .i64 ((i : Nat) : Int)]]).length : Nat) : Int) - 1 := by rw [hlen0, ints_length]; simp
      refine JoinP.intro (α := List Int) (fun a => Heap a ∧ a.length = l.length + 1 ∧ ∀ v, v ∈ a ↔ v ∈ l ∨ v = ((i : Nat) : Int)) (fun a => [(0, .ptr 4 0), (4, .sl 6 none none), (1000002, .ptr 0 0), (1000003, .ptr 1 0), (1000004, .ptr 4 0), (1000018, .s (.i .i64 n)), (1000019, .s (.i .i64 i))])
        (fun a => [(0, some (.blk [.nils, .nils, .nils])), (1, some (.blk [.sl 2 none none, .sl 3 none none])), (2, some (.nest true 1 (rowsI (nbrs n.toNat E)) [] [])), (3, some (.flat true 1 (bools (List.replicate n.toNat false)))), (4, some (.blk [.sl 5 none none])), (6, some (.flat true 1 (ints a)))]) 7 ?_ ?_
      rotate_left
      · rintro m ⟨hHm, hml2, hmem⟩
        exact ⟨m, ⟨by omega, hHm, fun v hv => ((hmem v).1 hv).elim (hr v) fun e => by rw [e]; omega, fun v hv hmv => (hmem v).2 (if hvi : v < i then .inl (hm v hvi hmv) else .inr (by omega))⟩, by refine Weak.by [(0, some _), (1, some _), (2, some _), (3, some _), (4, some _), (5, some _)] (by ((repeat' first | exact rfl | exact trivial | refine And.intro ?_ ?_) <;> (repeat' first | exact rfl | exact trivial | refine And.intro ?_ ?_))) (by ((repeat' first | exact rfl | exact trivial | refine And.intro ?_ ?_) <;> (repeat' first | exact rfl | exact trivial | refine And.intro ?_ ?_))) (by rfl)⟩
      refine LoopP.intro (α := Nat × List Int) (fun a => a.2.Perm (l ++ [((i : Nat) : Int)]) ∧ HUp a.2 a.1 ∧ a.1 < a.2.length) (fun a => a.1) (fun a => [(0, .ptr 4 0), (4, .sl 6 none none), (5, .s (.i .i64 a.1)), (1000002, .ptr 0 0), (1000003, .ptr 1 0), (1000004, .ptr 4 0), (1000018, .s (.i .i64 n)), (1000019, .s (.i .i64 i))])
        (fun a => [(0, some (.blk [.nils, .nils, .nils])), (1, some (.blk [.sl 2 none none, .sl 3 none none])), (2, some (.nest true 1 (rowsI (nbrs n.toNat E)) [] [])), (3, some (.flat true 1 (bools (List.replicate n.toNat false)))), (4, some (.blk [.sl 5 none none])), (6, some (.flat true 1 (ints a.2)))]) 7 (l.length, l ++ [((i : Nat) : Int)]) ⟨List.Perm.refl _, up_start hH _, by simp⟩ (by refine Weak.by [(0, some _), (1, some _), (2, some _), (3, some _), (4, some _), (5, some _), (6, some _)] (by ((repeat' first | exact rfl | exact trivial | refine And.intro ?_ ?_) <;> (repeat' first | exact rfl | exact trivial | refine And.intro ?_ ?_)); all_goals ((first | (exact hlen0.symm) | (exact sc_eq hlen1)))) (by ((repeat' first | exact rfl | exact trivial | refine And.intro ?_ ?_) <;> (repeat' first | exact rfl | exact trivial | refine And.intro ?_ ?_)); all_goals ((first | (exact hlen0.symm) | (exact sc_eq hlen1)))) (by rfl)) ?_
      rintro ⟨p, m⟩ ⟨hperm, hup, hpm⟩
      dsimp only at hperm hup hpm ⊢
      have hml : m.length = l.length + 1 := by rw [hperm.length_eq]; simp
      have hpq : 0 < p → ((p : Int) - 1).tdiv 2 = (((p - 1) / 2 : Nat) : Int) := fun h => by rw [show (p : Int) - 1 = ((p - 1 : Nat) : Int) by omega]; rfl
      have hput : Heap m → Heap m ∧ m.length = l.length + 1 ∧ ∀ v, v ∈ m ↔ v ∈ l ∨ v = ((i : Nat) : Int) := fun h => ⟨h, hml, fun v => by rw [hperm.mem_iff]; simp⟩
      refine Pick.by (fun hc1 => ?_) (fun hc1 => ?_)
      · have hp0 : 0 < p := by simp at hc1; omega
        have hq := hpq hp0
        have hql : (p - 1) / 2 < m.length := by omega
        obtain ⟨y, hy⟩ : ∃ y, m[p]? = some y := ⟨_, List.getElem?_eq_getElem hpm⟩
        obtain ⟨z, hz⟩ : ∃ z, m[(p - 1) / 2]? = some z := ⟨_, List.getElem?_eq_getElem hql⟩
        refine Idx.by p rfl (by rw [ints_length]; exact hpm) ?_
        refine Look.by _ (ints_get hy) ?_
        refine Pick.T (inI64_of (by omega) (by omega)) ?_
        refine Pick.T (inI64_of (by omega) (by omega)) ?_
        refine Idx.by ((p - 1) / 2) hq (by rw [ints_length]; exact hql) ?_
        refine Look.by _ (ints_get hz) ?_
        refine Seg.by (by kernel_rfl) ?_
        refine Pick.by (fun hc2 => ?_) (fun hc2 => ?_)
        · have hlt : y < z := by simpa using hc2
          have hsw : ints ((m.set p z).set ((p - 1) / 2) y) = ((ints m).set p [.i .i64 z]).set ((p - 1) / 2) [.i .i64 y] := by rw [ints_set, ints_set]
          refine Pick.T (inI64_of (by omega) (by omega)) ?_
          refine Pick.T (inI64_of (by omega) (by omega)) ?_
          refine Pick.T (inI64_of (by omega) (by omega)) ?_
          refine Pick.T (inI64_of (by omega) (by omega)) ?_
          refine Idx.by ((p - 1) / 2) hq (by rw [ints_length]; exact hql) ?_
          refine Look.by _ (ints_get hz) ?_
          refine Idx.by p rfl (by rw [ints_length]; exact hpm) ?_
          refine Look.by _ (ints_get hy) ?_
          refine Idx.by p rfl (by rw [ints_length]; exact hpm) ?_
          refine Look.by _ (ints_get hy) ?_
          refine Idx.by ((p - 1) / 2) hq (by rw [List.length_set, ints_length]; exact hql) ?_
          refine Look.by _ (by rw [List.getElem?_set_ne (by omega)]; exact ints_get hz) ?_
          refine Seg.by (by kernel_rfl) ?_
          refine Pick.T (inI64_of (by omega) (by omega)) ?_
          refine Pick.T (inI64_of (by omega) (by omega)) ?_
          refine Next.by ((p - 1) / 2, (m.set p z).set ((p - 1) / 2) y) ⟨(swap_perm hy hz (by omega)).trans hperm, up_step hup hp0 hz hy hlt, by rw [List.length_set, List.length_set]; exact hql⟩ (by dsimp only; omega) (by refine Weak.by [(0, some _), (1, some _), (2, some _), (3, some _), (4, some _), (5, some _), (6, some _)] (by ((repeat' first | exact rfl | exact trivial | refine And.intro ?_ ?_) <;> (repeat' first | exact rfl | exact trivial | refine And.intro ?_ ?_)); all_goals ((first | (exact hsw) | (exact sc_eq hq.symm)))) (by ((repeat' first | exact rfl | exact trivial | refine And.intro ?_ ?_) <;> (repeat' first | exact rfl | exact trivial | refine And.intro ?_ ?_)); all_goals ((first | (exact hsw) | (exact sc_eq hq.symm)))) (by rfl))
        · have hHm := hput (up_done hup (.inr fun x' y' hx' hy' => by
            rw [hz] at hx'; rw [hy] at hy'
            injection hx' with hx'; injection hy' with hy'
            have : ¬ y < z := by simpa using hc2
            omega))
          exact ⟨m, hHm, by refine Weak.by [(0, some _), (1, some _), (2, some _), (3, some _), (4, some _), (5, some _), (6, some _)] (by ((repeat' first | exact rfl | exact trivial | refine And.intro ?_ ?_) <;> (repeat' first | exact rfl | exact trivial | refine And.intro ?_ ?_))) (by ((repeat' first | exact rfl | exact trivial | refine And.intro ?_ ?_) <;> (repeat' first | exact rfl | exact trivial | refine And.intro ?_ ?_))) (by rfl)⟩
      · have hp0 : p = 0 := by simp at hc1; omega
        refine Seg.by (by kernel_rfl) ?_
        exact ⟨m, hput (up_done hup (.inl hp0)), by refine Weak.by [(0, some _), (1, some _), (2, some _), (3, some _), (4, some _), (5, some _), (6, some _)] (by ((repeat' first | exact rfl | exact trivial | refine And.intro ?_ ?_) <;> (repeat' first | exact rfl | exact trivial | refine And.intro ?_ ?_))) (by ((repeat' first | exact rfl | exact trivial | refine And.intro ?_ ?_) <;> (repeat' first | exact rfl | exact trivial | refine And.intro ?_ ?_))) (by rfl)⟩
    · have h2 : mayB (nbrs n.toNat E) (List.replicate n.toNat false) i = false := h2
      refine ⟨l, ⟨by omega, hH, hr, fun v hv hmv => ?_⟩, by refine Weak.by [(0, some _), (1, some _), (2, some _), (3, some _), (4, some _), (5, some _)] (by ((repeat' first | exact rfl | exact trivial | refine And.intro ?_ ?_) <;> (repeat' first | exact rfl | exact trivial | refine And.intro ?_ ?_))) (by ((repeat' first | exact rfl | exact trivial | refine And.intro ?_ ?_) <;> (repeat' first | exact rfl | exact trivial | refine And.intro ?_ ?_))) (by rfl)⟩
      by_cases hvi : v < i
      · exact hm v hvi hmv
      · have : v = i := by omega
        rw [this, h2] at hmv; cases hmv
  · have hin : i = n.toNat := by simp at hc; omega
    have hm : ∀ v : Int, mayB (nbrs n.toNat E) (List.replicate n.toNat false) v = true → v ∈ l := fun v hv => hm v (by have := (mayB_iff.1 hv).hi; rw [hNl] at this; omega) hv
    have hl0 : l.length ≤ n.toNat := by omega
    have hrun : runR n E = ([] ++ (runS n.toNat (nbrs n.toNat E) (List.replicate n.toNat false)).1, (runS n.toNat (nbrs n.toNat E) (List.replicate n.toNat false)).2) := rfl
    generalize hNN : nbrs n.toNat E = N at *
    generalize hGG : List.replicate n.toNat false = G at *
    refine LoopP.intro (α := List Stp × List (List Int) × List Bool × Option (Nat × Nat) × List Int) (fun a => Wf a.2.1 a.2.2.1 ∧ a.2.1.length = n.toNat ∧ runR n E = (a.1 ++ (runS (n.toNat - a.1.length) a.2.1 a.2.2.1).1, (runS (n.toNat - a.1.length) a.2.1 a.2.2.1).2) ∧ a.1.length + a.2.2.1.countP (!·) ≤ n.toNat ∧ (a.2.2.2.1 = none ∨ ∃ L, a.2.2.2.1 = some (0, L) ∧ L ≤ a.2.2.2.2.length) ∧
        a.2.2.2.2.length ≤ 4000 ∧ (cut a.2.2.2.1 a.2.2.2.2).length ≤ n.toNat + 2 * a.1.length ∧ Heap (cut a.2.2.2.1 a.2.2.2.2) ∧ (∀ v ∈ cut a.2.2.2.1 a.2.2.2.2, 0 ≤ v ∧ v < n) ∧ ∀ v : Int, mayB a.2.1 a.2.2.1 v = true → v ∈ cut a.2.2.2.1 a.2.2.2.2)
      (fun a => 3 * (n.toNat - a.1.length) + (cut a.2.2.2.1 a.2.2.2.2).length) (fun a => [(2, .ptr 0 0), (3, .ptr 1 0), (4, .ptr 4 0), (6, .sl 6 none none)])
      (fun a => [(0, some (.blk [.nils, .nils, .nils])), (1, some (.blk [.sl 2 none none, .sl 3 none none])), (2, some (.nest true 1 (rowsI a.2.1) [] [])), (3, some (.flat true 1 (bools a.2.2.1))), (4, some (.blk [.sl 5 none a.2.2.2.1])), (5, some (.flat true 1 (ints a.2.2.2.2))), (6, some (.flat true 4 (stps a.1)))]) 7 ([], N, G, none, l)
      ⟨hW, hNl, by simpa using hrun, by rw [← hGG]; simp [List.countP_replicate], .inl rfl, by show l.length ≤ _; omega, by show l.length ≤ _; omega, hH, hr, hm⟩ (by refine Weak.by [(0, some _), (1, some _), (2, some _), (3, some _), (4, some _), (5, some _), (6, none)] (by ((repeat' first | exact rfl | exact trivial | refine And.intro ?_ ?_) <;> (repeat' first | exact rfl | exact trivial | refine And.intro ?_ ?_))) (by ((repeat' first | exact rfl | exact trivial | refine And.intro ?_ ?_) <;> (repeat' first | exact rfl | exact trivial | refine And.intro ?_ ?_))) (by rfl)) ?_
    clear hrun hl0 hH hr hm hW hNl hGl hl hi hc
    rintro ⟨st, N, G, sub, m⟩ ⟨hW, hNl, hrun, hlive, hsub, hm4, hl0, hH, hr, hm⟩
    dsimp only at hW hNl hrun hlive hsub hm4 hl0 hH hr hm ⊢
    rcases hsub with rfl | ⟨L, rfl, hL⟩
    · generalize hlm : cut none m = l at *
      have hlm : m = l := hlm
      refine Pick.by (fun hc => ?_) (fun hc => ?_)
      · have hpos : 0 < l.length := by rw [ints_length, hlm] at hc; simpa using hc
        obtain ⟨out, hout⟩ : ∃ a, l[0]? = some a := ⟨_, List.getElem?_eq_getElem hpos⟩
        obtain ⟨last, hlst⟩ : ∃ k, l.length = k + 1 := ⟨l.length - 1, by omega⟩
        obtain ⟨top, htop⟩ : ∃ a, l[last]? = some a := ⟨_, List.getElem?_eq_getElem (by omega)⟩
        have hlast : (((ints m).length : Nat) : Int) - 1 = (last : Int) := by rw [ints_length, hlm]; omega
        have hsift : Sift l out last (m.set 0 top) 0 := ⟨by rw [List.length_set, hlm]; omega, by rw [hlm]; exact take_perm hout htop hlst, by rw [hlm]; exact dn_start hH _⟩
        have hil : (ints m).length = last + 1 := by rw [ints_length, hlm]; exact hlst
        refine Idx.by 0 rfl (by omega) ?_
        refine Look.by _ (by rw [hlm]; exact ints_get hout) ?_
        refine Pick.T (by rw [hlast]; exact inI64_of (by omega) (by omega)) ?_
        refine Idx.by last hlast (by omega) ?_
        refine Look.by _ (by rw [hlm]; exact ints_get htop) ?_
        refine Idx.by 0 rfl (by omega) ?_
        refine Look.by _ (by rw [hlm]; exact ints_get hout) ?_
        refine Rng.by 0 last rfl hlast (by omega) (by rw [List.length_set]; omega) ?_
        refine JoinP.intro (α := List Int) (fun c => c.length = m.length ∧ last ≤ c.length ∧ (out :: c.take last).Perm l ∧ Heap (c.take last)) (fun c => [(0, .ptr 4 0), (3, .sl 5 none (some (0, last))), (4, .s (.i .i64 out)), (1000002, .ptr 0 0), (1000003, .ptr 1 0), (1000004, .ptr 4 0), (1000006, .sl 6 none none)])
          (fun c => [(0, some (.blk [.nils, .nils, .nils])), (1, some (.blk [.sl 2 none none, .sl 3 none none])), (2, some (.nest true 1 (rowsI N) [] [])), (3, some (.flat true 1 (bools G))), (4, some (.blk [.sl 5 none none])), (5, some (.flat true 1 (ints c))), (6, some (.flat true 4 (stps st)))]) 7 ?_ ?_
        rotate_left
        · rintro c ⟨hcm, hlc, hperm, hHc⟩
          have hGN := hW.len
          have hq0 : ∀ v, v ∈ c.take last → v ∈ l := fun v hv => hperm.mem_iff.1 (List.mem_cons_of_mem _ hv)
          have hq1 : ∀ v, v ∈ l → v = out ∨ v ∈ c.take last := fun v hv => by simpa using hperm.mem_iff.2 hv
          have hqr : ∀ v ∈ c.take last, 0 ≤ v ∧ v < n := fun v hv => hr v (hq0 v hv)
          have hqc : cut (some (0, last)) c = c.take last := rfl
          have hqlen : (c.take last).length = last := by rw [List.length_take]; omega
          have hor := hr out (List.mem_of_getElem? hout)
          refine Call.by _ _ (MayC_at out hGN) ?_
          refine Pick.by (fun hmy => ?_) (fun hmy => ?_)
          · have hmy : mayB N G out = false := by have hmy : (!mayB N G out) = true := hmy; simpa using hmy
            refine Next.by (st, N, G, some (0, last), c) ⟨hW, hNl, hrun, hlive, .inr ⟨last, rfl, hlc⟩, by dsimp only; omega, by dsimp only; rw [hqc]; omega, hHc, hqr, fun v hv => ?_⟩ (by dsimp only; rw [hqc]; omega) (by refine Weak.by [(0, some _), (1, some _), (2, some _), (3, some _), (4, some _), (5, some _), (6, some _)] (by ((repeat' first | exact rfl | exact trivial | refine And.intro ?_ ?_) <;> (repeat' first | exact rfl | exact trivial | refine And.intro ?_ ?_))) (by ((repeat' first | exact rfl | exact trivial | refine And.intro ?_ ?_) <;> (repeat' first | exact rfl | exact trivial | refine And.intro ?_ ?_))) (by rfl))
            rcases hq1 v (hm v hv) with e | e
            · rw [e, hmy] at hv; cases hv
            · exact e
          have hmy : mayB N G out = true := by have hmy : (!mayB N G out) = false := hmy; simpa using hmy
          have hmp := mayB_iff.1 hmy
          obtain ⟨hs1, hs2⟩ := step_two hW hmp rfl
          refine Call.by _ _ (StepC_at ⟨hW, hmp.lo, hmp.hi⟩) ?_
          have hlo := hmp.lo
          have hhi := hmp.hi
          have hrv := hW.rows out
          have hnd : (rowAt N out).Nodup := hrv.1.imp fun hab => by omega
          have hNL := rowsI_length N
          have hmo := hW.most
          have hrl := hW.row_len out
          have hgv : (rowsI N)[(out).toNat]? = some (ints (rowAt N out)) := rowsI_get (rowAt_mem hlo hhi).2
          have hvv : out ∉ rowAt N out := hW.irr out hlo
          have hpart : ∀ (di : Nat) (u : Int), 0 ≤ u → rowAt (((rowAt N out).take di).foldl (cutF out) N) u = if u ∈ (rowAt N out).take di then (rowAt N u).erase out else rowAt N u := fun di u hu => cuts_row (hnd.sublist (List.take_sublist _ _)) (fun x hx => hrv.2 x (List.mem_of_mem_take hx)) hu
          have hplen : ∀ di : Nat, (rowsI (((rowAt N out).take di).foldl (cutF out) N)).length = N.length := fun di => by rw [rowsI_length, cuts_length]
          have hpget : ∀ (di : Nat) (u : Int), 0 ≤ u → u < N.length → (rowsI (((rowAt N out).take di).foldl (cutF out) N))[u.toNat]? = some (ints (rowAt (((rowAt N out).take di).foldl (cutF out) N) u)) := fun di u h0 h1 => rowsI_get (rowAt_mem h0 (by rw [cuts_length]; exact h1)).2
          refine Idx.by (out).toNat (by show (out : Int) = _; omega) (by omega) ?_
          refine Pick.T (by rw [hNL]; simp; omega) ?_
          refine Look.by _ hgv ?_
          refine LoopP.intro (α := Nat) (fun di => di ≤ (rowAt N out).length) (fun di => (rowAt N out).length - di) (fun di => [(2, .ptr 8 0), (3, .ptr 9 0), (11, .sl 2 (some ((out).toNat, 0)) none), (12, .s (.i .i64 (rowAt N out).length)), (13, .s (.i .i64 di)), (1000002, .ptr 0 0), (1000003, .ptr 1 0), (1000004, .ptr 4 0), (1000006, .sl 6 none none), (1000008, .ptr 7 0)])
            (fun di => [(0, some (.blk [.nils, .nils, .nils])), (1, some (.blk [.sl 2 none none, .sl 3 none none])), (4, some (.blk [.sl 5 none (some (0, last))])), (5, some (.flat true 1 (ints c))), (6, some (.flat true 4 (stps st))), (7, some (.blk [.s (.i .i64 (stepF N out).1), .s (.i .i64 (stepF N out).2.1), .s (.i .i64 (stepF N out).2.2.1), .s (.b (stepF N out).2.2.2)])), (2, some (.nest true 1 (rowsI (((rowAt N out).take di).foldl (cutF out) N)) [] [])), (3, some (.flat true 1 (bools G))), (8, some (.blk [.sl 2 none none, .sl 3 none none])), (9, some (.blk [.s (.i .i64 (stepF N out).1), .s (.i .i64 (stepF N out).2.1), .s (.i .i64 (stepF N out).2.2.1), .s (.b (stepF N out).2.2.2)]))]) 10 0 (by omega) (by refine Weak.by [(0, some _), (1, some _), (2, some _), (3, some _), (4, some _), (5, some _), (6, some _), (7, some _), (8, some _), (9, some _)] (by ((repeat' first | exact rfl | exact trivial | refine And.intro ?_ ?_) <;> (repeat' first | exact rfl | exact trivial | refine And.intro ?_ ?_)); all_goals ((first | (rw [ints_length]; rfl) | (simp; done)))) (by ((repeat' first | exact rfl | exact trivial | refine And.intro ?_ ?_) <;> (repeat' first | exact rfl | exact trivial | refine And.intro ?_ ?_)); all_goals ((first | (rw [ints_length]; rfl) | (simp; done)))) (by rfl)) ?_
          rintro di hi
          refine Pick.by (fun hc1 => ?_) (fun hc1 => ?_)
          · have hil : di < (rowAt N out).length := by simpa using hc1
            obtain ⟨x, hx⟩ : ∃ x, (rowAt N out)[di]? = some x := ⟨_, List.getElem?_eq_getElem hil⟩
            have hxm := List.mem_of_getElem? hx
            have hxr := hrv.2 x hxm
            have hxv : x ≠ out := fun e => hvv (e ▸ hxm)
            have hgi : (rowsI (((rowAt N out).take di).foldl (cutF out) N))[(out).toNat]? = some (ints (rowAt N out)) := by
              rw [hpget di out hlo hhi, hpart di out hlo, if_neg fun h => hvv (List.mem_of_mem_take h)]
            have hrx := hpget di x hxr.1 hxr.2
            have hstp : ((rowAt N out).take (di + 1)).foldl (cutF out) N = cutF out (((rowAt N out).take di).foldl (cutF out) N) x := by
              rw [List.take_succ_eq_append_getElem hil, List.foldl_append]
              have : (rowAt N out)[di] = x := by rw [List.getElem?_eq_getElem hil] at hx; injection hx
              rw [this]; rfl
            have hwx : (rowAt (((rowAt N out).take di).foldl (cutF out) N) x).Pairwise (· ≤ ·) ∧ (rowAt (((rowAt N out).take di).foldl (cutF out) N) x).length ≤ 1000000 := by
              have h1 := hW.rows x
              have h2 := hW.row_len x
              rw [hpart di x hxr.1]
              split
              · have h3 := List.length_erase_le (l := rowAt N x) (a := out)
                exact ⟨(erase_sorted h1.1).imp fun h => by omega, by omega⟩
              · exact ⟨h1.1.imp fun h => by omega, by omega⟩
            have hpl := hplen di
            refine Look.by _ hgi ?_
            refine Idx.by di rfl (by rw [ints_length]; exact hil) ?_
            refine Look.by _ hgi ?_
            refine Look.by _ (ints_get hx) ?_
            refine Idx.by x.toNat (by omega) (by omega) ?_
            refine Pick.T (by rw [hpl]; simp; omega) ?_
            refine Look.by _ hrx ?_
            refine Call.by _ _ (turnC_at hwx) ?_
            refine Idx.by x.toNat (by omega) (by omega) ?_
            refine Pick.T (by rw [hpl]; simp; omega) ?_
            refine Pick.T (by simp) ?_
            refine Seg.by (by kernel_rfl) ?_
            refine Pick.T (inI64_of (by omega) (by omega)) ?_
            refine Next.by (di + 1) (by omega) (by omega) (by refine Weak.by [(0, some _), (1, some _), (2, some _), (3, some _), (4, some _), (5, some _), (6, some _), (7, some _), (8, some _), (9, some _)] (by ((repeat' first | exact rfl | exact trivial | refine And.intro ?_ ?_) <;> (repeat' first | exact rfl | exact trivial | refine And.intro ?_ ?_)); all_goals ((first | (rw [hstp]; unfold cutF; rw [rowsI_set]; rfl) | (simp; done) | (simp; omega)))) (by ((repeat' first | exact rfl | exact trivial | refine And.intro ?_ ?_) <;> (repeat' first | exact rfl | exact trivial | refine And.intro ?_ ?_)); all_goals ((first | (rw [hstp]; unfold cutF; rw [rowsI_set]; rfl) | (simp; done) | (simp; omega)))) (by rfl))
          have hil : di = (rowAt N out).length := by simp at hc1; omega
          subst hil
          rw [List.take_length]
          have hN1 : ∀ u : Int, 0 ≤ u → rowAt ((rowAt N out).foldl (cutF out) N) u = (rowAt N u).erase out := fun u hu => by
            rw [cuts_row hnd hrv.2 hu]
            split
            · rfl
            · rename_i hno
              rw [List.erase_of_not_mem]
              exact fun h => hno (hW.sym u out hu hlo h)
          have hl1 : (rowsI ((rowAt N out).foldl (cutF out) N)).length = N.length := by rw [rowsI_length, cuts_length]
          refine JoinP.intro (α := Unit) (fun _ => True) (fun _ => [(2, .ptr 8 0), (3, .ptr 9 0), (1000002, .ptr 0 0), (1000003, .ptr 1 0), (1000004, .ptr 4 0), (1000006, .sl 6 none none), (1000008, .ptr 7 0)])
            (fun _ => [(0, some (.blk [.nils, .nils, .nils])), (1, some (.blk [.sl 2 none none, .sl 3 none none])), (4, some (.blk [.sl 5 none (some (0, last))])), (5, some (.flat true 1 (ints c))), (6, some (.flat true 4 (stps st))), (7, some (.blk [.s (.i .i64 (stepF N out).1), .s (.i .i64 (stepF N out).2.1), .s (.i .i64 (stepF N out).2.2.1), .s (.b (stepF N out).2.2.2)])), (2, some (.nest true 1 (rowsI (if (stepF N out).2.2.2 then joinF (joinF ((rowAt N out).foldl (cutF out) N) (stepF N out).2.1 (stepF N out).2.2.1) (stepF N out).2.2.1 (stepF N out).2.1 else (rowAt N out).foldl (cutF out) N)) [] [])), (3, some (.flat true 1 (bools G))), (8, some (.blk [.sl 2 none none, .sl 3 none none])), (9, some (.blk [.s (.i .i64 (stepF N out).1), .s (.i .i64 (stepF N out).2.1), .s (.i .i64 (stepF N out).2.2.1), .s (.b (stepF N out).2.2.2)]))]) 10 ?_ ?_
          rotate_left
          · rintro ⟨⟩ -
            have hl2 : (rowsI (if (stepF N out).2.2.2 then joinF (joinF ((rowAt N out).foldl (cutF out) N) (stepF N out).2.1 (stepF N out).2.2.1) (stepF N out).2.2.1 (stepF N out).2.1 else (rowAt N out).foldl (cutF out) N)).length = N.length := by
              rw [rowsI_length]
              split
              · rw [joinF_length, joinF_length, cuts_length]
              · rw [cuts_length]
            have hdo : (rowsI (if (stepF N out).2.2.2 then joinF (joinF ((rowAt N out).foldl (cutF out) N) (stepF N out).2.1 (stepF N out).2.2.1) (stepF N out).2.2.1 (stepF N out).2.1 else (rowAt N out).foldl (cutF out) N)).set (out).toNat [] = rowsI (doN N (stepF N out)) := by
              unfold doN
              rw [rowsI_set]; rfl
            have hdg : (bools G).set (out).toNat [.b true] = bools (doG G (stepF N out)) := by
              unfold doG bools
              rw [List.map_set]; rfl
            generalize rowsI (if (stepF N out).2.2.2 then joinF (joinF ((rowAt N out).foldl (cutF out) N) (stepF N out).2.1 (stepF N out).2.2.1) (stepF N out).2.2.1 (stepF N out).2.1 else (rowAt N out).foldl (cutF out) N) = RR at hl2 hdo ⊢
            refine Idx.by (out).toNat (by show (out : Int) = _; omega) (by omega) ?_
            refine Pick.T (by rw [hl2]; simp; omega) ?_
            refine Idx.by (out).toNat (by show (out : Int) = _; omega) (by rw [bools_length, hW.len]; omega) ?_
            refine Look.by _ (bools_get (goneAt_get hW.len hlo hhi)) ?_
            refine Seg.by (by kernel_rfl) ?_
            have hW2 := do_wf hW hmp
            have hNl2 : (doN N (stepF N out)).length = n.toNat := by rw [doN_length]; exact hNl
            have hGN2 : (doG G (stepF N out)).length = (doN N (stepF N out)).length := hW2.len
            have hlv := live_step hW hmp
            have hst4 : st.length + 1 ≤ n.toNat := by omega
            have hrun2 := run_step hrun hW hmy hst4 (fun v hv => heap_least hHc hH hout hperm hm hv)
            have hmay2 : ∀ v, mayB (doN N (stepF N out)) (doG G (stepF N out)) v = true → v ∈ c.take last ∨ v = (stepF N out).2.1 ∨ v = (stepF N out).2.2.1 := fun v hv => may_step hW hmp hs2 hv fun h2 hne => (hq1 v (hm v h2)).elim (fun e => absurd e hne) id
            generalize hN2 : doN N (stepF N out) = N2 at *
            generalize hG2 : doG G (stepF N out) = G2 at *
            generalize hsG : stepF N out = s at *
            refine Pick.T (by simp [cut, stps_length]; omega) ?_
            refine LoopP.intro (α := Nat × Option (Nat × Nat) × List Int) (fun a => a.1 ≤ 2 ∧ (a.2.1 = none ∨ ∃ L, a.2.1 = some (0, L) ∧ L ≤ a.2.2.length) ∧ a.2.2.length ≤ 4000 ∧ (cut a.2.1 a.2.2).length ≤ last + a.1 ∧ Heap (cut a.2.1 a.2.2) ∧ (∀ v ∈ cut a.2.1 a.2.2, 0 ≤ v ∧ v < n) ∧ ∀ v : Int, mayB N2 G2 v = true → v ∈ cut a.2.1 a.2.2 ∨ (a.1 ≤ 0 ∧ v = s.2.1) ∨ (a.1 ≤ 1 ∧ v = s.2.2.1)) (fun a => 2 - a.1) (fun a => [(2, .ptr 0 0), (3, .ptr 1 0), (4, .ptr 4 0), (6, .sl 6 none none), (51, .sl 7 none none), (52, .s (.i .i64 2)), (53, .s (.i .i64 a.1))])
              (fun a => [(0, some (.blk [.nils, .nils, .nils])), (1, some (.blk [.sl 2 none none, .sl 3 none none])), (2, some (.nest true 1 (rowsI N2) [] [])), (3, some (.flat true 1 (bools G2))), (4, some (.blk [.sl 5 none a.2.1])), (5, some (.flat true 1 (ints a.2.2))), (6, some (.flat true 4 (stps (st ++ [s])))), (7, some (.flat true 1 (ints [s.2.1, s.2.2.1])))]) 8 (0, some (0, last), c)
              ⟨by dsimp only; omega, .inr ⟨last, rfl, hlc⟩, by dsimp only; omega, by dsimp only; rw [hqc]; omega, hHc, hqr, fun v hv => (hmay2 v hv).elim .inl fun h => h.elim (fun h => .inr (.inl ⟨by dsimp only; omega, h⟩)) fun h => .inr (.inr ⟨by dsimp only; omega, h⟩)⟩ (by refine Weak.by [(0, some _), (1, some _), (2, some _), (3, some _), (4, some _), (5, some _), (6, some _), (7, some _)] (by ((repeat' first | exact rfl | exact trivial | refine And.intro ?_ ?_) <;> (repeat' first | exact rfl | exact trivial | refine And.intro ?_ ?_)); all_goals ((first | (exact stps_snoc st s) | (exact hdo.symm) | (exact hdg.symm)))) (by ((repeat' first | exact rfl | exact trivial | refine And.intro ?_ ?_) <;> (repeat' first | exact rfl | exact trivial | refine And.intro ?_ ?_)); all_goals ((first | (exact stps_snoc st s) | (exact hdo.symm) | (exact hdg.symm)))) (by rfl)) ?_
            rintro ⟨i, sub2, m2⟩ ⟨hi2, hsub2, hm24, hcl2, hH2, hr2, hmv2⟩
            dsimp only at hi2 hsub2 hm24 hcl2 hH2 hr2 hmv2 ⊢
            refine Pick.by (fun hc5 => ?_) (fun hc5 => ?_)
            · have hi3 : i < 2 := by simp at hc5; omega
              obtain ⟨x, hx⟩ : ∃ x, [s.2.1, s.2.2.1][i]? = some x := ⟨_, List.getElem?_eq_getElem (show i < [s.2.1, s.2.2.1].length from hi3)⟩
              have hxi : (i = 0 ∧ x = s.2.1) ∨ (i = 1 ∧ x = s.2.2.1) := by
                have : i = 0 ∨ i = 1 := by omega
                rcases this with e | e
                · subst e; simp at hx; exact .inl ⟨rfl, hx.symm⟩
                · subst e; simp at hx; exact .inr ⟨rfl, hx.symm⟩
              refine Idx.by i rfl (by rw [ints_length]; exact hi3) ?_
              refine Look.by _ (ints_get hx) ?_
              refine Call.by _ _ (MayC_at x hGN2) ?_
              refine JoinP.intro (α := Option (Nat × Nat) × List Int) (fun b => (b.1 = none ∨ ∃ L, b.1 = some (0, L) ∧ L ≤ b.2.length) ∧ b.2.length ≤ 4000 ∧ (cut b.1 b.2).length ≤ last + i + 1 ∧ Heap (cut b.1 b.2) ∧ (∀ v ∈ cut b.1 b.2, 0 ≤ v ∧ v < n) ∧ ∀ v : Int, mayB N2 G2 v = true → v ∈ cut b.1 b.2 ∨ (i + 1 ≤ 0 ∧ v = s.2.1) ∨ (i + 1 ≤ 1 ∧ v = s.2.2.1)) (fun b => [(2, .ptr 0 0), (3, .ptr 1 0), (4, .ptr 4 0), (6, .sl 6 none none), (51, .sl 7 none none), (52, .s (.i .i64 2)), (53, .s (.i .i64 i))])
                (fun b => [(0, some (.blk [.nils, .nils, .nils])), (1, some (.blk [.sl 2 none none, .sl 3 none none])), (2, some (.nest true 1 (rowsI N2) [] [])), (3, some (.flat true 1 (bools G2))), (4, some (.blk [.sl 5 none b.1])), (5, some (.flat true 1 (ints b.2))), (6, some (.flat true 4 (stps (st ++ [s])))), (7, some (.flat true 1 (ints [s.2.1, s.2.2.1])))]) 8 ?_ ?_
              rotate_left
              · rintro ⟨sub3, m3⟩ hJ
                refine Pick.T (inI64_of (by omega) (by omega)) ?_
                exact Next.by (i + 1, sub3, m3) ⟨by dsimp only; omega, hJ⟩ (by dsimp only; omega) (by refine Weak.by [(0, some _), (1, some _), (2, some _), (3, some _), (4, some _), (5, some _), (6, some _), (7, some _)] (by ((repeat' first | exact rfl | exact trivial | refine And.intro ?_ ?_) <;> (repeat' first | exact rfl | exact trivial | refine And.intro ?_ ?_))) (by ((repeat' first | exact rfl | exact trivial | refine And.intro ?_ ?_) <;> (repeat' first | exact rfl | exact trivial | refine And.intro ?_ ?_))) (by rfl))
              refine Pick.by (fun hc6 => ?_) (fun hc6 => ?_)
              · have hc6 : mayB N2 G2 x = true := hc6
                have hxr2 : 0 ≤ x ∧ x < n := may_range hNl2 hc6
                have hH := hH2
                refine Pick.T (by simp [cut, ints_length]; omega) ?_
                have hraw : cut sub2 (ints m2) = ints (cut sub2 m2) := cut_ints
                have hlen0 : (cut sub2 (ints m2) ++ [[Sc.i .i64 x]]) = ints ((cut sub2 m2) ++ [x]) := by rw [hraw, ints_snoc]
                refine Pick.T (by show inI64 ((((cut sub2 (ints m2) ++ [[Sc.i .i64 x]]).length : Nat) : Int) - 1) = true; rw [hlen0, ints_length]; simp; exact inI64_of (by omega) (by omega)) ?_
                have hlen1 : (((cut sub2 m2).length : Nat) : Int) = (((cut sub2 (ints m2) ++ [[Sc.i .i64 x]]).length : Nat) : Int) - 1 := by rw [hlen0, ints_length]; simp
                refine JoinP.intro (α := List Int) (fun a => Heap a ∧ a.length = (cut sub2 m2).length + 1 ∧ ∀ v, v ∈ a ↔ v ∈ (cut sub2 m2) ∨ v = x) (fun a => [(0, .ptr 4 0), (4, .sl 8 none none), (1000002, .ptr 0 0), (1000003, .ptr 1 0), (1000004, .ptr 4 0), (1000006, .sl 6 none none), (1000051, .sl 7 none none), (1000052, .s (.i .i64 2)), (1000053, .s (.i .i64 i))])
                  (fun a => [(0, some (.blk [.nils, .nils, .nils])), (1, some (.blk [.sl 2 none none, .sl 3 none none])), (2, some (.nest true 1 (rowsI N2) [] [])), (3, some (.flat true 1 (bools G2))), (4, some (.blk [.sl 5 none sub2])), (6, some (.flat true 4 (stps (st ++ [s])))), (7, some (.flat true 1 (ints [s.2.1, s.2.2.1]))), (8, some (.flat true 1 (ints a)))]) 9 ?_ ?_
                rotate_left
                · rintro m ⟨hHm, hml2, hmem⟩
                  exact ⟨(none, m), ⟨.inl rfl, by dsimp only; omega, by show m.length ≤ _; omega, hHm, fun v hv => ((hmem v).1 hv).elim (hr2 v) fun e => by rw [e]; exact hxr2, fun v hv => put_may hxi (hmem v).2 (hmv2 v hv)⟩, by refine Weak.by [(0, some _), (1, some _), (2, some _), (3, some _), (4, some _), (5, some _), (6, some _), (7, some _)] (by ((repeat' first | exact rfl | exact trivial | refine And.intro ?_ ?_) <;> (repeat' first | exact rfl | exact trivial | refine And.intro ?_ ?_))) (by ((repeat' first | exact rfl | exact trivial | refine And.intro ?_ ?_) <;> (repeat' first | exact rfl | exact trivial | refine And.intro ?_ ?_))) (by rfl)⟩
                refine LoopP.intro (α := Nat × List Int) (fun a => a.2.Perm ((cut sub2 m2) ++ [x]) ∧ HUp a.2 a.1 ∧ a.1 < a.2.length) (fun a => a.1) (fun a => [(0, .ptr 4 0), (4, .sl 8 none none), (5, .s (.i .i64 a.1)), (1000002, .ptr 0 0), (1000003, .ptr 1 0), (1000004, .ptr 4 0), (1000006, .sl 6 none none), (1000051, .sl 7 none none), (1000052, .s (.i .i64 2)), (1000053, .s (.i .i64 i))])
                  (fun a => [(0, some (.blk [.nils, .nils, .nils])), (1, some (.blk [.sl 2 none none, .sl 3 none none])), (2, some (.nest true 1 (rowsI N2) [] [])), (3, some (.flat true 1 (bools G2))), (4, some (.blk [.sl 5 none sub2])), (6, some (.flat true 4 (stps (st ++ [s])))), (7, some (.flat true 1 (ints [s.2.1, s.2.2.1]))), (8, some (.flat true 1 (ints a.2)))]) 9 ((cut sub2 m2).length, (cut sub2 m2) ++ [x]) ⟨List.Perm.refl _, up_start hH _, by simp⟩ (by refine Weak.by [(0, some _), (1, some _), (2, some _), (3, some _), (4, some _), (5, some _), (6, some _), (7, some _), (8, some _)] (by ((repeat' first | exact rfl | exact trivial | refine And.intro ?_ ?_) <;> (repeat' first | exact rfl | exact trivial | refine And.intro ?_ ?_)); all_goals ((first | (exact hlen0.symm) | (exact sc_eq hlen1)))) (by ((repeat' first | exact rfl | exact trivial | refine And.intro ?_ ?_) <;> (repeat' first | exact rfl | exact trivial | refine And.intro ?_ ?_)); all_goals ((first | (exact hlen0.symm) | (exact sc_eq hlen1)))) (by rfl)) ?_
                rintro ⟨p, m⟩ ⟨hperm, hup, hpm⟩
                dsimp only at hperm hup hpm ⊢
                have hml : m.length = (cut sub2 m2).length + 1 := by rw [hperm.length_eq]; simp
                have hpq : 0 < p → ((p : Int) - 1).tdiv 2 = (((p - 1) / 2 : Nat) : Int) := fun h => by rw [show (p : Int) - 1 = ((p - 1 : Nat) : Int) by omega]; rfl
                have hput : Heap m → Heap m ∧ m.length = (cut sub2 m2).length + 1 ∧ ∀ v, v ∈ m ↔ v ∈ (cut sub2 m2) ∨ v = x := fun h => ⟨h, hml, fun v => by rw [hperm.mem_iff]; simp⟩
                refine Pick.by (fun hc1 => ?_) (fun hc1 => ?_)
                · have hp0 : 0 < p := by simp at hc1; omega
                  have hq := hpq hp0
                  have hql : (p - 1) / 2 < m.length := by omega
                  obtain ⟨y, hy⟩ : ∃ y, m[p]? = some y := ⟨_, List.getElem?_eq_getElem hpm⟩
                  obtain ⟨z, hz⟩ : ∃ z, m[(p - 1) / 2]? = some z := ⟨_, List.getElem?_eq_getElem hql⟩
                  refine Idx.by p rfl (by rw [ints_length]; exact hpm) ?_
                  refine Look.by _ (ints_get hy) ?_
                  refine Pick.T (inI64_of (by omega) (by omega)) ?_
                  refine Pick.T (inI64_of (by omega) (by omega)) ?_
                  refine Idx.by ((p - 1) / 2) hq (by rw [ints_length]; exact hql) ?_
                  refine Look.by _ (ints_get hz) ?_
                  refine Seg.by (by kernel_rfl) ?_
                  refine Pick.by (fun hc2 => ?_) (fun hc2 => ?_)
                  · have hlt : y < z := by simpa using hc2
                    have hsw : ints ((m.set p z).set ((p - 1) / 2) y) = ((ints m).set p [.i .i64 z]).set ((p - 1) / 2) [.i .i64 y] := by rw [ints_set, ints_set]
                    refine Pick.T (inI64_of (by omega) (by omega)) ?_
                    refine Pick.T (inI64_of (by omega) (by omega)) ?_
                    refine Pick.T (inI64_of (by omega) (by omega)) ?_
                    refine Pick.T (inI64_of (by omega) (by omega)) ?_
                    refine Idx.by ((p - 1) / 2) hq (by rw [ints_length]; exact hql) ?_
                    refine Look.by _ (ints_get hz) ?_
                    refine Idx.by p rfl (by rw [ints_length]; exact hpm) ?_
                    refine Look.by _ (ints_get hy) ?_
                    refine Idx.by p rfl (by rw [ints_length]; exact hpm) ?_
                    refine Look.by _ (ints_get hy) ?_
                    refine Idx.by ((p - 1) / 2) hq (by rw [List.length_set, ints_length]; exact hql) ?_
                    refine Look.by _ (by rw [List.getElem?_set_ne (by omega)]; exact ints_get hz) ?_
                    refine Seg.by (by kernel_rfl) ?_
                    refine Pick.T (inI64_of (by omega) (by omega)) ?_
                    refine Pick.T (inI64_of (by omega) (by omega)) ?_
                    refine Next.by ((p - 1) / 2, (m.set p z).set ((p - 1) / 2) y) ⟨(swap_perm hy hz (by omega)).trans hperm, up_step hup hp0 hz hy hlt, by rw [List.length_set, List.length_set]; exact hql⟩ (by dsimp only; omega) (by refine Weak.by [(0, some _), (1, some _), (2, some _), (3, some _), (4, some _), (5, some _), (6, some _), (7, some _), (8, some _)] (by ((repeat' first | exact rfl | exact trivial | refine And.intro ?_ ?_) <;> (repeat' first | exact rfl | exact trivial | refine And.intro ?_ ?_)); all_goals ((first | (exact hsw) | (exact sc_eq hq.symm)))) (by ((repeat' first | exact rfl | exact trivial | refine And.intro ?_ ?_) <;> (repeat' first | exact rfl | exact trivial | refine And.intro ?_ ?_)); all_goals ((first | (exact hsw) | (exact sc_eq hq.symm)))) (by rfl))
                  · have hHm := hput (up_done hup (.inr fun x' y' hx' hy' => by
                      rw [hz] at hx'; rw [hy] at hy'
                      injection hx' with hx'; injection hy' with hy'
                      have : ¬ y < z := by simpa using hc2
                      omega))
                    exact ⟨m, hHm, by refine Weak.by [(0, some _), (1, some _), (2, some _), (3, some _), (4, some _), (5, some _), (6, some _), (7, some _), (8, some _)] (by ((repeat' first | exact rfl | exact trivial | refine And.intro ?_ ?_) <;> (repeat' first | exact rfl | exact trivial | refine And.intro ?_ ?_))) (by ((repeat' first | exact rfl | exact trivial | refine And.intro ?_ ?_) <;> (repeat' first | exact rfl | exact trivial | refine And.intro ?_ ?_))) (by rfl)⟩
                · have hp0 : p = 0 := by simp at hc1; omega
                  refine Seg.by (by kernel_rfl) ?_
                  exact ⟨m, hput (up_done hup (.inl hp0)), by refine Weak.by [(0, some _), (1, some _), (2, some _), (3, some _), (4, some _), (5, some _), (6, some _), (7, some _), (8, some _)] (by ((repeat' first | exact rfl | exact trivial | refine And.intro ?_ ?_) <;> (repeat' first | exact rfl | exact trivial | refine And.intro ?_ ?_))) (by ((repeat' first | exact rfl | exact trivial | refine And.intro ?_ ?_) <;> (repeat' first | exact rfl | exact trivial | refine And.intro ?_ ?_))) (by rfl)⟩
              · have hc6 : mayB N2 G2 x = false := hc6
                exact ⟨(sub2, m2), ⟨hsub2, hm24, by dsimp only; omega, hH2, hr2, fun v hv => skip_may hxi (fun e => by rw [e, hc6] at hv; cases hv) (hmv2 v hv)⟩, by refine Weak.by [(0, some _), (1, some _), (2, some _), (3, some _), (4, some _), (5, some _), (6, some _), (7, some _)] (by ((repeat' first | exact rfl | exact trivial | refine And.intro ?_ ?_) <;> (repeat' first | exact rfl | exact trivial | refine And.intro ?_ ?_))) (by ((repeat' first | exact rfl | exact trivial | refine And.intro ?_ ?_) <;> (repeat' first | exact rfl | exact trivial | refine And.intro ?_ ?_))) (by rfl)⟩
            · have hi3 : i = 2 := by simp at hc5; omega
              refine Next.by (st ++ [s], N2, G2, sub2, m2) ⟨hW2, hNl2, hrun2, by simp; omega, hsub2, hm24, by simp; omega, hH2, hr2, fun v hv => ?_⟩ (by simp; omega) (by refine Weak.by [(0, some _), (1, some _), (2, some _), (3, some _), (4, some _), (5, some _), (6, some _)] (by ((repeat' first | exact rfl | exact trivial | refine And.intro ?_ ?_) <;> (repeat' first | exact rfl | exact trivial | refine And.intro ?_ ?_))) (by ((repeat' first | exact rfl | exact trivial | refine And.intro ?_ ?_) <;> (repeat' first | exact rfl | exact trivial | refine And.intro ?_ ?_))) (by rfl))
              rcases hmv2 v hv with h | ⟨h1, _⟩ | ⟨h1, _⟩
              · exact h
              · omega
              · omega
          refine Pick.by (fun had => ?_) (fun had => ?_)
          · have had : (stepF N out).2.2.2 = true := had
            rw [if_pos had]
            rcases hs2 with ⟨_, _, _, e⟩ | ⟨_, _, _, _, e⟩ | ⟨a, b, hlv, hab, ea, eb, ec⟩
            · rw [had] at e; cases e
            · rw [had] at e; cases e
            have har := hrv.2 a (by rw [hlv]; simp)
            have hbr := hrv.2 b (by rw [hlv]; simp)
            have hra : (rowsI ((rowAt N out).foldl (cutF out) N))[a.toNat]? = some (ints ((rowAt N a).erase out)) := by
              have h1 := rowsI_get (rowAt_mem (N := (rowAt N out).foldl (cutF out) N) har.1 (by rw [cuts_length]; exact har.2)).2
              rw [hN1 a har.1] at h1
              exact h1
            have hrb : (rowsI ((rowAt N out).foldl (cutF out) N))[b.toNat]? = some (ints ((rowAt N b).erase out)) := by
              have h1 := rowsI_get (rowAt_mem (N := (rowAt N out).foldl (cutF out) N) hbr.1 (by rw [cuts_length]; exact hbr.2)).2
              rw [hN1 b hbr.1] at h1
              exact h1
            have hok : ∀ u, ((rowAt N u).erase out).Pairwise (· ≤ ·) ∧ ((rowAt N u).erase out).length ≤ 1000000 := fun u => by
              have h1 := hW.rows u
              have h2 := hW.row_len u
              have h3 := List.length_erase_le (l := rowAt N u) (a := out)
              exact ⟨(erase_sorted h1.1).imp fun h => by omega, by omega⟩
            rw [ea, eb]
            have hj : rowsI (joinF (joinF ((rowAt N out).foldl (cutF out) N) a b) b a) = ((rowsI ((rowAt N out).foldl (cutF out) N)).set a.toNat (ints (insAt ((rowAt N a).erase out) b))).set b.toNat (ints (insAt ((rowAt N b).erase out) a)) := by
              have e1 : rowAt (joinF ((rowAt N out).foldl (cutF out) N) a b) b = (rowAt N b).erase out := by
                unfold joinF
                rw [rowAt_set har.1 (by rw [cuts_length]; exact har.2) hbr.1, if_neg (by omega), hN1 b hbr.1]
              show rowsI ((joinF ((rowAt N out).foldl (cutF out) N) a b).set b.toNat (insAt (rowAt (joinF ((rowAt N out).foldl (cutF out) N) a b) b) a)) = _
              rw [e1, rowsI_set]
              unfold joinF
              rw [rowsI_set, hN1 a har.1]
            have hma : (rowsI ((rowAt N out).foldl (cutF out) N)).set a.toNat (ints (insAt ((rowAt N a).erase out) b)) ≠ [] ∨ True := .inr trivial
            have hl3 : ((rowsI ((rowAt N out).foldl (cutF out) N)).set a.toNat (ints (insAt ((rowAt N a).erase out) b))).length = N.length := by rw [List.length_set, hl1]
            have hrb2 : ((rowsI ((rowAt N out).foldl (cutF out) N)).set a.toNat (ints (insAt ((rowAt N a).erase out) b)))[b.toNat]? = some (ints ((rowAt N b).erase out)) := by rw [List.getElem?_set_ne (by omega)]; exact hrb
            refine Idx.by a.toNat (by omega) (by omega) ?_
            refine Pick.T (by rw [hl1]; simp; omega) ?_
            refine Look.by _ hra ?_
            refine Call.by _ _ (turnC_at (hok a)) ?_
            refine Idx.by a.toNat (by omega) (by omega) ?_
            refine Pick.T (by rw [hl1]; simp; omega) ?_
            refine Pick.T (by simp) ?_
            refine Seg.by (by kernel_rfl) ?_
            refine Idx.by b.toNat (by omega) (by omega) ?_
            refine Pick.T (by rw [hl3]; simp; omega) ?_
            refine Look.by _ hrb2 ?_
            refine Call.by _ _ (turnC_at (hok b)) ?_
            refine Idx.by b.toNat (by omega) (by omega) ?_
            refine Pick.T (by rw [hl3]; simp; omega) ?_
            refine Pick.T (by simp) ?_
            refine Seg.by (by kernel_rfl) ?_
            exact ⟨(), trivial, by refine Weak.by [(0, some _), (1, some _), (2, some _), (3, some _), (4, some _), (5, some _), (6, some _), (7, some _), (8, some _), (9, some _)] (by ((repeat' first | exact rfl | exact trivial | refine And.intro ?_ ?_) <;> (repeat' first | exact rfl | exact trivial | refine And.intro ?_ ?_)); all_goals ((exact hj))) (by ((repeat' first | exact rfl | exact trivial | refine And.intro ?_ ?_) <;> (repeat' first | exact rfl | exact trivial | refine And.intro ?_ ?_)); all_goals ((exact hj))) (by rfl)⟩
          · have had : (stepF N out).2.2.2 = false := had
            rw [if_neg (by rw [had]; simp)]
            exact ⟨(), trivial, by refine Weak.by [(0, some _), (1, some _), (2, some _), (3, some _), (4, some _), (5, some _), (6, some _), (7, some _), (8, some _), (9, some _)] (by ((repeat' first | exact rfl | exact trivial | refine And.intro ?_ ?_) <;> (repeat' first | exact rfl | exact trivial | refine And.intro ?_ ?_))) (by ((repeat' first | exact rfl | exact trivial | refine And.intro ?_ ?_) <;> (repeat' first | exact rfl | exact trivial | refine And.intro ?_ ?_))) (by rfl)⟩
        refine LoopP.intro (α := Nat × List Int) (fun a => Sift l out last a.2 a.1 ∧ a.1 ≤ last ∧ a.2.length = m.length) (fun a => last + 1 - a.1) (fun a => [(0, .ptr 4 0), (3, .sl 5 none (some (0, last))), (4, .s (.i .i64 out)), (5, .s (.i .i64 last)), (6, .s (.i .i64 a.1)), (1000002, .ptr 0 0), (1000003, .ptr 1 0), (1000004, .ptr 4 0), (1000006, .sl 6 none none)])
          (fun a => [(0, some (.blk [.nils, .nils, .nils])), (1, some (.blk [.sl 2 none none, .sl 3 none none])), (2, some (.nest true 1 (rowsI N) [] [])), (3, some (.flat true 1 (bools G))), (4, some (.blk [.sl 5 none none])), (5, some (.flat true 1 (ints a.2))), (6, some (.flat true 4 (stps st)))]) 7 (0, m.set 0 top) ⟨hsift, by dsimp only; omega, by rw [List.length_set]⟩ (by refine Weak.by [(0, some _), (1, some _), (2, some _), (3, some _), (4, some _), (5, some _), (6, some _)] (by ((repeat' first | exact rfl | exact trivial | refine And.intro ?_ ?_) <;> (repeat' first | exact rfl | exact trivial | refine And.intro ?_ ?_)); all_goals ((first | (rw [ints_set]; rfl) | (exact sc_eq hlast.symm)))) (by ((repeat' first | exact rfl | exact trivial | refine And.intro ?_ ?_) <;> (repeat' first | exact rfl | exact trivial | refine And.intro ?_ ?_)); all_goals ((first | (rw [ints_set]; rfl) | (exact sc_eq hlast.symm)))) (by rfl)) ?_
        rintro ⟨i, c⟩ ⟨hsf, hil, hcm⟩
        dsimp only at hsf hil hcm ⊢
        refine Pick.T (inI64_of (by omega) (by omega)) ?_
        refine Pick.T (inI64_of (by omega) (by omega)) ?_
        refine Pick.by (fun hc1 => ?_) (fun hc1 => ?_)
        · have hch : 2 * i + 1 < last := by simp at hc1; omega
          obtain ⟨x, hx⟩ : ∃ x, c[i]? = some x := ⟨_, List.getElem?_eq_getElem (by have := hsf.len; omega)⟩
          obtain ⟨y1, hy1⟩ : ∃ y, c[2 * i + 1]? = some y := ⟨_, List.getElem?_eq_getElem (by have := hsf.len; omega)⟩
          refine Pick.T (inI64_of (by omega) (by omega)) ?_
          refine Pick.T (inI64_of (by omega) (by omega)) ?_
          refine Pick.T (inI64_of (by omega) (by omega)) ?_
          have hk1 : (2 * (i : Int) + 1) = ((2 * i + 1 : Nat) : Int) := by omega
          have hk2 : (2 * (i : Int) + 1 + 1) = ((2 * i + 2 : Nat) : Int) := by omega
          have hjoin : ∀ k, (k = 2 * i + 1 ∨ k = 2 * i + 2) → k < last → (∀ y, c[k]? = some y → ∀ t z, 0 < t → (t - 1) / 2 = i → t < last → c[t]? = some z → y ≤ z) → (k = 2 * i + 1 ∨ k = 2 * i + 2) ∧ k < last ∧ ∀ y, c[k]? = some y → ∀ t z, 0 < t → (t - 1) / 2 = i → t < last → c[t]? = some z → y ≤ z := fun k a b d => ⟨a, b, d⟩
          refine Pick.by (fun hc2 => ?_) (fun hc2 => ?_)
          · have hch2 : 2 * i + 2 < last := by simp at hc2; omega
            obtain ⟨y2, hy2⟩ : ∃ y, c[2 * i + 2]? = some y := ⟨_, List.getElem?_eq_getElem (by have := hsf.len; omega)⟩
            refine Pick.T (inI64_of (by omega) (by omega)) ?_
            refine Idx.by (2 * i + 2) (by omega) (by omega) ?_
            refine Look.by _ (by rw [Nat.zero_add]; exact ints_get hy2) ?_
            refine Idx.by (2 * i + 1) (by omega) (by omega) ?_
            refine Look.by _ (by rw [Nat.zero_add]; exact ints_get hy1) ?_
            refine Seg.by (by kernel_rfl) ?_
            refine JoinP.intro (α := Nat) (fun k => (k = 2 * i + 1 ∨ k = 2 * i + 2) ∧ k < last ∧ ∀ y, c[k]? = some y → ∀ t z, 0 < t → (t - 1) / 2 = i → t < last → c[t]? = some z → y ≤ z) (fun k => [(0, .ptr 4 0), (3, .sl 5 none (some (0, last))), (4, .s (.i .i64 out)), (5, .s (.i .i64 last)), (6, .s (.i .i64 i)), (7, .s (.i .i64 k)), (1000002, .ptr 0 0), (1000003, .ptr 1 0), (1000004, .ptr 4 0), (1000006, .sl 6 none none)])
              (fun k => [(0, some (.blk [.nils, .nils, .nils])), (1, some (.blk [.sl 2 none none, .sl 3 none none])), (2, some (.nest true 1 (rowsI N) [] [])), (3, some (.flat true 1 (bools G))), (4, some (.blk [.sl 5 none none])), (5, some (.flat true 1 (ints c))), (6, some (.flat true 4 (stps st)))]) 7 ?_ ?_
            rotate_left
            · rintro k ⟨hkk, hkl, hM⟩
              obtain ⟨y, hy⟩ : ∃ y, c[k]? = some y := ⟨_, List.getElem?_eq_getElem (by have := hsf.len; omega)⟩
              have hmin := hM y hy
              refine Idx.by i rfl (by omega) ?_
              refine Look.by _ (by rw [Nat.zero_add]; exact ints_get hx) ?_
              refine Idx.by k rfl (by omega) ?_
              refine Look.by _ (by rw [Nat.zero_add]; exact ints_get hy) ?_
              refine Seg.by (by kernel_rfl) ?_
              refine Pick.by (fun hc4 => ?_) (fun hc4 => ?_)
              · have hle : x ≤ y := by simpa using hc4
                refine ⟨c, ⟨hcm, hsf.len, hsf.perm, sift_done hsf fun t u v ht htp hu hv => ?_⟩, by refine Weak.by [(0, some _), (1, some _), (2, some _), (3, some _), (4, some _), (5, some _), (6, some _)] (by ((repeat' first | exact rfl | exact trivial | refine And.intro ?_ ?_) <;> (repeat' first | exact rfl | exact trivial | refine And.intro ?_ ?_))) (by ((repeat' first | exact rfl | exact trivial | refine And.intro ?_ ?_) <;> (repeat' first | exact rfl | exact trivial | refine And.intro ?_ ?_))) (by rfl)⟩
                have htk : t < last := by
                  have := (List.getElem?_eq_some_iff.1 hv).1
                  rw [List.length_take] at this
                  omega
                rw [tk_get (by omega), hx] at hu
                injection hu with hu
                have := hmin t v ht htp htk (by rw [← tk_get htk]; exact hv)
                omega
              · have hlt : y < x := by simpa using hc4
                refine Idx.by k rfl (by omega) ?_
                refine Look.by _ (by rw [Nat.zero_add]; exact ints_get hy) ?_
                refine Idx.by i rfl (by omega) ?_
                refine Look.by _ (by rw [Nat.zero_add]; exact ints_get hx) ?_
                refine Idx.by i rfl (by omega) ?_
                refine Look.by _ (by rw [Nat.zero_add]; exact ints_get hx) ?_
                refine Idx.by k rfl (by omega) ?_
                refine Look.by _ (by rw [Nat.zero_add, Nat.zero_add, List.getElem?_set_ne (by omega)]; exact ints_get hy) ?_
                refine Seg.by (by kernel_rfl) ?_
                refine Next.by (k, (c.set i y).set k x) ⟨sift_step hsf (by omega) (by omega) hkl hx hy hlt hmin, by dsimp only; omega, by rw [List.length_set, List.length_set]; exact hcm⟩ (by dsimp only; omega) (by refine Weak.by [(0, some _), (1, some _), (2, some _), (3, some _), (4, some _), (5, some _), (6, some _)] (by ((repeat' first | exact rfl | exact trivial | refine And.intro ?_ ?_) <;> (repeat' first | exact rfl | exact trivial | refine And.intro ?_ ?_)); all_goals ((rw [Nat.zero_add, Nat.zero_add, ints_set, ints_set]; rfl))) (by ((repeat' first | exact rfl | exact trivial | refine And.intro ?_ ?_) <;> (repeat' first | exact rfl | exact trivial | refine And.intro ?_ ?_)); all_goals ((rw [Nat.zero_add, Nat.zero_add, ints_set, ints_set]; rfl))) (by rfl))
            refine Pick.by (fun hc3 => ?_) (fun hc3 => ?_)
            · have hlt2 : y2 < y1 := by simpa using hc3
              refine Pick.T (inI64_of (by omega) (by omega)) ?_
              refine ⟨2 * i + 2, hjoin _ (.inr rfl) hch2 fun y hy t z ht htp htl hz => ?_, by refine Weak.by [(0, some _), (1, some _), (2, some _), (3, some _), (4, some _), (5, some _), (6, some _)] (by ((repeat' first | exact rfl | exact trivial | refine And.intro ?_ ?_) <;> (repeat' first | exact rfl | exact trivial | refine And.intro ?_ ?_)); all_goals ((exact sc_eq hk2.symm))) (by ((repeat' first | exact rfl | exact trivial | refine And.intro ?_ ?_) <;> (repeat' first | exact rfl | exact trivial | refine And.intro ?_ ?_)); all_goals ((exact sc_eq hk2.symm))) (by rfl)⟩
              have : t = 2 * i + 1 ∨ t = 2 * i + 2 := by omega
              rcases this with rfl | rfl
              · rw [hy2] at hy; rw [hy1] at hz; injection hy with hy; injection hz with hz; omega
              · rw [hy] at hz; injection hz with hz; omega
            · have hlt2 : ¬ y2 < y1 := by simpa using hc3
              refine ⟨2 * i + 1, hjoin _ (.inl rfl) hch fun y hy t z ht htp htl hz => ?_, by refine Weak.by [(0, some _), (1, some _), (2, some _), (3, some _), (4, some _), (5, some _), (6, some _)] (by ((repeat' first | exact rfl | exact trivial | refine And.intro ?_ ?_) <;> (repeat' first | exact rfl | exact trivial | refine And.intro ?_ ?_)); all_goals ((exact sc_eq hk1.symm))) (by ((repeat' first | exact rfl | exact trivial | refine And.intro ?_ ?_) <;> (repeat' first | exact rfl | exact trivial | refine And.intro ?_ ?_)); all_goals ((exact sc_eq hk1.symm))) (by rfl)⟩
              have : t = 2 * i + 1 ∨ t = 2 * i + 2 := by omega
              rcases this with rfl | rfl
              · rw [hy] at hz; injection hz with hz; omega
              · rw [hy1] at hy; rw [hy2] at hz; injection hy with hy; injection hz with hz; omega
          · have hch2 : ¬ 2 * i + 2 < last := by simp at hc2; omega
            refine Seg.by (by kernel_rfl) ?_
            refine JoinP.intro (α := Nat) (fun k => (k = 2 * i + 1 ∨ k = 2 * i + 2) ∧ k < last ∧ ∀ y, c[k]? = some y → ∀ t z, 0 < t → (t - 1) / 2 = i → t < last → c[t]? = some z → y ≤ z) (fun k => [(0, .ptr 4 0), (3, .sl 5 none (some (0, last))), (4, .s (.i .i64 out)), (5, .s (.i .i64 last)), (6, .s (.i .i64 i)), (7, .s (.i .i64 k)), (1000002, .ptr 0 0), (1000003, .ptr 1 0), (1000004, .ptr 4 0), (1000006, .sl 6 none none)])
              (fun k => [(0, some (.blk [.nils, .nils, .nils])), (1, some (.blk [.sl 2 none none, .sl 3 none none])), (2, some (.nest true 1 (rowsI N) [] [])), (3, some (.flat true 1 (bools G))), (4, some (.blk [.sl 5 none none])), (5, some (.flat true 1 (ints c))), (6, some (.flat true 4 (stps st)))]) 7 ?_ ?_
            rotate_left
            · rintro k ⟨hkk, hkl, hM⟩
              obtain ⟨y, hy⟩ : ∃ y, c[k]? = some y := ⟨_, List.getElem?_eq_getElem (by have := hsf.len; omega)⟩
              have hmin := hM y hy
              refine Idx.by i rfl (by omega) ?_
              refine Look.by _ (by rw [Nat.zero_add]; exact ints_get hx) ?_
              refine Idx.by k rfl (by omega) ?_
              refine Look.by _ (by rw [Nat.zero_add]; exact ints_get hy) ?_
              refine Seg.by (by kernel_rfl) ?_
              refine Pick.by (fun hc4 => ?_) (fun hc4 => ?_)
              · have hle : x ≤ y := by simpa using hc4
                refine ⟨c, ⟨hcm, hsf.len, hsf.perm, sift_done hsf fun t u v ht htp hu hv => ?_⟩, by refine Weak.by [(0, some _), (1, some _), (2, some _), (3, some _), (4, some _), (5, some _), (6, some _)] (by ((repeat' first | exact rfl | exact trivial | refine And.intro ?_ ?_) <;> (repeat' first | exact rfl | exact trivial | refine And.intro ?_ ?_))) (by ((repeat' first | exact rfl | exact trivial | refine And.intro ?_ ?_) <;> (repeat' first | exact rfl | exact trivial | refine And.intro ?_ ?_))) (by rfl)⟩
                have htk : t < last := by
                  have := (List.getElem?_eq_some_iff.1 hv).1
                  rw [List.length_take] at this
                  omega
                rw [tk_get (by omega), hx] at hu
                injection hu with hu
                have := hmin t v ht htp htk (by rw [← tk_get htk]; exact hv)
                omega
              · have hlt : y < x := by simpa using hc4
                refine Idx.by k rfl (by omega) ?_
                refine Look.by _ (by rw [Nat.zero_add]; exact ints_get hy) ?_
                refine Idx.by i rfl (by omega) ?_
                refine Look.by _ (by rw [Nat.zero_add]; exact ints_get hx) ?_
                refine Idx.by i rfl (by omega) ?_
                refine Look.by _ (by rw [Nat.zero_add]; exact ints_get hx) ?_
                refine Idx.by k rfl (by omega) ?_
                refine Look.by _ (by rw [Nat.zero_add, Nat.zero_add, List.getElem?_set_ne (by omega)]; exact ints_get hy) ?_
                refine Seg.by (by kernel_rfl) ?_
                refine Next.by (k, (c.set i y).set k x) ⟨sift_step hsf (by omega) (by omega) hkl hx hy hlt hmin, by dsimp only; omega, by rw [List.length_set, List.length_set]; exact hcm⟩ (by dsimp only; omega) (by refine Weak.by [(0, some _), (1, some _), (2, some _), (3, some _), (4, some _), (5, some _), (6, some _)] (by ((repeat' first | exact rfl | exact trivial | refine And.intro ?_ ?_) <;> (repeat' first | exact rfl | exact trivial | refine And.intro ?_ ?_)); all_goals ((rw [Nat.zero_add, Nat.zero_add, ints_set, ints_set]; rfl))) (by ((repeat' first | exact rfl | exact trivial | refine And.intro ?_ ?_) <;> (repeat' first | exact rfl | exact trivial | refine And.intro ?_ ?_)); all_goals ((rw [Nat.zero_add, Nat.zero_add, ints_set, ints_set]; rfl))) (by rfl))
            refine ⟨2 * i + 1, hjoin _ (.inl rfl) hch fun y hy t z ht htp htl hz => ?_, by refine Weak.by [(0, some _), (1, some _), (2, some _), (3, some _), (4, some _), (5, some _), (6, some _)] (by ((repeat' first | exact rfl | exact trivial | refine And.intro ?_ ?_) <;> (repeat' first | exact rfl | exact trivial | refine And.intro ?_ ?_)); all_goals ((exact sc_eq hk1.symm))) (by ((repeat' first | exact rfl | exact trivial | refine And.intro ?_ ?_) <;> (repeat' first | exact rfl | exact trivial | refine And.intro ?_ ?_)); all_goals ((exact sc_eq hk1.symm))) (by rfl)⟩
            have : t = 2 * i + 1 := by omega
            rw [this, hy] at hz; injection hz with hz; omega
        · have hch : ¬ 2 * i + 1 < last := by simp at hc1; omega
          refine ⟨c, ⟨hcm, hsf.len, hsf.perm, sift_done hsf fun t u v ht htp hu hv => ?_⟩, by refine Weak.by [(0, some _), (1, some _), (2, some _), (3, some _), (4, some _), (5, some _), (6, some _)] (by ((repeat' first | exact rfl | exact trivial | refine And.intro ?_ ?_) <;> (repeat' first | exact rfl | exact trivial | refine And.intro ?_ ?_))) (by ((repeat' first | exact rfl | exact trivial | refine And.intro ?_ ?_) <;> (repeat' first | exact rfl | exact trivial | refine And.intro ?_ ?_))) (by rfl)⟩
          have := (List.getElem?_eq_some_iff.1 hv).1
          rw [List.length_take] at this
          omega
      · have hz : l.length = 0 := by rw [ints_length, hlm] at hc; simpa using hc
        have hno : ∀ u, mayB N G u ≠ true := fun u hu => by
          have := hm u hu
          rw [List.eq_nil_of_length_eq_zero hz] at this
          simp at this
        rw [runS_end (firstMay_none hno), List.append_nil] at hrun
        rw [hrun]
        have hst4 : st.length ≤ 1000 := by omega
        have hGN := hW.len
        have hmo := hW.most
        have hNL := rowsI_length N
        refine LoopP.intro (α := Nat) (fun j => j ≤ N.length) (fun j => N.length - j) (fun j => [(2, .ptr 2 0), (4, .ptr 1 0), (5, .ptr 3 0), (13, .sl 4 none none), (14, .s (.i .i64 N.length)), (15, .s (.i .i64 j)), (1000002, .ptr 0 0)])
          (fun j => [(0, some (.blk [.nils, .nils, .nils])), (1, some (.blk [.nils, .nils, .nils])), (2, some (.blk [.sl 4 none none, .sl 5 none none])), (3, some (.blk [.sl 6 none none, .sl 7 none none, .sl 8 none none])), (4, some (.nest true 1 (rowsI N) [] [])), (5, some (.flat true 1 (bools G))), (6, some (.flat true 4 (stps st))), (7, some (.flat true 1 (ints (leftK G j)))), (8, some (.flat true 2 (edges (edgesK N G j))))]) 9 0 (by omega) (by refine Weak.by [(0, some _), (1, some _), (2, some _), (3, some _), (4, some _), (5, some _), (6, some _), (7, none), (8, none)] (by ((repeat' first | exact rfl | exact trivial | refine And.intro ?_ ?_) <;> (repeat' first | exact rfl | exact trivial | refine And.intro ?_ ?_)); all_goals ((first | (rw [hNL]; rfl) | done))) (by ((repeat' first | exact rfl | exact trivial | refine And.intro ?_ ?_) <;> (repeat' first | exact rfl | exact trivial | refine And.intro ?_ ?_)); all_goals ((first | (rw [hNL]; rfl) | done))) (by rfl)) ?_
        rintro j hj
        have hlk := leftK_len G j
        have hek := edgesK_len hW j
        refine Pick.by (fun hd1 => ?_) (fun hd1 => ?_)
        · have hjl : j < N.length := by simpa using hd1
          have hgj : (bools G)[j]? = some [.b (G.getD j false)] := by
            refine bools_get ?_
            rw [List.getD_eq_getElem?_getD, List.getElem?_eq_getElem (by omega)]; rfl
          have hrj : (rowsI N)[j]? = some (ints (rowAt N j)) := by
            have := (rowAt_mem (N := N) (v := (j : Int)) (by omega) (by omega)).2
            exact rowsI_get this
          have hrl := hW.row_len (j : Int)
          refine Idx.by j rfl (by omega) ?_
          refine Pick.T (by rw [hNL]; simp; omega) ?_
          refine Idx.by j rfl (by rw [bools_length]; omega) ?_
          refine Look.by _ hgj ?_
          refine Pick.by (fun hd2 => ?_) (fun hd2 => ?_)
          · have hd2 : G.getD j false = true := hd2
            refine Pick.T (inI64_of (by omega) (by omega)) ?_
            refine Next.by (j + 1) (by omega) (by omega) (by refine Weak.by [(0, some _), (1, some _), (2, some _), (3, some _), (4, some _), (5, some _), (6, some _), (7, some _), (8, some _)] (by ((repeat' first | exact rfl | exact trivial | refine And.intro ?_ ?_) <;> (repeat' first | exact rfl | exact trivial | refine And.intro ?_ ?_)); all_goals ((first | (rw [leftK_succ, if_pos hd2, List.append_nil]) | (rw [edgesK_succ, if_pos hd2, List.append_nil])))) (by ((repeat' first | exact rfl | exact trivial | refine And.intro ?_ ?_) <;> (repeat' first | exact rfl | exact trivial | refine And.intro ?_ ?_)); all_goals ((first | (rw [leftK_succ, if_pos hd2, List.append_nil]) | (rw [edgesK_succ, if_pos hd2, List.append_nil])))) (by rfl))
          have hd2 : G.getD j false = false := hd2
          have hl1 : leftK G (j + 1) = leftK G j ++ [(j : Int)] := by rw [leftK_succ, if_neg (by rw [hd2]; simp)]
          have he1 : edgesK N G (j + 1) = edgesK N G j ++ outE N j := by rw [edgesK_succ, if_neg (by rw [hd2]; simp)]
          refine Pick.T (by simp [cut, ints_length]; omega) ?_
          refine Look.by _ hrj ?_
          refine LoopP.intro (α := Nat) (fun k => k ≤ (rowAt N j).length) (fun k => (rowAt N j).length - k) (fun k => [(2, .ptr 2 0), (4, .ptr 1 0), (5, .ptr 3 0), (6, .s (.i .i64 j)), (13, .sl 4 none none), (14, .s (.i .i64 N.length)), (15, .s (.i .i64 j)), (31, .sl 4 (some (j, 0)) none), (32, .s (.i .i64 (rowAt N j).length)), (33, .s (.i .i64 k)), (1000002, .ptr 0 0)])
            (fun k => [(0, some (.blk [.nils, .nils, .nils])), (1, some (.blk [.nils, .nils, .nils])), (2, some (.blk [.sl 4 none none, .sl 5 none none])), (3, some (.blk [.sl 6 none none, .sl 7 none none, .sl 8 none none])), (4, some (.nest true 1 (rowsI N) [] [])), (5, some (.flat true 1 (bools G))), (6, some (.flat true 4 (stps st))), (7, some (.flat true 1 (ints (leftK G (j + 1))))), (8, some (.flat true 2 (edges (edgesK N G j ++ (((rowAt N j).take k).filter fun x => decide (x > (j : Int))).map fun x => ((j : Int), x)))))]) 9 0 (by omega) (by refine Weak.by [(0, some _), (1, some _), (2, some _), (3, some _), (4, some _), (5, some _), (6, some _), (7, some _), (8, some _)] (by ((repeat' first | exact rfl | exact trivial | refine And.intro ?_ ?_) <;> (repeat' first | exact rfl | exact trivial | refine And.intro ?_ ?_)); all_goals ((first | (rw [hl1, ints_snoc]; rfl) | (rw [List.take_zero]; simp; done) | (rw [ints_length]; rfl) | (simp; done)))) (by ((repeat' first | exact rfl | exact trivial | refine And.intro ?_ ?_) <;> (repeat' first | exact rfl | exact trivial | refine And.intro ?_ ?_)); all_goals ((first | (rw [hl1, ints_snoc]; rfl) | (rw [List.take_zero]; simp; done) | (rw [ints_length]; rfl) | (simp; done)))) (by rfl)) ?_
          rintro k hk
          have hpl : ((((rowAt N j).take k).filter fun x => decide (x > (j : Int))).map fun x => ((j : Int), x)).length ≤ 1000 := by
            rw [List.length_map]
            refine Nat.le_trans (List.length_filter_le _ _) ?_
            rw [List.length_take]; omega
          refine Pick.by (fun hd3 => ?_) (fun hd3 => ?_)
          · have hkl : k < (rowAt N j).length := by simpa using hd3
            obtain ⟨x, hx⟩ : ∃ x, (rowAt N j)[k]? = some x := ⟨_, List.getElem?_eq_getElem hkl⟩
            have hxe : (rowAt N j)[k] = x := by rw [List.getElem?_eq_getElem hkl] at hx; injection hx
            refine Look.by _ hrj ?_
            refine Idx.by k rfl (by rw [ints_length]; exact hkl) ?_
            refine Look.by _ hrj ?_
            refine Look.by _ (ints_get hx) ?_
            refine Pick.by (fun hd4 => ?_) (fun hd4 => ?_)
            · have hd4 : x > (j : Int) := by simpa using hd4
              refine Pick.T (by simp [cut, edges_length] at hpl ⊢; omega) ?_
              refine Pick.T (inI64_of (by omega) (by omega)) ?_
              refine Next.by (k + 1) (by omega) (by omega) (by refine Weak.by [(0, some _), (1, some _), (2, some _), (3, some _), (4, some _), (5, some _), (6, some _), (7, some _), (8, some _)] (by ((repeat' first | exact rfl | exact trivial | refine And.intro ?_ ?_) <;> (repeat' first | exact rfl | exact trivial | refine And.intro ?_ ?_)); all_goals ((first | (rw [List.take_succ_eq_append_getElem hkl, hxe, List.filter_append, List.map_append, List.filter_cons, if_pos (by simpa using hd4), List.filter_nil, ← List.append_assoc]; exact edges_snoc _ _) | (simp; done)))) (by ((repeat' first | exact rfl | exact trivial | refine And.intro ?_ ?_) <;> (repeat' first | exact rfl | exact trivial | refine And.intro ?_ ?_)); all_goals ((first | (rw [List.take_succ_eq_append_getElem hkl, hxe, List.filter_append, List.map_append, List.filter_cons, if_pos (by simpa using hd4), List.filter_nil, ← List.append_assoc]; exact edges_snoc _ _) | (simp; done)))) (by rfl))
            · have hd4 : ¬ x > (j : Int) := by simpa using hd4
              refine Pick.T (inI64_of (by omega) (by omega)) ?_
              refine Next.by (k + 1) (by omega) (by omega) (by refine Weak.by [(0, some _), (1, some _), (2, some _), (3, some _), (4, some _), (5, some _), (6, some _), (7, some _), (8, some _)] (by ((repeat' first | exact rfl | exact trivial | refine And.intro ?_ ?_) <;> (repeat' first | exact rfl | exact trivial | refine And.intro ?_ ?_)); all_goals ((first | (rw [List.take_succ_eq_append_getElem hkl, hxe, List.filter_append, List.map_append, List.filter_cons, if_neg (by simpa using hd4), List.filter_nil, List.map_nil, List.append_nil]) | (simp; done)))) (by ((repeat' first | exact rfl | exact trivial | refine And.intro ?_ ?_) <;> (repeat' first | exact rfl | exact trivial | refine And.intro ?_ ?_)); all_goals ((first | (rw [List.take_succ_eq_append_getElem hkl, hxe, List.filter_append, List.map_append, List.filter_cons, if_neg (by simpa using hd4), List.filter_nil, List.map_nil, List.append_nil]) | (simp; done)))) (by rfl))
          · have hkl : k = (rowAt N j).length := by simp at hd3; omega
            have hfull : edgesK N G (j + 1) = edgesK N G j ++ (((rowAt N j).take k).filter fun x => decide (x > (j : Int))).map fun x => ((j : Int), x) := by rw [he1, hkl, List.take_length]; rfl
            refine Pick.T (inI64_of (by omega) (by omega)) ?_
            refine Next.by (j + 1) (by omega) (by omega) (by refine Weak.by [(0, some _), (1, some _), (2, some _), (3, some _), (4, some _), (5, some _), (6, some _), (7, some _), (8, some _)] (by ((repeat' first | exact rfl | exact trivial | refine And.intro ?_ ?_) <;> (repeat' first | exact rfl | exact trivial | refine And.intro ?_ ?_)); all_goals ((rw [hfull]))) (by ((repeat' first | exact rfl | exact trivial | refine And.intro ?_ ?_) <;> (repeat' first | exact rfl | exact trivial | refine And.intro ?_ ?_)); all_goals ((rw [hfull]))) (by rfl))
        have hjl : j = N.length := by simp at hd1; omega
        subst hjl
        have e1 : leftF G = leftK G N.length := by unfold leftF leftK; rw [hGN]
        have e2 : edgesF N G = edgesK N G N.length := by unfold edgesF edgesK; rw [e1]
        refine ⟨rfl, ?_⟩
        (repeat' first | exact rfl | exact trivial | refine And.intro ?_ ?_)
        all_goals (first | exact congrArg ints e1 | exact congrArg edges e2)
    · have hlm : m.take L = cut (some (0, L)) m := rfl
      generalize cut (some (0, L)) m = l at *
      have hLl : l.length = L := by rw [← hlm, List.length_take]; omega
      have hget : ∀ j, j < L → l[j]? = m[j]? := fun j hj => by rw [← hlm, List.getElem?_take, if_pos hj]
      refine Pick.by (fun hc => ?_) (fun hc => ?_)
      · have hpos : 0 < l.length := by rw [hLl]; simpa using hc
        obtain ⟨out, hout⟩ : ∃ a, l[0]? = some a := ⟨_, List.getElem?_eq_getElem hpos⟩
        obtain ⟨last, hlst⟩ : ∃ k, l.length = k + 1 := ⟨l.length - 1, by omega⟩
        obtain ⟨top, htop⟩ : ∃ a, l[last]? = some a := ⟨_, List.getElem?_eq_getElem (by omega)⟩
        have hlast : (L : Int) - 1 = (last : Int) := by omega
        have hout2 : m[0]? = some out := by rw [← hget 0 (by omega)]; exact hout
        have htop2 : m[last]? = some top := by rw [← hget last (by omega)]; exact htop
        have hsift : Sift l out last (m.set 0 top) 0 := by
          have e : (m.set 0 top).take last = (l.set 0 top).take last := by
            rw [← hlm, List.take_set, List.take_set, List.take_take, Nat.min_eq_left (by omega)]
          exact ⟨by rw [List.length_set]; omega, by rw [e]; exact take_perm hout htop hlst, by rw [e]; exact dn_start hH _⟩
        refine Idx.by 0 rfl (by omega) ?_
        refine Look.by _ (ints_get hout2) ?_
        refine Pick.T (by rw [hlast]; exact inI64_of (by omega) (by omega)) ?_
        refine Idx.by last hlast (by omega) ?_
        refine Look.by _ (by rw [Nat.zero_add]; exact ints_get htop2) ?_
        refine Idx.by 0 rfl (by omega) ?_
        refine Look.by _ (ints_get hout2) ?_
        refine Rng.by 0 last rfl hlast (by omega) (by omega) ?_
        refine JoinP.intro (α := List Int) (fun c => c.length = m.length ∧ last ≤ c.length ∧ (out :: c.take last).Perm l ∧ Heap (c.take last)) (fun c => [(0, .ptr 4 0), (3, .sl 5 none (some (0, last))), (4, .s (.i .i64 out)), (1000002, .ptr 0 0), (1000003, .ptr 1 0), (1000004, .ptr 4 0), (1000006, .sl 6 none none)])
          (fun c => [(0, some (.blk [.nils, .nils, .nils])), (1, some (.blk [.sl 2 none none, .sl 3 none none])), (2, some (.nest true 1 (rowsI N) [] [])), (3, some (.flat true 1 (bools G))), (4, some (.blk [.sl 5 none (some (0, L))])), (5, some (.flat true 1 (ints c))), (6, some (.flat true 4 (stps st)))]) 7 ?_ ?_
        rotate_left
        · rintro c ⟨hcm, hlc, hperm, hHc⟩
          have hGN := hW.len
          have hq0 : ∀ v, v ∈ c.take last → v ∈ l := fun v hv => hperm.mem_iff.1 (List.mem_cons_of_mem _ hv)
          have hq1 : ∀ v, v ∈ l → v = out ∨ v ∈ c.take last := fun v hv => by simpa using hperm.mem_iff.2 hv
          have hqr : ∀ v ∈ c.take last, 0 ≤ v ∧ v < n := fun v hv => hr v (hq0 v hv)
          have hqc : cut (some (0, last)) c = c.take last := rfl
          have hqlen : (c.take last).length = last := by rw [List.length_take]; omega
          have hor := hr out (List.mem_of_getElem? hout)
          refine Call.by _ _ (MayC_at out hGN) ?_
          refine Pick.by (fun hmy => ?_) (fun hmy => ?_)
          · have hmy : mayB N G out = false := by have hmy : (!mayB N G out) = true := hmy; simpa using hmy
            refine Next.by (st, N, G, some (0, last), c) ⟨hW, hNl, hrun, hlive, .inr ⟨last, rfl, hlc⟩, by dsimp only; omega, by dsimp only; rw [hqc]; omega, hHc, hqr, fun v hv => ?_⟩ (by dsimp only; rw [hqc]; omega) (by refine Weak.by [(0, some _), (1, some _), (2, some _), (3, some _), (4, some _), (5, some _), (6, some _)] (by ((repeat' first | exact rfl | exact trivial | refine And.intro ?_ ?_) <;> (repeat' first | exact rfl | exact trivial | refine And.intro ?_ ?_))) (by ((repeat' first | exact rfl | exact trivial | refine And.intro ?_ ?_) <;> (repeat' first | exact rfl | exact trivial | refine And.intro ?_ ?_))) (by rfl))
            rcases hq1 v (hm v hv) with e | e
            · rw [e, hmy] at hv; cases hv
            · exact e
          have hmy : mayB N G out = true := by have hmy : (!mayB N G out) = false := hmy; simpa using hmy
          have hmp := mayB_iff.1 hmy
          obtain ⟨hs1, hs2⟩ := step_two hW hmp rfl
          refine Call.by _ _ (StepC_at ⟨hW, hmp.lo, hmp.hi⟩) ?_
          have hlo := hmp.lo
          have hhi := hmp.hi
          have hrv := hW.rows out
          have hnd : (rowAt N out).Nodup := hrv.1.imp fun hab => by omega
          have hNL := rowsI_length N
          have hmo := hW.most
          have hrl := hW.row_len out
          have hgv : (rowsI N)[(out).toNat]? = some (ints (rowAt N out)) := rowsI_get (rowAt_mem hlo hhi).2
          have hvv : out ∉ rowAt N out := hW.irr out hlo
          have hpart : ∀ (di : Nat) (u : Int), 0 ≤ u → rowAt (((rowAt N out).take di).foldl (cutF out) N) u = if u ∈ (rowAt N out).take di then (rowAt N u).erase out else rowAt N u := fun di u hu => cuts_row (hnd.sublist (List.take_sublist _ _)) (fun x hx => hrv.2 x (List.mem_of_mem_take hx)) hu
          have hplen : ∀ di : Nat, (rowsI (((rowAt N out).take di).foldl (cutF out) N)).length = N.length := fun di => by rw [rowsI_length, cuts_length]
          have hpget : ∀ (di : Nat) (u : Int), 0 ≤ u → u < N.length → (rowsI (((rowAt N out).take di).foldl (cutF out) N))[u.toNat]? = some (ints (rowAt (((rowAt N out).take di).foldl (cutF out) N) u)) := fun di u h0 h1 => rowsI_get (rowAt_mem h0 (by rw [cuts_length]; exact h1)).2
          refine Idx.by (out).toNat (by show (out : Int) = _; omega) (by omega) ?_
          refine Pick.T (by rw [hNL]; simp; omega) ?_
          refine Look.by _ hgv ?_
          refine LoopP.intro (α := Nat) (fun di => di ≤ (rowAt N out).length) (fun di => (rowAt N out).length - di) (fun di => [(2, .ptr 8 0), (3, .ptr 9 0), (11, .sl 2 (some ((out).toNat, 0)) none), (12, .s (.i .i64 (rowAt N out).length)), (13, .s (.i .i64 di)), (1000002, .ptr 0 0), (1000003, .ptr 1 0), (1000004, .ptr 4 0), (1000006, .sl 6 none none), (1000008, .ptr 7 0)])
            (fun di => [(0, some (.blk [.nils, .nils, .nils])), (1, some (.blk [.sl 2 none none, .sl 3 none none])), (4, some (.blk [.sl 5 none (some (0, last))])), (5, some (.flat true 1 (ints c))), (6, some (.flat true 4 (stps st))), (7, some (.blk [.s (.i .i64 (stepF N out).1), .s (.i .i64 (stepF N out).2.1), .s (.i .i64 (stepF N out).2.2.1), .s (.b (stepF N out).2.2.2)])), (2, some (.nest true 1 (rowsI (((rowAt N out).take di).foldl (cutF out) N)) [] [])), (3, some (.flat true 1 (bools G))), (8, some (.blk [.sl 2 none none, .sl 3 none none])), (9, some (.blk [.s (.i .i64 (stepF N out).1), .s (.i .i64 (stepF N out).2.1), .s (.i .i64 (stepF N out).2.2.1), .s (.b (stepF N out).2.2.2)]))]) 10 0 (by omega) (by refine Weak.by [(0, some _), (1, some _), (2, some _), (3, some _), (4, some _), (5, some _), (6, some _), (7, some _), (8, some _), (9, some _)] (by ((repeat' first | exact rfl | exact trivial | refine And.intro ?_ ?_) <;> (repeat' first | exact rfl | exact trivial | refine And.intro ?_ ?_)); all_goals ((first | (rw [ints_length]; rfl) | (simp; done)))) (by ((repeat' first | exact rfl | exact trivial | refine And.intro ?_ ?_) <;> (repeat' first | exact rfl | exact trivial | refine And.intro ?_ ?_)); all_goals ((first | (rw [ints_length]; rfl) | (simp; done)))) (by rfl)) ?_
          rintro di hi
          refine Pick.by (fun hc1 => ?_) (fun hc1 => ?_)
          · have hil : di < (rowAt N out).length := by simpa using hc1
            obtain ⟨x, hx⟩ : ∃ x, (rowAt N out)[di]? = some x := ⟨_, List.getElem?_eq_getElem hil⟩
            have hxm := List.mem_of_getElem? hx
            have hxr := hrv.2 x hxm
            have hxv : x ≠ out := fun e => hvv (e ▸ hxm)
            have hgi : (rowsI (((rowAt N out).take di).foldl (cutF out) N))[(out).toNat]? = some (ints (rowAt N out)) := by
              rw [hpget di out hlo hhi, hpart di out hlo, if_neg fun h => hvv (List.mem_of_mem_take h)]
            have hrx := hpget di x hxr.1 hxr.2
            have hstp : ((rowAt N out).take (di + 1)).foldl (cutF out) N = cutF out (((rowAt N out).take di).foldl (cutF out) N) x := by
              rw [List.take_succ_eq_append_getElem hil, List.foldl_append]
              have : (rowAt N out)[di] = x := by rw [List.getElem?_eq_getElem hil] at hx; injection hx
              rw [this]; rfl
            have hwx : (rowAt (((rowAt N out).take di).foldl (cutF out) N) x).Pairwise (· ≤ ·) ∧ (rowAt (((rowAt N out).take di).foldl (cutF out) N) x).length ≤ 1000000 := by
              have h1 := hW.rows x
              have h2 := hW.row_len x
              rw [hpart di x hxr.1]
              split
              · have h3 := List.length_erase_le (l := rowAt N x) (a := out)
                exact ⟨(erase_sorted h1.1).imp fun h => by omega, by omega⟩
              · exact ⟨h1.1.imp fun h => by omega, by omega⟩
            have hpl := hplen di
            refine Look.by _ hgi ?_
            refine Idx.by di rfl (by rw [ints_length]; exact hil) ?_
            refine Look.by _ hgi ?_
            refine Look.by _ (ints_get hx) ?_
            refine Idx.by x.toNat (by omega) (by omega) ?_
            refine Pick.T (by rw [hpl]; simp; omega) ?_
            refine Look.by _ hrx ?_
            refine Call.by _ _ (turnC_at hwx) ?_
            refine Idx.by x.toNat (by omega) (by omega) ?_
            refine Pick.T (by rw [hpl]; simp; omega) ?_
            refine Pick.T (by simp) ?_
            refine Seg.by (by kernel_rfl) ?_
            refine Pick.T (inI64_of (by omega) (by omega)) ?_
            refine Next.by (di + 1) (by omega) (by omega) (by refine Weak.by [(0, some _), (1, some _), (2, some _), (3, some _), (4, some _), (5, some _), (6, some _), (7, some _), (8, some _), (9, some _)] (by ((repeat' first | exact rfl | exact trivial | refine And.intro ?_ ?_) <;> (repeat' first | exact rfl | exact trivial | refine And.intro ?_ ?_)); all_goals ((first | (rw [hstp]; unfold cutF; rw [rowsI_set]; rfl) | (simp; done) | (simp; omega)))) (by ((repeat' first | exact rfl | exact trivial | refine And.intro ?_ ?_) <;> (repeat' first | exact rfl | exact trivial | refine And.intro ?_ ?_)); all_goals ((first | (rw [hstp]; unfold cutF; rw [rowsI_set]; rfl) | (simp; done) | (simp; omega)))) (by rfl))
          have hil : di = (rowAt N out).length := by simp at hc1; omega
          subst hil
          rw [List.take_length]
          have hN1 : ∀ u : Int, 0 ≤ u → rowAt ((rowAt N out).foldl (cutF out) N) u = (rowAt N u).erase out := fun u hu => by
            rw [cuts_row hnd hrv.2 hu]
            split
            · rfl
            · rename_i hno
              rw [List.erase_of_not_mem]
              exact fun h => hno (hW.sym u out hu hlo h)
          have hl1 : (rowsI ((rowAt N out).foldl (cutF out) N)).length = N.length := by rw [rowsI_length, cuts_length]
          refine JoinP.intro (α := Unit) (fun _ => True) (fun _ => [(2, .ptr 8 0), (3, .ptr 9 0), (1000002, .ptr 0 0), (1000003, .ptr 1 0), (1000004, .ptr 4 0), (1000006, .sl 6 none none), (1000008, .ptr 7 0)])
            (fun _ => [(0, some (.blk [.nils, .nils, .nils])), (1, some (.blk [.sl 2 none none, .sl 3 none none])), (4, some (.blk [.sl 5 none (some (0, last))])), (5, some (.flat true 1 (ints c))), (6, some (.flat true 4 (stps st))), (7, some (.blk [.s (.i .i64 (stepF N out).1), .s (.i .i64 (stepF N out).2.1), .s (.i .i64 (stepF N out).2.2.1), .s (.b (stepF N out).2.2.2)])), (2, some (.nest true 1 (rowsI (if (stepF N out).2.2.2 then joinF (joinF ((rowAt N out).foldl (cutF out) N) (stepF N out).2.1 (stepF N out).2.2.1) (stepF N out).2.2.1 (stepF N out).2.1 else (rowAt N out).foldl (cutF out) N)) [] [])), (3, some (.flat true 1 (bools G))), (8, some (.blk [.sl 2 none none, .sl 3 none none])), (9, some (.blk [.s (.i .i64 (stepF N out).1), .s (.i .i64 (stepF N out).2.1), .s (.i .i64 (stepF N out).2.2.1), .s (.b (stepF N out).2.2.2)]))]) 10 ?_ ?_
          rotate_left
          · rintro ⟨⟩ -
            have hl2 : (rowsI (if (stepF N out).2.2.2 then joinF (joinF ((rowAt N out).foldl (cutF out) N) (stepF N out).2.1 (stepF N out).2.2.1) (stepF N out).2.2.1 (stepF N out).2.1 else (rowAt N out).foldl (cutF out) N)).length = N.length := by
              rw [rowsI_length]
              split
              · rw [joinF_length, joinF_length, cuts_length]
              · rw [cuts_length]
            have hdo : (rowsI (if (stepF N out).2.2.2 then joinF (joinF ((rowAt N out).foldl (cutF out) N) (stepF N out).2.1 (stepF N out).2.2.1) (stepF N out).2.2.1 (stepF N out).2.1 else (rowAt N out).foldl (cutF out) N)).set (out).toNat [] = rowsI (doN N (stepF N out)) := by
              unfold doN
              rw [rowsI_set]; rfl
            have hdg : (bools G).set (out).toNat [.b true] = bools (doG G (stepF N out)) := by
              unfold doG bools
              rw [List.map_set]; rfl
            generalize rowsI (if (stepF N out).2.2.2 then joinF (joinF ((rowAt N out).foldl (cutF out) N) (stepF N out).2.1 (stepF N out).2.2.1) (stepF N out).2.2.1 (stepF N out).2.1 else (rowAt N out).foldl (cutF out) N) = RR at hl2 hdo ⊢
            refine Idx.by (out).toNat (by show (out : Int) = _; omega) (by omega) ?_
            refine Pick.T (by rw [hl2]; simp; omega) ?_
            refine Idx.by (out).toNat (by show (out : Int) = _; omega) (by rw [bools_length, hW.len]; omega) ?_
            refine Look.by _ (bools_get (goneAt_get hW.len hlo hhi)) ?_
            refine Seg.by (by kernel_rfl) ?_
            have hW2 := do_wf hW hmp
            have hNl2 : (doN N (stepF N out)).length = n.toNat := by rw [doN_length]; exact hNl
            have hGN2 : (doG G (stepF N out)).length = (doN N (stepF N out)).length := hW2.len
            have hlv := live_step hW hmp
            have hst4 : st.length + 1 ≤ n.toNat := by omega
            have hrun2 := run_step hrun hW hmy hst4 (fun v hv => heap_least hHc hH hout hperm hm hv)
            have hmay2 : ∀ v, mayB (doN N (stepF N out)) (doG G (stepF N out)) v = true → v ∈ c.take last ∨ v = (stepF N out).2.1 ∨ v = (stepF N out).2.2.1 := fun v hv => may_step hW hmp hs2 hv fun h2 hne => (hq1 v (hm v h2)).elim (fun e => absurd e hne) id
            generalize hN2 : doN N (stepF N out) = N2 at *
            generalize hG2 : doG G (stepF N out) = G2 at *
            generalize hsG : stepF N out = s at *
            refine Pick.T (by simp [cut, stps_length]; omega) ?_
            refine LoopP.intro (α := Nat × Option (Nat × Nat) × List Int) (fun a => a.1 ≤ 2 ∧ (a.2.1 = none ∨ ∃ L, a.2.1 = some (0, L) ∧ L ≤ a.2.2.length) ∧ a.2.2.length ≤ 4000 ∧ (cut a.2.1 a.2.2).length ≤ last + a.1 ∧ Heap (cut a.2.1 a.2.2) ∧ (∀ v ∈ cut a.2.1 a.2.2, 0 ≤ v ∧ v < n) ∧ ∀ v : Int, mayB N2 G2 v = true → v ∈ cut a.2.1 a.2.2 ∨ (a.1 ≤ 0 ∧ v = s.2.1) ∨ (a.1 ≤ 1 ∧ v = s.2.2.1)) (fun a => 2 - a.1) (fun a => [(2, .ptr 0 0), (3, .ptr 1 0), (4, .ptr 4 0), (6, .sl 6 none none), (51, .sl 7 none none), (52, .s (.i .i64 2)), (53, .s (.i .i64 a.1))])
              (fun a => [(0, some (.blk [.nils, .nils, .nils])), (1, some (.blk [.sl 2 none none, .sl 3 none none])), (2, some (.nest true 1 (rowsI N2) [] [])), (3, some (.flat true 1 (bools G2))), (4, some (.blk [.sl 5 none a.2.1])), (5, some (.flat true 1 (ints a.2.2))), (6, some (.flat true 4 (stps (st ++ [s])))), (7, some (.flat true 1 (ints [s.2.1, s.2.2.1])))]) 8 (0, some (0, last), c)
              ⟨by dsimp only; omega, .inr ⟨last, rfl, hlc⟩, by dsimp only; omega, by dsimp only; rw [hqc]; omega, hHc, hqr, fun v hv => (hmay2 v hv).elim .inl fun h => h.elim (fun h => .inr (.inl ⟨by dsimp only; omega, h⟩)) fun h => .inr (.inr ⟨by dsimp only; omega, h⟩)⟩ (by refine Weak.by [(0, some _), (1, some _), (2, some _), (3, some _), (4, some _), (5, some _), (6, some _), (7, some _)] (by ((repeat' first | exact rfl | exact trivial | refine And.intro ?_ ?_) <;> (repeat' first | exact rfl | exact trivial | refine And.intro ?_ ?_)); all_goals ((first | (exact stps_snoc st s) | (exact hdo.symm) | (exact hdg.symm)))) (by ((repeat' first | exact rfl | exact trivial | refine And.intro ?_ ?_) <;> (repeat' first | exact rfl | exact trivial | refine And.intro ?_ ?_)); all_goals ((first | (exact stps_snoc st s) | (exact hdo.symm) | (exact hdg.symm)))) (by rfl)) ?_
            rintro ⟨i, sub2, m2⟩ ⟨hi2, hsub2, hm24, hcl2, hH2, hr2, hmv2⟩
            dsimp only at hi2 hsub2 hm24 hcl2 hH2 hr2 hmv2 ⊢
            refine Pick.by (fun hc5 => ?_) (fun hc5 => ?_)
            · have hi3 : i < 2 := by simp at hc5; omega
              obtain ⟨x, hx⟩ : ∃ x, [s.2.1, s.2.2.1][i]? = some x := ⟨_, List.getElem?_eq_getElem (show i < [s.2.1, s.2.2.1].length from hi3)⟩
              have hxi : (i = 0 ∧ x = s.2.1) ∨ (i = 1 ∧ x = s.2.2.1) := by
                have : i = 0 ∨ i = 1 := by omega
                rcases this with e | e
                · subst e; simp at hx; exact .inl ⟨rfl, hx.symm⟩
                · subst e; simp at hx; exact .inr ⟨rfl, hx.symm⟩
              refine Idx.by i rfl (by rw [ints_length]; exact hi3) ?_
              refine Look.by _ (ints_get hx) ?_
              refine Call.by _ _ (MayC_at x hGN2) ?_
              refine JoinP.intro (α := Option (Nat × Nat) × List Int) (fun b => (b.1 = none ∨ ∃ L, b.1 = some (0, L) ∧ L ≤ b.2.length) ∧ b.2.length ≤ 4000 ∧ (cut b.1 b.2).length ≤ last + i + 1 ∧ Heap (cut b.1 b.2) ∧ (∀ v ∈ cut b.1 b.2, 0 ≤ v ∧ v < n) ∧ ∀ v : Int, mayB N2 G2 v = true → v ∈ cut b.1 b.2 ∨ (i + 1 ≤ 0 ∧ v = s.2.1) ∨ (i + 1 ≤ 1 ∧ v = s.2.2.1)) (fun b => [(2, .ptr 0 0), (3, .ptr 1 0), (4, .ptr 4 0), (6, .sl 6 none none), (51, .sl 7 none none), (52, .s (.i .i64 2)), (53, .s (.i .i64 i))])
                (fun b => [(0, some (.blk [.nils, .nils, .nils])), (1, some (.blk [.sl 2 none none, .sl 3 none none])), (2, some (.nest true 1 (rowsI N2) [] [])), (3, some (.flat true 1 (bools G2))), (4, some (.blk [.sl 5 none b.1])), (5, some (.flat true 1 (ints b.2))), (6, some (.flat true 4 (stps (st ++ [s])))), (7, some (.flat true 1 (ints [s.2.1, s.2.2.1])))]) 8 ?_ ?_
              rotate_left
              · rintro ⟨sub3, m3⟩ hJ
                refine Pick.T (inI64_of (by omega) (by omega)) ?_
                exact Next.by (i + 1, sub3, m3) ⟨by dsimp only; omega, hJ⟩ (by dsimp only; omega) (by refine Weak.by [(0, some _), (1, some _), (2, some _), (3, some _), (4, some _), (5, some _), (6, some _), (7, some _)] (by ((repeat' first | exact rfl | exact trivial | refine And.intro ?_ ?_) <;> (repeat' first | exact rfl | exact trivial | refine And.intro ?_ ?_))) (by ((repeat' first | exact rfl | exact trivial | refine And.intro ?_ ?_) <;> (repeat' first | exact rfl | exact trivial | refine And.intro ?_ ?_))) (by rfl))
              refine Pick.by (fun hc6 => ?_) (fun hc6 => ?_)
              · have hc6 : mayB N2 G2 x = true := hc6
                have hxr2 : 0 ≤ x ∧ x < n := may_range hNl2 hc6
                have hH := hH2
                refine Pick.T (by simp [cut, ints_length]; omega) ?_
                have hraw : cut sub2 (ints m2) = ints (cut sub2 m2) := cut_ints
                have hlen0 : (cut sub2 (ints m2) ++ [[Sc.i .i64 x]]) = ints ((cut sub2 m2) ++ [x]) := by rw [hraw, ints_snoc]
                refine Pick.T (by show inI64 ((((cut sub2 (ints m2) ++ [[Sc.i .i64 x]]).length : Nat) : Int) - 1) = true; rw [hlen0, ints_length]; simp; exact inI64_of (by omega) (by omega)) ?_
                have hlen1 : (((cut sub2 m2).length : Nat) : Int) = (((cut sub2 (ints m2) ++ [[Sc.i .i64 x]]).length : Nat) : Int) - 1 := by rw [hlen0, ints_length]; simp
                refine JoinP.intro (α := List Int) (fun a => Heap a ∧ a.length = (cut sub2 m2).length + 1 ∧ ∀ v, v ∈ a ↔ v ∈ (cut sub2 m2) ∨ v = x) (fun a => [(0, .ptr 4 0), (4, .sl 8 none none), (1000002, .ptr 0 0), (1000003, .ptr 1 0), (1000004, .ptr 4 0), (1000006, .sl 6 none none), (1000051, .sl 7 none none), (1000052, .s (.i .i64 2)), (1000053, .s (.i .i64 i))])
                  (fun a => [(0, some (.blk [.nils, .nils, .nils])), (1, some (.blk [.sl 2 none none, .sl 3 none none])), (2, some (.nest true 1 (rowsI N2) [] [])), (3, some (.flat true 1 (bools G2))), (4, some (.blk [.sl 5 none sub2])), (6, some (.flat true 4 (stps (st ++ [s])))), (7, some (.flat true 1 (ints [s.2.1, s.2.2.1]))), (8, some (.flat true 1 (ints a)))]) 9 ?_ ?_
                rotate_left
                · rintro m ⟨hHm, hml2, hmem⟩
                  exact ⟨(none, m), ⟨.inl rfl, by dsimp only; omega, by show m.length ≤ _; omega, hHm, fun v hv => ((hmem v).1 hv).elim (hr2 v) fun e => by rw [e]; exact hxr2, fun v hv => put_may hxi (hmem v).2 (hmv2 v hv)⟩, by refine Weak.by [(0, some _), (1, some _), (2, some _), (3, some _), (4, some _), (5, some _), (6, some _), (7, some _)] (by ((repeat' first | exact rfl | exact trivial | refine And.intro ?_ ?_) <;> (repeat' first | exact rfl | exact trivial | refine And.intro ?_ ?_))) (by ((repeat' first | exact rfl | exact trivial | refine And.intro ?_ ?_) <;> (repeat' first | exact rfl | exact trivial | refine And.intro ?_ ?_))) (by rfl)⟩
                refine LoopP.intro (α := Nat × List Int) (fun a => a.2.Perm ((cut sub2 m2) ++ [x]) ∧ HUp a.2 a.1 ∧ a.1 < a.2.length) (fun a => a.1) (fun a => [(0, .ptr 4 0), (4, .sl 8 none none), (5, .s (.i .i64 a.1)), (1000002, .ptr 0 0), (1000003, .ptr 1 0), (1000004, .ptr 4 0), (1000006, .sl 6 none none), (1000051, .sl 7 none none), (1000052, .s (.i .i64 2)), (1000053, .s (.i .i64 i))])
                  (fun a => [(0, some (.blk [.nils, .nils, .nils])), (1, some (.blk [.sl 2 none none, .sl 3 none none])), (2, some (.nest true 1 (rowsI N2) [] [])), (3, some (.flat true 1 (bools G2))), (4, some (.blk [.sl 5 none sub2])), (6, some (.flat true 4 (stps (st ++ [s])))), (7, some (.flat true 1 (ints [s.2.1, s.2.2.1]))), (8, some (.flat true 1 (ints a.2)))]) 9 ((cut sub2 m2).length, (cut sub2 m2) ++ [x]) ⟨List.Perm.refl _, up_start hH _, by simp⟩ (by refine Weak.by [(0, some _), (1, some _), (2, some _), (3, some _), (4, some _), (5, some _), (6, some _), (7, some _), (8, some _)] (by ((repeat' first | exact rfl | exact trivial | refine And.intro ?_ ?_) <;> (repeat' first | exact rfl | exact trivial | refine And.intro ?_ ?_)); all_goals ((first | (exact hlen0.symm) | (exact sc_eq hlen1)))) (by ((repeat' first | exact rfl | exact trivial | refine And.intro ?_ ?_) <;> (repeat' first | exact rfl | exact trivial | refine And.intro ?_ ?_)); all_goals ((first | (exact hlen0.symm) | (exact sc_eq hlen1)))) (by rfl)) ?_
                rintro ⟨p, m⟩ ⟨hperm, hup, hpm⟩
                dsimp only at hperm hup hpm ⊢
                have hml : m.length = (cut sub2 m2).length + 1 := by rw [hperm.length_eq]; simp
                have hpq : 0 < p → ((p : Int) - 1).tdiv 2 = (((p - 1) / 2 : Nat) : Int) := fun h => by rw [show (p : Int) - 1 = ((p - 1 : Nat) : Int) by omega]; rfl
                have hput : Heap m → Heap m ∧ m.length = (cut sub2 m2).length + 1 ∧ ∀ v, v ∈ m ↔ v ∈ (cut sub2 m2) ∨ v = x := fun h => ⟨h, hml, fun v => by rw [hperm.mem_iff]; simp⟩
                refine Pick.by (fun hc1 => ?_) (fun hc1 => ?_)
                · have hp0 : 0 < p := by simp at hc1; omega
                  have hq := hpq hp0
                  have hql : (p - 1) / 2 < m.length := by omega
                  obtain ⟨y, hy⟩ : ∃ y, m[p]? = some y := ⟨_, List.getElem?_eq_getElem hpm⟩
                  obtain ⟨z, hz⟩ : ∃ z, m[(p - 1) / 2]? = some z := ⟨_, List.getElem?_eq_getElem hql⟩
                  refine Idx.by p rfl (by rw [ints_length]; exact hpm) ?_
                  refine Look.by _ (ints_get hy) ?_
                  refine Pick.T (inI64_of (by omega) (by omega)) ?_
                  refine Pick.T (inI64_of (by omega) (by omega)) ?_
                  refine Idx.by ((p - 1) / 2) hq (by rw [ints_length]; exact hql) ?_
                  refine Look.by _ (ints_get hz) ?_
                  refine Seg.by (by kernel_rfl) ?_
                  refine Pick.by (fun hc2 => ?_) (fun hc2 => ?_)
                  · have hlt : y < z := by simpa using hc2
                    have hsw : ints ((m.set p z).set ((p - 1) / 2) y) = ((ints m).set p [.i .i64 z]).set ((p - 1) / 2) [.i .i64 y] := by rw [ints_set, ints_set]
                    refine Pick.T (inI64_of (by omega) (by omega)) ?_
                    refine Pick.T (inI64_of (by omega) (by omega)) ?_
                    refine Pick.T (inI64_of (by omega) (by omega)) ?_
                    refine Pick.T (inI64_of (by omega) (by omega)) ?_
                    refine Idx.by ((p - 1) / 2) hq (by rw [ints_length]; exact hql) ?_
                    refine Look.by _ (ints_get hz) ?_
                    refine Idx.by p rfl (by rw [ints_length]; exact hpm) ?_
                    refine Look.by _ (ints_get hy) ?_
                    refine Idx.by p rfl (by rw [ints_length]; exact hpm) ?_
                    refine Look.by _ (ints_get hy) ?_
                    refine Idx.by ((p - 1) / 2) hq (by rw [List.length_set, ints_length]; exact hql) ?_
                    refine Look.by _ (by rw [List.getElem?_set_ne (by omega)]; exact ints_get hz) ?_
                    refine Seg.by (by kernel_rfl) ?_
                    refine Pick.T (inI64_of (by omega) (by omega)) ?_
                    refine Pick.T (inI64_of (by omega) (by omega)) ?_
                    refine Next.by ((p - 1) / 2, (m.set p z).set ((p - 1) / 2) y) ⟨(swap_perm hy hz (by omega)).trans hperm, up_step hup hp0 hz hy hlt, by rw [List.length_set, List.length_set]; exact hql⟩ (by dsimp only; omega) (by refine Weak.by [(0, some _), (1, some _), (2, some _), (3, some _), (4, some _), (5, some _), (6, some _), (7, some _), (8, some _)] (by ((repeat' first | exact rfl | exact trivial | refine And.intro ?_ ?_) <;> (repeat' first | exact rfl | exact trivial | refine And.intro ?_ ?_)); all_goals ((first | (exact hsw) | (exact sc_eq hq.symm)))) (by ((repeat' first | exact rfl | exact trivial | refine And.intro ?_ ?_) <;> (repeat' first | exact rfl | exact trivial | refine And.intro ?_ ?_)); all_goals ((first | (exact hsw) | (exact sc_eq hq.symm)))) (by rfl))
                  · have hHm := hput (up_done hup (.inr fun x' y' hx' hy' => by
                      rw [hz] at hx'; rw [hy] at hy'
                      injection hx' with hx'; injection hy' with hy'
                      have : ¬ y < z := by simpa using hc2
                      omega))
                    exact ⟨m, hHm, by refine Weak.by [(0, some _), (1, some _), (2, some _), (3, some _), (4, some _), (5, some _), (6, some _), (7, some _), (8, some _)] (by ((repeat' first | exact rfl | exact trivial | refine And.intro ?_ ?_) <;> (repeat' first | exact rfl | exact trivial | refine And.intro ?_ ?_))) (by ((repeat' first | exact rfl | exact trivial | refine And.intro ?_ ?_) <;> (repeat' first | exact rfl | exact trivial | refine And.intro ?_ ?_))) (by rfl)⟩
                · have hp0 : p = 0 := by simp at hc1; omega
                  refine Seg.by (by kernel_rfl) ?_
                  exact ⟨m, hput (up_done hup (.inl hp0)), by refine Weak.by [(0, some _), (1, some _), (2, some _), (3, some _), (4, some _), (5, some _), (6, some _), (7, some _), (8, some _)] (by ((repeat' first | exact rfl | exact trivial | refine And.intro ?_ ?_) <;> (repeat' first | exact rfl | exact trivial | refine And.intro ?_ ?_))) (by ((repeat' first | exact rfl | exact trivial | refine And.intro ?_ ?_) <;> (repeat' first | exact rfl | exact trivial | refine And.intro ?_ ?_))) (by rfl)⟩
              · have hc6 : mayB N2 G2 x = false := hc6
                exact ⟨(sub2, m2), ⟨hsub2, hm24, by dsimp only; omega, hH2, hr2, fun v hv => skip_may hxi (fun e => by rw [e, hc6] at hv; cases hv) (hmv2 v hv)⟩, by refine Weak.by [(0, some _), (1, some _), (2, some _), (3, some _), (4, some _), (5, some _), (6, some _), (7, some _)] (by ((repeat' first | exact rfl | exact trivial | refine And.intro ?_ ?_) <;> (repeat' first | exact rfl | exact trivial | refine And.intro ?_ ?_))) (by ((repeat' first | exact rfl | exact trivial | refine And.intro ?_ ?_) <;> (repeat' first | exact rfl | exact trivial | refine And.intro ?_ ?_))) (by rfl)⟩
            · have hi3 : i = 2 := by simp at hc5; omega
              refine Next.by (st ++ [s], N2, G2, sub2, m2) ⟨hW2, hNl2, hrun2, by simp; omega, hsub2, hm24, by simp; omega, hH2, hr2, fun v hv => ?_⟩ (by simp; omega) (by refine Weak.by [(0, some _), (1, some _), (2, some _), (3, some _), (4, some _), (5, some _), (6, some _)] (by ((repeat' first | exact rfl | exact trivial | refine And.intro ?_ ?_) <;> (repeat' first | exact rfl | exact trivial | refine And.intro ?_ ?_))) (by ((repeat' first | exact rfl | exact trivial | refine And.intro ?_ ?_) <;> (repeat' first | exact rfl | exact trivial | refine And.intro ?_ ?_))) (by rfl))
              rcases hmv2 v hv with h | ⟨h1, _⟩ | ⟨h1, _⟩
              · exact h
              · omega
              · omega
          refine Pick.by (fun had => ?_) (fun had => ?_)
          · have had : (stepF N out).2.2.2 = true := had
            rw [if_pos had]
            rcases hs2 with ⟨_, _, _, e⟩ | ⟨_, _, _, _, e⟩ | ⟨a, b, hlv, hab, ea, eb, ec⟩
            · rw [had] at e; cases e
            · rw [had] at e; cases e
            have har := hrv.2 a (by rw [hlv]; simp)
            have hbr := hrv.2 b (by rw [hlv]; simp)
            have hra : (rowsI ((rowAt N out).foldl (cutF out) N))[a.toNat]? = some (ints ((rowAt N a).erase out)) := by
              have h1 := rowsI_get (rowAt_mem (N := (rowAt N out).foldl (cutF out) N) har.1 (by rw [cuts_length]; exact har.2)).2
              rw [hN1 a har.1] at h1
              exact h1
            have hrb : (rowsI ((rowAt N out).foldl (cutF out) N))[b.toNat]? = some (ints ((rowAt N b).erase out)) := by
              have h1 := rowsI_get (rowAt_mem (N := (rowAt N out).foldl (cutF out) N) hbr.1 (by rw [cuts_length]; exact hbr.2)).2
              rw [hN1 b hbr.1] at h1
              exact h1
            have hok : ∀ u, ((rowAt N u).erase out).Pairwise (· ≤ ·) ∧ ((rowAt N u).erase out).length ≤ 1000000 := fun u => by
              have h1 := hW.rows u
              have h2 := hW.row_len u
              have h3 := List.length_erase_le (l := rowAt N u) (a := out)
              exact ⟨(erase_sorted h1.1).imp fun h => by omega, by omega⟩
            rw [ea, eb]
            have hj : rowsI (joinF (joinF ((rowAt N out).foldl (cutF out) N) a b) b a) = ((rowsI ((rowAt N out).foldl (cutF out) N)).set a.toNat (ints (insAt ((rowAt N a).erase out) b))).set b.toNat (ints (insAt ((rowAt N b).erase out) a)) := by
              have e1 : rowAt (joinF ((rowAt N out).foldl (cutF out) N) a b) b = (rowAt N b).erase out := by
                unfold joinF
                rw [rowAt_set har.1 (by rw [cuts_length]; exact har.2) hbr.1, if_neg (by omega), hN1 b hbr.1]
              show rowsI ((joinF ((rowAt N out).foldl (cutF out) N) a b).set b.toNat (insAt (rowAt (joinF ((rowAt N out).foldl (cutF out) N) a b) b) a)) = _
              rw [e1, rowsI_set]
              unfold joinF
              rw [rowsI_set, hN1 a har.1]
            have hma : (rowsI ((rowAt N out).foldl (cutF out) N)).set a.toNat (ints (insAt ((rowAt N a).erase out) b)) ≠ [] ∨ True := .inr trivial
            have hl3 : ((rowsI ((rowAt N out).foldl (cutF out) N)).set a.toNat (ints (insAt ((rowAt N a).erase out) b))).length = N.length := by rw [List.length_set, hl1]
            have hrb2 : ((rowsI ((rowAt N out).foldl (cutF out) N)).set a.toNat (ints (insAt ((rowAt N a).erase out) b)))[b.toNat]? = some (ints ((rowAt N b).erase out)) := by rw [List.getElem?_set_ne (by omega)]; exact hrb
            refine Idx.by a.toNat (by omega) (by omega) ?_
            refine Pick.T (by rw [hl1]; simp; omega) ?_
            refine Look.by _ hra ?_
            refine Call.by _ _ (turnC_at (hok a)) ?_
            refine Idx.by a.toNat (by omega) (by omega) ?_
            refine Pick.T (by rw [hl1]; simp; omega) ?_
            refine Pick.T (by simp) ?_
            refine Seg.by (by kernel_rfl) ?_
            refine Idx.by b.toNat (by omega) (by omega) ?_
            refine Pick.T (by rw [hl3]; simp; omega) ?_
            refine Look.by _ hrb2 ?_
            refine Call.by _ _ (turnC_at (hok b)) ?_
            refine Idx.by b.toNat (by omega) (by omega) ?_
            refine Pick.T (by rw [hl3]; simp; omega) ?_
            refine Pick.T (by simp) ?_
            refine Seg.by (by kernel_rfl) ?_
            exact ⟨(), trivial, by refine Weak.by [(0, some _), (1, some _), (2, some _), (3, some _), (4, some _), (5, some _), (6, some _), (7, some _), (8, some _), (9, some _)] (by ((repeat' first | exact rfl | exact trivial | refine And.intro ?_ ?_) <;> (repeat' first | exact rfl | exact trivial | refine And.intro ?_ ?_)); all_goals ((exact hj))) (by ((repeat' first | exact rfl | exact trivial | refine And.intro ?_ ?_) <;> (repeat' first | exact rfl | exact trivial | refine And.intro ?_ ?_)); all_goals ((exact hj))) (by rfl)⟩
          · have had : (stepF N out).2.2.2 = false := had
            rw [if_neg (by rw [had]; simp)]
            exact ⟨(), trivial, by refine Weak.by [(0, some _), (1, some _), (2, some _), (3, some _), (4, some _), (5, some _), (6, some _), (7, some _), (8, some _), (9, some _)] (by ((repeat' first | exact rfl | exact trivial | refine And.intro ?_ ?_) <;> (repeat' first | exact rfl | exact trivial | refine And.intro ?_ ?_))) (by ((repeat' first | exact rfl | exact trivial | refine And.intro ?_ ?_) <;> (repeat' first | exact rfl | exact trivial | refine And.intro ?_ ?_))) (by rfl)⟩
        refine LoopP.intro (α := Nat × List Int) (fun a => Sift l out last a.2 a.1 ∧ a.1 ≤ last ∧ a.2.length = m.length) (fun a => last + 1 - a.1) (fun a => [(0, .ptr 4 0), (3, .sl 5 none (some (0, last))), (4, .s (.i .i64 out)), (5, .s (.i .i64 last)), (6, .s (.i .i64 a.1)), (1000002, .ptr 0 0), (1000003, .ptr 1 0), (1000004, .ptr 4 0), (1000006, .sl 6 none none)])
          (fun a => [(0, some (.blk [.nils, .nils, .nils])), (1, some (.blk [.sl 2 none none, .sl 3 none none])), (2, some (.nest true 1 (rowsI N) [] [])), (3, some (.flat true 1 (bools G))), (4, some (.blk [.sl 5 none (some (0, L))])), (5, some (.flat true 1 (ints a.2))), (6, some (.flat true 4 (stps st)))]) 7 (0, m.set 0 top) ⟨hsift, by dsimp only; omega, by rw [List.length_set]⟩ (by refine Weak.by [(0, some _), (1, some _), (2, some _), (3, some _), (4, some _), (5, some _), (6, some _)] (by ((repeat' first | exact rfl | exact trivial | refine And.intro ?_ ?_) <;> (repeat' first | exact rfl | exact trivial | refine And.intro ?_ ?_)); all_goals ((first | (rw [ints_set]; rfl) | (exact sc_eq hlast.symm)))) (by ((repeat' first | exact rfl | exact trivial | refine And.intro ?_ ?_) <;> (repeat' first | exact rfl | exact trivial | refine And.intro ?_ ?_)); all_goals ((first | (rw [ints_set]; rfl) | (exact sc_eq hlast.symm)))) (by rfl)) ?_
        rintro ⟨i, c⟩ ⟨hsf, hil, hcm⟩
        dsimp only at hsf hil hcm ⊢
        refine Pick.T (inI64_of (by omega) (by omega)) ?_
        refine Pick.T (inI64_of (by omega) (by omega)) ?_
        refine Pick.by (fun hc1 => ?_) (fun hc1 => ?_)
        · have hch : 2 * i + 1 < last := by simp at hc1; omega
          obtain ⟨x, hx⟩ : ∃ x, c[i]? = some x := ⟨_, List.getElem?_eq_getElem (by have := hsf.len; omega)⟩
          obtain ⟨y1, hy1⟩ : ∃ y, c[2 * i + 1]? = some y := ⟨_, List.getElem?_eq_getElem (by have := hsf.len; omega)⟩
          refine Pick.T (inI64_of (by omega) (by omega)) ?_
          refine Pick.T (inI64_of (by omega) (by omega)) ?_
          refine Pick.T (inI64_of (by omega) (by omega)) ?_
          have hk1 : (2 * (i : Int) + 1) = ((2 * i + 1 : Nat) : Int) := by omega
          have hk2 : (2 * (i : Int) + 1 + 1) = ((2 * i + 2 : Nat) : Int) := by omega
          have hjoin : ∀ k, (k = 2 * i + 1 ∨ k = 2 * i + 2) → k < last → (∀ y, c[k]? = some y → ∀ t z, 0 < t → (t - 1) / 2 = i → t < last → c[t]? = some z → y ≤ z) → (k = 2 * i + 1 ∨ k = 2 * i + 2) ∧ k < last ∧ ∀ y, c[k]? = some y → ∀ t z, 0 < t → (t - 1) / 2 = i → t < last → c[t]? = some z → y ≤ z := fun k a b d => ⟨a, b, d⟩
          refine Pick.by (fun hc2 => ?_) (fun hc2 => ?_)
          · have hch2 : 2 * i + 2 < last := by simp at hc2; omega
            obtain ⟨y2, hy2⟩ : ∃ y, c[2 * i + 2]? = some y := ⟨_, List.getElem?_eq_getElem (by have := hsf.len; omega)⟩
            refine Pick.T (inI64_of (by omega) (by omega)) ?_
            refine Idx.by (2 * i + 2) (by omega) (by omega) ?_
            refine Look.by _ (by rw [Nat.zero_add]; exact ints_get hy2) ?_
            refine Idx.by (2 * i + 1) (by omega) (by omega) ?_
            refine Look.by _ (by rw [Nat.zero_add]; exact ints_get hy1) ?_
            refine Seg.by (by kernel_rfl) ?_
            refine JoinP.intro (α := Nat) (fun k => (k = 2 * i + 1 ∨ k = 2 * i + 2) ∧ k < last ∧ ∀ y, c[k]? = some y → ∀ t z, 0 < t → (t - 1) / 2 = i → t < last → c[t]? = some z → y ≤ z) (fun k => [(0, .ptr 4 0), (3, .sl 5 none (some (0, last))), (4, .s (.i .i64 out)), (5, .s (.i .i64 last)), (6, .s (.i .i64 i)), (7, .s (.i .i64 k)), (1000002, .ptr 0 0), (1000003, .ptr 1 0), (1000004, .ptr 4 0), (1000006, .sl 6 none none)])
              (fun k => [(0, some (.blk [.nils, .nils, .nils])), (1, some (.blk [.sl 2 none none, .sl 3 none none])), (2, some (.nest true 1 (rowsI N) [] [])), (3, some (.flat true 1 (bools G))), (4, some (.blk [.sl 5 none (some (0, L))])), (5, some (.flat true 1 (ints c))), (6, some (.flat true 4 (stps st)))]) 7 ?_ ?_
            rotate_left
            · rintro k ⟨hkk, hkl, hM⟩
              obtain ⟨y, hy⟩ : ∃ y, c[k]? = some y := ⟨_, List.getElem?_eq_getElem (by have := hsf.len; omega)⟩
              have hmin := hM y hy
              refine Idx.by i rfl (by omega) ?_
              refine Look.by _ (by rw [Nat.zero_add]; exact ints_get hx) ?_
              refine Idx.by k rfl (by omega) ?_
              refine Look.by _ (by rw [Nat.zero_add]; exact ints_get hy) ?_
              refine Seg.by (by kernel_rfl) ?_
              refine Pick.by (fun hc4 => ?_) (fun hc4 => ?_)
              · have hle : x ≤ y := by simpa using hc4
                refine ⟨c, ⟨hcm, hsf.len, hsf.perm, sift_done hsf fun t u v ht htp hu hv => ?_⟩, by refine Weak.by [(0, some _), (1, some _), (2, some _), (3, some _), (4, some _), (5, some _), (6, some _)] (by ((repeat' first | exact rfl | exact trivial | refine And.intro ?_ ?_) <;> (repeat' first | exact rfl | exact trivial | refine And.intro ?_ ?_))) (by ((repeat' first | exact rfl | exact trivial | refine And.intro ?_ ?_) <;> (repeat' first | exact rfl | exact trivial | refine And.intro ?_ ?_))) (by rfl)⟩
                have htk : t < last := by
                  have := (List.getElem?_eq_some_iff.1 hv).1
                  rw [List.length_take] at this
                  omega
                rw [tk_get (by omega), hx] at hu
                injection hu with hu
                have := hmin t v ht htp htk (by rw [← tk_get htk]; exact hv)
                omega
              · have hlt : y < x := by simpa using hc4
                refine Idx.by k rfl (by omega) ?_
                refine Look.by _ (by rw [Nat.zero_add]; exact ints_get hy) ?_
                refine Idx.by i rfl (by omega) ?_
                refine Look.by _ (by rw [Nat.zero_add]; exact ints_get hx) ?_
                refine Idx.by i rfl (by omega) ?_
                refine Look.by _ (by rw [Nat.zero_add]; exact ints_get hx) ?_
                refine Idx.by k rfl (by omega) ?_
                refine Look.by _ (by rw [Nat.zero_add, Nat.zero_add, List.getElem?_set_ne (by omega)]; exact ints_get hy) ?_
                refine Seg.by (by kernel_rfl) ?_
                refine Next.by (k, (c.set i y).set k x) ⟨sift_step hsf (by omega) (by omega) hkl hx hy hlt hmin, by dsimp only; omega, by rw [List.length_set, List.length_set]; exact hcm⟩ (by dsimp only; omega) (by refine Weak.by [(0, some _), (1, some _), (2, some _), (3, some _), (4, some _), (5, some _), (6, some _)] (by ((repeat' first | exact rfl | exact trivial | refine And.intro ?_ ?_) <;> (repeat' first | exact rfl | exact trivial | refine And.intro ?_ ?_)); all_goals ((rw [Nat.zero_add, Nat.zero_add, ints_set, ints_set]; rfl))) (by ((repeat' first | exact rfl | exact trivial | refine And.intro ?_ ?_) <;> (repeat' first | exact rfl | exact trivial | refine And.intro ?_ ?_)); all_goals ((rw [Nat.zero_add, Nat.zero_add, ints_set, ints_set]; rfl))) (by rfl))
            refine Pick.by (fun hc3 => ?_) (fun hc3 => ?_)
            · have hlt2 : y2 < y1 := by simpa using hc3
              refine Pick.T (inI64_of (by omega) (by omega)) ?_
              refine ⟨2 * i + 2, hjoin _ (.inr rfl) hch2 fun y hy t z ht htp htl hz => ?_, by refine Weak.by [(0, some _), (1, some _), (2, some _), (3, some _), (4, some _), (5, some _), (6, some _)] (by ((repeat' first | exact rfl | exact trivial | refine And.intro ?_ ?_) <;> (repeat' first | exact rfl | exact trivial | refine And.intro ?_ ?_)); all_goals ((exact sc_eq hk2.symm))) (by ((repeat' first | exact rfl | exact trivial | refine And.intro ?_ ?_) <;> (repeat' first | exact rfl | exact trivial | refine And.intro ?_ ?_)); all_goals ((exact sc_eq hk2.symm))) (by rfl)⟩
              have : t = 2 * i + 1 ∨ t = 2 * i + 2 := by omega
              rcases this with rfl | rfl
              · rw [hy2] at hy; rw [hy1] at hz; injection hy with hy; injection hz with hz; omega
              · rw [hy] at hz; injection hz with hz; omega
            · have hlt2 : ¬ y2 < y1 := by simpa using hc3
              refine ⟨2 * i + 1, hjoin _ (.inl rfl) hch fun y hy t z ht htp htl hz => ?_, by refine Weak.by [(0, some _), (1, some _), (2, some _), (3, some _), (4, some _), (5, some _), (6, some _)] (by ((repeat' first | exact rfl | exact trivial | refine And.intro ?_ ?_) <;> (repeat' first | exact rfl | exact trivial | refine And.intro ?_ ?_)); all_goals ((exact sc_eq hk1.symm))) (by ((repeat' first | exact rfl | exact trivial | refine And.intro ?_ ?_) <;> (repeat' first | exact rfl | exact trivial | refine And.intro ?_ ?_)); all_goals ((exact sc_eq hk1.symm))) (by rfl)⟩
              have : t = 2 * i + 1 ∨ t = 2 * i + 2 := by omega
              rcases this with rfl | rfl
              · rw [hy] at hz; injection hz with hz; omega
              · rw [hy1] at hy; rw [hy2] at hz; injection hy with hy; injection hz with hz; omega
          · have hch2 : ¬ 2 * i + 2 < last := by simp at hc2; omega
            refine Seg.by (by kernel_rfl) ?_
            refine JoinP.intro (α := Nat) (fun k => (k = 2 * i + 1 ∨ k = 2 * i + 2) ∧ k < last ∧ ∀ y, c[k]? = some y → ∀ t z, 0 < t → (t - 1) / 2 = i → t < last → c[t]? = some z → y ≤ z) (fun k => [(0, .ptr 4 0), (3, .sl 5 none (some (0, last))), (4, .s (.i .i64 out)), (5, .s (.i .i64 last)), (6, .s (.i .i64 i)), (7, .s (.i .i64 k)), (1000002, .ptr 0 0), (1000003, .ptr 1 0), (1000004, .ptr 4 0), (1000006, .sl 6 none none)])
              (fun k => [(0, some (.blk [.nils, .nils, .nils])), (1, some (.blk [.sl 2 none none, .sl 3 none none])), (2, some (.nest true 1 (rowsI N) [] [])), (3, some (.flat true 1 (bools G))), (4, some (.blk [.sl 5 none (some (0, L))])), (5, some (.flat true 1 (ints c))), (6, some (.flat true 4 (stps st)))]) 7 ?_ ?_
            rotate_left
            · rintro k ⟨hkk, hkl, hM⟩
              obtain ⟨y, hy⟩ : ∃ y, c[k]? = some y := ⟨_, List.getElem?_eq_getElem (by have := hsf.len; omega)⟩
              have hmin := hM y hy
              refine Idx.by i rfl (by omega) ?_
              refine Look.by _ (by rw [Nat.zero_add]; exact ints_get hx) ?_
              refine Idx.by k rfl (by omega) ?_
              refine Look.by _ (by rw [Nat.zero_add]; exact ints_get hy) ?_
              refine Seg.by (by kernel_rfl) ?_
              refine Pick.by (fun hc4 => ?_) (fun hc4 => ?_)
              · have hle : x ≤ y := by simpa using hc4
                refine ⟨c, ⟨hcm, hsf.len, hsf.perm, sift_done hsf fun t u v ht htp hu hv => ?_⟩, by refine Weak.by [(0, some _), (1, some _), (2, some _), (3, some _), (4, some _), (5, some _), (6, some _)] (by ((repeat' first | exact rfl | exact trivial | refine And.intro ?_ ?_) <;> (repeat' first | exact rfl | exact trivial | refine And.intro ?_ ?_))) (by ((repeat' first | exact rfl | exact trivial | refine And.intro ?_ ?_) <;> (repeat' first | exact rfl | exact trivial | refine And.intro ?_ ?_))) (by rfl)⟩
                have htk : t < last := by
                  have := (List.getElem?_eq_some_iff.1 hv).1
                  rw [List.length_take] at this
                  omega
                rw [tk_get (by omega), hx] at hu
                injection hu with hu
                have := hmin t v ht htp htk (by rw [← tk_get htk]; exact hv)
                omega
              · have hlt : y < x := by simpa using hc4
                refine Idx.by k rfl (by omega) ?_
                refine Look.by _ (by rw [Nat.zero_add]; exact ints_get hy) ?_
                refine Idx.by i rfl (by omega) ?_
                refine Look.by _ (by rw [Nat.zero_add]; exact ints_get hx) ?_
                refine Idx.by i rfl (by omega) ?_
                refine Look.by _ (by rw [Nat.zero_add]; exact ints_get hx) ?_
                refine Idx.by k rfl (by omega) ?_
                refine Look.by _ (by rw [Nat.zero_add, Nat.zero_add, List.getElem?_set_ne (by omega)]; exact ints_get hy) ?_
                refine Seg.by (by kernel_rfl) ?_
                refine Next.by (k, (c.set i y).set k x) ⟨sift_step hsf (by omega) (by omega) hkl hx hy hlt hmin, by dsimp only; omega, by rw [List.length_set, List.length_set]; exact hcm⟩ (by dsimp only; omega) (by refine Weak.by [(0, some _), (1, some _), (2, some _), (3, some _), (4, some _), (5, some _), (6, some _)] (by ((repeat' first | exact rfl | exact trivial | refine And.intro ?_ ?_) <;> (repeat' first | exact rfl | exact trivial | refine And.intro ?_ ?_)); all_goals ((rw [Nat.zero_add, Nat.zero_add, ints_set, ints_set]; rfl))) (by ((repeat' first | exact rfl | exact trivial | refine And.intro ?_ ?_) <;> (repeat' first | exact rfl | exact trivial | refine And.intro ?_ ?_)); all_goals ((rw [Nat.zero_add, Nat.zero_add, ints_set, ints_set]; rfl))) (by rfl))
            refine ⟨2 * i + 1, hjoin _ (.inl rfl) hch fun y hy t z ht htp htl hz => ?_, by refine Weak.by [(0, some _), (1, some _), (2, some _), (3, some _), (4, some _), (5, some _), (6, some _)] (by ((repeat' first | exact rfl | exact trivial | refine And.intro ?_ ?_) <;> (repeat' first | exact rfl | exact trivial | refine And.intro ?_ ?_)); all_goals ((exact sc_eq hk1.symm))) (by ((repeat' first | exact rfl | exact trivial | refine And.intro ?_ ?_) <;> (repeat' first | exact rfl | exact trivial | refine And.intro ?_ ?_)); all_goals ((exact sc_eq hk1.symm))) (by rfl)⟩
            have : t = 2 * i + 1 := by omega
            rw [this, hy] at hz; injection hz with hz; omega
        · have hch : ¬ 2 * i + 1 < last := by simp at hc1; omega
          refine ⟨c, ⟨hcm, hsf.len, hsf.perm, sift_done hsf fun t u v ht htp hu hv => ?_⟩, by refine Weak.by [(0, some _), (1, some _), (2, some _), (3, some _), (4, some _), (5, some _), (6, some _)] (by ((repeat' first | exact rfl | exact trivial | refine And.intro ?_ ?_) <;> (repeat' first | exact rfl | exact trivial | refine And.intro ?_ ?_))) (by ((repeat' first | exact rfl | exact trivial | refine And.intro ?_ ?_) <;> (repeat' first | exact rfl | exact trivial | refine And.intro ?_ ?_))) (by rfl)⟩
          have := (List.getElem?_eq_some_iff.1 hv).1
          rw [List.length_take] at this
          omega
      · have hz : l.length = 0 := by rw [hLl]; simpa using hc
        have hno : ∀ u, mayB N G u ≠ true := fun u hu => by
          have := hm u hu
          rw [List.eq_nil_of_length_eq_zero hz] at this
          simp at this
        rw [runS_end (firstMay_none hno), List.append_nil] at hrun
        rw [hrun]
        have hst4 : st.length ≤ 1000 := by omega
        have hGN := hW.len
        have hmo := hW.most
        have hNL := rowsI_length N
        refine LoopP.intro (α := Nat) (fun j => j ≤ N.length) (fun j => N.length - j) (fun j => [(2, .ptr 2 0), (4, .ptr 1 0), (5, .ptr 3 0), (13, .sl 4 none none), (14, .s (.i .i64 N.length)), (15, .s (.i .i64 j)), (1000002, .ptr 0 0)])
          (fun j => [(0, some (.blk [.nils, .nils, .nils])), (1, some (.blk [.nils, .nils, .nils])), (2, some (.blk [.sl 4 none none, .sl 5 none none])), (3, some (.blk [.sl 6 none none, .sl 7 none none, .sl 8 none none])), (4, some (.nest true 1 (rowsI N) [] [])), (5, some (.flat true 1 (bools G))), (6, some (.flat true 4 (stps st))), (7, some (.flat true 1 (ints (leftK G j)))), (8, some (.flat true 2 (edges (edgesK N G j))))]) 9 0 (by omega) (by refine Weak.by [(0, some _), (1, some _), (2, some _), (3, some _), (4, some _), (5, some _), (6, some _), (7, none), (8, none)] (by ((repeat' first | exact rfl | exact trivial | refine And.intro ?_ ?_) <;> (repeat' first | exact rfl | exact trivial | refine And.intro ?_ ?_)); all_goals ((first | (rw [hNL]; rfl) | done))) (by ((repeat' first | exact rfl | exact trivial | refine And.intro ?_ ?_) <;> (repeat' first | exact rfl | exact trivial | refine And.intro ?_ ?_)); all_goals ((first | (rw [hNL]; rfl) | done))) (by rfl)) ?_
        rintro j hj
        have hlk := leftK_len G j
        have hek := edgesK_len hW j
        refine Pick.by (fun hd1 => ?_) (fun hd1 => ?_)
        · have hjl : j < N.length := by simpa using hd1
          have hgj : (bools G)[j]? = some [.b (G.getD j false)] := by
            refine bools_get ?_
            rw [List.getD_eq_getElem?_getD, List.getElem?_eq_getElem (by omega)]; rfl
          have hrj : (rowsI N)[j]? = some (ints (rowAt N j)) := by
            have := (rowAt_mem (N := N) (v := (j : Int)) (by omega) (by omega)).2
            exact rowsI_get this
          have hrl := hW.row_len (j : Int)
          refine Idx.by j rfl (by omega) ?_
          refine Pick.T (by rw [hNL]; simp; omega) ?_
          refine Idx.by j rfl (by rw [bools_length]; omega) ?_
          refine Look.by _ hgj ?_
          refine Pick.by (fun hd2 => ?_) (fun hd2 => ?_)
          · have hd2 : G.getD j false = true := hd2
            refine Pick.T (inI64_of (by omega) (by omega)) ?_
            refine Next.by (j + 1) (by omega) (by omega) (by refine Weak.by [(0, some _), (1, some _), (2, some _), (3, some _), (4, some _), (5, some _), (6, some _), (7, some _), (8, some _)] (by ((repeat' first | exact rfl | exact trivial | refine And.intro ?_ ?_) <;> (repeat' first | exact rfl | exact trivial | refine And.intro ?_ ?_)); all_goals ((first | (rw [leftK_succ, if_pos hd2, List.append_nil]) | (rw [edgesK_succ, if_pos hd2, List.append_nil])))) (by ((repeat' first | exact rfl | exact trivial | refine And.intro ?_ ?_) <;> (repeat' first | exact rfl | exact trivial | refine And.intro ?_ ?_)); all_goals ((first | (rw [leftK_succ, if_pos hd2, List.append_nil]) | (rw [edgesK_succ, if_pos hd2, List.append_nil])))) (by rfl))
          have hd2 : G.getD j false = false := hd2
          have hl1 : leftK G (j + 1) = leftK G j ++ [(j : Int)] := by rw [leftK_succ, if_neg (by rw [hd2]; simp)]
          have he1 : edgesK N G (j + 1) = edgesK N G j ++ outE N j := by rw [edgesK_succ, if_neg (by rw [hd2]; simp)]
          refine Pick.T (by simp [cut, ints_length]; omega) ?_
          refine Look.by _ hrj ?_
          refine LoopP.intro (α := Nat) (fun k => k ≤ (rowAt N j).length) (fun k => (rowAt N j).length - k) (fun k => [(2, .ptr 2 0), (4, .ptr 1 0), (5, .ptr 3 0), (6, .s (.i .i64 j)), (13, .sl 4 none none), (14, .s (.i .i64 N.length)), (15, .s (.i .i64 j)), (31, .sl 4 (some (j, 0)) none), (32, .s (.i .i64 (rowAt N j).length)), (33, .s (.i .i64 k)), (1000002, .ptr 0 0)])
            (fun k => [(0, some (.blk [.nils, .nils, .nils])), (1, some (.blk [.nils, .nils, .nils])), (2, some (.blk [.sl 4 none none, .sl 5 none none])), (3, some (.blk [.sl 6 none none, .sl 7 none none, .sl 8 none none])), (4, some (.nest true 1 (rowsI N) [] [])), (5, some (.flat true 1 (bools G))), (6, some (.flat true 4 (stps st))), (7, some (.flat true 1 (ints (leftK G (j + 1))))), (8, some (.flat true 2 (edges (edgesK N G j ++ (((rowAt N j).take k).filter fun x => decide (x > (j : Int))).map fun x => ((j : Int), x)))))]) 9 0 (by omega) (by refine Weak.by [(0, some _), (1, some _), (2, some _), (3, some _), (4, some _), (5, some _), (6, some _), (7, some _), (8, some _)] (by ((repeat' first | exact rfl | exact trivial | refine And.intro ?_ ?_) <;> (repeat' first | exact rfl | exact trivial | refine And.intro ?_ ?_)); all_goals ((first | (rw [hl1, ints_snoc]; rfl) | (rw [List.take_zero]; simp; done) | (rw [ints_length]; rfl) | (simp; done)))) (by ((repeat' first | exact rfl | exact trivial | refine And.intro ?_ ?_) <;> (repeat' first | exact rfl | exact trivial | refine And.intro ?_ ?_)); all_goals ((first | (rw [hl1, ints_snoc]; rfl) | (rw [List.take_zero]; simp; done) | (rw [ints_length]; rfl) | (simp; done)))) (by rfl)) ?_
          rintro k hk
          have hpl : ((((rowAt N j).take k).filter fun x => decide (x > (j : Int))).map fun x => ((j : Int), x)).length ≤ 1000 := by
            rw [List.length_map]
            refine Nat.le_trans (List.length_filter_le _ _) ?_
            rw [List.length_take]; omega
          refine Pick.by (fun hd3 => ?_) (fun hd3 => ?_)
          · have hkl : k < (rowAt N j).length := by simpa using hd3
            obtain ⟨x, hx⟩ : ∃ x, (rowAt N j)[k]? = some x := ⟨_, List.getElem?_eq_getElem hkl⟩
            have hxe : (rowAt N j)[k] = x := by rw [List.getElem?_eq_getElem hkl] at hx; injection hx
            refine Look.by _ hrj ?_
            refine Idx.by k rfl (by rw [ints_length]; exact hkl) ?_
            refine Look.by _ hrj ?_
            refine Look.by _ (ints_get hx) ?_
            refine Pick.by (fun hd4 => ?_) (fun hd4 => ?_)
            · have hd4 : x > (j : Int) := by simpa using hd4
              refine Pick.T (by simp [cut, edges_length] at hpl ⊢; omega) ?_
              refine Pick.T (inI64_of (by omega) (by omega)) ?_
              refine Next.by (k + 1) (by omega) (by omega) (by refine Weak.by [(0, some _), (1, some _), (2, some _), (3, some _), (4, some _), (5, some _), (6, some _), (7, some _), (8, some _)] (by ((repeat' first | exact rfl | exact trivial | refine And.intro ?_ ?_) <;> (repeat' first | exact rfl | exact trivial | refine And.intro ?_ ?_)); all_goals ((first | (rw [List.take_succ_eq_append_getElem hkl, hxe, List.filter_append, List.map_append, List.filter_cons, if_pos (by simpa using hd4), List.filter_nil, ← List.append_assoc]; exact edges_snoc _ _) | (simp; done)))) (by ((repeat' first | exact rfl | exact trivial | refine And.intro ?_ ?_) <;> (repeat' first | exact rfl | exact trivial | refine And.intro ?_ ?_)); all_goals ((first | (rw [List.take_succ_eq_append_getElem hkl, hxe, List.filter_append, List.map_append, List.filter_cons, if_pos (by simpa using hd4), List.filter_nil, ← List.append_assoc]; exact edges_snoc _ _) | (simp; done)))) (by rfl))
            · have hd4 : ¬ x > (j : Int) := by simpa using hd4
              refine Pick.T (inI64_of (by omega) (by omega)) ?_
              refine Next.by (k + 1) (by omega) (by omega) (by refine Weak.by [(0, some _), (1, some _), (2, some _), (3, some _), (4, some _), (5, some _), (6, some _), (7, some _), (8, some _)] (by ((repeat' first | exact rfl | exact trivial | refine And.intro ?_ ?_) <;> (repeat' first | exact rfl | exact trivial | refine And.intro ?_ ?_)); all_goals ((first | (rw [List.take_succ_eq_append_getElem hkl, hxe, List.filter_append, List.map_append, List.filter_cons, if_neg (by simpa using hd4), List.filter_nil, List.map_nil, List.append_nil]) | (simp; done)))) (by ((repeat' first | exact rfl | exact trivial | refine And.intro ?_ ?_) <;> (repeat' first | exact rfl | exact trivial | refine And.intro ?_ ?_)); all_goals ((first | (rw [List.take_succ_eq_append_getElem hkl, hxe, List.filter_append, List.map_append, List.filter_cons, if_neg (by simpa using hd4), List.filter_nil, List.map_nil, List.append_nil]) | (simp; done)))) (by rfl))
          · have hkl : k = (rowAt N j).length := by simp at hd3; omega
            have hfull : edgesK N G (j + 1) = edgesK N G j ++ (((rowAt N j).take k).filter fun x => decide (x > (j : Int))).map fun x => ((j : Int), x) := by rw [he1, hkl, List.take_length]; rfl
            refine Pick.T (inI64_of (by omega) (by omega)) ?_
            refine Next.by (j + 1) (by omega) (by omega) (by refine Weak.by [(0, some _), (1, some _), (2, some _), (3, some _), (4, some _), (5, some _), (6, some _), (7, some _), (8, some _)] (by ((repeat' first | exact rfl | exact trivial | refine And.intro ?_ ?_) <;> (repeat' first | exact rfl | exact trivial | refine And.intro ?_ ?_)); all_goals ((rw [hfull]))) (by ((repeat' first | exact rfl | exact trivial | refine And.intro ?_ ?_) <;> (repeat' first | exact rfl | exact trivial | refine And.intro ?_ ?_)); all_goals ((rw [hfull]))) (by rfl))
        have hjl : j = N.length := by simp at hd1; omega
        subst hjl
        have e1 : leftF G = leftK G N.length := by unfold leftF leftK; rw [hGN]
        have e2 : edgesF N G = edgesK N G N.length := by unfold edgesF edgesK; rw [e1]
        refine ⟨rfl, ?_⟩
        (repeat' first | exact rfl | exact trivial | refine And.intro ?_ ?_)
        all_goals (first | exact congrArg ints e1 | exact congrArg edges e2)
end Go.Sh

set_option linter.unusedVariables false
set_option linter.unusedSimpArgs false
namespace Go.Sh
open Go.Proofs Go.RowKit
/-! ### slices.Clone of steps -/
attribute [local go_sem] Oper.semAt_some
theorem tS : Try.prog.underlying 33 = some (TypeDesc.slice 57) := by kernel_rfl
theorem iS : (Try.prog.info? 57).map (fun i => (i.zero, i.size, i.bytes)) = some (some (.agg #[.int .i64 0, .int .i64 0, .int .i64 0, .bool false]), 4, 32) := by kernel_rfl
set_option maxRecDepth 100000 in
set_option maxHeartbeats 2000000 in
theorem clone_empty (A : Option Addr) (c : Nat) (w : World) : Calls Try.prog 54 #[.slice A 0 c] w fun e w' => ∃ B c', e = .returned (.slice B 0 c') ∧ Frm (fun _ => False) w w' ∧ ((B = none ∧ c' = 0) ∨ ∃ gb cur T, B = some ⟨gb, 0, none⟩ ∧ w.heap.size ≤ gb ∧ w'.heap[gb]? = some (.cells cur T (0, 0)) ∧ c' * 4 ≤ cur.size ∧ c' ≤ 9223372036854775807) := by
  have t22 := tS
  obtain ⟨i0, hi, hz0, hz1, hz2⟩ := info_parts iS
  have q22 : ∀ (w : World) (a : Option Addr) (n c n' c' : Nat), (binOp .eql 33 (.slice a n c) (.slice none n' c')).run Try.prog w = .ok (.bool a.isNone) w := fun w a n c n' c' => Lib.run_eql_slice_nil w _ _ a n c n' c' tS
  have u22 : ∀ w, Sem.run Try.prog (underlying 33) w = .ok (TypeDesc.slice 57) w := run_underlying t22
  refine (callsIn_wide (n := 6)).1 ?_
  refine callsIn_of_wp Try.func54 rfl trivial ?_ rfl
  simp only [Try.ntmps54, List.size_toArray, List.length_cons, List.length_nil, Nat.reduceAdd, Nat.reduceSub, Array.replicate_succ, Array.replicate_zero, List.push_toArray, List.append_toArray, List.nil_append, List.cons_append]
  cases A with
  | none =>
    gi_wp2
    go_ret
    exact ⟨_, _, rfl, Frm.refl _ _, .inl ⟨rfl, rfl⟩⟩
  | some a =>
    gi_wp2_with (gi_at_builtin; refine wpListIn_append_own _ rfl _ _ 33 rfl w.heap.size 57 i0 _ 4 32 t22 hi hz0 hz1 hz2 rfl (by decide) _ _ _ rfl (World.ownsRow_made w #[] 0 (Nat.le_refl _) (Nat.zero_le _) rfl) a 0 c [] rfl rfl (by intro j u hj; simp at hj) (by intro u hu; cases hu) (by unfold maxLen; omega) (by omega) (by simp) ?_)
    intro v' w1 hown hgrow hnil
    gi_wp2
    go_ret
    have hb : Below w.heap.size w w1 := ((Below.refl _ w).alloc (Nat.le_refl _) _).grown hgrow (by simp) (by intro k hk; simp [Value.ownBlock] at hk; omega)
    have hf : Frm (fun _ => False) w w1 := ⟨hb.os, .of hb.tape, hb.output, hb.size, fun b h _ => hb.block b h⟩
    rcases hown.2 with ⟨rfl, _⟩ | ⟨gb, cap', cur, rfl, hbase, hgb, r1, r2, r3, r4⟩
    · exact ⟨_, _, rfl, hf, .inl ⟨rfl, rfl⟩⟩
    · refine ⟨_, _, rfl, hf, .inr ⟨gb, cur, _, rfl, hbase, hgb, ?_, ?_⟩⟩
      · omega
      · unfold maxLen at *; omega
noncomputable def CloneC : Con := conP 1 (fun l : List Stp => l.length ≤ 1000000) (fun l => [.one (.flat false 4 (stps l))]) (fun l => .one (.flat true 4 (stps l)))
theorem stps_inj {l m : List Stp} (h : stps l = stps m) : l = m := by
  refine (List.map_inj_right fun a b e => ?_).1 h
  obtain ⟨a1, a2, a3, a4⟩ := a
  obtain ⟨b1, b2, b3, b4⟩ := b
  simp at e
  obtain ⟨rfl, rfl, rfl, rfl⟩ := e
  rfl
theorem CloneC_at {l : List Stp} (h : l.length ≤ 1000000) : CloneC.F [.one (.flat false 4 (stps l))] = some (.one (.flat true 4 (stps l)), []) :=
  conP_at (a := l) (fun a b _ _ h => by simp at h; rw [stps_inj h]) h
theorem Clone_ok : SoundC Try.prog T 54 CloneC := by
  refine sound_pure Try.func54 (by rfl) (by rfl) (by simp [CloneC, conP]) ?_
  have hfull : SoundP Try.prog 54 (conF (fun l : List Stp => l.length ≤ 1000000 ∧ l ≠ []) (fun l => [.one (.flat false 4 (stps l))]) (fun l => .one (.flat true 4 (stps l)))) := by
    refine con_pure (X := { Γ := [], T := T, nt := 8 }) cr_none hmix hT sound_nil Try.func54 (by rfl) (by rfl) (by rfl) 1 ?_
    rintro l ⟨hl, hne⟩
    refine ⟨⟨Nat.le_of_ble_eq_true rfl, Nat.le_of_ble_eq_true rfl⟩, ?_⟩
    have hpos : 0 < l.length := List.length_pos_iff.2 hne
    refine Pick.T (by rw [stps_length]; simpa using hpos) ?_
    refine Pick.T (by simp [cut, stps_length]; omega) ?_
    exact ⟨rfl, rfl, rfl⟩
  intro vs r outs hF w us hus
  obtain ⟨l, hl, rfl, rfl⟩ := conF_inv (pre := fun l : List Stp => l.length ≤ 1000000) (enc := fun l => [.one (.flat false 4 (stps l))]) (val := fun l => .one (.flat true 4 (stps l))) hF
  by_cases hne : l = []
  · subst hne
    obtain ⟨u, hu, x, hx, hFl⟩ : ∃ u, us = #[u] ∧ CellOk w noLab 0 (.flat false 4 (stps [])) u := by
      obtain ⟨us⟩ := us
      match us, hus with
      | [u], hus => exact ⟨u, rfl, hus.1⟩
      | [], hus => exact hus.elim
      | _ :: _ :: _, hus => exact hus.2.elim
    subst hu
    subst hx
    refine (clone_empty x.A x.c w).mono ?_
    rintro e w' ⟨B, c', rfl, hf, hB⟩
    rcases hB with ⟨rfl, rfl⟩ | ⟨gb, cur, T', rfl, h1, h2, h3, h4⟩
    · exact ⟨_, noLab, rfl, hf, fun b k h => by simp [noLab] at h, ⟨⟨none, 0, fun _ => none, fun _ => 0⟩, rfl, FlatOk.nil (by omega)⟩⟩
    · have hlt : gb < w'.heap.size := by
        rcases Nat.lt_or_ge gb w'.heap.size with h | h
        · exact h
        · simp [Array.getElem?_eq_none h] at h2
      refine ⟨_, fun b => if b = gb then some (0, none) else none, rfl, hf, fun b k h => ?_, ⟨⟨some ⟨gb, 0, none⟩, c', fun _ => none, fun _ => 0⟩, rfl, ?_⟩⟩
      · dsimp only at h
        split at h
        · rename_i e; subst e; exact ⟨h1, hlt⟩
        · simp at h
      · exact { fits := Nat.zero_le _, pos := by omega, even := fun i row h => by simp [stps] at h, cell := fun i row j x h => by simp [stps] at h, room := fun _ => .inr ⟨gb, 0, cur, T', rfl, if_pos rfl, h2, by dsimp only; omega, h4⟩ }
  · exact hfull _ _ _ (conF_at (fun a b _ _ h => by simp at h; rw [stps_inj h]) ⟨hl, hne⟩) w us hus
/-! ### reduce.Narrow -/
/-! ### reduce.Replay -/
def mayStp (N : List (List Int)) (G : List Bool) (s : Stp) : Bool := mayB N G s.1 && decide (stepF N s.1 = s)
def replS : List Stp → List (List Int) → List Bool → List Stp × Bool × List (List Int) × List Bool
  | [], N, G => ([], true, N, G)
  | s :: r, N, G => if mayStp N G s then (s :: (replS r (doN N s) (doG G s)).1, (replS r (doN N s) (doG G s)).2) else ([], false, N, G)
def replR (n : Int) (E : List Ed) (l : List Stp) : List Stp × Bool × List (List Int) × List Bool := replS l (nbrs n.toNat E) (List.replicate n.toNat false)
open Classical in
noncomputable def replO (n : Int) (E : List Ed) (l : List Stp) : (List Stp × List Int × List Ed) × Bool := if RightP n E then (((replR n E l).1, leftF (replR n E l).2.2.2, edgesF (replR n E l).2.2.1 (replR n E l).2.2.2), (replR n E l).2.1) else (([], [], []), false)
noncomputable def ReplC : Con := conP 3 (fun a : (Int × List Ed) × List Stp => a.2.length ≤ 1000000) (fun a => [grV a.1.1 a.1.2, .one (.flat false 4 (stps a.2))]) (fun a => .tup [logV true (replO a.1.1 a.1.2 a.2).1.1 (replO a.1.1 a.1.2 a.2).1.2.1 (replO a.1.1 a.1.2 a.2).1.2.2, .one (.s (.b (replO a.1.1 a.1.2 a.2).2))])
theorem ReplC_at {n : Int} {E : List Ed} {l : List Stp} (h : l.length ≤ 1000000) : ReplC.F [grV n E, .one (.flat false 4 (stps l))] = some (.tup [logV true (replO n E l).1.1 (replO n E l).1.2.1 (replO n E l).1.2.2, .one (.s (.b (replO n E l).2))], []) :=
  conP_at (a := ((n, E), l)) (fun a b _ _ h => by
    obtain ⟨⟨n, E⟩, l⟩ := a
    obtain ⟨⟨n', E'⟩, l'⟩ := b
    simp at h
    obtain ⟨h1, h2⟩ := h
    obtain ⟨rfl, rfl⟩ := grV_inj h1
    rw [stps_inj h2]) h
noncomputable def XRepl : Cx := { Γ := [(42, RightC), (50, BeginC), (51, MayC), (52, StepC), (54, CloneC), (84, turnC (fun l _ => l.Pairwise (· ≤ ·) ∧ l.length ≤ 1000000) (fun l x => l.erase x)), (85, turnC (fun l _ => l.Pairwise (· ≤ ·) ∧ l.length ≤ 1000000) insAt)], T := T, nt := 49, inl := [(55, inlF Try.f55), (53, inlF Try.f53)], jc := [70031] }
theorem XRepl_sound : Sound Try.prog T XRepl.Γ := sound_cons RightG_ok (sound_cons Begin_ok (sound_cons May_ok (sound_cons Step_ok (sound_cons Clone_ok (sound_cons (turn_sound Without_call) (sound_cons (turn_sound With_call) sound_nil))))))
theorem XRepl_ok : CrOk Try.prog (callAt 1 XRepl) := callAt_ok hmix hT XRepl_sound (inl_cons Try.func55 (by rfl) (by rfl) (by rfl) (inl_cons Try.func53 (by rfl) (by rfl) (by rfl) inl_nil)) cr_none 1
theorem eqStp (a b : Stp) : (a.1 == b.1 && (a.2.1 == b.2.1 && (a.2.2.1 == b.2.2.1 && (a.2.2.2 == b.2.2.2 && true)))) = decide (a = b) := by
  obtain ⟨a1, a2, a3, a4⟩ := a
  obtain ⟨b1, b2, b3, b4⟩ := b
  rw [Bool.eq_iff_iff]
  simp
theorem replS_go {l : List Stp} {N : List (List Int)} {G : List Bool} {s : Stp} (h : mayStp N G s = true) : replS (s :: l) N G = (s :: (replS l (doN N s) (doG G s)).1, (replS l (doN N s) (doG G s)).2) := if_pos h
theorem replS_no {l : List Stp} {N : List (List Int)} {G : List Bool} {s : Stp} (h : mayStp N G s = false) : replS (s :: l) N G = ([], false, N, G) := if_neg (by rw [h]; simp)
set_option maxHeartbeats 4000000 in
theorem Repl_ok : SoundC Try.prog T 25 ReplC := by
  refine sound_con (X := XRepl) (cr := callAt 1 XRepl) XRepl_ok hmix hT XRepl_sound Try.func25 (by rfl) (by rfl) (by rfl) (by rfl) 3 ?_
  rintro ⟨⟨n, E⟩, L⟩ hL
  dsimp only at hL ⊢
  refine ⟨⟨Nat.le_of_ble_eq_true rfl, Nat.le_of_ble_eq_true rfl⟩, ?_⟩
  refine Call.by _ _ (RightC_at n E) ?_
  refine Pick.by (fun h1 => ?_) (fun h1 => ?_)
  · have h1 : ¬ RightP n E := by have h1 : (!decide (RightP n E)) = true := h1; simpa using h1
    have hv : replO n E L = (([], [], []), false) := if_neg h1
    rw [hv]
    refine ⟨rfl, ?_⟩
    (repeat' first | exact rfl | exact trivial | refine And.intro ?_ ?_)
  have hR : RightP n E := by have h1 : (!decide (RightP n E)) = false := h1; simpa using h1
  have hv : replO n E L = (((replR n E L).1, leftF (replR n E L).2.2.2, edgesF (replR n E L).2.2.1 (replR n E L).2.2.2), (replR n E L).2.1) := if_pos hR
  rw [hv]
  refine Call.by _ _ (BeginC_at hR) ?_
  have hW := begin_wf hR
  have hNl := nbrs_length n.toNat E
  have hrep : replR n E L = ([] ++ (replS (L.drop 0) (nbrs n.toNat E) (List.replicate n.toNat false)).1, (replS (L.drop 0) (nbrs n.toNat E) (List.replicate n.toNat false)).2) := rfl
  generalize nbrs n.toNat E = N at *
  generalize List.replicate n.toNat false = G at *
  refine LoopP.intro (α := Nat × List (List Int) × List Bool) (fun a => a.1 ≤ L.length ∧ Wf a.2.1 a.2.2 ∧ replR n E L = (L.take a.1 ++ (replS (L.drop a.1) a.2.1 a.2.2).1, (replS (L.drop a.1) a.2.1 a.2.2).2)) (fun a => L.length - a.1) (fun a => [(1, .sl 4 none none), (4, .ptr 0 0), (6, .ptr 1 0), (15, .sl 4 none none), (16, .s (.i .i64 L.length)), (17, .s (.i .i64 a.1))])
    (fun a => [(0, some (.blk [.nils, .nils, .nils])), (1, some (.blk [.sl 2 none none, .sl 3 none none])), (2, some (.nest true 1 (rowsI a.2.1) [] [])), (3, some (.flat true 1 (bools a.2.2))), (4, some (.flat false 4 (stps L)))]) 5 (0, N, G) ⟨by omega, hW, hrep⟩ (by refine Weak.by [(0, some _), (1, some _), (2, some _), (3, some _), (4, some _)] (by ((repeat' first | exact rfl | exact trivial | refine And.intro ?_ ?_) <;> (repeat' first | exact rfl | exact trivial | refine And.intro ?_ ?_)); all_goals ((rw [stps_length]; rfl))) (by ((repeat' first | exact rfl | exact trivial | refine And.intro ?_ ?_) <;> (repeat' first | exact rfl | exact trivial | refine And.intro ?_ ?_)); all_goals ((rw [stps_length]; rfl))) (by rfl)) ?_
  clear hW hrep hNl
  rintro ⟨i, N, G⟩ ⟨hi, hW, hrep⟩
  dsimp only at hi hW hrep ⊢
  have hGN := hW.len
  refine Pick.by (fun hc => ?_) (fun hc => ?_)
  · have hlt : i < L.length := by simpa using hc
    obtain ⟨s, hs⟩ : ∃ s, L[i]? = some s := ⟨_, List.getElem?_eq_getElem hlt⟩
    have hse : L[i] = s := by rw [List.getElem?_eq_getElem hlt] at hs; injection hs
    have hrow : (stps L)[i]? = some [.i .i64 s.1, .i .i64 s.2.1, .i .i64 s.2.2.1, .b s.2.2.2] := by unfold stps; rw [List.getElem?_map, hs]; rfl
    have hdrop : L.drop i = s :: L.drop (i + 1) := by rw [List.drop_eq_getElem_cons hlt, hse]
    rw [hdrop] at hrep
    refine Idx.by i rfl (by rw [stps_length]; exact hlt) ?_
    refine Look.by _ hrow ?_
    refine Call.by _ _ (MayC_at s.1 hGN) ?_
    have hcS : cut (subOf none 0 0 i) (stps L) = stps (L.take i) := by
      simp only [subOf, cut, List.drop_zero, Nat.sub_zero, stps, List.map_take]
    have hcl := CloneC_at (l := L.take i) (by rw [List.length_take]; omega)
    rw [← hcS] at hcl
    refine Pick.by (fun hmy => ?_) (fun hmy => ?_)
    · have hmy : mayB N G s.1 = false := by have hmy : (!mayB N G s.1) = true := hmy; simpa using hmy
      rw [replS_no (by unfold mayStp; rw [hmy]; rfl), List.append_nil] at hrep
      rw [hrep]
      refine Seg.by (by kernel_rfl) ?_
      refine Rng.by 0 i rfl rfl (by omega) (by rw [stps_length]; omega) ?_
      refine Call.by _ _ hcl ?_
      refine Bar.by (by kernel_rfl) (by kernel_rfl) ?_
      have hGN := hW.len
      have hmo := hW.most
      have hNL := rowsI_length N
      refine LoopP.intro (α := Nat) (fun j => j ≤ N.length) (fun j => N.length - j) (fun j => [(2, .ptr 2 0), (4, .ptr 1 0), (5, .ptr 3 0), (13, .sl 4 none none), (14, .s (.i .i64 N.length)), (15, .s (.i .i64 j)), (1000004, .ptr 0 0)])
        (fun j => [(0, some (.blk [.nils, .nils, .nils])), (1, some (.blk [.nils, .nils, .nils])), (2, some (.blk [.sl 4 none none, .sl 5 none none])), (3, some (.blk [.sl 6 none none, .sl 7 none none, .sl 8 none none])), (4, some (.nest true 1 (rowsI N) [] [])), (5, some (.flat true 1 (bools G))), (6, some (.flat true 4 (stps (L.take i)))), (7, some (.flat true 1 (ints (leftK G j)))), (8, some (.flat true 2 (edges (edgesK N G j))))]) 9 0 (by omega) (by refine Weak.by [(0, some _), (1, some _), (2, some _), (3, some _), (4, some _), (5, some _), (6, some _), (7, none), (8, none)] (by ((repeat' first | exact rfl | exact trivial | refine And.intro ?_ ?_) <;> (repeat' first | exact rfl | exact trivial | refine And.intro ?_ ?_)); all_goals ((first | (rw [hNL]; rfl) | (exact hcS.symm)))) (by ((repeat' first | exact rfl | exact trivial | refine And.intro ?_ ?_) <;> (repeat' first | exact rfl | exact trivial | refine And.intro ?_ ?_)); all_goals ((first | (rw [hNL]; rfl) | (exact hcS.symm)))) (by rfl)) ?_
      rintro j hj
      have hlk := leftK_len G j
      have hek := edgesK_len hW j
      refine Pick.by (fun hd1 => ?_) (fun hd1 => ?_)
      · have hjl : j < N.length := by simpa using hd1
        have hgj : (bools G)[j]? = some [.b (G.getD j false)] := by
          refine bools_get ?_
          rw [List.getD_eq_getElem?_getD, List.getElem?_eq_getElem (by omega)]; rfl
        have hrj : (rowsI N)[j]? = some (ints (rowAt N j)) := by
          have := (rowAt_mem (N := N) (v := (j : Int)) (by omega) (by omega)).2
          exact rowsI_get this
        have hrl := hW.row_len (j : Int)
        refine Idx.by j rfl (by omega) ?_
        refine Pick.T (by rw [hNL]; simp; omega) ?_
        refine Idx.by j rfl (by rw [bools_length]; omega) ?_
        refine Look.by _ hgj ?_
        refine Pick.by (fun hd2 => ?_) (fun hd2 => ?_)
        · have hd2 : G.getD j false = true := hd2
          refine Pick.T (inI64_of (by omega) (by omega)) ?_
          refine Next.by (j + 1) (by omega) (by omega) (by refine Weak.by [(0, some _), (1, some _), (2, some _), (3, some _), (4, some _), (5, some _), (6, some _), (7, some _), (8, some _)] (by ((repeat' first | exact rfl | exact trivial | refine And.intro ?_ ?_) <;> (repeat' first | exact rfl | exact trivial | refine And.intro ?_ ?_)); all_goals ((first | (rw [leftK_succ, if_pos hd2, List.append_nil]) | (rw [edgesK_succ, if_pos hd2, List.append_nil])))) (by ((repeat' first | exact rfl | exact trivial | refine And.intro ?_ ?_) <;> (repeat' first | exact rfl | exact trivial | refine And.intro ?_ ?_)); all_goals ((first | (rw [leftK_succ, if_pos hd2, List.append_nil]) | (rw [edgesK_succ, if_pos hd2, List.append_nil])))) (by rfl))
        have hd2 : G.getD j false = false := hd2
        have hl1 : leftK G (j + 1) = leftK G j ++ [(j : Int)] := by rw [leftK_succ, if_neg (by rw [hd2]; simp)]
        have he1 : edgesK N G (j + 1) = edgesK N G j ++ outE N j := by rw [edgesK_succ, if_neg (by rw [hd2]; simp)]
        refine Pick.T (by simp [cut, ints_length]; omega) ?_
        refine Look.by _ hrj ?_
        refine LoopP.intro (α := Nat) (fun k => k ≤ (rowAt N j).length) (fun k => (rowAt N j).length - k) (fun k => [(2, .ptr 2 0), (4, .ptr 1 0), (5, .ptr 3 0), (6, .s (.i .i64 j)), (13, .sl 4 none none), (14, .s (.i .i64 N.length)), (15, .s (.i .i64 j)), (31, .sl 4 (some (j, 0)) none), (32, .s (.i .i64 (rowAt N j).length)), (33, .s (.i .i64 k)), (1000004, .ptr 0 0)])
          (fun k => [(0, some (.blk [.nils, .nils, .nils])), (1, some (.blk [.nils, .nils, .nils])), (2, some (.blk [.sl 4 none none, .sl 5 none none])), (3, some (.blk [.sl 6 none none, .sl 7 none none, .sl 8 none none])), (4, some (.nest true 1 (rowsI N) [] [])), (5, some (.flat true 1 (bools G))), (6, some (.flat true 4 (stps (L.take i)))), (7, some (.flat true 1 (ints (leftK G (j + 1))))), (8, some (.flat true 2 (edges (edgesK N G j ++ (((rowAt N j).take k).filter fun x => decide (x > (j : Int))).map fun x => ((j : Int), x)))))]) 9 0 (by omega) (by refine Weak.by [(0, some _), (1, some _), (2, some _), (3, some _), (4, some _), (5, some _), (6, some _), (7, some _), (8, some _)] (by ((repeat' first | exact rfl | exact trivial | refine And.intro ?_ ?_) <;> (repeat' first | exact rfl | exact trivial | refine And.intro ?_ ?_)); all_goals ((first | (rw [hl1, ints_snoc]; rfl) | (rw [List.take_zero]; simp; done) | (rw [ints_length]; rfl) | (simp; done)))) (by ((repeat' first | exact rfl | exact trivial | refine And.intro ?_ ?_) <;> (repeat' first | exact rfl | exact trivial | refine And.intro ?_ ?_)); all_goals ((first | (rw [hl1, ints_snoc]; rfl) | (rw [List.take_zero]; simp; done) | (rw [ints_length]; rfl) | (simp; done)))) (by rfl)) ?_
        rintro k hk
        have hpl : ((((rowAt N j).take k).filter fun x => decide (x > (j : Int))).map fun x => ((j : Int), x)).length ≤ 1000 := by
          rw [List.length_map]
          refine Nat.le_trans (List.length_filter_le _ _) ?_
          rw [List.length_take]; omega
        refine Pick.by (fun hd3 => ?_) (fun hd3 => ?_)
        · have hkl : k < (rowAt N j).length := by simpa using hd3
          obtain ⟨x, hx⟩ : ∃ x, (rowAt N j)[k]? = some x := ⟨_, List.getElem?_eq_getElem hkl⟩
          have hxe : (rowAt N j)[k] = x := by rw [List.getElem?_eq_getElem hkl] at hx; injection hx
          refine Look.by _ hrj ?_
          refine Idx.by k rfl (by rw [ints_length]; exact hkl) ?_
          refine Look.by _ hrj ?_
          refine Look.by _ (ints_get hx) ?_
          refine Pick.by (fun hd4 => ?_) (fun hd4 => ?_)
          · have hd4 : x > (j : Int) := by simpa using hd4
            refine Pick.T (by simp [cut, edges_length] at hpl ⊢; omega) ?_
            refine Pick.T (inI64_of (by omega) (by omega)) ?_
            refine Next.by (k + 1) (by omega) (by omega) (by refine Weak.by [(0, some _), (1, some _), (2, some _), (3, some _), (4, some _), (5, some _), (6, some _), (7, some _), (8, some _)] (by ((repeat' first | exact rfl | exact trivial | refine And.intro ?_ ?_) <;> (repeat' first | exact rfl | exact trivial | refine And.intro ?_ ?_)); all_goals ((first | (rw [List.take_succ_eq_append_getElem hkl, hxe, List.filter_append, List.map_append, List.filter_cons, if_pos (by simpa using hd4), List.filter_nil, ← List.append_assoc]; exact edges_snoc _ _) | (simp; done)))) (by ((repeat' first | exact rfl | exact trivial | refine And.intro ?_ ?_) <;> (repeat' first | exact rfl | exact trivial | refine And.intro ?_ ?_)); all_goals ((first | (rw [List.take_succ_eq_append_getElem hkl, hxe, List.filter_append, List.map_append, List.filter_cons, if_pos (by simpa using hd4), List.filter_nil, ← List.append_assoc]; exact edges_snoc _ _) | (simp; done)))) (by rfl))
          · have hd4 : ¬ x > (j : Int) := by simpa using hd4
            refine Pick.T (inI64_of (by omega) (by omega)) ?_
            refine Next.by (k + 1) (by omega) (by omega) (by refine Weak.by [(0, some _), (1, some _), (2, some _), (3, some _), (4, some _), (5, some _), (6, some _), (7, some _), (8, some _)] (by ((repeat' first | exact rfl | exact trivial | refine And.intro ?_ ?_) <;> (repeat' first | exact rfl | exact trivial | refine And.intro ?_ ?_)); all_goals ((first | (rw [List.take_succ_eq_append_getElem hkl, hxe, List.filter_append, List.map_append, List.filter_cons, if_neg (by simpa using hd4), List.filter_nil, List.map_nil, List.append_nil]) | (simp; done)))) (by ((repeat' first | exact rfl | exact trivial | refine And.intro ?_ ?_) <;> (repeat' first | exact rfl | exact trivial | refine And.intro ?_ ?_)); all_goals ((first | (rw [List.take_succ_eq_append_getElem hkl, hxe, List.filter_append, List.map_append, List.filter_cons, if_neg (by simpa using hd4), List.filter_nil, List.map_nil, List.append_nil]) | (simp; done)))) (by rfl))
        · have hkl : k = (rowAt N j).length := by simp at hd3; omega
          have hfull : edgesK N G (j + 1) = edgesK N G j ++ (((rowAt N j).take k).filter fun x => decide (x > (j : Int))).map fun x => ((j : Int), x) := by rw [he1, hkl, List.take_length]; rfl
          refine Pick.T (inI64_of (by omega) (by omega)) ?_
          refine Next.by (j + 1) (by omega) (by omega) (by refine Weak.by [(0, some _), (1, some _), (2, some _), (3, some _), (4, some _), (5, some _), (6, some _), (7, some _), (8, some _)] (by ((repeat' first | exact rfl | exact trivial | refine And.intro ?_ ?_) <;> (repeat' first | exact rfl | exact trivial | refine And.intro ?_ ?_)); all_goals ((rw [hfull]))) (by ((repeat' first | exact rfl | exact trivial | refine And.intro ?_ ?_) <;> (repeat' first | exact rfl | exact trivial | refine And.intro ?_ ?_)); all_goals ((rw [hfull]))) (by rfl))
      have hjl : j = N.length := by simp at hd1; omega
      subst hjl
      have e1 : leftF G = leftK G N.length := by unfold leftF leftK; rw [hGN]
      have e2 : edgesF N G = edgesK N G N.length := by unfold edgesF edgesK; rw [e1]
      refine Seg.by (by kernel_rfl) ?_
      refine ⟨rfl, ?_⟩
      (repeat' first | exact rfl | exact trivial | refine And.intro ?_ ?_)
      all_goals (first | exact congrArg ints e1 | exact congrArg edges e2)
    have hmy : mayB N G s.1 = true := by have hmy : (!mayB N G s.1) = false := hmy; simpa using hmy
    have hmp := mayB_iff.1 hmy
    refine Call.by _ _ (StepC_at ⟨hW, hmp.lo, hmp.hi⟩) ?_
    refine Seg.by (by kernel_rfl) ?_
    refine Pick.by (fun hne => ?_) (fun hne => ?_)
    · have hne : ¬ stepF N s.1 = s := by
        have hne2 : (!decide (stepF N s.1 = s)) = true := by rw [← eqStp]; exact hne
        simpa using hne2
      rw [replS_no (by unfold mayStp; rw [hmy, decide_eq_false hne]; rfl), List.append_nil] at hrep
      rw [hrep]
      refine Rng.by 0 i rfl rfl (by omega) (by rw [stps_length]; omega) ?_
      refine Call.by _ _ hcl ?_
      refine Bar.by (by kernel_rfl) (by kernel_rfl) ?_
      have hGN := hW.len
      have hmo := hW.most
      have hNL := rowsI_length N
      refine LoopP.intro (α := Nat) (fun j => j ≤ N.length) (fun j => N.length - j) (fun j => [(2, .ptr 2 0), (4, .ptr 1 0), (5, .ptr 3 0), (13, .sl 4 none none), (14, .s (.i .i64 N.length)), (15, .s (.i .i64 j)), (1000004, .ptr 0 0)])
        (fun j => [(0, some (.blk [.nils, .nils, .nils])), (1, some (.blk [.nils, .nils, .nils])), (2, some (.blk [.sl 4 none none, .sl 5 none none])), (3, some (.blk [.sl 6 none none, .sl 7 none none, .sl 8 none none])), (4, some (.nest true 1 (rowsI N) [] [])), (5, some (.flat true 1 (bools G))), (6, some (.flat true 4 (stps (L.take i)))), (7, some (.flat true 1 (ints (leftK G j)))), (8, some (.flat true 2 (edges (edgesK N G j))))]) 9 0 (by omega) (by refine Weak.by [(0, some _), (1, some _), (2, some _), (3, some _), (4, some _), (5, some _), (6, some _), (7, none), (8, none)] (by ((repeat' first | exact rfl | exact trivial | refine And.intro ?_ ?_) <;> (repeat' first | exact rfl | exact trivial | refine And.intro ?_ ?_)); all_goals ((first | (rw [hNL]; rfl) | (exact hcS.symm)))) (by ((repeat' first | exact rfl | exact trivial | refine And.intro ?_ ?_) <;> (repeat' first | exact rfl | exact trivial | refine And.intro ?_ ?_)); all_goals ((first | (rw [hNL]; rfl) | (exact hcS.symm)))) (by rfl)) ?_
      rintro j hj
      have hlk := leftK_len G j
      have hek := edgesK_len hW j
      refine Pick.by (fun hd1 => ?_) (fun hd1 => ?_)
      · have hjl : j < N.length := by simpa using hd1
        have hgj : (bools G)[j]? = some [.b (G.getD j false)] := by
          refine bools_get ?_
          rw [List.getD_eq_getElem?_getD, List.getElem?_eq_getElem (by omega)]; rfl
        have hrj : (rowsI N)[j]? = some (ints (rowAt N j)) := by
          have := (rowAt_mem (N := N) (v := (j : Int)) (by omega) (by omega)).2
          exact rowsI_get this
        have hrl := hW.row_len (j : Int)
        refine Idx.by j rfl (by omega) ?_
        refine Pick.T (by rw [hNL]; simp; omega) ?_
        refine Idx.by j rfl (by rw [bools_length]; omega) ?_
        refine Look.by _ hgj ?_
        refine Pick.by (fun hd2 => ?_) (fun hd2 => ?_)
        · have hd2 : G.getD j false = true := hd2
          refine Pick.T (inI64_of (by omega) (by omega)) ?_
          refine Next.by (j + 1) (by omega) (by omega) (by refine Weak.by [(0, some _), (1, some _), (2, some _), (3, some _), (4, some _), (5, some _), (6, some _), (7, some _), (8, some _)] (by ((repeat' first | exact rfl | exact trivial | refine And.intro ?_ ?_) <;> (repeat' first | exact rfl | exact trivial | refine And.intro ?_ ?_)); all_goals ((first | (rw [leftK_succ, if_pos hd2, List.append_nil]) | (rw [edgesK_succ, if_pos hd2, List.append_nil])))) (by ((repeat' first | exact rfl | exact trivial | refine And.intro ?_ ?_) <;> (repeat' first | exact rfl | exact trivial | refine And.intro ?_ ?_)); all_goals ((first | (rw [leftK_succ, if_pos hd2, List.append_nil]) | (rw [edgesK_succ, if_pos hd2, List.append_nil])))) (by rfl))
        have hd2 : G.getD j false = false := hd2
        have hl1 : leftK G (j + 1) = leftK G j ++ [(j : Int)] := by rw [leftK_succ, if_neg (by rw [hd2]; simp)]
        have he1 : edgesK N G (j + 1) = edgesK N G j ++ outE N j := by rw [edgesK_succ, if_neg (by rw [hd2]; simp)]
        refine Pick.T (by simp [cut, ints_length]; omega) ?_
        refine Look.by _ hrj ?_
        refine LoopP.intro (α := Nat) (fun k => k ≤ (rowAt N j).length) (fun k => (rowAt N j).length - k) (fun k => [(2, .ptr 2 0), (4, .ptr 1 0), (5, .ptr 3 0), (6, .s (.i .i64 j)), (13, .sl 4 none none), (14, .s (.i .i64 N.length)), (15, .s (.i .i64 j)), (31, .sl 4 (some (j, 0)) none), (32, .s (.i .i64 (rowAt N j).length)), (33, .s (.i .i64 k)), (1000004, .ptr 0 0)])
          (fun k => [(0, some (.blk [.nils, .nils, .nils])), (1, some (.blk [.nils, .nils, .nils])), (2, some (.blk [.sl 4 none none, .sl 5 none none])), (3, some (.blk [.sl 6 none none, .sl 7 none none, .sl 8 none none])), (4, some (.nest true 1 (rowsI N) [] [])), (5, some (.flat true 1 (bools G))), (6, some (.flat true 4 (stps (L.take i)))), (7, some (.flat true 1 (ints (leftK G (j + 1))))), (8, some (.flat true 2 (edges (edgesK N G j ++ (((rowAt N j).take k).filter fun x => decide (x > (j : Int))).map fun x => ((j : Int), x)))))]) 9 0 (by omega) (by refine Weak.by [(0, some _), (1, some _), (2, some _), (3, some _), (4, some _), (5, some _), (6, some _), (7, some _), (8, some _)] (by ((repeat' first | exact rfl | exact trivial | refine And.intro ?_ ?_) <;> (repeat' first | exact rfl | exact trivial | refine And.intro ?_ ?_)); all_goals ((first | (rw [hl1, ints_snoc]; rfl) | (rw [List.take_zero]; simp; done) | (rw [ints_length]; rfl) | (simp; done)))) (by ((repeat' first | exact rfl | exact trivial | refine And.intro ?_ ?_) <;> (repeat' first | exact rfl | exact trivial | refine And.intro ?_ ?_)); all_goals ((first | (rw [hl1, ints_snoc]; rfl) | (rw [List.take_zero]; simp; done) | (rw [ints_length]; rfl) | (simp; done)))) (by rfl)) ?_
        rintro k hk
        have hpl : ((((rowAt N j).take k).filter fun x => decide (x > (j : Int))).map fun x => ((j : Int), x)).length ≤ 1000 := by
          rw [List.length_map]
          refine Nat.le_trans (List.length_filter_le _ _) ?_
          rw [List.length_take]; omega
        refine Pick.by (fun hd3 => ?_) (fun hd3 => ?_)
        · have hkl : k < (rowAt N j).length := by simpa using hd3
          obtain ⟨x, hx⟩ : ∃ x, (rowAt N j)[k]? = some x := ⟨_, List.getElem?_eq_getElem hkl⟩
          have hxe : (rowAt N j)[k] = x := by rw [List.getElem?_eq_getElem hkl] at hx; injection hx
          refine Look.by _ hrj ?_
          refine Idx.by k rfl (by rw [ints_length]; exact hkl) ?_
          refine Look.by _ hrj ?_
          refine Look.by _ (ints_get hx) ?_
          refine Pick.by (fun hd4 => ?_) (fun hd4 => ?_)
          · have hd4 : x > (j : Int) := by simpa using hd4
            refine Pick.T (by simp [cut, edges_length] at hpl ⊢; omega) ?_
            refine Pick.T (inI64_of (by omega) (by omega)) ?_
            refine Next.by (k + 1) (by omega) (by omega) (by refine Weak.by [(0, some _), (1, some _), (2, some _), (3, some _), (4, some _), (5, some _), (6, some _), (7, some _), (8, some _)] (by ((repeat' first | exact rfl | exact trivial | refine And.intro ?_ ?_) <;> (repeat' first | exact rfl | exact trivial | refine And.intro ?_ ?_)); all_goals ((first | (rw [List.take_succ_eq_append_getElem hkl, hxe, List.filter_append, List.map_append, List.filter_cons, if_pos (by simpa using hd4), List.filter_nil, ← List.append_assoc]; exact edges_snoc _ _) | (simp; done)))) (by ((repeat' first | exact rfl | exact trivial | refine And.intro ?_ ?_) <;> (repeat' first | exact rfl | exact trivial | refine And.intro ?_ ?_)); all_goals ((first | (rw [List.take_succ_eq_append_getElem hkl, hxe, List.filter_append, List.map_append, List.filter_cons, if_pos (by simpa using hd4), List.filter_nil, ← List.append_assoc]; exact edges_snoc _ _) | (simp; done)))) (by rfl))
          · have hd4 : ¬ x > (j : Int) := by simpa using hd4
            refine Pick.T (inI64_of (by omega) (by omega)) ?_
            refine Next.by (k + 1) (by omega) (by omega) (by refine Weak.by [(0, some _), (1, some _), (2, some _), (3, some _), (4, some _), (5, some _), (6, some _), (7, some _), (8, some _)] (by ((repeat' first | exact rfl | exact trivial | refine And.intro ?_ ?_) <;> (repeat' first | exact rfl | exact trivial | refine And.intro ?_ ?_)); all_goals ((first | (rw [List.take_succ_eq_append_getElem hkl, hxe, List.filter_append, List.map_append, List.filter_cons, if_neg (by simpa using hd4), List.filter_nil, List.map_nil, List.append_nil]) | (simp; done)))) (by ((repeat' first | exact rfl | exact trivial | refine And.intro ?_ ?_) <;> (repeat' first | exact rfl | exact trivial | refine And.intro ?_ ?_)); all_goals ((first | (rw [List.take_succ_eq_append_getElem hkl, hxe, List.filter_append, List.map_append, List.filter_cons, if_neg (by simpa using hd4), List.filter_nil, List.map_nil, List.append_nil]) | (simp; done)))) (by rfl))
        · have hkl : k = (rowAt N j).length := by simp at hd3; omega
          have hfull : edgesK N G (j + 1) = edgesK N G j ++ (((rowAt N j).take k).filter fun x => decide (x > (j : Int))).map fun x => ((j : Int), x) := by rw [he1, hkl, List.take_length]; rfl
          refine Pick.T (inI64_of (by omega) (by omega)) ?_
          refine Next.by (j + 1) (by omega) (by omega) (by refine Weak.by [(0, some _), (1, some _), (2, some _), (3, some _), (4, some _), (5, some _), (6, some _), (7, some _), (8, some _)] (by ((repeat' first | exact rfl | exact trivial | refine And.intro ?_ ?_) <;> (repeat' first | exact rfl | exact trivial | refine And.intro ?_ ?_)); all_goals ((rw [hfull]))) (by ((repeat' first | exact rfl | exact trivial | refine And.intro ?_ ?_) <;> (repeat' first | exact rfl | exact trivial | refine And.intro ?_ ?_)); all_goals ((rw [hfull]))) (by rfl))
      have hjl : j = N.length := by simp at hd1; omega
      subst hjl
      have e1 : leftF G = leftK G N.length := by unfold leftF leftK; rw [hGN]
      have e2 : edgesF N G = edgesK N G N.length := by unfold edgesF edgesK; rw [e1]
      refine Seg.by (by kernel_rfl) ?_
      refine ⟨rfl, ?_⟩
      (repeat' first | exact rfl | exact trivial | refine And.intro ?_ ?_)
      all_goals (first | exact congrArg ints e1 | exact congrArg edges e2)
    have hne : stepF N s.1 = s := by
      have hne2 : (!decide (stepF N s.1 = s)) = false := by rw [← eqStp]; exact hne
      simpa using hne2
    rw [replS_go (by unfold mayStp; rw [hmy, decide_eq_true hne]; rfl)] at hrep
    obtain ⟨V, hV⟩ : ∃ V, s.1 = V := ⟨_, rfl⟩
    rw [hV] at hmp hne hmy
    subst hne
    obtain ⟨hs1, hs2⟩ := step_two hW hmp rfl
    have hlo := hmp.lo
    have hhi := hmp.hi
    have hrv := hW.rows V
    have hnd : (rowAt N V).Nodup := hrv.1.imp fun hab => by omega
    have hNL := rowsI_length N
    have hmo := hW.most
    have hrl := hW.row_len V
    have hgv : (rowsI N)[(V).toNat]? = some (ints (rowAt N V)) := rowsI_get (rowAt_mem hlo hhi).2
    have hvv : V ∉ rowAt N V := hW.irr V hlo
    have hpart : ∀ (di : Nat) (u : Int), 0 ≤ u → rowAt (((rowAt N V).take di).foldl (cutF V) N) u = if u ∈ (rowAt N V).take di then (rowAt N u).erase V else rowAt N u := fun di u hu => cuts_row (hnd.sublist (List.take_sublist _ _)) (fun x hx => hrv.2 x (List.mem_of_mem_take hx)) hu
    have hplen : ∀ di : Nat, (rowsI (((rowAt N V).take di).foldl (cutF V) N)).length = N.length := fun di => by rw [rowsI_length, cuts_length]
    have hpget : ∀ (di : Nat) (u : Int), 0 ≤ u → u < N.length → (rowsI (((rowAt N V).take di).foldl (cutF V) N))[u.toNat]? = some (ints (rowAt (((rowAt N V).take di).foldl (cutF V) N) u)) := fun di u h0 h1 => rowsI_get (rowAt_mem h0 (by rw [cuts_length]; exact h1)).2
    refine Idx.by (V).toNat (by show (V : Int) = _; omega) (by omega) ?_
    refine Pick.T (by rw [hNL]; simp; omega) ?_
    refine Look.by _ hgv ?_
    refine LoopP.intro (α := Nat) (fun di => di ≤ (rowAt N V).length) (fun di => (rowAt N V).length - di) (fun di => [(2, .ptr 8 0), (3, .ptr 9 0), (11, .sl 2 (some ((V).toNat, 0)) none), (12, .s (.i .i64 (rowAt N V).length)), (13, .s (.i .i64 di)), (1000001, .sl 4 none none), (1000004, .ptr 0 0), (1000006, .ptr 1 0), (1000015, .sl 4 none none), (1000016, .s (.i .i64 L.length)), (1000017, .s (.i .i64 i))])
      (fun di => [(0, some (.blk [.nils, .nils, .nils])), (1, some (.blk [.sl 2 none none, .sl 3 none none])), (4, some (.flat false 4 (stps L))), (2, some (.nest true 1 (rowsI (((rowAt N V).take di).foldl (cutF V) N)) [] [])), (3, some (.flat true 1 (bools G))), (8, some (.blk [.sl 2 none none, .sl 3 none none])), (9, some (.blk [.s (.i .i64 (stepF N V).1), .s (.i .i64 (stepF N V).2.1), .s (.i .i64 (stepF N V).2.2.1), .s (.b (stepF N V).2.2.2)]))]) 10 0 (by omega) (by refine Weak.by [(0, some _), (1, some _), (2, some _), (3, some _), (4, some _), (8, some _), (9, some _)] (by ((repeat' first | exact rfl | exact trivial | refine And.intro ?_ ?_) <;> (repeat' first | exact rfl | exact trivial | refine And.intro ?_ ?_)); all_goals ((first | (rw [ints_length]; rfl) | (simp; done)))) (by ((repeat' first | exact rfl | exact trivial | refine And.intro ?_ ?_) <;> (repeat' first | exact rfl | exact trivial | refine And.intro ?_ ?_)); all_goals ((first | (rw [ints_length]; rfl) | (simp; done)))) (by rfl)) ?_
    rintro di hi
    refine Pick.by (fun hc1 => ?_) (fun hc1 => ?_)
    · have hil : di < (rowAt N V).length := by simpa using hc1
      obtain ⟨x, hx⟩ : ∃ x, (rowAt N V)[di]? = some x := ⟨_, List.getElem?_eq_getElem hil⟩
      have hxm := List.mem_of_getElem? hx
      have hxr := hrv.2 x hxm
      have hxv : x ≠ V := fun e => hvv (e ▸ hxm)
      have hgi : (rowsI (((rowAt N V).take di).foldl (cutF V) N))[(V).toNat]? = some (ints (rowAt N V)) := by
        rw [hpget di V hlo hhi, hpart di V hlo, if_neg fun h => hvv (List.mem_of_mem_take h)]
      have hrx := hpget di x hxr.1 hxr.2
      have hstp : ((rowAt N V).take (di + 1)).foldl (cutF V) N = cutF V (((rowAt N V).take di).foldl (cutF V) N) x := by
        rw [List.take_succ_eq_append_getElem hil, List.foldl_append]
        have : (rowAt N V)[di] = x := by rw [List.getElem?_eq_getElem hil] at hx; injection hx
        rw [this]; rfl
      have hwx : (rowAt (((rowAt N V).take di).foldl (cutF V) N) x).Pairwise (· ≤ ·) ∧ (rowAt (((rowAt N V).take di).foldl (cutF V) N) x).length ≤ 1000000 := by
        have h1 := hW.rows x
        have h2 := hW.row_len x
        rw [hpart di x hxr.1]
        split
        · have h3 := List.length_erase_le (l := rowAt N x) (a := V)
          exact ⟨(erase_sorted h1.1).imp fun h => by omega, by omega⟩
        · exact ⟨h1.1.imp fun h => by omega, by omega⟩
      have hpl := hplen di
      refine Look.by _ hgi ?_
      refine Idx.by di rfl (by rw [ints_length]; exact hil) ?_
      refine Look.by _ hgi ?_
      refine Look.by _ (ints_get hx) ?_
      refine Idx.by x.toNat (by omega) (by omega) ?_
      refine Pick.T (by rw [hpl]; simp; omega) ?_
      refine Look.by _ hrx ?_
      refine Call.by _ _ (turnC_at hwx) ?_
      refine Idx.by x.toNat (by omega) (by omega) ?_
      refine Pick.T (by rw [hpl]; simp; omega) ?_
      refine Pick.T (by simp) ?_
      refine Seg.by (by kernel_rfl) ?_
      refine Pick.T (inI64_of (by omega) (by omega)) ?_
      refine Next.by (di + 1) (by omega) (by omega) (by refine Weak.by [(0, some _), (1, some _), (2, some _), (3, some _), (4, some _), (8, some _), (9, some _)] (by ((repeat' first | exact rfl | exact trivial | refine And.intro ?_ ?_) <;> (repeat' first | exact rfl | exact trivial | refine And.intro ?_ ?_)); all_goals ((first | (rw [hstp]; unfold cutF; rw [rowsI_set]; rfl) | (simp; done) | (simp; omega)))) (by ((repeat' first | exact rfl | exact trivial | refine And.intro ?_ ?_) <;> (repeat' first | exact rfl | exact trivial | refine And.intro ?_ ?_)); all_goals ((first | (rw [hstp]; unfold cutF; rw [rowsI_set]; rfl) | (simp; done) | (simp; omega)))) (by rfl))
    have hil : di = (rowAt N V).length := by simp at hc1; omega
    subst hil
    rw [List.take_length]
    have hN1 : ∀ u : Int, 0 ≤ u → rowAt ((rowAt N V).foldl (cutF V) N) u = (rowAt N u).erase V := fun u hu => by
      rw [cuts_row hnd hrv.2 hu]
      split
      · rfl
      · rename_i hno
        rw [List.erase_of_not_mem]
        exact fun h => hno (hW.sym u V hu hlo h)
    have hl1 : (rowsI ((rowAt N V).foldl (cutF V) N)).length = N.length := by rw [rowsI_length, cuts_length]
    refine JoinP.intro (α := Unit) (fun _ => True) (fun _ => [(2, .ptr 8 0), (3, .ptr 9 0), (1000001, .sl 4 none none), (1000004, .ptr 0 0), (1000006, .ptr 1 0), (1000015, .sl 4 none none), (1000016, .s (.i .i64 L.length)), (1000017, .s (.i .i64 i))])
      (fun _ => [(0, some (.blk [.nils, .nils, .nils])), (1, some (.blk [.sl 2 none none, .sl 3 none none])), (4, some (.flat false 4 (stps L))), (2, some (.nest true 1 (rowsI (if (stepF N V).2.2.2 then joinF (joinF ((rowAt N V).foldl (cutF V) N) (stepF N V).2.1 (stepF N V).2.2.1) (stepF N V).2.2.1 (stepF N V).2.1 else (rowAt N V).foldl (cutF V) N)) [] [])), (3, some (.flat true 1 (bools G))), (8, some (.blk [.sl 2 none none, .sl 3 none none])), (9, some (.blk [.s (.i .i64 (stepF N V).1), .s (.i .i64 (stepF N V).2.1), .s (.i .i64 (stepF N V).2.2.1), .s (.b (stepF N V).2.2.2)]))]) 10 ?_ ?_
    rotate_left
    · rintro ⟨⟩ -
      have hl2 : (rowsI (if (stepF N V).2.2.2 then joinF (joinF ((rowAt N V).foldl (cutF V) N) (stepF N V).2.1 (stepF N V).2.2.1) (stepF N V).2.2.1 (stepF N V).2.1 else (rowAt N V).foldl (cutF V) N)).length = N.length := by
        rw [rowsI_length]
        split
        · rw [joinF_length, joinF_length, cuts_length]
        · rw [cuts_length]
      have hdo : (rowsI (if (stepF N V).2.2.2 then joinF (joinF ((rowAt N V).foldl (cutF V) N) (stepF N V).2.1 (stepF N V).2.2.1) (stepF N V).2.2.1 (stepF N V).2.1 else (rowAt N V).foldl (cutF V) N)).set (V).toNat [] = rowsI (doN N (stepF N V)) := by
        unfold doN
        rw [rowsI_set]; rfl
      have hdg : (bools G).set (V).toNat [.b true] = bools (doG G (stepF N V)) := by
        unfold doG bools
        rw [List.map_set]; rfl
      generalize rowsI (if (stepF N V).2.2.2 then joinF (joinF ((rowAt N V).foldl (cutF V) N) (stepF N V).2.1 (stepF N V).2.2.1) (stepF N V).2.2.1 (stepF N V).2.1 else (rowAt N V).foldl (cutF V) N) = RR at hl2 hdo ⊢
      refine Idx.by (V).toNat (by show (V : Int) = _; omega) (by omega) ?_
      refine Pick.T (by rw [hl2]; simp; omega) ?_
      refine Idx.by (V).toNat (by show (V : Int) = _; omega) (by rw [bools_length, hW.len]; omega) ?_
      refine Look.by _ (bools_get (goneAt_get hW.len hlo hhi)) ?_
      refine Seg.by (by kernel_rfl) ?_
      refine Pick.T (inI64_of (by omega) (by omega)) ?_
      refine Next.by (i + 1, doN N (stepF N V), doG G (stepF N V)) ⟨by dsimp only; omega, do_wf hW hmp, ?_⟩ (by dsimp only; omega) (by refine Weak.by [(0, some _), (1, some _), (2, some _), (3, some _), (4, some _)] (by ((repeat' first | exact rfl | exact trivial | refine And.intro ?_ ?_) <;> (repeat' first | exact rfl | exact trivial | refine And.intro ?_ ?_)); all_goals ((first | (exact hdo.symm) | (exact hdg.symm)))) (by ((repeat' first | exact rfl | exact trivial | refine And.intro ?_ ?_) <;> (repeat' first | exact rfl | exact trivial | refine And.intro ?_ ?_)); all_goals ((first | (exact hdo.symm) | (exact hdg.symm)))) (by rfl))
      dsimp only
      rw [hrep, List.take_succ_eq_append_getElem hlt, hse, List.append_assoc]; rfl
    refine Pick.by (fun had => ?_) (fun had => ?_)
    · have had : (stepF N V).2.2.2 = true := had
      rw [if_pos had]
      rcases hs2 with ⟨_, _, _, e⟩ | ⟨_, _, _, _, e⟩ | ⟨a, b, hlv, hab, ea, eb, ec⟩
      · rw [had] at e; cases e
      · rw [had] at e; cases e
      have har := hrv.2 a (by rw [hlv]; simp)
      have hbr := hrv.2 b (by rw [hlv]; simp)
      have hra : (rowsI ((rowAt N V).foldl (cutF V) N))[a.toNat]? = some (ints ((rowAt N a).erase V)) := by
        have h1 := rowsI_get (rowAt_mem (N := (rowAt N V).foldl (cutF V) N) har.1 (by rw [cuts_length]; exact har.2)).2
        rw [hN1 a har.1] at h1
        exact h1
      have hrb : (rowsI ((rowAt N V).foldl (cutF V) N))[b.toNat]? = some (ints ((rowAt N b).erase V)) := by
        have h1 := rowsI_get (rowAt_mem (N := (rowAt N V).foldl (cutF V) N) hbr.1 (by rw [cuts_length]; exact hbr.2)).2
        rw [hN1 b hbr.1] at h1
        exact h1
      have hok : ∀ u, ((rowAt N u).erase V).Pairwise (· ≤ ·) ∧ ((rowAt N u).erase V).length ≤ 1000000 := fun u => by
        have h1 := hW.rows u
        have h2 := hW.row_len u
        have h3 := List.length_erase_le (l := rowAt N u) (a := V)
        exact ⟨(erase_sorted h1.1).imp fun h => by omega, by omega⟩
      rw [ea, eb]
      have hj : rowsI (joinF (joinF ((rowAt N V).foldl (cutF V) N) a b) b a) = ((rowsI ((rowAt N V).foldl (cutF V) N)).set a.toNat (ints (insAt ((rowAt N a).erase V) b))).set b.toNat (ints (insAt ((rowAt N b).erase V) a)) := by
        have e1 : rowAt (joinF ((rowAt N V).foldl (cutF V) N) a b) b = (rowAt N b).erase V := by
          unfold joinF
          rw [rowAt_set har.1 (by rw [cuts_length]; exact har.2) hbr.1, if_neg (by omega), hN1 b hbr.1]
        show rowsI ((joinF ((rowAt N V).foldl (cutF V) N) a b).set b.toNat (insAt (rowAt (joinF ((rowAt N V).foldl (cutF V) N) a b) b) a)) = _
        rw [e1, rowsI_set]
        unfold joinF
        rw [rowsI_set, hN1 a har.1]
      have hma : (rowsI ((rowAt N V).foldl (cutF V) N)).set a.toNat (ints (insAt ((rowAt N a).erase V) b)) ≠ [] ∨ True := .inr trivial
      have hl3 : ((rowsI ((rowAt N V).foldl (cutF V) N)).set a.toNat (ints (insAt ((rowAt N a).erase V) b))).length = N.length := by rw [List.length_set, hl1]
      have hrb2 : ((rowsI ((rowAt N V).foldl (cutF V) N)).set a.toNat (ints (insAt ((rowAt N a).erase V) b)))[b.toNat]? = some (ints ((rowAt N b).erase V)) := by rw [List.getElem?_set_ne (by omega)]; exact hrb
      refine Idx.by a.toNat (by omega) (by omega) ?_
      refine Pick.T (by rw [hl1]; simp; omega) ?_
      refine Look.by _ hra ?_
      refine Call.by _ _ (turnC_at (hok a)) ?_
      refine Idx.by a.toNat (by omega) (by omega) ?_
      refine Pick.T (by rw [hl1]; simp; omega) ?_
      refine Pick.T (by simp) ?_
      refine Seg.by (by kernel_rfl) ?_
      refine Idx.by b.toNat (by omega) (by omega) ?_
      refine Pick.T (by rw [hl3]; simp; omega) ?_
      refine Look.by _ hrb2 ?_
      refine Call.by _ _ (turnC_at (hok b)) ?_
      refine Idx.by b.toNat (by omega) (by omega) ?_
      refine Pick.T (by rw [hl3]; simp; omega) ?_
      refine Pick.T (by simp) ?_
      refine Seg.by (by kernel_rfl) ?_
      exact ⟨(), trivial, by refine Weak.by [(0, some _), (1, some _), (2, some _), (3, some _), (4, some _), (8, some _), (9, some _)] (by ((repeat' first | exact rfl | exact trivial | refine And.intro ?_ ?_) <;> (repeat' first | exact rfl | exact trivial | refine And.intro ?_ ?_)); all_goals ((exact hj))) (by ((repeat' first | exact rfl | exact trivial | refine And.intro ?_ ?_) <;> (repeat' first | exact rfl | exact trivial | refine And.intro ?_ ?_)); all_goals ((exact hj))) (by rfl)⟩
    · have had : (stepF N V).2.2.2 = false := had
      rw [if_neg (by rw [had]; simp)]
      exact ⟨(), trivial, by refine Weak.by [(0, some _), (1, some _), (2, some _), (3, some _), (4, some _), (8, some _), (9, some _)] (by ((repeat' first | exact rfl | exact trivial | refine And.intro ?_ ?_) <;> (repeat' first | exact rfl | exact trivial | refine And.intro ?_ ?_))) (by ((repeat' first | exact rfl | exact trivial | refine And.intro ?_ ?_) <;> (repeat' first | exact rfl | exact trivial | refine And.intro ?_ ?_))) (by rfl)⟩
  · have hge : i = L.length := by simp at hc; omega
    subst hge
    have hcl := CloneC_at (l := L) hL
    have hend : replS (L.drop L.length) N G = ([], true, N, G) := by rw [List.drop_length]; rfl
    rw [hend, List.take_length, List.append_nil] at hrep
    rw [hrep]
    refine Call.by _ _ hcl ?_
    refine Bar.by (by kernel_rfl) (by kernel_rfl) ?_
    have hGN := hW.len
    have hmo := hW.most
    have hNL := rowsI_length N
    refine LoopP.intro (α := Nat) (fun j => j ≤ N.length) (fun j => N.length - j) (fun j => [(2, .ptr 2 0), (4, .ptr 1 0), (5, .ptr 3 0), (13, .sl 4 none none), (14, .s (.i .i64 N.length)), (15, .s (.i .i64 j)), (1000004, .ptr 0 0)])
      (fun j => [(0, some (.blk [.nils, .nils, .nils])), (1, some (.blk [.nils, .nils, .nils])), (2, some (.blk [.sl 4 none none, .sl 5 none none])), (3, some (.blk [.sl 6 none none, .sl 7 none none, .sl 8 none none])), (4, some (.nest true 1 (rowsI N) [] [])), (5, some (.flat true 1 (bools G))), (6, some (.flat true 4 (stps L))), (7, some (.flat true 1 (ints (leftK G j)))), (8, some (.flat true 2 (edges (edgesK N G j))))]) 9 0 (by omega) (by refine Weak.by [(0, some _), (1, some _), (2, some _), (3, some _), (4, some _), (5, some _), (6, some _), (7, none), (8, none)] (by ((repeat' first | exact rfl | exact trivial | refine And.intro ?_ ?_) <;> (repeat' first | exact rfl | exact trivial | refine And.intro ?_ ?_)); all_goals ((first | (rw [hNL]; rfl) | done))) (by ((repeat' first | exact rfl | exact trivial | refine And.intro ?_ ?_) <;> (repeat' first | exact rfl | exact trivial | refine And.intro ?_ ?_)); all_goals ((first | (rw [hNL]; rfl) | done))) (by rfl)) ?_
    rintro j hj
    have hlk := leftK_len G j
    have hek := edgesK_len hW j
    refine Pick.by (fun hd1 => ?_) (fun hd1 => ?_)
    · have hjl : j < N.length := by simpa using hd1
      have hgj : (bools G)[j]? = some [.b (G.getD j false)] := by
        refine bools_get ?_
        rw [List.getD_eq_getElem?_getD, List.getElem?_eq_getElem (by omega)]; rfl
      have hrj : (rowsI N)[j]? = some (ints (rowAt N j)) := by
        have := (rowAt_mem (N := N) (v := (j : Int)) (by omega) (by omega)).2
        exact rowsI_get this
      have hrl := hW.row_len (j : Int)
      refine Idx.by j rfl (by omega) ?_
      refine Pick.T (by rw [hNL]; simp; omega) ?_
      refine Idx.by j rfl (by rw [bools_length]; omega) ?_
      refine Look.by _ hgj ?_
      refine Pick.by (fun hd2 => ?_) (fun hd2 => ?_)
      · have hd2 : G.getD j false = true := hd2
        refine Pick.T (inI64_of (by omega) (by omega)) ?_
        refine Next.by (j + 1) (by omega) (by omega) (by refine Weak.by [(0, some _), (1, some _), (2, some _), (3, some _), (4, some _), (5, some _), (6, some _), (7, some _), (8, some _)] (by ((repeat' first | exact rfl | exact trivial | refine And.intro ?_ ?_) <;> (repeat' first | exact rfl | exact trivial | refine And.intro ?_ ?_)); all_goals ((first | (rw [leftK_succ, if_pos hd2, List.append_nil]) | (rw [edgesK_succ, if_pos hd2, List.append_nil])))) (by ((repeat' first | exact rfl | exact trivial | refine And.intro ?_ ?_) <;> (repeat' first | exact rfl | exact trivial | refine And.intro ?_ ?_)); all_goals ((first | (rw [leftK_succ, if_pos hd2, List.append_nil]) | (rw [edgesK_succ, if_pos hd2, List.append_nil])))) (by rfl))
      have hd2 : G.getD j false = false := hd2
      have hl1 : leftK G (j + 1) = leftK G j ++ [(j : Int)] := by rw [leftK_succ, if_neg (by rw [hd2]; simp)]
      have he1 : edgesK N G (j + 1) = edgesK N G j ++ outE N j := by rw [edgesK_succ, if_neg (by rw [hd2]; simp)]
      refine Pick.T (by simp [cut, ints_length]; omega) ?_
      refine Look.by _ hrj ?_
      refine LoopP.intro (α := Nat) (fun k => k ≤ (rowAt N j).length) (fun k => (rowAt N j).length - k) (fun k => [(2, .ptr 2 0), (4, .ptr 1 0), (5, .ptr 3 0), (6, .s (.i .i64 j)), (13, .sl 4 none none), (14, .s (.i .i64 N.length)), (15, .s (.i .i64 j)), (31, .sl 4 (some (j, 0)) none), (32, .s (.i .i64 (rowAt N j).length)), (33, .s (.i .i64 k)), (1000004, .ptr 0 0)])
        (fun k => [(0, some (.blk [.nils, .nils, .nils])), (1, some (.blk [.nils, .nils, .nils])), (2, some (.blk [.sl 4 none none, .sl 5 none none])), (3, some (.blk [.sl 6 none none, .sl 7 none none, .sl 8 none none])), (4, some (.nest true 1 (rowsI N) [] [])), (5, some (.flat true 1 (bools G))), (6, some (.flat true 4 (stps L))), (7, some (.flat true 1 (ints (leftK G (j + 1))))), (8, some (.flat true 2 (edges (edgesK N G j ++ (((rowAt N j).take k).filter fun x => decide (x > (j : Int))).map fun x => ((j : Int), x)))))]) 9 0 (by omega) (by refine Weak.by [(0, some _), (1, some _), (2, some _), (3, some _), (4, some _), (5, some _), (6, some _), (7, some _), (8, some _)] (by ((repeat' first | exact rfl | exact trivial | refine And.intro ?_ ?_) <;> (repeat' first | exact rfl | exact trivial | refine And.intro ?_ ?_)); all_goals ((first | (rw [hl1, ints_snoc]; rfl) | (rw [List.take_zero]; simp; done) | (rw [ints_length]; rfl) | (simp; done)))) (by ((repeat' first | exact rfl | exact trivial | refine And.intro ?_ ?_) <;> (repeat' first | exact rfl | exact trivial | refine And.intro ?_ ?_)); all_goals ((first | (rw [hl1, ints_snoc]; rfl) | (rw [List.take_zero]; simp; done) | (rw [ints_length]; rfl) | (simp; done)))) (by rfl)) ?_
      rintro k hk
      have hpl : ((((rowAt N j).take k).filter fun x => decide (x > (j : Int))).map fun x => ((j : Int), x)).length ≤ 1000 := by
        rw [List.length_map]
        refine Nat.le_trans (List.length_filter_le _ _) ?_
        rw [List.length_take]; omega
      refine Pick.by (fun hd3 => ?_) (fun hd3 => ?_)
      · have hkl : k < (rowAt N j).length := by simpa using hd3
        obtain ⟨x, hx⟩ : ∃ x, (rowAt N j)[k]? = some x := ⟨_, List.getElem?_eq_getElem hkl⟩
        have hxe : (rowAt N j)[k] = x := by rw [List.getElem?_eq_getElem hkl] at hx; injection hx
        refine Look.by _ hrj ?_
        refine Idx.by k rfl (by rw [ints_length]; exact hkl) ?_
        refine Look.by _ hrj ?_
        refine Look.by _ (ints_get hx) ?_
        refine Pick.by (fun hd4 => ?_) (fun hd4 => ?_)
        · have hd4 : x > (j : Int) := by simpa using hd4
          refine Pick.T (by simp [cut, edges_length] at hpl ⊢; omega) ?_
          refine Pick.T (inI64_of (by omega) (by omega)) ?_
          refine Next.by (k + 1) (by omega) (by omega) (by refine Weak.by [(0, some _), (1, some _), (2, some _), (3, some _), (4, some _), (5, some _), (6, some _), (7, some _), (8, some _)] (by ((repeat' first | exact rfl | exact trivial | refine And.intro ?_ ?_) <;> (repeat' first | exact rfl | exact trivial | refine And.intro ?_ ?_)); all_goals ((first | (rw [List.take_succ_eq_append_getElem hkl, hxe, List.filter_append, List.map_append, List.filter_cons, if_pos (by simpa using hd4), List.filter_nil, ← List.append_assoc]; exact edges_snoc _ _) | (simp; done)))) (by ((repeat' first | exact rfl | exact trivial | refine And.intro ?_ ?_) <;> (repeat' first | exact rfl | exact trivial | refine And.intro ?_ ?_)); all_goals ((first | (rw [List.take_succ_eq_append_getElem hkl, hxe, List.filter_append, List.map_append, List.filter_cons, if_pos (by simpa using hd4), List.filter_nil, ← List.append_assoc]; exact edges_snoc _ _) | (simp; done)))) (by rfl))
        · have hd4 : ¬ x > (j : Int) := by simpa using hd4
          refine Pick.T (inI64_of (by omega) (by omega)) ?_
          refine Next.by (k + 1) (by omega) (by omega) (by refine Weak.by [(0, some _), (1, some _), (2, some _), (3, some _), (4, some _), (5, some _), (6, some _), (7, some _), (8, some _)] (by ((repeat' first | exact rfl | exact trivial | refine And.intro ?_ ?_) <;> (repeat' first | exact rfl | exact trivial | refine And.intro ?_ ?_)); all_goals ((first | (rw [List.take_succ_eq_append_getElem hkl, hxe, List.filter_append, List.map_append, List.filter_cons, if_neg (by simpa using hd4), List.filter_nil, List.map_nil, List.append_nil]) | (simp; done)))) (by ((repeat' first | exact rfl | exact trivial | refine And.intro ?_ ?_) <;> (repeat' first | exact rfl | exact trivial | refine And.intro ?_ ?_)); all_goals ((first | (rw [List.take_succ_eq_append_getElem hkl, hxe, List.filter_append, List.map_append, List.filter_cons, if_neg (by simpa using hd4), List.filter_nil, List.map_nil, List.append_nil]) | (simp; done)))) (by rfl))
      · have hkl : k = (rowAt N j).length := by simp at hd3; omega
        have hfull : edgesK N G (j + 1) = edgesK N G j ++ (((rowAt N j).take k).filter fun x => decide (x > (j : Int))).map fun x => ((j : Int), x) := by rw [he1, hkl, List.take_length]; rfl
        refine Pick.T (inI64_of (by omega) (by omega)) ?_
        refine Next.by (j + 1) (by omega) (by omega) (by refine Weak.by [(0, some _), (1, some _), (2, some _), (3, some _), (4, some _), (5, some _), (6, some _), (7, some _), (8, some _)] (by ((repeat' first | exact rfl | exact trivial | refine And.intro ?_ ?_) <;> (repeat' first | exact rfl | exact trivial | refine And.intro ?_ ?_)); all_goals ((rw [hfull]))) (by ((repeat' first | exact rfl | exact trivial | refine And.intro ?_ ?_) <;> (repeat' first | exact rfl | exact trivial | refine And.intro ?_ ?_)); all_goals ((rw [hfull]))) (by rfl))
    have hjl : j = N.length := by simp at hd1; omega
    subst hjl
    have e1 : leftF G = leftK G N.length := by unfold leftF leftK; rw [hGN]
    have e2 : edgesF N G = edgesK N G N.length := by unfold edgesF edgesK; rw [e1]
    refine Seg.by (by kernel_rfl) ?_
    refine ⟨rfl, ?_⟩
    (repeat' first | exact rfl | exact trivial | refine And.intro ?_ ?_)
    all_goals (first | exact congrArg ints e1 | exact congrArg edges e2)
end Go.Sh

set_option linter.unusedVariables false
set_option linter.unusedSimpArgs false
namespace Go.Sh
/-! ### reduction by a table -/
def inAt (I : List Bool) (v : Nat) : Bool := I.getD v false
def matAt (M : List (List Bool)) (u v : Nat) : Bool := (M.getD u []).getD v false
def setM (M : List (List Bool)) (u v : Nat) : List (List Bool) := M.set u ((M.getD u []).set v true)
def nearM (I : List Bool) (M : List (List Bool)) (v : Nat) : List Int := ((List.range I.length).filter fun x => inAt I x && matAt M v x).map fun (x : Nat) => (x : Int)
structure Sqr (n : Nat) (M : List (List Bool)) : Prop where
  len : M.length = n
  row : ∀ r ∈ M, r.length = n
theorem Sqr.at_ {n : Nat} {M : List (List Bool)} (h : Sqr n M) {u : Nat} (hu : u < n) : M[u]? = some (M.getD u []) ∧ (M.getD u []).length = n := by
  have hlt : u < M.length := by rw [h.len]; exact hu
  rw [List.getD_eq_getElem?_getD, List.getElem?_eq_getElem hlt]
  exact ⟨rfl, h.row _ (List.getElem_mem hlt)⟩
theorem Sqr.set {n : Nat} {M : List (List Bool)} (h : Sqr n M) {u v : Nat} (hu : u < n) : Sqr n (setM M u v) := by
  refine ⟨by rw [setM, List.length_set]; exact h.len, fun r hr => ?_⟩
  rcases List.mem_or_eq_of_mem_set hr with hr | rfl
  · exact h.row r hr
  · rw [List.length_set]; exact (h.at_ hu).2
theorem setM_at {n : Nat} {M : List (List Bool)} (h : Sqr n M) {u v : Nat} (hu : u < n) (hv : v < n) (a b : Nat) : matAt (setM M u v) a b = (matAt M a b || (decide (a = u) && decide (b = v))) := by
  unfold matAt setM
  have hl := (h.at_ hu).2
  rw [List.getD_eq_getElem?_getD (l := M.set u _), List.getElem?_set]
  by_cases e : u = a
  · subst e
    rw [if_pos rfl, if_pos (by rw [h.len]; exact hu)]
    simp only [Option.getD_some]
    rw [List.getD_eq_getElem?_getD, List.getElem?_set]
    by_cases e2 : v = b
    · subst e2
      rw [if_pos rfl, if_pos (by rw [hl]; exact hv)]; simp
    · rw [if_neg e2, ← List.getD_eq_getElem?_getD]
      have : ¬ b = v := fun h => e2 h.symm
      simp [this]
  · rw [if_neg e]
    have : ¬ a = u := fun h => e h.symm
    simp [this, List.getD_eq_getElem?_getD]
/-- the table tells what the rows tell -/
structure Sim (n : Nat) (N : List (List Int)) (G I : List Bool) (M : List (List Bool)) : Prop where
  wf : Wf N G
  len : N.length = n
  il : I.length = n
  sq : Sqr n M
  inn : ∀ v, v < n → inAt I v = !goneAt G v
  adj : ∀ u v, u < n → v < n → inAt I u = true → inAt I v = true → (matAt M u v = true ↔ (v : Int) ∈ rowAt N u)
theorem sorted_eq : ∀ {l m : List Int}, l.Pairwise (· < ·) → m.Pairwise (· < ·) → (∀ x, x ∈ l ↔ x ∈ m) → l = m := by
  intro l
  induction l with
  | nil =>
    intro m _ _ h
    cases m with
    | nil => rfl
    | cons b m => have := (h b).2 (by simp); simp at this
  | cons a l ih =>
    intro m hl hm h
    cases m with
    | nil => have := (h a).1 (by simp); simp at this
    | cons b m =>
      rw [List.pairwise_cons] at hl hm
      have hab : a = b := by
        rcases List.mem_cons.1 ((h a).1 (by simp)) with e | e
        · exact e
        · rcases List.mem_cons.1 ((h b).2 (by simp)) with e2 | e2
          · exact e2.symm
          · have := hl.1 b e2; have := hm.1 a e; omega
      subst hab
      rw [ih hl.2 hm.2 fun x => ?_]
      have := h x
      simp only [List.mem_cons] at this
      constructor
      · intro hx
        rcases this.1 (.inr hx) with e | e
        · have := hl.1 x hx; omega
        · exact e
      · intro hx
        rcases this.2 (.inr hx) with e | e
        · have := hm.1 x hx; omega
        · exact e
theorem range_cast_sorted {p : Nat → Bool} (n : Nat) : (((List.range n).filter p).map fun (x : Nat) => (x : Int)).Pairwise (· < ·) := by
  rw [List.pairwise_map]
  exact (List.Pairwise.sublist List.filter_sublist List.pairwise_lt_range).imp fun h => by omega
theorem mem_range_cast {p : Nat → Bool} {n : Nat} {x : Int} : x ∈ ((List.range n).filter p).map (fun (x : Nat) => (x : Int)) ↔ ∃ k : Nat, k < n ∧ p k = true ∧ x = k := by
  rw [List.mem_map]
  constructor
  · rintro ⟨k, hk, rfl⟩
    rw [List.mem_filter, List.mem_range] at hk
    exact ⟨k, hk.1, hk.2, rfl⟩
  · rintro ⟨k, h1, h2, rfl⟩
    exact ⟨k, by rw [List.mem_filter, List.mem_range]; exact ⟨h1, h2⟩, rfl⟩
section
variable {n : Nat} {N : List (List Int)} {G I : List Bool} {M : List (List Bool)}
theorem Sim.inRow (h : Sim n N G I M) {u : Nat} {x : Int} (hx : x ∈ rowAt N u) : 0 ≤ x ∧ x < n ∧ inAt I x.toNat = true := by
  have hr := (h.wf.rows u).2 x hx
  rw [h.len] at hr
  refine ⟨hr.1, hr.2, ?_⟩
  rw [h.inn _ (by omega), Int.toNat_of_nonneg hr.1]
  cases hg : goneAt G x with
  | false => rfl
  | true =>
    have h1 := h.wf.gone x hr.1 hg
    have h2 := h.wf.sym u x (by omega) hr.1 hx
    rw [h1] at h2; simp at h2
theorem Sim.near (h : Sim n N G I M) {v : Nat} (hv : v < n) (hi : inAt I v = true) : nearM I M v = rowAt N v := by
  refine sorted_eq (range_cast_sorted _) (h.wf.rows v).1 fun x => ?_
  unfold nearM
  rw [mem_range_cast, h.il]
  constructor
  · rintro ⟨k, h1, h2, rfl⟩
    rw [Bool.and_eq_true] at h2
    exact (h.adj v k hv h1 hi h2.1).1 h2.2
  · intro hx
    obtain ⟨h0, h1, h2⟩ := h.inRow hx
    refine ⟨x.toNat, by omega, ?_, by omega⟩
    rw [h2, Bool.true_and]
    exact (h.adj v x.toNat hv (by omega) hi h2).2 (by rw [Int.toNat_of_nonneg h0]; exact hx)
theorem Sim.may (h : Sim n N G I M) (v : Nat) (hv : v < n) : mayB N G v = (inAt I v && decide ((nearM I M v).length ≤ 2)) := by
  unfold mayB
  rw [decide_eq_true (show (0 : Int) ≤ (v : Int) by omega), decide_eq_true (show (v : Int) < (N.length : Int) by rw [h.len]; omega), Bool.true_and, Bool.true_and, ← h.inn v hv]
  cases hi : inAt I v with
  | false => rfl
  | true => rw [h.near hv hi]
/-- the step that the table tells -/
theorem Sim.step (h : Sim n N G I M) {v : Nat} (hv : v < n) (hi : inAt I v = true) {a b : Int} (hl : rowAt N v = [a, b]) : (stepF N v).2.2.2 = !matAt M a.toNat b.toNat := by
  have ha := h.inRow (u := v) (x := a) (by rw [hl]; simp)
  have hb := h.inRow (u := v) (x := b) (by rw [hl]; simp)
  have key := h.adj a.toNat b.toNat (by omega) (by omega) ha.2.2 hb.2.2
  rw [Int.toNat_of_nonneg hb.1, Int.toNat_of_nonneg ha.1] at key
  show (decide (1 < (rowAt N v).length) && !(rowAt N ((rowAt N v).getD 0 (-1))).elem ((rowAt N v).getD 1 (-1))) = _
  rw [hl]
  show (decide (1 < 2) && !(rowAt N a).elem b) = _
  rw [show decide (1 < 2) = true from rfl, Bool.true_and]
  congr 1
  rw [Bool.eq_iff_iff, key]
  simp
def goM (N : List (List Int)) (M : List (List Bool)) (v : Nat) : List (List Bool) := match rowAt N v with
  | [a, b] => setM (setM M a.toNat b.toNat) b.toNat a.toNat
  | _ => M
theorem Sim.go (h : Sim n N G I M) {v : Nat} (hv : v < n) (hm : MayP N G v) : Sim n (doN N (stepF N v)) (doG G (stepF N v)) (I.set v false) (goM N M v) := by
  have hi : inAt I v = true := by rw [h.inn v hv, hm.there]; rfl
  obtain ⟨_, hc⟩ := step_two h.wf hm rfl
  have hset : ∀ u, inAt (I.set v false) u = (inAt I u && decide (u ≠ v)) := fun u => by
    unfold inAt
    rw [List.getD_eq_getElem?_getD, List.getElem?_set]
    by_cases e : v = u
    · subst e
      rw [if_pos rfl, if_pos (by rw [h.il]; exact hv)]; simp
    · rw [if_neg e, ← List.getD_eq_getElem?_getD]
      have : u ≠ v := fun h => e h.symm
      simp [this]
  have hsq : Sqr n (goM N M v) := by
    unfold goM
    split
    · rename_i a b hl
      have ha := h.inRow (u := v) (x := a) (by rw [hl]; simp)
      have hb := h.inRow (u := v) (x := b) (by rw [hl]; simp)
      exact (h.sq.set (by omega)).set (by omega)
    · exact h.sq
  refine ⟨do_wf h.wf hm, by rw [doN_length]; exact h.len, by rw [List.length_set]; exact h.il, hsq, fun u hu => ?_, fun u w hu hw hiu hiw => ?_⟩
  · rw [hset, do_gone h.wf hm (by omega), h.inn u hu]
    by_cases e : u = v
    · subst e; simp
    · rw [if_neg (by omega)]; simp [e]
  · rw [hset] at hiu hiw
    simp only [Bool.and_eq_true, decide_eq_true_eq] at hiu hiw
    obtain ⟨_, hrow⟩ := do_row h.wf hm (show (0 : Int) ≤ (u : Int) by omega)
    rw [hrow]
    have hadj := h.adj u w hu hw hiu.1 hiw.1
    have hne1 : (u : Int) ≠ (v : Int) := by have := hiu.2; omega
    have hne2 : (w : Int) ≠ (v : Int) := by have := hiw.2; omega
    rcases hc with ⟨hl, _, _, hd⟩ | ⟨a, hl, _, _, hd⟩ | ⟨a, b, hl, hab, ea, eb, ed⟩
    · unfold goM
      rw [hl, hd]
      dsimp only
      rw [hadj]
      simp [hne1, hne2]
    · unfold goM
      rw [hl, hd]
      dsimp only
      rw [hadj]
      simp [hne1, hne2]
    · have ha := h.inRow (u := v) (x := a) (by rw [hl]; simp)
      have hb := h.inRow (u := v) (x := b) (by rw [hl]; simp)
      unfold goM
      rw [hl]
      dsimp only
      rw [setM_at (h.sq.set (by omega)) (by omega) (by omega), setM_at h.sq (by omega) (by omega), ea, eb]
      simp only [Bool.or_eq_true, Bool.and_eq_true, decide_eq_true_eq]
      rw [hadj]
      have e1 : (u : Int) = a ↔ u = a.toNat := by omega
      have e2 : (w : Int) = b ↔ w = b.toNat := by omega
      have e3 : (u : Int) = b ↔ u = b.toNat := by omega
      have e4 : (w : Int) = a ↔ w = a.toNat := by omega
      cases hd : (stepF N v).2.2.2 with
      | true =>
        rw [e1, e2, e3, e4]
        constructor
        · rintro ((h1 | h1) | h1)
          · exact ⟨hne1, .inl ⟨h1, hne2⟩⟩
          · exact ⟨hne1, .inr ⟨rfl, .inl h1⟩⟩
          · exact ⟨hne1, .inr ⟨rfl, .inr h1⟩⟩
        · rintro ⟨_, ⟨h1, _⟩ | ⟨_, h1 | h1⟩⟩
          · exact .inl (.inl h1)
          · exact .inl (.inr h1)
          · exact .inr h1
      | false =>
        rw [hd] at ed
        have hba : b ∈ rowAt N a := by
          cases hx : (rowAt N a).elem b with
          | false => rw [hx] at ed; cases ed
          | true => simpa using hx
        have hab2 : a ∈ rowAt N b := h.wf.sym a b ha.1 hb.1 hba
        constructor
        · rintro ((h1 | h1) | h1)
          · exact ⟨hne1, .inl ⟨h1, hne2⟩⟩
          · refine ⟨hne1, .inl ⟨?_, hne2⟩⟩
            rw [e1.2 h1.1, e2.2 h1.2]; exact hba
          · refine ⟨hne1, .inl ⟨?_, hne2⟩⟩
            rw [e3.2 h1.1, e4.2 h1.2]; exact hab2
        · rintro ⟨_, ⟨h1, _⟩ | ⟨h1, _⟩⟩
          · exact .inl (.inl h1)
          · cases h1
end
end Go.Sh

set_option linter.unusedVariables false
set_option linter.unusedSimpArgs false
namespace Go.Sh
open Go.Proofs
/-! ### a table, as it lies in memory -/
section
variable {n : Nat} {N : List (List Int)} {G I : List Bool} {M : List (List Bool)}
end
end Go.Sh

set_option linter.unusedVariables false
set_option linter.unusedSimpArgs false
namespace Go.Sh
open Go.Proofs
end Go.Sh

set_option linter.unusedVariables false
set_option linter.unusedSimpArgs false
namespace Go.Sh
open Go.Proofs
/-! ### carcanetlaw10.shown -/
/-! ### carcanetlaw10.ReduceWrong -/
end Go.Sh

set_option linter.unusedVariables false
set_option linter.unusedSimpArgs false
namespace Go.Sh
open Go.Proofs
/-! ### how much is left -/
theorem firstMay_may {N : List (List Int)} {G : List Bool} {v : Nat} (h : firstMay N G = some v) : mayB N G v = true := by
  have := List.find?_some h
  simpa using this
theorem runS_wf : ∀ (f : Nat) {N : List (List Int)} {G : List Bool}, Wf N G → Wf (runS f N G).2.1 (runS f N G).2.2 ∧ (runS f N G).2.1.length = N.length ∧ (runS f N G).1.length ≤ f := by
  intro f
  induction f with
  | zero => intro N G h; exact ⟨h, rfl, by simp [runS]⟩
  | succ f ih =>
    intro N G h
    cases hf : firstMay N G with
    | none => rw [runS_end hf]; exact ⟨h, rfl, by simp⟩
    | some v =>
      rw [runS_go hf]
      obtain ⟨h1, h2, h3⟩ := ih (do_wf h (mayB_iff.1 (firstMay_may hf)))
      exact ⟨h1, by rw [h2, doN_length], by simp; omega⟩
theorem left_len {N : List (List Int)} {G : List Bool} (h : Wf N G) : (leftF G).length ≤ 1000 ∧ (edgesF N G).length ≤ 1000000 := by
  have h1 := leftK_len G G.length
  have h2 := edgesK_len h G.length
  have h3 := h.len
  have h4 := h.most
  have e1 : leftF G = leftK G G.length := rfl
  have e2 : edgesF N G = edgesK N G G.length := by unfold edgesF edgesK; rw [e1]
  rw [e1, e2]
  exact ⟨by omega, by omega⟩
theorem runO_len (n : Int) (E : List Ed) : (runO n E).1.length ≤ 1000 ∧ (runO n E).2.1.length ≤ 1000 ∧ (runO n E).2.2.length ≤ 1000000 := by
  unfold runO
  split
  · rename_i h
    obtain ⟨h1, h2, h3⟩ := runS_wf n.toNat (begin_wf h)
    obtain ⟨h4, h5⟩ := left_len h1
    have := h.1
    have := h.2.1
    exact ⟨by show (runS n.toNat _ _).1.length ≤ 1000; omega, h4, h5⟩
  · simp
/-! ### carcanetref10.Narrow -/
/-! ### carcanetref10.Same -/
/-! ### carcanetlaw10.ours -/
/-! ### carcanetlaw10.theirs -/
end Go.Sh

set_option linter.unusedVariables false
set_option linter.unusedSimpArgs false
namespace Go.Sh
/-! ### what is left, as a graph -/
theorem mem_leftF {G : List Bool} {v : Int} : v ∈ leftF G ↔ 0 ≤ v ∧ v < G.length ∧ goneAt G v = false := by
  unfold leftF
  rw [mem_range_cast]
  constructor
  · rintro ⟨k, h1, h2, rfl⟩
    refine ⟨by omega, by omega, ?_⟩
    rw [goneAt_nat]
    simpa using h2
  · rintro ⟨h1, h2, h3⟩
    refine ⟨v.toNat, by omega, ?_, by omega⟩
    unfold goneAt at h3
    rw [h3]; rfl
theorem leftF_sorted (G : List Bool) : (leftF G).Pairwise (· < ·) := range_cast_sorted _
theorem mem_outE {N : List (List Int)} {v a b : Int} : (a, b) ∈ outE N v ↔ a = v ∧ b ∈ rowAt N v ∧ v < b := by
  unfold outE
  rw [List.mem_map]
  constructor
  · rintro ⟨x, hx, h⟩
    rw [List.mem_filter] at hx
    injection h with h1 h2
    subst h1; subst h2
    exact ⟨rfl, hx.1, by simpa using hx.2⟩
  · rintro ⟨rfl, h1, h2⟩
    exact ⟨b, List.mem_filter.2 ⟨h1, by simpa using h2⟩, rfl⟩
theorem mem_edgesF {N : List (List Int)} {G : List Bool} (h : Wf N G) {a b : Int} : (a, b) ∈ edgesF N G ↔ 0 ≤ a ∧ a < b ∧ b ∈ rowAt N a := by
  unfold edgesF
  rw [List.mem_flatMap]
  constructor
  · rintro ⟨v, hv, hm⟩
    rw [mem_leftF] at hv
    rw [mem_outE] at hm
    obtain ⟨rfl, h1, h2⟩ := hm
    exact ⟨hv.1, h2, h1⟩
  · rintro ⟨h0, h1, h2⟩
    refine ⟨a, mem_leftF.2 ⟨h0, ?_, ?_⟩, mem_outE.2 ⟨rfl, h2, h1⟩⟩
    · rw [h.len]
      by_cases hlt : a.toNat < N.length
      · omega
      · rw [rowAt_out hlt] at h2; simp at h2
    · cases hg : goneAt G a with
      | false => rfl
      | true => rw [h.gone a h0 hg] at h2; simp at h2
theorem edgesF_sorted {N : List (List Int)} {G : List Bool} (h : Wf N G) : (edgesF N G).Pairwise ltE := by
  unfold edgesF
  rw [List.pairwise_flatMap]
  refine ⟨fun v hv => ?_, ?_⟩
  · unfold outE
    rw [List.pairwise_map]
    exact ((h.rows v).1.sublist List.filter_sublist).imp fun hab => .inr ⟨rfl, hab⟩
  · refine (leftF_sorted G).imp fun {a b} hab x hx y hy => ?_
    obtain ⟨x1, x2⟩ := x
    obtain ⟨y1, y2⟩ := y
    rw [mem_outE] at hx hy
    exact .inl (by show x1 < y1; omega)
theorem edgesF_len {N : List (List Int)} {G : List Bool} (h : Wf N G) : (edgesF N G).length ≤ N.length * N.length := by
  have key : ∀ j, (edgesK N G j).length ≤ j * N.length := by
    intro j
    induction j with
    | zero => simp [edgesK, leftK]
    | succ j ih =>
      rw [edgesK_succ, List.length_append, Nat.succ_mul]
      have h1 := outE_len N j
      have h2 := h.row_len j
      have : (if G.getD j false then [] else outE N j).length ≤ N.length := by
        split
        · simp
        · omega
      omega
  have e1 : leftF G = leftK G G.length := rfl
  have e2 : edgesF N G = edgesK N G G.length := by unfold edgesF edgesK; rw [e1]
  rw [e2]
  have := key G.length
  rw [h.len] at this ⊢
  exact this
theorem back_right {N : List (List Int)} {G : List Bool} (h : Wf N G) (hn : N.length ≤ 63) : RightP N.length (edgesF N G) := by
  refine ⟨by omega, by omega, ?_, fun p hp => ?_, edgesF_sorted h⟩
  · have h1 := edgesF_len h
    have : N.length * N.length ≤ 63 * 63 := Nat.mul_le_mul hn hn
    omega
  · obtain ⟨a, b⟩ := p
    rw [mem_edgesF h] at hp
    exact ⟨hp.1, hp.2.1, ((h.rows a).2 b hp.2.2).2⟩
theorem back_near {N : List (List Int)} {G : List Bool} (h : Wf N G) (hn : N.length ≤ 63) {v : Int} (hv : 0 ≤ v) : nearL (edgesF N G) v = rowAt N v := by
  refine sorted_eq (near_sorted (n := N.length) (back_right h hn).2.2.2.1 (edgesF_sorted h)) (h.rows v).1 fun x => ?_
  rw [mem_nearL]
  unfold adjE
  rw [mem_edgesF h, mem_edgesF h]
  constructor
  · rintro (⟨_, _, h1⟩ | ⟨h0, _, h1⟩)
    · exact h1
    · exact h.sym x v h0 hv h1
  · intro hx
    have hr := (h.rows v).2 x hx
    have hne : x ≠ v := fun e => h.irr v hv (e ▸ hx)
    by_cases hlt : v < x
    · exact .inl ⟨hv, hlt, hx⟩
    · exact .inr ⟨hr.1, by omega, h.sym v x hv hr.1 hx⟩
/-! ### runs -/
def live (G : List Bool) : Nat := G.countP (!·)
theorem first_no {N : List (List Int)} {G : List Bool} (h : firstMay N G = none) (u : Int) : mayB N G u = false := by
  cases hu : mayB N G u with
  | false => rfl
  | true =>
    have hm := mayB_iff.1 hu
    unfold firstMay at h
    rw [List.find?_eq_none] at h
    have h0 := hm.lo
    have h1 := hm.hi
    have := h u.toNat (by rw [List.mem_range]; omega)
    rw [Int.toNat_of_nonneg h0] at this
    exact absurd hu this
theorem live_pos {N : List (List Int)} {G : List Bool} (hW : Wf N G) {v : Int} (hm : mayB N G v = true) : 1 ≤ live G := by
  have := live_step hW (mayB_iff.1 hm)
  unfold live; omega
theorem run_end {N : List (List Int)} {G : List Bool} : ∀ {f : Nat}, Wf N G → live G ≤ f → ∀ u, mayB (runS f N G).2.1 (runS f N G).2.2 u = false := by
  intro f
  induction f generalizing N G with
  | zero =>
    intro h hf u
    cases hu : mayB N G u with
    | false => exact hu
    | true => have := live_pos h hu; omega
  | succ f ih =>
    intro h hf u
    cases hm : firstMay N G with
    | none => rw [runS_end hm]; exact first_no hm u
    | some v =>
      rw [runS_go hm]
      have hv := mayB_iff.1 (firstMay_may hm)
      have := live_step h hv
      exact ih (do_wf h hv) (by unfold live at hf ⊢; omega) u
theorem run_count {f : Nat} : ∀ {N : List (List Int)} {G : List Bool}, Wf N G → (runS f N G).1.length + live (runS f N G).2.2 = live G := by
  induction f with
  | zero => intro N G _; simp [runS]
  | succ f ih =>
    intro N G h
    cases hm : firstMay N G with
    | none => rw [runS_end hm]; simp
    | some v =>
      rw [runS_go hm]
      have hv := mayB_iff.1 (firstMay_may hm)
      have h1 := live_step h hv
      have h2 := ih (do_wf h hv)
      unfold live at *
      simp only [List.length_cons]
      omega
theorem run_mayStp {N : List (List Int)} {G : List Bool} {v : Nat} (h : firstMay N G = some v) : mayStp N G (stepF N v) = true := by
  unfold mayStp
  have hs1 : (stepF N (v : Int)).1 = (v : Int) := rfl
  rw [hs1, firstMay_may h, decide_eq_true rfl]; rfl
theorem run_replay {f : Nat} : ∀ {N : List (List Int)} {G : List Bool}, replS (runS f N G).1 N G = ((runS f N G).1, true, (runS f N G).2) := by
  induction f with
  | zero => intro N G; rfl
  | succ f ih =>
    intro N G
    cases hm : firstMay N G with
    | none => rw [runS_end hm]; rfl
    | some v => rw [runS_go hm, replS_go (run_mayStp hm), ih]
theorem live_zero (n : Nat) : live (List.replicate n false) = n := by unfold live; simp [List.countP_replicate]
theorem run_again {n : Int} {E : List Ed} (hR : RightP n E) : replO n E (runO n E).1 = (runO n E, true) := by
  have hrun : runO n E = ((runR n E).1, leftF (runR n E).2.2, edgesF (runR n E).2.1 (runR n E).2.2) := if_pos hR
  have : replR n E (runO n E).1 = ((runR n E).1, true, (runR n E).2) := by rw [hrun]; exact run_replay
  unfold replO
  rw [if_pos hR, this, hrun]
end Go.Sh

set_option linter.unusedVariables false
set_option linter.unusedSimpArgs false
namespace Go.Sh
/-! ### the added edges of steps that were done -/
def addStep (r : List Add) (s : Stp) : List Add := if s.2.2.2 = true then (s.2.1, s.2.2.1, s.1) :: r else r
def addsL (l : List Stp) : List Add := l.foldl addStep []
def putStep (m : List (List Int × Int)) (s : Stp) : List (List Int × Int) := if s.2.2.2 = true then mapPut m [s.2.1, s.2.2.1] s.1 else m
structure ExpI (E : List Ed) (N : List (List Int)) (G : List Bool) (r : List Add) : Prop where
  wf : Wf N G
  val : Val r
  rng : ∀ e ∈ r, (0 ≤ e.1 ∧ e.1 < N.length) ∧ (0 ≤ e.2.1 ∧ e.2.1 < N.length) ∧ (0 ≤ e.2.2 ∧ e.2.2 < N.length)
  gone : ∀ v ∈ vsL r, goneAt G v = true
  cur : ∀ a b, 0 ≤ a → b ∈ rowAt N a → adjE E a b ∨ inKeys r a b
  key : ∀ e ∈ r, goneAt G e.1 = true ∨ goneAt G e.2.1 = true ∨ e.2.1 ∈ rowAt N e.1
  org : ∀ p ∈ E, goneAt G p.1 = true ∨ goneAt G p.2 = true ∨ p.2 ∈ rowAt N p.1
  exc : ∀ e ∈ r, (e.1, e.2.1) ∉ E
  ends : ∀ p ∈ E, 0 ≤ p.1 ∧ p.1 < p.2 ∧ p.2 < N.length
theorem goneAt_do {N : List (List Int)} {G : List Bool} (h : Wf N G) {s : Stp} (hm : MayP N G s.1) {u : Int} (hu : 0 ≤ u) : goneAt (doG G s) u = if u = s.1 then true else goneAt G u := by
  unfold doG
  exact goneAt_set hm.lo (by rw [h.len]; exact hm.hi) hu
theorem keep_do {N : List (List Int)} {G : List Bool} (h : Wf N G) {s : Stp} (hm : MayP N G s.1) (hs : stepF N s.1 = s) {a b : Int} (ha : 0 ≤ a) (hb : 0 ≤ b) (hk : goneAt G a = true ∨ goneAt G b = true ∨ b ∈ rowAt N a) :
    goneAt (doG G s) a = true ∨ goneAt (doG G s) b = true ∨ b ∈ rowAt (doN N s) a := by
  rw [goneAt_do h hm ha, goneAt_do h hm hb]
  by_cases h1 : a = s.1
  · exact .inl (if_pos h1)
  by_cases h2 : b = s.1
  · exact .inr (.inl (if_pos h2))
  rw [if_neg h1, if_neg h2]
  rcases hk with h3 | h3 | h3
  · exact .inl h3
  · exact .inr (.inl h3)
  · have := (do_row h hm ha).2 b
    rw [hs] at this
    exact .inr (.inr (this.2 ⟨h1, .inl ⟨h3, h2⟩⟩))
/-- What is known of a step that adds an edge. -/
theorem added_fact {E : List Ed} {N : List (List Int)} {G : List Bool} {r : List Add} (h : ExpI E N G r) {s : Stp} (hm : mayStp N G s = true) (ha : s.2.2.2 = true) :
    rowAt N s.1 = [s.2.1, s.2.2.1] ∧ s.2.1 < s.2.2.1 ∧ AddOk (s.2.1, s.2.2.1, s.1) r ∧ (0 ≤ s.2.1 ∧ s.2.1 < N.length) ∧ (0 ≤ s.2.2.1 ∧ s.2.2.1 < N.length) ∧ (0 ≤ s.1 ∧ s.1 < N.length) ∧ ¬ adjE E s.2.1 s.2.2.1 ∧ (adjE E s.2.1 s.1 ∨ inKeys r s.2.1 s.1) ∧ (adjE E s.1 s.2.2.1 ∨ inKeys r s.1 s.2.2.1) := by
  unfold mayStp at hm
  simp only [Bool.and_eq_true, decide_eq_true_eq] at hm
  have hp := mayB_iff.1 hm.1
  obtain ⟨_, hc⟩ := step_two h.wf hp hm.2.symm
  rcases hc with ⟨_, _, _, e⟩ | ⟨_, _, _, _, e⟩ | ⟨a, b, hl, hab, ea, eb, ec⟩
  · rw [ha] at e; cases e
  · rw [ha] at e; cases e
  rw [ha] at ec
  have hnb : b ∉ rowAt N a := fun hin => by
    have : (rowAt N a).elem b = true := by simpa using hin
    rw [this] at ec; cases ec
  have hrv := h.wf.rows s.1
  have hra := hrv.2 a (by rw [hl]; simp)
  have hrb := hrv.2 b (by rw [hl]; simp)
  have hva : s.1 ≠ a := fun e => h.wf.irr s.1 hp.lo (by rw [hl, ← e]; simp)
  have hvb : s.1 ≠ b := fun e => h.wf.irr s.1 hp.lo (by rw [hl, ← e]; simp)
  have sa := h.wf.sym s.1 a hp.lo hra.1 (by rw [hl]; simp)
  have sb := h.wf.sym s.1 b hp.lo hrb.1 (by rw [hl]; simp)
  have ga : goneAt G a ≠ true := fun k => by rw [h.wf.gone a hra.1 k] at sa; simp at sa
  have gb : goneAt G b ≠ true := fun k => by rw [h.wf.gone b hrb.1 k] at sb; simp at sb
  have gv : goneAt G s.1 ≠ true := by rw [hp.there]; simp
  rw [ea, eb]
  have hno : ∀ e ∈ r, ¬ keyP a b e := fun e he k => by
    have hlt := h.val.lt e he
    unfold keyP at k
    have e1 : a = e.1 ∧ b = e.2.1 := by omega
    have := h.key e he
    rw [← e1.1, ← e1.2] at this
    rcases this with k | k | k
    · exact ga k
    · exact gb k
    · exact hnb k
  have hnE : ¬ adjE E a b := fun k => by
    rcases k with k | k
    · rcases h.org _ k with k | k | k
      · exact ga k
      · exact gb k
      · exact hnb k
    · have := h.ends _ k; dsimp only at this; omega
  refine ⟨hl, hab, ⟨hab, hva, hvb, fun k => ga (h.gone _ k), fun k => gb (h.gone _ k), fun k => gv (h.gone _ k), fun ⟨e, he, k⟩ => hno e he k⟩, hra, hrb, ⟨hp.lo, hp.hi⟩, hnE, h.cur a s.1 hra.1 sa, h.cur s.1 b hp.lo (by rw [hl]; simp)⟩
theorem ExpI.step {E : List Ed} {N : List (List Int)} {G : List Bool} {r : List Add} (h : ExpI E N G r) {s : Stp} (hm : mayStp N G s = true) : ExpI E (doN N s) (doG G s) (addStep r s) := by
  have hm' := hm
  unfold mayStp at hm'
  simp only [Bool.and_eq_true, decide_eq_true_eq] at hm'
  have hp := mayB_iff.1 hm'.1
  have hs := hm'.2
  have hwf := do_wf h.wf hp
  rw [hs] at hwf
  have hlen := doN_length N s
  have row : ∀ u, 0 ≤ u → ∀ y, y ∈ rowAt (doN N s) u ↔ u ≠ s.1 ∧ ((y ∈ rowAt N u ∧ y ≠ s.1) ∨ (s.2.2.2 = true ∧ ((u = s.2.1 ∧ y = s.2.2.1) ∨ (u = s.2.2.1 ∧ y = s.2.1)))) := fun u hu y => by
    have := (do_row h.wf hp hu).2 y
    rw [hs] at this
    exact this
  have gone0 : ∀ v ∈ vsL r, goneAt (doG G s) v = true := fun v hv => by
    obtain ⟨e, he, rfl⟩ := List.mem_map.1 hv
    rw [goneAt_do h.wf hp (h.rng e he).2.2.1]
    split
    · rfl
    · exact h.gone _ hv
  have key0 : ∀ e ∈ r, goneAt (doG G s) e.1 = true ∨ goneAt (doG G s) e.2.1 = true ∨ e.2.1 ∈ rowAt (doN N s) e.1 := fun e he => keep_do h.wf hp hs (h.rng e he).1.1 (h.rng e he).2.1.1 (h.key e he)
  have org0 : ∀ p ∈ E, goneAt (doG G s) p.1 = true ∨ goneAt (doG G s) p.2 = true ∨ p.2 ∈ rowAt (doN N s) p.1 := fun p hp' => by
    have := h.ends p hp'
    exact keep_do h.wf hp hs this.1 (by omega) (h.org p hp')
  by_cases ha : s.2.2.2 = true
  · obtain ⟨hl, hab, hok, r1, r2, r3, hnE, _, _⟩ := added_fact h hm ha
    have e0 : addStep r s = (s.2.1, s.2.2.1, s.1) :: r := if_pos ha
    rw [e0]
    refine ⟨hwf, ⟨hok, h.val⟩, fun e he => ?_, fun v hv => ?_, fun a b h0 hb => ?_, fun e he => ?_, org0, fun e he => ?_, by rw [hlen]; exact h.ends⟩
    · rw [hlen]
      rcases List.mem_cons.1 he with rfl | he
      · exact ⟨r1, r2, r3⟩
      · exact h.rng e he
    · rcases List.mem_cons.1 hv with rfl | hv
      · rw [goneAt_do h.wf hp r3.1, if_pos rfl]
      · exact gone0 v hv
    · rcases (row a h0 b).1 hb with ⟨_, ⟨k, _⟩ | ⟨_, k⟩⟩
      · exact (h.cur a b h0 k).imp id fun ⟨e, he, k⟩ => ⟨e, List.mem_cons_of_mem _ he, k⟩
      · exact .inr ⟨_, List.mem_cons_self, k⟩
    · rcases List.mem_cons.1 he with rfl | he
      · exact .inr (.inr ((row _ r1.1 _).2 ⟨hok.2.1.symm, .inr ⟨ha, .inl ⟨rfl, rfl⟩⟩⟩))
      · exact key0 e he
    · rcases List.mem_cons.1 he with rfl | he
      · exact fun k => hnE (.inl k)
      · exact h.exc e he
  · have e0 : addStep r s = r := if_neg ha
    rw [e0]
    refine ⟨hwf, h.val, by rw [hlen]; exact h.rng, gone0, fun a b h0 hb => ?_, key0, org0, h.exc, by rw [hlen]; exact h.ends⟩
    rcases (row a h0 b).1 hb with ⟨_, ⟨k, _⟩ | ⟨k, _⟩⟩
    · exact h.cur a b h0 k
    · exact absurd k ha
theorem expI_zero {n : Int} {E : List Ed} (hR : RightP n E) : ExpI E (nbrs n.toNat E) (List.replicate n.toNat false) [] := by
  have hl := nbrs_length n.toNat E
  have hok := hR.2.2.2.1
  have h0 := hR.1
  refine ⟨begin_wf hR, trivial, fun e h => by simp at h, fun v h => by simp [vsL] at h, fun a b h0 hb => ?_, fun e h => by simp at h, fun p hp => ?_, fun e h => by simp at h, fun p hp => ?_⟩
  · by_cases ha : a < n.toNat
    · rw [nbrs_row h0 ha] at hb
      exact .inl (mem_nearL.1 hb)
    · rw [rowAt_out (by rw [hl]; omega)] at hb; simp at hb
  · have := hok p hp
    unfold okE at this
    refine .inr (.inr ?_)
    rw [nbrs_row (by omega) (by omega)]
    exact mem_nearL.2 (.inl hp)
  · have := hok p hp
    unfold okE at this
    rw [hl]; omega
/-- So many of the steps were done, and the others can be. -/
def RunsP (E : List Ed) (l : List Stp) (n i : Nat) : Prop := ∃ N G, N.length = n ∧ ExpI E N G (addsL (l.take i)) ∧ (replS (l.drop i) N G).2.1 = true
theorem addsL_snoc (l : List Stp) (s : Stp) : addsL (l ++ [s]) = addStep (addsL l) s := by simp [addsL]
theorem runs_zero {n : Int} {E : List Ed} {l : List Stp} (h : (replO n E l).2 = true) : RightP n E ∧ RunsP E l n.toNat 0 := by
  unfold replO at h
  split at h
  · rename_i hR
    exact ⟨hR, nbrs n.toNat E, List.replicate n.toNat false, nbrs_length _ _, expI_zero hR, h⟩
  · simp at h
theorem runs_may {E : List Ed} {l : List Stp} {n i : Nat} (hi : i < l.length) (h : RunsP E l n i) : ∃ N G, N.length = n ∧ ExpI E N G (addsL (l.take i)) ∧ mayStp N G l[i] = true ∧ (replS (l.drop (i + 1)) (doN N l[i]) (doG G l[i])).2.1 = true := by
  obtain ⟨N, G, hn, h1, h2⟩ := h
  rw [List.drop_eq_getElem_cons hi] at h2
  cases hm : mayStp N G l[i] with
  | false => rw [replS_no hm] at h2; simp at h2
  | true => rw [replS_go hm] at h2; exact ⟨N, G, hn, h1, hm, h2⟩
theorem runs_next {E : List Ed} {l : List Stp} {n i : Nat} (hi : i < l.length) (h : RunsP E l n i) : RunsP E l n (i + 1) := by
  obtain ⟨N, G, hn, h1, h2, h3⟩ := runs_may hi h
  refine ⟨_, _, by rw [doN_length]; exact hn, ?_, h3⟩
  rw [List.take_succ_eq_append_getElem hi, addsL_snoc]
  exact h1.step h2
theorem runs_all {E : List Ed} {l : List Stp} {n : Nat} (h : RunsP E l n 0) : ∀ i, i ≤ l.length → RunsP E l n i := by
  intro i
  induction i with
  | zero => intro _; exact h
  | succ i ih => intro hi; exact runs_next (by omega) (ih (by omega))
theorem runs_end {n : Int} {E : List Ed} {l : List Stp} (h : (replO n E l).2 = true) : RightP n E ∧ ∃ N G, N.length = n.toNat ∧ ExpI E N G (addsL l) := by
  obtain ⟨hR, h0⟩ := runs_zero h
  obtain ⟨N, G, h1, h2, _⟩ := runs_all h0 l.length (Nat.le_refl _)
  rw [List.take_length] at h2
  exact ⟨hR, N, G, h1, h2⟩
theorem addsL_len (l : List Stp) : (addsL l).length ≤ l.length := by
  have : ∀ (l : List Stp) (r : List Add), (l.foldl addStep r).length ≤ l.length + r.length := by
    intro l
    induction l with
    | nil => intro r; simp
    | cons s l ih =>
      intro r
      rw [List.foldl_cons]
      have := ih (addStep r s)
      have h2 : (addStep r s).length ≤ r.length + 1 := by unfold addStep; split <;> simp
      simp only [List.length_cons]
      omega
  have := this l []
  unfold addsL
  simpa using this
theorem put_by {r : List Add} {s : Stp} (h : s.2.2.2 = true → ¬ inKeys r s.2.1 s.2.2.1) : putStep (byL r) s = byL (addStep r s) := by
  unfold putStep addStep
  by_cases ha : s.2.2.2 = true
  · rw [if_pos ha, if_pos ha, byL_cons]
    refine mapPut_len _ _ _ fun hm => ?_
    have := (mapHas_iff _ _).2 hm
    obtain ⟨e, he, h1, h2⟩ := byL_has.1 this
    exact h ha ⟨e, he, .inl ⟨h1.symm, h2.symm⟩⟩
  · rw [if_neg ha, if_neg ha]

/-! ### what an edge stands for -/
open Classical in
noncomputable def expF (n : Int) (E : List Ed) (l : List Stp) (a b : Int) : Option (List Int) :=
  if (replO n E l).2 = true ∧ (adjE E a b ∨ inKeys (addsL l) a b) then some (a :: pth (addsL l) a b ++ [b]) else none
end Go.Sh

set_option linter.unusedVariables false
set_option linter.unusedSimpArgs false
namespace Go.Sh
open Go.Proofs
/-! ### paths, rows apart, subdivisions: what they are -/
def stepsE (E : List Ed) (p : List Int) : Prop := ∀ i, i + 1 < p.length → adjE E (p.getD i 0) (p.getD (i + 1) 0)
def PathP (n : Int) (E : List Ed) (p : List Int) : Prop := RightP n E ∧ p ≠ [] ∧ (0 ≤ p.headD 0 ∧ p.headD 0 < n) ∧ p.Nodup ∧ stepsE E p
noncomputable def pathB (n : Int) (E : List Ed) (p : List Int) : Bool := @decide (PathP n E p) (Classical.propDecidable _)
theorem pathB_iff {n : Int} {E : List Ed} {p : List Int} : pathB n E p = true ↔ PathP n E p := @decide_eq_true_iff _ (Classical.propDecidable _)
theorem pathB_no {n : Int} {E : List Ed} {p : List Int} (h : ¬ PathP n E p) : pathB n E p = false := by rw [Bool.eq_false_iff]; exact fun k => h (pathB_iff.1 k)
theorem adj_in {n : Int} {E : List Ed} (hR : RightP n E) {x y : Int} (h : adjE E x y) : (0 ≤ x ∧ x < n) ∧ 0 ≤ y ∧ y < n := by
  rcases h with h | h <;> (have := hR.2.2.2.1 _ h; unfold okE at this; dsimp only at this; omega)
theorem getD_at {p : List Int} {i : Nat} (h : i < p.length) : p.getD i 0 = p[i] := by rw [List.getD_eq_getElem?_getD, List.getElem?_eq_getElem h]; rfl
theorem path_in {n : Int} {E : List Ed} {p : List Int} (h : PathP n E p) : ∀ x ∈ p, 0 ≤ x ∧ x < n := fun x hx => by
  obtain ⟨i, hi, rfl⟩ := List.mem_iff_getElem.1 hx
  cases i with
  | zero => rw [show p[0] = p.headD 0 by cases p with | nil => simp at hi | cons a l => rfl]; exact h.2.2.1
  | succ i =>
    have := (adj_in h.1 (h.2.2.2.2 i hi)).2
    rwa [getD_at hi] at this
def innerL (p : List Int) : List Int := (p.drop 1).dropLast
theorem innerL_length (p : List Int) : (innerL p).length = p.length - 2 := by simp [innerL]; omega
theorem innerL_get {p : List Int} {i : Nat} (h : i < p.length - 2) : (innerL p)[i]'(by rw [innerL_length]; exact h) = p[i + 1]'(by omega) := by
  simp only [innerL, List.getElem_dropLast, List.getElem_drop]
  congr 1
  omega
theorem mem_inner {p : List Int} {v : Int} : v ∈ innerL p ↔ ∃ i, ∃ h : i + 2 < p.length, v = p[i + 1]'(by omega) := by
  rw [List.mem_iff_getElem]
  constructor
  · rintro ⟨i, hi, rfl⟩
    rw [innerL_length] at hi
    exact ⟨i, by omega, innerL_get (by omega)⟩
  · rintro ⟨i, hi, rfl⟩
    exact ⟨i, by rw [innerL_length]; omega, innerL_get (by omega)⟩
def ApartP (L : List (List Int)) : Prop := ∀ r ∈ L, ∀ v ∈ innerL r, L.flatten.count v = 1
noncomputable def apartB (L : List (List Int)) : Bool := @decide (ApartP L) (Classical.propDecidable _)
theorem apartB_iff {L : List (List Int)} : apartB L = true ↔ ApartP L := @decide_eq_true_iff _ (Classical.propDecidable _)
theorem apartB_no {L : List (List Int)} (h : ¬ ApartP L) : apartB L = false := by rw [Bool.eq_false_iff]; exact fun k => h (apartB_iff.1 k)
/-- the places of the tops between which the paths go -/
def prsT (k : Int) : List (Int × Int) := if k = 1 then [(0, 1), (0, 2), (0, 3), (1, 2), (1, 3), (2, 3)] else if k = 2 then [(0, 1), (0, 1), (0, 1)] else []
def shapeP (k : Int) (T : List Int) (L : List (List Int)) : Prop := (k = 1 ∧ T.length = 4 ∧ L.length = 6) ∨ (k = 2 ∧ T.length = 2 ∧ L.length = 3)
instance (k : Int) (T : List Int) (L : List (List Int)) : Decidable (shapeP k T L) := by unfold shapeP; exact inferInstance
def fitP (n : Int) (E : List Ed) (k : Int) (T : List Int) (i : Nat) (p : List Int) : Prop :=
  PathP n E p ∧ p.headD 0 = T.getD ((prsT k).getD i (0, 0)).1.toNat 0 ∧ p.getLastD 0 = T.getD ((prsT k).getD i (0, 0)).2.toNat 0 ∧ k + 1 ≤ p.length
def SubP (n : Int) (E : List Ed) (k : Int) (T : List Int) (L : List (List Int)) : Prop := shapeP k T L ∧ (∀ i p, L[i]? = some p → fitP n E k T i p) ∧ ApartP L
noncomputable def subB (n : Int) (E : List Ed) (k : Int) (T : List Int) (L : List (List Int)) : Bool := @decide (SubP n E k T L) (Classical.propDecidable _)
theorem subB_iff {n : Int} {E : List Ed} {k : Int} {T : List Int} {L : List (List Int)} : subB n E k T L = true ↔ SubP n E k T L := @decide_eq_true_iff _ (Classical.propDecidable _)
theorem subB_no {n : Int} {E : List Ed} {k : Int} {T : List Int} {L : List (List Int)} (h : ¬ SubP n E k T L) : subB n E k T L = false := by rw [Bool.eq_false_iff]; exact fun k => h (subB_iff.1 k)
def sbV (o : Bool) (k : Int) (T : List Int) (L : List (List Int)) : V := .agg [.s (.i .i64 k), .flat o 1 (ints T), .nest o 1 (rowsI L)]
theorem sbV_inj {o : Bool} {k k' : Int} {T T' : List Int} {L L' : List (List Int)} (h : sbV o k T L = sbV o k' T' L') : k = k' ∧ T = T' ∧ L = L' := by
  simp only [sbV, V.agg.injEq, List.cons.injEq, C.nest.injEq, C.flat.injEq, C.s.injEq, Sc.i.injEq, true_and, and_true] at h
  exact ⟨h.1, ints_inj h.2.1, rowsI_inj h.2.2⟩
/-- in a subdivision no top stands twice -/
theorem sub_tops {n : Int} {E : List Ed} {k : Int} {T : List Int} {L : List (List Int)} (h : SubP n E k T L) : T.Nodup := by
  obtain ⟨hs, hf, _⟩ := h
  have key : ∀ i (p : List Int), L[i]? = some p → p.headD 0 ≠ p.getLastD 0 := fun i p hp e => by
    obtain ⟨hP, _, _, hl⟩ := hf i p hp
    have h2 : 2 ≤ p.length := by rcases hs with hs | hs <;> omega
    match p, h2, hP.2.2.2.1, e with
    | a :: b :: r, _, hnd, e =>
      have hm : a ∈ b :: r := by
        have e : a = (b :: r).getLastD 0 := by simpa [List.getLastD_cons] using e
        rw [e, List.getLastD_eq_getLast?, List.getLast?_eq_some_getLast (by simp)]
        exact List.getLast_mem _
      exact (List.nodup_cons.1 hnd).1 hm
  have hk : ∀ i, i < L.length → T.getD ((prsT k).getD i (0, 0)).1.toNat 0 ≠ T.getD ((prsT k).getD i (0, 0)).2.toNat 0 := fun i hi e => by
    obtain ⟨_, h1, h2, _⟩ := hf i _ (List.getElem?_eq_getElem hi)
    exact key i _ (List.getElem?_eq_getElem hi) (by rw [h1, h2, e])
  rcases hs with ⟨rfl, hT, hL⟩ | ⟨rfl, hT, hL⟩
  · match T, hT with
    | [a, b, c, d], _ =>
      have h0 := hk 0 (by omega)
      have h1 := hk 1 (by omega)
      have h2 := hk 2 (by omega)
      have h3 := hk 3 (by omega)
      have h4 := hk 4 (by omega)
      have h5 := hk 5 (by omega)
      simp [prsT] at h0 h1 h2 h3 h4 h5
      simp; exact ⟨⟨h0, h1, h2⟩, ⟨h3, h4⟩, h5⟩
  · match T, hT with
    | [a, b], _ =>
      have h0 := hk 0 (by omega)
      simp [prsT] at h0
      simp; exact h0
/-- all edges of the paths, as they come -/
def segsR (p : List Int) : List Ed := (List.range (p.length - 1)).map fun i => edN (p.getD i 0, p.getD (i + 1) 0)
def segs (L : List (List Int)) : List Ed := L.flatMap segsR
/-- in order, none twice -/
def insAll (l : List Ed) : List Ed := l.foldr insE []
theorem mem_insAll {l : List Ed} {x : Ed} : x ∈ insAll l ↔ x ∈ l := by
  induction l with
  | nil => simp [insAll]
  | cons p l ih => simp only [insAll, List.foldr_cons] at ih ⊢; rw [mem_insE, ih, List.mem_cons]
theorem insAll_sorted (l : List Ed) : (insAll l).Pairwise ltE := by
  induction l with
  | nil => simp [insAll]
  | cons p l ih => simp only [insAll, List.foldr_cons] at ih ⊢; exact insE_sorted ih
theorem insAll_of {l M : List Ed} (hs : M.Pairwise ltE) (hm : ∀ x, x ∈ M ↔ x ∈ l) : M = insAll l :=
  sortedE_eq hs (insAll_sorted l) fun x => by rw [hm, mem_insAll]
end Go.Sh

set_option linter.unusedVariables false
set_option linter.unusedSimpArgs false
namespace Go.Proofs
open Go.RowKit Go.Sh
attribute [local go_sem] Oper.semAt_some
def Try.prsR (k : Int) : Option (Nat × Flat) := if k = 1 ∨ k = 2 then some (2, edges (prsT k)) else none
theorem Try.edges_ev (l : List Ed) : ∀ (i : Nat) (row : Row), (edges l)[i]? = some row → row.length = 2 := fun i row h => by
  simp only [edges, List.getElem?_map, Option.map_eq_some_iff] at h
  obtain ⟨x, _, rfl⟩ := h
  rfl
theorem Try.al_size (W : World) (o : Obj) : (W.alloc o).heap.size = W.heap.size + 1 := by show (W.heap.push o).size = _; simp
theorem Try.rows_at {w' : World} {own : Nat → Option Key} {key : Key} {b : Nat} {arr : Array Value} {T : TypeId} {E : List Ed} (hh : w'.heap[b]? = some (.cells arr T (0, 0))) (ho : own b = some key) (hs : arr.size = E.length * 2) (hl : E.length ≤ 1000)
    (hc : ∀ (k : Nat) (x : Ed), E[k]? = some x → arr[k * 2]? = some (.int .i64 x.1) ∧ arr[k * 2 + 1]? = some (.int .i64 x.2)) : FlatOk w' own (some key) (some ⟨b, 0, none⟩) E.length 2 (edges E) := by
  refine ⟨by rw [edges_length]; exact Nat.le_refl _, by omega, Try.edges_ev E, fun r row q x hr hq => ?_, fun _ => .inr ⟨b, 0, arr, T, rfl, ho, hh, by omega, by omega⟩⟩
  simp only [edges, List.getElem?_map, Option.map_eq_some_iff] at hr
  obtain ⟨x0, hx0, rfl⟩ := hr
  have hql : q < 2 := (List.getElem?_eq_some_iff.1 hq).1
  refine ⟨_, rfl, ho, ?_⟩
  obtain ⟨c1, c2⟩ := hc r x0 hx0
  rw [Addr.add_plain]
  simp only [World.cell?, hh, Nat.zero_add]
  match q, hql, hq with
  | 0, _, hq => simp at hq; subst hq; rw [Nat.add_zero]; exact c1
  | 1, _, hq => simp at hq; subst hq; exact c2
set_option maxRecDepth 100000 in
set_option maxHeartbeats 4000000 in
theorem Try.pairs_run (k : Int) (w : World) : Calls Try.prog 62 #[.int .i64 k] w fun e w' => ∃ u, e = .returned u ∧ Frm (fun _ => False) w w' ∧ newOut w w' u (Try.prsR k) := by
  have hfr : ∀ o1 o2 : Obj, Frm (fun _ => False) w ((w.alloc o1).alloc o2) := fun o1 o2 => by
    refine ⟨rfl, .rfl, rfl, by rw [Try.al_size, Try.al_size]; omega, fun b hb _ => ?_⟩
    rw [heap_alloc_lt _ _ (by rw [Try.al_size]; omega), heap_alloc_lt _ _ hb]
  have hat0 : ∀ o1 o2 : Obj, ((w.alloc o1).alloc o2).heap[w.heap.size]? = some o1 := fun o1 o2 => by
    rw [heap_alloc_lt _ _ (by rw [Try.al_size]; omega), heap_alloc_at]
  have hat1 : ∀ o1 o2 : Obj, ((w.alloc o1).alloc o2).heap[w.heap.size + 1]? = some o2 := fun o1 o2 => by
    have := heap_alloc_at (w.alloc o1) o2
    rwa [Try.al_size] at this
  have hsz : ∀ o1 o2 : Obj, ((w.alloc o1).alloc o2).heap.size = w.heap.size + 2 := fun o1 o2 => by rw [Try.al_size, Try.al_size]
  by_cases h1 : k = 1
  · subst h1
    go_enter Try.func62, Try.ntmps62
    go_wp2
    go_ret
    refine ⟨_, rfl, hfr _ _, some ⟨w.heap.size, 0, none⟩, 6, rfl, fun key => ?_⟩
    exact Try.rows_at (E := prsT 1) (hat0 _ _) (by rw [if_pos ⟨Nat.le_refl _, by rw [hsz]; omega⟩]) rfl (by decide) (fun k x hx => by
      have hk : k < 6 := (List.getElem?_eq_some_iff.1 hx).1
      match k, hk, hx with
      | 0, _, hx => cases hx; exact ⟨rfl, rfl⟩
      | 1, _, hx => cases hx; exact ⟨rfl, rfl⟩
      | 2, _, hx => cases hx; exact ⟨rfl, rfl⟩
      | 3, _, hx => cases hx; exact ⟨rfl, rfl⟩
      | 4, _, hx => cases hx; exact ⟨rfl, rfl⟩
      | 5, _, hx => cases hx; exact ⟨rfl, rfl⟩)
  · by_cases h2 : k = 2
    · subst h2
      go_enter Try.func62, Try.ntmps62
      go_wp2
      go_ret
      refine ⟨_, rfl, hfr _ _, some ⟨w.heap.size + 1, 0, none⟩, 3, rfl, fun key => ?_⟩
      exact Try.rows_at (E := prsT 2) (hat1 _ _) (by rw [if_pos ⟨by omega, by rw [hsz]; omega⟩]) rfl (by decide) (fun k x hx => by
        have hk : k < 3 := (List.getElem?_eq_some_iff.1 hx).1
        match k, hk, hx with
        | 0, _, hx => cases hx; exact ⟨rfl, rfl⟩
        | 1, _, hx => cases hx; exact ⟨rfl, rfl⟩
        | 2, _, hx => cases hx; exact ⟨rfl, rfl⟩)
    · have hr : Try.prsR k = none := if_neg (by omega)
      rw [hr]
      go_enter Try.func62, Try.ntmps62
      go_wp2
      go_ret
      exact ⟨_, rfl, hfr _ _, rfl⟩
theorem Try.pairs_call : NewCall Try.prog 62 (fun x => match x with | .i .i64 k => some (Try.prsR k) | _ => none) := by
  refine ⟨⟨_, Try.func62, by decide, by simp [Try.f62]⟩, fun x r hx w => ?_⟩
  cases x with
  | i kd k =>
    cases kd <;> simp at hx
    subst hx
    exact Try.pairs_run k w
  | b v => simp at hx
end Go.Proofs

namespace Go.Proofs
open Go.RowKit Go.Shelf

attribute [local go_sem] Oper.semAt_some

def Try.upto {α : Type} (f : Nat → α) (k : Nat) : List α := (List.range k).map f
theorem Try.upto_succ {α : Type} (f : Nat → α) (k : Nat) : Try.upto f (k + 1) = Try.upto f k ++ [f k] := by simp [Try.upto, List.range_succ]
theorem Try.upto_length {α : Type} (f : Nat → α) (k : Nat) : (Try.upto f k).length = k := by simp [Try.upto]
theorem Try.upto_all (zs : List Int) : Try.upto (fun j => zs[j]?.getD 0) zs.length = zs := by
  apply List.ext_getElem
  · simp [Try.upto]
  · intro i h1 h2
    simp [Try.upto, h2]
theorem Try.upto_take (zs : List Int) {k : Nat} (hk : k ≤ zs.length) : Try.upto (fun j => zs[j]?.getD 0) k = zs.take k := by
  apply List.ext_getElem
  · simp [Try.upto, hk]
  · intro i h1 h2
    have : i < zs.length := by simp [Try.upto] at h1; omega
    simp [Try.upto, this]

set_option maxRecDepth 100000 in
set_option maxHeartbeats 2000000 in
theorem Try.values1_in (F : Fence) (n : Nat) (h7 : F.fn 119) (hro : F.round = none) (hn : 1 ≤ n) (l Bs n₀ len cap : Nat) (a : Addr) (zs : List Int) (hreach : len * 8 ≤ 140737488351232) (hb : a.block < n₀) (J Jx : List Int → World → Prop)
    (hY : ∀ pre x W, J pre W → pre.length < len → YieldAt F (n - 1) Try.prog l #[.int .i64 x] W fun e W' =>
      (e = .returned (.bool true) ∧ J (pre ++ [x]) W' ∧ Below n₀ W W') ∨ (e = .returned (.bool false) ∧ Jx (pre ++ [x]) W'))
    (W : World) (hBs : W.cell? ⟨Bs, 0, none⟩ = some (.slice (some a) len cap)) (hc : ∀ j, j < len → W.cell? (a.add j) = some (.int .i64 (zs[j]?.getD 0))) (h0 : J [] W) :
    CallsIn F n Try.prog 119 #[.func (.yield l) #[] #[], .pointer (some ⟨Bs, 0, none⟩)] W fun e W' => (∃ v, e = .returned v) ∧
      ((∃ ys, ys = Try.upto (fun j => zs[j]?.getD 0) len ∧ J ys W') ∨ (∃ pre, (∃ k, k ≤ len ∧ pre = Try.upto (fun j => zs[j]?.getD 0) k) ∧ Jx pre W')) := by
  refine callsIn_of_wp Try.func119 rfl h7 ?_ hro
  simp only [Try.ntmps119, List.size_toArray, List.length_cons, List.length_nil, Nat.reduceAdd, Nat.reduceSub, Array.replicate_succ, Array.replicate_zero, List.push_toArray, List.append_toArray, List.nil_append, List.cons_append]
  gi_wp2
  gi_loopw [7] (fun i wr => ∃ k : Nat, k ≤ len ∧ i = .int .i64 k ∧ J (Try.upto (fun j => zs[j]?.getD 0) k) wr ∧ Below n₀ W wr)
    (fun i _ => len - (intOf i).toNat)
  case atStart => exact ⟨0, Nat.zero_le _, rfl, h0, Below.refl _ _⟩
  case round =>
    obtain ⟨k, hk, rfl, hJs, hnx⟩ := hrel
    have hcx : k < len → wr.cell? (a.add k) = some (.int .i64 (zs[k]?.getD 0)) := fun h => (hnx.cell (p := a.add k) (by unfold Addr.add; split <;> exact hb)).trans (hc k h)
    by_cases hlt : k < len
    · obtain ⟨fn, tmps, assign, body, hy, hR⟩ := hY _ (zs[k]?.getD 0) wr hJs (by rw [Try.upto_length]; exact hlt)
      have hcx' := hcx hlt
      gi_wp2
      refine hR.mono ?_
      rintro e W3 (⟨rfl, hJ3, hk3⟩ | ⟨rfl, hJx3⟩)
      · gi_wp2
        go_roundw
        case rel => exact ⟨k + 1, by omega, by simp, by rw [Try.upto_succ]; exact hJ3, hnx.trans hk3⟩
        case measure => simp [intOf]; omega
      · gi_wp2
        refine bodyPost_ret (results_none rfl _ _ _) rfl ?_
        exact ⟨⟨_, rfl⟩, .inr ⟨_, ⟨k + 1, by omega, (Try.upto_succ _ _).symm⟩, hJx3⟩⟩
    · obtain rfl : k = len := by omega
      gi_wp2
      go_end0
      exact ⟨⟨_, rfl⟩, .inl ⟨_, rfl, hJs⟩⟩
set_option maxRecDepth 100000 in
set_option maxHeartbeats 1000000 in
theorem Try.values1_nil_in (F : Fence) (n : Nat) (h7 : F.fn 119) (hro : F.round = none) (l Bs : Nat) (a : Option Addr) (cap : Nat) (J : List Int → World → Prop) (W : World) (hBs : W.cell? ⟨Bs, 0, none⟩ = some (.slice a 0 cap)) (h0 : J [] W) :
    CallsIn F n Try.prog 119 #[.func (.yield l) #[] #[], .pointer (some ⟨Bs, 0, none⟩)] W fun e W' => (∃ v, e = .returned v) ∧ J [] W' := by
  refine callsIn_of_wp Try.func119 rfl h7 ?_ hro
  simp only [Try.ntmps119, List.size_toArray, List.length_cons, List.length_nil, Nat.reduceAdd, Nat.reduceSub, Array.replicate_succ, Array.replicate_zero, List.push_toArray, List.append_toArray, List.nil_append, List.cons_append]
  gi_wp2
  gi_loopw [7] (fun i wr => i = .int .i64 0 ∧ J [] wr) (fun _ _ => 0)
  case atStart => exact ⟨rfl, h0⟩
  case round =>
    obtain ⟨rfl, hJs⟩ := hrel
    gi_wp2
    go_end0
    exact ⟨⟨_, rfl⟩, hJs⟩

set_option maxHeartbeats 1000000 in
theorem Try.values_in (F : Fence) (n : Nat) (h5 : F.fn 92) (hro : F.round = none) (a : Option Addr) (len cap : Nat) (w : World) :
    CallsIn F n Try.prog 92 #[.slice a len cap] w fun e w' => e = .returned (.func (.func 119) #[] #[.pointer (some ⟨w.heap.size, 0, none⟩)]) ∧ w' = w.alloc (.cells #[.slice a len cap] 30) := by
  refine callsIn_of_wp Try.func92 rfl h5 ?_ hro
  simp only [Try.ntmps92, List.size_toArray, List.length_cons, List.length_nil, Nat.reduceAdd, Nat.reduceSub, Array.replicate_succ, Array.replicate_zero, List.push_toArray, List.append_toArray, List.nil_append, List.cons_append]
  gi_wp2
  go_ret
  exact ⟨rfl, rfl⟩
def Try.Ints (n₀ : Nat) (W : World) (sv : Value) (zs : List Int) : Prop :=
  (zs = [] ∧ ∃ a cap, sv = .slice a 0 cap) ∨ ∃ a cap, sv = .slice (some a) zs.length cap ∧ a.block < n₀ ∧ ∀ j, j < zs.length → W.cell? (a.add j) = some (.int .i64 (zs[j]?.getD 0))
theorem Try.add_block (a : Addr) (j : Nat) : (a.add j).block = a.block := by unfold Addr.add; split <;> rfl
theorem Try.Ints.below {n₀ : Nat} {A B : World} (h : Below n₀ A B) {sv : Value} {zs : List Int} : Try.Ints n₀ A sv zs → Try.Ints n₀ B sv zs
  | .inl e => .inl e
  | .inr ⟨a, cap, e, hb, hc⟩ => .inr ⟨a, cap, e, hb, fun j hj => (h.cell (p := a.add j) (by rw [Try.add_block]; exact hb)).trans (hc j hj)⟩
theorem Try.values_stops (F : Fence) (n : Nat) (h7 : F.fn 119) (hro : F.round = none) (hn : 1 ≤ n) (Bs n₀ : Nat) (sv : Value) (zs : List Int) (hreach : zs.length * 8 ≤ 140737488351232) (w : World) (hBs : Bs < w.heap.size) (hn₀ : n₀ ≤ w.heap.size)
    (hc : w.cell? ⟨Bs, 0, none⟩ = some sv) (hI : Try.Ints n₀ w sv zs) :
    SeqStopsK F n Try.prog 119 #[.pointer (some ⟨Bs, 0, none⟩)] (fun x : Int => #[Value.int .i64 x]) (Below n₀) (fun ys => ys = zs) (fun pre => pre <+: zs) zs.length w := fun l J Jx W hW _ _ hY h0 => by
  have hc' := (hW.cell (p := ⟨Bs, 0, none⟩) hBs).trans hc
  rcases hI.below (hW.mono hn₀) with ⟨rfl, a, cap, rfl⟩ | ⟨a, cap, rfl, hb, hcs⟩
  · exact (Try.values1_nil_in F n h7 hro l Bs a cap J W hc' h0).mono fun e W' ⟨he, hj⟩ => ⟨he, .inl ⟨_, rfl, hj⟩⟩
  · refine (Try.values1_in F n h7 hro hn l Bs n₀ zs.length cap a zs hreach hb J Jx hY W hc' hcs h0).mono ?_
    rintro e W' ⟨he, ⟨ys, rfl, hj⟩ | ⟨pre, ⟨k, hk, rfl⟩, hj⟩⟩
    · exact ⟨he, .inl ⟨_, Try.upto_all zs, hj⟩⟩
    · exact ⟨he, .inr ⟨_, by rw [Try.upto_take zs hk]; exact List.take_prefix _ _, hj⟩⟩
end Go.Proofs

set_option linter.unusedVariables false
set_option linter.unusedSimpArgs false
namespace Go.Proofs
open Go.RowKit Go.Shelf

attribute [local go_sem] Oper.semAt_some
/-- the cells of edges -/
def Try.Eds (S : Nat → Prop) (W : World) (sv : Value) (E : List (Int × Int)) : Prop :=
  (E = [] ∧ ∃ a cap, sv = .slice a 0 cap) ∨ ∃ ab ao cap, sv = .slice (some ⟨ab, ao, none⟩) E.length cap ∧ S ab ∧ ∀ j x, E[j]? = some x → W.cell? ⟨ab, ao + j * 2, none⟩ = some (.int .i64 x.1) ∧ W.cell? ⟨ab, ao + j * 2 + 1, none⟩ = some (.int .i64 x.2)
/-- some blocks lie as they lay -/
structure Try.Kept (S : Nat → Prop) (W W' : World) : Prop where
  size : W.heap.size ≤ W'.heap.size
  block : ∀ k, S k → W'.heap[k]? = W.heap[k]?
theorem Try.Kept.refl (S : Nat → Prop) (W : World) : Try.Kept S W W := ⟨Nat.le_refl _, fun _ _ => rfl⟩
theorem Try.Kept.trans {S : Nat → Prop} {A B C : World} (h : Try.Kept S A B) (k : Try.Kept S B C) : Try.Kept S A C := ⟨Nat.le_trans h.size k.size, fun b hb => (k.block b hb).trans (h.block b hb)⟩
theorem Try.Kept.cell {S : Nat → Prop} {W W' : World} (h : Try.Kept S W W') {p : Addr} (hp : S p.block) : W'.cell? p = W.cell? p := World.cell?_of_block (w := W) (h.block p.block hp)
theorem Try.Kept.alloc {S : Nat → Prop} {A W : World} (h : Try.Kept S A W) (hS : ∀ k, S k → k < A.heap.size) (o : Obj) : Try.Kept S A (W.alloc o) := ⟨Nat.le_trans h.size (by simp), fun k hk => (Below.heap_alloc W o k (Nat.lt_of_lt_of_le (hS k hk) h.size)).trans (h.block k hk)⟩
theorem Try.Kept.of {n : Nat} {S : Nat → Prop} {W W' : World} (h : Below n W W') (hS : ∀ k, S k → k < n) : Try.Kept S W W' := ⟨h.size, fun k hk => h.block k (hS k hk)⟩
/-- some blocks, and all blocks of a type, lie as they lay -/
def Try.Kp (S : Nat → Prop) (t : Nat) (W W' : World) : Prop := Try.Kept S W W' ∧ ∀ (k : Nat) (c : Array Value) (fr : Nat × Nat), W.heap[k]? = some (Obj.cells c t fr) → W'.heap[k]? = some (Obj.cells c t fr)
theorem Try.kp_t {S : Nat → Prop} {t : Nat} {A B C : World} (h : Try.Kp S t A B) (k : Try.Kp S t B C) : Try.Kp S t A C := ⟨h.1.trans k.1, fun b c fr hb => k.2 b c fr (h.2 b c fr hb)⟩
theorem Try.kp_b {S : Nat → Prop} {t : Nat} {w : World} (hS : ∀ k, S k → k < w.heap.size) (W : World) (l : Nat) (o o' : Obj) (hl : w.heap.size ≤ l) (h : W.heap[l]? = some o) (hc : o.isCells = false) (hw : o.isWalk = false) : Try.Kp S t W (W.putObj l o') :=
  ⟨⟨(grownBy_putObj' W l o').size, fun k hk => by
    by_cases hlt : k < W.heap.size
    · exact (grownBy_putObj' W l o').block k hlt (fun e2 => by injection e2 with e2; have := hS k hk; omega)
    · have h1 := hS k hk
      have h2 := (Array.getElem?_eq_some_iff.1 h).1
      omega⟩, fun k c fr hk => by
    by_cases e : k = l
    · subst e; rw [h] at hk; injection hk with hk; subst hk; cases hc
    · exact ((grownBy_putObj' W l o').block k (Array.getElem?_eq_some_iff.1 hk).1 (fun e2 => e (by cases e2; rfl))).trans hk⟩
open Go.Sh in
theorem Try.nearL_one {n v xa xb : Int} (h : okE n (xa, xb)) (l : List Ed) : Go.Sh.nearL (l ++ [(xa, xb)]) v = Go.Sh.nearL l v ++ (if xb = v then [xa] else if xa = v then [xb] else []) := by
  unfold Go.Sh.okE at h
  rw [Go.Sh.nearL_snoc]
  unfold Go.Sh.nearX
  dsimp only at h ⊢
  by_cases h2 : xb = v
  · rw [if_pos h2, if_neg (by omega), if_pos h2]; rfl
  · rw [if_neg h2, if_neg h2]
    by_cases h3 : xa = v
    · rw [if_pos h3]; rfl
    · rw [if_neg h3]; rfl
set_option maxRecDepth 100000 in
set_option maxHeartbeats 2000000 in
theorem Try.near1_in (F : Fence) (n : Nat) (h7 : F.fn 86) (hro : F.round = none) (hn : 1 ≤ n) (l Bg Bv cap : Nat) (S : Nat → Prop) (ab ao : Nat) (v m : Int) (E : List (Int × Int)) (hE : ∀ p ∈ E, Go.Sh.okE m p) (hEl : E.length ≤ 4000) (hb : S ab) (hBg0 : S Bg) (hBv0 : S Bv) (J Jx : List Int → World → Prop)
    (hY : ∀ pre x W, J pre W → pre.length < E.length → YieldAt F (n - 1) Try.prog l #[.int .i64 x] W fun e W' =>
      (e = .returned (.bool true) ∧ J (pre ++ [x]) W' ∧ Try.Kp S 59 W W') ∨ (e = .returned (.bool false) ∧ Jx (pre ++ [x]) W'))
    (W : World) (hJ : AbidesFrom W.heap.size J) (hS : ∀ k, S k → k < W.heap.size) (hBg : W.cell? ⟨Bg, 1, none⟩ = some (.slice (some ⟨ab, ao, none⟩) E.length cap)) (hBv : W.cell? ⟨Bv, 0, none⟩ = some (.int .i64 v)) (hc : ∀ j x, E[j]? = some x → W.cell? ⟨ab, ao + j * 2, none⟩ = some (.int .i64 x.1) ∧ W.cell? ⟨ab, ao + j * 2 + 1, none⟩ = some (.int .i64 x.2)) (h0 : J [] W) :
    CallsIn F n Try.prog 86 #[.func (.yield l) #[] #[], .pointer (some ⟨Bg, 0, none⟩), .pointer (some ⟨Bv, 0, none⟩)] W fun e W' => (∃ v, e = .returned v) ∧
      ((∃ k, k ≤ E.length ∧ (k = E.length ∨ ∃ x, E[k]? = some x ∧ x.1 > v) ∧ J (Go.Sh.nearL (E.take k) v) W') ∨ (∃ pre, (∃ k, k ≤ E.length ∧ pre = Go.Sh.nearL (E.take k) v) ∧ Jx pre W')) := by
  refine callsIn_of_wp Try.func86 rfl h7 ?_ hro
  simp only [Try.ntmps86, List.size_toArray, List.length_cons, List.length_nil, Nat.reduceAdd, Nat.reduceSub, Array.replicate_succ, Array.replicate_zero, List.push_toArray, List.append_toArray, List.nil_append, List.cons_append]
  gi_wp2
  gi_loopw [9] (fun i wr => ∃ k : Nat, k ≤ E.length ∧ i = .int .i64 k ∧ J (Go.Sh.nearL (E.take k) v) wr ∧ (Go.Sh.nearL (E.take k) v).length ≤ k ∧ Try.Kept S W wr)
    (fun i _ => E.length - (intOf i).toNat)
  case atStart => exact ⟨0, Nat.zero_le _, rfl, h0, by simp [Go.Sh.nearL], Try.Kept.refl _ _⟩
  case round =>
    obtain ⟨k, hk, rfl, hJs, hnl, hnx⟩ := hrel
    by_cases hlt : k < E.length
    · obtain ⟨x, hx⟩ : ∃ x, E[k]? = some x := ⟨_, List.getElem?_eq_getElem hlt⟩
      have hxm : x ∈ E := List.mem_of_getElem? hx
      have hok := hE x hxm
      have hcx1 : wr.cell? ⟨ab, ao + k * 2, none⟩ = some (.int .i64 x.1) := (hnx.cell (p := ⟨ab, ao + k * 2, none⟩) hb).trans (hc k x hx).1
      have hcx2 : wr.cell? ⟨ab, ao + k * 2 + 1, none⟩ = some (.int .i64 x.2) := (hnx.cell (p := ⟨ab, ao + k * 2 + 1, none⟩) hb).trans (hc k x hx).2
      have hv2 : wr.cell? ⟨Bv, 0, none⟩ = some (.int .i64 v) := (hnx.cell (p := ⟨Bv, 0, none⟩) hBv0).trans hBv
      obtain ⟨xa, xb⟩ := x
      have hab : xa < xb := hok.2.1
      have htk : E.take (k + 1) = E.take k ++ [(xa, xb)] := by
        rw [List.take_succ_eq_append_getElem hlt]
        rw [List.getElem?_eq_getElem hlt] at hx
        injection hx with hx
        rw [hx]
      have hst := Try.nearL_one (v := v) hok (E.take k)
      rw [← htk] at hst
      dsimp only at hcx1 hcx2
      have hv3 : (wr.alloc (.cells #[.int .i64 xa, .int .i64 xb] 59)).cell? ⟨Bv, 0, none⟩ = some (.int .i64 v) := ((hnx.alloc hS _).cell (p := ⟨Bv, 0, none⟩) hBv0).trans hBv
      have hJ3 : J (Go.Sh.nearL (E.take k) v) (wr.alloc (.cells #[.int .i64 xa, .int .i64 xb] 59)) := hJ _ _ _ none hJs (World.grownBy_alloc _ _ _) (fun r e => by cases e)
      have hnx3 : Try.Kept S W (wr.alloc (.cells #[.int .i64 xa, .int .i64 xb] 59)) := hnx.alloc hS _
      by_cases h1 : v < xa
      · gi_wp2
        refine bodyPost_ret (results_none rfl _ _ _) rfl ?_
        exact ⟨⟨_, rfl⟩, .inl ⟨k, by omega, .inr ⟨_, hx, h1⟩, hJ3⟩⟩
      · by_cases h2 : xb = v
        · rw [if_pos h2] at hst
          have h3 : ¬ xa = v := by omega
          obtain ⟨fn, tmps, assign, body, hy, hR⟩ := hY _ xa _ hJ3 (by omega)
          rw [← hst] at hR
          subst h2
          gi_wp2
          refine hR.mono ?_
          rintro e W3 (⟨rfl, hJ4, hk4⟩ | ⟨rfl, hJx4⟩)
          · have hbx : W3.heap[wr.heap.size]? = some (.cells #[.int .i64 xa, .int .i64 xb] 59) := hk4.2 _ _ _ (World.alloc_heap_new wr _)
            have hb0 : W3.cell? ⟨wr.heap.size, 0, none⟩ = some (.int .i64 xa) := by simp [World.cell?, hbx]
            have hv4 : W3.cell? ⟨Bv, 0, none⟩ = some (.int .i64 xb) := (hk4.1.cell (p := ⟨Bv, 0, none⟩) hBv0).trans hv3
            gi_wp2
            refine ⟨fun _ h => (by cases h), ?_⟩
            gi_wp2
            go_roundw
            case rel => exact ⟨k + 1, by omega, by simp, hJ4, by rw [hst, List.length_append]; simp; omega, hnx3.trans hk4.1⟩
            case measure => simp [intOf]; omega
          · gi_wp2
            refine bodyPost_ret (results_none rfl _ _ _) rfl ?_
            exact ⟨⟨_, rfl⟩, .inr ⟨_, ⟨k + 1, by omega, rfl⟩, hJx4⟩⟩
        · rw [if_neg h2] at hst
          by_cases h3 : xa = v
          · rw [if_pos h3] at hst
            obtain ⟨fn, tmps, assign, body, hy, hR⟩ := hY _ xb _ hJ3 (by omega)
            rw [← hst] at hR
            subst h3
            have hbf : (xb == xa) = false := beq_eq_false_iff_ne.2 h2
            gi_wp2
            refine ⟨fun _ h => (by cases h), ?_⟩
            gi_wp2
            refine hR.mono ?_
            rintro e W3 (⟨rfl, hJ4, hk4⟩ | ⟨rfl, hJx4⟩)
            · gi_wp2
              go_roundw
              case rel => exact ⟨k + 1, by omega, by simp, hJ4, by rw [hst, List.length_append]; simp; omega, hnx3.trans hk4.1⟩
              case measure => simp [intOf]; omega
            · gi_wp2
              refine bodyPost_ret (results_none rfl _ _ _) rfl ?_
              exact ⟨⟨_, rfl⟩, .inr ⟨_, ⟨k + 1, by omega, rfl⟩, hJx4⟩⟩
          · rw [if_neg h3, List.append_nil] at hst
            have hbf : (xb == v) = false := beq_eq_false_iff_ne.2 h2
            have hbg : (xa == v) = false := beq_eq_false_iff_ne.2 h3
            gi_wp2
            refine ⟨fun _ h => (by cases h), ?_⟩
            gi_wp2
            go_roundw
            case rel => exact ⟨k + 1, by omega, by simp, by rw [hst]; exact hJ3, by rw [hst]; omega, hnx3⟩
            case measure => simp [intOf]; omega
    · obtain rfl : k = E.length := by omega
      gi_wp2
      go_end0
      exact ⟨⟨_, rfl⟩, .inl ⟨_, Nat.le_refl _, .inl rfl, hJs⟩⟩

open Go.Sh in
/-- from where a vertex is passed on, it has no neighbours more -/
theorem Try.near_rest {n v : Int} {E : List Ed} (hE : ∀ p ∈ E, okE n p) (hs : E.Pairwise ltE) {k : Nat} (hk : k = E.length ∨ ∃ x, E[k]? = some x ∧ x.1 > v) : Go.Sh.nearL (E.take k) v = Go.Sh.nearL E v := by
  rcases hk with rfl | ⟨x, hx, hv⟩
  · rw [List.take_length]
  · have h2 : Go.Sh.nearL (E.drop k) v = [] := by
      unfold Go.Sh.nearL
      rw [List.flatMap_eq_nil_iff]
      intro y hy
      have hy1 : x.1 ≤ y.1 := by
        obtain ⟨j, hj⟩ := List.getElem?_of_mem hy
        rw [List.getElem?_drop] at hj
        rcases Nat.eq_zero_or_pos j with h0 | h0
        · subst h0; rw [Nat.add_zero, hx] at hj; injection hj with hj; rw [hj]; exact Int.le_refl _
        · obtain ⟨h1, e1⟩ := List.getElem?_eq_some_iff.1 hx
          obtain ⟨h3, e3⟩ := List.getElem?_eq_some_iff.1 hj
          have := List.pairwise_iff_getElem.1 hs k (k + j) h1 h3 (by omega)
          rw [e1, e3] at this
          unfold ltE at this; omega
      have := (hE y (List.mem_of_mem_drop hy)).2.1
      unfold nearX
      rw [if_neg (by omega), if_neg (by omega)]; rfl
    conv => rhs; rw [← List.take_append_drop k E]
    unfold Go.Sh.nearL at h2 ⊢
    rw [List.flatMap_append, h2, List.append_nil]
end Go.Proofs

namespace Go.Proofs
open Go.RowKit Go.Shelf

attribute [local go_sem] Oper.semAt_some
theorem Try.info3 : (Try.prog.info? 3).map (fun i => (i.zero, i.size, i.bytes)) = some (some (.int .i64 0), 1, 8) := by kernel_rfl
set_option maxRecDepth 100000 in
set_option maxHeartbeats 2000000 in
theorem Try.appendSeq_in (F : Fence) (n : Nat) (h116 : F.fn 136) (h103 : F.fn 119) (hro : F.round = none) (hn : 3 ≤ n) (Bs n₀ : Nat) (sv : Value) (zs : List Int) (hlen : zs.length ≤ maxLen) (hreach : zs.length * 8 ≤ 140737488351232) (w : World) (hBs : Bs < w.heap.size) (hn₀ : n₀ ≤ w.heap.size)
    (hc : w.cell? ⟨Bs, 0, none⟩ = some sv) (hI : Try.Ints n₀ w sv zs) :
    CallsIn F n Try.prog 136 #[.slice none 0 0, .func (.func 119) #[] #[.pointer (some ⟨Bs, 0, none⟩)]] w fun e W' => ∃ v, e = .returned v ∧ W'.ownsRow w.heap.size 3 1 v zs.length (zs.map (Value.int .i64)) ∧ (v = .slice none 0 0 ↔ zs = []) ∧ Below w.heap.size w W' := by
  have h1 : 1 ≤ n := by omega
  obtain ⟨i0, hi, hz0, hz1, hz2⟩ := info_parts Try.info3
  refine callsIn_of_wp_marks Try.func136 rfl h116 ?_ hro
  simp only [Try.ntmps136, List.size_toArray, List.length_cons, List.length_nil, Nat.reduceAdd, Nat.reduceSub, Array.replicate_succ, Array.replicate_zero, List.push_toArray, List.append_toArray, List.nil_append, List.cons_append]
  gi_wp2
  have bO := Boxed.new w 30 (.slice none 0 0)
  have hB0 : Below w.heap.size w (w.alloc (.cells #[.slice none 0 0] 30)) := ((Below.refl _ w).alloc (Nat.le_refl _) _)
  refine wpIn_rangeFunc_ownG hro h1 (gf := 119) (lb := #[.pointer (some ⟨Bs, 0, none⟩)]) rfl h103 (enters_of Try.func119 (by kernel_rfl) rfl)
    (Try.values_stops F (n - 1) h103 hro (by omega) Bs w.heap.size _ zs hreach _ (by simp; omega) (by simp) ((hB0.cell (p := ⟨Bs, 0, none⟩) hBs).trans hc) (by
      rcases hI.below (hB0.mono hn₀) with h | ⟨a, cap, e, hb, hcs⟩
      · exact .inl h
      · exact .inr ⟨a, cap, e, by omega, hcs⟩)) belowK_t (belowK_b (by simp)) (Below.refl _ _) (fun _ => rfl)
    (fun pre W => (∃ v, Boxed W w.heap.size 30 v ∧ W.ownsRow w.heap.size 3 1 v pre.length (pre.map (Value.int .i64)) ∧ (v = .slice none 0 0 ↔ pre = [])) ∧ Below w.heap.size w W)
    (fun _ _ _ => False)
    (OwnFrom.and (Own.from (holdsRow_own w.heap.size w.heap.size 30 3 1 (fun pre : List Int => pre.length) (fun pre => pre.map (Value.int .i64)) (fun pre v => v = .slice none 0 0 ↔ pre = [])) _) (ownFrom_below (Nat.le_refl _) (by simp)))
    (fun _ _ _ _ _ hs _ _ => hs)
    ⟨⟨_, bO, World.ownsRow_nil _ _ _ _, by simp⟩, hB0⟩
    (fun x => { tmps := #[.slice none 0 0, .func (.func 119) #[] #[.pointer (some ⟨Bs, 0, none⟩)], .pointer (some ⟨w.heap.size, 0, none⟩), undef, .slice none 0 0, .int .i64 x, .func (.func 119) #[] #[.pointer (some ⟨Bs, 0, none⟩)], .int .i64 x, undef, undef, undef, undef, undef], defers := [] }) ?assign ?body ?done ?stop
  case assign =>
    intro l x W K hK
    gi_wp2
    exact hK
  case body =>
    rintro l pre x W ⟨⟨v, hv, hrow, hnil⟩, hB⟩ hlt
    have hc := hv.cell
    gi_wp2_with (gi_at_builtin; refine wpListIn_append_own _ rfl _ _ 30 rfl w.heap.size 3 i0 (.int .i64 0) 1 8 Try.underlying30 hi hz0 hz1 hz2 rfl (by decide) _ _ _ rfl (hrow.alloc _) ⟨W.heap.size, 0, none⟩ 1 1 [.int .i64 x] rfl rfl (cell_one_new _ _ _) (by simp [Value.oneCell']) (by omega) (by omega) (by have := hB.size; simp; omega) ?_; intro v' w1 hown' hgrow _; obtain ⟨g', cap', rfl⟩ := ownsRow_succ hown'; obtain ⟨hv1, hv2, hr2, hk2, hb2⟩ := hv.appended (by decide) hrow hB.size (Nat.le_refl _) hown' hgrow; have hc1 := hv1.cell; have hf1 := hv1.frozen)
    exact ⟨hk2.from _, hb2, ⟨_, hv2, by simpa using hr2, by simp⟩, hB.trans hb2⟩
  case done =>
    rintro D ys W hD rfl ⟨⟨v, hv, hrow, hnil⟩, hB⟩ hK
    have hc := hv.cell
    gi_wp2
    refine ⟨by simp, .inl ⟨_, _, rfl, run_takeDeferred hK, ?_⟩⟩
    exact ⟨_, results_tmp rfl _ _ _, v, rfl, ownsRow_putObj hrow _ hK rfl, hnil, hB.trans (belowK_b (w := w) (Nat.le_refl _) W D _ _ (by simp at hD; omega) hK rfl rfl)⟩
  case stop =>
    rintro D c pre W _ _ h _
    exact h.elim
end Go.Proofs

set_option linter.unusedVariables false
set_option linter.unusedSimpArgs false
namespace Go.Proofs
open Go.RowKit Go.Shelf Go.Sh

attribute [local go_sem] Oper.semAt_some
/-- a graph's value, taken apart -/
theorem Try.gr_of {w : World} {n : Int} {E : List Ed} {u : Value} (h : V1Ok w noLab 0 (grV n E) u) : ∃ A c, u = .agg #[.int .i64 n, .slice A E.length c] ∧ FlatOk w noLab none A c 2 (edges E) := by
  obtain ⟨cs, rfl, hc⟩ := h
  cases hl : cs.toList with
  | nil => rw [hl] at hc; exact hc.elim
  | cons a r =>
    rw [hl] at hc
    cases r with
    | nil => exact hc.2.elim
    | cons b r =>
      cases r with
      | cons _ _ => exact hc.2.2.elim
      | nil =>
        obtain ⟨⟨_, h1⟩, ⟨x, h2, h3⟩, _⟩ := hc
        have h1 : a = .int .i64 n := h1
        rw [edges_length] at h2
        refine ⟨x.A, x.c, ?_, h3⟩
        have : cs = #[a, b] := by cases cs; simp_all
        rw [this, h1, h2]
theorem Try.gr_ok {w : World} {n : Int} {E : List Ed} {A : Option Addr} {c : Nat} (h : FlatOk w noLab none A c 2 (edges E)) : V1Ok w noLab 0 (grV n E) (.agg #[.int .i64 n, .slice A E.length c]) :=
  ⟨_, rfl, ⟨⟨none, 0, fun _ => none, fun _ => 0⟩, rfl⟩, ⟨⟨A, c, fun _ => none, fun _ => 0⟩, by show Value.slice A E.length c = .slice A (edges E).length c; rw [edges_length], h⟩, trivial⟩
theorem Try.flat_below {w w' : World} {A : Option Addr} {c sz : Nat} {rows : Flat} (h : FlatOk w noLab none A c sz rows) (hb : ∀ b : Nat, b < w.heap.size → w'.heap[b]? = w.heap[b]?) : FlatOk w' noLab none A c sz rows :=
  h.mono (by simp) (fun b hlt _ => ⟨rfl, hb b hlt⟩)
theorem Try.eds_of {w : World} {E : List Ed} {A : Option Addr} {c : Nat} (h : FlatOk w noLab none A c 2 (edges E)) : Try.Eds (· < w.heap.size) w (.slice A E.length c) E := by
  cases E with
  | nil => exact .inl ⟨rfl, A, c, rfl⟩
  | cons x E =>
    obtain ⟨a, rfl, _, h0⟩ := h.cell 0 [.i .i64 x.1, .i .i64 x.2] 0 (.i .i64 x.1) rfl rfl
    have h0 : w.cell? a = some (.int .i64 x.1) := h0
    obtain ⟨ab, ao, sp⟩ := a
    have hsp : sp = none := by
      cases sp with
      | none => rfl
      | some s =>
        simp only [World.cell?] at h0
        split at h0 <;> simp at h0
    subst hsp
    refine .inr ⟨ab, ao, c, rfl, ?_, fun j y hj => ?_⟩
    · simp only [World.cell?] at h0
      by_cases hp : ab < w.heap.size
      · exact hp
      · rw [Array.getElem?_eq_none (by omega)] at h0
        simp at h0
    · have hr := edges_get hj
      obtain ⟨b1, e1, _, h1⟩ := h.cell j _ 0 (.i .i64 y.1) hr rfl
      obtain ⟨b2, e2, _, h2⟩ := h.cell j _ 1 (.i .i64 y.2) hr rfl
      injection e1 with e1
      injection e2 with e2
      subst e1
      subst e2
      rw [Addr.add_plain] at h1 h2
      exact ⟨h1, by rw [Nat.add_assoc]; exact h2⟩
theorem Try.right_in (m : Nat) (w : World) (n : Int) (E : List Ed) (A : Option Addr) (c : Nat) (h : FlatOk w noLab none A c 2 (edges E)) :
    CallsIn Fence.wide m Try.prog 42 #[.agg #[.int .i64 n, .slice A E.length c]] w fun e w' => e = .returned (.bool (decide (RightP n E))) ∧ Below w.heap.size w w' := by
  refine callsIn_wide.2 ((RightG_p [grV n E] _ _ (RightC_at n E) w #[_] ⟨Try.gr_ok h, trivial⟩).mono ?_)
  rintro e w' ⟨u, lab, rfl, hf, _, hu⟩
  obtain ⟨x, hu⟩ := hu
  have hu : u = .bool (decide (RightP n E)) := hu
  exact ⟨by rw [hu], hf.os, hf.tape.1, hf.output, hf.size, fun b hb => hf.block b hb (fun h => h)⟩
/-- what the maker of the walk lays -/
def Try.nearW (w : World) (n v : Int) (sv : Value) : World := (w.alloc (.cells #[.int .i64 n, sv] 28)).alloc (.cells #[.int .i64 v] 3)
set_option maxHeartbeats 1000000 in
theorem Try.near_in (F : Fence) (m : Nat) (h5 : F.fn 58) (hro : F.round = none) (n v : Int) (A : Option Addr) (len c : Nat) (w : World) :
    CallsIn F m Try.prog 58 #[.agg #[.int .i64 n, .slice A len c], .int .i64 v] w fun e w' => e = .returned (.func (.func 86) #[] #[.pointer (some ⟨w.heap.size, 0, none⟩), .pointer (some ⟨w.heap.size + 1, 0, none⟩)]) ∧ w' = Try.nearW w n v (.slice A len c) := by
  refine callsIn_of_wp Try.func58 rfl h5 ?_ hro
  simp only [Try.ntmps58, List.size_toArray, List.length_cons, List.length_nil, Nat.reduceAdd, Nat.reduceSub, Array.replicate_succ, Array.replicate_zero, List.push_toArray, List.append_toArray, List.nil_append, List.cons_append]
  gi_wp2
  go_ret
  refine ⟨?_, rfl⟩
  simp
set_option maxRecDepth 100000 in
set_option maxHeartbeats 1000000 in
theorem Try.near1_nil_in (F : Fence) (m : Nat) (h7 : F.fn 86) (hro : F.round = none) (l Bg Bv : Nat) (a : Option Addr) (cap : Nat) (J : List Int → World → Prop) (W : World) (hBg : W.cell? ⟨Bg, 1, none⟩ = some (.slice a 0 cap)) (h0 : J [] W) :
    CallsIn F m Try.prog 86 #[.func (.yield l) #[] #[], .pointer (some ⟨Bg, 0, none⟩), .pointer (some ⟨Bv, 0, none⟩)] W fun e W' => (∃ v, e = .returned v) ∧ J [] W' := by
  refine callsIn_of_wp Try.func86 rfl h7 ?_ hro
  simp only [Try.ntmps86, List.size_toArray, List.length_cons, List.length_nil, Nat.reduceAdd, Nat.reduceSub, Array.replicate_succ, Array.replicate_zero, List.push_toArray, List.append_toArray, List.nil_append, List.cons_append]
  gi_wp2
  gi_loopw [9] (fun i wr => i = .int .i64 0 ∧ J [] wr) (fun _ _ => 0)
  case atStart => exact ⟨rfl, h0⟩
  case round =>
    obtain ⟨rfl, hJs⟩ := hrel
    gi_wp2
    go_end0
    exact ⟨⟨_, rfl⟩, hJs⟩
theorem Try.Eds.kept {S S' : Nat → Prop} {A B : World} (h : Try.Kept S A B) (hS : ∀ k, S' k → S k) {sv : Value} {E : List Ed} : Try.Eds S' A sv E → Try.Eds S B sv E
  | .inl e => .inl e
  | .inr ⟨ab, ao, cap, e, hb, hc⟩ => .inr ⟨ab, ao, cap, e, hS _ hb, fun j x hj => ⟨(h.cell (p := ⟨ab, ao + j * 2, none⟩) (hS _ hb)).trans (hc j x hj).1, (h.cell (p := ⟨ab, ao + j * 2 + 1, none⟩) (hS _ hb)).trans (hc j x hj).2⟩⟩
theorem Try.near_stops (F : Fence) (m : Nat) (h7 : F.fn 86) (hro : F.round = none) (hm : 1 ≤ m) (Bg Bv : Nat) (S : Nat → Prop) (n v : Int) (sv : Value) (E : List Ed) (hR : RightP n E) (w : World) (hBg0 : S Bg) (hBv0 : S Bv) (hS : ∀ k, S k → k < w.heap.size)
    (hBg : w.cell? ⟨Bg, 1, none⟩ = some sv) (hBv : w.cell? ⟨Bv, 0, none⟩ = some (.int .i64 v)) (hI : Try.Eds S w sv E) :
    SeqStopsK F m Try.prog 86 #[.pointer (some ⟨Bg, 0, none⟩), .pointer (some ⟨Bv, 0, none⟩)] (fun x : Int => #[Value.int .i64 x]) (Try.Kp S 59) (fun ys => ys = Go.Sh.nearL E v) (fun pre => pre <+: Go.Sh.nearL E v) E.length w := fun l J Jx W hW hJ _ hY h0 => by
  have hk := Try.Kept.of hW hS
  have hBg' := (hk.cell (p := ⟨Bg, 1, none⟩) hBg0).trans hBg
  have hBv' := (hk.cell (p := ⟨Bv, 0, none⟩) hBv0).trans hBv
  rcases hI.kept hk (fun k h => h) with ⟨rfl, a, cap, rfl⟩ | ⟨ab, ao, cap, rfl, hb, hcs⟩
  · exact (Try.near1_nil_in F m h7 hro l Bg Bv a cap J W hBg' h0).mono fun e W' ⟨he, hj⟩ => ⟨he, .inl ⟨_, rfl, hj⟩⟩
  · refine (Try.near1_in F m h7 hro hm l Bg Bv cap S ab ao v n E hR.2.2.2.1 hR.2.2.1 hb hBg0 hBv0 J Jx hY W hJ (fun k h => Nat.lt_of_lt_of_le (hS k h) hW.size) hBg' hBv' hcs h0).mono ?_
    rintro e W' ⟨he, ⟨k, hk, hk2, hj⟩ | ⟨pre, ⟨k, hk, rfl⟩, hj⟩⟩
    · refine ⟨he, .inl ⟨_, rfl, ?_⟩⟩
      rw [← Try.near_rest hR.2.2.2.1 hR.2.2.2.2 hk2]; exact hj
    · refine ⟨he, .inr ⟨_, ?_, hj⟩⟩
      exact ⟨Go.Sh.nearL (E.drop k) v, by unfold Go.Sh.nearL; rw [← List.flatMap_append, List.take_append_drop]⟩
/-- what is appended to a box's row keeps the other blocks below the row's -/
theorem Try.kp_append {W w1 : World} {n₀ B T : Nat} {S : Nat → Prop} {t e : TypeId} {size : Nat} {v v' : Value} {k : Nat} {xs : List Value} {tmp : Obj} (hv : Boxed W B t v) (ht : t ≠ T) (he : e ≠ T) (hrow : W.ownsRow n₀ e size v k xs) (hgrow : (W.alloc tmp).grownBy w1 v.ownBlock) (hS : ∀ k, S k → k < n₀ ∧ k ≠ B ∧ k < W.heap.size) : Try.Kp S T W (w1.setCell ⟨B, 0, none⟩ v') := by
  have hsz : W.heap.size ≤ (w1.setCell ⟨B, 0, none⟩ v').heap.size := by
    have h1 := hgrow.size
    have h2 : (w1.setCell ⟨B, 0, none⟩ v').heap.size = w1.heap.size := by simp [World.setCell]
    rw [h2]; simp at h1; omega
  refine ⟨⟨hsz, fun b hb => ?_⟩, fun b c fr hk => ?_⟩
  · obtain ⟨h1, h2, h3⟩ := hS b hb
    rw [Below.heap_setCell _ _ _ _ h2]
    refine (hgrow.block b (by simp; omega) ?_).trans (Below.heap_alloc _ _ _ h3)
    rcases hrow.2 with ⟨rfl, _⟩ | ⟨g, cap, cur, rfl, hg, hgb, _⟩
    · simp [Value.ownBlock]
    · intro h
      obtain rfl : b = g := by simpa [Value.ownBlock] using h
      omega
  · have hlt := (Array.getElem?_eq_some_iff.1 hk).1
    have h1 : b ≠ B := fun h => by
      subst h
      have hv : W.heap[b]? = some (.cells #[v] t (0, 0)) := hv
      rw [hv] at hk
      injection hk with hk; injection hk with _ hk; exact ht hk
    rw [Below.heap_setCell _ _ _ _ h1]
    refine (hgrow.block b (by simp; omega) ?_).trans ((Below.heap_alloc _ _ _ hlt).trans hk)
    rcases hrow.2 with ⟨rfl, _⟩ | ⟨g, cap, cur, rfl, _, hgb, _⟩
    · simp [Value.ownBlock]
    · intro h
      obtain rfl : b = g := by simpa [Value.ownBlock] using h
      rw [hgb] at hk
      injection hk with hk; injection hk with _ hk; exact he hk
end Go.Proofs
