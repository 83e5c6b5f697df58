/- What the functions answer that the statement reaches. No condition. -/
import Derived.Test.YtcihmgopaadpfaaFn1
import Derived.RangeFuncBox
import Derived.RangeFuncLeaves
import Derived.Shelf.Abstract
import Derived.WalkKit
import Derived.OwnWalkIn
import Derived.TacticsInMore
import Derived.LoopNIn
import Derived.LoopIn
import Derived.Maps.AppendAt
import Derived.Test.YtcihmgopaadpfaaProg
import Derived.Shelf.Sort.Plain
import Derived.Shelf.Slices.In.SortNone
import Derived.Shelf.Slices.CompactI
import Derived.Ground.NamesProg
import Derived.Ground.Names2Prog
import Derived.Sort.OwnSorted
import Derived.Shelf.SlIterI.Sorted
set_option linter.unusedVariables false
set_option linter.unusedSimpArgs false
namespace Go.Sh
open Go.Proofs
/-! ### reduce.Run -/
open Classical in
noncomputable def runO (n : Int) (E : List Ed) : List Stp × List Int × List Ed := if RightP n E then ((runR n E).1, leftF (runR n E).2.2, edgesF (runR n E).2.1 (runR n E).2.2) else ([], [], [])
noncomputable def RunC : Con := conP 2 (fun _ : Int × List Ed => True) (fun a => [grV a.1 a.2]) (fun a => logV true (runO a.1 a.2).1 (runO a.1 a.2).2.1 (runO a.1 a.2).2.2)
theorem RunC_at (n : Int) (E : List Ed) : RunC.F [grV n E] = some (logV true (runO n E).1 (runO n E).2.1 (runO n E).2.2, []) :=
  conP_at (a := (n, E)) (fun x y _ _ h => by
    obtain ⟨n, E⟩ := x
    obtain ⟨n', E'⟩ := y
    simp at h
    obtain ⟨rfl, rfl⟩ := grV_inj h
    rfl) trivial
noncomputable def XRun : Cx := { Γ := [(39, RightC), (70, BeginC), (71, MayC), (74, StepC), (98, turnC (fun l _ => l.Pairwise (· ≤ ·) ∧ l.length ≤ 1000000) (fun l x => l.erase x)), (99, turnC (fun l _ => l.Pairwise (· ≤ ·) ∧ l.length ≤ 1000000) insAt)], T := T, nt := 66, inl := [(72, inlF Try.f72), (73, inlF Try.f73), (75, inlF Try.f75), (76, inlF Try.f76)], join := [82000, 56000], jc := [82050, 70031, 66059, 66024] }
theorem XRun_sound : Sound Try.prog T XRun.Γ := sound_cons RightG_ok (sound_cons Begin_ok (sound_cons May_ok (sound_cons Step_ok (sound_cons (turn_sound Without_call) (sound_cons (turn_sound With_call) sound_nil)))))
theorem XRun_ok : CrOk Try.prog (callAt 1 XRun) := callAt_ok hmix hT XRun_sound (inl_cons Try.func72 (by rfl) (by rfl) (by rfl) (inl_cons Try.func73 (by rfl) (by rfl) (by rfl) (inl_cons Try.func75 (by rfl) (by rfl) (by rfl) (inl_cons Try.func76 (by rfl) (by rfl) (by rfl) inl_nil)))) cr_none 1
theorem may_range {N : List (List Int)} {G : List Bool} {n x : Int} (h : N.length = n.toNat) (k : mayB N G x = true) : 0 ≤ x ∧ x < n := by
  have h1 := (mayB_iff.1 k).lo
  have h2 := (mayB_iff.1 k).hi
  omega
theorem skip_may {i : Nat} {x a b v : Int} {P : Prop} (hx : (i = 0 ∧ x = a) ∨ (i = 1 ∧ x = b)) (hne : v ≠ x) (k : P ∨ (i ≤ 0 ∧ v = a) ∨ (i ≤ 1 ∧ v = b)) : P ∨ (i + 1 ≤ 0 ∧ v = a) ∨ (i + 1 ≤ 1 ∧ v = b) := by
  rcases k with k | ⟨k1, k2⟩ | ⟨k1, k2⟩
  · exact .inl k
  · rcases hx with ⟨_, e⟩ | ⟨e0, _⟩
    · exact absurd (by rw [k2, e]) hne
    · omega
  · rcases hx with ⟨e0, _⟩ | ⟨_, e⟩
    · exact .inr (.inr ⟨by omega, k2⟩)
    · exact absurd (by rw [k2, e]) hne
theorem put_may {i : Nat} {x a b v : Int} {P Q : Prop} (hx : (i = 0 ∧ x = a) ∨ (i = 1 ∧ x = b)) (h : P ∨ v = x → Q) (k : P ∨ (i ≤ 0 ∧ v = a) ∨ (i ≤ 1 ∧ v = b)) : Q ∨ (i + 1 ≤ 0 ∧ v = a) ∨ (i + 1 ≤ 1 ∧ v = b) := by
  rcases k with k | ⟨k1, k2⟩ | ⟨k1, k2⟩
  · exact .inl (h (.inl k))
  · rcases hx with ⟨_, e⟩ | ⟨e0, _⟩
    · exact .inl (h (.inr (by rw [k2, e])))
    · omega
  · rcases hx with ⟨e0, _⟩ | ⟨_, e⟩
    · exact .inr (.inr ⟨by omega, k2⟩)
    · exact .inl (h (.inr (by rw [k2, e])))
set_option maxHeartbeats 4000000 in
theorem Run_ok : SoundC Try.prog T 40 RunC := by
  refine sound_con (X := XRun) (cr := callAt 1 XRun) XRun_ok hmix hT XRun_sound Try.func40 (by rfl) (by rfl) (by rfl) (by rfl) 2 ?_
  rintro ⟨n, E⟩ -
  dsimp only
  refine ⟨⟨Nat.le_of_ble_eq_true rfl, Nat.le_of_ble_eq_true rfl⟩, ?_⟩
  refine Call.by _ _ (RightC_at n E) ?_
  refine Pick.by (fun h1 => ?_) (fun h1 => ?_)
  · have h1 : ¬ RightP n E := by have h1 : (!decide (RightP n E)) = true := h1; simpa using h1
    have hv : runO n E = ([], [], []) := if_neg h1
    rw [hv]
    refine ⟨rfl, ?_⟩
    (repeat' first | exact rfl | exact trivial | refine And.intro ?_ ?_)
  have hR : RightP n E := by have h1 : (!decide (RightP n E)) = false := h1; simpa using h1
  have hv : runO n E = ((runR n E).1, leftF (runR n E).2.2, edgesF (runR n E).2.1 (runR n E).2.2) := if_pos hR
  rw [hv]
  refine Call.by _ _ (BeginC_at hR) ?_
  have hn0 := hR.1
  have hn1 := hR.2.1
  have hW := begin_wf hR
  have hNl := nbrs_length n.toNat E
  have hGl : (List.replicate n.toNat false).length = (nbrs n.toNat E).length := by rw [hNl]; simp
  refine LoopP.intro (α := Nat × List Int) (fun a => a.1 ≤ n.toNat ∧ a.2.length ≤ a.1 ∧ Heap a.2 ∧ (∀ v ∈ a.2, 0 ≤ v ∧ v < n) ∧ ∀ v : Int, v < a.1 → mayB (nbrs n.toNat E) (List.replicate n.toNat false) v = true → v ∈ a.2) (fun a => n.toNat - a.1) (fun a => [(2, .ptr 0 0), (3, .ptr 1 0), (4, .ptr 4 0), (18, .s (.i .i64 n)), (19, .s (.i .i64 a.1))])
    (fun a => [(0, some (.blk [.nils, .nils, .nils])), (1, some (.blk [.sl 2 none none, .sl 3 none none])), (2, some (.nest true 1 (rowsI (nbrs n.toNat E)) [] [])), (3, some (.flat true 1 (bools (List.replicate n.toNat false)))), (4, some (.blk [.sl 5 none none])), (5, some (.flat true 1 (ints a.2)))]) 6 (0, []) ⟨by omega, by simp, heap_nil, by simp, fun v h1 h2 => by rw [mayB_iff] at h2; have := h2.lo; omega⟩ (by refine Weak.by [(0, some _), (1, some _), (2, some _), (3, some _), (4, some _), (5, none)] (by ((repeat' first | exact rfl | exact trivial | refine And.intro ?_ ?_) <;> (repeat' first | exact rfl | exact trivial | refine And.intro ?_ ?_))) (by ((repeat' first | exact rfl | exact trivial | refine And.intro ?_ ?_) <;> (repeat' first | exact rfl | exact trivial | refine And.intro ?_ ?_))) (by rfl)) ?_
  rintro ⟨i, l⟩ ⟨hi, hl, hH, hr, hm⟩
  dsimp only at hi hl hH hr hm ⊢
  refine Pick.by (fun hc => ?_) (fun hc => ?_)
  · have hlt : i < n.toNat := by simp at hc; omega
    refine Call.by _ _ (MayC_at (i : Int) hGl) ?_
    refine JoinP.intro (α := List Int) (fun l => l.length ≤ i + 1 ∧ Heap l ∧ (∀ v ∈ l, 0 ≤ v ∧ v < n) ∧ ∀ v : Int, v < (i + 1 : Nat) → mayB (nbrs n.toNat E) (List.replicate n.toNat false) v = true → v ∈ l) (fun l => [(2, .ptr 0 0), (3, .ptr 1 0), (4, .ptr 4 0), (18, .s (.i .i64 n)), (19, .s (.i .i64 i))])
      (fun l => [(0, some (.blk [.nils, .nils, .nils])), (1, some (.blk [.sl 2 none none, .sl 3 none none])), (2, some (.nest true 1 (rowsI (nbrs n.toNat E)) [] [])), (3, some (.flat true 1 (bools (List.replicate n.toNat false)))), (4, some (.blk [.sl 5 none none])), (5, some (.flat true 1 (ints l)))]) 6 ?_ ?_
    rotate_left
    · rintro l' ⟨a1, a2, a3, a4⟩
      refine Pick.T (inI64_of (by omega) (by omega)) ?_
      exact Next.by (i + 1, l') ⟨by dsimp only; omega, a1, a2, a3, a4⟩ (by dsimp only; omega) (by refine Weak.by [(0, some _), (1, some _), (2, some _), (3, some _), (4, some _), (5, some _)] (by ((repeat' first | exact rfl | exact trivial | refine And.intro ?_ ?_) <;> (repeat' first | exact rfl | exact trivial | refine And.intro ?_ ?_))) (by ((repeat' first | exact rfl | exact trivial | refine And.intro ?_ ?_) <;> (repeat' first | exact rfl | exact trivial | refine And.intro ?_ ?_))) (by rfl))
    refine Pick.by (fun h2 => ?_) (fun h2 => ?_)
    · refine Pick.T (by simp [cut, ints_length]; omega) ?_
      have hraw : ints l = ints l := rfl
      have hlen0 : (ints l ++ [[Sc.i .i64 ((i : Nat) : Int)]]) = ints (l ++ [((i : Nat) : Int)]) := by rw [hraw, ints_snoc]
      refine Pick.T (by show inI64 ((((ints l ++ [[Sc.i .i64 ((i : Nat) : Int)]]).length : Nat) : Int) - 1) = true; rw [hlen0, ints_length]; simp; exact inI64_of (by omega) (by omega)) ?_
      have hlen1 : ((l.length : Nat) : Int) = (((ints l ++ [[Sc.i .i64 ((i : Nat) : Int)]]).length : Nat) : Int) - 1 := by rw [hlen0, ints_length]; simp
      refine JoinP.intro (α := List Int) (fun a => Heap a ∧ a.length = l.length + 1 ∧ ∀ v, v ∈ a ↔ v ∈ l ∨ v = ((i : Nat) : Int)) (fun a => [(0, .ptr 4 0), (4, .sl 6 none none), (1000002, .ptr 0 0), (1000003, .ptr 1 0), (1000004, .ptr 4 0), (1000018, .s (.i .i64 n)), (1000019, .s (.i .i64 i))])
        (fun a => [(0, some (.blk [.nils, .nils, .nils])), (1, some (.blk [.sl 2 none none, .sl 3 none none])), (2, some (.nest true 1 (rowsI (nbrs n.toNat E)) [] [])), (3, some (.flat true 1 (bools (List.replicate n.toNat false)))), (4, some (.blk [.sl 5 none none])), (6, some (.flat true 1 (ints a)))]) 7 ?_ ?_
      rotate_left
      · rintro m ⟨hHm, hml2, hmem⟩
        exact ⟨m, ⟨by omega, hHm, fun v hv => ((hmem v).1 hv).elim (hr v) fun e => by rw [e]; omega, fun v hv hmv => (hmem v).2 (if hvi : v < i then .inl (hm v hvi hmv) else .inr (by omega))⟩, by refine Weak.by [(0, some _), (1, some _), (2, some _), (3, some _), (4, some _), (5, some _)] (by ((repeat' first | exact rfl | exact trivial | refine And.intro ?_ ?_) <;> (repeat' first | exact rfl | exact trivial | refine And.intro ?_ ?_))) (by ((repeat' first | exact rfl | exact trivial | refine And.intro ?_ ?_) <;> (repeat' first | exact rfl | exact trivial | refine And.intro ?_ ?_))) (by rfl)⟩
      refine LoopP.intro (α := Nat × List Int) (fun a => a.2.Perm (l ++ [((i : Nat) : Int)]) ∧ HUp a.2 a.1 ∧ a.1 < a.2.length) (fun a => a.1) (fun a => [(0, .ptr 4 0), (4, .sl 6 none none), (5, .s (.i .i64 a.1)), (1000002, .ptr 0 0), (1000003, .ptr 1 0), (1000004, .ptr 4 0), (1000018, .s (.i .i64 n)), (1000019, .s (.i .i64 i))])
        (fun a => [(0, some (.blk [.nils, .nils, .nils])), (1, some (.blk [.sl 2 none none, .sl 3 none none])), (2, some (.nest true 1 (rowsI (nbrs n.toNat E)) [] [])), (3, some (.flat true 1 (bools (List.replicate n.toNat false)))), (4, some (.blk [.sl 5 none none])), (6, some (.flat true 1 (ints a.2)))]) 7 (l.length, l ++ [((i : Nat) : Int)]) ⟨List.Perm.refl _, up_start hH _, by simp⟩ (by refine Weak.by [(0, some _), (1, some _), (2, some _), (3, some _), (4, some _), (5, some _), (6, some _)] (by ((repeat' first | exact rfl | exact trivial | refine And.intro ?_ ?_) <;> (repeat' first | exact rfl | exact trivial | refine And.intro ?_ ?_)); all_goals ((first | (exact hlen0.symm) | (exact sc_eq hlen1)))) (by ((repeat' first | exact rfl | exact trivial | refine And.intro ?_ ?_) <;> (repeat' first | exact rfl | exact trivial | refine And.intro ?_ ?_)); all_goals ((first | (exact hlen0.symm) | (exact sc_eq hlen1)))) (by rfl)) ?_
      rintro ⟨p, m⟩ ⟨hperm, hup, hpm⟩
      dsimp only at hperm hup hpm ⊢
      have hml : m.length = l.length + 1 := by rw [hperm.length_eq]; simp
      have hpq : 0 < p → ((p : Int) - 1).tdiv 2 = (((p - 1) / 2 : Nat) : Int) := fun h => by rw [show (p : Int) - 1 = ((p - 1 : Nat) : Int) by omega]; rfl
      have hput : Heap m → Heap m ∧ m.length = l.length + 1 ∧ ∀ v, v ∈ m ↔ v ∈ l ∨ v = ((i : Nat) : Int) := fun h => ⟨h, hml, fun v => by rw [hperm.mem_iff]; simp⟩
      refine Pick.by (fun hc1 => ?_) (fun hc1 => ?_)
      · have hp0 : 0 < p := by simp at hc1; omega
        have hq := hpq hp0
        have hql : (p - 1) / 2 < m.length := by omega
        obtain ⟨y, hy⟩ : ∃ y, m[p]? = some y := ⟨_, List.getElem?_eq_getElem hpm⟩
        obtain ⟨z, hz⟩ : ∃ z, m[(p - 1) / 2]? = some z := ⟨_, List.getElem?_eq_getElem hql⟩
        refine Idx.by p rfl (by rw [ints_length]; exact hpm) ?_
        refine Look.by _ (ints_get hy) ?_
        refine Pick.T (inI64_of (by omega) (by omega)) ?_
        refine Pick.T (inI64_of (by omega) (by omega)) ?_
        refine Idx.by ((p - 1) / 2) hq (by rw [ints_length]; exact hql) ?_
        refine Look.by _ (ints_get hz) ?_
        refine Seg.by (by kernel_rfl) ?_
        refine Pick.by (fun hc2 => ?_) (fun hc2 => ?_)
        · have hlt : y < z := by simpa using hc2
          have hsw : ints ((m.set p z).set ((p - 1) / 2) y) = ((ints m).set p [.i .i64 z]).set ((p - 1) / 2) [.i .i64 y] := by rw [ints_set, ints_set]
          refine Pick.T (inI64_of (by omega) (by omega)) ?_
          refine Pick.T (inI64_of (by omega) (by omega)) ?_
          refine Pick.T (inI64_of (by omega) (by omega)) ?_
          refine Pick.T (inI64_of (by omega) (by omega)) ?_
          refine Idx.by ((p - 1) / 2) hq (by rw [ints_length]; exact hql) ?_
          refine Look.by _ (ints_get hz) ?_
          refine Idx.by p rfl (by rw [ints_length]; exact hpm) ?_
          refine Look.by _ (ints_get hy) ?_
          refine Idx.by p rfl (by rw [ints_length]; exact hpm) ?_
          refine Look.by _ (ints_get hy) ?_
          refine Idx.by ((p - 1) / 2) hq (by rw [List.length_set, ints_length]; exact hql) ?_
          refine Look.by _ (by rw [List.getElem?_set_ne (by omega)]; exact ints_get hz) ?_
          refine Seg.by (by kernel_rfl) ?_
          refine Pick.T (inI64_of (by omega) (by omega)) ?_
          refine Pick.T (inI64_of (by omega) (by omega)) ?_
          refine Next.by ((p - 1) / 2, (m.set p z).set ((p - 1) / 2) y) ⟨(swap_perm hy hz (by omega)).trans hperm, up_step hup hp0 hz hy hlt, by rw [List.length_set, List.length_set]; exact hql⟩ (by dsimp only; omega) (by refine Weak.by [(0, some _), (1, some _), (2, some _), (3, some _), (4, some _), (5, some _), (6, some _)] (by ((repeat' first | exact rfl | exact trivial | refine And.intro ?_ ?_) <;> (repeat' first | exact rfl | exact trivial | refine And.intro ?_ ?_)); all_goals ((first | (exact hsw) | (exact sc_eq hq.symm)))) (by ((repeat' first | exact rfl | exact trivial | refine And.intro ?_ ?_) <;> (repeat' first | exact rfl | exact trivial | refine And.intro ?_ ?_)); all_goals ((first | (exact hsw) | (exact sc_eq hq.symm)))) (by rfl))
        · have hHm := hput (up_done hup (.inr fun x' y' hx' hy' => by
            rw [hz] at hx'; rw [hy] at hy'
            injection hx' with hx'; injection hy' with hy'
            have : ¬ y < z := by simpa using hc2
            omega))
          exact ⟨m, hHm, by refine Weak.by [(0, some _), (1, some _), (2, some _), (3, some _), (4, some _), (5, some _), (6, some _)] (by ((repeat' first | exact rfl | exact trivial | refine And.intro ?_ ?_) <;> (repeat' first | exact rfl | exact trivial | refine And.intro ?_ ?_))) (by ((repeat' first | exact rfl | exact trivial | refine And.intro ?_ ?_) <;> (repeat' first | exact rfl | exact trivial | refine And.intro ?_ ?_))) (by rfl)⟩
      · have hp0 : p = 0 := by simp at hc1; omega
        refine Seg.by (by kernel_rfl) ?_
        exact ⟨m, hput (up_done hup (.inl hp0)), by refine Weak.by [(0, some _), (1, some _), (2, some _), (3, some _), (4, some _), (5, some _), (6, some _)] (by ((repeat' first | exact rfl | exact trivial | refine And.intro ?_ ?_) <;> (repeat' first | exact rfl | exact trivial | refine And.intro ?_ ?_))) (by ((repeat' first | exact rfl | exact trivial | refine And.intro ?_ ?_) <;> (repeat' first | exact rfl | exact trivial | refine And.intro ?_ ?_))) (by rfl)⟩
    · have h2 : mayB (nbrs n.toNat E) (List.replicate n.toNat false) i = false := h2
      refine ⟨l, ⟨by omega, hH, hr, fun v hv hmv => ?_⟩, by refine Weak.by [(0, some _), (1, some _), (2, some _), (3, some _), (4, some _), (5, some _)] (by ((repeat' first | exact rfl | exact trivial | refine And.intro ?_ ?_) <;> (repeat' first | exact rfl | exact trivial | refine And.intro ?_ ?_))) (by ((repeat' first | exact rfl | exact trivial | refine And.intro ?_ ?_) <;> (repeat' first | exact rfl | exact trivial | refine And.intro ?_ ?_))) (by rfl)⟩
      by_cases hvi : v < i
      · exact hm v hvi hmv
      · have : v = i := by omega
        rw [this, h2] at hmv; cases hmv
  · have hin : i = n.toNat := by simp at hc; omega
    have hm : ∀ v : Int, mayB (nbrs n.toNat E) (List.replicate n.toNat false) v = true → v ∈ l := fun v hv => hm v (by have := (mayB_iff.1 hv).hi; rw [hNl] at this; omega) hv
    have hl0 : l.length ≤ n.toNat := by omega
    have hrun : runR n E = ([] ++ (runS n.toNat (nbrs n.toNat E) (List.replicate n.toNat false)).1, (runS n.toNat (nbrs n.toNat E) (List.replicate n.toNat false)).2) := rfl
    generalize hNN : nbrs n.toNat E = N at *
    generalize hGG : List.replicate n.toNat false = G at *
    refine LoopP.intro (α := List Stp × List (List Int) × List Bool × Option (Nat × Nat) × List Int) (fun a => Wf a.2.1 a.2.2.1 ∧ a.2.1.length = n.toNat ∧ runR n E = (a.1 ++ (runS (n.toNat - a.1.length) a.2.1 a.2.2.1).1, (runS (n.toNat - a.1.length) a.2.1 a.2.2.1).2) ∧ a.1.length + a.2.2.1.countP (!·) ≤ n.toNat ∧ (a.2.2.2.1 = none ∨ ∃ L, a.2.2.2.1 = some (0, L) ∧ L ≤ a.2.2.2.2.length) ∧
        a.2.2.2.2.length ≤ 4000 ∧ (cut a.2.2.2.1 a.2.2.2.2).length ≤ n.toNat + 2 * a.1.length ∧ Heap (cut a.2.2.2.1 a.2.2.2.2) ∧ (∀ v ∈ cut a.2.2.2.1 a.2.2.2.2, 0 ≤ v ∧ v < n) ∧ ∀ v : Int, mayB a.2.1 a.2.2.1 v = true → v ∈ cut a.2.2.2.1 a.2.2.2.2)
      (fun a => 3 * (n.toNat - a.1.length) + (cut a.2.2.2.1 a.2.2.2.2).length) (fun a => [(2, .ptr 0 0), (3, .ptr 1 0), (4, .ptr 4 0), (6, .sl 6 none none)])
      (fun a => [(0, some (.blk [.nils, .nils, .nils])), (1, some (.blk [.sl 2 none none, .sl 3 none none])), (2, some (.nest true 1 (rowsI a.2.1) [] [])), (3, some (.flat true 1 (bools a.2.2.1))), (4, some (.blk [.sl 5 none a.2.2.2.1])), (5, some (.flat true 1 (ints a.2.2.2.2))), (6, some (.flat true 4 (stps a.1)))]) 7 ([], N, G, none, l)
      ⟨hW, hNl, by simpa using hrun, by rw [← hGG]; simp [List.countP_replicate], .inl rfl, by show l.length ≤ _; omega, by show l.length ≤ _; omega, hH, hr, hm⟩ (by refine Weak.by [(0, some _), (1, some _), (2, some _), (3, some _), (4, some _), (5, some _), (6, none)] (by ((repeat' first | exact rfl | exact trivial | refine And.intro ?_ ?_) <;> (repeat' first | exact rfl | exact trivial | refine And.intro ?_ ?_))) (by ((repeat' first | exact rfl | exact trivial | refine And.intro ?_ ?_) <;> (repeat' first | exact rfl | exact trivial | refine And.intro ?_ ?_))) (by rfl)) ?_
    clear hrun hl0 hH hr hm hW hNl hGl hl hi hc
    rintro ⟨st, N, G, sub, m⟩ ⟨hW, hNl, hrun, hlive, hsub, hm4, hl0, hH, hr, hm⟩
    dsimp only at hW hNl hrun hlive hsub hm4 hl0 hH hr hm ⊢
    rcases hsub with rfl | ⟨L, rfl, hL⟩
    · generalize hlm : cut none m = l at *
      have hlm : m = l := hlm
      refine Pick.by (fun hc => ?_) (fun hc => ?_)
      · have hpos : 0 < l.length := by rw [ints_length, hlm] at hc; simpa using hc
        obtain ⟨out, hout⟩ : ∃ a, l[0]? = some a := ⟨_, List.getElem?_eq_getElem hpos⟩
        obtain ⟨last, hlst⟩ : ∃ k, l.length = k + 1 := ⟨l.length - 1, by omega⟩
        obtain ⟨top, htop⟩ : ∃ a, l[last]? = some a := ⟨_, List.getElem?_eq_getElem (by omega)⟩
        have hlast : (((ints m).length : Nat) : Int) - 1 = (last : Int) := by rw [ints_length, hlm]; omega
        have hsift : Sift l out last (m.set 0 top) 0 := ⟨by rw [List.length_set, hlm]; omega, by rw [hlm]; exact take_perm hout htop hlst, by rw [hlm]; exact dn_start hH _⟩
        have hil : (ints m).length = last + 1 := by rw [ints_length, hlm]; exact hlst
        refine Idx.by 0 rfl (by omega) ?_
        refine Look.by _ (by rw [hlm]; exact ints_get hout) ?_
        refine Pick.T (by rw [hlast]; exact inI64_of (by omega) (by omega)) ?_
        refine Idx.by last hlast (by omega) ?_
        refine Look.by _ (by rw [hlm]; exact ints_get htop) ?_
        refine Idx.by 0 rfl (by omega) ?_
        refine Look.by _ (by rw [hlm]; exact ints_get hout) ?_
        refine Rng.by 0 last rfl hlast (by omega) (by rw [List.length_set]; omega) ?_
        refine JoinP.intro (α := List Int) (fun c => c.length = m.length ∧ last ≤ c.length ∧ (out :: c.take last).Perm l ∧ Heap (c.take last)) (fun c => [(0, .ptr 4 0), (3, .sl 5 none (some (0, last))), (4, .s (.i .i64 out)), (1000002, .ptr 0 0), (1000003, .ptr 1 0), (1000004, .ptr 4 0), (1000006, .sl 6 none none)])
          (fun c => [(0, some (.blk [.nils, .nils, .nils])), (1, some (.blk [.sl 2 none none, .sl 3 none none])), (2, some (.nest true 1 (rowsI N) [] [])), (3, some (.flat true 1 (bools G))), (4, some (.blk [.sl 5 none none])), (5, some (.flat true 1 (ints c))), (6, some (.flat true 4 (stps st)))]) 7 ?_ ?_
        rotate_left
        · rintro c ⟨hcm, hlc, hperm, hHc⟩
          have hGN := hW.len
          have hq0 : ∀ v, v ∈ c.take last → v ∈ l := fun v hv => hperm.mem_iff.1 (List.mem_cons_of_mem _ hv)
          have hq1 : ∀ v, v ∈ l → v = out ∨ v ∈ c.take last := fun v hv => by simpa using hperm.mem_iff.2 hv
          have hqr : ∀ v ∈ c.take last, 0 ≤ v ∧ v < n := fun v hv => hr v (hq0 v hv)
          have hqc : cut (some (0, last)) c = c.take last := rfl
          have hqlen : (c.take last).length = last := by rw [List.length_take]; omega
          have hor := hr out (List.mem_of_getElem? hout)
          refine Call.by _ _ (MayC_at out hGN) ?_
          refine Pick.by (fun hmy => ?_) (fun hmy => ?_)
          · have hmy : mayB N G out = false := by have hmy : (!mayB N G out) = true := hmy; simpa using hmy
            refine Next.by (st, N, G, some (0, last), c) ⟨hW, hNl, hrun, hlive, .inr ⟨last, rfl, hlc⟩, by dsimp only; omega, by dsimp only; rw [hqc]; omega, hHc, hqr, fun v hv => ?_⟩ (by dsimp only; rw [hqc]; omega) (by refine Weak.by [(0, some _), (1, some _), (2, some _), (3, some _), (4, some _), (5, some _), (6, some _)] (by ((repeat' first | exact rfl | exact trivial | refine And.intro ?_ ?_) <;> (repeat' first | exact rfl | exact trivial | refine And.intro ?_ ?_))) (by ((repeat' first | exact rfl | exact trivial | refine And.intro ?_ ?_) <;> (repeat' first | exact rfl | exact trivial | refine And.intro ?_ ?_))) (by rfl))
            rcases hq1 v (hm v hv) with e | e
            · rw [e, hmy] at hv; cases hv
            · exact e
          have hmy : mayB N G out = true := by have hmy : (!mayB N G out) = false := hmy; simpa using hmy
          have hmp := mayB_iff.1 hmy
          obtain ⟨hs1, hs2⟩ := step_two hW hmp rfl
          refine Call.by _ _ (StepC_at ⟨hW, hmp.lo, hmp.hi⟩) ?_
          have hlo := hmp.lo
          have hhi := hmp.hi
          have hrv := hW.rows out
          have hnd : (rowAt N out).Nodup := hrv.1.imp fun hab => by omega
          have hNL := rowsI_length N
          have hmo := hW.most
          have hrl := hW.row_len out
          have hgv : (rowsI N)[(out).toNat]? = some (ints (rowAt N out)) := rowsI_get (rowAt_mem hlo hhi).2
          have hvv : out ∉ rowAt N out := hW.irr out hlo
          have hpart : ∀ (di : Nat) (u : Int), 0 ≤ u → rowAt (((rowAt N out).take di).foldl (cutF out) N) u = if u ∈ (rowAt N out).take di then (rowAt N u).erase out else rowAt N u := fun di u hu => cuts_row (hnd.sublist (List.take_sublist _ _)) (fun x hx => hrv.2 x (List.mem_of_mem_take hx)) hu
          have hplen : ∀ di : Nat, (rowsI (((rowAt N out).take di).foldl (cutF out) N)).length = N.length := fun di => by rw [rowsI_length, cuts_length]
          have hpget : ∀ (di : Nat) (u : Int), 0 ≤ u → u < N.length → (rowsI (((rowAt N out).take di).foldl (cutF out) N))[u.toNat]? = some (ints (rowAt (((rowAt N out).take di).foldl (cutF out) N) u)) := fun di u h0 h1 => rowsI_get (rowAt_mem h0 (by rw [cuts_length]; exact h1)).2
          refine Idx.by (out).toNat (by show (out : Int) = _; omega) (by omega) ?_
          refine Pick.T (by rw [hNL]; simp; omega) ?_
          refine Look.by _ hgv ?_
          refine LoopP.intro (α := Nat) (fun di => di ≤ (rowAt N out).length) (fun di => (rowAt N out).length - di) (fun di => [(2, .ptr 8 0), (3, .ptr 9 0), (11, .sl 2 (some ((out).toNat, 0)) none), (12, .s (.i .i64 (rowAt N out).length)), (13, .s (.i .i64 di)), (1000002, .ptr 0 0), (1000003, .ptr 1 0), (1000004, .ptr 4 0), (1000006, .sl 6 none none), (1000008, .ptr 7 0)])
            (fun di => [(0, some (.blk [.nils, .nils, .nils])), (1, some (.blk [.sl 2 none none, .sl 3 none none])), (4, some (.blk [.sl 5 none (some (0, last))])), (5, some (.flat true 1 (ints c))), (6, some (.flat true 4 (stps st))), (7, some (.blk [.s (.i .i64 (stepF N out).1), .s (.i .i64 (stepF N out).2.1), .s (.i .i64 (stepF N out).2.2.1), .s (.b (stepF N out).2.2.2)])), (2, some (.nest true 1 (rowsI (((rowAt N out).take di).foldl (cutF out) N)) [] [])), (3, some (.flat true 1 (bools G))), (8, some (.blk [.sl 2 none none, .sl 3 none none])), (9, some (.blk [.s (.i .i64 (stepF N out).1), .s (.i .i64 (stepF N out).2.1), .s (.i .i64 (stepF N out).2.2.1), .s (.b (stepF N out).2.2.2)]))]) 10 0 (by omega) (by refine Weak.by [(0, some _), (1, some _), (2, some _), (3, some _), (4, some _), (5, some _), (6, some _), (7, some _), (8, some _), (9, some _)] (by ((repeat' first | exact rfl | exact trivial | refine And.intro ?_ ?_) <;> (repeat' first | exact rfl | exact trivial | refine And.intro ?_ ?_)); all_goals ((first | (rw [ints_length]; rfl) | (simp; done)))) (by ((repeat' first | exact rfl | exact trivial | refine And.intro ?_ ?_) <;> (repeat' first | exact rfl | exact trivial | refine And.intro ?_ ?_)); all_goals ((first | (rw [ints_length]; rfl) | (simp; done)))) (by rfl)) ?_
          rintro di hi
          refine Pick.by (fun hc1 => ?_) (fun hc1 => ?_)
          · have hil : di < (rowAt N out).length := by simpa using hc1
            obtain ⟨x, hx⟩ : ∃ x, (rowAt N out)[di]? = some x := ⟨_, List.getElem?_eq_getElem hil⟩
            have hxm := List.mem_of_getElem? hx
            have hxr := hrv.2 x hxm
            have hxv : x ≠ out := fun e => hvv (e ▸ hxm)
            have hgi : (rowsI (((rowAt N out).take di).foldl (cutF out) N))[(out).toNat]? = some (ints (rowAt N out)) := by
              rw [hpget di out hlo hhi, hpart di out hlo, if_neg fun h => hvv (List.mem_of_mem_take h)]
            have hrx := hpget di x hxr.1 hxr.2
            have hstp : ((rowAt N out).take (di + 1)).foldl (cutF out) N = cutF out (((rowAt N out).take di).foldl (cutF out) N) x := by
              rw [List.take_succ_eq_append_getElem hil, List.foldl_append]
              have : (rowAt N out)[di] = x := by rw [List.getElem?_eq_getElem hil] at hx; injection hx
              rw [this]; rfl
            have hwx : (rowAt (((rowAt N out).take di).foldl (cutF out) N) x).Pairwise (· ≤ ·) ∧ (rowAt (((rowAt N out).take di).foldl (cutF out) N) x).length ≤ 1000000 := by
              have h1 := hW.rows x
              have h2 := hW.row_len x
              rw [hpart di x hxr.1]
              split
              · have h3 := List.length_erase_le (l := rowAt N x) (a := out)
                exact ⟨(erase_sorted h1.1).imp fun h => by omega, by omega⟩
              · exact ⟨h1.1.imp fun h => by omega, by omega⟩
            have hpl := hplen di
            refine Look.by _ hgi ?_
            refine Idx.by di rfl (by rw [ints_length]; exact hil) ?_
            refine Look.by _ hgi ?_
            refine Look.by _ (ints_get hx) ?_
            refine Idx.by x.toNat (by omega) (by omega) ?_
            refine Pick.T (by rw [hpl]; simp; omega) ?_
            refine Look.by _ hrx ?_
            refine Call.by _ _ (turnC_at hwx) ?_
            refine Idx.by x.toNat (by omega) (by omega) ?_
            refine Pick.T (by rw [hpl]; simp; omega) ?_
            refine Pick.T (by simp) ?_
            refine Seg.by (by kernel_rfl) ?_
            refine Pick.T (inI64_of (by omega) (by omega)) ?_
            refine Next.by (di + 1) (by omega) (by omega) (by refine Weak.by [(0, some _), (1, some _), (2, some _), (3, some _), (4, some _), (5, some _), (6, some _), (7, some _), (8, some _), (9, some _)] (by ((repeat' first | exact rfl | exact trivial | refine And.intro ?_ ?_) <;> (repeat' first | exact rfl | exact trivial | refine And.intro ?_ ?_)); all_goals ((first | (rw [hstp]; unfold cutF; rw [rowsI_set]; rfl) | (simp; done) | (simp; omega)))) (by ((repeat' first | exact rfl | exact trivial | refine And.intro ?_ ?_) <;> (repeat' first | exact rfl | exact trivial | refine And.intro ?_ ?_)); all_goals ((first | (rw [hstp]; unfold cutF; rw [rowsI_set]; rfl) | (simp; done) | (simp; omega)))) (by rfl))
          have hil : di = (rowAt N out).length := by simp at hc1; omega
          subst hil
          rw [List.take_length]
          have hN1 : ∀ u : Int, 0 ≤ u → rowAt ((rowAt N out).foldl (cutF out) N) u = (rowAt N u).erase out := fun u hu => by
            rw [cuts_row hnd hrv.2 hu]
            split
            · rfl
            · rename_i hno
              rw [List.erase_of_not_mem]
              exact fun h => hno (hW.sym u out hu hlo h)
          have hl1 : (rowsI ((rowAt N out).foldl (cutF out) N)).length = N.length := by rw [rowsI_length, cuts_length]
          refine JoinP.intro (α := Unit) (fun _ => True) (fun _ => [(2, .ptr 8 0), (3, .ptr 9 0), (1000002, .ptr 0 0), (1000003, .ptr 1 0), (1000004, .ptr 4 0), (1000006, .sl 6 none none), (1000008, .ptr 7 0)])
            (fun _ => [(0, some (.blk [.nils, .nils, .nils])), (1, some (.blk [.sl 2 none none, .sl 3 none none])), (4, some (.blk [.sl 5 none (some (0, last))])), (5, some (.flat true 1 (ints c))), (6, some (.flat true 4 (stps st))), (7, some (.blk [.s (.i .i64 (stepF N out).1), .s (.i .i64 (stepF N out).2.1), .s (.i .i64 (stepF N out).2.2.1), .s (.b (stepF N out).2.2.2)])), (2, some (.nest true 1 (rowsI (if (stepF N out).2.2.2 then joinF (joinF ((rowAt N out).foldl (cutF out) N) (stepF N out).2.1 (stepF N out).2.2.1) (stepF N out).2.2.1 (stepF N out).2.1 else (rowAt N out).foldl (cutF out) N)) [] [])), (3, some (.flat true 1 (bools G))), (8, some (.blk [.sl 2 none none, .sl 3 none none])), (9, some (.blk [.s (.i .i64 (stepF N out).1), .s (.i .i64 (stepF N out).2.1), .s (.i .i64 (stepF N out).2.2.1), .s (.b (stepF N out).2.2.2)]))]) 10 ?_ ?_
          rotate_left
          · rintro ⟨⟩ -
            have hl2 : (rowsI (if (stepF N out).2.2.2 then joinF (joinF ((rowAt N out).foldl (cutF out) N) (stepF N out).2.1 (stepF N out).2.2.1) (stepF N out).2.2.1 (stepF N out).2.1 else (rowAt N out).foldl (cutF out) N)).length = N.length := by
              rw [rowsI_length]
              split
              · rw [joinF_length, joinF_length, cuts_length]
              · rw [cuts_length]
            have hdo : (rowsI (if (stepF N out).2.2.2 then joinF (joinF ((rowAt N out).foldl (cutF out) N) (stepF N out).2.1 (stepF N out).2.2.1) (stepF N out).2.2.1 (stepF N out).2.1 else (rowAt N out).foldl (cutF out) N)).set (out).toNat [] = rowsI (doN N (stepF N out)) := by
              unfold doN
              rw [rowsI_set]; rfl
            have hdg : (bools G).set (out).toNat [.b true] = bools (doG G (stepF N out)) := by
              unfold doG bools
              rw [List.map_set]; rfl
            generalize rowsI (if (stepF N out).2.2.2 then joinF (joinF ((rowAt N out).foldl (cutF out) N) (stepF N out).2.1 (stepF N out).2.2.1) (stepF N out).2.2.1 (stepF N out).2.1 else (rowAt N out).foldl (cutF out) N) = RR at hl2 hdo ⊢
            refine Idx.by (out).toNat (by show (out : Int) = _; omega) (by omega) ?_
            refine Pick.T (by rw [hl2]; simp; omega) ?_
            refine Idx.by (out).toNat (by show (out : Int) = _; omega) (by rw [bools_length, hW.len]; omega) ?_
            refine Look.by _ (bools_get (goneAt_get hW.len hlo hhi)) ?_
            refine Seg.by (by kernel_rfl) ?_
            have hW2 := do_wf hW hmp
            have hNl2 : (doN N (stepF N out)).length = n.toNat := by rw [doN_length]; exact hNl
            have hGN2 : (doG G (stepF N out)).length = (doN N (stepF N out)).length := hW2.len
            have hlv := live_step hW hmp
            have hst4 : st.length + 1 ≤ n.toNat := by omega
            have hrun2 := run_step hrun hW hmy hst4 (fun v hv => heap_least hHc hH hout hperm hm hv)
            have hmay2 : ∀ v, mayB (doN N (stepF N out)) (doG G (stepF N out)) v = true → v ∈ c.take last ∨ v = (stepF N out).2.1 ∨ v = (stepF N out).2.2.1 := fun v hv => may_step hW hmp hs2 hv fun h2 hne => (hq1 v (hm v h2)).elim (fun e => absurd e hne) id
            generalize hN2 : doN N (stepF N out) = N2 at *
            generalize hG2 : doG G (stepF N out) = G2 at *
            generalize hsG : stepF N out = s at *
            refine Pick.T (by simp [cut, stps_length]; omega) ?_
            refine LoopP.intro (α := Nat × Option (Nat × Nat) × List Int) (fun a => a.1 ≤ 2 ∧ (a.2.1 = none ∨ ∃ L, a.2.1 = some (0, L) ∧ L ≤ a.2.2.length) ∧ a.2.2.length ≤ 4000 ∧ (cut a.2.1 a.2.2).length ≤ last + a.1 ∧ Heap (cut a.2.1 a.2.2) ∧ (∀ v ∈ cut a.2.1 a.2.2, 0 ≤ v ∧ v < n) ∧ ∀ v : Int, mayB N2 G2 v = true → v ∈ cut a.2.1 a.2.2 ∨ (a.1 ≤ 0 ∧ v = s.2.1) ∨ (a.1 ≤ 1 ∧ v = s.2.2.1)) (fun a => 2 - a.1) (fun a => [(2, .ptr 0 0), (3, .ptr 1 0), (4, .ptr 4 0), (6, .sl 6 none none), (51, .sl 7 none none), (52, .s (.i .i64 2)), (53, .s (.i .i64 a.1))])
              (fun a => [(0, some (.blk [.nils, .nils, .nils])), (1, some (.blk [.sl 2 none none, .sl 3 none none])), (2, some (.nest true 1 (rowsI N2) [] [])), (3, some (.flat true 1 (bools G2))), (4, some (.blk [.sl 5 none a.2.1])), (5, some (.flat true 1 (ints a.2.2))), (6, some (.flat true 4 (stps (st ++ [s])))), (7, some (.flat true 1 (ints [s.2.1, s.2.2.1])))]) 8 (0, some (0, last), c)
              ⟨by dsimp only; omega, .inr ⟨last, rfl, hlc⟩, by dsimp only; omega, by dsimp only; rw [hqc]; omega, hHc, hqr, fun v hv => (hmay2 v hv).elim .inl fun h => h.elim (fun h => .inr (.inl ⟨by dsimp only; omega, h⟩)) fun h => .inr (.inr ⟨by dsimp only; omega, h⟩)⟩ (by refine Weak.by [(0, some _), (1, some _), (2, some _), (3, some _), (4, some _), (5, some _), (6, some _), (7, some _)] (by ((repeat' first | exact rfl | exact trivial | refine And.intro ?_ ?_) <;> (repeat' first | exact rfl | exact trivial | refine And.intro ?_ ?_)); all_goals ((first | (exact stps_snoc st s) | (exact hdo.symm) | (exact hdg.symm)))) (by ((repeat' first | exact rfl | exact trivial | refine And.intro ?_ ?_) <;> (repeat' first | exact rfl | exact trivial | refine And.intro ?_ ?_)); all_goals ((first | (exact stps_snoc st s) | (exact hdo.symm) | (exact hdg.symm)))) (by rfl)) ?_
            rintro ⟨i, sub2, m2⟩ ⟨hi2, hsub2, hm24, hcl2, hH2, hr2, hmv2⟩
            dsimp only at hi2 hsub2 hm24 hcl2 hH2 hr2 hmv2 ⊢
            refine Pick.by (fun hc5 => ?_) (fun hc5 => ?_)
            · have hi3 : i < 2 := by simp at hc5; omega
              obtain ⟨x, hx⟩ : ∃ x, [s.2.1, s.2.2.1][i]? = some x := ⟨_, List.getElem?_eq_getElem (show i < [s.2.1, s.2.2.1].length from hi3)⟩
              have hxi : (i = 0 ∧ x = s.2.1) ∨ (i = 1 ∧ x = s.2.2.1) := by
                have : i = 0 ∨ i = 1 := by omega
                rcases this with e | e
                · subst e; simp at hx; exact .inl ⟨rfl, hx.symm⟩
                · subst e; simp at hx; exact .inr ⟨rfl, hx.symm⟩
              refine Idx.by i rfl (by rw [ints_length]; exact hi3) ?_
              refine Look.by _ (ints_get hx) ?_
              refine Call.by _ _ (MayC_at x hGN2) ?_
              refine JoinP.intro (α := Option (Nat × Nat) × List Int) (fun b => (b.1 = none ∨ ∃ L, b.1 = some (0, L) ∧ L ≤ b.2.length) ∧ b.2.length ≤ 4000 ∧ (cut b.1 b.2).length ≤ last + i + 1 ∧ Heap (cut b.1 b.2) ∧ (∀ v ∈ cut b.1 b.2, 0 ≤ v ∧ v < n) ∧ ∀ v : Int, mayB N2 G2 v = true → v ∈ cut b.1 b.2 ∨ (i + 1 ≤ 0 ∧ v = s.2.1) ∨ (i + 1 ≤ 1 ∧ v = s.2.2.1)) (fun b => [(2, .ptr 0 0), (3, .ptr 1 0), (4, .ptr 4 0), (6, .sl 6 none none), (51, .sl 7 none none), (52, .s (.i .i64 2)), (53, .s (.i .i64 i))])
                (fun b => [(0, some (.blk [.nils, .nils, .nils])), (1, some (.blk [.sl 2 none none, .sl 3 none none])), (2, some (.nest true 1 (rowsI N2) [] [])), (3, some (.flat true 1 (bools G2))), (4, some (.blk [.sl 5 none b.1])), (5, some (.flat true 1 (ints b.2))), (6, some (.flat true 4 (stps (st ++ [s])))), (7, some (.flat true 1 (ints [s.2.1, s.2.2.1])))]) 8 ?_ ?_
              rotate_left
              · rintro ⟨sub3, m3⟩ hJ
                refine Pick.T (inI64_of (by omega) (by omega)) ?_
                exact Next.by (i + 1, sub3, m3) ⟨by dsimp only; omega, hJ⟩ (by dsimp only; omega) (by refine Weak.by [(0, some _), (1, some _), (2, some _), (3, some _), (4, some _), (5, some _), (6, some _), (7, some _)] (by ((repeat' first | exact rfl | exact trivial | refine And.intro ?_ ?_) <;> (repeat' first | exact rfl | exact trivial | refine And.intro ?_ ?_))) (by ((repeat' first | exact rfl | exact trivial | refine And.intro ?_ ?_) <;> (repeat' first | exact rfl | exact trivial | refine And.intro ?_ ?_))) (by rfl))
              refine Pick.by (fun hc6 => ?_) (fun hc6 => ?_)
              · have hc6 : mayB N2 G2 x = true := hc6
                have hxr2 : 0 ≤ x ∧ x < n := may_range hNl2 hc6
                have hH := hH2
                refine Pick.T (by simp [cut, ints_length]; omega) ?_
                have hraw : cut sub2 (ints m2) = ints (cut sub2 m2) := cut_ints
                have hlen0 : (cut sub2 (ints m2) ++ [[Sc.i .i64 x]]) = ints ((cut sub2 m2) ++ [x]) := by rw [hraw, ints_snoc]
                refine Pick.T (by show inI64 ((((cut sub2 (ints m2) ++ [[Sc.i .i64 x]]).length : Nat) : Int) - 1) = true; rw [hlen0, ints_length]; simp; exact inI64_of (by omega) (by omega)) ?_
                have hlen1 : (((cut sub2 m2).length : Nat) : Int) = (((cut sub2 (ints m2) ++ [[Sc.i .i64 x]]).length : Nat) : Int) - 1 := by rw [hlen0, ints_length]; simp
                refine JoinP.intro (α := List Int) (fun a => Heap a ∧ a.length = (cut sub2 m2).length + 1 ∧ ∀ v, v ∈ a ↔ v ∈ (cut sub2 m2) ∨ v = x) (fun a => [(0, .ptr 4 0), (4, .sl 8 none none), (1000002, .ptr 0 0), (1000003, .ptr 1 0), (1000004, .ptr 4 0), (1000006, .sl 6 none none), (1000051, .sl 7 none none), (1000052, .s (.i .i64 2)), (1000053, .s (.i .i64 i))])
                  (fun a => [(0, some (.blk [.nils, .nils, .nils])), (1, some (.blk [.sl 2 none none, .sl 3 none none])), (2, some (.nest true 1 (rowsI N2) [] [])), (3, some (.flat true 1 (bools G2))), (4, some (.blk [.sl 5 none sub2])), (6, some (.flat true 4 (stps (st ++ [s])))), (7, some (.flat true 1 (ints [s.2.1, s.2.2.1]))), (8, some (.flat true 1 (ints a)))]) 9 ?_ ?_
                rotate_left
                · rintro m ⟨hHm, hml2, hmem⟩
                  exact ⟨(none, m), ⟨.inl rfl, by dsimp only; omega, by show m.length ≤ _; omega, hHm, fun v hv => ((hmem v).1 hv).elim (hr2 v) fun e => by rw [e]; exact hxr2, fun v hv => put_may hxi (hmem v).2 (hmv2 v hv)⟩, by refine Weak.by [(0, some _), (1, some _), (2, some _), (3, some _), (4, some _), (5, some _), (6, some _), (7, some _)] (by ((repeat' first | exact rfl | exact trivial | refine And.intro ?_ ?_) <;> (repeat' first | exact rfl | exact trivial | refine And.intro ?_ ?_))) (by ((repeat' first | exact rfl | exact trivial | refine And.intro ?_ ?_) <;> (repeat' first | exact rfl | exact trivial | refine And.intro ?_ ?_))) (by rfl)⟩
                refine LoopP.intro (α := Nat × List Int) (fun a => a.2.Perm ((cut sub2 m2) ++ [x]) ∧ HUp a.2 a.1 ∧ a.1 < a.2.length) (fun a => a.1) (fun a => [(0, .ptr 4 0), (4, .sl 8 none none), (5, .s (.i .i64 a.1)), (1000002, .ptr 0 0), (1000003, .ptr 1 0), (1000004, .ptr 4 0), (1000006, .sl 6 none none), (1000051, .sl 7 none none), (1000052, .s (.i .i64 2)), (1000053, .s (.i .i64 i))])
                  (fun a => [(0, some (.blk [.nils, .nils, .nils])), (1, some (.blk [.sl 2 none none, .sl 3 none none])), (2, some (.nest true 1 (rowsI N2) [] [])), (3, some (.flat true 1 (bools G2))), (4, some (.blk [.sl 5 none sub2])), (6, some (.flat true 4 (stps (st ++ [s])))), (7, some (.flat true 1 (ints [s.2.1, s.2.2.1]))), (8, some (.flat true 1 (ints a.2)))]) 9 ((cut sub2 m2).length, (cut sub2 m2) ++ [x]) ⟨List.Perm.refl _, up_start hH _, by simp⟩ (by refine Weak.by [(0, some _), (1, some _), (2, some _), (3, some _), (4, some _), (5, some _), (6, some _), (7, some _), (8, some _)] (by ((repeat' first | exact rfl | exact trivial | refine And.intro ?_ ?_) <;> (repeat' first | exact rfl | exact trivial | refine And.intro ?_ ?_)); all_goals ((first | (exact hlen0.symm) | (exact sc_eq hlen1)))) (by ((repeat' first | exact rfl | exact trivial | refine And.intro ?_ ?_) <;> (repeat' first | exact rfl | exact trivial | refine And.intro ?_ ?_)); all_goals ((first | (exact hlen0.symm) | (exact sc_eq hlen1)))) (by rfl)) ?_
                rintro ⟨p, m⟩ ⟨hperm, hup, hpm⟩
                dsimp only at hperm hup hpm ⊢
                have hml : m.length = (cut sub2 m2).length + 1 := by rw [hperm.length_eq]; simp
                have hpq : 0 < p → ((p : Int) - 1).tdiv 2 = (((p - 1) / 2 : Nat) : Int) := fun h => by rw [show (p : Int) - 1 = ((p - 1 : Nat) : Int) by omega]; rfl
                have hput : Heap m → Heap m ∧ m.length = (cut sub2 m2).length + 1 ∧ ∀ v, v ∈ m ↔ v ∈ (cut sub2 m2) ∨ v = x := fun h => ⟨h, hml, fun v => by rw [hperm.mem_iff]; simp⟩
                refine Pick.by (fun hc1 => ?_) (fun hc1 => ?_)
                · have hp0 : 0 < p := by simp at hc1; omega
                  have hq := hpq hp0
                  have hql : (p - 1) / 2 < m.length := by omega
                  obtain ⟨y, hy⟩ : ∃ y, m[p]? = some y := ⟨_, List.getElem?_eq_getElem hpm⟩
                  obtain ⟨z, hz⟩ : ∃ z, m[(p - 1) / 2]? = some z := ⟨_, List.getElem?_eq_getElem hql⟩
                  refine Idx.by p rfl (by rw [ints_length]; exact hpm) ?_
                  refine Look.by _ (ints_get hy) ?_
                  refine Pick.T (inI64_of (by omega) (by omega)) ?_
                  refine Pick.T (inI64_of (by omega) (by omega)) ?_
                  refine Idx.by ((p - 1) / 2) hq (by rw [ints_length]; exact hql) ?_
                  refine Look.by _ (ints_get hz) ?_
                  refine Seg.by (by kernel_rfl) ?_
                  refine Pick.by (fun hc2 => ?_) (fun hc2 => ?_)
                  · have hlt : y < z := by simpa using hc2
                    have hsw : ints ((m.set p z).set ((p - 1) / 2) y) = ((ints m).set p [.i .i64 z]).set ((p - 1) / 2) [.i .i64 y] := by rw [ints_set, ints_set]
                    refine Pick.T (inI64_of (by omega) (by omega)) ?_
                    refine Pick.T (inI64_of (by omega) (by omega)) ?_
                    refine Pick.T (inI64_of (by omega) (by omega)) ?_
                    refine Pick.T (inI64_of (by omega) (by omega)) ?_
                    refine Idx.by ((p - 1) / 2) hq (by rw [ints_length]; exact hql) ?_
                    refine Look.by _ (ints_get hz) ?_
                    refine Idx.by p rfl (by rw [ints_length]; exact hpm) ?_
                    refine Look.by _ (ints_get hy) ?_
                    refine Idx.by p rfl (by rw [ints_length]; exact hpm) ?_
                    refine Look.by _ (ints_get hy) ?_
                    refine Idx.by ((p - 1) / 2) hq (by rw [List.length_set, ints_length]; exact hql) ?_
                    refine Look.by _ (by rw [List.getElem?_set_ne (by omega)]; exact ints_get hz) ?_
                    refine Seg.by (by kernel_rfl) ?_
                    refine Pick.T (inI64_of (by omega) (by omega)) ?_
                    refine Pick.T (inI64_of (by omega) (by omega)) ?_
                    refine Next.by ((p - 1) / 2, (m.set p z).set ((p - 1) / 2) y) ⟨(swap_perm hy hz (by omega)).trans hperm, up_step hup hp0 hz hy hlt, by rw [List.length_set, List.length_set]; exact hql⟩ (by dsimp only; omega) (by refine Weak.by [(0, some _), (1, some _), (2, some _), (3, some _), (4, some _), (5, some _), (6, some _), (7, some _), (8, some _)] (by ((repeat' first | exact rfl | exact trivial | refine And.intro ?_ ?_) <;> (repeat' first | exact rfl | exact trivial | refine And.intro ?_ ?_)); all_goals ((first | (exact hsw) | (exact sc_eq hq.symm)))) (by ((repeat' first | exact rfl | exact trivial | refine And.intro ?_ ?_) <;> (repeat' first | exact rfl | exact trivial | refine And.intro ?_ ?_)); all_goals ((first | (exact hsw) | (exact sc_eq hq.symm)))) (by rfl))
                  · have hHm := hput (up_done hup (.inr fun x' y' hx' hy' => by
                      rw [hz] at hx'; rw [hy] at hy'
                      injection hx' with hx'; injection hy' with hy'
                      have : ¬ y < z := by simpa using hc2
                      omega))
                    exact ⟨m, hHm, by refine Weak.by [(0, some _), (1, some _), (2, some _), (3, some _), (4, some _), (5, some _), (6, some _), (7, some _), (8, some _)] (by ((repeat' first | exact rfl | exact trivial | refine And.intro ?_ ?_) <;> (repeat' first | exact rfl | exact trivial | refine And.intro ?_ ?_))) (by ((repeat' first | exact rfl | exact trivial | refine And.intro ?_ ?_) <;> (repeat' first | exact rfl | exact trivial | refine And.intro ?_ ?_))) (by rfl)⟩
                · have hp0 : p = 0 := by simp at hc1; omega
                  refine Seg.by (by kernel_rfl) ?_
                  exact ⟨m, hput (up_done hup (.inl hp0)), by refine Weak.by [(0, some _), (1, some _), (2, some _), (3, some _), (4, some _), (5, some _), (6, some _), (7, some _), (8, some _)] (by ((repeat' first | exact rfl | exact trivial | refine And.intro ?_ ?_) <;> (repeat' first | exact rfl | exact trivial | refine And.intro ?_ ?_))) (by ((repeat' first | exact rfl | exact trivial | refine And.intro ?_ ?_) <;> (repeat' first | exact rfl | exact trivial | refine And.intro ?_ ?_))) (by rfl)⟩
              · have hc6 : mayB N2 G2 x = false := hc6
                exact ⟨(sub2, m2), ⟨hsub2, hm24, by dsimp only; omega, hH2, hr2, fun v hv => skip_may hxi (fun e => by rw [e, hc6] at hv; cases hv) (hmv2 v hv)⟩, by refine Weak.by [(0, some _), (1, some _), (2, some _), (3, some _), (4, some _), (5, some _), (6, some _), (7, some _)] (by ((repeat' first | exact rfl | exact trivial | refine And.intro ?_ ?_) <;> (repeat' first | exact rfl | exact trivial | refine And.intro ?_ ?_))) (by ((repeat' first | exact rfl | exact trivial | refine And.intro ?_ ?_) <;> (repeat' first | exact rfl | exact trivial | refine And.intro ?_ ?_))) (by rfl)⟩
            · have hi3 : i = 2 := by simp at hc5; omega
              refine Next.by (st ++ [s], N2, G2, sub2, m2) ⟨hW2, hNl2, hrun2, by simp; omega, hsub2, hm24, by simp; omega, hH2, hr2, fun v hv => ?_⟩ (by simp; omega) (by refine Weak.by [(0, some _), (1, some _), (2, some _), (3, some _), (4, some _), (5, some _), (6, some _)] (by ((repeat' first | exact rfl | exact trivial | refine And.intro ?_ ?_) <;> (repeat' first | exact rfl | exact trivial | refine And.intro ?_ ?_))) (by ((repeat' first | exact rfl | exact trivial | refine And.intro ?_ ?_) <;> (repeat' first | exact rfl | exact trivial | refine And.intro ?_ ?_))) (by rfl))
              rcases hmv2 v hv with h | ⟨h1, _⟩ | ⟨h1, _⟩
              · exact h
              · omega
              · omega
          refine Pick.by (fun had => ?_) (fun had => ?_)
          · have had : (stepF N out).2.2.2 = true := had
            rw [if_pos had]
            rcases hs2 with ⟨_, _, _, e⟩ | ⟨_, _, _, _, e⟩ | ⟨a, b, hlv, hab, ea, eb, ec⟩
            · rw [had] at e; cases e
            · rw [had] at e; cases e
            have har := hrv.2 a (by rw [hlv]; simp)
            have hbr := hrv.2 b (by rw [hlv]; simp)
            have hra : (rowsI ((rowAt N out).foldl (cutF out) N))[a.toNat]? = some (ints ((rowAt N a).erase out)) := by
              have h1 := rowsI_get (rowAt_mem (N := (rowAt N out).foldl (cutF out) N) har.1 (by rw [cuts_length]; exact har.2)).2
              rw [hN1 a har.1] at h1
              exact h1
            have hrb : (rowsI ((rowAt N out).foldl (cutF out) N))[b.toNat]? = some (ints ((rowAt N b).erase out)) := by
              have h1 := rowsI_get (rowAt_mem (N := (rowAt N out).foldl (cutF out) N) hbr.1 (by rw [cuts_length]; exact hbr.2)).2
              rw [hN1 b hbr.1] at h1
              exact h1
            have hok : ∀ u, ((rowAt N u).erase out).Pairwise (· ≤ ·) ∧ ((rowAt N u).erase out).length ≤ 1000000 := fun u => by
              have h1 := hW.rows u
              have h2 := hW.row_len u
              have h3 := List.length_erase_le (l := rowAt N u) (a := out)
              exact ⟨(erase_sorted h1.1).imp fun h => by omega, by omega⟩
            rw [ea, eb]
            have hj : rowsI (joinF (joinF ((rowAt N out).foldl (cutF out) N) a b) b a) = ((rowsI ((rowAt N out).foldl (cutF out) N)).set a.toNat (ints (insAt ((rowAt N a).erase out) b))).set b.toNat (ints (insAt ((rowAt N b).erase out) a)) := by
              have e1 : rowAt (joinF ((rowAt N out).foldl (cutF out) N) a b) b = (rowAt N b).erase out := by
                unfold joinF
                rw [rowAt_set har.1 (by rw [cuts_length]; exact har.2) hbr.1, if_neg (by omega), hN1 b hbr.1]
              show rowsI ((joinF ((rowAt N out).foldl (cutF out) N) a b).set b.toNat (insAt (rowAt (joinF ((rowAt N out).foldl (cutF out) N) a b) b) a)) = _
              rw [e1, rowsI_set]
              unfold joinF
              rw [rowsI_set, hN1 a har.1]
            have hma : (rowsI ((rowAt N out).foldl (cutF out) N)).set a.toNat (ints (insAt ((rowAt N a).erase out) b)) ≠ [] ∨ True := .inr trivial
            have hl3 : ((rowsI ((rowAt N out).foldl (cutF out) N)).set a.toNat (ints (insAt ((rowAt N a).erase out) b))).length = N.length := by rw [List.length_set, hl1]
            have hrb2 : ((rowsI ((rowAt N out).foldl (cutF out) N)).set a.toNat (ints (insAt ((rowAt N a).erase out) b)))[b.toNat]? = some (ints ((rowAt N b).erase out)) := by rw [List.getElem?_set_ne (by omega)]; exact hrb
            refine Idx.by a.toNat (by omega) (by omega) ?_
            refine Pick.T (by rw [hl1]; simp; omega) ?_
            refine Look.by _ hra ?_
            refine Call.by _ _ (turnC_at (hok a)) ?_
            refine Idx.by a.toNat (by omega) (by omega) ?_
            refine Pick.T (by rw [hl1]; simp; omega) ?_
            refine Pick.T (by simp) ?_
            refine Seg.by (by kernel_rfl) ?_
            refine Idx.by b.toNat (by omega) (by omega) ?_
            refine Pick.T (by rw [hl3]; simp; omega) ?_
            refine Look.by _ hrb2 ?_
            refine Call.by _ _ (turnC_at (hok b)) ?_
            refine Idx.by b.toNat (by omega) (by omega) ?_
            refine Pick.T (by rw [hl3]; simp; omega) ?_
            refine Pick.T (by simp) ?_
            refine Seg.by (by kernel_rfl) ?_
            exact ⟨(), trivial, by refine Weak.by [(0, some _), (1, some _), (2, some _), (3, some _), (4, some _), (5, some _), (6, some _), (7, some _), (8, some _), (9, some _)] (by ((repeat' first | exact rfl | exact trivial | refine And.intro ?_ ?_) <;> (repeat' first | exact rfl | exact trivial | refine And.intro ?_ ?_)); all_goals ((exact hj))) (by ((repeat' first | exact rfl | exact trivial | refine And.intro ?_ ?_) <;> (repeat' first | exact rfl | exact trivial | refine And.intro ?_ ?_)); all_goals ((exact hj))) (by rfl)⟩
          · have had : (stepF N out).2.2.2 = false := had
            rw [if_neg (by rw [had]; simp)]
            exact ⟨(), trivial, by refine Weak.by [(0, some _), (1, some _), (2, some _), (3, some _), (4, some _), (5, some _), (6, some _), (7, some _), (8, some _), (9, some _)] (by ((repeat' first | exact rfl | exact trivial | refine And.intro ?_ ?_) <;> (repeat' first | exact rfl | exact trivial | refine And.intro ?_ ?_))) (by ((repeat' first | exact rfl | exact trivial | refine And.intro ?_ ?_) <;> (repeat' first | exact rfl | exact trivial | refine And.intro ?_ ?_))) (by rfl)⟩
        refine LoopP.intro (α := Nat × List Int) (fun a => Sift l out last a.2 a.1 ∧ a.1 ≤ last ∧ a.2.length = m.length) (fun a => last + 1 - a.1) (fun a => [(0, .ptr 4 0), (3, .sl 5 none (some (0, last))), (4, .s (.i .i64 out)), (5, .s (.i .i64 last)), (6, .s (.i .i64 a.1)), (1000002, .ptr 0 0), (1000003, .ptr 1 0), (1000004, .ptr 4 0), (1000006, .sl 6 none none)])
          (fun a => [(0, some (.blk [.nils, .nils, .nils])), (1, some (.blk [.sl 2 none none, .sl 3 none none])), (2, some (.nest true 1 (rowsI N) [] [])), (3, some (.flat true 1 (bools G))), (4, some (.blk [.sl 5 none none])), (5, some (.flat true 1 (ints a.2))), (6, some (.flat true 4 (stps st)))]) 7 (0, m.set 0 top) ⟨hsift, by dsimp only; omega, by rw [List.length_set]⟩ (by refine Weak.by [(0, some _), (1, some _), (2, some _), (3, some _), (4, some _), (5, some _), (6, some _)] (by ((repeat' first | exact rfl | exact trivial | refine And.intro ?_ ?_) <;> (repeat' first | exact rfl | exact trivial | refine And.intro ?_ ?_)); all_goals ((first | (rw [ints_set]; rfl) | (exact sc_eq hlast.symm)))) (by ((repeat' first | exact rfl | exact trivial | refine And.intro ?_ ?_) <;> (repeat' first | exact rfl | exact trivial | refine And.intro ?_ ?_)); all_goals ((first | (rw [ints_set]; rfl) | (exact sc_eq hlast.symm)))) (by rfl)) ?_
        rintro ⟨i, c⟩ ⟨hsf, hil, hcm⟩
        dsimp only at hsf hil hcm ⊢
        refine Pick.T (inI64_of (by omega) (by omega)) ?_
        refine Pick.T (inI64_of (by omega) (by omega)) ?_
        refine Pick.by (fun hc1 => ?_) (fun hc1 => ?_)
        · have hch : 2 * i + 1 < last := by simp at hc1; omega
          obtain ⟨x, hx⟩ : ∃ x, c[i]? = some x := ⟨_, List.getElem?_eq_getElem (by have := hsf.len; omega)⟩
          obtain ⟨y1, hy1⟩ : ∃ y, c[2 * i + 1]? = some y := ⟨_, List.getElem?_eq_getElem (by have := hsf.len; omega)⟩
          refine Pick.T (inI64_of (by omega) (by omega)) ?_
          refine Pick.T (inI64_of (by omega) (by omega)) ?_
          refine Pick.T (inI64_of (by omega) (by omega)) ?_
          have hk1 : (2 * (i : Int) + 1) = ((2 * i + 1 : Nat) : Int) := by omega
          have hk2 : (2 * (i : Int) + 1 + 1) = ((2 * i + 2 : Nat) : Int) := by omega
          have hjoin : ∀ k, (k = 2 * i + 1 ∨ k = 2 * i + 2) → k < last → (∀ y, c[k]? = some y → ∀ t z, 0 < t → (t - 1) / 2 = i → t < last → c[t]? = some z → y ≤ z) → (k = 2 * i + 1 ∨ k = 2 * i + 2) ∧ k < last ∧ ∀ y, c[k]? = some y → ∀ t z, 0 < t → (t - 1) / 2 = i → t < last → c[t]? = some z → y ≤ z := fun k a b d => ⟨a, b, d⟩
          refine Pick.by (fun hc2 => ?_) (fun hc2 => ?_)
          · have hch2 : 2 * i + 2 < last := by simp at hc2; omega
            obtain ⟨y2, hy2⟩ : ∃ y, c[2 * i + 2]? = some y := ⟨_, List.getElem?_eq_getElem (by have := hsf.len; omega)⟩
            refine Pick.T (inI64_of (by omega) (by omega)) ?_
            refine Idx.by (2 * i + 2) (by omega) (by omega) ?_
            refine Look.by _ (by rw [Nat.zero_add]; exact ints_get hy2) ?_
            refine Idx.by (2 * i + 1) (by omega) (by omega) ?_
            refine Look.by _ (by rw [Nat.zero_add]; exact ints_get hy1) ?_
            refine Seg.by (by kernel_rfl) ?_
            refine JoinP.intro (α := Nat) (fun k => (k = 2 * i + 1 ∨ k = 2 * i + 2) ∧ k < last ∧ ∀ y, c[k]? = some y → ∀ t z, 0 < t → (t - 1) / 2 = i → t < last → c[t]? = some z → y ≤ z) (fun k => [(0, .ptr 4 0), (3, .sl 5 none (some (0, last))), (4, .s (.i .i64 out)), (5, .s (.i .i64 last)), (6, .s (.i .i64 i)), (7, .s (.i .i64 k)), (1000002, .ptr 0 0), (1000003, .ptr 1 0), (1000004, .ptr 4 0), (1000006, .sl 6 none none)])
              (fun k => [(0, some (.blk [.nils, .nils, .nils])), (1, some (.blk [.sl 2 none none, .sl 3 none none])), (2, some (.nest true 1 (rowsI N) [] [])), (3, some (.flat true 1 (bools G))), (4, some (.blk [.sl 5 none none])), (5, some (.flat true 1 (ints c))), (6, some (.flat true 4 (stps st)))]) 7 ?_ ?_
            rotate_left
            · rintro k ⟨hkk, hkl, hM⟩
              obtain ⟨y, hy⟩ : ∃ y, c[k]? = some y := ⟨_, List.getElem?_eq_getElem (by have := hsf.len; omega)⟩
              have hmin := hM y hy
              refine Idx.by i rfl (by omega) ?_
              refine Look.by _ (by rw [Nat.zero_add]; exact ints_get hx) ?_
              refine Idx.by k rfl (by omega) ?_
              refine Look.by _ (by rw [Nat.zero_add]; exact ints_get hy) ?_
              refine Seg.by (by kernel_rfl) ?_
              refine Pick.by (fun hc4 => ?_) (fun hc4 => ?_)
              · have hle : x ≤ y := by simpa using hc4
                refine ⟨c, ⟨hcm, hsf.len, hsf.perm, sift_done hsf fun t u v ht htp hu hv => ?_⟩, by refine Weak.by [(0, some _), (1, some _), (2, some _), (3, some _), (4, some _), (5, some _), (6, some _)] (by ((repeat' first | exact rfl | exact trivial | refine And.intro ?_ ?_) <;> (repeat' first | exact rfl | exact trivial | refine And.intro ?_ ?_))) (by ((repeat' first | exact rfl | exact trivial | refine And.intro ?_ ?_) <;> (repeat' first | exact rfl | exact trivial | refine And.intro ?_ ?_))) (by rfl)⟩
                have htk : t < last := by
                  have := (List.getElem?_eq_some_iff.1 hv).1
                  rw [List.length_take] at this
                  omega
                rw [tk_get (by omega), hx] at hu
                injection hu with hu
                have := hmin t v ht htp htk (by rw [← tk_get htk]; exact hv)
                omega
              · have hlt : y < x := by simpa using hc4
                refine Idx.by k rfl (by omega) ?_
                refine Look.by _ (by rw [Nat.zero_add]; exact ints_get hy) ?_
                refine Idx.by i rfl (by omega) ?_
                refine Look.by _ (by rw [Nat.zero_add]; exact ints_get hx) ?_
                refine Idx.by i rfl (by omega) ?_
                refine Look.by _ (by rw [Nat.zero_add]; exact ints_get hx) ?_
                refine Idx.by k rfl (by omega) ?_
                refine Look.by _ (by rw [Nat.zero_add, Nat.zero_add, List.getElem?_set_ne (by omega)]; exact ints_get hy) ?_
                refine Seg.by (by kernel_rfl) ?_
                refine Next.by (k, (c.set i y).set k x) ⟨sift_step hsf (by omega) (by omega) hkl hx hy hlt hmin, by dsimp only; omega, by rw [List.length_set, List.length_set]; exact hcm⟩ (by dsimp only; omega) (by refine Weak.by [(0, some _), (1, some _), (2, some _), (3, some _), (4, some _), (5, some _), (6, some _)] (by ((repeat' first | exact rfl | exact trivial | refine And.intro ?_ ?_) <;> (repeat' first | exact rfl | exact trivial | refine And.intro ?_ ?_)); all_goals ((rw [Nat.zero_add, Nat.zero_add, ints_set, ints_set]; rfl))) (by ((repeat' first | exact rfl | exact trivial | refine And.intro ?_ ?_) <;> (repeat' first | exact rfl | exact trivial | refine And.intro ?_ ?_)); all_goals ((rw [Nat.zero_add, Nat.zero_add, ints_set, ints_set]; rfl))) (by rfl))
            refine Pick.by (fun hc3 => ?_) (fun hc3 => ?_)
            · have hlt2 : y2 < y1 := by simpa using hc3
              refine Pick.T (inI64_of (by omega) (by omega)) ?_
              refine ⟨2 * i + 2, hjoin _ (.inr rfl) hch2 fun y hy t z ht htp htl hz => ?_, by refine Weak.by [(0, some _), (1, some _), (2, some _), (3, some _), (4, some _), (5, some _), (6, some _)] (by ((repeat' first | exact rfl | exact trivial | refine And.intro ?_ ?_) <;> (repeat' first | exact rfl | exact trivial | refine And.intro ?_ ?_)); all_goals ((exact sc_eq hk2.symm))) (by ((repeat' first | exact rfl | exact trivial | refine And.intro ?_ ?_) <;> (repeat' first | exact rfl | exact trivial | refine And.intro ?_ ?_)); all_goals ((exact sc_eq hk2.symm))) (by rfl)⟩
              have : t = 2 * i + 1 ∨ t = 2 * i + 2 := by omega
              rcases this with rfl | rfl
              · rw [hy2] at hy; rw [hy1] at hz; injection hy with hy; injection hz with hz; omega
              · rw [hy] at hz; injection hz with hz; omega
            · have hlt2 : ¬ y2 < y1 := by simpa using hc3
              refine ⟨2 * i + 1, hjoin _ (.inl rfl) hch fun y hy t z ht htp htl hz => ?_, by refine Weak.by [(0, some _), (1, some _), (2, some _), (3, some _), (4, some _), (5, some _), (6, some _)] (by ((repeat' first | exact rfl | exact trivial | refine And.intro ?_ ?_) <;> (repeat' first | exact rfl | exact trivial | refine And.intro ?_ ?_)); all_goals ((exact sc_eq hk1.symm))) (by ((repeat' first | exact rfl | exact trivial | refine And.intro ?_ ?_) <;> (repeat' first | exact rfl | exact trivial | refine And.intro ?_ ?_)); all_goals ((exact sc_eq hk1.symm))) (by rfl)⟩
              have : t = 2 * i + 1 ∨ t = 2 * i + 2 := by omega
              rcases this with rfl | rfl
              · rw [hy] at hz; injection hz with hz; omega
              · rw [hy1] at hy; rw [hy2] at hz; injection hy with hy; injection hz with hz; omega
          · have hch2 : ¬ 2 * i + 2 < last := by simp at hc2; omega
            refine Seg.by (by kernel_rfl) ?_
            refine JoinP.intro (α := Nat) (fun k => (k = 2 * i + 1 ∨ k = 2 * i + 2) ∧ k < last ∧ ∀ y, c[k]? = some y → ∀ t z, 0 < t → (t - 1) / 2 = i → t < last → c[t]? = some z → y ≤ z) (fun k => [(0, .ptr 4 0), (3, .sl 5 none (some (0, last))), (4, .s (.i .i64 out)), (5, .s (.i .i64 last)), (6, .s (.i .i64 i)), (7, .s (.i .i64 k)), (1000002, .ptr 0 0), (1000003, .ptr 1 0), (1000004, .ptr 4 0), (1000006, .sl 6 none none)])
              (fun k => [(0, some (.blk [.nils, .nils, .nils])), (1, some (.blk [.sl 2 none none, .sl 3 none none])), (2, some (.nest true 1 (rowsI N) [] [])), (3, some (.flat true 1 (bools G))), (4, some (.blk [.sl 5 none none])), (5, some (.flat true 1 (ints c))), (6, some (.flat true 4 (stps st)))]) 7 ?_ ?_
            rotate_left
            · rintro k ⟨hkk, hkl, hM⟩
              obtain ⟨y, hy⟩ : ∃ y, c[k]? = some y := ⟨_, List.getElem?_eq_getElem (by have := hsf.len; omega)⟩
              have hmin := hM y hy
              refine Idx.by i rfl (by omega) ?_
              refine Look.by _ (by rw [Nat.zero_add]; exact ints_get hx) ?_
              refine Idx.by k rfl (by omega) ?_
              refine Look.by _ (by rw [Nat.zero_add]; exact ints_get hy) ?_
              refine Seg.by (by kernel_rfl) ?_
              refine Pick.by (fun hc4 => ?_) (fun hc4 => ?_)
              · have hle : x ≤ y := by simpa using hc4
                refine ⟨c, ⟨hcm, hsf.len, hsf.perm, sift_done hsf fun t u v ht htp hu hv => ?_⟩, by refine Weak.by [(0, some _), (1, some _), (2, some _), (3, some _), (4, some _), (5, some _), (6, some _)] (by ((repeat' first | exact rfl | exact trivial | refine And.intro ?_ ?_) <;> (repeat' first | exact rfl | exact trivial | refine And.intro ?_ ?_))) (by ((repeat' first | exact rfl | exact trivial | refine And.intro ?_ ?_) <;> (repeat' first | exact rfl | exact trivial | refine And.intro ?_ ?_))) (by rfl)⟩
                have htk : t < last := by
                  have := (List.getElem?_eq_some_iff.1 hv).1
                  rw [List.length_take] at this
                  omega
                rw [tk_get (by omega), hx] at hu
                injection hu with hu
                have := hmin t v ht htp htk (by rw [← tk_get htk]; exact hv)
                omega
              · have hlt : y < x := by simpa using hc4
                refine Idx.by k rfl (by omega) ?_
                refine Look.by _ (by rw [Nat.zero_add]; exact ints_get hy) ?_
                refine Idx.by i rfl (by omega) ?_
                refine Look.by _ (by rw [Nat.zero_add]; exact ints_get hx) ?_
                refine Idx.by i rfl (by omega) ?_
                refine Look.by _ (by rw [Nat.zero_add]; exact ints_get hx) ?_
                refine Idx.by k rfl (by omega) ?_
                refine Look.by _ (by rw [Nat.zero_add, Nat.zero_add, List.getElem?_set_ne (by omega)]; exact ints_get hy) ?_
                refine Seg.by (by kernel_rfl) ?_
                refine Next.by (k, (c.set i y).set k x) ⟨sift_step hsf (by omega) (by omega) hkl hx hy hlt hmin, by dsimp only; omega, by rw [List.length_set, List.length_set]; exact hcm⟩ (by dsimp only; omega) (by refine Weak.by [(0, some _), (1, some _), (2, some _), (3, some _), (4, some _), (5, some _), (6, some _)] (by ((repeat' first | exact rfl | exact trivial | refine And.intro ?_ ?_) <;> (repeat' first | exact rfl | exact trivial | refine And.intro ?_ ?_)); all_goals ((rw [Nat.zero_add, Nat.zero_add, ints_set, ints_set]; rfl))) (by ((repeat' first | exact rfl | exact trivial | refine And.intro ?_ ?_) <;> (repeat' first | exact rfl | exact trivial | refine And.intro ?_ ?_)); all_goals ((rw [Nat.zero_add, Nat.zero_add, ints_set, ints_set]; rfl))) (by rfl))
            refine ⟨2 * i + 1, hjoin _ (.inl rfl) hch fun y hy t z ht htp htl hz => ?_, by refine Weak.by [(0, some _), (1, some _), (2, some _), (3, some _), (4, some _), (5, some _), (6, some _)] (by ((repeat' first | exact rfl | exact trivial | refine And.intro ?_ ?_) <;> (repeat' first | exact rfl | exact trivial | refine And.intro ?_ ?_)); all_goals ((exact sc_eq hk1.symm))) (by ((repeat' first | exact rfl | exact trivial | refine And.intro ?_ ?_) <;> (repeat' first | exact rfl | exact trivial | refine And.intro ?_ ?_)); all_goals ((exact sc_eq hk1.symm))) (by rfl)⟩
            have : t = 2 * i + 1 := by omega
            rw [this, hy] at hz; injection hz with hz; omega
        · have hch : ¬ 2 * i + 1 < last := by simp at hc1; omega
          refine ⟨c, ⟨hcm, hsf.len, hsf.perm, sift_done hsf fun t u v ht htp hu hv => ?_⟩, by refine Weak.by [(0, some _), (1, some _), (2, some _), (3, some _), (4, some _), (5, some _), (6, some _)] (by ((repeat' first | exact rfl | exact trivial | refine And.intro ?_ ?_) <;> (repeat' first | exact rfl | exact trivial | refine And.intro ?_ ?_))) (by ((repeat' first | exact rfl | exact trivial | refine And.intro ?_ ?_) <;> (repeat' first | exact rfl | exact trivial | refine And.intro ?_ ?_))) (by rfl)⟩
          have := (List.getElem?_eq_some_iff.1 hv).1
          rw [List.length_take] at this
          omega
      · have hz : l.length = 0 := by rw [ints_length, hlm] at hc; simpa using hc
        have hno : ∀ u, mayB N G u ≠ true := fun u hu => by
          have := hm u hu
          rw [List.eq_nil_of_length_eq_zero hz] at this
          simp at this
        rw [runS_end (firstMay_none hno), List.append_nil] at hrun
        rw [hrun]
        have hst4 : st.length ≤ 1000 := by omega
        have hGN := hW.len
        have hmo := hW.most
        have hNL := rowsI_length N
        refine LoopP.intro (α := Nat) (fun j => j ≤ N.length) (fun j => N.length - j) (fun j => [(2, .ptr 2 0), (4, .ptr 1 0), (5, .ptr 3 0), (13, .sl 4 none none), (14, .s (.i .i64 N.length)), (15, .s (.i .i64 j)), (1000002, .ptr 0 0)])
          (fun j => [(0, some (.blk [.nils, .nils, .nils])), (1, some (.blk [.nils, .nils, .nils])), (2, some (.blk [.sl 4 none none, .sl 5 none none])), (3, some (.blk [.sl 6 none none, .sl 7 none none, .sl 8 none none])), (4, some (.nest true 1 (rowsI N) [] [])), (5, some (.flat true 1 (bools G))), (6, some (.flat true 4 (stps st))), (7, some (.flat true 1 (ints (leftK G j)))), (8, some (.flat true 2 (edges (edgesK N G j))))]) 9 0 (by omega) (by refine Weak.by [(0, some _), (1, some _), (2, some _), (3, some _), (4, some _), (5, some _), (6, some _), (7, none), (8, none)] (by ((repeat' first | exact rfl | exact trivial | refine And.intro ?_ ?_) <;> (repeat' first | exact rfl | exact trivial | refine And.intro ?_ ?_)); all_goals ((first | (rw [hNL]; rfl) | done))) (by ((repeat' first | exact rfl | exact trivial | refine And.intro ?_ ?_) <;> (repeat' first | exact rfl | exact trivial | refine And.intro ?_ ?_)); all_goals ((first | (rw [hNL]; rfl) | done))) (by rfl)) ?_
        rintro j hj
        have hlk := leftK_len G j
        have hek := edgesK_len hW j
        refine Pick.by (fun hd1 => ?_) (fun hd1 => ?_)
        · have hjl : j < N.length := by simpa using hd1
          have hgj : (bools G)[j]? = some [.b (G.getD j false)] := by
            refine bools_get ?_
            rw [List.getD_eq_getElem?_getD, List.getElem?_eq_getElem (by omega)]; rfl
          have hrj : (rowsI N)[j]? = some (ints (rowAt N j)) := by
            have := (rowAt_mem (N := N) (v := (j : Int)) (by omega) (by omega)).2
            exact rowsI_get this
          have hrl := hW.row_len (j : Int)
          refine Idx.by j rfl (by omega) ?_
          refine Pick.T (by rw [hNL]; simp; omega) ?_
          refine Idx.by j rfl (by rw [bools_length]; omega) ?_
          refine Look.by _ hgj ?_
          refine Pick.by (fun hd2 => ?_) (fun hd2 => ?_)
          · have hd2 : G.getD j false = true := hd2
            refine Pick.T (inI64_of (by omega) (by omega)) ?_
            refine Next.by (j + 1) (by omega) (by omega) (by refine Weak.by [(0, some _), (1, some _), (2, some _), (3, some _), (4, some _), (5, some _), (6, some _), (7, some _), (8, some _)] (by ((repeat' first | exact rfl | exact trivial | refine And.intro ?_ ?_) <;> (repeat' first | exact rfl | exact trivial | refine And.intro ?_ ?_)); all_goals ((first | (rw [leftK_succ, if_pos hd2, List.append_nil]) | (rw [edgesK_succ, if_pos hd2, List.append_nil])))) (by ((repeat' first | exact rfl | exact trivial | refine And.intro ?_ ?_) <;> (repeat' first | exact rfl | exact trivial | refine And.intro ?_ ?_)); all_goals ((first | (rw [leftK_succ, if_pos hd2, List.append_nil]) | (rw [edgesK_succ, if_pos hd2, List.append_nil])))) (by rfl))
          have hd2 : G.getD j false = false := hd2
          have hl1 : leftK G (j + 1) = leftK G j ++ [(j : Int)] := by rw [leftK_succ, if_neg (by rw [hd2]; simp)]
          have he1 : edgesK N G (j + 1) = edgesK N G j ++ outE N j := by rw [edgesK_succ, if_neg (by rw [hd2]; simp)]
          refine Pick.T (by simp [cut, ints_length]; omega) ?_
          refine Look.by _ hrj ?_
          refine LoopP.intro (α := Nat) (fun k => k ≤ (rowAt N j).length) (fun k => (rowAt N j).length - k) (fun k => [(2, .ptr 2 0), (4, .ptr 1 0), (5, .ptr 3 0), (6, .s (.i .i64 j)), (13, .sl 4 none none), (14, .s (.i .i64 N.length)), (15, .s (.i .i64 j)), (31, .sl 4 (some (j, 0)) none), (32, .s (.i .i64 (rowAt N j).length)), (33, .s (.i .i64 k)), (1000002, .ptr 0 0)])
            (fun k => [(0, some (.blk [.nils, .nils, .nils])), (1, some (.blk [.nils, .nils, .nils])), (2, some (.blk [.sl 4 none none, .sl 5 none none])), (3, some (.blk [.sl 6 none none, .sl 7 none none, .sl 8 none none])), (4, some (.nest true 1 (rowsI N) [] [])), (5, some (.flat true 1 (bools G))), (6, some (.flat true 4 (stps st))), (7, some (.flat true 1 (ints (leftK G (j + 1))))), (8, some (.flat true 2 (edges (edgesK N G j ++ (((rowAt N j).take k).filter fun x => decide (x > (j : Int))).map fun x => ((j : Int), x)))))]) 9 0 (by omega) (by refine Weak.by [(0, some _), (1, some _), (2, some _), (3, some _), (4, some _), (5, some _), (6, some _), (7, some _), (8, some _)] (by ((repeat' first | exact rfl | exact trivial | refine And.intro ?_ ?_) <;> (repeat' first | exact rfl | exact trivial | refine And.intro ?_ ?_)); all_goals ((first | (rw [hl1, ints_snoc]; rfl) | (rw [List.take_zero]; simp; done) | (rw [ints_length]; rfl) | (simp; done)))) (by ((repeat' first | exact rfl | exact trivial | refine And.intro ?_ ?_) <;> (repeat' first | exact rfl | exact trivial | refine And.intro ?_ ?_)); all_goals ((first | (rw [hl1, ints_snoc]; rfl) | (rw [List.take_zero]; simp; done) | (rw [ints_length]; rfl) | (simp; done)))) (by rfl)) ?_
          rintro k hk
          have hpl : ((((rowAt N j).take k).filter fun x => decide (x > (j : Int))).map fun x => ((j : Int), x)).length ≤ 1000 := by
            rw [List.length_map]
            refine Nat.le_trans (List.length_filter_le _ _) ?_
            rw [List.length_take]; omega
          refine Pick.by (fun hd3 => ?_) (fun hd3 => ?_)
          · have hkl : k < (rowAt N j).length := by simpa using hd3
            obtain ⟨x, hx⟩ : ∃ x, (rowAt N j)[k]? = some x := ⟨_, List.getElem?_eq_getElem hkl⟩
            have hxe : (rowAt N j)[k] = x := by rw [List.getElem?_eq_getElem hkl] at hx; injection hx
            refine Look.by _ hrj ?_
            refine Idx.by k rfl (by rw [ints_length]; exact hkl) ?_
            refine Look.by _ hrj ?_
            refine Look.by _ (ints_get hx) ?_
            refine Pick.by (fun hd4 => ?_) (fun hd4 => ?_)
            · have hd4 : x > (j : Int) := by simpa using hd4
              refine Pick.T (by simp [cut, edges_length] at hpl ⊢; omega) ?_
              refine Pick.T (inI64_of (by omega) (by omega)) ?_
              refine Next.by (k + 1) (by omega) (by omega) (by refine Weak.by [(0, some _), (1, some _), (2, some _), (3, some _), (4, some _), (5, some _), (6, some _), (7, some _), (8, some _)] (by ((repeat' first | exact rfl | exact trivial | refine And.intro ?_ ?_) <;> (repeat' first | exact rfl | exact trivial | refine And.intro ?_ ?_)); all_goals ((first | (rw [List.take_succ_eq_append_getElem hkl, hxe, List.filter_append, List.map_append, List.filter_cons, if_pos (by simpa using hd4), List.filter_nil, ← List.append_assoc]; exact edges_snoc _ _) | (simp; done)))) (by ((repeat' first | exact rfl | exact trivial | refine And.intro ?_ ?_) <;> (repeat' first | exact rfl | exact trivial | refine And.intro ?_ ?_)); all_goals ((first | (rw [List.take_succ_eq_append_getElem hkl, hxe, List.filter_append, List.map_append, List.filter_cons, if_pos (by simpa using hd4), List.filter_nil, ← List.append_assoc]; exact edges_snoc _ _) | (simp; done)))) (by rfl))
            · have hd4 : ¬ x > (j : Int) := by simpa using hd4
              refine Pick.T (inI64_of (by omega) (by omega)) ?_
              refine Next.by (k + 1) (by omega) (by omega) (by refine Weak.by [(0, some _), (1, some _), (2, some _), (3, some _), (4, some _), (5, some _), (6, some _), (7, some _), (8, some _)] (by ((repeat' first | exact rfl | exact trivial | refine And.intro ?_ ?_) <;> (repeat' first | exact rfl | exact trivial | refine And.intro ?_ ?_)); all_goals ((first | (rw [List.take_succ_eq_append_getElem hkl, hxe, List.filter_append, List.map_append, List.filter_cons, if_neg (by simpa using hd4), List.filter_nil, List.map_nil, List.append_nil]) | (simp; done)))) (by ((repeat' first | exact rfl | exact trivial | refine And.intro ?_ ?_) <;> (repeat' first | exact rfl | exact trivial | refine And.intro ?_ ?_)); all_goals ((first | (rw [List.take_succ_eq_append_getElem hkl, hxe, List.filter_append, List.map_append, List.filter_cons, if_neg (by simpa using hd4), List.filter_nil, List.map_nil, List.append_nil]) | (simp; done)))) (by rfl))
          · have hkl : k = (rowAt N j).length := by simp at hd3; omega
            have hfull : edgesK N G (j + 1) = edgesK N G j ++ (((rowAt N j).take k).filter fun x => decide (x > (j : Int))).map fun x => ((j : Int), x) := by rw [he1, hkl, List.take_length]; rfl
            refine Pick.T (inI64_of (by omega) (by omega)) ?_
            refine Next.by (j + 1) (by omega) (by omega) (by refine Weak.by [(0, some _), (1, some _), (2, some _), (3, some _), (4, some _), (5, some _), (6, some _), (7, some _), (8, some _)] (by ((repeat' first | exact rfl | exact trivial | refine And.intro ?_ ?_) <;> (repeat' first | exact rfl | exact trivial | refine And.intro ?_ ?_)); all_goals ((rw [hfull]))) (by ((repeat' first | exact rfl | exact trivial | refine And.intro ?_ ?_) <;> (repeat' first | exact rfl | exact trivial | refine And.intro ?_ ?_)); all_goals ((rw [hfull]))) (by rfl))
        have hjl : j = N.length := by simp at hd1; omega
        subst hjl
        have e1 : leftF G = leftK G N.length := by unfold leftF leftK; rw [hGN]
        have e2 : edgesF N G = edgesK N G N.length := by unfold edgesF edgesK; rw [e1]
        refine ⟨rfl, ?_⟩
        (repeat' first | exact rfl | exact trivial | refine And.intro ?_ ?_)
        all_goals (first | exact congrArg ints e1 | exact congrArg edges e2)
    · have hlm : m.take L = cut (some (0, L)) m := rfl
      generalize cut (some (0, L)) m = l at *
      have hLl : l.length = L := by rw [← hlm, List.length_take]; omega
      have hget : ∀ j, j < L → l[j]? = m[j]? := fun j hj => by rw [← hlm, List.getElem?_take, if_pos hj]
      refine Pick.by (fun hc => ?_) (fun hc => ?_)
      · have hpos : 0 < l.length := by rw [hLl]; simpa using hc
        obtain ⟨out, hout⟩ : ∃ a, l[0]? = some a := ⟨_, List.getElem?_eq_getElem hpos⟩
        obtain ⟨last, hlst⟩ : ∃ k, l.length = k + 1 := ⟨l.length - 1, by omega⟩
        obtain ⟨top, htop⟩ : ∃ a, l[last]? = some a := ⟨_, List.getElem?_eq_getElem (by omega)⟩
        have hlast : (L : Int) - 1 = (last : Int) := by omega
        have hout2 : m[0]? = some out := by rw [← hget 0 (by omega)]; exact hout
        have htop2 : m[last]? = some top := by rw [← hget last (by omega)]; exact htop
        have hsift : Sift l out last (m.set 0 top) 0 := by
          have e : (m.set 0 top).take last = (l.set 0 top).take last := by
            rw [← hlm, List.take_set, List.take_set, List.take_take, Nat.min_eq_left (by omega)]
          exact ⟨by rw [List.length_set]; omega, by rw [e]; exact take_perm hout htop hlst, by rw [e]; exact dn_start hH _⟩
        refine Idx.by 0 rfl (by omega) ?_
        refine Look.by _ (ints_get hout2) ?_
        refine Pick.T (by rw [hlast]; exact inI64_of (by omega) (by omega)) ?_
        refine Idx.by last hlast (by omega) ?_
        refine Look.by _ (by rw [Nat.zero_add]; exact ints_get htop2) ?_
        refine Idx.by 0 rfl (by omega) ?_
        refine Look.by _ (ints_get hout2) ?_
        refine Rng.by 0 last rfl hlast (by omega) (by omega) ?_
        refine JoinP.intro (α := List Int) (fun c => c.length = m.length ∧ last ≤ c.length ∧ (out :: c.take last).Perm l ∧ Heap (c.take last)) (fun c => [(0, .ptr 4 0), (3, .sl 5 none (some (0, last))), (4, .s (.i .i64 out)), (1000002, .ptr 0 0), (1000003, .ptr 1 0), (1000004, .ptr 4 0), (1000006, .sl 6 none none)])
          (fun c => [(0, some (.blk [.nils, .nils, .nils])), (1, some (.blk [.sl 2 none none, .sl 3 none none])), (2, some (.nest true 1 (rowsI N) [] [])), (3, some (.flat true 1 (bools G))), (4, some (.blk [.sl 5 none (some (0, L))])), (5, some (.flat true 1 (ints c))), (6, some (.flat true 4 (stps st)))]) 7 ?_ ?_
        rotate_left
        · rintro c ⟨hcm, hlc, hperm, hHc⟩
          have hGN := hW.len
          have hq0 : ∀ v, v ∈ c.take last → v ∈ l := fun v hv => hperm.mem_iff.1 (List.mem_cons_of_mem _ hv)
          have hq1 : ∀ v, v ∈ l → v = out ∨ v ∈ c.take last := fun v hv => by simpa using hperm.mem_iff.2 hv
          have hqr : ∀ v ∈ c.take last, 0 ≤ v ∧ v < n := fun v hv => hr v (hq0 v hv)
          have hqc : cut (some (0, last)) c = c.take last := rfl
          have hqlen : (c.take last).length = last := by rw [List.length_take]; omega
          have hor := hr out (List.mem_of_getElem? hout)
          refine Call.by _ _ (MayC_at out hGN) ?_
          refine Pick.by (fun hmy => ?_) (fun hmy => ?_)
          · have hmy : mayB N G out = false := by have hmy : (!mayB N G out) = true := hmy; simpa using hmy
            refine Next.by (st, N, G, some (0, last), c) ⟨hW, hNl, hrun, hlive, .inr ⟨last, rfl, hlc⟩, by dsimp only; omega, by dsimp only; rw [hqc]; omega, hHc, hqr, fun v hv => ?_⟩ (by dsimp only; rw [hqc]; omega) (by refine Weak.by [(0, some _), (1, some _), (2, some _), (3, some _), (4, some _), (5, some _), (6, some _)] (by ((repeat' first | exact rfl | exact trivial | refine And.intro ?_ ?_) <;> (repeat' first | exact rfl | exact trivial | refine And.intro ?_ ?_))) (by ((repeat' first | exact rfl | exact trivial | refine And.intro ?_ ?_) <;> (repeat' first | exact rfl | exact trivial | refine And.intro ?_ ?_))) (by rfl))
            rcases hq1 v (hm v hv) with e | e
            · rw [e, hmy] at hv; cases hv
            · exact e
          have hmy : mayB N G out = true := by have hmy : (!mayB N G out) = false := hmy; simpa using hmy
          have hmp := mayB_iff.1 hmy
          obtain ⟨hs1, hs2⟩ := step_two hW hmp rfl
          refine Call.by _ _ (StepC_at ⟨hW, hmp.lo, hmp.hi⟩) ?_
          have hlo := hmp.lo
          have hhi := hmp.hi
          have hrv := hW.rows out
          have hnd : (rowAt N out).Nodup := hrv.1.imp fun hab => by omega
          have hNL := rowsI_length N
          have hmo := hW.most
          have hrl := hW.row_len out
          have hgv : (rowsI N)[(out).toNat]? = some (ints (rowAt N out)) := rowsI_get (rowAt_mem hlo hhi).2
          have hvv : out ∉ rowAt N out := hW.irr out hlo
          have hpart : ∀ (di : Nat) (u : Int), 0 ≤ u → rowAt (((rowAt N out).take di).foldl (cutF out) N) u = if u ∈ (rowAt N out).take di then (rowAt N u).erase out else rowAt N u := fun di u hu => cuts_row (hnd.sublist (List.take_sublist _ _)) (fun x hx => hrv.2 x (List.mem_of_mem_take hx)) hu
          have hplen : ∀ di : Nat, (rowsI (((rowAt N out).take di).foldl (cutF out) N)).length = N.length := fun di => by rw [rowsI_length, cuts_length]
          have hpget : ∀ (di : Nat) (u : Int), 0 ≤ u → u < N.length → (rowsI (((rowAt N out).take di).foldl (cutF out) N))[u.toNat]? = some (ints (rowAt (((rowAt N out).take di).foldl (cutF out) N) u)) := fun di u h0 h1 => rowsI_get (rowAt_mem h0 (by rw [cuts_length]; exact h1)).2
          refine Idx.by (out).toNat (by show (out : Int) = _; omega) (by omega) ?_
          refine Pick.T (by rw [hNL]; simp; omega) ?_
          refine Look.by _ hgv ?_
          refine LoopP.intro (α := Nat) (fun di => di ≤ (rowAt N out).length) (fun di => (rowAt N out).length - di) (fun di => [(2, .ptr 8 0), (3, .ptr 9 0), (11, .sl 2 (some ((out).toNat, 0)) none), (12, .s (.i .i64 (rowAt N out).length)), (13, .s (.i .i64 di)), (1000002, .ptr 0 0), (1000003, .ptr 1 0), (1000004, .ptr 4 0), (1000006, .sl 6 none none), (1000008, .ptr 7 0)])
            (fun di => [(0, some (.blk [.nils, .nils, .nils])), (1, some (.blk [.sl 2 none none, .sl 3 none none])), (4, some (.blk [.sl 5 none (some (0, last))])), (5, some (.flat true 1 (ints c))), (6, some (.flat true 4 (stps st))), (7, some (.blk [.s (.i .i64 (stepF N out).1), .s (.i .i64 (stepF N out).2.1), .s (.i .i64 (stepF N out).2.2.1), .s (.b (stepF N out).2.2.2)])), (2, some (.nest true 1 (rowsI (((rowAt N out).take di).foldl (cutF out) N)) [] [])), (3, some (.flat true 1 (bools G))), (8, some (.blk [.sl 2 none none, .sl 3 none none])), (9, some (.blk [.s (.i .i64 (stepF N out).1), .s (.i .i64 (stepF N out).2.1), .s (.i .i64 (stepF N out).2.2.1), .s (.b (stepF N out).2.2.2)]))]) 10 0 (by omega) (by refine Weak.by [(0, some _), (1, some _), (2, some _), (3, some _), (4, some _), (5, some _), (6, some _), (7, some _), (8, some _), (9, some _)] (by ((repeat' first | exact rfl | exact trivial | refine And.intro ?_ ?_) <;> (repeat' first | exact rfl | exact trivial | refine And.intro ?_ ?_)); all_goals ((first | (rw [ints_length]; rfl) | (simp; done)))) (by ((repeat' first | exact rfl | exact trivial | refine And.intro ?_ ?_) <;> (repeat' first | exact rfl | exact trivial | refine And.intro ?_ ?_)); all_goals ((first | (rw [ints_length]; rfl) | (simp; done)))) (by rfl)) ?_
          rintro di hi
          refine Pick.by (fun hc1 => ?_) (fun hc1 => ?_)
          · have hil : di < (rowAt N out).length := by simpa using hc1
            obtain ⟨x, hx⟩ : ∃ x, (rowAt N out)[di]? = some x := ⟨_, List.getElem?_eq_getElem hil⟩
            have hxm := List.mem_of_getElem? hx
            have hxr := hrv.2 x hxm
            have hxv : x ≠ out := fun e => hvv (e ▸ hxm)
            have hgi : (rowsI (((rowAt N out).take di).foldl (cutF out) N))[(out).toNat]? = some (ints (rowAt N out)) := by
              rw [hpget di out hlo hhi, hpart di out hlo, if_neg fun h => hvv (List.mem_of_mem_take h)]
            have hrx := hpget di x hxr.1 hxr.2
            have hstp : ((rowAt N out).take (di + 1)).foldl (cutF out) N = cutF out (((rowAt N out).take di).foldl (cutF out) N) x := by
              rw [List.take_succ_eq_append_getElem hil, List.foldl_append]
              have : (rowAt N out)[di] = x := by rw [List.getElem?_eq_getElem hil] at hx; injection hx
              rw [this]; rfl
            have hwx : (rowAt (((rowAt N out).take di).foldl (cutF out) N) x).Pairwise (· ≤ ·) ∧ (rowAt (((rowAt N out).take di).foldl (cutF out) N) x).length ≤ 1000000 := by
              have h1 := hW.rows x
              have h2 := hW.row_len x
              rw [hpart di x hxr.1]
              split
              · have h3 := List.length_erase_le (l := rowAt N x) (a := out)
                exact ⟨(erase_sorted h1.1).imp fun h => by omega, by omega⟩
              · exact ⟨h1.1.imp fun h => by omega, by omega⟩
            have hpl := hplen di
            refine Look.by _ hgi ?_
            refine Idx.by di rfl (by rw [ints_length]; exact hil) ?_
            refine Look.by _ hgi ?_
            refine Look.by _ (ints_get hx) ?_
            refine Idx.by x.toNat (by omega) (by omega) ?_
            refine Pick.T (by rw [hpl]; simp; omega) ?_
            refine Look.by _ hrx ?_
            refine Call.by _ _ (turnC_at hwx) ?_
            refine Idx.by x.toNat (by omega) (by omega) ?_
            refine Pick.T (by rw [hpl]; simp; omega) ?_
            refine Pick.T (by simp) ?_
            refine Seg.by (by kernel_rfl) ?_
            refine Pick.T (inI64_of (by omega) (by omega)) ?_
            refine Next.by (di + 1) (by omega) (by omega) (by refine Weak.by [(0, some _), (1, some _), (2, some _), (3, some _), (4, some _), (5, some _), (6, some _), (7, some _), (8, some _), (9, some _)] (by ((repeat' first | exact rfl | exact trivial | refine And.intro ?_ ?_) <;> (repeat' first | exact rfl | exact trivial | refine And.intro ?_ ?_)); all_goals ((first | (rw [hstp]; unfold cutF; rw [rowsI_set]; rfl) | (simp; done) | (simp; omega)))) (by ((repeat' first | exact rfl | exact trivial | refine And.intro ?_ ?_) <;> (repeat' first | exact rfl | exact trivial | refine And.intro ?_ ?_)); all_goals ((first | (rw [hstp]; unfold cutF; rw [rowsI_set]; rfl) | (simp; done) | (simp; omega)))) (by rfl))
          have hil : di = (rowAt N out).length := by simp at hc1; omega
          subst hil
          rw [List.take_length]
          have hN1 : ∀ u : Int, 0 ≤ u → rowAt ((rowAt N out).foldl (cutF out) N) u = (rowAt N u).erase out := fun u hu => by
            rw [cuts_row hnd hrv.2 hu]
            split
            · rfl
            · rename_i hno
              rw [List.erase_of_not_mem]
              exact fun h => hno (hW.sym u out hu hlo h)
          have hl1 : (rowsI ((rowAt N out).foldl (cutF out) N)).length = N.length := by rw [rowsI_length, cuts_length]
          refine JoinP.intro (α := Unit) (fun _ => True) (fun _ => [(2, .ptr 8 0), (3, .ptr 9 0), (1000002, .ptr 0 0), (1000003, .ptr 1 0), (1000004, .ptr 4 0), (1000006, .sl 6 none none), (1000008, .ptr 7 0)])
            (fun _ => [(0, some (.blk [.nils, .nils, .nils])), (1, some (.blk [.sl 2 none none, .sl 3 none none])), (4, some (.blk [.sl 5 none (some (0, last))])), (5, some (.flat true 1 (ints c))), (6, some (.flat true 4 (stps st))), (7, some (.blk [.s (.i .i64 (stepF N out).1), .s (.i .i64 (stepF N out).2.1), .s (.i .i64 (stepF N out).2.2.1), .s (.b (stepF N out).2.2.2)])), (2, some (.nest true 1 (rowsI (if (stepF N out).2.2.2 then joinF (joinF ((rowAt N out).foldl (cutF out) N) (stepF N out).2.1 (stepF N out).2.2.1) (stepF N out).2.2.1 (stepF N out).2.1 else (rowAt N out).foldl (cutF out) N)) [] [])), (3, some (.flat true 1 (bools G))), (8, some (.blk [.sl 2 none none, .sl 3 none none])), (9, some (.blk [.s (.i .i64 (stepF N out).1), .s (.i .i64 (stepF N out).2.1), .s (.i .i64 (stepF N out).2.2.1), .s (.b (stepF N out).2.2.2)]))]) 10 ?_ ?_
          rotate_left
          · rintro ⟨⟩ -
            have hl2 : (rowsI (if (stepF N out).2.2.2 then joinF (joinF ((rowAt N out).foldl (cutF out) N) (stepF N out).2.1 (stepF N out).2.2.1) (stepF N out).2.2.1 (stepF N out).2.1 else (rowAt N out).foldl (cutF out) N)).length = N.length := by
              rw [rowsI_length]
              split
              · rw [joinF_length, joinF_length, cuts_length]
              · rw [cuts_length]
            have hdo : (rowsI (if (stepF N out).2.2.2 then joinF (joinF ((rowAt N out).foldl (cutF out) N) (stepF N out).2.1 (stepF N out).2.2.1) (stepF N out).2.2.1 (stepF N out).2.1 else (rowAt N out).foldl (cutF out) N)).set (out).toNat [] = rowsI (doN N (stepF N out)) := by
              unfold doN
              rw [rowsI_set]; rfl
            have hdg : (bools G).set (out).toNat [.b true] = bools (doG G (stepF N out)) := by
              unfold doG bools
              rw [List.map_set]; rfl
            generalize rowsI (if (stepF N out).2.2.2 then joinF (joinF ((rowAt N out).foldl (cutF out) N) (stepF N out).2.1 (stepF N out).2.2.1) (stepF N out).2.2.1 (stepF N out).2.1 else (rowAt N out).foldl (cutF out) N) = RR at hl2 hdo ⊢
            refine Idx.by (out).toNat (by show (out : Int) = _; omega) (by omega) ?_
            refine Pick.T (by rw [hl2]; simp; omega) ?_
            refine Idx.by (out).toNat (by show (out : Int) = _; omega) (by rw [bools_length, hW.len]; omega) ?_
            refine Look.by _ (bools_get (goneAt_get hW.len hlo hhi)) ?_
            refine Seg.by (by kernel_rfl) ?_
            have hW2 := do_wf hW hmp
            have hNl2 : (doN N (stepF N out)).length = n.toNat := by rw [doN_length]; exact hNl
            have hGN2 : (doG G (stepF N out)).length = (doN N (stepF N out)).length := hW2.len
            have hlv := live_step hW hmp
            have hst4 : st.length + 1 ≤ n.toNat := by omega
            have hrun2 := run_step hrun hW hmy hst4 (fun v hv => heap_least hHc hH hout hperm hm hv)
            have hmay2 : ∀ v, mayB (doN N (stepF N out)) (doG G (stepF N out)) v = true → v ∈ c.take last ∨ v = (stepF N out).2.1 ∨ v = (stepF N out).2.2.1 := fun v hv => may_step hW hmp hs2 hv fun h2 hne => (hq1 v (hm v h2)).elim (fun e => absurd e hne) id
            generalize hN2 : doN N (stepF N out) = N2 at *
            generalize hG2 : doG G (stepF N out) = G2 at *
            generalize hsG : stepF N out = s at *
            refine Pick.T (by simp [cut, stps_length]; omega) ?_
            refine LoopP.intro (α := Nat × Option (Nat × Nat) × List Int) (fun a => a.1 ≤ 2 ∧ (a.2.1 = none ∨ ∃ L, a.2.1 = some (0, L) ∧ L ≤ a.2.2.length) ∧ a.2.2.length ≤ 4000 ∧ (cut a.2.1 a.2.2).length ≤ last + a.1 ∧ Heap (cut a.2.1 a.2.2) ∧ (∀ v ∈ cut a.2.1 a.2.2, 0 ≤ v ∧ v < n) ∧ ∀ v : Int, mayB N2 G2 v = true → v ∈ cut a.2.1 a.2.2 ∨ (a.1 ≤ 0 ∧ v = s.2.1) ∨ (a.1 ≤ 1 ∧ v = s.2.2.1)) (fun a => 2 - a.1) (fun a => [(2, .ptr 0 0), (3, .ptr 1 0), (4, .ptr 4 0), (6, .sl 6 none none), (51, .sl 7 none none), (52, .s (.i .i64 2)), (53, .s (.i .i64 a.1))])
              (fun a => [(0, some (.blk [.nils, .nils, .nils])), (1, some (.blk [.sl 2 none none, .sl 3 none none])), (2, some (.nest true 1 (rowsI N2) [] [])), (3, some (.flat true 1 (bools G2))), (4, some (.blk [.sl 5 none a.2.1])), (5, some (.flat true 1 (ints a.2.2))), (6, some (.flat true 4 (stps (st ++ [s])))), (7, some (.flat true 1 (ints [s.2.1, s.2.2.1])))]) 8 (0, some (0, last), c)
              ⟨by dsimp only; omega, .inr ⟨last, rfl, hlc⟩, by dsimp only; omega, by dsimp only; rw [hqc]; omega, hHc, hqr, fun v hv => (hmay2 v hv).elim .inl fun h => h.elim (fun h => .inr (.inl ⟨by dsimp only; omega, h⟩)) fun h => .inr (.inr ⟨by dsimp only; omega, h⟩)⟩ (by refine Weak.by [(0, some _), (1, some _), (2, some _), (3, some _), (4, some _), (5, some _), (6, some _), (7, some _)] (by ((repeat' first | exact rfl | exact trivial | refine And.intro ?_ ?_) <;> (repeat' first | exact rfl | exact trivial | refine And.intro ?_ ?_)); all_goals ((first | (exact stps_snoc st s) | (exact hdo.symm) | (exact hdg.symm)))) (by ((repeat' first | exact rfl | exact trivial | refine And.intro ?_ ?_) <;> (repeat' first | exact rfl | exact trivial | refine And.intro ?_ ?_)); all_goals ((first | (exact stps_snoc st s) | (exact hdo.symm) | (exact hdg.symm)))) (by rfl)) ?_
            rintro ⟨i, sub2, m2⟩ ⟨hi2, hsub2, hm24, hcl2, hH2, hr2, hmv2⟩
            dsimp only at hi2 hsub2 hm24 hcl2 hH2 hr2 hmv2 ⊢
            refine Pick.by (fun hc5 => ?_) (fun hc5 => ?_)
            · have hi3 : i < 2 := by simp at hc5; omega
              obtain ⟨x, hx⟩ : ∃ x, [s.2.1, s.2.2.1][i]? = some x := ⟨_, List.getElem?_eq_getElem (show i < [s.2.1, s.2.2.1].length from hi3)⟩
              have hxi : (i = 0 ∧ x = s.2.1) ∨ (i = 1 ∧ x = s.2.2.1) := by
                have : i = 0 ∨ i = 1 := by omega
                rcases this with e | e
                · subst e; simp at hx; exact .inl ⟨rfl, hx.symm⟩
                · subst e; simp at hx; exact .inr ⟨rfl, hx.symm⟩
              refine Idx.by i rfl (by rw [ints_length]; exact hi3) ?_
              refine Look.by _ (ints_get hx) ?_
              refine Call.by _ _ (MayC_at x hGN2) ?_
              refine JoinP.intro (α := Option (Nat × Nat) × List Int) (fun b => (b.1 = none ∨ ∃ L, b.1 = some (0, L) ∧ L ≤ b.2.length) ∧ b.2.length ≤ 4000 ∧ (cut b.1 b.2).length ≤ last + i + 1 ∧ Heap (cut b.1 b.2) ∧ (∀ v ∈ cut b.1 b.2, 0 ≤ v ∧ v < n) ∧ ∀ v : Int, mayB N2 G2 v = true → v ∈ cut b.1 b.2 ∨ (i + 1 ≤ 0 ∧ v = s.2.1) ∨ (i + 1 ≤ 1 ∧ v = s.2.2.1)) (fun b => [(2, .ptr 0 0), (3, .ptr 1 0), (4, .ptr 4 0), (6, .sl 6 none none), (51, .sl 7 none none), (52, .s (.i .i64 2)), (53, .s (.i .i64 i))])
                (fun b => [(0, some (.blk [.nils, .nils, .nils])), (1, some (.blk [.sl 2 none none, .sl 3 none none])), (2, some (.nest true 1 (rowsI N2) [] [])), (3, some (.flat true 1 (bools G2))), (4, some (.blk [.sl 5 none b.1])), (5, some (.flat true 1 (ints b.2))), (6, some (.flat true 4 (stps (st ++ [s])))), (7, some (.flat true 1 (ints [s.2.1, s.2.2.1])))]) 8 ?_ ?_
              rotate_left
              · rintro ⟨sub3, m3⟩ hJ
                refine Pick.T (inI64_of (by omega) (by omega)) ?_
                exact Next.by (i + 1, sub3, m3) ⟨by dsimp only; omega, hJ⟩ (by dsimp only; omega) (by refine Weak.by [(0, some _), (1, some _), (2, some _), (3, some _), (4, some _), (5, some _), (6, some _), (7, some _)] (by ((repeat' first | exact rfl | exact trivial | refine And.intro ?_ ?_) <;> (repeat' first | exact rfl | exact trivial | refine And.intro ?_ ?_))) (by ((repeat' first | exact rfl | exact trivial | refine And.intro ?_ ?_) <;> (repeat' first | exact rfl | exact trivial | refine And.intro ?_ ?_))) (by rfl))
              refine Pick.by (fun hc6 => ?_) (fun hc6 => ?_)
              · have hc6 : mayB N2 G2 x = true := hc6
                have hxr2 : 0 ≤ x ∧ x < n := may_range hNl2 hc6
                have hH := hH2
                refine Pick.T (by simp [cut, ints_length]; omega) ?_
                have hraw : cut sub2 (ints m2) = ints (cut sub2 m2) := cut_ints
                have hlen0 : (cut sub2 (ints m2) ++ [[Sc.i .i64 x]]) = ints ((cut sub2 m2) ++ [x]) := by rw [hraw, ints_snoc]
                refine Pick.T (by show inI64 ((((cut sub2 (ints m2) ++ [[Sc.i .i64 x]]).length : Nat) : Int) - 1) = true; rw [hlen0, ints_length]; simp; exact inI64_of (by omega) (by omega)) ?_
                have hlen1 : (((cut sub2 m2).length : Nat) : Int) = (((cut sub2 (ints m2) ++ [[Sc.i .i64 x]]).length : Nat) : Int) - 1 := by rw [hlen0, ints_length]; simp
                refine JoinP.intro (α := List Int) (fun a => Heap a ∧ a.length = (cut sub2 m2).length + 1 ∧ ∀ v, v ∈ a ↔ v ∈ (cut sub2 m2) ∨ v = x) (fun a => [(0, .ptr 4 0), (4, .sl 8 none none), (1000002, .ptr 0 0), (1000003, .ptr 1 0), (1000004, .ptr 4 0), (1000006, .sl 6 none none), (1000051, .sl 7 none none), (1000052, .s (.i .i64 2)), (1000053, .s (.i .i64 i))])
                  (fun a => [(0, some (.blk [.nils, .nils, .nils])), (1, some (.blk [.sl 2 none none, .sl 3 none none])), (2, some (.nest true 1 (rowsI N2) [] [])), (3, some (.flat true 1 (bools G2))), (4, some (.blk [.sl 5 none sub2])), (6, some (.flat true 4 (stps (st ++ [s])))), (7, some (.flat true 1 (ints [s.2.1, s.2.2.1]))), (8, some (.flat true 1 (ints a)))]) 9 ?_ ?_
                rotate_left
                · rintro m ⟨hHm, hml2, hmem⟩
                  exact ⟨(none, m), ⟨.inl rfl, by dsimp only; omega, by show m.length ≤ _; omega, hHm, fun v hv => ((hmem v).1 hv).elim (hr2 v) fun e => by rw [e]; exact hxr2, fun v hv => put_may hxi (hmem v).2 (hmv2 v hv)⟩, by refine Weak.by [(0, some _), (1, some _), (2, some _), (3, some _), (4, some _), (5, some _), (6, some _), (7, some _)] (by ((repeat' first | exact rfl | exact trivial | refine And.intro ?_ ?_) <;> (repeat' first | exact rfl | exact trivial | refine And.intro ?_ ?_))) (by ((repeat' first | exact rfl | exact trivial | refine And.intro ?_ ?_) <;> (repeat' first | exact rfl | exact trivial | refine And.intro ?_ ?_))) (by rfl)⟩
                refine LoopP.intro (α := Nat × List Int) (fun a => a.2.Perm ((cut sub2 m2) ++ [x]) ∧ HUp a.2 a.1 ∧ a.1 < a.2.length) (fun a => a.1) (fun a => [(0, .ptr 4 0), (4, .sl 8 none none), (5, .s (.i .i64 a.1)), (1000002, .ptr 0 0), (1000003, .ptr 1 0), (1000004, .ptr 4 0), (1000006, .sl 6 none none), (1000051, .sl 7 none none), (1000052, .s (.i .i64 2)), (1000053, .s (.i .i64 i))])
                  (fun a => [(0, some (.blk [.nils, .nils, .nils])), (1, some (.blk [.sl 2 none none, .sl 3 none none])), (2, some (.nest true 1 (rowsI N2) [] [])), (3, some (.flat true 1 (bools G2))), (4, some (.blk [.sl 5 none sub2])), (6, some (.flat true 4 (stps (st ++ [s])))), (7, some (.flat true 1 (ints [s.2.1, s.2.2.1]))), (8, some (.flat true 1 (ints a.2)))]) 9 ((cut sub2 m2).length, (cut sub2 m2) ++ [x]) ⟨List.Perm.refl _, up_start hH _, by simp⟩ (by refine Weak.by [(0, some _), (1, some _), (2, some _), (3, some _), (4, some _), (5, some _), (6, some _), (7, some _), (8, some _)] (by ((repeat' first | exact rfl | exact trivial | refine And.intro ?_ ?_) <;> (repeat' first | exact rfl | exact trivial | refine And.intro ?_ ?_)); all_goals ((first | (exact hlen0.symm) | (exact sc_eq hlen1)))) (by ((repeat' first | exact rfl | exact trivial | refine And.intro ?_ ?_) <;> (repeat' first | exact rfl | exact trivial | refine And.intro ?_ ?_)); all_goals ((first | (exact hlen0.symm) | (exact sc_eq hlen1)))) (by rfl)) ?_
                rintro ⟨p, m⟩ ⟨hperm, hup, hpm⟩
                dsimp only at hperm hup hpm ⊢
                have hml : m.length = (cut sub2 m2).length + 1 := by rw [hperm.length_eq]; simp
                have hpq : 0 < p → ((p : Int) - 1).tdiv 2 = (((p - 1) / 2 : Nat) : Int) := fun h => by rw [show (p : Int) - 1 = ((p - 1 : Nat) : Int) by omega]; rfl
                have hput : Heap m → Heap m ∧ m.length = (cut sub2 m2).length + 1 ∧ ∀ v, v ∈ m ↔ v ∈ (cut sub2 m2) ∨ v = x := fun h => ⟨h, hml, fun v => by rw [hperm.mem_iff]; simp⟩
                refine Pick.by (fun hc1 => ?_) (fun hc1 => ?_)
                · have hp0 : 0 < p := by simp at hc1; omega
                  have hq := hpq hp0
                  have hql : (p - 1) / 2 < m.length := by omega
                  obtain ⟨y, hy⟩ : ∃ y, m[p]? = some y := ⟨_, List.getElem?_eq_getElem hpm⟩
                  obtain ⟨z, hz⟩ : ∃ z, m[(p - 1) / 2]? = some z := ⟨_, List.getElem?_eq_getElem hql⟩
                  refine Idx.by p rfl (by rw [ints_length]; exact hpm) ?_
                  refine Look.by _ (ints_get hy) ?_
                  refine Pick.T (inI64_of (by omega) (by omega)) ?_
                  refine Pick.T (inI64_of (by omega) (by omega)) ?_
                  refine Idx.by ((p - 1) / 2) hq (by rw [ints_length]; exact hql) ?_
                  refine Look.by _ (ints_get hz) ?_
                  refine Seg.by (by kernel_rfl) ?_
                  refine Pick.by (fun hc2 => ?_) (fun hc2 => ?_)
                  · have hlt : y < z := by simpa using hc2
                    have hsw : ints ((m.set p z).set ((p - 1) / 2) y) = ((ints m).set p [.i .i64 z]).set ((p - 1) / 2) [.i .i64 y] := by rw [ints_set, ints_set]
                    refine Pick.T (inI64_of (by omega) (by omega)) ?_
                    refine Pick.T (inI64_of (by omega) (by omega)) ?_
                    refine Pick.T (inI64_of (by omega) (by omega)) ?_
                    refine Pick.T (inI64_of (by omega) (by omega)) ?_
                    refine Idx.by ((p - 1) / 2) hq (by rw [ints_length]; exact hql) ?_
                    refine Look.by _ (ints_get hz) ?_
                    refine Idx.by p rfl (by rw [ints_length]; exact hpm) ?_
                    refine Look.by _ (ints_get hy) ?_
                    refine Idx.by p rfl (by rw [ints_length]; exact hpm) ?_
                    refine Look.by _ (ints_get hy) ?_
                    refine Idx.by ((p - 1) / 2) hq (by rw [List.length_set, ints_length]; exact hql) ?_
                    refine Look.by _ (by rw [List.getElem?_set_ne (by omega)]; exact ints_get hz) ?_
                    refine Seg.by (by kernel_rfl) ?_
                    refine Pick.T (inI64_of (by omega) (by omega)) ?_
                    refine Pick.T (inI64_of (by omega) (by omega)) ?_
                    refine Next.by ((p - 1) / 2, (m.set p z).set ((p - 1) / 2) y) ⟨(swap_perm hy hz (by omega)).trans hperm, up_step hup hp0 hz hy hlt, by rw [List.length_set, List.length_set]; exact hql⟩ (by dsimp only; omega) (by refine Weak.by [(0, some _), (1, some _), (2, some _), (3, some _), (4, some _), (5, some _), (6, some _), (7, some _), (8, some _)] (by ((repeat' first | exact rfl | exact trivial | refine And.intro ?_ ?_) <;> (repeat' first | exact rfl | exact trivial | refine And.intro ?_ ?_)); all_goals ((first | (exact hsw) | (exact sc_eq hq.symm)))) (by ((repeat' first | exact rfl | exact trivial | refine And.intro ?_ ?_) <;> (repeat' first | exact rfl | exact trivial | refine And.intro ?_ ?_)); all_goals ((first | (exact hsw) | (exact sc_eq hq.symm)))) (by rfl))
                  · have hHm := hput (up_done hup (.inr fun x' y' hx' hy' => by
                      rw [hz] at hx'; rw [hy] at hy'
                      injection hx' with hx'; injection hy' with hy'
                      have : ¬ y < z := by simpa using hc2
                      omega))
                    exact ⟨m, hHm, by refine Weak.by [(0, some _), (1, some _), (2, some _), (3, some _), (4, some _), (5, some _), (6, some _), (7, some _), (8, some _)] (by ((repeat' first | exact rfl | exact trivial | refine And.intro ?_ ?_) <;> (repeat' first | exact rfl | exact trivial | refine And.intro ?_ ?_))) (by ((repeat' first | exact rfl | exact trivial | refine And.intro ?_ ?_) <;> (repeat' first | exact rfl | exact trivial | refine And.intro ?_ ?_))) (by rfl)⟩
                · have hp0 : p = 0 := by simp at hc1; omega
                  refine Seg.by (by kernel_rfl) ?_
                  exact ⟨m, hput (up_done hup (.inl hp0)), by refine Weak.by [(0, some _), (1, some _), (2, some _), (3, some _), (4, some _), (5, some _), (6, some _), (7, some _), (8, some _)] (by ((repeat' first | exact rfl | exact trivial | refine And.intro ?_ ?_) <;> (repeat' first | exact rfl | exact trivial | refine And.intro ?_ ?_))) (by ((repeat' first | exact rfl | exact trivial | refine And.intro ?_ ?_) <;> (repeat' first | exact rfl | exact trivial | refine And.intro ?_ ?_))) (by rfl)⟩
              · have hc6 : mayB N2 G2 x = false := hc6
                exact ⟨(sub2, m2), ⟨hsub2, hm24, by dsimp only; omega, hH2, hr2, fun v hv => skip_may hxi (fun e => by rw [e, hc6] at hv; cases hv) (hmv2 v hv)⟩, by refine Weak.by [(0, some _), (1, some _), (2, some _), (3, some _), (4, some _), (5, some _), (6, some _), (7, some _)] (by ((repeat' first | exact rfl | exact trivial | refine And.intro ?_ ?_) <;> (repeat' first | exact rfl | exact trivial | refine And.intro ?_ ?_))) (by ((repeat' first | exact rfl | exact trivial | refine And.intro ?_ ?_) <;> (repeat' first | exact rfl | exact trivial | refine And.intro ?_ ?_))) (by rfl)⟩
            · have hi3 : i = 2 := by simp at hc5; omega
              refine Next.by (st ++ [s], N2, G2, sub2, m2) ⟨hW2, hNl2, hrun2, by simp; omega, hsub2, hm24, by simp; omega, hH2, hr2, fun v hv => ?_⟩ (by simp; omega) (by refine Weak.by [(0, some _), (1, some _), (2, some _), (3, some _), (4, some _), (5, some _), (6, some _)] (by ((repeat' first | exact rfl | exact trivial | refine And.intro ?_ ?_) <;> (repeat' first | exact rfl | exact trivial | refine And.intro ?_ ?_))) (by ((repeat' first | exact rfl | exact trivial | refine And.intro ?_ ?_) <;> (repeat' first | exact rfl | exact trivial | refine And.intro ?_ ?_))) (by rfl))
              rcases hmv2 v hv with h | ⟨h1, _⟩ | ⟨h1, _⟩
              · exact h
              · omega
              · omega
          refine Pick.by (fun had => ?_) (fun had => ?_)
          · have had : (stepF N out).2.2.2 = true := had
            rw [if_pos had]
            rcases hs2 with ⟨_, _, _, e⟩ | ⟨_, _, _, _, e⟩ | ⟨a, b, hlv, hab, ea, eb, ec⟩
            · rw [had] at e; cases e
            · rw [had] at e; cases e
            have har := hrv.2 a (by rw [hlv]; simp)
            have hbr := hrv.2 b (by rw [hlv]; simp)
            have hra : (rowsI ((rowAt N out).foldl (cutF out) N))[a.toNat]? = some (ints ((rowAt N a).erase out)) := by
              have h1 := rowsI_get (rowAt_mem (N := (rowAt N out).foldl (cutF out) N) har.1 (by rw [cuts_length]; exact har.2)).2
              rw [hN1 a har.1] at h1
              exact h1
            have hrb : (rowsI ((rowAt N out).foldl (cutF out) N))[b.toNat]? = some (ints ((rowAt N b).erase out)) := by
              have h1 := rowsI_get (rowAt_mem (N := (rowAt N out).foldl (cutF out) N) hbr.1 (by rw [cuts_length]; exact hbr.2)).2
              rw [hN1 b hbr.1] at h1
              exact h1
            have hok : ∀ u, ((rowAt N u).erase out).Pairwise (· ≤ ·) ∧ ((rowAt N u).erase out).length ≤ 1000000 := fun u => by
              have h1 := hW.rows u
              have h2 := hW.row_len u
              have h3 := List.length_erase_le (l := rowAt N u) (a := out)
              exact ⟨(erase_sorted h1.1).imp fun h => by omega, by omega⟩
            rw [ea, eb]
            have hj : rowsI (joinF (joinF ((rowAt N out).foldl (cutF out) N) a b) b a) = ((rowsI ((rowAt N out).foldl (cutF out) N)).set a.toNat (ints (insAt ((rowAt N a).erase out) b))).set b.toNat (ints (insAt ((rowAt N b).erase out) a)) := by
              have e1 : rowAt (joinF ((rowAt N out).foldl (cutF out) N) a b) b = (rowAt N b).erase out := by
                unfold joinF
                rw [rowAt_set har.1 (by rw [cuts_length]; exact har.2) hbr.1, if_neg (by omega), hN1 b hbr.1]
              show rowsI ((joinF ((rowAt N out).foldl (cutF out) N) a b).set b.toNat (insAt (rowAt (joinF ((rowAt N out).foldl (cutF out) N) a b) b) a)) = _
              rw [e1, rowsI_set]
              unfold joinF
              rw [rowsI_set, hN1 a har.1]
            have hma : (rowsI ((rowAt N out).foldl (cutF out) N)).set a.toNat (ints (insAt ((rowAt N a).erase out) b)) ≠ [] ∨ True := .inr trivial
            have hl3 : ((rowsI ((rowAt N out).foldl (cutF out) N)).set a.toNat (ints (insAt ((rowAt N a).erase out) b))).length = N.length := by rw [List.length_set, hl1]
            have hrb2 : ((rowsI ((rowAt N out).foldl (cutF out) N)).set a.toNat (ints (insAt ((rowAt N a).erase out) b)))[b.toNat]? = some (ints ((rowAt N b).erase out)) := by rw [List.getElem?_set_ne (by omega)]; exact hrb
            refine Idx.by a.toNat (by omega) (by omega) ?_
            refine Pick.T (by rw [hl1]; simp; omega) ?_
            refine Look.by _ hra ?_
            refine Call.by _ _ (turnC_at (hok a)) ?_
            refine Idx.by a.toNat (by omega) (by omega) ?_
            refine Pick.T (by rw [hl1]; simp; omega) ?_
            refine Pick.T (by simp) ?_
            refine Seg.by (by kernel_rfl) ?_
            refine Idx.by b.toNat (by omega) (by omega) ?_
            refine Pick.T (by rw [hl3]; simp; omega) ?_
            refine Look.by _ hrb2 ?_
            refine Call.by _ _ (turnC_at (hok b)) ?_
            refine Idx.by b.toNat (by omega) (by omega) ?_
            refine Pick.T (by rw [hl3]; simp; omega) ?_
            refine Pick.T (by simp) ?_
            refine Seg.by (by kernel_rfl) ?_
            exact ⟨(), trivial, by refine Weak.by [(0, some _), (1, some _), (2, some _), (3, some _), (4, some _), (5, some _), (6, some _), (7, some _), (8, some _), (9, some _)] (by ((repeat' first | exact rfl | exact trivial | refine And.intro ?_ ?_) <;> (repeat' first | exact rfl | exact trivial | refine And.intro ?_ ?_)); all_goals ((exact hj))) (by ((repeat' first | exact rfl | exact trivial | refine And.intro ?_ ?_) <;> (repeat' first | exact rfl | exact trivial | refine And.intro ?_ ?_)); all_goals ((exact hj))) (by rfl)⟩
          · have had : (stepF N out).2.2.2 = false := had
            rw [if_neg (by rw [had]; simp)]
            exact ⟨(), trivial, by refine Weak.by [(0, some _), (1, some _), (2, some _), (3, some _), (4, some _), (5, some _), (6, some _), (7, some _), (8, some _), (9, some _)] (by ((repeat' first | exact rfl | exact trivial | refine And.intro ?_ ?_) <;> (repeat' first | exact rfl | exact trivial | refine And.intro ?_ ?_))) (by ((repeat' first | exact rfl | exact trivial | refine And.intro ?_ ?_) <;> (repeat' first | exact rfl | exact trivial | refine And.intro ?_ ?_))) (by rfl)⟩
        refine LoopP.intro (α := Nat × List Int) (fun a => Sift l out last a.2 a.1 ∧ a.1 ≤ last ∧ a.2.length = m.length) (fun a => last + 1 - a.1) (fun a => [(0, .ptr 4 0), (3, .sl 5 none (some (0, last))), (4, .s (.i .i64 out)), (5, .s (.i .i64 last)), (6, .s (.i .i64 a.1)), (1000002, .ptr 0 0), (1000003, .ptr 1 0), (1000004, .ptr 4 0), (1000006, .sl 6 none none)])
          (fun a => [(0, some (.blk [.nils, .nils, .nils])), (1, some (.blk [.sl 2 none none, .sl 3 none none])), (2, some (.nest true 1 (rowsI N) [] [])), (3, some (.flat true 1 (bools G))), (4, some (.blk [.sl 5 none (some (0, L))])), (5, some (.flat true 1 (ints a.2))), (6, some (.flat true 4 (stps st)))]) 7 (0, m.set 0 top) ⟨hsift, by dsimp only; omega, by rw [List.length_set]⟩ (by refine Weak.by [(0, some _), (1, some _), (2, some _), (3, some _), (4, some _), (5, some _), (6, some _)] (by ((repeat' first | exact rfl | exact trivial | refine And.intro ?_ ?_) <;> (repeat' first | exact rfl | exact trivial | refine And.intro ?_ ?_)); all_goals ((first | (rw [ints_set]; rfl) | (exact sc_eq hlast.symm)))) (by ((repeat' first | exact rfl | exact trivial | refine And.intro ?_ ?_) <;> (repeat' first | exact rfl | exact trivial | refine And.intro ?_ ?_)); all_goals ((first | (rw [ints_set]; rfl) | (exact sc_eq hlast.symm)))) (by rfl)) ?_
        rintro ⟨i, c⟩ ⟨hsf, hil, hcm⟩
        dsimp only at hsf hil hcm ⊢
        refine Pick.T (inI64_of (by omega) (by omega)) ?_
        refine Pick.T (inI64_of (by omega) (by omega)) ?_
        refine Pick.by (fun hc1 => ?_) (fun hc1 => ?_)
        · have hch : 2 * i + 1 < last := by simp at hc1; omega
          obtain ⟨x, hx⟩ : ∃ x, c[i]? = some x := ⟨_, List.getElem?_eq_getElem (by have := hsf.len; omega)⟩
          obtain ⟨y1, hy1⟩ : ∃ y, c[2 * i + 1]? = some y := ⟨_, List.getElem?_eq_getElem (by have := hsf.len; omega)⟩
          refine Pick.T (inI64_of (by omega) (by omega)) ?_
          refine Pick.T (inI64_of (by omega) (by omega)) ?_
          refine Pick.T (inI64_of (by omega) (by omega)) ?_
          have hk1 : (2 * (i : Int) + 1) = ((2 * i + 1 : Nat) : Int) := by omega
          have hk2 : (2 * (i : Int) + 1 + 1) = ((2 * i + 2 : Nat) : Int) := by omega
          have hjoin : ∀ k, (k = 2 * i + 1 ∨ k = 2 * i + 2) → k < last → (∀ y, c[k]? = some y → ∀ t z, 0 < t → (t - 1) / 2 = i → t < last → c[t]? = some z → y ≤ z) → (k = 2 * i + 1 ∨ k = 2 * i + 2) ∧ k < last ∧ ∀ y, c[k]? = some y → ∀ t z, 0 < t → (t - 1) / 2 = i → t < last → c[t]? = some z → y ≤ z := fun k a b d => ⟨a, b, d⟩
          refine Pick.by (fun hc2 => ?_) (fun hc2 => ?_)
          · have hch2 : 2 * i + 2 < last := by simp at hc2; omega
            obtain ⟨y2, hy2⟩ : ∃ y, c[2 * i + 2]? = some y := ⟨_, List.getElem?_eq_getElem (by have := hsf.len; omega)⟩
            refine Pick.T (inI64_of (by omega) (by omega)) ?_
            refine Idx.by (2 * i + 2) (by omega) (by omega) ?_
            refine Look.by _ (by rw [Nat.zero_add]; exact ints_get hy2) ?_
            refine Idx.by (2 * i + 1) (by omega) (by omega) ?_
            refine Look.by _ (by rw [Nat.zero_add]; exact ints_get hy1) ?_
            refine Seg.by (by kernel_rfl) ?_
            refine JoinP.intro (α := Nat) (fun k => (k = 2 * i + 1 ∨ k = 2 * i + 2) ∧ k < last ∧ ∀ y, c[k]? = some y → ∀ t z, 0 < t → (t - 1) / 2 = i → t < last → c[t]? = some z → y ≤ z) (fun k => [(0, .ptr 4 0), (3, .sl 5 none (some (0, last))), (4, .s (.i .i64 out)), (5, .s (.i .i64 last)), (6, .s (.i .i64 i)), (7, .s (.i .i64 k)), (1000002, .ptr 0 0), (1000003, .ptr 1 0), (1000004, .ptr 4 0), (1000006, .sl 6 none none)])
              (fun k => [(0, some (.blk [.nils, .nils, .nils])), (1, some (.blk [.sl 2 none none, .sl 3 none none])), (2, some (.nest true 1 (rowsI N) [] [])), (3, some (.flat true 1 (bools G))), (4, some (.blk [.sl 5 none (some (0, L))])), (5, some (.flat true 1 (ints c))), (6, some (.flat true 4 (stps st)))]) 7 ?_ ?_
            rotate_left
            · rintro k ⟨hkk, hkl, hM⟩
              obtain ⟨y, hy⟩ : ∃ y, c[k]? = some y := ⟨_, List.getElem?_eq_getElem (by have := hsf.len; omega)⟩
              have hmin := hM y hy
              refine Idx.by i rfl (by omega) ?_
              refine Look.by _ (by rw [Nat.zero_add]; exact ints_get hx) ?_
              refine Idx.by k rfl (by omega) ?_
              refine Look.by _ (by rw [Nat.zero_add]; exact ints_get hy) ?_
              refine Seg.by (by kernel_rfl) ?_
              refine Pick.by (fun hc4 => ?_) (fun hc4 => ?_)
              · have hle : x ≤ y := by simpa using hc4
                refine ⟨c, ⟨hcm, hsf.len, hsf.perm, sift_done hsf fun t u v ht htp hu hv => ?_⟩, by refine Weak.by [(0, some _), (1, some _), (2, some _), (3, some _), (4, some _), (5, some _), (6, some _)] (by ((repeat' first | exact rfl | exact trivial | refine And.intro ?_ ?_) <;> (repeat' first | exact rfl | exact trivial | refine And.intro ?_ ?_))) (by ((repeat' first | exact rfl | exact trivial | refine And.intro ?_ ?_) <;> (repeat' first | exact rfl | exact trivial | refine And.intro ?_ ?_))) (by rfl)⟩
                have htk : t < last := by
                  have := (List.getElem?_eq_some_iff.1 hv).1
                  rw [List.length_take] at this
                  omega
                rw [tk_get (by omega), hx] at hu
                injection hu with hu
                have := hmin t v ht htp htk (by rw [← tk_get htk]; exact hv)
                omega
              · have hlt : y < x := by simpa using hc4
                refine Idx.by k rfl (by omega) ?_
                refine Look.by _ (by rw [Nat.zero_add]; exact ints_get hy) ?_
                refine Idx.by i rfl (by omega) ?_
                refine Look.by _ (by rw [Nat.zero_add]; exact ints_get hx) ?_
                refine Idx.by i rfl (by omega) ?_
                refine Look.by _ (by rw [Nat.zero_add]; exact ints_get hx) ?_
                refine Idx.by k rfl (by omega) ?_
                refine Look.by _ (by rw [Nat.zero_add, Nat.zero_add, List.getElem?_set_ne (by omega)]; exact ints_get hy) ?_
                refine Seg.by (by kernel_rfl) ?_
                refine Next.by (k, (c.set i y).set k x) ⟨sift_step hsf (by omega) (by omega) hkl hx hy hlt hmin, by dsimp only; omega, by rw [List.length_set, List.length_set]; exact hcm⟩ (by dsimp only; omega) (by refine Weak.by [(0, some _), (1, some _), (2, some _), (3, some _), (4, some _), (5, some _), (6, some _)] (by ((repeat' first | exact rfl | exact trivial | refine And.intro ?_ ?_) <;> (repeat' first | exact rfl | exact trivial | refine And.intro ?_ ?_)); all_goals ((rw [Nat.zero_add, Nat.zero_add, ints_set, ints_set]; rfl))) (by ((repeat' first | exact rfl | exact trivial | refine And.intro ?_ ?_) <;> (repeat' first | exact rfl | exact trivial | refine And.intro ?_ ?_)); all_goals ((rw [Nat.zero_add, Nat.zero_add, ints_set, ints_set]; rfl))) (by rfl))
            refine Pick.by (fun hc3 => ?_) (fun hc3 => ?_)
            · have hlt2 : y2 < y1 := by simpa using hc3
              refine Pick.T (inI64_of (by omega) (by omega)) ?_
              refine ⟨2 * i + 2, hjoin _ (.inr rfl) hch2 fun y hy t z ht htp htl hz => ?_, by refine Weak.by [(0, some _), (1, some _), (2, some _), (3, some _), (4, some _), (5, some _), (6, some _)] (by ((repeat' first | exact rfl | exact trivial | refine And.intro ?_ ?_) <;> (repeat' first | exact rfl | exact trivial | refine And.intro ?_ ?_)); all_goals ((exact sc_eq hk2.symm))) (by ((repeat' first | exact rfl | exact trivial | refine And.intro ?_ ?_) <;> (repeat' first | exact rfl | exact trivial | refine And.intro ?_ ?_)); all_goals ((exact sc_eq hk2.symm))) (by rfl)⟩
              have : t = 2 * i + 1 ∨ t = 2 * i + 2 := by omega
              rcases this with rfl | rfl
              · rw [hy2] at hy; rw [hy1] at hz; injection hy with hy; injection hz with hz; omega
              · rw [hy] at hz; injection hz with hz; omega
            · have hlt2 : ¬ y2 < y1 := by simpa using hc3
              refine ⟨2 * i + 1, hjoin _ (.inl rfl) hch fun y hy t z ht htp htl hz => ?_, by refine Weak.by [(0, some _), (1, some _), (2, some _), (3, some _), (4, some _), (5, some _), (6, some _)] (by ((repeat' first | exact rfl | exact trivial | refine And.intro ?_ ?_) <;> (repeat' first | exact rfl | exact trivial | refine And.intro ?_ ?_)); all_goals ((exact sc_eq hk1.symm))) (by ((repeat' first | exact rfl | exact trivial | refine And.intro ?_ ?_) <;> (repeat' first | exact rfl | exact trivial | refine And.intro ?_ ?_)); all_goals ((exact sc_eq hk1.symm))) (by rfl)⟩
              have : t = 2 * i + 1 ∨ t = 2 * i + 2 := by omega
              rcases this with rfl | rfl
              · rw [hy] at hz; injection hz with hz; omega
              · rw [hy1] at hy; rw [hy2] at hz; injection hy with hy; injection hz with hz; omega
          · have hch2 : ¬ 2 * i + 2 < last := by simp at hc2; omega
            refine Seg.by (by kernel_rfl) ?_
            refine JoinP.intro (α := Nat) (fun k => (k = 2 * i + 1 ∨ k = 2 * i + 2) ∧ k < last ∧ ∀ y, c[k]? = some y → ∀ t z, 0 < t → (t - 1) / 2 = i → t < last → c[t]? = some z → y ≤ z) (fun k => [(0, .ptr 4 0), (3, .sl 5 none (some (0, last))), (4, .s (.i .i64 out)), (5, .s (.i .i64 last)), (6, .s (.i .i64 i)), (7, .s (.i .i64 k)), (1000002, .ptr 0 0), (1000003, .ptr 1 0), (1000004, .ptr 4 0), (1000006, .sl 6 none none)])
              (fun k => [(0, some (.blk [.nils, .nils, .nils])), (1, some (.blk [.sl 2 none none, .sl 3 none none])), (2, some (.nest true 1 (rowsI N) [] [])), (3, some (.flat true 1 (bools G))), (4, some (.blk [.sl 5 none (some (0, L))])), (5, some (.flat true 1 (ints c))), (6, some (.flat true 4 (stps st)))]) 7 ?_ ?_
            rotate_left
            · rintro k ⟨hkk, hkl, hM⟩
              obtain ⟨y, hy⟩ : ∃ y, c[k]? = some y := ⟨_, List.getElem?_eq_getElem (by have := hsf.len; omega)⟩
              have hmin := hM y hy
              refine Idx.by i rfl (by omega) ?_
              refine Look.by _ (by rw [Nat.zero_add]; exact ints_get hx) ?_
              refine Idx.by k rfl (by omega) ?_
              refine Look.by _ (by rw [Nat.zero_add]; exact ints_get hy) ?_
              refine Seg.by (by kernel_rfl) ?_
              refine Pick.by (fun hc4 => ?_) (fun hc4 => ?_)
              · have hle : x ≤ y := by simpa using hc4
                refine ⟨c, ⟨hcm, hsf.len, hsf.perm, sift_done hsf fun t u v ht htp hu hv => ?_⟩, by refine Weak.by [(0, some _), (1, some _), (2, some _), (3, some _), (4, some _), (5, some _), (6, some _)] (by ((repeat' first | exact rfl | exact trivial | refine And.intro ?_ ?_) <;> (repeat' first | exact rfl | exact trivial | refine And.intro ?_ ?_))) (by ((repeat' first | exact rfl | exact trivial | refine And.intro ?_ ?_) <;> (repeat' first | exact rfl | exact trivial | refine And.intro ?_ ?_))) (by rfl)⟩
                have htk : t < last := by
                  have := (List.getElem?_eq_some_iff.1 hv).1
                  rw [List.length_take] at this
                  omega
                rw [tk_get (by omega), hx] at hu
                injection hu with hu
                have := hmin t v ht htp htk (by rw [← tk_get htk]; exact hv)
                omega
              · have hlt : y < x := by simpa using hc4
                refine Idx.by k rfl (by omega) ?_
                refine Look.by _ (by rw [Nat.zero_add]; exact ints_get hy) ?_
                refine Idx.by i rfl (by omega) ?_
                refine Look.by _ (by rw [Nat.zero_add]; exact ints_get hx) ?_
                refine Idx.by i rfl (by omega) ?_
                refine Look.by _ (by rw [Nat.zero_add]; exact ints_get hx) ?_
                refine Idx.by k rfl (by omega) ?_
                refine Look.by _ (by rw [Nat.zero_add, Nat.zero_add, List.getElem?_set_ne (by omega)]; exact ints_get hy) ?_
                refine Seg.by (by kernel_rfl) ?_
                refine Next.by (k, (c.set i y).set k x) ⟨sift_step hsf (by omega) (by omega) hkl hx hy hlt hmin, by dsimp only; omega, by rw [List.length_set, List.length_set]; exact hcm⟩ (by dsimp only; omega) (by refine Weak.by [(0, some _), (1, some _), (2, some _), (3, some _), (4, some _), (5, some _), (6, some _)] (by ((repeat' first | exact rfl | exact trivial | refine And.intro ?_ ?_) <;> (repeat' first | exact rfl | exact trivial | refine And.intro ?_ ?_)); all_goals ((rw [Nat.zero_add, Nat.zero_add, ints_set, ints_set]; rfl))) (by ((repeat' first | exact rfl | exact trivial | refine And.intro ?_ ?_) <;> (repeat' first | exact rfl | exact trivial | refine And.intro ?_ ?_)); all_goals ((rw [Nat.zero_add, Nat.zero_add, ints_set, ints_set]; rfl))) (by rfl))
            refine ⟨2 * i + 1, hjoin _ (.inl rfl) hch fun y hy t z ht htp htl hz => ?_, by refine Weak.by [(0, some _), (1, some _), (2, some _), (3, some _), (4, some _), (5, some _), (6, some _)] (by ((repeat' first | exact rfl | exact trivial | refine And.intro ?_ ?_) <;> (repeat' first | exact rfl | exact trivial | refine And.intro ?_ ?_)); all_goals ((exact sc_eq hk1.symm))) (by ((repeat' first | exact rfl | exact trivial | refine And.intro ?_ ?_) <;> (repeat' first | exact rfl | exact trivial | refine And.intro ?_ ?_)); all_goals ((exact sc_eq hk1.symm))) (by rfl)⟩
            have : t = 2 * i + 1 := by omega
            rw [this, hy] at hz; injection hz with hz; omega
        · have hch : ¬ 2 * i + 1 < last := by simp at hc1; omega
          refine ⟨c, ⟨hcm, hsf.len, hsf.perm, sift_done hsf fun t u v ht htp hu hv => ?_⟩, by refine Weak.by [(0, some _), (1, some _), (2, some _), (3, some _), (4, some _), (5, some _), (6, some _)] (by ((repeat' first | exact rfl | exact trivial | refine And.intro ?_ ?_) <;> (repeat' first | exact rfl | exact trivial | refine And.intro ?_ ?_))) (by ((repeat' first | exact rfl | exact trivial | refine And.intro ?_ ?_) <;> (repeat' first | exact rfl | exact trivial | refine And.intro ?_ ?_))) (by rfl)⟩
          have := (List.getElem?_eq_some_iff.1 hv).1
          rw [List.length_take] at this
          omega
      · have hz : l.length = 0 := by rw [hLl]; simpa using hc
        have hno : ∀ u, mayB N G u ≠ true := fun u hu => by
          have := hm u hu
          rw [List.eq_nil_of_length_eq_zero hz] at this
          simp at this
        rw [runS_end (firstMay_none hno), List.append_nil] at hrun
        rw [hrun]
        have hst4 : st.length ≤ 1000 := by omega
        have hGN := hW.len
        have hmo := hW.most
        have hNL := rowsI_length N
        refine LoopP.intro (α := Nat) (fun j => j ≤ N.length) (fun j => N.length - j) (fun j => [(2, .ptr 2 0), (4, .ptr 1 0), (5, .ptr 3 0), (13, .sl 4 none none), (14, .s (.i .i64 N.length)), (15, .s (.i .i64 j)), (1000002, .ptr 0 0)])
          (fun j => [(0, some (.blk [.nils, .nils, .nils])), (1, some (.blk [.nils, .nils, .nils])), (2, some (.blk [.sl 4 none none, .sl 5 none none])), (3, some (.blk [.sl 6 none none, .sl 7 none none, .sl 8 none none])), (4, some (.nest true 1 (rowsI N) [] [])), (5, some (.flat true 1 (bools G))), (6, some (.flat true 4 (stps st))), (7, some (.flat true 1 (ints (leftK G j)))), (8, some (.flat true 2 (edges (edgesK N G j))))]) 9 0 (by omega) (by refine Weak.by [(0, some _), (1, some _), (2, some _), (3, some _), (4, some _), (5, some _), (6, some _), (7, none), (8, none)] (by ((repeat' first | exact rfl | exact trivial | refine And.intro ?_ ?_) <;> (repeat' first | exact rfl | exact trivial | refine And.intro ?_ ?_)); all_goals ((first | (rw [hNL]; rfl) | done))) (by ((repeat' first | exact rfl | exact trivial | refine And.intro ?_ ?_) <;> (repeat' first | exact rfl | exact trivial | refine And.intro ?_ ?_)); all_goals ((first | (rw [hNL]; rfl) | done))) (by rfl)) ?_
        rintro j hj
        have hlk := leftK_len G j
        have hek := edgesK_len hW j
        refine Pick.by (fun hd1 => ?_) (fun hd1 => ?_)
        · have hjl : j < N.length := by simpa using hd1
          have hgj : (bools G)[j]? = some [.b (G.getD j false)] := by
            refine bools_get ?_
            rw [List.getD_eq_getElem?_getD, List.getElem?_eq_getElem (by omega)]; rfl
          have hrj : (rowsI N)[j]? = some (ints (rowAt N j)) := by
            have := (rowAt_mem (N := N) (v := (j : Int)) (by omega) (by omega)).2
            exact rowsI_get this
          have hrl := hW.row_len (j : Int)
          refine Idx.by j rfl (by omega) ?_
          refine Pick.T (by rw [hNL]; simp; omega) ?_
          refine Idx.by j rfl (by rw [bools_length]; omega) ?_
          refine Look.by _ hgj ?_
          refine Pick.by (fun hd2 => ?_) (fun hd2 => ?_)
          · have hd2 : G.getD j false = true := hd2
            refine Pick.T (inI64_of (by omega) (by omega)) ?_
            refine Next.by (j + 1) (by omega) (by omega) (by refine Weak.by [(0, some _), (1, some _), (2, some _), (3, some _), (4, some _), (5, some _), (6, some _), (7, some _), (8, some _)] (by ((repeat' first | exact rfl | exact trivial | refine And.intro ?_ ?_) <;> (repeat' first | exact rfl | exact trivial | refine And.intro ?_ ?_)); all_goals ((first | (rw [leftK_succ, if_pos hd2, List.append_nil]) | (rw [edgesK_succ, if_pos hd2, List.append_nil])))) (by ((repeat' first | exact rfl | exact trivial | refine And.intro ?_ ?_) <;> (repeat' first | exact rfl | exact trivial | refine And.intro ?_ ?_)); all_goals ((first | (rw [leftK_succ, if_pos hd2, List.append_nil]) | (rw [edgesK_succ, if_pos hd2, List.append_nil])))) (by rfl))
          have hd2 : G.getD j false = false := hd2
          have hl1 : leftK G (j + 1) = leftK G j ++ [(j : Int)] := by rw [leftK_succ, if_neg (by rw [hd2]; simp)]
          have he1 : edgesK N G (j + 1) = edgesK N G j ++ outE N j := by rw [edgesK_succ, if_neg (by rw [hd2]; simp)]
          refine Pick.T (by simp [cut, ints_length]; omega) ?_
          refine Look.by _ hrj ?_
          refine LoopP.intro (α := Nat) (fun k => k ≤ (rowAt N j).length) (fun k => (rowAt N j).length - k) (fun k => [(2, .ptr 2 0), (4, .ptr 1 0), (5, .ptr 3 0), (6, .s (.i .i64 j)), (13, .sl 4 none none), (14, .s (.i .i64 N.length)), (15, .s (.i .i64 j)), (31, .sl 4 (some (j, 0)) none), (32, .s (.i .i64 (rowAt N j).length)), (33, .s (.i .i64 k)), (1000002, .ptr 0 0)])
            (fun k => [(0, some (.blk [.nils, .nils, .nils])), (1, some (.blk [.nils, .nils, .nils])), (2, some (.blk [.sl 4 none none, .sl 5 none none])), (3, some (.blk [.sl 6 none none, .sl 7 none none, .sl 8 none none])), (4, some (.nest true 1 (rowsI N) [] [])), (5, some (.flat true 1 (bools G))), (6, some (.flat true 4 (stps st))), (7, some (.flat true 1 (ints (leftK G (j + 1))))), (8, some (.flat true 2 (edges (edgesK N G j ++ (((rowAt N j).take k).filter fun x => decide (x > (j : Int))).map fun x => ((j : Int), x)))))]) 9 0 (by omega) (by refine Weak.by [(0, some _), (1, some _), (2, some _), (3, some _), (4, some _), (5, some _), (6, some _), (7, some _), (8, some _)] (by ((repeat' first | exact rfl | exact trivial | refine And.intro ?_ ?_) <;> (repeat' first | exact rfl | exact trivial | refine And.intro ?_ ?_)); all_goals ((first | (rw [hl1, ints_snoc]; rfl) | (rw [List.take_zero]; simp; done) | (rw [ints_length]; rfl) | (simp; done)))) (by ((repeat' first | exact rfl | exact trivial | refine And.intro ?_ ?_) <;> (repeat' first | exact rfl | exact trivial | refine And.intro ?_ ?_)); all_goals ((first | (rw [hl1, ints_snoc]; rfl) | (rw [List.take_zero]; simp; done) | (rw [ints_length]; rfl) | (simp; done)))) (by rfl)) ?_
          rintro k hk
          have hpl : ((((rowAt N j).take k).filter fun x => decide (x > (j : Int))).map fun x => ((j : Int), x)).length ≤ 1000 := by
            rw [List.length_map]
            refine Nat.le_trans (List.length_filter_le _ _) ?_
            rw [List.length_take]; omega
          refine Pick.by (fun hd3 => ?_) (fun hd3 => ?_)
          · have hkl : k < (rowAt N j).length := by simpa using hd3
            obtain ⟨x, hx⟩ : ∃ x, (rowAt N j)[k]? = some x := ⟨_, List.getElem?_eq_getElem hkl⟩
            have hxe : (rowAt N j)[k] = x := by rw [List.getElem?_eq_getElem hkl] at hx; injection hx
            refine Look.by _ hrj ?_
            refine Idx.by k rfl (by rw [ints_length]; exact hkl) ?_
            refine Look.by _ hrj ?_
            refine Look.by _ (ints_get hx) ?_
            refine Pick.by (fun hd4 => ?_) (fun hd4 => ?_)
            · have hd4 : x > (j : Int) := by simpa using hd4
              refine Pick.T (by simp [cut, edges_length] at hpl ⊢; omega) ?_
              refine Pick.T (inI64_of (by omega) (by omega)) ?_
              refine Next.by (k + 1) (by omega) (by omega) (by refine Weak.by [(0, some _), (1, some _), (2, some _), (3, some _), (4, some _), (5, some _), (6, some _), (7, some _), (8, some _)] (by ((repeat' first | exact rfl | exact trivial | refine And.intro ?_ ?_) <;> (repeat' first | exact rfl | exact trivial | refine And.intro ?_ ?_)); all_goals ((first | (rw [List.take_succ_eq_append_getElem hkl, hxe, List.filter_append, List.map_append, List.filter_cons, if_pos (by simpa using hd4), List.filter_nil, ← List.append_assoc]; exact edges_snoc _ _) | (simp; done)))) (by ((repeat' first | exact rfl | exact trivial | refine And.intro ?_ ?_) <;> (repeat' first | exact rfl | exact trivial | refine And.intro ?_ ?_)); all_goals ((first | (rw [List.take_succ_eq_append_getElem hkl, hxe, List.filter_append, List.map_append, List.filter_cons, if_pos (by simpa using hd4), List.filter_nil, ← List.append_assoc]; exact edges_snoc _ _) | (simp; done)))) (by rfl))
            · have hd4 : ¬ x > (j : Int) := by simpa using hd4
              refine Pick.T (inI64_of (by omega) (by omega)) ?_
              refine Next.by (k + 1) (by omega) (by omega) (by refine Weak.by [(0, some _), (1, some _), (2, some _), (3, some _), (4, some _), (5, some _), (6, some _), (7, some _), (8, some _)] (by ((repeat' first | exact rfl | exact trivial | refine And.intro ?_ ?_) <;> (repeat' first | exact rfl | exact trivial | refine And.intro ?_ ?_)); all_goals ((first | (rw [List.take_succ_eq_append_getElem hkl, hxe, List.filter_append, List.map_append, List.filter_cons, if_neg (by simpa using hd4), List.filter_nil, List.map_nil, List.append_nil]) | (simp; done)))) (by ((repeat' first | exact rfl | exact trivial | refine And.intro ?_ ?_) <;> (repeat' first | exact rfl | exact trivial | refine And.intro ?_ ?_)); all_goals ((first | (rw [List.take_succ_eq_append_getElem hkl, hxe, List.filter_append, List.map_append, List.filter_cons, if_neg (by simpa using hd4), List.filter_nil, List.map_nil, List.append_nil]) | (simp; done)))) (by rfl))
          · have hkl : k = (rowAt N j).length := by simp at hd3; omega
            have hfull : edgesK N G (j + 1) = edgesK N G j ++ (((rowAt N j).take k).filter fun x => decide (x > (j : Int))).map fun x => ((j : Int), x) := by rw [he1, hkl, List.take_length]; rfl
            refine Pick.T (inI64_of (by omega) (by omega)) ?_
            refine Next.by (j + 1) (by omega) (by omega) (by refine Weak.by [(0, some _), (1, some _), (2, some _), (3, some _), (4, some _), (5, some _), (6, some _), (7, some _), (8, some _)] (by ((repeat' first | exact rfl | exact trivial | refine And.intro ?_ ?_) <;> (repeat' first | exact rfl | exact trivial | refine And.intro ?_ ?_)); all_goals ((rw [hfull]))) (by ((repeat' first | exact rfl | exact trivial | refine And.intro ?_ ?_) <;> (repeat' first | exact rfl | exact trivial | refine And.intro ?_ ?_)); all_goals ((rw [hfull]))) (by rfl))
        have hjl : j = N.length := by simp at hd1; omega
        subst hjl
        have e1 : leftF G = leftK G N.length := by unfold leftF leftK; rw [hGN]
        have e2 : edgesF N G = edgesK N G N.length := by unfold edgesF edgesK; rw [e1]
        refine ⟨rfl, ?_⟩
        (repeat' first | exact rfl | exact trivial | refine And.intro ?_ ?_)
        all_goals (first | exact congrArg ints e1 | exact congrArg edges e2)
end Go.Sh

set_option linter.unusedVariables false
set_option linter.unusedSimpArgs false
namespace Go.Sh
open Go.Proofs Go.RowKit
/-! ### slices.Clone of steps -/
attribute [local go_sem] Oper.semAt_some
/-! ### reduce.Narrow -/
/-! ### reduce.Replay -/
end Go.Sh

set_option linter.unusedVariables false
set_option linter.unusedSimpArgs false
namespace Go.Sh
/-! ### reduction by a table -/
def inAt (I : List Bool) (v : Nat) : Bool := I.getD v false
def matAt (M : List (List Bool)) (u v : Nat) : Bool := (M.getD u []).getD v false
def setM (M : List (List Bool)) (u v : Nat) : List (List Bool) := M.set u ((M.getD u []).set v true)
def nearM (I : List Bool) (M : List (List Bool)) (v : Nat) : List Int := ((List.range I.length).filter fun x => inAt I x && matAt M v x).map fun (x : Nat) => (x : Int)
structure Sqr (n : Nat) (M : List (List Bool)) : Prop where
  len : M.length = n
  row : ∀ r ∈ M, r.length = n
theorem Sqr.at_ {n : Nat} {M : List (List Bool)} (h : Sqr n M) {u : Nat} (hu : u < n) : M[u]? = some (M.getD u []) ∧ (M.getD u []).length = n := by
  have hlt : u < M.length := by rw [h.len]; exact hu
  rw [List.getD_eq_getElem?_getD, List.getElem?_eq_getElem hlt]
  exact ⟨rfl, h.row _ (List.getElem_mem hlt)⟩
theorem Sqr.set {n : Nat} {M : List (List Bool)} (h : Sqr n M) {u v : Nat} (hu : u < n) : Sqr n (setM M u v) := by
  refine ⟨by rw [setM, List.length_set]; exact h.len, fun r hr => ?_⟩
  rcases List.mem_or_eq_of_mem_set hr with hr | rfl
  · exact h.row r hr
  · rw [List.length_set]; exact (h.at_ hu).2
/-- the table tells what the rows tell -/
structure Sim (n : Nat) (N : List (List Int)) (G I : List Bool) (M : List (List Bool)) : Prop where
  wf : Wf N G
  len : N.length = n
  il : I.length = n
  sq : Sqr n M
  inn : ∀ v, v < n → inAt I v = !goneAt G v
  adj : ∀ u v, u < n → v < n → inAt I u = true → inAt I v = true → (matAt M u v = true ↔ (v : Int) ∈ rowAt N u)
theorem sorted_eq : ∀ {l m : List Int}, l.Pairwise (· < ·) → m.Pairwise (· < ·) → (∀ x, x ∈ l ↔ x ∈ m) → l = m := by
  intro l
  induction l with
  | nil =>
    intro m _ _ h
    cases m with
    | nil => rfl
    | cons b m => have := (h b).2 (by simp); simp at this
  | cons a l ih =>
    intro m hl hm h
    cases m with
    | nil => have := (h a).1 (by simp); simp at this
    | cons b m =>
      rw [List.pairwise_cons] at hl hm
      have hab : a = b := by
        rcases List.mem_cons.1 ((h a).1 (by simp)) with e | e
        · exact e
        · rcases List.mem_cons.1 ((h b).2 (by simp)) with e2 | e2
          · exact e2.symm
          · have := hl.1 b e2; have := hm.1 a e; omega
      subst hab
      rw [ih hl.2 hm.2 fun x => ?_]
      have := h x
      simp only [List.mem_cons] at this
      constructor
      · intro hx
        rcases this.1 (.inr hx) with e | e
        · have := hl.1 x hx; omega
        · exact e
      · intro hx
        rcases this.2 (.inr hx) with e | e
        · have := hm.1 x hx; omega
        · exact e
theorem range_cast_sorted {p : Nat → Bool} (n : Nat) : (((List.range n).filter p).map fun (x : Nat) => (x : Int)).Pairwise (· < ·) := by
  rw [List.pairwise_map]
  exact (List.Pairwise.sublist List.filter_sublist List.pairwise_lt_range).imp fun h => by omega
theorem mem_range_cast {p : Nat → Bool} {n : Nat} {x : Int} : x ∈ ((List.range n).filter p).map (fun (x : Nat) => (x : Int)) ↔ ∃ k : Nat, k < n ∧ p k = true ∧ x = k := by
  rw [List.mem_map]
  constructor
  · rintro ⟨k, hk, rfl⟩
    rw [List.mem_filter, List.mem_range] at hk
    exact ⟨k, hk.1, hk.2, rfl⟩
  · rintro ⟨k, h1, h2, rfl⟩
    exact ⟨k, by rw [List.mem_filter, List.mem_range]; exact ⟨h1, h2⟩, rfl⟩
section
variable {n : Nat} {N : List (List Int)} {G I : List Bool} {M : List (List Bool)}
theorem Sim.inRow (h : Sim n N G I M) {u : Nat} {x : Int} (hx : x ∈ rowAt N u) : 0 ≤ x ∧ x < n ∧ inAt I x.toNat = true := by
  have hr := (h.wf.rows u).2 x hx
  rw [h.len] at hr
  refine ⟨hr.1, hr.2, ?_⟩
  rw [h.inn _ (by omega), Int.toNat_of_nonneg hr.1]
  cases hg : goneAt G x with
  | false => rfl
  | true =>
    have h1 := h.wf.gone x hr.1 hg
    have h2 := h.wf.sym u x (by omega) hr.1 hx
    rw [h1] at h2; simp at h2
theorem Sim.near (h : Sim n N G I M) {v : Nat} (hv : v < n) (hi : inAt I v = true) : nearM I M v = rowAt N v := by
  refine sorted_eq (range_cast_sorted _) (h.wf.rows v).1 fun x => ?_
  unfold nearM
  rw [mem_range_cast, h.il]
  constructor
  · rintro ⟨k, h1, h2, rfl⟩
    rw [Bool.and_eq_true] at h2
    exact (h.adj v k hv h1 hi h2.1).1 h2.2
  · intro hx
    obtain ⟨h0, h1, h2⟩ := h.inRow hx
    refine ⟨x.toNat, by omega, ?_, by omega⟩
    rw [h2, Bool.true_and]
    exact (h.adj v x.toNat hv (by omega) hi h2).2 (by rw [Int.toNat_of_nonneg h0]; exact hx)
theorem Sim.may (h : Sim n N G I M) (v : Nat) (hv : v < n) : mayB N G v = (inAt I v && decide ((nearM I M v).length ≤ 2)) := by
  unfold mayB
  rw [decide_eq_true (show (0 : Int) ≤ (v : Int) by omega), decide_eq_true (show (v : Int) < (N.length : Int) by rw [h.len]; omega), Bool.true_and, Bool.true_and, ← h.inn v hv]
  cases hi : inAt I v with
  | false => rfl
  | true => rw [h.near hv hi]
/-- the step that the table tells -/
theorem Sim.step (h : Sim n N G I M) {v : Nat} (hv : v < n) (hi : inAt I v = true) {a b : Int} (hl : rowAt N v = [a, b]) : (stepF N v).2.2.2 = !matAt M a.toNat b.toNat := by
  have ha := h.inRow (u := v) (x := a) (by rw [hl]; simp)
  have hb := h.inRow (u := v) (x := b) (by rw [hl]; simp)
  have key := h.adj a.toNat b.toNat (by omega) (by omega) ha.2.2 hb.2.2
  rw [Int.toNat_of_nonneg hb.1, Int.toNat_of_nonneg ha.1] at key
  show (decide (1 < (rowAt N v).length) && !(rowAt N ((rowAt N v).getD 0 (-1))).elem ((rowAt N v).getD 1 (-1))) = _
  rw [hl]
  show (decide (1 < 2) && !(rowAt N a).elem b) = _
  rw [show decide (1 < 2) = true from rfl, Bool.true_and]
  congr 1
  rw [Bool.eq_iff_iff, key]
  simp
end
end Go.Sh

set_option linter.unusedVariables false
set_option linter.unusedSimpArgs false
namespace Go.Sh
open Go.Proofs
/-! ### a table, as it lies in memory -/
section
variable {n : Nat} {N : List (List Int)} {G I : List Bool} {M : List (List Bool)}
end
end Go.Sh

set_option linter.unusedVariables false
set_option linter.unusedSimpArgs false
namespace Go.Sh
open Go.Proofs
end Go.Sh

set_option linter.unusedVariables false
set_option linter.unusedSimpArgs false
namespace Go.Sh
open Go.Proofs
/-! ### carcanetlaw10.shown -/
def E4 : List Ed := [(0, 1), (0, 3), (1, 2), (2, 3)]
def K4E : List Ed := [(0, 1), (0, 2), (0, 3), (1, 2), (1, 3), (2, 3)]
theorem RE4 : RightP 4 E4 := by decide
theorem RK4 : RightP 4 K4E := by decide
theorem run_E4 : runO 4 E4 = ([(0, 1, 3, true), (1, 2, 3, false), (2, 3, -1, false), (3, -1, -1, false)], [], []) := by
  unfold runO
  rw [if_pos RE4]
  decide +kernel
theorem run_K4 : runO 4 K4E = ([], [0, 1, 2, 3], K4E) := by
  unfold runO
  rw [if_pos RK4]
  decide +kernel
/-! ### carcanetlaw10.ReduceWrong -/
end Go.Sh

set_option linter.unusedVariables false
set_option linter.unusedSimpArgs false
namespace Go.Sh
open Go.Proofs
/-! ### how much is left -/
theorem firstMay_may {N : List (List Int)} {G : List Bool} {v : Nat} (h : firstMay N G = some v) : mayB N G v = true := by
  have := List.find?_some h
  simpa using this
theorem runS_wf : ∀ (f : Nat) {N : List (List Int)} {G : List Bool}, Wf N G → Wf (runS f N G).2.1 (runS f N G).2.2 ∧ (runS f N G).2.1.length = N.length ∧ (runS f N G).1.length ≤ f := by
  intro f
  induction f with
  | zero => intro N G h; exact ⟨h, rfl, by simp [runS]⟩
  | succ f ih =>
    intro N G h
    cases hf : firstMay N G with
    | none => rw [runS_end hf]; exact ⟨h, rfl, by simp⟩
    | some v =>
      rw [runS_go hf]
      obtain ⟨h1, h2, h3⟩ := ih (do_wf h (mayB_iff.1 (firstMay_may hf)))
      exact ⟨h1, by rw [h2, doN_length], by simp; omega⟩
theorem left_len {N : List (List Int)} {G : List Bool} (h : Wf N G) : (leftF G).length ≤ 1000 ∧ (edgesF N G).length ≤ 1000000 := by
  have h1 := leftK_len G G.length
  have h2 := edgesK_len h G.length
  have h3 := h.len
  have h4 := h.most
  have e1 : leftF G = leftK G G.length := rfl
  have e2 : edgesF N G = edgesK N G G.length := by unfold edgesF edgesK; rw [e1]
  rw [e1, e2]
  exact ⟨by omega, by omega⟩
theorem runO_len (n : Int) (E : List Ed) : (runO n E).1.length ≤ 1000 ∧ (runO n E).2.1.length ≤ 1000 ∧ (runO n E).2.2.length ≤ 1000000 := by
  unfold runO
  split
  · rename_i h
    obtain ⟨h1, h2, h3⟩ := runS_wf n.toNat (begin_wf h)
    obtain ⟨h4, h5⟩ := left_len h1
    have := h.1
    have := h.2.1
    exact ⟨by show (runS n.toNat _ _).1.length ≤ 1000; omega, h4, h5⟩
  · simp
/-! ### carcanetref10.Narrow -/
/-! ### carcanetref10.Same -/
/-! ### carcanetlaw10.ours -/
/-! ### carcanetlaw10.theirs -/
end Go.Sh

set_option linter.unusedVariables false
set_option linter.unusedSimpArgs false
namespace Go.Sh
/-! ### what is left, as a graph -/
theorem mem_leftF {G : List Bool} {v : Int} : v ∈ leftF G ↔ 0 ≤ v ∧ v < G.length ∧ goneAt G v = false := by
  unfold leftF
  rw [mem_range_cast]
  constructor
  · rintro ⟨k, h1, h2, rfl⟩
    refine ⟨by omega, by omega, ?_⟩
    rw [goneAt_nat]
    simpa using h2
  · rintro ⟨h1, h2, h3⟩
    refine ⟨v.toNat, by omega, ?_, by omega⟩
    unfold goneAt at h3
    rw [h3]; rfl
/-! ### runs -/
end Go.Sh

set_option linter.unusedVariables false
set_option linter.unusedSimpArgs false
namespace Go.Sh
open Go.Proofs
/-! ### graph.Degrees -/
end Go.Sh

namespace Go.Proofs
open Go.RowKit Go.Shelf

attribute [local go_sem] Oper.semAt_some

def Try.Ints (n₀ : Nat) (W : World) (sv : Value) (zs : List Int) : Prop :=
  (zs = [] ∧ ∃ a cap, sv = .slice a 0 cap) ∨ ∃ a cap, sv = .slice (some a) zs.length cap ∧ a.block < n₀ ∧ ∀ j, j < zs.length → W.cell? (a.add j) = some (.int .i64 (zs[j]?.getD 0))
theorem Try.add_block (a : Addr) (j : Nat) : (a.add j).block = a.block := by unfold Addr.add; split <;> rfl
theorem Try.Ints.below {n₀ : Nat} {A B : World} (h : Below n₀ A B) {sv : Value} {zs : List Int} : Try.Ints n₀ A sv zs → Try.Ints n₀ B sv zs
  | .inl e => .inl e
  | .inr ⟨a, cap, e, hb, hc⟩ => .inr ⟨a, cap, e, hb, fun j hj => (h.cell (p := a.add j) (by rw [Try.add_block]; exact hb)).trans (hc j hj)⟩
end Go.Proofs

namespace Go.Proofs
open Go.RowKit Go.Shelf

attribute [local go_sem] Oper.semAt_some
end Go.Proofs

namespace Go.Proofs
open Go.RowKit Go.Shelf Go.Maps Go.Sort

attribute [local go_sem] Oper.semAt_some
end Go.Proofs

namespace Go.Proofs
open Go.RowKit Go.Shelf Go.Maps Go.Sort

open Go.Sh in
theorem Try.ints_of {w : World} {l : List Int} {A : Option Addr} {c : Nat} (h : FlatOk w noLab none A c 1 (ints l)) : Try.Ints w.heap.size w (.slice A l.length c) l := by
  cases l with
  | nil => exact .inl ⟨rfl, A, c, rfl⟩
  | cons x l =>
    obtain ⟨a, rfl, _, h0⟩ := h.cell 0 [.i .i64 x] 0 (.i .i64 x) rfl rfl
    refine .inr ⟨a, c, rfl, ?_, fun j hj => ?_⟩
    · have h0 : w.cell? (a.add (0 * 1 + 0)) = some (Sc.val (.i .i64 x)) := h0
      have e : (a.add (0 * 1 + 0)).block = a.block := Try.add_block a _
      rw [← e]
      generalize a.add (0 * 1 + 0) = p at h0
      simp only [World.cell?] at h0
      by_cases hp : p.block < w.heap.size
      · exact hp
      · rw [Array.getElem?_eq_none (by omega)] at h0
        simp at h0
    · have hg := List.getElem?_eq_getElem hj
      obtain ⟨b, hb, _, hc⟩ := h.cell j [.i .i64 (x :: l)[j]] 0 (.i .i64 (x :: l)[j]) (ints_get hg) rfl
      injection hb with hb
      subst hb
      rw [Nat.mul_one, Nat.add_zero] at hc
      rw [hc, hg]; rfl
end Go.Proofs


set_option linter.unusedVariables false
namespace Go.Sh
open Go.Proofs
/-! ### walk.unlike -/
end Go.Sh

set_option linter.unusedVariables false
set_option linter.unusedSimpArgs false
namespace Go.Sh
open Go.Proofs
/-! ### carcanetref08.Size, joined, touch -/
/-! ### carcanetref08.Check -/
end Go.Sh

set_option linter.unusedVariables false
set_option linter.unusedSimpArgs false
namespace Go.Sh
/-! ### few edges, few vertices -/
theorem nodup_lenG {α : Type} [DecidableEq α] {l : List α} : ∀ {m : List α}, l.Nodup → (∀ x ∈ l, x ∈ m) → l.length ≤ m.length := by
  induction l with
  | nil => intro m _ _; simp
  | cons x l ih =>
    intro m h s
    rw [List.nodup_cons] at h
    have hx := s x (by simp)
    have := ih (m := m.erase x) h.2 fun y hy => (List.mem_erase_of_ne (fun (e : y = x) => h.1 (by rw [← e]; exact hy))).2 (s y (by simp [hy]))
    rw [List.length_erase_of_mem hx] at this
    have := List.length_pos_of_mem hx
    simp; omega
end Go.Sh

set_option linter.unusedVariables false
set_option linter.unusedSimpArgs false
namespace Go.Sh
open Go.Proofs
/-! ### carcanetlaw10.ReduceCore -/
theorem near_there {N : List (List Int)} {G : List Bool} (h : Wf N G) {v x : Int} (hv : 0 ≤ v) (hx : x ∈ rowAt N v) : 0 ≤ x ∧ x < N.length ∧ goneAt G x = false := by
  have hr := (h.rows v).2 x hx
  refine ⟨hr.1, hr.2, ?_⟩
  cases hg : goneAt G x with
  | false => rfl
  | true =>
    have h2 := h.sym v x hv hr.1 hx
    rw [h.gone x hr.1 hg] at h2; simp at h2
/-- what is left at the end -/
structure Core (N : List (List Int)) (G : List Bool) : Prop where
  wf : Wf N G
  no : ∀ u, mayB N G u = false
theorem Core.three {N : List (List Int)} {G : List Bool} (h : Core N G) {v : Int} (h0 : 0 ≤ v) (h1 : v < N.length) (hg : goneAt G v = false) : 3 ≤ (rowAt N v).length := by
  have := h.no v
  by_cases hl : (rowAt N v).length ≤ 2
  · rw [mayB_iff.2 ⟨h0, h1, hg, hl⟩] at this; cases this
  · omega
theorem Core.four {N : List (List Int)} {G : List Bool} (h : Core N G) (hl : leftF G ≠ []) : 4 ≤ (leftF G).length := by
  obtain ⟨v, hv⟩ := List.exists_mem_of_ne_nil _ hl
  obtain ⟨h0, h1, hg⟩ := mem_leftF.1 hv
  rw [h.wf.len] at h1
  have h3 := h.three h0 h1 hg
  have hnd : (v :: rowAt N v).Nodup := List.nodup_cons.2 ⟨h.wf.irr v h0, (h.wf.rows v).1.imp fun hab => by omega⟩
  have := nodup_lenG (m := leftF G) hnd fun x hx => by
    rcases List.mem_cons.1 hx with e | hx
    · rw [e]; exact hv
    · obtain ⟨x0, x1, xg⟩ := near_there h.wf h0 hx
      exact mem_leftF.2 ⟨x0, by rw [h.wf.len]; exact x1, xg⟩
  simp only [List.length_cons] at this
  omega
end Go.Sh

set_option linter.unusedVariables false
set_option linter.unusedSimpArgs false
namespace Go.Sh
/-! ### runs that leave nothing -/
def Went : List (List Int) → List Bool → List Stp → Prop
  | _, G, [] => ∀ v : Int, 0 ≤ v → v < G.length → goneAt G v = true
  | N, G, s :: r => MayP N G s.1 ∧ s = stepF N s.1 ∧ Went (doN N s) (doG G s) r
theorem went_run {f : Nat} : ∀ {N : List (List Int)} {G : List Bool}, (∀ v : Int, 0 ≤ v → v < (runS f N G).2.2.length → goneAt (runS f N G).2.2 v = true) → Went N G (runS f N G).1 := by
  induction f with
  | zero => intro N G h; exact h
  | succ f ih =>
    intro N G h
    cases hm : firstMay N G with
    | none => rw [runS_end hm] at h ⊢; exact h
    | some v =>
      rw [runS_go hm] at h ⊢
      exact ⟨mayB_iff.1 (firstMay_may hm), rfl, ih h⟩
/-- is it one of the two beside it? -/
def by2 (s : Stp) (x : Int) : Prop := s.2.1 = x ∨ s.2.2.1 = x
theorem by2_row {N : List (List Int)} {G : List Bool} (h : Wf N G) {s : Stp} (hm : MayP N G s.1) (hs : s = stepF N s.1) {x : Int} (hx : 0 ≤ x) : by2 s x ↔ x ∈ rowAt N s.1 := by
  obtain ⟨_, h2⟩ := step_two h hm hs
  unfold by2
  rcases h2 with ⟨hl, ea, eb, _⟩ | ⟨a, hl, ea, eb, _⟩ | ⟨a, b, hl, _, ea, eb, _⟩
  · rw [hl, ea, eb]; simp; omega
  · rw [hl, ea, eb]; simp
    constructor
    · rintro (h | h)
      · exact h.symm
      · omega
    · intro h; exact .inl h.symm
  · rw [hl, ea, eb]; simp
    constructor
    · rintro (h | h)
      · exact .inl h.symm
      · exact .inr h.symm
    · rintro (h | h)
      · exact .inl h.symm
      · exact .inr h.symm
theorem step_ge {N : List (List Int)} {G : List Bool} (h : Wf N G) {s : Stp} (hm : MayP N G s.1) (hs : s = stepF N s.1) : (s.2.1 = -1 ∨ 0 ≤ s.2.1) ∧ (s.2.2.1 = -1 ∨ 0 ≤ s.2.2.1) ∧ (s.2.1 = s.2.2.1 → s.2.1 = -1) := by
  obtain ⟨_, h2⟩ := step_two h hm hs
  have hin := (h.rows s.1).2
  rcases h2 with ⟨hl, ea, eb, _⟩ | ⟨a, hl, ea, eb, _⟩ | ⟨a, b, hl, hab, ea, eb, _⟩
  · exact ⟨.inl ea, .inl eb, fun _ => ea⟩
  · exact ⟨.inr (by rw [ea]; exact (hin a (by rw [hl]; simp)).1), .inl eb, fun e => by rw [ea, eb] at e; have := (hin a (by rw [hl]; simp)).1; omega⟩
  · exact ⟨.inr (by rw [ea]; exact (hin a (by rw [hl]; simp)).1), .inr (by rw [eb]; exact (hin b (by rw [hl]; simp)).1), fun e => by rw [ea, eb] at e; omega⟩
theorem do_gone' {N : List (List Int)} {G : List Bool} (h : Wf N G) {s : Stp} (hm : MayP N G s.1) (hs : s = stepF N s.1) {u : Int} (hu : 0 ≤ u) : goneAt (doG G s) u = if u = s.1 then true else goneAt G u := by
  have h2 := do_gone h hm hu
  rw [← hs] at h2
  exact h2
theorem Went.there : ∀ {L : List Stp} {N : List (List Int)} {G : List Bool}, Wf N G → Went N G L → ∀ s ∈ L, 0 ≤ s.1 ∧ s.1 < N.length ∧ goneAt G s.1 = false := by
  intro L
  induction L with
  | nil => intro N G _ _ s hs; simp at hs
  | cons t L ih =>
    intro N G hW ⟨hm, ht, hr⟩ s hs
    rcases List.mem_cons.1 hs with rfl | hs
    · exact ⟨hm.lo, hm.hi, hm.there⟩
    · have hW2 := do_wf hW hm
      rw [← ht] at hW2
      obtain ⟨h1, h2, h3⟩ := ih hW2 hr s hs
      rw [doN_length] at h2
      refine ⟨h1, h2, ?_⟩
      rw [do_gone' hW hm ht h1] at h3
      split at h3
      · cases h3
      · exact h3
theorem Went.nodup : ∀ {L : List Stp} {N : List (List Int)} {G : List Bool}, Wf N G → Went N G L → (L.map (·.1)).Nodup := by
  intro L
  induction L with
  | nil => intro N G _ _; simp
  | cons t L ih =>
    intro N G hW ⟨hm, ht, hr⟩
    have hW2 := do_wf hW hm
    rw [← ht] at hW2
    rw [List.map_cons, List.nodup_cons]
    refine ⟨fun h => ?_, ih hW2 hr⟩
    obtain ⟨s, hs, e⟩ := List.mem_map.1 h
    obtain ⟨h1, h2, h3⟩ := hr.there hW2 s hs
    rw [do_gone' hW hm ht h1, if_pos e] at h3
    cases h3
theorem Went.all : ∀ {L : List Stp} {N : List (List Int)} {G : List Bool}, Wf N G → Went N G L → ∀ u : Int, 0 ≤ u → u < N.length → goneAt G u = false → ∃ s ∈ L, s.1 = u := by
  intro L
  induction L with
  | nil =>
    intro N G hW h u h0 h1 hg
    rw [h u h0 (by rw [hW.len]; exact h1)] at hg
    cases hg
  | cons t L ih =>
    intro N G hW ⟨hm, ht, hr⟩ u h0 h1 hg
    have hW2 := do_wf hW hm
    rw [← ht] at hW2
    by_cases e : u = t.1
    · exact ⟨t, by simp, e.symm⟩
    · obtain ⟨s, hs, hu⟩ := ih hW2 hr u h0 (by rw [doN_length]; exact h1) (by rw [do_gone' hW hm ht h0, if_neg e]; exact hg)
      exact ⟨s, List.mem_cons_of_mem _ hs, hu⟩
/-- two that are neighbours: where the first one goes, the other one is beside it -/
theorem Went.adj : ∀ {L : List Stp} {N : List (List Int)} {G : List Bool}, Wf N G → Went N G L → ∀ a b : Int, 0 ≤ a → 0 ≤ b → b ∈ rowAt N a → ∃ i s, L[i]? = some s ∧ ((s.1 = a ∧ by2 s b) ∨ (s.1 = b ∧ by2 s a)) ∧ ∀ (j : Nat) (t : Stp), j < i → L[j]? = some t → t.1 ≠ a ∧ t.1 ≠ b := by
  intro L
  induction L with
  | nil =>
    intro N G hW h a b h0 h1 hab
    have hr := (hW.rows a).2 b hab
    have := hW.gone b h1 (h b h1 (by rw [hW.len]; exact hr.2))
    have h2 := hW.sym a b h0 h1 hab
    rw [this] at h2; simp at h2
  | cons t L ih =>
    intro N G hW ⟨hm, ht, hr⟩ a b h0 h1 hab
    have hba := hW.sym a b h0 h1 hab
    by_cases ea : t.1 = a
    · refine ⟨0, t, rfl, .inl ⟨ea, (by2_row hW hm ht h1).2 (by rw [ea]; exact hab)⟩, fun j t hj => by omega⟩
    by_cases eb : t.1 = b
    · refine ⟨0, t, rfl, .inr ⟨eb, (by2_row hW hm ht h0).2 (by rw [eb]; exact hba)⟩, fun j t hj => by omega⟩
    have hW2 := do_wf hW hm
    rw [← ht] at hW2
    have hk : b ∈ rowAt (doN N t) a := by
      have := do_row hW hm h0
      rw [← ht] at this
      exact (this.2 b).2 ⟨fun e => ea e.symm, .inl ⟨hab, fun e => eb e.symm⟩⟩
    obtain ⟨i, s, h2, h3, h4⟩ := ih hW2 hr a b h0 h1 hk
    refine ⟨i + 1, s, h2, h3, fun j u hj hu => ?_⟩
    cases j with
    | zero => simp at hu; subst hu; exact ⟨ea, eb⟩
    | succ j => exact h4 j u (by omega) (by simpa using hu)
/-- what is told of the steps alone -/
structure RunL (n : Int) (L : List Stp) : Prop where
  nd : (L.map (·.1)).Nodup
  rng : ∀ s ∈ L, 0 ≤ s.1 ∧ s.1 < n
  all : ∀ v : Int, 0 ≤ v → v < n → ∃ s ∈ L, s.1 = v
  ge : ∀ s ∈ L, (s.2.1 = -1 ∨ 0 ≤ s.2.1) ∧ (s.2.2.1 = -1 ∨ 0 ≤ s.2.2.1) ∧ (s.2.1 = s.2.2.1 → s.2.1 = -1)
  later : ∀ (i : Nat) (s : Stp) (x : Int), L[i]? = some s → 0 ≤ x → by2 s x → ∃ (k : Nat) (t : Stp), i < k ∧ L[k]? = some t ∧ t.1 = x
  pair : ∀ (i : Nat) (s : Stp) (x y : Int), L[i]? = some s → 0 ≤ x → 0 ≤ y → by2 s x → by2 s y → x ≠ y → ∃ (k : Nat) (t : Stp), i < k ∧ L[k]? = some t ∧ ((t.1 = x ∧ by2 t y) ∨ (t.1 = y ∧ by2 t x))
theorem Went.ge : ∀ {L : List Stp} {N : List (List Int)} {G : List Bool}, Wf N G → Went N G L → ∀ s ∈ L, (s.2.1 = -1 ∨ 0 ≤ s.2.1) ∧ (s.2.2.1 = -1 ∨ 0 ≤ s.2.2.1) ∧ (s.2.1 = s.2.2.1 → s.2.1 = -1) := by
  intro L
  induction L with
  | nil => intro N G _ _ s hs; simp at hs
  | cons t L ih =>
    intro N G hW ⟨hm, ht, hr⟩ s hs
    rcases List.mem_cons.1 hs with rfl | hs
    · exact step_ge hW hm ht
    · have hW2 := do_wf hW hm
      rw [← ht] at hW2
      exact ih hW2 hr s hs
theorem Went.later : ∀ {L : List Stp} {N : List (List Int)} {G : List Bool}, Wf N G → Went N G L → ∀ (i : Nat) (s : Stp) (x : Int), L[i]? = some s → 0 ≤ x → by2 s x → ∃ (k : Nat) (t : Stp), i < k ∧ L[k]? = some t ∧ t.1 = x := by
  intro L
  induction L with
  | nil => intro N G _ _ i s x h; simp at h
  | cons t L ih =>
    intro N G hW ⟨hm, ht, hr⟩ i s x hi hx hb
    have hW2 := do_wf hW hm
    rw [← ht] at hW2
    cases i with
    | zero =>
      simp at hi; subst hi
      have hxr := (by2_row hW hm ht hx).1 hb
      obtain ⟨x0, x1, xg⟩ := near_there hW hm.lo hxr
      have hne : x ≠ t.1 := fun e => hW.irr t.1 hm.lo (by rw [← e]; rw [← e] at hxr; exact hxr)
      obtain ⟨u, hu, e⟩ := hr.all hW2 x x0 (by rw [doN_length]; exact x1) (by rw [do_gone' hW hm ht x0, if_neg hne]; exact xg)
      obtain ⟨k, hk⟩ := List.getElem?_of_mem hu
      exact ⟨k + 1, u, by omega, by simpa using hk, e⟩
    | succ i =>
      obtain ⟨k, u, h1, h2, h3⟩ := ih hW2 hr i s x (by simpa using hi) hx hb
      exact ⟨k + 1, u, by omega, by simpa using h2, h3⟩
theorem Went.pair : ∀ {L : List Stp} {N : List (List Int)} {G : List Bool}, Wf N G → Went N G L → ∀ (i : Nat) (s : Stp) (x y : Int), L[i]? = some s → 0 ≤ x → 0 ≤ y → by2 s x → by2 s y → x ≠ y → ∃ (k : Nat) (t : Stp), i < k ∧ L[k]? = some t ∧ ((t.1 = x ∧ by2 t y) ∨ (t.1 = y ∧ by2 t x)) := by
  intro L
  induction L with
  | nil => intro N G _ _ i s x y h; simp at h
  | cons t L ih =>
    intro N G hW ⟨hm, ht, hr⟩ i s x y hi hx hy hb hc hxy
    have hW2 := do_wf hW hm
    rw [← ht] at hW2
    cases i with
    | zero =>
      simp at hi; subst hi
      have hxr := (by2_row hW hm ht hx).1 hb
      have hyr := (by2_row hW hm ht hy).1 hc
      have hnx : x ≠ t.1 := fun e => hW.irr t.1 hm.lo (by rw [← e]; rw [← e] at hxr; exact hxr)
      have hny : y ≠ t.1 := fun e => hW.irr t.1 hm.lo (by rw [← e]; rw [← e] at hyr; exact hyr)
      have hk : y ∈ rowAt (doN N t) x := by
        have hdr := do_row hW hm hx
        rw [← ht] at hdr
        refine (hdr.2 y).2 ⟨hnx, ?_⟩
        obtain ⟨_, h2⟩ := step_two hW hm ht
        rcases h2 with ⟨hl, _⟩ | ⟨a, hl, _⟩ | ⟨a, b, hl, hab, ea, eb, ed⟩
        · rw [hl] at hxr; simp at hxr
        · rw [hl] at hxr hyr; simp at hxr hyr; omega
        · have ha0 : 0 ≤ a := ((hW.rows t.1).2 a (by rw [hl]; simp)).1
          have hb0 : 0 ≤ b := ((hW.rows t.1).2 b (by rw [hl]; simp)).1
          rw [hl] at hxr hyr
          cases hd : t.2.2.2 with
          | true =>
            right
            refine ⟨rfl, ?_⟩
            simp at hxr hyr
            rw [ea, eb]
            omega
          | false =>
            left
            refine ⟨?_, hny⟩
            have hab2 : b ∈ rowAt N a := by rw [hd] at ed; simpa using ed.symm
            have hba2 := hW.sym a b ha0 hb0 hab2
            simp at hxr hyr
            rcases hxr with rfl | rfl <;> rcases hyr with rfl | rfl
            · exact absurd rfl hxy
            · exact hab2
            · exact hba2
            · exact absurd rfl hxy
      obtain ⟨k, u, h1, h2, _⟩ := hr.adj hW2 x y hx hy hk
      exact ⟨k + 1, u, by omega, by simpa using h1, h2⟩
    | succ i =>
      obtain ⟨k, u, h1, h2, h3⟩ := ih hW2 hr i s x y (by simpa using hi) hx hy hb hc hxy
      exact ⟨k + 1, u, by omega, by simpa using h2, h3⟩
theorem run_none {n : Int} {E : List Ed} (hR : RightP n E) (h : (runO n E).2.1 = []) : Went (nbrs n.toNat E) (List.replicate n.toNat false) (runO n E).1 := by
  have hrun : runO n E = ((runR n E).1, leftF (runR n E).2.2, edgesF (runR n E).2.1 (runR n E).2.2) := if_pos hR
  rw [hrun] at h ⊢
  refine went_run fun v h0 h1 => ?_
  cases hg : goneAt (runS n.toNat (nbrs n.toNat E) (List.replicate n.toNat false)).2.2 v with
  | true => rfl
  | false =>
    have : v ∈ leftF (runR n E).2.2 := mem_leftF.2 ⟨h0, h1, hg⟩
    have h : leftF (runR n E).2.2 = [] := h
    rw [h] at this; simp at this
theorem run_L {n : Int} {E : List Ed} (hR : RightP n E) (h : (runO n E).2.1 = []) : RunL n (runO n E).1 := by
  have hw := run_none hR h
  have hW := begin_wf hR
  have hn : ((nbrs n.toNat E).length : Int) = n := by rw [nbrs_length]; have := hR.1; omega
  exact ⟨hw.nodup hW, fun s hs => by have := hw.there hW s hs; rw [hn] at this; exact ⟨this.1, this.2.1⟩,
    fun v h0 h1 => hw.all hW v h0 (by rw [hn]; exact h1) (by
      unfold goneAt
      rw [List.getD_eq_getElem?_getD, List.getElem?_replicate]
      split <;> rfl), hw.ge hW, hw.later hW, hw.pair hW⟩
end Go.Sh

set_option linter.unusedVariables false
set_option linter.unusedSimpArgs false
namespace Go.Sh
open Go.Proofs
/-! ### the bags of a graph -/
def stepAt (L : List Stp) (i : Nat) : Stp := L.getD i (0, 0, 0, false)
theorem stepAt_get {L : List Stp} {i : Nat} (h : i < L.length) : L[i]? = some (stepAt L i) := by
  unfold stepAt; rw [List.getD_eq_getElem?_getD, List.getElem?_eq_getElem h]; rfl
def bagOf (s : Stp) : List Int := riseL 0 [s.1, s.2.1, s.2.2.1]
def hitB (L : List Stp) (s : Stp) (k : Nat) : Bool := decide ((stepAt L k).1 = s.2.1) || decide ((stepAt L k).1 = s.2.2.1)
def upOf (L : List Stp) (i : Nat) : Int := match (List.range L.length).find? (fun k => decide (i < k) && hitB L (stepAt L i) k) with
  | some k => k
  | none => -1
def setsL (L : List Stp) : List (List Int) := L.map bagOf
def upsK (L : List Stp) (k : Nat) : List Int := (List.range k).map (upOf L)
open Classical in
noncomputable def bagsO (n : Int) (E : List Ed) : (List (List Int) × List Int) × Int :=
  if RightP n E then (if (runO n E).2.1 = [] then ((setsL (runO n E).1, upsK (runO n E).1 (runO n E).1.length), 0) else (([], []), 6)) else (([], []), 1)
theorem upOf_none {L : List Stp} {i : Nat} (h : ∀ k, i < k → k < L.length → hitB L (stepAt L i) k = false) : upOf L i = -1 := by
  unfold upOf
  have : (List.range L.length).find? (fun k => decide (i < k) && hitB L (stepAt L i) k) = none := by
    rw [List.find?_eq_none]
    intro k hk
    rw [List.mem_range] at hk
    by_cases hik : i < k
    · rw [h k hik hk]; simp
    · simp [hik]
  rw [this]
theorem upOf_some {L : List Stp} {i k : Nat} (hik : i < k) (hk : k < L.length) (hh : hitB L (stepAt L i) k = true) (h : ∀ j, i < j → j < k → hitB L (stepAt L i) j = false) : upOf L i = k := by
  unfold upOf
  have : (List.range L.length).find? (fun k => decide (i < k) && hitB L (stepAt L i) k) = some k := by
    rw [List.find?_range_eq_some]
    refine ⟨by rw [hh]; simp [hik], by rw [List.mem_range]; exact hk, fun j hj => ?_⟩
    by_cases hij : i < j
    · rw [h j hij hj]; simp
    · simp [hij]
  rw [this]
noncomputable def OfBC : Con := conP 1 (fun _ : Int × List Ed => True) (fun a => [grV a.1 a.2]) (fun a => .tup [bgV true (bagsO a.1 a.2).1.1 (bagsO a.1 a.2).1.2, .one (.s (.i .i64 (bagsO a.1 a.2).2))])
theorem OfBC_at (n : Int) (E : List Ed) : OfBC.F [grV n E] = some (.tup [bgV true (bagsO n E).1.1 (bagsO n E).1.2, .one (.s (.i .i64 (bagsO n E).2))], []) :=
  conP_at (a := (n, E)) (fun a b _ _ h => by simp at h; obtain ⟨h1, h2⟩ := grV_inj h; rw [Prod.ext h1 h2]) trivial
theorem stps_get {L : List Stp} {i : Nat} {s : Stp} (h : L[i]? = some s) : (stps L)[i]? = some [.i .i64 s.1, .i .i64 s.2.1, .i .i64 s.2.2.1, .b s.2.2.2] := by unfold stps; rw [List.getElem?_map, h]; rfl
theorem runO_len' (n : Int) (E : List Ed) : (runO n E).1.length ≤ 1000 ∧ (runO n E).2.1.length ≤ 1000 ∧ (runO n E).2.2.length ≤ 1000000 := runO_len n E
/-! ### carcanetref12.Of -/
end Go.Sh

set_option linter.unusedVariables false
set_option linter.unusedSimpArgs false
namespace Go.Sh
open Go.Proofs
/-! ### bags.Of -/
def posV (L : List Stp) (x : Int) : Nat := (L.map (·.1)).idxOf x
theorem posV_at {n : Int} {L : List Stp} (h : RunL n L) {k : Nat} (hk : k < L.length) : posV L (stepAt L k).1 = k := by
  have hg := stepAt_get hk
  have hk2 : k < (L.map (·.1)).length := by simpa using hk
  have he : (L.map (·.1))[k] = (stepAt L k).1 := by
    rw [List.getElem_map]
    rw [List.getElem?_eq_getElem hk] at hg
    injection hg with hg
    rw [hg]
  unfold posV
  rw [← he]
  exact h.nd.idxOf_getElem k hk2
def mpos (L : List Stp) (l : List Int) : Int := l.foldl (fun up x => if up < 0 ∨ (posV L x : Int) < up then (posV L x : Int) else up) (-1)
theorem mpos_snoc (L : List Stp) (l : List Int) (x : Int) : mpos L (l ++ [x]) = if mpos L l < 0 ∨ (posV L x : Int) < mpos L l then (posV L x : Int) else mpos L l := by
  unfold mpos; rw [List.foldl_append]; rfl
theorem mfold (L : List Stp) : ∀ (l : List Int) (z : Int), ∃ x ∈ z :: l, l.foldl (fun up x => if up < 0 ∨ (posV L x : Int) < up then (posV L x : Int) else up) (posV L z : Int) = posV L x ∧ ∀ y ∈ z :: l, posV L x ≤ posV L y := by
  intro l
  induction l with
  | nil => intro z; exact ⟨z, by simp, rfl, fun y hy => by simp at hy; rw [hy]; exact Nat.le_refl _⟩
  | cons a l ih =>
    intro z
    rw [List.foldl_cons]
    by_cases h : (posV L a : Int) < posV L z
    · rw [if_pos (.inr h)]
      obtain ⟨x, hx, e, hm⟩ := ih a
      refine ⟨x, List.mem_cons_of_mem _ hx, e, fun y hy => ?_⟩
      rcases List.mem_cons.1 hy with rfl | hy
      · have := hm a (by simp); omega
      · exact hm y hy
    · rw [if_neg (by omega)]
      obtain ⟨x, hx, e, hm⟩ := ih z
      refine ⟨x, ?_, e, fun y hy => ?_⟩
      · rcases List.mem_cons.1 hx with rfl | hx
        · simp
        · simp [hx]
      · rcases List.mem_cons.1 hy with rfl | hy
        · exact hm y (by simp)
        · rcases List.mem_cons.1 hy with rfl | hy
          · have := hm z (by simp); omega
          · exact hm y (by simp [hy])
theorem mpos_spec (L : List Stp) (l : List Int) : (l = [] → mpos L l = -1) ∧ (l ≠ [] → ∃ x ∈ l, mpos L l = posV L x ∧ ∀ y ∈ l, posV L x ≤ posV L y) := by
  cases l with
  | nil => exact ⟨fun _ => rfl, fun h => absurd rfl h⟩
  | cons a l =>
    refine ⟨fun h => by simp at h, fun _ => ?_⟩
    obtain ⟨x, hx, e, hm⟩ := mfold L l a
    refine ⟨x, hx, ?_, hm⟩
    unfold mpos
    rw [List.foldl_cons, if_pos (.inl (by decide))]
    exact e
theorem mem_rise {a x : Int} {l : List Int} : x ∈ riseL a l ↔ x ∈ l ∧ a ≤ x := by
  unfold riseL sortI
  rw [(List.mergeSort_perm _ _).mem_iff, List.mem_filter, decide_eq_true_eq]
theorem mem_two {s : Stp} {x : Int} : x ∈ riseL 0 [s.2.1, s.2.2.1] ↔ 0 ≤ x ∧ by2 s x := by
  rw [mem_rise]
  simp only [List.mem_cons, List.not_mem_nil, or_false]
  unfold by2
  constructor
  · rintro ⟨h | h, h0⟩
    · exact ⟨h0, .inl h.symm⟩
    · exact ⟨h0, .inr h.symm⟩
  · rintro ⟨h0, h | h⟩
    · exact ⟨.inl h.symm, h0⟩
    · exact ⟨.inr h.symm, h0⟩
theorem hitB_iff {L : List Stp} {s : Stp} {k : Nat} : hitB L s k = true ↔ by2 s (stepAt L k).1 := by
  unfold hitB by2
  rw [Bool.or_eq_true, decide_eq_true_eq, decide_eq_true_eq]
  exact ⟨fun h => h.imp Eq.symm Eq.symm, fun h => h.imp Eq.symm Eq.symm⟩
theorem pos_later {n : Int} {L : List Stp} (h : RunL n L) {i : Nat} (hi : i < L.length) {x : Int} (h0 : 0 ≤ x) (hb : by2 (stepAt L i) x) : i < posV L x ∧ posV L x < L.length ∧ (stepAt L (posV L x)).1 = x := by
  obtain ⟨k, t, h1, h2, h3⟩ := h.later i _ x (stepAt_get hi) h0 hb
  have hk := (List.getElem?_eq_some_iff.1 h2).1
  have ht : stepAt L k = t := by have := stepAt_get hk; rw [h2] at this; injection this with this; exact this.symm
  have := posV_at h hk
  rw [ht, h3] at this
  rw [this, ht]
  exact ⟨h1, hk, h3⟩
theorem up_mpos {n : Int} {L : List Stp} (h : RunL n L) {i : Nat} (hi : i < L.length) : mpos L (riseL 0 [(stepAt L i).2.1, (stepAt L i).2.2.1]) = upOf L i := by
  have hs := mpos_spec L (riseL 0 [(stepAt L i).2.1, (stepAt L i).2.2.1])
  have hrn : ∀ k, k < L.length → 0 ≤ (stepAt L k).1 := fun k hk => (h.rng _ (List.mem_of_getElem? (stepAt_get hk))).1
  by_cases he : riseL 0 [(stepAt L i).2.1, (stepAt L i).2.2.1] = []
  · rw [hs.1 he, upOf_none fun k h1 h2 => ?_]
    cases hb : hitB L (stepAt L i) k with
    | false => rfl
    | true =>
      have := mem_two.2 ⟨hrn k h2, hitB_iff.1 hb⟩
      rw [he] at this; simp at this
  · obtain ⟨x, hx, e, hm⟩ := hs.2 he
    obtain ⟨h0, hb⟩ := mem_two.1 hx
    obtain ⟨p1, p2, p3⟩ := pos_later h hi h0 hb
    rw [e, upOf_some p1 p2 (hitB_iff.2 (by rw [p3]; exact hb)) fun j h1 h2 => ?_]
    cases hb2 : hitB L (stepAt L i) j with
    | false => rfl
    | true =>
      have hj : j < L.length := by omega
      have := hm _ (mem_two.2 ⟨hrn j hj, hitB_iff.1 hb2⟩)
      rw [posV_at h hj] at this
      omega
end Go.Sh

set_option linter.unusedVariables false
set_option linter.unusedSimpArgs false
namespace Go.Sh
open Go.Proofs
def AtI (L : List Stp) (k : Nat) (A : List Int) : Prop := A.length = 1000 ∧ ∀ i, i < k → A[((stepAt L i).1).toNat]? = some (i : Int)
theorem AtI.set {n : Int} {L : List Stp} (h : RunL n L) {k : Nat} {A : List Int} (hA : AtI L k A) (hk : k < L.length) (hn : n ≤ 1000) : AtI L (k + 1) (A.set ((stepAt L k).1).toNat (k : Int)) := by
  have hrn : ∀ k, k < L.length → 0 ≤ (stepAt L k).1 ∧ (stepAt L k).1 < n := fun k hk => h.rng _ (List.mem_of_getElem? (stepAt_get hk))
  have hk0 := hrn k hk
  refine ⟨by rw [List.length_set]; exact hA.1, fun i hi => ?_⟩
  by_cases e : i = k
  · subst e
    rw [List.getElem?_set_self (by rw [hA.1]; omega)]
  · have hi0 := hrn i (by omega)
    rw [List.getElem?_set_ne (fun e2 => ?_)]
    · exact hA.2 i (by omega)
    · have h1 := posV_at h (show i < L.length by omega)
      have h2 := posV_at h hk
      have : (stepAt L i).1 = (stepAt L k).1 := by omega
      rw [this] at h1
      omega
set_option maxRecDepth 100000 in
set_option maxHeartbeats 4000000 in
theorem OfB_ok : SoundC Try.prog T 17 OfBC := by
  refine sound_con (X := { Γ := [(39, RightC), (40, RunC), (41, RiseC)], T := T, nt := 90 }) cr_none hmix hT (sound_cons RightG_ok (sound_cons Run_ok (sound_cons Rise_ok sound_nil))) Try.func17 (by rfl) (by rfl) (by rfl) (by rfl) 2 ?_
  rintro ⟨n, E⟩ -
  dsimp only
  refine ⟨⟨Nat.le_of_ble_eq_true rfl, Nat.le_of_ble_eq_true rfl⟩, ?_⟩
  refine Call.by _ _ (RightC_at n E) ?_
  refine Pick.by (fun h1 => ?_) (fun h1 => ?_)
  · have h1 : ¬ RightP n E := by have h1 : (!decide (RightP n E)) = true := h1; simpa using h1
    have hv : bagsO n E = (([], []), 1) := if_neg h1
    rw [hv]
    refine ⟨rfl, rfl, ?_⟩
    (repeat' first | exact rfl | exact trivial | refine And.intro ?_ ?_)
  have hR : RightP n E := by have h1 : (!decide (RightP n E)) = false := h1; simpa using h1
  refine Call.by _ _ (RunC_at n E) ?_
  obtain ⟨r1, r2, r3⟩ := runO_len' n E
  refine Pick.by (fun h2 => ?_) (fun h2 => ?_)
  · have h2 : ¬ (runO n E).2.1 = [] := by
      intro e
      have : decide ((((ints (runO n E).2.1).length : Nat) : Int) > 0) = true := h2
      rw [e] at this; simp [ints] at this
    have hv : bagsO n E = (([], []), 6) := by unfold bagsO; rw [if_pos hR, if_neg h2]
    rw [hv]
    refine ⟨rfl, rfl, ?_⟩
    (repeat' first | exact rfl | exact trivial | refine And.intro ?_ ?_)
  have h2 : (runO n E).2.1 = [] := by
    have : decide ((((ints (runO n E).2.1).length : Nat) : Int) > 0) = false := h2
    rw [decide_eq_false_iff_not, ints_length] at this
    exact List.eq_nil_of_length_eq_zero (by omega)
  have hv : bagsO n E = ((setsL (runO n E).1, upsK (runO n E).1 (runO n E).1.length), 0) := by unfold bagsO; rw [if_pos hR, if_pos h2]
  have hrl := run_L hR h2
  have hn1 := hR.2.1
  rw [hv]
  dsimp only
  obtain ⟨L, hL⟩ : ∃ x, (runO n E).1 = x := ⟨_, rfl⟩
  obtain ⟨D, hD⟩ : ∃ x, (runO n E).2.1 = x := ⟨_, rfl⟩
  obtain ⟨Eg, hEg⟩ : ∃ x, (runO n E).2.2 = x := ⟨_, rfl⟩
  rw [hL] at hrl r1 ⊢
  rw [hD, hEg]
  have hrn : ∀ k, k < L.length → 0 ≤ (stepAt L k).1 ∧ (stepAt L k).1 < n := fun k hk => hrl.rng _ (List.mem_of_getElem? (stepAt_get hk))
  refine LoopP.intro (α := Nat × List Int) (fun a => a.1 ≤ L.length ∧ AtI L a.1 a.2) (fun a => L.length - a.1) (fun a => [(2, .ptr 0 0), (3, .s (.i .i64 0)), (4, .ptr 1 0), (5, .ptr 5 0), (26, .sl 2 none none), (27, .s (.i .i64 L.length)), (28, .s (.i .i64 a.1))])
    (fun a => [(0, some (.blk [.nils, .nils])), (1, some (.blk [.sl 2 none none, .sl 3 none none, .sl 4 none none])), (2, some (.flat true 4 (stps L))), (3, some (.flat true 1 (ints D))), (4, some (.flat true 2 (edges Eg))), (5, some (.flat true 1 (ints a.2)))]) 6 (0, List.replicate 1000 0) ⟨by dsimp only; omega, by dsimp only; rw [List.length_replicate], fun i h => by dsimp only at h; omega⟩ (by refine Weak.by [(0, some _), (1, some _), (2, some _), (3, some _), (4, some _), (5, some _)] (by ((repeat' first | exact rfl | exact trivial | refine And.intro ?_ ?_) <;> (repeat' first | exact rfl | exact trivial | refine And.intro ?_ ?_)); all_goals (first | exact sc_eq (by rw [stps_length]) | (unfold ints; rw [List.map_replicate]; done))) (by ((repeat' first | exact rfl | exact trivial | refine And.intro ?_ ?_) <;> (repeat' first | exact rfl | exact trivial | refine And.intro ?_ ?_)); all_goals (first | exact sc_eq (by rw [stps_length]) | (unfold ints; rw [List.map_replicate]; done))) (by rfl)) ?_
  rintro ⟨k, A⟩ ⟨hk, hA⟩
  dsimp only at hk hA ⊢
  refine Pick.by (fun hc => ?_) (fun hc => ?_)
  · have hlt : k < L.length := by simpa using hc
    have hget := stps_get (stepAt_get hlt)
    have hrk := hrn k hlt
    have hst := hA.set hrl hlt hn1
    generalize stepAt L k = s at hget hrk hst
    refine Idx.by k rfl (by rw [stps_length]; exact hlt) ?_
    refine Look.by _ hget ?_
    refine Idx.by s.1.toNat (by omega) (by omega) ?_
    obtain ⟨z, hz⟩ : ∃ z, A[s.1.toNat]? = some z := ⟨_, List.getElem?_eq_getElem (by rw [hA.1]; omega)⟩
    refine Look.by _ (ints_get hz) ?_
    refine Pick.T (inI64_of (by omega) (by omega)) ?_
    refine Next.by (k + 1, A.set s.1.toNat (k : Int)) ⟨by dsimp only; omega, hst⟩ (by dsimp only; omega) (by refine Weak.by [(0, some _), (1, some _), (2, some _), (3, some _), (4, some _), (5, some _)] (by ((repeat' first | exact rfl | exact trivial | refine And.intro ?_ ?_) <;> (repeat' first | exact rfl | exact trivial | refine And.intro ?_ ?_)); all_goals ((rw [ints_set]; rfl))) (by ((repeat' first | exact rfl | exact trivial | refine And.intro ?_ ?_) <;> (repeat' first | exact rfl | exact trivial | refine And.intro ?_ ?_)); all_goals ((rw [ints_set]; rfl))) (by rfl))
  have hke : k = L.length := by have : L.length ≤ k := by simpa using hc
                                omega
  subst hke
  have hAx : ∀ x : Int, 0 ≤ x → posV L x < L.length → (stepAt L (posV L x)).1 = x → x < 1000 ∧ (ints A)[x.toNat]? = some [.i .i64 (posV L x : Int)] := fun x hx h1 h2 => by
    have h3 := hA.2 _ h1
    rw [h2] at h3
    have := (List.getElem?_eq_some_iff.1 h3).1
    rw [hA.1] at this
    exact ⟨by omega, ints_get h3⟩
  have hAl : (ints A).length = 1000 := by rw [ints_length, hA.1]
  refine LoopP.intro (α := Nat) (fun i => i ≤ L.length) (fun i => L.length - i) (fun i => [(2, .ptr 0 0), (3, .s (.i .i64 0)), (4, .ptr 1 0), (5, .ptr 5 0), (8, .ptr 6 0), (39, .sl 2 none none), (40, .s (.i .i64 L.length)), (41, .s (.i .i64 i))])
    (fun i => [(0, some (.blk [.nils, .nils])), (1, some (.blk [.sl 2 none none, .sl 3 none none, .sl 4 none none])), (2, some (.flat true 4 (stps L))), (3, some (.flat true 1 (ints D))), (4, some (.flat true 2 (edges Eg))), (5, some (.flat true 1 (ints A))), (6, some (.blk [.sl 7 none none, .sl 8 none none])), (7, some (.nest true 1 (rowsI (setsL (L.take i))) [] [])), (8, some (.flat true 1 (ints (upsK L i))))]) 9 0 (by omega) (by refine Weak.by [(0, some _), (1, some _), (2, some _), (3, some _), (4, some _), (5, some _), (6, some _), (7, none), (8, none)] (by ((repeat' first | exact rfl | exact trivial | refine And.intro ?_ ?_) <;> (repeat' first | exact rfl | exact trivial | refine And.intro ?_ ?_)); all_goals (exact sc_eq (by rw [stps_length]))) (by ((repeat' first | exact rfl | exact trivial | refine And.intro ?_ ?_) <;> (repeat' first | exact rfl | exact trivial | refine And.intro ?_ ?_)); all_goals (exact sc_eq (by rw [stps_length]))) (by rfl)) ?_
  rintro i hi
  refine Pick.by (fun hc2 => ?_) (fun hc2 => ?_)
  · have hlt : i < L.length := by simpa using hc2
    obtain ⟨s, hst⟩ : ∃ s, stepAt L i = s := ⟨_, rfl⟩
    have hget := stps_get (stepAt_get hlt)
    have hup := up_mpos hrl hlt
    have hlat := fun x h0 hb => pos_later hrl hlt (x := x) h0 hb
    have hRise2 := RiseC_at 0 (l := [s.2.1, s.2.2.1]) (by simp)
    have hRise3 := RiseC_at 0 (l := [s.1, s.2.1, s.2.2.1]) (by simp)
    have hrm := fun x => mem_two (s := s) (x := x)
    rw [hst] at hget hup hlat
    refine Idx.by i rfl (by rw [stps_length]; exact hlt) ?_
    refine Look.by _ hget ?_
    refine Call.by _ _ hRise2 ?_
    obtain ⟨R, hRe⟩ : ∃ R, riseL 0 [s.2.1, s.2.2.1] = R := ⟨_, rfl⟩
    have hR2 : R.length ≤ 2 := by rw [← hRe]; unfold riseL; rw [sortI_length]; exact Nat.le_trans (List.length_filter_le _ _) (by simp)
    rw [hRe] at hup hrm ⊢
    refine LoopP.intro (α := Nat) (fun j => j ≤ R.length) (fun j => R.length - j) (fun j => [(2, .ptr 0 0), (3, .s (.i .i64 0)), (4, .ptr 1 0), (5, .ptr 5 0), (8, .ptr 6 0), (10, .ptr 9 0), (11, .s (.i .i64 (mpos L (R.take j)))), (39, .sl 2 none none), (40, .s (.i .i64 L.length)), (41, .s (.i .i64 i)), (50, .sl 10 none none), (51, .s (.i .i64 R.length)), (52, .s (.i .i64 j))])
      (fun j => [(0, some (.blk [.nils, .nils])), (1, some (.blk [.sl 2 none none, .sl 3 none none, .sl 4 none none])), (2, some (.flat true 4 (stps L))), (3, some (.flat true 1 (ints D))), (4, some (.flat true 2 (edges Eg))), (5, some (.flat true 1 (ints A))), (6, some (.blk [.sl 7 none none, .sl 8 none none])), (7, some (.nest true 1 (rowsI (setsL (L.take i))) [] [])), (8, some (.flat true 1 (ints (upsK L i)))), (9, some (.blk [.s (.i .i64 s.1), .s (.i .i64 s.2.1), .s (.i .i64 s.2.2.1), .s (.b s.2.2.2)])), (10, some (.flat true 1 (ints R)))]) 11 0 (by omega) (by refine Weak.by [(0, some _), (1, some _), (2, some _), (3, some _), (4, some _), (5, some _), (6, some _), (7, some _), (8, some _), (9, some _), (10, some _)] (by ((repeat' first | exact rfl | exact trivial | refine And.intro ?_ ?_) <;> (repeat' first | exact rfl | exact trivial | refine And.intro ?_ ?_)); all_goals (first | exact sc_eq (by rw [ints_length]) | rfl)) (by ((repeat' first | exact rfl | exact trivial | refine And.intro ?_ ?_) <;> (repeat' first | exact rfl | exact trivial | refine And.intro ?_ ?_)); all_goals (first | exact sc_eq (by rw [ints_length]) | rfl)) (by rfl)) ?_
    rintro j hj
    refine Pick.by (fun hd => ?_) (fun hd => ?_)
    · have hjl : j < R.length := by simpa using hd
      obtain ⟨hx0, hxb⟩ := (hrm _).1 (List.getElem_mem hjl)
      obtain ⟨p1, p2, p3⟩ := hlat _ hx0 hxb
      obtain ⟨q1, q2⟩ := hAx _ hx0 p2 p3
      have hms : mpos L (R.take (j + 1)) = if mpos L (R.take j) < 0 ∨ (posV L R[j] : Int) < mpos L (R.take j) then (posV L R[j] : Int) else mpos L (R.take j) := by
        rw [List.take_succ_eq_append_getElem hjl, mpos_snoc]
      refine Idx.by j rfl (by rw [ints_length]; exact hjl) ?_
      refine Look.by _ (ints_get (List.getElem?_eq_getElem hjl)) ?_
      refine Pick.by (fun h3 => ?_) (fun h3 => ?_)
      · have h3 : mpos L (R.take j) < 0 := by simpa using h3
        rw [if_pos (.inl h3)] at hms
        refine Idx.by R[j].toNat (by omega) (by omega) ?_
        refine Look.by _ q2 ?_
        refine Pick.T (inI64_of (by omega) (by omega)) ?_
        refine Next.by (j + 1) (by omega) (by omega) (by refine Weak.by [(0, some _), (1, some _), (2, some _), (3, some _), (4, some _), (5, some _), (6, some _), (7, some _), (8, some _), (9, some _), (10, some _)] (by ((repeat' first | exact rfl | exact trivial | refine And.intro ?_ ?_) <;> (repeat' first | exact rfl | exact trivial | refine And.intro ?_ ?_)); all_goals ((rw [hms]; rfl))) (by ((repeat' first | exact rfl | exact trivial | refine And.intro ?_ ?_) <;> (repeat' first | exact rfl | exact trivial | refine And.intro ?_ ?_)); all_goals ((rw [hms]; rfl))) (by rfl))
      have h3 : ¬ mpos L (R.take j) < 0 := by simpa using h3
      refine Idx.by R[j].toNat (by omega) (by omega) ?_
      refine Look.by _ q2 ?_
      refine Pick.by (fun h4 => ?_) (fun h4 => ?_)
      · have h4 : (posV L R[j] : Int) < mpos L (R.take j) := by simpa using h4
        rw [if_pos (.inr h4)] at hms
        refine Idx.by R[j].toNat (by omega) (by omega) ?_
        refine Look.by _ q2 ?_
        refine Pick.T (inI64_of (by omega) (by omega)) ?_
        refine Next.by (j + 1) (by omega) (by omega) (by refine Weak.by [(0, some _), (1, some _), (2, some _), (3, some _), (4, some _), (5, some _), (6, some _), (7, some _), (8, some _), (9, some _), (10, some _)] (by ((repeat' first | exact rfl | exact trivial | refine And.intro ?_ ?_) <;> (repeat' first | exact rfl | exact trivial | refine And.intro ?_ ?_)); all_goals ((rw [hms]; rfl))) (by ((repeat' first | exact rfl | exact trivial | refine And.intro ?_ ?_) <;> (repeat' first | exact rfl | exact trivial | refine And.intro ?_ ?_)); all_goals ((rw [hms]; rfl))) (by rfl))
      have h4 : ¬ (posV L R[j] : Int) < mpos L (R.take j) := by simpa using h4
      rw [if_neg (fun h => h.elim h3 h4)] at hms
      refine Pick.T (inI64_of (by omega) (by omega)) ?_
      refine Next.by (j + 1) (by omega) (by omega) (by refine Weak.by [(0, some _), (1, some _), (2, some _), (3, some _), (4, some _), (5, some _), (6, some _), (7, some _), (8, some _), (9, some _), (10, some _)] (by ((repeat' first | exact rfl | exact trivial | refine And.intro ?_ ?_) <;> (repeat' first | exact rfl | exact trivial | refine And.intro ?_ ?_)); all_goals ((rw [hms]; rfl))) (by ((repeat' first | exact rfl | exact trivial | refine And.intro ?_ ?_) <;> (repeat' first | exact rfl | exact trivial | refine And.intro ?_ ?_)); all_goals ((rw [hms]; rfl))) (by rfl))
    · have hjg : R.length ≤ j := by simpa using hd
      rw [List.take_of_length_le hjg]
      have hS1 : (rowsI (setsL (L.take i))).length = i := by rw [rowsI_length]; unfold setsL; simp; omega
      have hS2 : rowsI (setsL (L.take (i + 1))) = rowsI (setsL (L.take i)) ++ [ints (bagOf s)] := by
        rw [← rowsI_snoc]
        unfold setsL
        rw [List.take_succ_eq_append_getElem hlt, List.map_append]
        have := stepAt_get hlt
        rw [List.getElem?_eq_getElem hlt] at this
        injection this with this
        rw [this, hst]; rfl
      have hU1 : (upsK L i).length = i := by unfold upsK; simp
      have hU2 : ints (upsK L (i + 1)) = ints (upsK L i) ++ [[.i .i64 (mpos L R)]] := by
        rw [hup, ← ints_snoc]
        unfold upsK
        rw [List.range_succ, List.map_append]; rfl
      refine Call.by _ _ hRise3 ?_
      refine Pick.T (by rw [hS1]; simp; omega) ?_
      refine Seg.by (by kernel_rfl) ?_
      refine Pick.T (by simp [cut, ints_length, hU1]; omega) ?_
      refine Pick.T (inI64_of (by omega) (by omega)) ?_
      refine Next.by (i + 1) (by omega) (by omega) (by refine Weak.by [(0, some _), (1, some _), (2, some _), (3, some _), (4, some _), (5, some _), (6, some _), (7, some _), (8, some _)] (by ((repeat' first | exact rfl | exact trivial | refine And.intro ?_ ?_) <;> (repeat' first | exact rfl | exact trivial | refine And.intro ?_ ?_)); all_goals (first | (exact hS2) | (exact hU2))) (by ((repeat' first | exact rfl | exact trivial | refine And.intro ?_ ?_) <;> (repeat' first | exact rfl | exact trivial | refine And.intro ?_ ?_)); all_goals (first | (exact hS2) | (exact hU2))) (by rfl))
  · have hge : i = L.length := by have : L.length ≤ i := by simpa using hc2
                                  omega
    subst hge
    rw [List.take_length]
    refine ⟨rfl, rfl, ?_⟩
    (repeat' first | exact rfl | exact trivial | refine And.intro ?_ ?_)
end Go.Sh

set_option linter.unusedVariables false
set_option linter.unusedSimpArgs false
namespace Go.Sh
open Go.Proofs
noncomputable def XBC : Cx := { Γ := [(39, RightC), (46, ContC)], T := T, nt := 149, inl := [(47, inlF Try.f47)] }
theorem XBC_sound : Sound Try.prog T XBC.Γ := sound_cons RightG_ok (sound_cons Cont_ok sound_nil)
theorem XBC_ok : CrOk Try.prog (callAt 1 XBC) := callAt_ok hmix hT XBC_sound (inl_cons Try.func47 (by rfl) (by rfl) (by rfl) inl_nil) cr_none 1
set_option maxRecDepth 100000 in
set_option maxHeartbeats 4000000 in
theorem BChk_ok : SoundC Try.prog T 21 BChkC := by
  refine sound_con (X := XBC) (cr := callAt 1 XBC) XBC_ok hmix hT XBC_sound Try.func21 (by rfl) (by rfl) (by rfl) (by rfl) 4 ?_
  rintro ⟨⟨n, E⟩, S, U⟩ ⟨hS, hU, hSr⟩
  dsimp only at hS hU hSr ⊢
  refine ⟨⟨Nat.le_of_ble_eq_true rfl, Nat.le_of_ble_eq_true rfl⟩, ?_⟩
  refine Call.by _ _ (RightC_at n E) ?_
  refine Pick.by (fun h1 => ?_) (fun h1 => ?_)
  · have h1 : ¬ RightP n E := by have h1 : (!decide (RightP n E)) = true := h1; simpa using h1
    refine ⟨rfl, ?_⟩
    show Sc.b false = Sc.b (bagB n E S U)
    exact bagB_no fun h => h1 h.1
  have h1 : RightP n E := by have h1 : (!decide (RightP n E)) = false := h1; simpa using h1
  refine Pick.by (fun h3 => ?_) (fun h3 => ?_)
  · have h3 : S.length ≠ U.length := by simp [rowsI_length, ints_length] at h3; omega
    refine ⟨rfl, ?_⟩
    show Sc.b false = Sc.b (bagB n E S U)
    exact bagB_no fun h => h3 h.2.1.1
  have hSU : S.length = U.length := by simp [rowsI_length, ints_length] at h3; omega
  have hn0 := h1.1
  have hn1 := h1.2.1
  have hE4 := h1.2.2.1
  refine LoopP.intro (α := Nat) (fun k => k ≤ S.length ∧ ∀ i, i < k → rowOk n (bagAt S i) ∧ upOk S.length i (upAt U i)) (fun k => S.length - k) (fun k => [(2, .ptr 0 0), (3, .ptr 2 0), (33, .sl 3 none none), (34, .s (.i .i64 S.length)), (35, .s (.i .i64 k))])
    (fun k => [(0, some (.blk [.s (.i .i64 n), .sl 1 none none])), (1, some (.flat false 2 (edges E))), (2, some (.blk [.sl 3 none none, .sl 4 none none])), (3, some (.nest false 1 (rowsI S) [] [])), (4, some (.flat false 1 (ints U)))]) 5 0 ⟨by omega, fun i h => by omega⟩ (by refine Weak.by [(0, some _), (1, some _), (2, some _), (3, some _), (4, some _)] (by ((repeat' first | exact rfl | exact trivial | refine And.intro ?_ ?_) <;> (repeat' first | exact rfl | exact trivial | refine And.intro ?_ ?_)); all_goals (exact sc_eq (by rw [rowsI_length]))) (by ((repeat' first | exact rfl | exact trivial | refine And.intro ?_ ?_) <;> (repeat' first | exact rfl | exact trivial | refine And.intro ?_ ?_)); all_goals (exact sc_eq (by rw [rowsI_length]))) (by rfl)) ?_
  rintro k ⟨hk, hall⟩
  refine Pick.by (fun hc => ?_) (fun hc => ?_)
  · have hlt : k < S.length := by simpa using hc
    have hro := rowsI_get (bagAt_get hlt)
    have hup := ints_get (upAt_get (U := U) (i := k) (by omega))
    have hlr := hSr _ (bagAt_mem hlt)
    refine Idx.by k rfl (by rw [rowsI_length]; exact hlt) ?_
    refine Pick.T (by rw [rowsI_length]; simpa using hlt) ?_
    refine Idx.by k rfl (by rw [ints_length]; omega) ?_
    refine Look.by _ hup ?_
    refine Pick.by (fun h4 => ?_) (fun h4 => ?_)
    · have h4 : upAt U k ≠ -1 := by simpa using h4
      refine Idx.by k rfl (by rw [ints_length]; omega) ?_
      refine Look.by _ hup ?_
      refine Pick.by (fun h5 => ?_) (fun h5 => ?_)
      · have h5 : upAt U k ≤ k := by simpa using h5
        refine Seg.by (by kernel_rfl) ?_
        refine ⟨rfl, ?_⟩
        show Sc.b false = Sc.b (bagB n E S U)
        exact bagB_no fun h => by rcases (h.2.1.2 k hlt).2 with e | ⟨e, _⟩ <;> omega
      have h5 : ¬ upAt U k ≤ k := by simpa using h5
      refine Idx.by k rfl (by rw [ints_length]; omega) ?_
      refine Look.by _ hup ?_
      refine Pick.by (fun h6 => ?_) (fun h6 => ?_)
      · have h6 : upAt U k ≥ S.length := by simpa [rowsI_length] using h6
        refine Seg.by (by kernel_rfl) ?_
        refine ⟨rfl, ?_⟩
        show Sc.b false = Sc.b (bagB n E S U)
        exact bagB_no fun h => by rcases (h.2.1.2 k hlt).2 with e | ⟨_, e⟩ <;> omega
      have h6 : ¬ upAt U k ≥ S.length := by simpa [rowsI_length] using h6
      have huk : upOk S.length k (upAt U k) := .inr ⟨by omega, by omega⟩
      refine Look.by _ hro ?_
      refine Seg.by (by kernel_rfl) ?_
      refine Pick.by (fun h2 => ?_) (fun h2 => ?_)
      · have h2 : ¬ (bagAt S k).length ≤ 3 := by simp [ints_length] at h2; omega
        refine ⟨rfl, ?_⟩
        show Sc.b false = Sc.b (bagB n E S U)
        exact bagB_no fun h => h2 (h.2.1.2 k hlt).1.1
      have h2 : (bagAt S k).length ≤ 3 := by simp [ints_length] at h2; omega
      refine Look.by _ hro ?_
      refine LoopP.intro (α := Nat) (fun j => j ≤ (bagAt S k).length ∧ ((bagAt S k).take j).Nodup ∧ ∀ x ∈ (bagAt S k).take j, 0 ≤ x ∧ x < n) (fun j => (bagAt S k).length - j) (fun j => [(2, .ptr 0 0), (3, .ptr 2 0), (6, .sl 3 (some (k, 0)) none), (33, .sl 3 none none), (34, .s (.i .i64 S.length)), (35, .s (.i .i64 k)), (71, .sl 3 (some (k, 0)) none), (72, .s (.i .i64 (bagAt S k).length)), (73, .s (.i .i64 j))])
        (fun j => [(0, some (.blk [.s (.i .i64 n), .sl 1 none none])), (1, some (.flat false 2 (edges E))), (2, some (.blk [.sl 3 none none, .sl 4 none none])), (3, some (.nest false 1 (rowsI S) [] [])), (4, some (.flat false 1 (ints U)))]) 5 0 ⟨by omega, by simp, by simp⟩ (by refine Weak.by [(0, some _), (1, some _), (2, some _), (3, some _), (4, some _)] (by ((repeat' first | exact rfl | exact trivial | refine And.intro ?_ ?_) <;> (repeat' first | exact rfl | exact trivial | refine And.intro ?_ ?_)); all_goals (first | exact sc_eq (by rw [ints_length]) | simp)) (by ((repeat' first | exact rfl | exact trivial | refine And.intro ?_ ?_) <;> (repeat' first | exact rfl | exact trivial | refine And.intro ?_ ?_)); all_goals (first | exact sc_eq (by rw [ints_length]) | simp)) (by rfl)) ?_
      rintro j ⟨hj, hjn, hjr⟩
      refine Pick.by (fun hd => ?_) (fun hd => ?_)
      · have hjl : j < (bagAt S k).length := by simpa using hd
        have hx := ints_get (List.getElem?_eq_getElem hjl)
        have hin := List.getElem_mem hjl
        refine Look.by _ hro ?_
        refine Idx.by j rfl (by rw [ints_length]; exact hjl) ?_
        refine Look.by _ hro ?_
        refine Look.by _ hx ?_
        refine Pick.by (fun h8 => ?_) (fun h8 => ?_)
        · have h8 : (bagAt S k)[j] < 0 := by simpa using h8
          refine ⟨rfl, ?_⟩
          show Sc.b false = Sc.b (bagB n E S U)
          exact bagB_no fun h => by have := (h.2.1.2 k hlt).1.2.2 _ hin; omega
        have h8 : ¬ (bagAt S k)[j] < 0 := by simpa using h8
        refine Pick.by (fun h9 => ?_) (fun h9 => ?_)
        · have h9 : (bagAt S k)[j] ≥ n := by simpa using h9
          refine ⟨rfl, ?_⟩
          show Sc.b false = Sc.b (bagB n E S U)
          exact bagB_no fun h => by have := (h.2.1.2 k hlt).1.2.2 _ hin; omega
        have h9 : ¬ (bagAt S k)[j] ≥ n := by simpa using h9
        refine Look.by _ hro ?_
        refine Rng.by 0 j rfl rfl (by omega) (by rw [ints_length]; omega) ?_
        have hcut : cut (subOf none 0 0 j) (ints (bagAt S k)) = ints ((bagAt S k).take j) := by simp only [subOf, cut, List.drop_zero, Nat.sub_zero, ints, List.map_take]
        have hcc := ContC_at (l := (bagAt S k).take j) (bagAt S k)[j] (by rw [List.length_take]; omega)
        rw [← hcut] at hcc
        refine Look.by _ hro ?_
        refine Call.by _ _ hcc ?_
        have hsp : (bagAt S k).take (j + 1) = (bagAt S k).take j ++ [(bagAt S k)[j]] := List.take_succ_eq_append_getElem hjl
        refine Pick.by (fun h10 => ?_) (fun h10 => ?_)
        · have h10 : ((bagAt S k).take j).elem (bagAt S k)[j] = true := h10
          refine ⟨rfl, ?_⟩
          show Sc.b false = Sc.b (bagB n E S U)
          exact bagB_no fun h => by have hn := ((h.2.1.2 k hlt).1.2.1).sublist (List.take_sublist (j + 1) _); rw [hsp, List.nodup_append] at hn; exact hn.2.2 _ (by simpa using h10) _ (by simp) rfl
        have h10 : ((bagAt S k).take j).elem (bagAt S k)[j] = false := h10
        refine Pick.T (inI64_of (by omega) (by omega)) ?_
        refine Next.by (j + 1) ⟨by omega, by rw [hsp, List.nodup_append]; exact ⟨hjn, by simp, fun a ha b hb e => by simp at hb h10; subst hb; subst e; exact h10 ha⟩, all_take hjl hjr (by omega)⟩ (by omega) (by refine Weak.by [(0, some _), (1, some _), (2, some _), (3, some _), (4, some _)] (by ((repeat' first | exact rfl | exact trivial | refine And.intro ?_ ?_) <;> (repeat' first | exact rfl | exact trivial | refine And.intro ?_ ?_)); all_goals (simp)) (by ((repeat' first | exact rfl | exact trivial | refine And.intro ?_ ?_) <;> (repeat' first | exact rfl | exact trivial | refine And.intro ?_ ?_)); all_goals (simp)) (by rfl))
      · have hjg : (bagAt S k).length ≤ j := by simpa using hd
        rw [List.take_of_length_le hjg] at hjn hjr
        refine Pick.T (inI64_of (by omega) (by omega)) ?_
        refine Next.by (k + 1) ⟨by omega, fun i hi => ?_⟩ (by omega) (by refine Weak.by [(0, some _), (1, some _), (2, some _), (3, some _), (4, some _)] (by ((repeat' first | exact rfl | exact trivial | refine And.intro ?_ ?_) <;> (repeat' first | exact rfl | exact trivial | refine And.intro ?_ ?_))) (by ((repeat' first | exact rfl | exact trivial | refine And.intro ?_ ?_) <;> (repeat' first | exact rfl | exact trivial | refine And.intro ?_ ?_))) (by rfl))
        rcases Nat.lt_or_ge i k with hik | hik
        · exact hall i hik
        · obtain rfl : i = k := by omega
          exact ⟨⟨h2, hjn, hjr⟩, huk⟩
    have h4 : upAt U k = -1 := by simpa using h4
    have huk : upOk S.length k (upAt U k) := .inl h4
    refine Look.by _ hro ?_
    refine Seg.by (by kernel_rfl) ?_
    refine Pick.by (fun h2 => ?_) (fun h2 => ?_)
    · have h2 : ¬ (bagAt S k).length ≤ 3 := by simp [ints_length] at h2; omega
      refine ⟨rfl, ?_⟩
      show Sc.b false = Sc.b (bagB n E S U)
      exact bagB_no fun h => h2 (h.2.1.2 k hlt).1.1
    have h2 : (bagAt S k).length ≤ 3 := by simp [ints_length] at h2; omega
    refine Look.by _ hro ?_
    refine LoopP.intro (α := Nat) (fun j => j ≤ (bagAt S k).length ∧ ((bagAt S k).take j).Nodup ∧ ∀ x ∈ (bagAt S k).take j, 0 ≤ x ∧ x < n) (fun j => (bagAt S k).length - j) (fun j => [(2, .ptr 0 0), (3, .ptr 2 0), (6, .sl 3 (some (k, 0)) none), (33, .sl 3 none none), (34, .s (.i .i64 S.length)), (35, .s (.i .i64 k)), (71, .sl 3 (some (k, 0)) none), (72, .s (.i .i64 (bagAt S k).length)), (73, .s (.i .i64 j))])
      (fun j => [(0, some (.blk [.s (.i .i64 n), .sl 1 none none])), (1, some (.flat false 2 (edges E))), (2, some (.blk [.sl 3 none none, .sl 4 none none])), (3, some (.nest false 1 (rowsI S) [] [])), (4, some (.flat false 1 (ints U)))]) 5 0 ⟨by omega, by simp, by simp⟩ (by refine Weak.by [(0, some _), (1, some _), (2, some _), (3, some _), (4, some _)] (by ((repeat' first | exact rfl | exact trivial | refine And.intro ?_ ?_) <;> (repeat' first | exact rfl | exact trivial | refine And.intro ?_ ?_)); all_goals (first | exact sc_eq (by rw [ints_length]) | simp)) (by ((repeat' first | exact rfl | exact trivial | refine And.intro ?_ ?_) <;> (repeat' first | exact rfl | exact trivial | refine And.intro ?_ ?_)); all_goals (first | exact sc_eq (by rw [ints_length]) | simp)) (by rfl)) ?_
    rintro j ⟨hj, hjn, hjr⟩
    refine Pick.by (fun hd => ?_) (fun hd => ?_)
    · have hjl : j < (bagAt S k).length := by simpa using hd
      have hx := ints_get (List.getElem?_eq_getElem hjl)
      have hin := List.getElem_mem hjl
      refine Look.by _ hro ?_
      refine Idx.by j rfl (by rw [ints_length]; exact hjl) ?_
      refine Look.by _ hro ?_
      refine Look.by _ hx ?_
      refine Pick.by (fun h8 => ?_) (fun h8 => ?_)
      · have h8 : (bagAt S k)[j] < 0 := by simpa using h8
        refine ⟨rfl, ?_⟩
        show Sc.b false = Sc.b (bagB n E S U)
        exact bagB_no fun h => by have := (h.2.1.2 k hlt).1.2.2 _ hin; omega
      have h8 : ¬ (bagAt S k)[j] < 0 := by simpa using h8
      refine Pick.by (fun h9 => ?_) (fun h9 => ?_)
      · have h9 : (bagAt S k)[j] ≥ n := by simpa using h9
        refine ⟨rfl, ?_⟩
        show Sc.b false = Sc.b (bagB n E S U)
        exact bagB_no fun h => by have := (h.2.1.2 k hlt).1.2.2 _ hin; omega
      have h9 : ¬ (bagAt S k)[j] ≥ n := by simpa using h9
      refine Look.by _ hro ?_
      refine Rng.by 0 j rfl rfl (by omega) (by rw [ints_length]; omega) ?_
      have hcut : cut (subOf none 0 0 j) (ints (bagAt S k)) = ints ((bagAt S k).take j) := by simp only [subOf, cut, List.drop_zero, Nat.sub_zero, ints, List.map_take]
      have hcc := ContC_at (l := (bagAt S k).take j) (bagAt S k)[j] (by rw [List.length_take]; omega)
      rw [← hcut] at hcc
      refine Look.by _ hro ?_
      refine Call.by _ _ hcc ?_
      have hsp : (bagAt S k).take (j + 1) = (bagAt S k).take j ++ [(bagAt S k)[j]] := List.take_succ_eq_append_getElem hjl
      refine Pick.by (fun h10 => ?_) (fun h10 => ?_)
      · have h10 : ((bagAt S k).take j).elem (bagAt S k)[j] = true := h10
        refine ⟨rfl, ?_⟩
        show Sc.b false = Sc.b (bagB n E S U)
        exact bagB_no fun h => by have hn := ((h.2.1.2 k hlt).1.2.1).sublist (List.take_sublist (j + 1) _); rw [hsp, List.nodup_append] at hn; exact hn.2.2 _ (by simpa using h10) _ (by simp) rfl
      have h10 : ((bagAt S k).take j).elem (bagAt S k)[j] = false := h10
      refine Pick.T (inI64_of (by omega) (by omega)) ?_
      refine Next.by (j + 1) ⟨by omega, by rw [hsp, List.nodup_append]; exact ⟨hjn, by simp, fun a ha b hb e => by simp at hb h10; subst hb; subst e; exact h10 ha⟩, all_take hjl hjr (by omega)⟩ (by omega) (by refine Weak.by [(0, some _), (1, some _), (2, some _), (3, some _), (4, some _)] (by ((repeat' first | exact rfl | exact trivial | refine And.intro ?_ ?_) <;> (repeat' first | exact rfl | exact trivial | refine And.intro ?_ ?_)); all_goals (simp)) (by ((repeat' first | exact rfl | exact trivial | refine And.intro ?_ ?_) <;> (repeat' first | exact rfl | exact trivial | refine And.intro ?_ ?_)); all_goals (simp)) (by rfl))
    · have hjg : (bagAt S k).length ≤ j := by simpa using hd
      rw [List.take_of_length_le hjg] at hjn hjr
      refine Pick.T (inI64_of (by omega) (by omega)) ?_
      refine Next.by (k + 1) ⟨by omega, fun i hi => ?_⟩ (by omega) (by refine Weak.by [(0, some _), (1, some _), (2, some _), (3, some _), (4, some _)] (by ((repeat' first | exact rfl | exact trivial | refine And.intro ?_ ?_) <;> (repeat' first | exact rfl | exact trivial | refine And.intro ?_ ?_))) (by ((repeat' first | exact rfl | exact trivial | refine And.intro ?_ ?_) <;> (repeat' first | exact rfl | exact trivial | refine And.intro ?_ ?_))) (by rfl))
      rcases Nat.lt_or_ge i k with hik | hik
      · exact hall i hik
      · obtain rfl : i = k := by omega
        exact ⟨⟨h2, hjn, hjr⟩, huk⟩
  have hset : setsP n S U := ⟨hSU, fun i hi => hall i (by have : S.length ≤ k := by simpa using hc
                                                          omega)⟩
  clear hall hc hk
  have hve : ∀ l : List Int, vecR (unvec (ints l)) = ints l := fun l => unvec_map fun i row h => by
    simp only [ints, List.getElem?_map, Option.map_eq_some_iff] at h
    obtain ⟨x, _, rfl⟩ := h; rfl
  have hul : ∀ l : List Int, (unvec (ints l)).length = l.length := fun l => by
    have := congrArg List.length (hve l)
    rw [vecR_length, ints_length] at this; exact this
  refine LoopP.intro (α := Nat) (fun i => i ≤ S.length) (fun i => S.length - i) (fun i => [(1, .ptr 5 0), (2, .ptr 6 0), (3, .ptr 7 0), (9, .sl 3 none none), (10, .s (.i .i64 S.length)), (11, .s (.i .i64 i)), (1000002, .ptr 0 0), (1000003, .ptr 2 0)])
    (fun i => [(0, some (.blk [.s (.i .i64 n), .sl 1 none none])), (1, some (.flat false 2 (edges E))), (2, some (.blk [.sl 3 none none, .sl 4 none none])), (3, some (.nest false 1 (rowsI S) [] [])), (4, some (.flat false 1 (ints U))), (5, some (.blk [.sl 3 none none, .sl 4 none none])), (6, some (.flat true 1 (ints (List.replicate 1000 0)))), (7, some (.flat true 1 (ints (hdL S U i 0))))]) 8 0 (by omega) (by refine Weak.by [(0, some _), (1, some _), (2, some _), (3, some _), (4, some _), (5, some _), (6, some _), (7, some _)] (by ((repeat' first | exact rfl | exact trivial | refine And.intro ?_ ?_) <;> (repeat' first | exact rfl | exact trivial | refine And.intro ?_ ?_)); all_goals (first | exact sc_eq (by rw [rowsI_length]) | (unfold ints; rw [List.map_replicate]; done) | (rw [hdL_zero]; unfold ints; rw [List.map_replicate]; done))) (by ((repeat' first | exact rfl | exact trivial | refine And.intro ?_ ?_) <;> (repeat' first | exact rfl | exact trivial | refine And.intro ?_ ?_)); all_goals (first | exact sc_eq (by rw [rowsI_length]) | (unfold ints; rw [List.map_replicate]; done) | (rw [hdL_zero]; unfold ints; rw [List.map_replicate]; done))) (by rfl)) ?_
  rintro i hi
  refine Pick.by (fun hc => ?_) (fun hc => ?_)
  · have hlt : i < S.length := by simpa using hc
    have hro := rowsI_get (bagAt_get hlt)
    have hup := ints_get (upAt_get (U := U) (i := i) (by omega))
    have hlr := hSr _ (bagAt_mem hlt)
    obtain ⟨⟨r1, r2, r3⟩, hupo⟩ := hset.2 i hlt
    refine Idx.by i rfl (by rw [rowsI_length]; exact hlt) ?_
    refine Pick.T (by rw [rowsI_length]; simpa using hlt) ?_
    refine Look.by _ hro ?_
    refine LoopP.intro (α := Nat) (fun j => j ≤ (bagAt S i).length) (fun j => (bagAt S i).length - j) (fun j => [(1, .ptr 5 0), (2, .ptr 6 0), (3, .ptr 7 0), (4, .s (.i .i64 i)), (9, .sl 3 none none), (10, .s (.i .i64 S.length)), (11, .s (.i .i64 i)), (16, .sl 3 (some (i, 0)) none), (17, .s (.i .i64 (bagAt S i).length)), (18, .s (.i .i64 j)), (1000002, .ptr 0 0), (1000003, .ptr 2 0)])
      (fun j => [(0, some (.blk [.s (.i .i64 n), .sl 1 none none])), (1, some (.flat false 2 (edges E))), (2, some (.blk [.sl 3 none none, .sl 4 none none])), (3, some (.nest false 1 (rowsI S) [] [])), (4, some (.flat false 1 (ints U))), (5, some (.blk [.sl 3 none none, .sl 4 none none])), (6, some (.flat true 1 (ints (List.replicate 1000 0)))), (7, some (.flat true 1 (ints (hdL S U i j))))]) 8 0 (by omega) (by refine Weak.by [(0, some _), (1, some _), (2, some _), (3, some _), (4, some _), (5, some _), (6, some _), (7, some _)] (by ((repeat' first | exact rfl | exact trivial | refine And.intro ?_ ?_) <;> (repeat' first | exact rfl | exact trivial | refine And.intro ?_ ?_)); all_goals (first | exact sc_eq (by rw [ints_length]) | simp)) (by ((repeat' first | exact rfl | exact trivial | refine And.intro ?_ ?_) <;> (repeat' first | exact rfl | exact trivial | refine And.intro ?_ ?_)); all_goals (first | exact sc_eq (by rw [ints_length]) | simp)) (by rfl)) ?_
    rintro j hj
    refine Pick.by (fun hd => ?_) (fun hd => ?_)
    · have hjl : j < (bagAt S i).length := by simpa using hd
      have hx := ints_get (List.getElem?_eq_getElem hjl)
      have hxr := r3 _ (List.getElem_mem hjl)
      obtain ⟨x, hxe⟩ : ∃ x : Nat, (bagAt S i)[j] = x := ⟨(bagAt S i)[j].toNat, by omega⟩
      rw [hxe] at hx hxr
      have hx1 : x < 1000 := by omega
      have hst := hdL_step (U := U) hjl hxe hx1 r2
      have hle := hdK_le S U i j x
      have hg := ints_get (hdL_get S U i j hx1)
      have hgl : (ints (hdL S U i j)).length = 1000 := by rw [ints_length, hdL_length]
      refine Look.by _ hro ?_
      refine Idx.by j rfl (by rw [ints_length]; exact hjl) ?_
      refine Look.by _ hro ?_
      refine Look.by _ hx ?_
      refine Idx.by i rfl (by rw [ints_length]; omega) ?_
      refine Look.by _ hup ?_
      refine Pick.by (fun h4 => ?_) (fun h4 => ?_)
      · have h4 : upAt U i < 0 := by simpa using h4
        have hh : headB S U i x = true := by unfold headB; rw [decide_eq_true h4, ← hxe]; simp
        rw [if_pos hh] at hst
        refine Seg.by (by kernel_rfl) ?_
        refine Idx.by x rfl (by omega) ?_
        refine Look.by _ hg ?_
        refine Pick.T (inI64_of (by omega) (by omega)) ?_
        refine Idx.by x rfl (by omega) ?_
        refine Look.by _ hg ?_
        refine Pick.T (inI64_of (by omega) (by omega)) ?_
        refine Next.by (j + 1) (by omega) (by omega) (by refine Weak.by [(0, some _), (1, some _), (2, some _), (3, some _), (4, some _), (5, some _), (6, some _), (7, some _)] (by ((repeat' first | exact rfl | exact trivial | refine And.intro ?_ ?_) <;> (repeat' first | exact rfl | exact trivial | refine And.intro ?_ ?_)); all_goals (first | (rw [hst, ints_set]; rfl) | simp)) (by ((repeat' first | exact rfl | exact trivial | refine And.intro ?_ ?_) <;> (repeat' first | exact rfl | exact trivial | refine And.intro ?_ ?_)); all_goals (first | (rw [hst, ints_set]; rfl) | simp)) (by rfl))
      have h4 : ¬ upAt U i < 0 := by simpa using h4
      have hlt2 : (upAt U i).toNat < S.length := by rcases hupo with e | ⟨_, e⟩ <;> omega
      have hlr2 := hSr _ (bagAt_mem hlt2)
      refine Idx.by i rfl (by rw [ints_length]; omega) ?_
      refine Look.by _ hup ?_
      refine Idx.by (upAt U i).toNat (by omega) (by rw [rowsI_length]; omega) ?_
      refine Pick.T (by rw [rowsI_length]; simp; omega) ?_
      refine Look.by _ (rowsI_get (bagAt_get hlt2)) ?_
      refine Call.by _ _ (ContC_at (x : Int) (by omega)) ?_
      refine Seg.by (by kernel_rfl) ?_
      have hh : headB S U i x = !(bagAt S (upAt U i).toNat).elem (x : Int) := by
        unfold headB
        rw [decide_eq_false h4, show (bagAt S i).elem (x : Int) = true by rw [← hxe]; simp, Bool.true_and, Bool.false_or]
      refine Pick.by (fun h5 => ?_) (fun h5 => ?_)
      · have h5 : (!(bagAt S (upAt U i).toNat).elem (x : Int)) = true := h5
        rw [if_pos (by rw [hh]; exact h5)] at hst
        refine Idx.by x rfl (by omega) ?_
        refine Look.by _ hg ?_
        refine Pick.T (inI64_of (by omega) (by omega)) ?_
        refine Idx.by x rfl (by omega) ?_
        refine Look.by _ hg ?_
        refine Pick.T (inI64_of (by omega) (by omega)) ?_
        refine Next.by (j + 1) (by omega) (by omega) (by refine Weak.by [(0, some _), (1, some _), (2, some _), (3, some _), (4, some _), (5, some _), (6, some _), (7, some _)] (by ((repeat' first | exact rfl | exact trivial | refine And.intro ?_ ?_) <;> (repeat' first | exact rfl | exact trivial | refine And.intro ?_ ?_)); all_goals (first | (rw [hst, ints_set]; rfl) | simp)) (by ((repeat' first | exact rfl | exact trivial | refine And.intro ?_ ?_) <;> (repeat' first | exact rfl | exact trivial | refine And.intro ?_ ?_)); all_goals (first | (rw [hst, ints_set]; rfl) | simp)) (by rfl))
      have h5 : (!(bagAt S (upAt U i).toNat).elem (x : Int)) = false := h5
      rw [if_neg (by rw [hh, h5]; decide)] at hst
      refine Pick.T (inI64_of (by omega) (by omega)) ?_
      refine Next.by (j + 1) (by omega) (by omega) (by refine Weak.by [(0, some _), (1, some _), (2, some _), (3, some _), (4, some _), (5, some _), (6, some _), (7, some _)] (by ((repeat' first | exact rfl | exact trivial | refine And.intro ?_ ?_) <;> (repeat' first | exact rfl | exact trivial | refine And.intro ?_ ?_)); all_goals (first | (rw [hst]; done) | simp)) (by ((repeat' first | exact rfl | exact trivial | refine And.intro ?_ ?_) <;> (repeat' first | exact rfl | exact trivial | refine And.intro ?_ ?_)); all_goals (first | (rw [hst]; done) | simp)) (by rfl))
    · have hjg : (bagAt S i).length ≤ j := by simpa using hd
      refine Pick.T (inI64_of (by omega) (by omega)) ?_
      refine Next.by (i + 1) (by omega) (by omega) (by refine Weak.by [(0, some _), (1, some _), (2, some _), (3, some _), (4, some _), (5, some _), (6, some _), (7, some _)] (by ((repeat' first | exact rfl | exact trivial | refine And.intro ?_ ?_) <;> (repeat' first | exact rfl | exact trivial | refine And.intro ?_ ?_)); all_goals ((rw [hdL_next hjg]))) (by ((repeat' first | exact rfl | exact trivial | refine And.intro ?_ ?_) <;> (repeat' first | exact rfl | exact trivial | refine And.intro ?_ ?_)); all_goals ((rw [hdL_next hjg]))) (by rfl))
  have hie : i = S.length := by have : S.length ≤ i := by simpa using hc
                                omega
  subst hie
  refine ⟨by rw [vecR_length, hul, hdL_length], ?_⟩
  obtain ⟨L, hL⟩ : ∃ L, hdL S U S.length 0 = L := ⟨_, rfl⟩
  have hLl : L.length = 1000 := by rw [← hL, hdL_length]
  have hLg : ∀ v : Nat, v < 1000 → (ints L)[v]? = some [.i .i64 (cntH S U v : Int)] := fun v hv => by rw [← hL]; exact ints_get (hdL_end S U hv)
  rw [hL]
  refine Pick.T (by rw [List.length_replicate, hve, hul, hLl]; rfl) ?_
  refine LoopP.intro (α := Nat) (fun k => k ≤ n.toNat ∧ ∀ v : Nat, v < k → cntH S U v = 1) (fun k => n.toNat - k) (fun k => [(2, .ptr 0 0), (3, .ptr 2 0), (9, .ptr 5 0), (98, .s (.i .i64 n)), (99, .s (.i .i64 k))])
    (fun k => [(0, some (.blk [.s (.i .i64 n), .sl 1 none none])), (1, some (.flat false 2 (edges E))), (2, some (.blk [.sl 3 none none, .sl 4 none none])), (3, some (.nest false 1 (rowsI S) [] [])), (4, some (.flat false 1 (ints U))), (5, some (.flat true 1 (ints L)))]) 6 0 ⟨by omega, fun v h => by omega⟩ (by refine Weak.by [(0, some _), (1, some _), (2, some _), (3, some _), (4, some _), (5, some _)] (by ((repeat' first | exact rfl | exact trivial | refine And.intro ?_ ?_) <;> (repeat' first | exact rfl | exact trivial | refine And.intro ?_ ?_)); all_goals ((rw [hve, hve]))) (by ((repeat' first | exact rfl | exact trivial | refine And.intro ?_ ?_) <;> (repeat' first | exact rfl | exact trivial | refine And.intro ?_ ?_)); all_goals ((rw [hve, hve]))) (by rfl)) ?_
  rintro k ⟨hk, hcv⟩
  refine Pick.by (fun hc => ?_) (fun hc => ?_)
  · have hlt : k < n.toNat := by simp at hc; omega
    refine Idx.by k rfl (by omega) ?_
    refine Look.by _ (hLg k (by omega)) ?_
    refine Pick.by (fun h3 => ?_) (fun h3 => ?_)
    · have h3 : ¬ cntH S U k = 1 := by simp at h3; omega
      refine ⟨rfl, ?_⟩
      show Sc.b false = Sc.b (bagB n E S U)
      exact bagB_no fun h => h3 (h.2.2.1 k (by omega))
    have h3 : cntH S U k = 1 := by simp at h3; omega
    refine Pick.T (inI64_of (by omega) (by omega)) ?_
    refine Next.by (k + 1) ⟨by omega, fun v hv => ?_⟩ (by omega) (by refine Weak.by [(0, some _), (1, some _), (2, some _), (3, some _), (4, some _), (5, some _)] (by ((repeat' first | exact rfl | exact trivial | refine And.intro ?_ ?_) <;> (repeat' first | exact rfl | exact trivial | refine And.intro ?_ ?_))) (by ((repeat' first | exact rfl | exact trivial | refine And.intro ?_ ?_) <;> (repeat' first | exact rfl | exact trivial | refine And.intro ?_ ?_))) (by rfl))
    rcases Nat.lt_or_ge v k with h | h
    · exact hcv v h
    · obtain rfl : v = k := by omega
      exact h3
  have hcv : ∀ v : Nat, (v : Int) < n → cntH S U v = 1 := fun v hv => hcv v (by simp at hc; omega)
  refine LoopP.intro (α := Nat × List (List Int × Int)) (fun a => a.1 ≤ S.length ∧ MapI a.2 (fun x y => ∃ l ∈ S.take a.1, x ∈ l ∧ y ∈ l ∧ x < y)) (fun a => S.length - a.1) (fun a => [(2, .ptr 0 0), (3, .ptr 2 0), (11, .mp 5), (109, .sl 3 none none), (110, .s (.i .i64 S.length)), (111, .s (.i .i64 a.1))])
    (fun a => [(0, some (.blk [.s (.i .i64 n), .sl 1 none none])), (1, some (.flat false 2 (edges E))), (2, some (.blk [.sl 3 none none, .sl 4 none none])), (3, some (.nest false 1 (rowsI S) [] [])), (4, some (.flat false 1 (ints U))), (5, some (.map true 2 a.2))]) 6 (0, []) ⟨by simp, fun a b => by simp [mapGet]⟩ (by refine Weak.by [(0, some _), (1, some _), (2, some _), (3, some _), (4, some _), (5, some _)] (by ((repeat' first | exact rfl | exact trivial | refine And.intro ?_ ?_) <;> (repeat' first | exact rfl | exact trivial | refine And.intro ?_ ?_)); all_goals (exact sc_eq (by rw [rowsI_length]))) (by ((repeat' first | exact rfl | exact trivial | refine And.intro ?_ ?_) <;> (repeat' first | exact rfl | exact trivial | refine And.intro ?_ ?_)); all_goals (exact sc_eq (by rw [rowsI_length]))) (by rfl)) ?_
  rintro ⟨i, m⟩ ⟨hi, hM⟩
  dsimp only at hi hM ⊢
  refine Pick.by (fun hc => ?_) (fun hc => ?_)
  · have hlt : i < S.length := by simpa using hc
    have hro := rowsI_get (bagAt_get hlt)
    have hlr := hSr _ (bagAt_mem hlt)
    obtain ⟨⟨r1, r2, r3⟩, hupo⟩ := hset.2 i hlt
    have htk : S.take (i + 1) = S.take i ++ [bagAt S i] := by
      rw [List.take_succ_eq_append_getElem hlt]
      have := bagAt_get hlt
      rw [List.getElem?_eq_getElem hlt] at this
      injection this with this
      rw [this]
    refine Idx.by i rfl (by rw [rowsI_length]; exact hlt) ?_
    refine Pick.T (by rw [rowsI_length]; simpa using hlt) ?_
    refine Look.by _ hro ?_
    refine LoopP.intro (α := Nat × List (List Int × Int)) (fun a => a.1 ≤ (bagAt S i).length ∧ MapI a.2 (fun x y => (∃ l ∈ S.take i, x ∈ l ∧ y ∈ l ∧ x < y) ∨ (x ∈ (bagAt S i).take a.1 ∧ y ∈ bagAt S i ∧ x < y))) (fun a => (bagAt S i).length - a.1) (fun a => [(2, .ptr 0 0), (3, .ptr 2 0), (11, .mp 5), (13, .sl 3 (some (i, 0)) none), (109, .sl 3 none none), (110, .s (.i .i64 S.length)), (111, .s (.i .i64 i)), (115, .sl 3 (some (i, 0)) none), (116, .s (.i .i64 (bagAt S i).length)), (117, .s (.i .i64 a.1))])
      (fun a => [(0, some (.blk [.s (.i .i64 n), .sl 1 none none])), (1, some (.flat false 2 (edges E))), (2, some (.blk [.sl 3 none none, .sl 4 none none])), (3, some (.nest false 1 (rowsI S) [] [])), (4, some (.flat false 1 (ints U))), (5, some (.map true 2 a.2))]) 6 (0, m) ⟨by simp, hM.same fun a b => by simp⟩ (by refine Weak.by [(0, some _), (1, some _), (2, some _), (3, some _), (4, some _), (5, some _)] (by ((repeat' first | exact rfl | exact trivial | refine And.intro ?_ ?_) <;> (repeat' first | exact rfl | exact trivial | refine And.intro ?_ ?_)); all_goals (first | exact sc_eq (by rw [ints_length]) | simp)) (by ((repeat' first | exact rfl | exact trivial | refine And.intro ?_ ?_) <;> (repeat' first | exact rfl | exact trivial | refine And.intro ?_ ?_)); all_goals (first | exact sc_eq (by rw [ints_length]) | simp)) (by rfl)) ?_
    rintro ⟨j, m⟩ ⟨hj, hM⟩
    dsimp only at hj hM ⊢
    refine Pick.by (fun hd => ?_) (fun hd => ?_)
    · have hjl : j < (bagAt S i).length := by simpa using hd
      have hx := ints_get (List.getElem?_eq_getElem hjl)
      have hxr := r3 _ (List.getElem_mem hjl)
      have htj : (bagAt S i).take (j + 1) = (bagAt S i).take j ++ [(bagAt S i)[j]] := List.take_succ_eq_append_getElem hjl
      refine Look.by _ hro ?_
      refine Idx.by j rfl (by rw [ints_length]; exact hjl) ?_
      refine Look.by _ hro ?_
      refine Look.by _ hx ?_
      refine Look.by _ hro ?_
      refine LoopP.intro (α := Nat × List (List Int × Int)) (fun a => a.1 ≤ (bagAt S i).length ∧ MapI a.2 (fun x y => ((∃ l ∈ S.take i, x ∈ l ∧ y ∈ l ∧ x < y) ∨ (x ∈ (bagAt S i).take j ∧ y ∈ bagAt S i ∧ x < y)) ∨ (x = (bagAt S i)[j] ∧ y ∈ (bagAt S i).take a.1 ∧ x < y))) (fun a => (bagAt S i).length - a.1) (fun a => [(2, .ptr 0 0), (3, .ptr 2 0), (11, .mp 5), (13, .sl 3 (some (i, 0)) none), (15, .s (.i .i64 (bagAt S i)[j])), (109, .sl 3 none none), (110, .s (.i .i64 S.length)), (111, .s (.i .i64 i)), (115, .sl 3 (some (i, 0)) none), (116, .s (.i .i64 (bagAt S i).length)), (117, .s (.i .i64 j)), (121, .sl 3 (some (i, 0)) none), (122, .s (.i .i64 (bagAt S i).length)), (123, .s (.i .i64 a.1))])
        (fun a => [(0, some (.blk [.s (.i .i64 n), .sl 1 none none])), (1, some (.flat false 2 (edges E))), (2, some (.blk [.sl 3 none none, .sl 4 none none])), (3, some (.nest false 1 (rowsI S) [] [])), (4, some (.flat false 1 (ints U))), (5, some (.map true 2 a.2))]) 6 (0, m) ⟨by simp, hM.same fun a b => by simp⟩ (by refine Weak.by [(0, some _), (1, some _), (2, some _), (3, some _), (4, some _), (5, some _)] (by ((repeat' first | exact rfl | exact trivial | refine And.intro ?_ ?_) <;> (repeat' first | exact rfl | exact trivial | refine And.intro ?_ ?_)); all_goals (first | exact sc_eq (by rw [ints_length]) | simp)) (by ((repeat' first | exact rfl | exact trivial | refine And.intro ?_ ?_) <;> (repeat' first | exact rfl | exact trivial | refine And.intro ?_ ?_)); all_goals (first | exact sc_eq (by rw [ints_length]) | simp)) (by rfl)) ?_
      rintro ⟨q, m⟩ ⟨hq, hM⟩
      dsimp only at hq hM ⊢
      refine Pick.by (fun he => ?_) (fun he => ?_)
      · have hql : q < (bagAt S i).length := by simpa using he
        have hy := ints_get (List.getElem?_eq_getElem hql)
        have hyr := r3 _ (List.getElem_mem hql)
        have htq : (bagAt S i).take (q + 1) = (bagAt S i).take q ++ [(bagAt S i)[q]] := List.take_succ_eq_append_getElem hql
        refine Look.by _ hro ?_
        refine Idx.by q rfl (by rw [ints_length]; exact hql) ?_
        refine Look.by _ hro ?_
        refine Look.by _ hy ?_
        refine Pick.by (fun h4 => ?_) (fun h4 => ?_)
        · have h4 : (bagAt S i)[j] < (bagAt S i)[q] := by simpa using h4
          refine Pick.T (inI64_of (by omega) (by omega)) ?_
          refine Pick.T (inI64_of (by omega) (by omega)) ?_
          refine Pick.T (inI64_of (by omega) (by omega)) ?_
          refine Next.by (q + 1, mapPut m [(bagAt S i)[j], (bagAt S i)[q]] 1) ⟨by dsimp only; omega, hM.put fun a b => by
            dsimp only
            rw [htq]
            simp only [List.mem_append, List.mem_singleton]
            constructor
            · rintro (h | ⟨h1, h2 | h2, h3⟩)
              · exact .inl (.inl h)
              · exact .inl (.inr ⟨h1, h2, h3⟩)
              · exact .inr ⟨h1, h2⟩
            · rintro ((h | h) | ⟨h1, h2⟩)
              · exact .inl h
              · exact .inr ⟨h.1, .inl h.2.1, h.2.2⟩
              · exact .inr ⟨h1, .inr h2, by rw [h1, h2]; exact h4⟩⟩ (by dsimp only; omega) (by refine Weak.by [(0, some _), (1, some _), (2, some _), (3, some _), (4, some _), (5, some _)] (by ((repeat' first | exact rfl | exact trivial | refine And.intro ?_ ?_) <;> (repeat' first | exact rfl | exact trivial | refine And.intro ?_ ?_)); all_goals (simp)) (by ((repeat' first | exact rfl | exact trivial | refine And.intro ?_ ?_) <;> (repeat' first | exact rfl | exact trivial | refine And.intro ?_ ?_)); all_goals (simp)) (by rfl))
        · have h4 : ¬ (bagAt S i)[j] < (bagAt S i)[q] := by simpa using h4
          refine Pick.T (inI64_of (by omega) (by omega)) ?_
          refine Next.by (q + 1, m) ⟨by dsimp only; omega, hM.same fun a b => by
            dsimp only
            rw [htq]
            simp only [List.mem_append, List.mem_singleton]
            constructor
            · rintro (h | ⟨h1, h2 | h2, h3⟩)
              · exact .inl h
              · exact .inr ⟨h1, h2, h3⟩
              · rw [h1, h2] at h3; exact absurd h3 h4
            · rintro (h | h)
              · exact .inl h
              · exact .inr ⟨h.1, .inl h.2.1, h.2.2⟩⟩ (by dsimp only; omega) (by refine Weak.by [(0, some _), (1, some _), (2, some _), (3, some _), (4, some _), (5, some _)] (by ((repeat' first | exact rfl | exact trivial | refine And.intro ?_ ?_) <;> (repeat' first | exact rfl | exact trivial | refine And.intro ?_ ?_)); all_goals (simp)) (by ((repeat' first | exact rfl | exact trivial | refine And.intro ?_ ?_) <;> (repeat' first | exact rfl | exact trivial | refine And.intro ?_ ?_)); all_goals (simp)) (by rfl))
      · have hqg : (bagAt S i).length ≤ q := by simpa using he
        rw [List.take_of_length_le hqg] at hM
        refine Pick.T (inI64_of (by omega) (by omega)) ?_
        refine Next.by (j + 1, m) ⟨by dsimp only; omega, hM.same fun a b => by
          dsimp only
          rw [htj]
          simp only [List.mem_append, List.mem_singleton]
          constructor
          · rintro (h | ⟨h1 | h1, h2, h3⟩)
            · exact .inl (.inl h)
            · exact .inl (.inr ⟨h1, h2, h3⟩)
            · exact .inr ⟨h1, h2, h3⟩
          · rintro ((h | h) | h)
            · exact .inl h
            · exact .inr ⟨.inl h.1, h.2⟩
            · exact .inr ⟨.inr h.1, h.2⟩⟩ (by dsimp only; omega) (by refine Weak.by [(0, some _), (1, some _), (2, some _), (3, some _), (4, some _), (5, some _)] (by ((repeat' first | exact rfl | exact trivial | refine And.intro ?_ ?_) <;> (repeat' first | exact rfl | exact trivial | refine And.intro ?_ ?_)); all_goals (simp)) (by ((repeat' first | exact rfl | exact trivial | refine And.intro ?_ ?_) <;> (repeat' first | exact rfl | exact trivial | refine And.intro ?_ ?_)); all_goals (simp)) (by rfl))
    · have hjg : (bagAt S i).length ≤ j := by simpa using hd
      rw [List.take_of_length_le hjg] at hM
      refine Pick.T (inI64_of (by omega) (by omega)) ?_
      refine Next.by (i + 1, m) ⟨by dsimp only; omega, hM.same fun a b => by
        dsimp only
        rw [htk]
        simp only [List.mem_append, List.mem_singleton]
        constructor
        · rintro ⟨l, h1 | h1, h2⟩
          · exact .inl ⟨l, h1, h2⟩
          · rw [h1] at h2; exact .inr h2
        · rintro (⟨l, h1, h2⟩ | h)
          · exact ⟨l, .inl h1, h2⟩
          · exact ⟨_, .inr rfl, h⟩⟩ (by dsimp only; omega) (by refine Weak.by [(0, some _), (1, some _), (2, some _), (3, some _), (4, some _), (5, some _)] (by ((repeat' first | exact rfl | exact trivial | refine And.intro ?_ ?_) <;> (repeat' first | exact rfl | exact trivial | refine And.intro ?_ ?_))) (by ((repeat' first | exact rfl | exact trivial | refine And.intro ?_ ?_) <;> (repeat' first | exact rfl | exact trivial | refine And.intro ?_ ?_))) (by rfl))
  have hie : i = S.length := by have : S.length ≤ i := by simpa using hc
                                omega
  rw [hie, List.take_length] at hM
  have hmt : ∀ p ∈ E, mapGet m [p.1, p.2] ≠ 0 ↔ metB S p.1 p.2 = true := fun p hp => by
    rw [hM]
    have hok := h1.2.2.2.1 p hp
    unfold metB
    rw [List.any_eq_true]
    constructor
    · rintro ⟨l, hl, ha, hb, _⟩
      exact ⟨l, hl, by simp [ha, hb]⟩
    · rintro ⟨l, hl, hab⟩
      rw [Bool.and_eq_true] at hab
      exact ⟨l, hl, by simpa using hab.1, by simpa using hab.2, hok.2.1⟩
  refine LoopP.intro (α := Nat) (fun q => q ≤ E.length ∧ ∀ p ∈ E.take q, metB S p.1 p.2 = true) (fun q => E.length - q) (fun q => [(11, .mp 1), (138, .sl 0 none none), (139, .s (.i .i64 E.length)), (140, .s (.i .i64 q))])
    (fun q => [(0, some (.flat false 2 (edges E))), (1, some (.map true 2 m))]) 2 0 ⟨by simp, by simp⟩ (by refine Weak.by [(0, some _), (1, some _)] (by ((repeat' first | exact rfl | exact trivial | refine And.intro ?_ ?_) <;> (repeat' first | exact rfl | exact trivial | refine And.intro ?_ ?_)); all_goals (exact sc_eq (by rw [edges_length]))) (by ((repeat' first | exact rfl | exact trivial | refine And.intro ?_ ?_) <;> (repeat' first | exact rfl | exact trivial | refine And.intro ?_ ?_)); all_goals (exact sc_eq (by rw [edges_length]))) (by rfl)) ?_
  rintro q ⟨hq, hall⟩
  refine Pick.by (fun hd => ?_) (fun hd => ?_)
  · have hlt : q < E.length := by simpa using hd
    have hmem := List.getElem_mem hlt
    have hok := h1.2.2.2.1 _ hmem
    refine Idx.by q rfl (by rw [edges_length]; exact hlt) ?_
    refine Look.by _ (edges_get (List.getElem?_eq_getElem hlt)) ?_
    refine Pick.T (inI64_of (by have := hok.1; omega) (by have := hok.2; omega)) ?_
    refine Pick.T (inI64_of (by have := hok.1; have := hok.2; omega) (by have := hok.2; omega)) ?_
    have hm1 := hmt _ hmem
    refine Pick.by (fun h4 => ?_) (fun h4 => ?_)
    · have h4 : mapGet m [E[q].1, E[q].2] = 0 := by simpa using h4
      refine ⟨rfl, ?_⟩
      show Sc.b false = Sc.b (bagB n E S U)
      exact bagB_no fun h => (hm1.2 (h.2.2.2 _ hmem)) h4
    have h4 : mapGet m [E[q].1, E[q].2] ≠ 0 := by simpa using h4
    refine Pick.T (inI64_of (by omega) (by omega)) ?_
    refine Next.by (q + 1) ⟨by omega, all_take hlt hall (hm1.1 h4)⟩ (by omega) (by refine Weak.by [(0, some _), (1, some _)] (by ((repeat' first | exact rfl | exact trivial | refine And.intro ?_ ?_) <;> (repeat' first | exact rfl | exact trivial | refine And.intro ?_ ?_))) (by ((repeat' first | exact rfl | exact trivial | refine And.intro ?_ ?_) <;> (repeat' first | exact rfl | exact trivial | refine And.intro ?_ ?_))) (by rfl))
  · have hge : E.length ≤ q := by simpa using hd
    rw [List.take_of_length_le hge] at hall
    refine ⟨rfl, ?_⟩
    show Sc.b true = Sc.b (bagB n E S U)
    rw [bagB_iff.2 ⟨h1, hset, hcv, hall⟩]
end Go.Sh

set_option linter.unusedVariables false
set_option linter.unusedSimpArgs false
namespace Go.Sh
open Go.Proofs
/-! ### carcanetlaw08.MinorCheck, MinorNone -/
end Go.Sh

set_option linter.unusedVariables false
set_option linter.unusedSimpArgs false
namespace Go.Sh
open Go.Proofs
/-! ### carcanetref12.Same -/
abbrev Bg := List (List Int) × List Int
/-! ### carcanetlaw12.small -/
def cutB (S : List (List Int)) : List (List Int) := (S.take 60).map fun x => x.take 5
noncomputable def Small12C : Con := conP 1 (fun _ : Bg => True) (fun a => [bgV false a.1 a.2]) (fun a => bgV true (cutB a.1) (a.2.take 60))
theorem Small12C_at (S : List (List Int)) (U : List Int) : Small12C.F [bgV false S U] = some (bgV true (cutB S) (U.take 60), []) :=
  conP_at (a := (S, U)) (fun a b _ _ h => by simp at h; obtain ⟨h1, h2⟩ := bgV_inj h; rw [Prod.ext h1 h2]) trivial
theorem cutB_ok (S : List (List Int)) (U : List Int) : bgOk (cutB S) (U.take 60) := by
  unfold bgOk cutB
  refine ⟨by simp; omega, by simp; omega, fun l hl => ?_⟩
  obtain ⟨x, _, rfl⟩ := List.mem_map.1 hl
  simp; omega
theorem Small12_ok : SoundC Try.prog T 20 Small12C := by
  refine sound_con (X := { Γ := [], T := T, nt := 48 }) cr_none hmix hT sound_nil Try.func20 (by rfl) (by rfl) (by rfl) (by rfl) 2 ?_
  rintro ⟨l, U⟩ -
  dsimp only
  refine ⟨⟨Nat.le_of_ble_eq_true rfl, Nat.le_of_ble_eq_true rfl⟩, ?_⟩
  refine LoopP.intro (α := Nat) (fun k => k ≤ l.length ∧ k ≤ 60) (fun k => l.length - k) (fun k => [(1, .ptr 0 0), (2, .ptr 3 0), (3, .ptr 4 0), (4, .s (.i .i64 k))])
    (fun k => [(0, some (.blk [.sl 1 none none, .sl 2 none none])), (1, some (.nest false 1 (rowsI l) [] [])), (2, some (.flat false 1 (ints U))), (3, some (.blk [.nils, .nils])), (4, some (.blk [.sl 5 none none, .nils])), (5, some (.nest true 1 (rowsI ((l.take k).map fun x => x.take 5)) [] []))]) 6 0 (by simp) (by refine Weak.by [(0, some _), (1, some _), (2, some _), (3, some _), (4, some _), (5, none)] (by ((repeat' first | exact rfl | exact trivial | refine And.intro ?_ ?_) <;> (repeat' first | exact rfl | exact trivial | refine And.intro ?_ ?_)); all_goals (simp [rowsI])) (by ((repeat' first | exact rfl | exact trivial | refine And.intro ?_ ?_) <;> (repeat' first | exact rfl | exact trivial | refine And.intro ?_ ?_)); all_goals (simp [rowsI])) (by rfl)) ?_
  rintro k ⟨hk, hk6⟩
  refine Pick.by (fun hc => ?_) (fun hc => ?_)
  · have hlt : k < l.length := by simpa [rowsI_length] using hc
    refine Pick.by (fun h6 => ?_) (fun h6 => ?_)
    · have h6 : k < 60 := by simp at h6; omega
      have hstep : rowsI ((l.take (k + 1)).map fun x => x.take 5) = rowsI ((l.take k).map fun x => x.take 5) ++ [ints (l[k].take 5)] := by
        rw [← rowsI_snoc, take_snoc _ hlt]
      have hroom : (rowsI ((l.take k).map fun x => x.take 5)).length = k := by rw [rowsI_length]; simp; omega
      refine Idx.by k rfl (by rw [rowsI_length]; exact hlt) ?_
      refine Pick.T (by simpa [rowsI_length] using hlt) ?_
      refine Idx.by k rfl (by rw [rowsI_length]; exact hlt) ?_
      refine Pick.T (by simpa [rowsI_length] using hlt) ?_
      refine Look.by _ (rowsI_get (List.getElem?_eq_getElem hlt)) ?_
      refine Look.by _ (rowsI_get (List.getElem?_eq_getElem hlt)) ?_
      refine Rng.by 0 (min l[k].length 5) rfl ?_ (by omega) ?_ ?_
      · rw [ints_length]
        show (if (5 : Int) < (l[k].length : Int) then (5 : Int) else (l[k].length : Int)) = _
        split <;> omega
      · rw [ints_length]; omega
      have hcut : cut (subOf none 0 0 (min l[k].length 5)) (ints l[k]) = ints (l[k].take 5) := by
        simp only [subOf, cut, List.drop_zero, Nat.sub_zero, ints, List.map_take]
        rw [List.take_eq_take_iff]; simp; omega
      refine Look.by _ (rowsI_get (List.getElem?_eq_getElem hlt)) ?_
      refine Pick.T (by rw [hcut]; simp [ints_length, cut]; omega) ?_
      refine Pick.T (by rw [hroom]; simp; omega) ?_
      refine Seg.by (by kernel_rfl) ?_
      refine Pick.T (inI64_of (by omega) (by omega)) ?_
      refine Next.by (k + 1) ⟨by omega, by omega⟩ (by omega) (by refine Weak.by [(0, some _), (1, some _), (2, some _), (3, some _), (4, some _), (5, some _)] (by ((repeat' first | exact rfl | exact trivial | refine And.intro ?_ ?_) <;> (repeat' first | exact rfl | exact trivial | refine And.intro ?_ ?_)); all_goals (rw [hstep, ← hcut]; rfl)) (by ((repeat' first | exact rfl | exact trivial | refine And.intro ?_ ?_) <;> (repeat' first | exact rfl | exact trivial | refine And.intro ?_ ?_)); all_goals (rw [hstep, ← hcut]; rfl)) (by rfl))
    · have endd : rowsI (cutB l) = rowsI ((l.take k).map fun x => x.take 5) := by
        unfold cutB
        have : k = 60 := by simp at h6; omega
        rw [this]
      have hcutU : cut (subOf none 0 0 (min U.length 60)) (ints U) = ints (U.take 60) := by
        simp only [subOf, cut, List.drop_zero, Nat.sub_zero, ints, List.map_take]
        rw [List.take_eq_take_iff]; simp; omega
      refine Rng.by 0 (min U.length 60) rfl ?_ (by omega) ?_ ?_
      · rw [ints_length]
        show (if (60 : Int) < (U.length : Int) then (60 : Int) else (U.length : Int)) = _
        split <;> omega
      · rw [ints_length]; omega
      refine Pick.T (by rw [hcutU]; simp [ints_length]; omega) ?_
      refine Seg.by (by kernel_rfl) ?_
      refine ⟨rfl, ?_⟩
      (repeat' first | exact rfl | exact trivial | refine And.intro ?_ ?_)
      all_goals first | exact hcutU.symm | exact endd
  · have endd : rowsI (cutB l) = rowsI ((l.take k).map fun x => x.take 5) := by
      have hge : l.length ≤ k := by simpa [rowsI_length] using hc
      unfold cutB
      rw [List.take_of_length_le (by omega : l.length ≤ k), List.take_of_length_le (by omega : l.length ≤ 60)]
    have hcutU : cut (subOf none 0 0 (min U.length 60)) (ints U) = ints (U.take 60) := by
      simp only [subOf, cut, List.drop_zero, Nat.sub_zero, ints, List.map_take]
      rw [List.take_eq_take_iff]; simp; omega
    refine Rng.by 0 (min U.length 60) rfl ?_ (by omega) ?_ ?_
    · rw [ints_length]
      show (if (60 : Int) < (U.length : Int) then (60 : Int) else (U.length : Int)) = _
      split <;> omega
    · rw [ints_length]; omega
    refine Pick.T (by rw [hcutU]; simp [ints_length]; omega) ?_
    refine Seg.by (by kernel_rfl) ?_
    refine ⟨rfl, ?_⟩
    (repeat' first | exact rfl | exact trivial | refine And.intro ?_ ?_)
    all_goals first | exact hcutU.symm | exact endd
/-! ### carcanetlaw12.shown -/
def BS4 : List (List Int) := [[0, 1, 3], [1, 2, 3], [2, 3], [3]]
def BU4 : List Int := [1, 2, 3, -1]
theorem bags_E4 : bagsO 4 E4 = ((BS4, BU4), 0) := by
  unfold bagsO
  rw [if_pos RE4, run_E4, if_pos rfl]
  have h : ∀ (s : Stp) (l : List Int), ([s.1, s.2.1, s.2.2.1].filter fun x => decide (x ≥ 0)) = l → l.Pairwise (· < ·) → bagOf s = l := fun s l h1 h2 => by
    unfold bagOf riseL; rw [h1, sortI_id h2]
  refine Prod.ext (Prod.ext ?_ (by decide +kernel)) rfl
  show [bagOf _, bagOf _, bagOf _, bagOf _] = BS4
  rw [h _ [0, 1, 3] (by decide) (by decide), h _ [1, 2, 3] (by decide) (by decide), h _ [2, 3] (by decide) (by decide), h _ [3] (by decide) (by decide)]; rfl
theorem bags_K4 : bagsO 4 K4E = (([], []), 6) := by
  unfold bagsO
  rw [if_pos RK4, run_K4, if_neg (by simp)]
theorem bagP_E4 : BagP 4 E4 BS4 BU4 := by
  refine ⟨RE4, ⟨rfl, ?_⟩, ?_, ?_⟩
  · unfold rowOk upOk; decide
  · intro v hv
    have : v = 0 ∨ v = 1 ∨ v = 2 ∨ v = 3 := by omega
    rcases this with rfl | rfl | rfl | rfl <;> decide
  · decide
theorem bagP_nil : ¬ BagP 4 E4 [] [] := fun h => absurd (h.2.2.1 0 (by decide)) (by decide)
noncomputable def Shown12C : Con := conP 0 (fun _ : Unit => True) (fun _ => []) (fun _ => .one (.s (.b true)))
theorem Shown12C_at : Shown12C.F [] = some (.one (.s (.b true)), []) := conP_at (a := ()) (fun a b _ _ h => rfl) trivial
set_option maxRecDepth 100000 in
set_option maxHeartbeats 1000000 in
theorem Shown12_ok : SoundC Try.prog T 15 Shown12C := by
  refine sound_con (X := { Γ := [(17, OfBC), (21, BChkC)], T := T, nt := 89 }) cr_none hmix hT (sound_cons OfB_ok (sound_cons BChk_ok sound_nil)) Try.func15 (by rfl) (by rfl) (by rfl) (by rfl) 0 ?_
  rintro ⟨⟩ -
  refine ⟨⟨Nat.le_of_ble_eq_true rfl, Nat.le_of_ble_eq_true rfl⟩, ?_⟩
  have hE := OfBC_at 4 E4
  rw [bags_E4] at hE
  have hK := OfBC_at 4 K4E
  rw [bags_K4] at hK
  refine Call.by _ _ hE ?_
  refine Call.by _ _ hK ?_
  refine Idx.by 1 rfl (by decide) ?_
  refine Look.by (ints [1, 2, 3]) rfl ?_
  refine Idx.by 1 rfl (by decide) ?_
  refine Look.by (ints [1, 2, 3]) rfl ?_
  refine Idx.by 1 rfl (by decide) ?_
  refine Look.by (ints [1, 2, 3]) rfl ?_
  refine Look.by [.i .i64 2] rfl ?_
  refine Idx.by 2 rfl (by decide) ?_
  refine Look.by [.i .i64 3] rfl ?_
  refine Idx.by 3 rfl (by decide) ?_
  refine Look.by [.i .i64 (-1)] rfl ?_
  have hC := BChkC_at (n := 4) (E := E4) (S := BS4) (U := BU4) ⟨by decide, by decide, by decide⟩
  rw [bagB_iff.2 bagP_E4] at hC
  refine Call.by _ _ hC ?_
  have hN := BChkC_at (n := 4) (E := E4) (S := []) (U := []) ⟨by decide, by decide, by decide⟩
  rw [show bagB 4 E4 [] [] = false by rw [Bool.eq_false_iff]; exact fun h => bagP_nil (bagB_iff.1 h)] at hN
  refine Call.by _ _ hN ?_
  exact ⟨rfl, rfl⟩
end Go.Sh

set_option linter.unusedVariables false
set_option linter.unusedSimpArgs false
namespace Go.Sh
open Go.Proofs
/-! ### carcanetlaw12.BagsTell, BagsCheck, BagsWrong -/
theorem bgOk.small {S : List (List Int)} {U : List Int} (h : bgOk S U) : Go.Sh.small S ∧ U.length ≤ 1000000 :=
  ⟨⟨by have := h.1; omega, fun l hl => by have := h.2.2 l hl; omega⟩, by have := h.2.1; omega⟩
end Go.Sh

set_option linter.unusedVariables false
set_option linter.unusedSimpArgs false
namespace Go.Sh
/-! ### models of the complete graph of four: where all but two neighbours have three neighbours, there is one (Dirac) -/
/-- a model, as colours: 0 .. 3 -/
structure MdL (vs : List Nat) (A : Nat → Nat → Prop) (c : Nat → Nat) : Prop where
  some : ∀ i, i < 4 → ∃ x, x ∈ vs ∧ c x = i
  conn : ∀ i, i < 4 → ∀ P : Nat → Prop, (∃ x, x ∈ vs ∧ c x = i ∧ P x) → (∀ x y, x ∈ vs → y ∈ vs → c x = i → c y = i → A x y → P x → P y) → ∀ x, x ∈ vs → c x = i → P x
  meet : ∀ i j, i < j → j < 4 → ∃ x y, x ∈ vs ∧ y ∈ vs ∧ A x y ∧ c x = i ∧ c y = j
def D3 (vs : List Nat) (A : Nat → Nat → Prop) (x : Nat) : Prop := ∃ a b c, a ∈ vs ∧ b ∈ vs ∧ c ∈ vs ∧ a ≠ b ∧ a ≠ c ∧ b ≠ c ∧ A x a ∧ A x b ∧ A x c
theorem D3.but {vs : List Nat} {A : Nat → Nat → Prop} {x : Nat} (h : D3 vs A x) (v : Nat) : ∃ b c, b ∈ vs ∧ c ∈ vs ∧ b ≠ c ∧ b ≠ v ∧ c ≠ v ∧ A x b ∧ A x c := by
  obtain ⟨a, b, c, ha, hb, hc, h1, h2, h3, A1, A2, A3⟩ := h
  by_cases e : a = v
  · exact ⟨b, c, hb, hc, h3, fun e2 => h1 (e.trans e2.symm), fun e2 => h2 (e.trans e2.symm), A2, A3⟩
  · by_cases e2 : b = v
    · exact ⟨a, c, ha, hc, h2, e, fun e3 => h3 (e2.trans e3.symm), A1, A3⟩
    · exact ⟨a, b, ha, hb, h1, e, e2, A1, A2⟩
theorem D3.but2 {vs : List Nat} {A : Nat → Nat → Prop} {x : Nat} (h : D3 vs A x) (u v : Nat) : ∃ b, b ∈ vs ∧ b ≠ u ∧ b ≠ v ∧ A x b := by
  obtain ⟨b, c, hb, hc, h1, h2, h3, A1, A2⟩ := h.but v
  by_cases e : b = u
  · exact ⟨c, hc, fun e2 => h1 (e.trans e2.symm), h3, A2⟩
  · exact ⟨b, hb, e, h2, A1⟩
/-- an edge is contracted: v goes, u takes what it had -/
def ctr (A : Nat → Nat → Prop) (v u : Nat) (x y : Nat) : Prop := A x y ∨ (x = u ∧ A v y ∧ y ≠ u) ∨ (y = u ∧ A v x ∧ x ≠ u)
structure Sm (A : Nat → Nat → Prop) : Prop where
  sym : ∀ x y, A x y → A y x
  irr : ∀ x, ¬ A x x
theorem Sm.ne {A : Nat → Nat → Prop} (h : Sm A) {x y : Nat} (hA : A x y) : x ≠ y := fun e => h.irr x (by rw [← e] at hA; exact hA)
def upd (c : Nat → Nat) (v i x : Nat) : Nat := if x = v then i else c x
theorem upd_self (c : Nat → Nat) (v i : Nat) : upd c v i v = i := if_pos rfl
theorem upd_ne (c : Nat → Nat) {v i x : Nat} (h : x ≠ v) : upd c v i x = c x := if_neg h
theorem MdL.lift {vs : List Nat} {A : Nat → Nat → Prop} (hA : Sm A) {v u : Nat} (hv : v ∈ vs) (hu : u ∈ vs) (huv : A v u) {vs' : List Nat} (hvs : ∀ x, x ∈ vs' ↔ x ∈ vs ∧ x ≠ v) {c : Nat → Nat} (h : MdL vs' (ctr A v u) c) : MdL vs A (upd c v (c u)) := by
  have hne : u ≠ v := fun e => hA.irr v (by rw [e] at huv; exact huv)
  have hu' : u ∈ vs' := (hvs u).2 ⟨hu, hne⟩
  have cu : upd c v (c u) u = c u := upd_ne c hne
  have cv : upd c v (c u) v = c u := upd_self c v _
  have co : ∀ x, x ∈ vs' → upd c v (c u) x = c x := fun x hx => upd_ne c ((hvs x).1 hx).2
  refine ⟨fun i hi => ?_, fun i hi P hP hcl x hx hcx => ?_, fun i j hij hj => ?_⟩
  · obtain ⟨x, hx, hc⟩ := h.some i hi
    exact ⟨x, ((hvs x).1 hx).1, by rw [co x hx]; exact hc⟩
  · have hcl2 : ∀ x y, x ∈ vs' → y ∈ vs' → c x = i → c y = i → ctr A v u x y → P x → P y := fun x y hx hy ex ey hxy hPx => by
      have hx0 := ((hvs x).1 hx).1
      have hy0 := ((hvs y).1 hy).1
      rcases hxy with k | ⟨k1, k2, _⟩ | ⟨k1, k2, _⟩
      · exact hcl x y hx0 hy0 (by rw [co x hx]; exact ex) (by rw [co y hy]; exact ey) k hPx
      · subst k1
        have hPv := hcl x v hx0 hv (by rw [co x hx]; exact ex) (by rw [cv]; exact ex) (hA.sym _ _ huv) hPx
        exact hcl v y hv hy0 (by rw [cv]; exact ex) (by rw [co y hy]; exact ey) k2 hPv
      · subst k1
        have hPv := hcl x v hx0 hv (by rw [co x hx]; exact ex) (by rw [cv]; exact ey) (hA.sym _ _ k2) hPx
        exact hcl v y hv hy0 (by rw [cv]; exact ey) (by rw [co y hy]; exact ey) huv hPv
    have hst : ∃ y, y ∈ vs' ∧ c y = i ∧ P y := by
      obtain ⟨y, hy, ey, hPy⟩ := hP
      by_cases e : y = v
      · subst e
        rw [cv] at ey
        exact ⟨u, hu', ey, hcl y u hy hu (by rw [cv]; exact ey) (by rw [cu]; exact ey) huv hPy⟩
      · have := (hvs y).2 ⟨hy, e⟩
        exact ⟨y, this, by rw [← co y this]; exact ey, hPy⟩
    have hall := h.conn i hi P hst hcl2
    by_cases e : x = v
    · subst e
      rw [cv] at hcx
      exact hcl u x hu hx (by rw [cu]; exact hcx) (by rw [cv]; exact hcx) (hA.sym _ _ huv) (hall u hu' hcx)
    · have := (hvs x).2 ⟨hx, e⟩
      exact hall x this (by rw [← co x this]; exact hcx)
  · obtain ⟨x, y, hx, hy, hxy, ex, ey⟩ := h.meet i j hij hj
    have hx0 := ((hvs x).1 hx).1
    have hy0 := ((hvs y).1 hy).1
    rcases hxy with k | ⟨k1, k2, _⟩ | ⟨k1, k2, _⟩
    · exact ⟨x, y, hx0, hy0, k, by rw [co x hx]; exact ex, by rw [co y hy]; exact ey⟩
    · subst k1
      exact ⟨v, y, hv, hy0, k2, by rw [cv]; exact ex, by rw [co y hy]; exact ey⟩
    · subst k1
      exact ⟨x, v, hx0, hv, hA.sym _ _ k2, by rw [co x hx]; exact ex, by rw [cv]; exact ey⟩
open Classical in
theorem MdL.induced {vs vs' : List Nat} {A : Nat → Nat → Prop} (hs : ∀ x, x ∈ vs' → x ∈ vs) {c : Nat → Nat} (h : MdL vs' A c) : MdL vs A (fun x => if x ∈ vs' then c x else 4) := by
  have ci : ∀ x i, i < 4 → ((if x ∈ vs' then c x else 4) = i ↔ x ∈ vs' ∧ c x = i) := fun x i hi => by
    by_cases e : x ∈ vs'
    · rw [if_pos e]; exact ⟨fun h => ⟨e, h⟩, fun h => h.2⟩
    · rw [if_neg e]; exact ⟨fun h => by omega, fun h => absurd h.1 e⟩
  refine ⟨fun i hi => ?_, fun i hi P hP hcl x hx hcx => ?_, fun i j hij hj => ?_⟩
  · obtain ⟨x, hx, hc⟩ := h.some i hi
    exact ⟨x, hs x hx, (ci x i hi).2 ⟨hx, hc⟩⟩
  · obtain ⟨hx', hcx'⟩ := (ci x i hi).1 hcx
    obtain ⟨y, hy, hcy, hPy⟩ := hP
    obtain ⟨hy', hcy'⟩ := (ci y i hi).1 hcy
    refine h.conn i hi P ⟨y, hy', hcy', hPy⟩ (fun a b ha hb ea eb hab hPa => ?_) x hx' hcx'
    exact hcl a b (hs a ha) (hs b hb) ((ci a i hi).2 ⟨ha, ea⟩) ((ci b i hi).2 ⟨hb, eb⟩) hab hPa
  · obtain ⟨x, y, hx, hy, hxy, ex, ey⟩ := h.meet i j hij hj
    exact ⟨x, y, hs x hx, hs y hy, hxy, (ci x i (by omega)).2 ⟨hx, ex⟩, (ci y j hj).2 ⟨hy, ey⟩⟩
/-! #### two vertices alike -/
structure Twin (vs : List Nat) (A : Nat → Nat → Prop) (p q u v a b : Nat) : Prop where
  mem : u ∈ vs ∧ v ∈ vs ∧ a ∈ vs ∧ b ∈ vs
  out : u ≠ p ∧ u ≠ q ∧ v ≠ p ∧ v ≠ q
  ab : a ≠ b
  uv : A u v
  ua : A u a
  ub : A u b
  va : A v a
  vb : A v b
  nu : ∀ y, y ∈ vs → A u y → y = v ∨ y = a ∨ y = b
  nv : ∀ y, y ∈ vs → A v y → y = u ∨ y = a ∨ y = b
theorem Twin.swap {vs : List Nat} {A : Nat → Nat → Prop} {p q u v a b : Nat} (h : Twin vs A p q u v a b) : Twin vs A p q u v b a :=
  ⟨⟨h.mem.1, h.mem.2.1, h.mem.2.2.2, h.mem.2.2.1⟩, h.out, h.ab.symm, h.uv, h.ub, h.ua, h.vb, h.va, fun y hy k => (h.nu y hy k).imp id Or.symm, fun y hy k => (h.nv y hy k).imp id Or.symm⟩
/-- what is reached from a without u, v, b -/
inductive Rc (vs : List Nat) (A : Nat → Nat → Prop) (u v a b : Nat) : Nat → Prop
  | base : Rc vs A u v a b a
  | step {x y : Nat} : Rc vs A u v a b x → A x y → y ∈ vs → y ≠ u → y ≠ v → y ≠ b → Rc vs A u v a b y
section
variable {vs : List Nat} {A : Nat → Nat → Prop} {p q u v a b : Nat}
theorem Rc.facts (hA : Sm A) (h : Twin vs A p q u v a b) {x : Nat} (hx : Rc vs A u v a b x) : x ∈ vs ∧ x ≠ u ∧ x ≠ v ∧ x ≠ b := by
  induction hx with
  | base => exact ⟨h.mem.2.2.1, (hA.ne h.ua).symm, (hA.ne h.va).symm, h.ab⟩
  | step _ _ h1 h2 h3 h4 _ => exact ⟨h1, h2, h3, h4⟩
open Classical in
/-- .. one of them is beside b: a model -/
theorem Twin.model (hA : Sm A) (h : Twin vs A p q u v a b) {r : Nat} (hr : Rc vs A u v a b r) (hrb : A r b) : ∃ c, MdL vs A c := by
  let c : Nat → Nat := fun x => if x = u then 0 else if x = v then 1 else if x = b then 2 else if Rc vs A u v a b x then 3 else 4
  obtain ⟨mu, mv, ma, mb⟩ := h.mem
  have nuv := hA.ne h.uv
  have nub := hA.ne h.ub
  have nvb := hA.ne h.vb
  have c0 : c u = 0 := if_pos rfl
  have c1 : c v = 1 := by show (if v = u then 0 else if v = v then 1 else _) = 1; rw [if_neg nuv.symm, if_pos rfl]
  have c2 : c b = 2 := by show (if b = u then 0 else if b = v then 1 else if b = b then 2 else _) = 2; rw [if_neg nub.symm, if_neg nvb.symm, if_pos rfl]
  have c3 : ∀ x, Rc vs A u v a b x → c x = 3 := fun x hx => by
    obtain ⟨_, f1, f2, f3⟩ := hx.facts hA h
    show (if x = u then 0 else if x = v then 1 else if x = b then 2 else if Rc vs A u v a b x then 3 else 4) = 3
    rw [if_neg f1, if_neg f2, if_neg f3, if_pos hx]
  have inv : ∀ x, (c x = 0 → x = u) ∧ (c x = 1 → x = v) ∧ (c x = 2 → x = b) ∧ (c x = 3 → Rc vs A u v a b x) := fun x => by
    by_cases e0 : x = u
    · subst e0; rw [c0]; exact ⟨fun _ => rfl, by omega, by omega, by omega⟩
    by_cases e1 : x = v
    · subst e1; rw [c1]; exact ⟨by omega, fun _ => rfl, by omega, by omega⟩
    by_cases e2 : x = b
    · subst e2; rw [c2]; exact ⟨by omega, by omega, fun _ => rfl, by omega⟩
    by_cases e3 : Rc vs A u v a b x
    · rw [c3 x e3]; exact ⟨by omega, by omega, by omega, fun _ => e3⟩
    · have : c x = 4 := by
        show (if x = u then 0 else if x = v then 1 else if x = b then 2 else if Rc vs A u v a b x then 3 else 4) = 4
        rw [if_neg e0, if_neg e1, if_neg e2, if_neg e3]
      rw [this]; exact ⟨by omega, by omega, by omega, by omega⟩
  have single : ∀ (i w : Nat), (∀ x, c x = i → x = w) → ∀ P : Nat → Prop, (∃ x, x ∈ vs ∧ c x = i ∧ P x) → ∀ x, x ∈ vs → c x = i → P x := fun i w hi P hP x _ hx => by
    obtain ⟨y, _, ey, hy⟩ := hP
    rw [hi x hx]; rw [hi y ey] at hy; exact hy
  refine ⟨c, fun i hi => ?_, fun i hi P hP hcl => ?_, fun i j hij hj => ?_⟩
  · match i, hi with
    | 0, _ => exact ⟨u, mu, c0⟩
    | 1, _ => exact ⟨v, mv, c1⟩
    | 2, _ => exact ⟨b, mb, c2⟩
    | 3, _ => exact ⟨a, ma, c3 a .base⟩
  · match i, hi with
    | 0, _ => exact single 0 u (fun x => (inv x).1) P hP
    | 1, _ => exact single 1 v (fun x => (inv x).2.1) P hP
    | 2, _ => exact single 2 b (fun x => (inv x).2.2.1) P hP
    | 3, _ =>
      obtain ⟨y, hy, ey, hPy⟩ := hP
      have hry := (inv y).2.2.2 ey
      have back : ∀ {z : Nat}, Rc vs A u v a b z → P z → P a := by
        intro z hz
        induction hz with
        | base => exact id
        | @step x z hx hxz hz h1 h2 h3 ih =>
          intro hPz
          refine ih (hcl z x hz (hx.facts hA h).1 (c3 z (.step hx hxz hz h1 h2 h3)) (c3 x hx) (hA.sym _ _ hxz) hPz)
      have hPa := back hry hPy
      have forw : ∀ {z : Nat}, Rc vs A u v a b z → P z := by
        intro z hz
        induction hz with
        | base => exact hPa
        | @step x z hx hxz hz h1 h2 h3 ih => exact hcl x z (hx.facts hA h).1 hz (c3 x hx) (c3 z (.step hx hxz hz h1 h2 h3)) hxz ih
      intro x _ hx
      exact forw ((inv x).2.2.2 hx)
  · have hc : (i = 0 ∧ j = 1) ∨ (i = 0 ∧ j = 2) ∨ (i = 0 ∧ j = 3) ∨ (i = 1 ∧ j = 2) ∨ (i = 1 ∧ j = 3) ∨ (i = 2 ∧ j = 3) := by omega
    rcases hc with ⟨rfl, rfl⟩ | ⟨rfl, rfl⟩ | ⟨rfl, rfl⟩ | ⟨rfl, rfl⟩ | ⟨rfl, rfl⟩ | ⟨rfl, rfl⟩
    · exact ⟨u, v, mu, mv, h.uv, c0, c1⟩
    · exact ⟨u, b, mu, mb, h.ub, c0, c2⟩
    · exact ⟨u, a, mu, ma, h.ua, c0, c3 a .base⟩
    · exact ⟨v, b, mv, mb, h.vb, c1, c2⟩
    · exact ⟨v, a, mv, ma, h.va, c1, c3 a .base⟩
    · exact ⟨b, r, mb, (hr.facts hA h).1, hA.sym _ _ hrb, c2, c3 r hr⟩
end
structure Hyp (vs : List Nat) (A : Nat → Nat → Prop) (p q : Nat) : Prop where
  sm : Sm A
  nd : vs.Nodup
  pq : p ∈ vs ∧ q ∈ vs ∧ (p = q ∨ A p q)
  deg : ∀ x, x ∈ vs → x ≠ p → x ≠ q → D3 vs A x
  out : ∃ x, x ∈ vs ∧ x ≠ p ∧ x ≠ q
section
variable {vs : List Nat} {A : Nat → Nat → Prop} {p q : Nat}
open Classical in
/-- what hangs on the rest by a alone -/
theorem Twin.part {u v a b : Nat} (hH : Hyp vs A p q) (h : Twin vs A p q u v a b) (hno : ∀ r, Rc vs A u v a b r → ¬ A r b) (hpq : ∀ r, Rc vs A u v a b r → r ≠ p ∧ r ≠ q) (ih : ∀ vs' A' p' q', vs'.length < vs.length → Hyp vs' A' p' q' → ∃ c, MdL vs' A' c) : ∃ c, MdL vs A c := by
  have hA := hH.sm
  let vs' := vs.filter fun x => decide (Rc vs A u v a b x)
  have hvs : ∀ x, x ∈ vs' ↔ Rc vs A u v a b x := fun x => by
    rw [List.mem_filter, decide_eq_true_eq]
    exact ⟨fun h => h.2, fun hx => ⟨(hx.facts hA h).1, hx⟩⟩
  have hlt : vs'.length < vs.length := by
    have h1 : vs' ≠ vs := fun e => by
      have : u ∈ vs' := by rw [e]; exact h.mem.1
      exact ((hvs u).1 this).facts hA h |>.2.1 rfl
    have h2 : vs'.length ≤ vs.length := List.length_filter_le _ _
    rcases Nat.lt_or_ge vs'.length vs.length with k | k
    · exact k
    · exact absurd (List.filter_sublist.eq_of_length (Nat.le_antisymm h2 k)) h1
  have hstay : ∀ x y, Rc vs A u v a b x → x ≠ a → A x y → y ∈ vs → Rc vs A u v a b y := fun x y hx hxa hxy hy => by
    obtain ⟨f0, f1, f2, f3⟩ := hx.facts hA h
    refine .step hx hxy hy (fun e => ?_) (fun e => ?_) (fun e => hno x hx (by rw [← e]; exact hxy))
    · rcases h.nu x f0 (hA.sym _ _ (by rw [← e]; exact hxy)) with k | k | k
      · exact f2 k
      · exact hxa k
      · exact f3 k
    · rcases h.nv x f0 (hA.sym _ _ (by rw [← e]; exact hxy)) with k | k | k
      · exact f1 k
      · exact hxa k
      · exact f3 k
  have hH' : Hyp vs' A a a := by
    refine ⟨hA, hH.nd.sublist List.filter_sublist, ⟨(hvs a).2 .base, (hvs a).2 .base, .inl rfl⟩, fun x hx hxa _ => ?_, ?_⟩
    · have hx := (hvs x).1 hx
      have hp := hpq x hx
      obtain ⟨y1, y2, y3, m1, m2, m3, n1, n2, n3, k1, k2, k3⟩ := hH.deg x (hx.facts hA h).1 hp.1 hp.2
      exact ⟨y1, y2, y3, (hvs _).2 (hstay x y1 hx hxa k1 m1), (hvs _).2 (hstay x y2 hx hxa k2 m2), (hvs _).2 (hstay x y3 hx hxa k3 m3), n1, n2, n3, k1, k2, k3⟩
    · have hp := hpq a .base
      obtain ⟨y, hy, n1, n2, k⟩ := (hH.deg a h.mem.2.2.1 hp.1 hp.2).but2 u v
      have : Rc vs A u v a b y := .step .base k hy n1 n2 fun e => hno a .base (by rw [← e]; exact k)
      exact ⟨y, (hvs y).2 this, (hA.ne k).symm, (hA.ne k).symm⟩
  obtain ⟨c, hc⟩ := ih vs' A a a hlt hH'
  exact ⟨_, hc.induced fun x hx => ((hvs x).1 hx).facts hA h |>.1⟩
theorem Twin.done {u v a b : Nat} (hH : Hyp vs A p q) (h : Twin vs A p q u v a b) (ih : ∀ vs' A' p' q', vs'.length < vs.length → Hyp vs' A' p' q' → ∃ c, MdL vs' A' c) : ∃ c, MdL vs A c := by
  have hA := hH.sm
  by_cases h1 : ∃ r, Rc vs A u v a b r ∧ A r b
  · obtain ⟨r, hr, hrb⟩ := h1; exact h.model hA hr hrb
  by_cases h2 : ∃ r, Rc vs A u v b a r ∧ A r a
  · obtain ⟨r, hr, hrb⟩ := h2; exact h.swap.model hA hr hrb
  have no1 : ∀ r, Rc vs A u v a b r → ¬ A r b := fun r hr k => h1 ⟨r, hr, k⟩
  have no2 : ∀ r, Rc vs A u v b a r → ¬ A r a := fun r hr k => h2 ⟨r, hr, k⟩
  by_cases h3 : ∀ r, Rc vs A u v a b r → r ≠ p ∧ r ≠ q
  · exact h.part hH no1 h3 ih
  refine h.swap.part hH no2 (fun s hs => ?_) ih
  have disj : ∀ {s : Nat}, Rc vs A u v b a s → ¬ Rc vs A u v a b s := by
    intro s hs
    induction hs with
    | base => exact fun k => (k.facts hA h).2.2.2 rfl
    | @step x y hx hxy hy n1 n2 n3 ih2 =>
      intro k
      obtain ⟨f0, f1, f2, f3⟩ := hx.facts hA h.swap
      by_cases e : x = b
      · exact no1 y k (by rw [← e]; exact hA.sym _ _ hxy)
      · exact ih2 (.step k (hA.sym _ _ hxy) f0 f1 f2 e)
  obtain ⟨r, hr⟩ := Classical.not_forall.1 h3
  obtain ⟨hr, hrpq⟩ := Classical.not_imp.1 hr
  have hrpq : r = p ∨ r = q := by
    by_cases e : r = p
    · exact .inl e
    · exact .inr (Classical.byContradiction fun e2 => hrpq ⟨e, e2⟩)
  have hsr : ∀ w, (w = p ∨ w = q) → w ≠ s := fun w hw e => by
    subst e
    obtain ⟨f0, f1, f2, f3⟩ := hs.facts hA h.swap
    have hadj : r = w ∨ A r w := by
      rcases hH.pq.2.2 with e | e
      · left
        rcases hrpq with k | k <;> rcases hw with k2 | k2 <;> omega
      · rcases hrpq with k | k <;> rcases hw with k2 | k2
        · left; omega
        · right; rw [k, k2]; exact e
        · right; rw [k, k2]; exact hA.sym _ _ e
        · left; omega
    rcases hadj with e | e
    · exact disj hs (by rw [← e]; exact hr)
    · by_cases eb : w = b
      · exact no1 r hr (by rw [← eb]; exact e)
      · exact disj hs (.step hr e f0 f1 f2 eb)
  exact ⟨fun e => hsr p (.inl rfl) e.symm, fun e => hsr q (.inr rfl) e.symm⟩
end
end Go.Sh

set_option linter.unusedVariables false
set_option linter.unusedSimpArgs false
namespace Go.Sh
/-! ### a vertex of two neighbours goes: models stay, and come back -/
theorem MdL.mono {vs : List Nat} {A A' : Nat → Nat → Prop} {c : Nat → Nat} (h : MdL vs A c) (hs : ∀ x y, x ∈ vs → y ∈ vs → A x y → A' x y) : MdL vs A' c :=
  ⟨h.some, fun i hi P hP hcl => h.conn i hi P hP fun x y hx hy ex ey k => hcl x y hx hy ex ey (hs x y hx hy k), fun i j hij hj => by
    obtain ⟨x, y, hx, hy, k, e⟩ := h.meet i j hij hj
    exact ⟨x, y, hx, hy, hs x y hx hy k, e⟩⟩
/-- but for a vertex that is in no set -/
theorem MdL.off {vs vs' : List Nat} {A A' : Nat → Nat → Prop} {c : Nat → Nat} {v : Nat} (h : MdL vs A c) (hc : 4 ≤ c v) (hv : ∀ x, x ≠ v → (x ∈ vs ↔ x ∈ vs')) (hs : ∀ x y, x ≠ v → y ≠ v → A x y → A' x y) : MdL vs' A' c := by
  have ne : ∀ x i, i < 4 → c x = i → x ≠ v := fun x i hi e k => by rw [k] at e; omega
  refine ⟨fun i hi => ?_, fun i hi P hP hcl x hx ex => ?_, fun i j hij hj => ?_⟩
  · obtain ⟨x, hx, e⟩ := h.some i hi
    exact ⟨x, (hv x (ne x i hi e)).1 hx, e⟩
  · obtain ⟨y, hy, ey, hPy⟩ := hP
    exact h.conn i hi P ⟨y, (hv y (ne y i hi ey)).2 hy, ey, hPy⟩ (fun a b ha hb ea eb k => hcl a b ((hv a (ne a i hi ea)).1 ha) ((hv b (ne b i hi eb)).1 hb) ea eb (hs a b (ne a i hi ea) (ne b i hi eb) k)) x ((hv x (ne x i hi ex)).2 hx) ex
  · obtain ⟨x, y, hx, hy, k, ex, ey⟩ := h.meet i j hij hj
    have nx := ne x i (by omega) ex
    have ny := ne y j hj ey
    exact ⟨x, y, (hv x nx).1 hx, (hv y ny).1 hy, hs x y nx ny k, ex, ey⟩
open Classical in
theorem MdL.down {vs vs' : List Nat} {A : Nat → Nat → Prop} (hA : Sm A) {v w : Nat} (hv : v ∈ vs) (hw : w ∈ vs) (hvw : A v w) (hvs : ∀ x, x ∈ vs' ↔ x ∈ vs ∧ x ≠ v) {c : Nat → Nat} (h : MdL vs A c) (hc : c v = c w) : MdL vs' (ctr A v w) c := by
  have hne : w ≠ v := (hA.ne hvw).symm
  have hw' := (hvs w).2 ⟨hw, hne⟩
  refine ⟨fun i hi => ?_, fun i hi P hP hcl x hx ex => ?_, fun i j hij hj => ?_⟩
  · obtain ⟨x, hx, e⟩ := h.some i hi
    by_cases k : x = v
    · subst k; exact ⟨w, hw', by rw [← hc]; exact e⟩
    · exact ⟨x, (hvs x).2 ⟨hx, k⟩, e⟩
  · obtain ⟨hx0, hxv⟩ := (hvs x).1 hx
    obtain ⟨y, hy, ey, hPy⟩ := hP
    obtain ⟨hy0, hyv⟩ := (hvs y).1 hy
    have := h.conn i hi (fun z => if z = v then P w else P z) ⟨y, hy0, ey, by rw [if_neg hyv]; exact hPy⟩ (fun a b ha hb ea eb k hPa => by
      try dsimp only at hPa ⊢
      by_cases e1 : a = v
      · subst e1
        rw [if_pos rfl] at hPa
        have nb : b ≠ a := (hA.ne k).symm
        rw [if_neg nb]
        by_cases e2 : b = w
        · rw [e2]; exact hPa
        · exact hcl w b hw' ((hvs b).2 ⟨hb, nb⟩) (by rw [← hc]; exact ea) eb (.inr (.inl ⟨rfl, k, e2⟩)) hPa
      · rw [if_neg e1] at hPa
        have ha' := (hvs a).2 ⟨ha, e1⟩
        by_cases e2 : b = v
        · subst e2
          rw [if_pos rfl]
          by_cases e3 : a = w
          · rw [← e3]; exact hPa
          · exact hcl a w ha' hw' ea (by rw [← hc]; exact eb) (.inr (.inr ⟨rfl, hA.sym _ _ k, e3⟩)) hPa
        · rw [if_neg e2]
          exact hcl a b ha' ((hvs b).2 ⟨hb, e2⟩) ea eb (.inl k) hPa) x hx0 ex
    try dsimp only at this
    rw [if_neg hxv] at this
    exact this
  · obtain ⟨x, y, hx, hy, k, ex, ey⟩ := h.meet i j hij hj
    by_cases e1 : x = v
    · subst e1
      have ny : y ≠ x := (hA.ne k).symm
      have nw : y ≠ w := fun e => by rw [e] at ey; omega
      exact ⟨w, y, hw', (hvs y).2 ⟨hy, ny⟩, .inr (.inl ⟨rfl, k, nw⟩), by rw [← hc]; exact ex, ey⟩
    · by_cases e2 : y = v
      · subst e2
        have nw : x ≠ w := fun e => by rw [e] at ex; omega
        exact ⟨x, w, (hvs x).2 ⟨hx, e1⟩, hw', .inr (.inr ⟨rfl, hA.sym _ _ k, nw⟩), ex, by rw [← hc]; exact ey⟩
      · exact ⟨x, y, (hvs x).2 ⟨hx, e1⟩, (hvs y).2 ⟨hy, e2⟩, .inl k, ex, ey⟩
structure Red (A A' : Nat → Nat → Prop) (v a b : Nat) (Q : Prop) : Prop where
  nb : ∀ y, A v y → y = a ∨ y = b
  iff : ∀ x y, A' x y ↔ x ≠ v ∧ y ≠ v ∧ (A x y ∨ (Q ∧ ((x = a ∧ y = b) ∨ (x = b ∧ y = a))))
  q1 : Q → A v a ∧ A v b ∧ a ≠ b
  q2 : A v a → A v b → a ≠ b → A a b ∨ Q
theorem Red.swap {A A' : Nat → Nat → Prop} (hA : Sm A) {v a b : Nat} {Q : Prop} (h : Red A A' v a b Q) : Red A A' v b a Q :=
  ⟨fun y k => (h.nb y k).symm, fun x y => (h.iff x y).trans ⟨fun ⟨k1, k2, k3⟩ => ⟨k1, k2, k3.imp id fun ⟨q, k⟩ => ⟨q, k.symm⟩⟩, fun ⟨k1, k2, k3⟩ => ⟨k1, k2, k3.imp id fun ⟨q, k⟩ => ⟨q, k.symm⟩⟩⟩, fun q => ⟨(h.q1 q).2.1, (h.q1 q).1, (h.q1 q).2.2.symm⟩, fun k1 k2 k3 => (h.q2 k2 k1 k3.symm).imp (hA.sym _ _) id⟩
section
variable {vs : List Nat} {A A' : Nat → Nat → Prop} {v a b : Nat} {Q : Prop}
theorem erase_mem (hn : vs.Nodup) (v : Nat) : ∀ x, x ∈ vs.erase v ↔ x ∈ vs ∧ x ≠ v := fun x => by rw [hn.mem_erase_iff]; exact And.comm
theorem Red.back (hA : Sm A) (hn : vs.Nodup) (hv : v ∈ vs) (ha : a ∈ vs) (h : Red A A' v a b Q) {c : Nat → Nat} (hc : MdL vs A' c) : ∃ c, MdL vs A c := by
  have iso : 4 ≤ c v := by
    rcases Nat.lt_or_ge (c v) 4 with hlt | hge
    · exfalso
      have only : ∀ x, x ∈ vs → c x = c v → x = v := hc.conn (c v) hlt (fun x => x = v) ⟨v, hv, rfl, rfl⟩ fun x y _ _ _ _ k e => absurd e ((h.iff x y).1 k).1
      have two : ∀ i j, i < j → j < 4 → i ≠ c v ∧ j ≠ c v := fun i j hij hj => by
        obtain ⟨x, y, hx, hy, k, ex, ey⟩ := hc.meet i j hij hj
        obtain ⟨n1, n2, _⟩ := (h.iff x y).1 k
        exact ⟨fun e => n1 (only x hx (ex.trans e)), fun e => n2 (only y hy (ey.trans e))⟩
      have t1 := two 0 1 (by omega) (by omega)
      have t2 := two 2 3 (by omega) (by omega)
      omega
    · exact hge
  by_cases hQ : Q
  · obtain ⟨k1, k2, k3⟩ := h.q1 hQ
    have h1 : MdL (vs.erase v) (ctr A v a) c := hc.off iso (fun x hx => by rw [erase_mem hn]; exact ⟨fun k => ⟨k, hx⟩, fun k => k.1⟩) fun x y _ _ k => by
      obtain ⟨_, _, k | ⟨_, ⟨e1, e2⟩ | ⟨e1, e2⟩⟩⟩ := (h.iff x y).1 k
      · exact .inl k
      · exact .inr (.inl ⟨e1, by rw [e2]; exact k2, by rw [e2]; exact k3.symm⟩)
      · exact .inr (.inr ⟨e2, by rw [e1]; exact k2, by rw [e1]; exact k3.symm⟩)
    exact ⟨_, h1.lift hA hv ha k1 (erase_mem hn v)⟩
  · exact ⟨c, hc.mono fun x y _ _ k => by
      obtain ⟨_, _, k | ⟨q, _⟩⟩ := (h.iff x y).1 k
      · exact k
      · exact absurd q hQ⟩
end
/-! #### rows -/
end Go.Sh

set_option linter.unusedVariables false
set_option linter.unusedSimpArgs false
namespace Go.Sh
/-! ### graphs as rows of bits: what one comes to by deletions and contractions -/
def up1 (v i : Nat) : Nat := if i < v then i else i + 1
def lessX (x v : Nat) : Nat := (x &&& (2 ^ v - 1)) ||| ((x >>> (v + 1)) <<< v)
theorem lessX_bit (x v i : Nat) : (lessX x v).testBit i = x.testBit (up1 v i) := by
  unfold lessX up1
  rw [Nat.testBit_or, Nat.testBit_and, Nat.testBit_two_pow_sub_one, Nat.testBit_shiftLeft, Nat.testBit_shiftRight]
  by_cases h : i < v
  · rw [if_pos h]
    have : ¬ i ≥ v := by omega
    simp [h, this]
  · rw [if_neg h]
    have : i ≥ v := by omega
    simp [h, this]
    congr 1
    omega
def lessL (r : List Nat) (v : Nat) : List Nat := (r.eraseIdx v).map (lessX · v)
def offX (x y : Nat) : Nat := x ^^^ (x &&& y)
def mergeX (r : List Nat) (a b i x : Nat) : Nat := if i = a then offX (r.getD a 0 ||| r.getD b 0) (2 ^ a ||| 2 ^ b) else if x.testBit b then x ||| 2 ^ a else x
def mergeL (r : List Nat) (a b : Nat) : List Nat := (List.range r.length).map fun i => mergeX r a b i (r.getD i 0)
def mergedL (r : List Nat) (a b : Nat) : List Nat := lessL (mergeL r a b) b
def bitL (r : List Nat) (a b : Nat) : Bool := (r.getD a 0).testBit b
theorem lessL_length {r : List Nat} {v : Nat} (h : v < r.length) : (lessL r v).length = r.length - 1 := by
  unfold lessL
  rw [List.length_map, List.length_eraseIdx_of_lt h]
theorem mergeL_length (r : List Nat) (a b : Nat) : (mergeL r a b).length = r.length := by simp [mergeL]
theorem mergedL_length {r : List Nat} {a b : Nat} (h : b < r.length) : (mergedL r a b).length = r.length - 1 := by
  unfold mergedL
  rw [lessL_length (by rw [mergeL_length]; exact h), mergeL_length]
theorem up1_ne (v i : Nat) : up1 v i ≠ v := by unfold up1; split <;> omega
theorem up1_lt {v i n : Nat} (h : i < n - 1) : up1 v i < n := by unfold up1; split <;> omega
def dn1 (v i : Nat) : Nat := if i < v then i else i - 1
theorem up_dn {v i : Nat} (h : i ≠ v) : up1 v (dn1 v i) = i := by
  unfold up1 dn1
  by_cases h1 : i < v
  · rw [if_pos h1, if_pos h1]
  · rw [if_neg h1, if_neg (by omega)]; omega
theorem dn_lt {v i n : Nat} (h : i ≠ v) (hv : v < n) (hi : i < n) : dn1 v i < n - 1 := by unfold dn1; split <;> omega
theorem up_inj {v i j : Nat} (h : up1 v i = up1 v j) : i = j := by unfold up1 at h; split at h <;> split at h <;> omega
theorem lessL_getD (r : List Nat) (v i : Nat) : (lessL r v).getD i 0 = lessX (r.getD (up1 v i) 0) v := by
  have z : lessX 0 v = 0 := by simp [lessX]
  unfold lessL up1
  rw [List.getD_eq_getElem?_getD, List.getElem?_map, List.getElem?_eraseIdx, List.getD_eq_getElem?_getD]
  split
  · cases r[i]? with
    | none => simp [z]
    | some x => simp
  · cases r[i + 1]? with
    | none => simp [z]
    | some x => simp
theorem bit_less (r : List Nat) (v i j : Nat) : bitL (lessL r v) i j = bitL r (up1 v i) (up1 v j) := by
  unfold bitL
  rw [lessL_getD, lessX_bit]
/-- rows of bits of a graph -/
structure Sq (r : List Nat) : Prop where
  bnd : ∀ a b, bitL r a b = true → b < r.length
  sym : ∀ a b, bitL r a b = true → bitL r b a = true
  irr : ∀ a, bitL r a a = false
theorem Sq.lt {r : List Nat} (h : Sq r) {a b : Nat} (hb : bitL r a b = true) : a < r.length := h.bnd _ _ (h.sym _ _ hb)
theorem off_bit (x y j : Nat) : (offX x y).testBit j = (x.testBit j && !y.testBit j) := by
  unfold offX
  rw [Nat.testBit_xor, Nat.testBit_and]
  cases x.testBit j <;> cases y.testBit j <;> rfl
theorem off2_bit (x a b j : Nat) : (offX x (2 ^ a ||| 2 ^ b)).testBit j = true ↔ x.testBit j = true ∧ j ≠ a ∧ j ≠ b := by
  rw [off_bit, Nat.testBit_or, Nat.testBit_two_pow, Nat.testBit_two_pow]
  simp only [Bool.and_eq_true, Bool.not_eq_true', Bool.or_eq_false_iff, decide_eq_false_iff_not]
  constructor
  · rintro ⟨h1, h2, h3⟩; exact ⟨h1, fun e => h2 e.symm, fun e => h3 e.symm⟩
  · rintro ⟨h1, h2, h3⟩; exact ⟨h1, fun e => h2 e.symm, fun e => h3 e.symm⟩
theorem mergeL_getD (r : List Nat) (a b i : Nat) (h : i < r.length) : (mergeL r a b).getD i 0 = mergeX r a b i (r.getD i 0) := by
  unfold mergeL
  rw [List.getD_eq_getElem?_getD, List.getElem?_map, List.getElem?_range h]; rfl
theorem getD_out {r : List Nat} {i : Nat} (h : ¬ i < r.length) : r.getD i 0 = 0 := by
  rw [List.getD_eq_getElem?_getD, List.getElem?_eq_none (by omega)]; rfl
theorem bit_merge {r : List Nat} {a b i j : Nat} (h : i < r.length) : bitL (mergeL r a b) i j = true ↔ (i = a ∧ (bitL r a j = true ∨ bitL r b j = true) ∧ j ≠ a ∧ j ≠ b) ∨ (i ≠ a ∧ (bitL r i j = true ∨ (bitL r i b = true ∧ j = a))) := by
  unfold bitL
  rw [mergeL_getD _ _ _ _ h]
  unfold mergeX
  by_cases ha : i = a
  · rw [if_pos ha, off2_bit, Nat.testBit_or]
    simp [ha]
  · rw [if_neg ha]
    split
    · rename_i hb
      rw [Nat.testBit_or, Nat.testBit_two_pow]
      simp only [Bool.or_eq_true, decide_eq_true_eq, ha, false_and, false_or, not_false_eq_true, true_and, hb, ne_eq]
      constructor
      · rintro (h | h)
        · exact .inl h
        · exact .inr h.symm
      · rintro (h | h)
        · exact .inl h
        · exact .inr h.symm
    · rename_i hb
      constructor
      · intro h2; exact .inr ⟨ha, .inl h2⟩
      · rintro (⟨h2, _⟩ | ⟨_, h2 | ⟨h2, _⟩⟩)
        · exact absurd h2 ha
        · exact h2
        · exact absurd h2 hb
/-- neighbours, when b has become a -/
def mAdj (r : List Nat) (a b x y : Nat) : Prop := (x = a ∧ (bitL r a y = true ∨ bitL r b y = true) ∧ y ≠ a ∧ y ≠ b) ∨ (x ≠ a ∧ (bitL r x y = true ∨ (bitL r x b = true ∧ y = a)))
theorem bit_merged {r : List Nat} {a b i j : Nat} (h : i < r.length - 1) : bitL (mergedL r a b) i j = true ↔ mAdj r a b (up1 b i) (up1 b j) := by
  unfold mergedL
  rw [bit_less, bit_merge (up1_lt h)]; rfl
theorem bit_len {r : List Nat} {a b : Nat} (h : bitL r a b = true) : a < r.length := by
  apply Classical.byContradiction
  intro hn
  unfold bitL at h
  rw [getD_out hn] at h
  simp at h
theorem Sq.less {r : List Nat} (h : Sq r) {v : Nat} (hv : v < r.length) : Sq (lessL r v) := by
  refine ⟨fun a b hb => ?_, fun a b hb => ?_, fun a => ?_⟩
  · rw [bit_less] at hb
    have := h.bnd _ _ hb
    rw [lessL_length hv]
    unfold up1 at this
    split at this <;> omega
  · rw [bit_less] at hb ⊢; exact h.sym _ _ hb
  · rw [bit_less]; exact h.irr _
theorem Sq.merged {r : List Nat} (h : Sq r) {a b : Nat} (ha : a < b) (hb : b < r.length) : Sq (mergedL r a b) := by
  have hl := mergedL_length (a := a) hb
  have key : ∀ i j, bitL (mergedL r a b) i j = true → i < r.length - 1 ∧ mAdj r a b (up1 b i) (up1 b j) := fun i j hij => by
    have hi := bit_len hij
    rw [hl] at hi
    exact ⟨hi, (bit_merged hi).1 hij⟩
  have sm : ∀ x y, x ≠ b → y ≠ b → mAdj r a b x y → mAdj r a b y x := fun x y hx hy hm => by
    rcases hm with ⟨rfl, h1, h2, h3⟩ | ⟨h1, h2⟩
    · refine .inr ⟨h2, ?_⟩
      rcases h1 with h1 | h1
      · exact .inl (h.sym _ _ h1)
      · exact .inr ⟨h.sym _ _ h1, rfl⟩
    · by_cases e : y = a
      · subst e
        refine .inl ⟨rfl, ?_, h1, hx⟩
        rcases h2 with h2 | ⟨h2, _⟩
        · exact .inl (h.sym _ _ h2)
        · exact .inr (h.sym _ _ h2)
      · refine .inr ⟨e, .inl ?_⟩
        rcases h2 with h2 | ⟨_, h2⟩
        · exact h.sym _ _ h2
        · exact absurd h2 e
  have bd : ∀ i j, mAdj r a b (up1 b i) (up1 b j) → j < r.length - 1 := fun i j hm => by
    have : up1 b j < r.length := by
      rcases hm with ⟨_, h1 | h1, _⟩ | ⟨_, h1 | ⟨_, h1⟩⟩
      · exact h.bnd _ _ h1
      · exact h.bnd _ _ h1
      · exact h.bnd _ _ h1
      · omega
    unfold up1 at this
    split at this <;> omega
  refine ⟨fun i j hij => ?_, fun i j hij => ?_, fun i => ?_⟩
  · rw [hl]; exact bd _ _ (key _ _ hij).2
  · obtain ⟨hi, hm⟩ := key _ _ hij
    exact (bit_merged (bd _ _ hm)).2 (sm _ _ (up1_ne _ _) (up1_ne _ _) hm)
  · cases hc : bitL (mergedL r a b) i i with
    | false => rfl
    | true =>
      obtain ⟨hi, hm⟩ := key _ _ hc
      rcases hm with ⟨h1, _, h2, _⟩ | ⟨h1, h2 | ⟨_, h2⟩⟩
      · exact absurd h1 h2
      · rw [h.irr] at h2; cases h2
      · exact absurd h2 h1
/-- a model, as colours of the vertices: each colour below m is there, hangs together, and those of the pattern's pairs touch -/
structure Mod (r : List Nat) (m : Nat) (pat : List (Nat × Nat)) (c : Nat → Nat) : Prop where
  some : ∀ i, i < m → ∃ x, x < r.length ∧ c x = i
  conn : ∀ i, i < m → ∀ P : Nat → Prop, (∃ x, x < r.length ∧ c x = i ∧ P x) → (∀ x y, c x = i → c y = i → bitL r x y = true → P x → P y) → ∀ x, x < r.length → c x = i → P x
  meet : ∀ q ∈ pat, ∃ x y, bitL r x y = true ∧ c x = q.1 ∧ c y = q.2
theorem Mod.less {r : List Nat} {m : Nat} {pat : List (Nat × Nat)} {c : Nat → Nat} (h : Mod r m pat c) (hp : ∀ q ∈ pat, q.1 < m ∧ q.2 < m ∧ q.1 ≠ q.2) {v : Nat} (hv : v < r.length) (hc : m ≤ c v) : Mod (lessL r v) m pat fun i => c (up1 v i) := by
  have hl := lessL_length hv
  refine ⟨fun i hi => ?_, fun i hi P hP hcl x hx hcx => ?_, fun q hq => ?_⟩
  · obtain ⟨x, h1, h2⟩ := h.some i hi
    have hx : x ≠ v := fun e => by subst e; omega
    exact ⟨dn1 v x, by rw [hl]; exact dn_lt hx hv h1, by rw [up_dn hx]; exact h2⟩
  · have := h.conn i hi (fun x => ∃ y, up1 v y = x ∧ P y) ?_ ?_ (up1 v x) (by rw [hl] at hx; exact up1_lt hx) hcx
    · obtain ⟨y, h1, h2⟩ := this
      rw [← up_inj h1]; exact h2
    · obtain ⟨x, h1, h2, h3⟩ := hP
      exact ⟨up1 v x, by rw [hl] at h1; exact up1_lt h1, h2, x, rfl, h3⟩
    · rintro x y cx cy hb ⟨x', rfl, hPx⟩
      have hy : y ≠ v := fun e => by subst e; omega
      refine ⟨dn1 v y, up_dn hy, hcl x' _ cx (by rw [up_dn hy]; exact cy) ?_ hPx⟩
      rw [bit_less, up_dn hy]; exact hb
  · obtain ⟨x, y, h1, h2, h3⟩ := h.meet q hq
    have hx : x ≠ v := fun e => by subst e; have := hp q hq; omega
    have hy : y ≠ v := fun e => by subst e; have := hp q hq; omega
    exact ⟨dn1 v x, dn1 v y, by rw [bit_less, up_dn hx, up_dn hy]; exact h1, by rw [up_dn hx]; exact h2, by rw [up_dn hy]; exact h3⟩
/-- where a vertex goes, when b becomes a -/
def toM (a b x : Nat) : Nat := if x = b then a else dn1 b x
theorem Mod.merged {r : List Nat} {m : Nat} {pat : List (Nat × Nat)} {c : Nat → Nat} (hs : Sq r) (h : Mod r m pat c) (hp : ∀ q ∈ pat, q.1 < m ∧ q.2 < m ∧ q.1 ≠ q.2) {a b : Nat} (ha : a < b) (hb : b < r.length) (hc : c a = c b) : Mod (mergedL r a b) m pat fun i => c (up1 b i) := by
  have hl := mergedL_length (a := a) hb
  have up_a : up1 b a = a := by unfold up1; rw [if_pos ha]
  have cT : ∀ x, c (up1 b (toM a b x)) = c x := fun x => by
    unfold toM
    split
    · rename_i e; rw [up_a, e, hc]
    · rename_i e; rw [up_dn e]
  have lT : ∀ x, x < r.length → toM a b x < r.length - 1 := fun x hx => by
    unfold toM
    split
    · omega
    · rename_i e; exact dn_lt e hb hx
  have uT : ∀ x, toM a b (up1 b x) = x := fun x => by
    unfold toM
    rw [if_neg (up1_ne _ _)]
    exact up_inj (up_dn (up1_ne _ _))
  have bT : ∀ x y, bitL r x y = true → toM a b x = toM a b y ∨ bitL (mergedL r a b) (toM a b x) (toM a b y) = true := fun x y hxy => by
    by_cases e : toM a b x = toM a b y
    · exact .inl e
    refine .inr ((bit_merged (lT x (hs.lt hxy))).2 ?_)
    by_cases hx : x = b
    · subst hx
      have ex : up1 x (toM a x x) = a := by unfold toM; rw [if_pos rfl, up_a]
      have hy : y ≠ x := fun h => e (by rw [h])
      have ey : up1 x (toM a x y) = y := by unfold toM; rw [if_neg hy, up_dn hy]
      rw [ex, ey]
      refine .inl ⟨rfl, .inr hxy, fun h => e ?_, hy⟩
      have : up1 x (toM a x x) = up1 x (toM a x y) := by rw [ex, ey, h]
      exact up_inj this
    · have ex : up1 b (toM a b x) = x := by unfold toM; rw [if_neg hx, up_dn hx]
      by_cases hy : y = b
      · subst hy
        have ey : up1 y (toM a y y) = a := by unfold toM; rw [if_pos rfl, up_a]
        rw [ex, ey]
        refine .inr ⟨fun h => e ?_, .inr ⟨hxy, rfl⟩⟩
        have : up1 y (toM a y x) = up1 y (toM a y y) := by rw [ex, ey, h]
        exact up_inj this
      · have ey : up1 b (toM a b y) = y := by unfold toM; rw [if_neg hy, up_dn hy]
        rw [ex, ey]
        by_cases hxa : x = a
        · subst hxa
          refine .inl ⟨rfl, .inl hxy, fun h => ?_, hy⟩
          rw [h, hs.irr] at hxy; cases hxy
        · exact .inr ⟨hxa, .inl hxy⟩
  refine ⟨fun i hi => ?_, fun i hi P hP hcl x hx hcx => ?_, fun q hq => ?_⟩
  · obtain ⟨x, h1, h2⟩ := h.some i hi
    exact ⟨toM a b x, by rw [hl]; exact lT x h1, by rw [cT]; exact h2⟩
  · have := h.conn i hi (fun x => P (toM a b x)) ?_ ?_ (up1 b x) (by rw [hl] at hx; exact up1_lt hx) hcx
    · rwa [uT] at this
    · obtain ⟨x, h1, h2, h3⟩ := hP
      exact ⟨up1 b x, by rw [hl] at h1; exact up1_lt h1, h2, by rw [uT]; exact h3⟩
    · intro x y cx cy hxy hPx
      rcases bT x y hxy with e | e
      · rw [← e]; exact hPx
      · exact hcl _ _ (by rw [cT]; exact cx) (by rw [cT]; exact cy) e hPx
  · obtain ⟨x, y, h1, h2, h3⟩ := h.meet q hq
    rcases bT x y h1 with e | e
    · exfalso
      have := cT x
      rw [e, cT, h2, h3] at this
      exact (hp q hq).2.2 this.symm
    · exact ⟨_, _, e, by rw [cT]; exact h2, by rw [cT]; exact h3⟩
/-! #### rows of a graph -/
end Go.Sh

set_option linter.unusedVariables false
set_option linter.unusedSimpArgs false
namespace Go.Sh
/-! ### narrow: there is no model of the complete graph of four -/
/-! #### models of sets, and rows of bits -/
end Go.Sh
