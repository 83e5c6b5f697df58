/- What the functions answer that the statement reaches. No condition. -/
import Derived.Test.YtcihmgopaadpfaaFn1
import Derived.RangeFuncBox
import Derived.RangeFuncLeaves
import Derived.Shelf.Abstract
import Derived.WalkKit
import Derived.OwnWalkIn
import Derived.TacticsInMore
import Derived.LoopNIn
import Derived.LoopIn
import Derived.Maps.AppendAt
import Derived.Test.YtcihmgopaadpfaaProg
import Derived.Shelf.Sort.Plain
import Derived.Shelf.Slices.In.SortNone
import Derived.Shelf.Slices.CompactI
import Derived.Ground.NamesProg
import Derived.Ground.Names2Prog
import Derived.Sort.OwnSorted
import Derived.Shelf.SlIterI.Sorted
set_option linter.unusedVariables false
set_option linter.unusedSimpArgs false
namespace Go.Sh
open Go.Proofs
/-! ### reduce.Run -/
open Classical in
noncomputable def runO (n : Int) (E : List Ed) : List Stp × List Int × List Ed := if RightP n E then ((runR n E).1, leftF (runR n E).2.2, edgesF (runR n E).2.1 (runR n E).2.2) else ([], [], [])
noncomputable def RunC : Con := conP 2 (fun _ : Int × List Ed => True) (fun a => [grV a.1 a.2]) (fun a => logV true (runO a.1 a.2).1 (runO a.1 a.2).2.1 (runO a.1 a.2).2.2)
theorem RunC_at (n : Int) (E : List Ed) : RunC.F [grV n E] = some (logV true (runO n E).1 (runO n E).2.1 (runO n E).2.2, []) :=
  conP_at (a := (n, E)) (fun x y _ _ h => by
    obtain ⟨n, E⟩ := x
    obtain ⟨n', E'⟩ := y
    simp at h
    obtain ⟨rfl, rfl⟩ := grV_inj h
    rfl) trivial
noncomputable def XRun : Cx := { Γ := [(39, RightC), (70, BeginC), (71, MayC), (74, StepC), (98, turnC (fun l _ => l.Pairwise (· ≤ ·) ∧ l.length ≤ 1000000) (fun l x => l.erase x)), (99, turnC (fun l _ => l.Pairwise (· ≤ ·) ∧ l.length ≤ 1000000) insAt)], T := T, nt := 66, inl := [(72, inlF Try.f72), (73, inlF Try.f73), (75, inlF Try.f75), (76, inlF Try.f76)], join := [82000, 56000], jc := [82050, 70031, 66059, 66024] }
theorem XRun_sound : Sound Try.prog T XRun.Γ := sound_cons RightG_ok (sound_cons Begin_ok (sound_cons May_ok (sound_cons Step_ok (sound_cons (turn_sound Without_call) (sound_cons (turn_sound With_call) sound_nil)))))
theorem XRun_ok : CrOk Try.prog (callAt 1 XRun) := callAt_ok hmix hT XRun_sound (inl_cons Try.func72 (by rfl) (by rfl) (by rfl) (inl_cons Try.func73 (by rfl) (by rfl) (by rfl) (inl_cons Try.func75 (by rfl) (by rfl) (by rfl) (inl_cons Try.func76 (by rfl) (by rfl) (by rfl) inl_nil)))) cr_none 1
theorem may_range {N : List (List Int)} {G : List Bool} {n x : Int} (h : N.length = n.toNat) (k : mayB N G x = true) : 0 ≤ x ∧ x < n := by
  have h1 := (mayB_iff.1 k).lo
  have h2 := (mayB_iff.1 k).hi
  omega
theorem skip_may {i : Nat} {x a b v : Int} {P : Prop} (hx : (i = 0 ∧ x = a) ∨ (i = 1 ∧ x = b)) (hne : v ≠ x) (k : P ∨ (i ≤ 0 ∧ v = a) ∨ (i ≤ 1 ∧ v = b)) : P ∨ (i + 1 ≤ 0 ∧ v = a) ∨ (i + 1 ≤ 1 ∧ v = b) := by
  rcases k with k | ⟨k1, k2⟩ | ⟨k1, k2⟩
  · exact .inl k
  · rcases hx with ⟨_, e⟩ | ⟨e0, _⟩
    · exact absurd (by rw [k2, e]) hne
    · omega
  · rcases hx with ⟨e0, _⟩ | ⟨_, e⟩
    · exact .inr (.inr ⟨by omega, k2⟩)
    · exact absurd (by rw [k2, e]) hne
theorem put_may {i : Nat} {x a b v : Int} {P Q : Prop} (hx : (i = 0 ∧ x = a) ∨ (i = 1 ∧ x = b)) (h : P ∨ v = x → Q) (k : P ∨ (i ≤ 0 ∧ v = a) ∨ (i ≤ 1 ∧ v = b)) : Q ∨ (i + 1 ≤ 0 ∧ v = a) ∨ (i + 1 ≤ 1 ∧ v = b) := by
  rcases k with k | ⟨k1, k2⟩ | ⟨k1, k2⟩
  · exact .inl (h (.inl k))
  · rcases hx with ⟨_, e⟩ | ⟨e0, _⟩
    · exact .inl (h (.inr (by rw [k2, e])))
    · omega
  · rcases hx with ⟨e0, _⟩ | ⟨_, e⟩
    · exact .inr (.inr ⟨by omega, k2⟩)
    · exact .inl (h (.inr (by rw [k2, e])))
set_option maxHeartbeats 4000000 in
theorem Run_ok : SoundC Try.prog T 40 RunC := by
  refine sound_con (X := XRun) (cr := callAt 1 XRun) XRun_ok hmix hT XRun_sound Try.func40 (by rfl) (by rfl) (by rfl) (by rfl) 2 ?_
  rintro ⟨n, E⟩ -
  dsimp only
  refine ⟨⟨Nat.le_of_ble_eq_true rfl, Nat.le_of_ble_eq_true rfl⟩, ?_⟩
  refine Call.by _ _ (RightC_at n E) ?_
  refine Pick.by (fun h1 => ?_) (fun h1 => ?_)
  · have h1 : ¬ RightP n E := by have h1 : (!decide (RightP n E)) = true := h1; simpa using h1
    have hv : runO n E = ([], [], []) := if_neg h1
    rw [hv]
    refine ⟨rfl, ?_⟩
    (repeat' first | exact rfl | exact trivial | refine And.intro ?_ ?_)
  have hR : RightP n E := by have h1 : (!decide (RightP n E)) = false := h1; simpa using h1
  have hv : runO n E = ((runR n E).1, leftF (runR n E).2.2, edgesF (runR n E).2.1 (runR n E).2.2) := if_pos hR
  rw [hv]
  refine Call.by _ _ (BeginC_at hR) ?_
  have hn0 := hR.1
  have hn1 := hR.2.1
  have hW := begin_wf hR
  have hNl := nbrs_length n.toNat E
  have hGl : (List.replicate n.toNat false).length = (nbrs n.toNat E).length := by rw [hNl]; simp
  refine LoopP.intro (α := Nat × List Int) (fun a => a.1 ≤ n.toNat ∧ a.2.length ≤ a.1 ∧ Heap a.2 ∧ (∀ v ∈ a.2, 0 ≤ v ∧ v < n) ∧ ∀ v : Int, v < a.1 → mayB (nbrs n.toNat E) (List.replicate n.toNat false) v = true → v ∈ a.2) (fun a => n.toNat - a.1) (fun a => [(2, .ptr 0 0), (3, .ptr 1 0), (4, .ptr 4 0), (18, .s (.i .i64 n)), (19, .s (.i .i64 a.1))])
    (fun a => [(0, some (.blk [.nils, .nils, .nils])), (1, some (.blk [.sl 2 none none, .sl 3 none none])), (2, some (.nest true 1 (rowsI (nbrs n.toNat E)) [] [])), (3, some (.flat true 1 (bools (List.replicate n.toNat false)))), (4, some (.blk [.sl 5 none none])), (5, some (.flat true 1 (ints a.2)))]) 6 (0, []) ⟨by omega, by simp, heap_nil, by simp, fun v h1 h2 => by rw [mayB_iff] at h2; have := h2.lo; omega⟩ (by refine Weak.by [(0, some _), (1, some _), (2, some _), (3, some _), (4, some _), (5, none)] (by ((repeat' first | exact rfl | exact trivial | refine And.intro ?_ ?_) <;> (repeat' first | exact rfl | exact trivial | refine And.intro ?_ ?_))) (by ((repeat' first | exact rfl | exact trivial | refine And.intro ?_ ?_) <;> (repeat' first | exact rfl | exact trivial | refine And.intro ?_ ?_))) (by rfl)) ?_
  rintro ⟨i, l⟩ ⟨hi, hl, hH, hr, hm⟩
  dsimp only at hi hl hH hr hm ⊢
  refine Pick.by (fun hc => ?_) (fun hc => ?_)
  · have hlt : i < n.toNat := by simp at hc; omega
    refine Call.by _ _ (MayC_at (i : Int) hGl) ?_
    refine JoinP.intro (α := List Int) (fun l => l.length ≤ i + 1 ∧ Heap l ∧ (∀ v ∈ l, 0 ≤ v ∧ v < n) ∧ ∀ v : Int, v < (i + 1 : Nat) → mayB (nbrs n.toNat E) (List.replicate n.toNat false) v = true → v ∈ l) (fun l => [(2, .ptr 0 0), (3, .ptr 1 0), (4, .ptr 4 0), (18, .s (.i .i64 n)), (19, .s (.i .i64 i))])
      (fun l => [(0, some (.blk [.nils, .nils, .nils])), (1, some (.blk [.sl 2 none none, .sl 3 none none])), (2, some (.nest true 1 (rowsI (nbrs n.toNat E)) [] [])), (3, some (.flat true 1 (bools (List.replicate n.toNat false)))), (4, some (.blk [.sl 5 none none])), (5, some (.flat true 1 (ints l)))]) 6 ?_ ?_
    rotate_left
    · rintro l' ⟨a1, a2, a3, a4⟩
      refine Pick.T (inI64_of (by omega) (by omega)) ?_
      exact Next.by (i + 1, l') ⟨by dsimp only; omega, a1, a2, a3, a4⟩ (by dsimp only; omega) (by refine Weak.by [(0, some _), (1, some _), (2, some _), (3, some _), (4, some _), (5, some _)] (by ((repeat' first | exact rfl | exact trivial | refine And.intro ?_ ?_) <;> (repeat' first | exact rfl | exact trivial | refine And.intro ?_ ?_))) (by ((repeat' first | exact rfl | exact trivial | refine And.intro ?_ ?_) <;> (repeat' first | exact rfl | exact trivial | refine And.intro ?_ ?_))) (by rfl))
    refine Pick.by (fun h2 => ?_) (fun h2 => ?_)
    · refine Pick.T (by simp [cut, ints_length]; omega) ?_
      have hraw : ints l = ints l := rfl
      have hlen0 : (ints l ++ [[Sc.i .i64 ((i : Nat) : Int)]]) = ints (l ++ [((i : Nat) : Int)]) := by rw [hraw, ints_snoc]
      refine Pick.T (by show inI64 ((((ints l ++ [[Sc.i .i64 ((i : Nat) : Int)]]).length : Nat) : Int) - 1) = true; rw [hlen0, ints_length]; simp; exact inI64_of (by omega) (by omega)) ?_
      have hlen1 : ((l.length : Nat) : Int) = (((ints l ++ [[Sc.i .i64 ((i : Nat) : Int)]]).length : Nat) : Int) - 1 := by rw [hlen0, ints_length]; simp
      refine JoinP.intro (α := List Int) (fun a => Heap a ∧ a.length = l.length + 1 ∧ ∀ v, v ∈ a ↔ v ∈ l ∨ v = ((i : Nat) : Int)) (fun a => [(0, .ptr 4 0), (4, .sl 6 none none), (1000002, .ptr 0 0), (1000003, .ptr 1 0), (1000004, .ptr 4 0), (1000018, .s (.i .i64 n)), (1000019, .s (.i .i64 i))])
        (fun a => [(0, some (.blk [.nils, .nils, .nils])), (1, some (.blk [.sl 2 none none, .sl 3 none none])), (2, some (.nest true 1 (rowsI (nbrs n.toNat E)) [] [])), (3, some (.flat true 1 (bools (List.replicate n.toNat false)))), (4, some (.blk [.sl 5 none none])), (6, some (.flat true 1 (ints a)))]) 7 ?_ ?_
      rotate_left
      · rintro m ⟨hHm, hml2, hmem⟩
        exact ⟨m, ⟨by omega, hHm, fun v hv => ((hmem v).1 hv).elim (hr v) fun e => by rw [e]; omega, fun v hv hmv => (hmem v).2 (if hvi : v < i then .inl (hm v hvi hmv) else .inr (by omega))⟩, by refine Weak.by [(0, some _), (1, some _), (2, some _), (3, some _), (4, some _), (5, some _)] (by ((repeat' first | exact rfl | exact trivial | refine And.intro ?_ ?_) <;> (repeat' first | exact rfl | exact trivial | refine And.intro ?_ ?_))) (by ((repeat' first | exact rfl | exact trivial | refine And.intro ?_ ?_) <;> (repeat' first | exact rfl | exact trivial | refine And.intro ?_ ?_))) (by rfl)⟩
      refine LoopP.intro (α := Nat × List Int) (fun a => a.2.Perm (l ++ [((i : Nat) : Int)]) ∧ HUp a.2 a.1 ∧ a.1 < a.2.length) (fun a => a.1) (fun a => [(0, .ptr 4 0), (4, .sl 6 none none), (5, .s (.i .i64 a.1)), (1000002, .ptr 0 0), (1000003, .ptr 1 0), (1000004, .ptr 4 0), (1000018, .s (.i .i64 n)), (1000019, .s (.i .i64 i))])
        (fun a => [(0, some (.blk [.nils, .nils, .nils])), (1, some (.blk [.sl 2 none none, .sl 3 none none])), (2, some (.nest true 1 (rowsI (nbrs n.toNat E)) [] [])), (3, some (.flat true 1 (bools (List.replicate n.toNat false)))), (4, some (.blk [.sl 5 none none])), (6, some (.flat true 1 (ints a.2)))]) 7 (l.length, l ++ [((i : Nat) : Int)]) ⟨List.Perm.refl _, up_start hH _, by simp⟩ (by refine Weak.by [(0, some _), (1, some _), (2, some _), (3, some _), (4, some _), (5, some _), (6, some _)] (by ((repeat' first | exact rfl | exact trivial | refine And.intro ?_ ?_) <;> (repeat' first | exact rfl | exact trivial | refine And.intro ?_ ?_)); all_goals ((first | (exact hlen0.symm) | (exact sc_eq hlen1)))) (by ((repeat' first | exact rfl | exact trivial | refine And.intro ?_ ?_) <;> (repeat' first | exact rfl | exact trivial | refine And.intro ?_ ?_)); all_goals ((first | (exact hlen0.symm) | (exact sc_eq hlen1)))) (by rfl)) ?_
      rintro ⟨p, m⟩ ⟨hperm, hup, hpm⟩
      dsimp only at hperm hup hpm ⊢
      have hml : m.length = l.length + 1 := by rw [hperm.length_eq]; simp
      have hpq : 0 < p → ((p : Int) - 1).tdiv 2 = (((p - 1) / 2 : Nat) : Int) := fun h => by rw [show (p : Int) - 1 = ((p - 1 : Nat) : Int) by omega]; rfl
      have hput : Heap m → Heap m ∧ m.length = l.length + 1 ∧ ∀ v, v ∈ m ↔ v ∈ l ∨ v = ((i : Nat) : Int) := fun h => ⟨h, hml, fun v => by rw [hperm.mem_iff]; simp⟩
      refine Pick.by (fun hc1 => ?_) (fun hc1 => ?_)
      · have hp0 : 0 < p := by simp at hc1; omega
        have hq := hpq hp0
        have hql : (p - 1) / 2 < m.length := by omega
        obtain ⟨y, hy⟩ : ∃ y, m[p]? = some y := ⟨_, List.getElem?_eq_getElem hpm⟩
        obtain ⟨z, hz⟩ : ∃ z, m[(p - 1) / 2]? = some z := ⟨_, List.getElem?_eq_getElem hql⟩
        refine Idx.by p rfl (by rw [ints_length]; exact hpm) ?_
        refine Look.by _ (ints_get hy) ?_
        refine Pick.T (inI64_of (by omega) (by omega)) ?_
        refine Pick.T (inI64_of (by omega) (by omega)) ?_
        refine Idx.by ((p - 1) / 2) hq (by rw [ints_length]; exact hql) ?_
        refine Look.by _ (ints_get hz) ?_
        refine Seg.by (by kernel_rfl) ?_
        refine Pick.by (fun hc2 => ?_) (fun hc2 => ?_)
        · have hlt : y < z := by simpa using hc2
          have hsw : ints ((m.set p z).set ((p - 1) / 2) y) = ((ints m).set p [.i .i64 z]).set ((p - 1) / 2) [.i .i64 y] := by rw [ints_set, ints_set]
          refine Pick.T (inI64_of (by omega) (by omega)) ?_
          refine Pick.T (inI64_of (by omega) (by omega)) ?_
          refine Pick.T (inI64_of (by omega) (by omega)) ?_
          refine Pick.T (inI64_of (by omega) (by omega)) ?_
          refine Idx.by ((p - 1) / 2) hq (by rw [ints_length]; exact hql) ?_
          refine Look.by _ (ints_get hz) ?_
          refine Idx.by p rfl (by rw [ints_length]; exact hpm) ?_
          refine Look.by _ (ints_get hy) ?_
          refine Idx.by p rfl (by rw [ints_length]; exact hpm) ?_
          refine Look.by _ (ints_get hy) ?_
          refine Idx.by ((p - 1) / 2) hq (by rw [List.length_set, ints_length]; exact hql) ?_
          refine Look.by _ (by rw [List.getElem?_set_ne (by omega)]; exact ints_get hz) ?_
          refine Seg.by (by kernel_rfl) ?_
          refine Pick.T (inI64_of (by omega) (by omega)) ?_
          refine Pick.T (inI64_of (by omega) (by omega)) ?_
          refine Next.by ((p - 1) / 2, (m.set p z).set ((p - 1) / 2) y) ⟨(swap_perm hy hz (by omega)).trans hperm, up_step hup hp0 hz hy hlt, by rw [List.length_set, List.length_set]; exact hql⟩ (by dsimp only; omega) (by refine Weak.by [(0, some _), (1, some _), (2, some _), (3, some _), (4, some _), (5, some _), (6, some _)] (by ((repeat' first | exact rfl | exact trivial | refine And.intro ?_ ?_) <;> (repeat' first | exact rfl | exact trivial | refine And.intro ?_ ?_)); all_goals ((first | (exact hsw) | (exact sc_eq hq.symm)))) (by ((repeat' first | exact rfl | exact trivial | refine And.intro ?_ ?_) <;> (repeat' first | exact rfl | exact trivial | refine And.intro ?_ ?_)); all_goals ((first | (exact hsw) | (exact sc_eq hq.symm)))) (by rfl))
        · have hHm := hput (up_done hup (.inr fun x' y' hx' hy' => by
            rw [hz] at hx'; rw [hy] at hy'
            injection hx' with hx'; injection hy' with hy'
            have : ¬ y < z := by simpa using hc2
            omega))
          exact ⟨m, hHm, by refine Weak.by [(0, some _), (1, some _), (2, some _), (3, some _), (4, some _), (5, some _), (6, some _)] (by ((repeat' first | exact rfl | exact trivial | refine And.intro ?_ ?_) <;> (repeat' first | exact rfl | exact trivial | refine And.intro ?_ ?_))) (by ((repeat' first | exact rfl | exact trivial | refine And.intro ?_ ?_) <;> (repeat' first | exact rfl | exact trivial | refine And.intro ?_ ?_))) (by rfl)⟩
      · have hp0 : p = 0 := by simp at hc1; omega
        refine Seg.by (by kernel_rfl) ?_
        exact ⟨m, hput (up_done hup (.inl hp0)), by refine Weak.by [(0, some _), (1, some _), (2, some _), (3, some _), (4, some _), (5, some _), (6, some _)] (by ((repeat' first | exact rfl | exact trivial | refine And.intro ?_ ?_) <;> (repeat' first | exact rfl | exact trivial | refine And.intro ?_ ?_))) (by ((repeat' first | exact rfl | exact trivial | refine And.intro ?_ ?_) <;> (repeat' first | exact rfl | exact trivial | refine And.intro ?_ ?_))) (by rfl)⟩
    · have h2 : mayB (nbrs n.toNat E) (List.replicate n.toNat false) i = false := h2
      refine ⟨l, ⟨by omega, hH, hr, fun v hv hmv => ?_⟩, by refine Weak.by [(0, some _), (1, some _), (2, some _), (3, some _), (4, some _), (5, some _)] (by ((repeat' first | exact rfl | exact trivial | refine And.intro ?_ ?_) <;> (repeat' first | exact rfl | exact trivial | refine And.intro ?_ ?_))) (by ((repeat' first | exact rfl | exact trivial | refine And.intro ?_ ?_) <;> (repeat' first | exact rfl | exact trivial | refine And.intro ?_ ?_))) (by rfl)⟩
      by_cases hvi : v < i
      · exact hm v hvi hmv
      · have : v = i := by omega
        rw [this, h2] at hmv; cases hmv
  · have hin : i = n.toNat := by simp at hc; omega
    have hm : ∀ v : Int, mayB (nbrs n.toNat E) (List.replicate n.toNat false) v = true → v ∈ l := fun v hv => hm v (by have := (mayB_iff.1 hv).hi; rw [hNl] at this; omega) hv
    have hl0 : l.length ≤ n.toNat := by omega
    have hrun : runR n E = ([] ++ (runS n.toNat (nbrs n.toNat E) (List.replicate n.toNat false)).1, (runS n.toNat (nbrs n.toNat E) (List.replicate n.toNat false)).2) := rfl
    generalize hNN : nbrs n.toNat E = N at *
    generalize hGG : List.replicate n.toNat false = G at *
    refine LoopP.intro (α := List Stp × List (List Int) × List Bool × Option (Nat × Nat) × List Int) (fun a => Wf a.2.1 a.2.2.1 ∧ a.2.1.length = n.toNat ∧ runR n E = (a.1 ++ (runS (n.toNat - a.1.length) a.2.1 a.2.2.1).1, (runS (n.toNat - a.1.length) a.2.1 a.2.2.1).2) ∧ a.1.length + a.2.2.1.countP (!·) ≤ n.toNat ∧ (a.2.2.2.1 = none ∨ ∃ L, a.2.2.2.1 = some (0, L) ∧ L ≤ a.2.2.2.2.length) ∧
        a.2.2.2.2.length ≤ 4000 ∧ (cut a.2.2.2.1 a.2.2.2.2).length ≤ n.toNat + 2 * a.1.length ∧ Heap (cut a.2.2.2.1 a.2.2.2.2) ∧ (∀ v ∈ cut a.2.2.2.1 a.2.2.2.2, 0 ≤ v ∧ v < n) ∧ ∀ v : Int, mayB a.2.1 a.2.2.1 v = true → v ∈ cut a.2.2.2.1 a.2.2.2.2)
      (fun a => 3 * (n.toNat - a.1.length) + (cut a.2.2.2.1 a.2.2.2.2).length) (fun a => [(2, .ptr 0 0), (3, .ptr 1 0), (4, .ptr 4 0), (6, .sl 6 none none)])
      (fun a => [(0, some (.blk [.nils, .nils, .nils])), (1, some (.blk [.sl 2 none none, .sl 3 none none])), (2, some (.nest true 1 (rowsI a.2.1) [] [])), (3, some (.flat true 1 (bools a.2.2.1))), (4, some (.blk [.sl 5 none a.2.2.2.1])), (5, some (.flat true 1 (ints a.2.2.2.2))), (6, some (.flat true 4 (stps a.1)))]) 7 ([], N, G, none, l)
      ⟨hW, hNl, by simpa using hrun, by rw [← hGG]; simp [List.countP_replicate], .inl rfl, by show l.length ≤ _; omega, by show l.length ≤ _; omega, hH, hr, hm⟩ (by refine Weak.by [(0, some _), (1, some _), (2, some _), (3, some _), (4, some _), (5, some _), (6, none)] (by ((repeat' first | exact rfl | exact trivial | refine And.intro ?_ ?_) <;> (repeat' first | exact rfl | exact trivial | refine And.intro ?_ ?_))) (by ((repeat' first | exact rfl | exact trivial | refine And.intro ?_ ?_) <;> (repeat' first | exact rfl | exact trivial | refine And.intro ?_ ?_))) (by rfl)) ?_
    clear hrun hl0 hH hr hm hW hNl hGl hl hi hc
    rintro ⟨st, N, G, sub, m⟩ ⟨hW, hNl, hrun, hlive, hsub, hm4, hl0, hH, hr, hm⟩
    dsimp only at hW hNl hrun hlive hsub hm4 hl0 hH hr hm ⊢
    rcases hsub with rfl | ⟨L, rfl, hL⟩
    · generalize hlm : cut none m = l at *
      have hlm : m = l := hlm
      refine Pick.by (fun hc => ?_) (fun hc => ?_)
      · have hpos : 0 < l.length := by rw [ints_length, hlm] at hc; simpa using hc
        obtain ⟨out, hout⟩ : ∃ a, l[0]? = some a := ⟨_, List.getElem?_eq_getElem hpos⟩
        obtain ⟨last, hlst⟩ : ∃ k, l.length = k + 1 := ⟨l.length - 1, by omega⟩
        obtain ⟨top, htop⟩ : ∃ a, l[last]? = some a := ⟨_, List.getElem?_eq_getElem (by omega)⟩
        have hlast : (((ints m).length : Nat) : Int) - 1 = (last : Int) := by rw [ints_length, hlm]; omega
        have hsift : Sift l out last (m.set 0 top) 0 := ⟨by rw [List.length_set, hlm]; omega, by rw [hlm]; exact take_perm hout htop hlst, by rw [hlm]; exact dn_start hH _⟩
        have hil : (ints m).length = last + 1 := by rw [ints_length, hlm]; exact hlst
        refine Idx.by 0 rfl (by omega) ?_
        refine Look.by _ (by rw [hlm]; exact ints_get hout) ?_
        refine Pick.T (by rw [hlast]; exact inI64_of (by omega) (by omega)) ?_
        refine Idx.by last hlast (by omega) ?_
        refine Look.by _ (by rw [hlm]; exact ints_get htop) ?_
        refine Idx.by 0 rfl (by omega) ?_
        refine Look.by _ (by rw [hlm]; exact ints_get hout) ?_
        refine Rng.by 0 last rfl hlast (by omega) (by rw [List.length_set]; omega) ?_
        refine JoinP.intro (α := List Int) (fun c => c.length = m.length ∧ last ≤ c.length ∧ (out :: c.take last).Perm l ∧ Heap (c.take last)) (fun c => [(0, .ptr 4 0), (3, .sl 5 none (some (0, last))), (4, .s (.i .i64 out)), (1000002, .ptr 0 0), (1000003, .ptr 1 0), (1000004, .ptr 4 0), (1000006, .sl 6 none none)])
          (fun c => [(0, some (.blk [.nils, .nils, .nils])), (1, some (.blk [.sl 2 none none, .sl 3 none none])), (2, some (.nest true 1 (rowsI N) [] [])), (3, some (.flat true 1 (bools G))), (4, some (.blk [.sl 5 none none])), (5, some (.flat true 1 (ints c))), (6, some (.flat true 4 (stps st)))]) 7 ?_ ?_
        rotate_left
        · rintro c ⟨hcm, hlc, hperm, hHc⟩
          have hGN := hW.len
          have hq0 : ∀ v, v ∈ c.take last → v ∈ l := fun v hv => hperm.mem_iff.1 (List.mem_cons_of_mem _ hv)
          have hq1 : ∀ v, v ∈ l → v = out ∨ v ∈ c.take last := fun v hv => by simpa using hperm.mem_iff.2 hv
          have hqr : ∀ v ∈ c.take last, 0 ≤ v ∧ v < n := fun v hv => hr v (hq0 v hv)
          have hqc : cut (some (0, last)) c = c.take last := rfl
          have hqlen : (c.take last).length = last := by rw [List.length_take]; omega
          have hor := hr out (List.mem_of_getElem? hout)
          refine Call.by _ _ (MayC_at out hGN) ?_
          refine Pick.by (fun hmy => ?_) (fun hmy => ?_)
          · have hmy : mayB N G out = false := by have hmy : (!mayB N G out) = true := hmy; simpa using hmy
            refine Next.by (st, N, G, some (0, last), c) ⟨hW, hNl, hrun, hlive, .inr ⟨last, rfl, hlc⟩, by dsimp only; omega, by dsimp only; rw [hqc]; omega, hHc, hqr, fun v hv => ?_⟩ (by dsimp only; rw [hqc]; omega) (by refine Weak.by [(0, some _), (1, some _), (2, some _), (3, some _), (4, some _), (5, some _), (6, some _)] (by ((repeat' first | exact rfl | exact trivial | refine And.intro ?_ ?_) <;> (repeat' first | exact rfl | exact trivial | refine And.intro ?_ ?_))) (by ((repeat' first | exact rfl | exact trivial | refine And.intro ?_ ?_) <;> (repeat' first | exact rfl | exact trivial | refine And.intro ?_ ?_))) (by rfl))
            rcases hq1 v (hm v hv) with e | e
            · rw [e, hmy] at hv; cases hv
            · exact e
          have hmy : mayB N G out = true := by have hmy : (!mayB N G out) = false := hmy; simpa using hmy
          have hmp := mayB_iff.1 hmy
          obtain ⟨hs1, hs2⟩ := step_two hW hmp rfl
          refine Call.by _ _ (StepC_at ⟨hW, hmp.lo, hmp.hi⟩) ?_
          have hlo := hmp.lo
          have hhi := hmp.hi
          have hrv := hW.rows out
          have hnd : (rowAt N out).Nodup := hrv.1.imp fun hab => by omega
          have hNL := rowsI_length N
          have hmo := hW.most
          have hrl := hW.row_len out
          have hgv : (rowsI N)[(out).toNat]? = some (ints (rowAt N out)) := rowsI_get (rowAt_mem hlo hhi).2
          have hvv : out ∉ rowAt N out := hW.irr out hlo
          have hpart : ∀ (di : Nat) (u : Int), 0 ≤ u → rowAt (((rowAt N out).take di).foldl (cutF out) N) u = if u ∈ (rowAt N out).take di then (rowAt N u).erase out else rowAt N u := fun di u hu => cuts_row (hnd.sublist (List.take_sublist _ _)) (fun x hx => hrv.2 x (List.mem_of_mem_take hx)) hu
          have hplen : ∀ di : Nat, (rowsI (((rowAt N out).take di).foldl (cutF out) N)).length = N.length := fun di => by rw [rowsI_length, cuts_length]
          have hpget : ∀ (di : Nat) (u : Int), 0 ≤ u → u < N.length → (rowsI (((rowAt N out).take di).foldl (cutF out) N))[u.toNat]? = some (ints (rowAt (((rowAt N out).take di).foldl (cutF out) N) u)) := fun di u h0 h1 => rowsI_get (rowAt_mem h0 (by rw [cuts_length]; exact h1)).2
          refine Idx.by (out).toNat (by show (out : Int) = _; omega) (by omega) ?_
          refine Pick.T (by rw [hNL]; simp; omega) ?_
          refine Look.by _ hgv ?_
          refine LoopP.intro (α := Nat) (fun di => di ≤ (rowAt N out).length) (fun di => (rowAt N out).length - di) (fun di => [(2, .ptr 8 0), (3, .ptr 9 0), (11, .sl 2 (some ((out).toNat, 0)) none), (12, .s (.i .i64 (rowAt N out).length)), (13, .s (.i .i64 di)), (1000002, .ptr 0 0), (1000003, .ptr 1 0), (1000004, .ptr 4 0), (1000006, .sl 6 none none), (1000008, .ptr 7 0)])
            (fun di => [(0, some (.blk [.nils, .nils, .nils])), (1, some (.blk [.sl 2 none none, .sl 3 none none])), (4, some (.blk [.sl 5 none (some (0, last))])), (5, some (.flat true 1 (ints c))), (6, some (.flat true 4 (stps st))), (7, some (.blk [.s (.i .i64 (stepF N out).1), .s (.i .i64 (stepF N out).2.1), .s (.i .i64 (stepF N out).2.2.1), .s (.b (stepF N out).2.2.2)])), (2, some (.nest true 1 (rowsI (((rowAt N out).take di).foldl (cutF out) N)) [] [])), (3, some (.flat true 1 (bools G))), (8, some (.blk [.sl 2 none none, .sl 3 none none])), (9, some (.blk [.s (.i .i64 (stepF N out).1), .s (.i .i64 (stepF N out).2.1), .s (.i .i64 (stepF N out).2.2.1), .s (.b (stepF N out).2.2.2)]))]) 10 0 (by omega) (by refine Weak.by [(0, some _), (1, some _), (2, some _), (3, some _), (4, some _), (5, some _), (6, some _), (7, some _), (8, some _), (9, some _)] (by ((repeat' first | exact rfl | exact trivial | refine And.intro ?_ ?_) <;> (repeat' first | exact rfl | exact trivial | refine And.intro ?_ ?_)); all_goals ((first | (rw [ints_length]; rfl) | (simp; done)))) (by ((repeat' first | exact rfl | exact trivial | refine And.intro ?_ ?_) <;> (repeat' first | exact rfl | exact trivial | refine And.intro ?_ ?_)); all_goals ((first | (rw [ints_length]; rfl) | (simp; done)))) (by rfl)) ?_
          rintro di hi
          refine Pick.by (fun hc1 => ?_) (fun hc1 => ?_)
          · have hil : di < (rowAt N out).length := by simpa using hc1
            obtain ⟨x, hx⟩ : ∃ x, (rowAt N out)[di]? = some x := ⟨_, List.getElem?_eq_getElem hil⟩
            have hxm := List.mem_of_getElem? hx
            have hxr := hrv.2 x hxm
            have hxv : x ≠ out := fun e => hvv (e ▸ hxm)
            have hgi : (rowsI (((rowAt N out).take di).foldl (cutF out) N))[(out).toNat]? = some (ints (rowAt N out)) := by
              rw [hpget di out hlo hhi, hpart di out hlo, if_neg fun h => hvv (List.mem_of_mem_take h)]
            have hrx := hpget di x hxr.1 hxr.2
            have hstp : ((rowAt N out).take (di + 1)).foldl (cutF out) N = cutF out (((rowAt N out).take di).foldl (cutF out) N) x := by
              rw [List.take_succ_eq_append_getElem hil, List.foldl_append]
              have : (rowAt N out)[di] = x := by rw [List.getElem?_eq_getElem hil] at hx; injection hx
              rw [this]; rfl
            have hwx : (rowAt (((rowAt N out).take di).foldl (cutF out) N) x).Pairwise (· ≤ ·) ∧ (rowAt (((rowAt N out).take di).foldl (cutF out) N) x).length ≤ 1000000 := by
              have h1 := hW.rows x
              have h2 := hW.row_len x
              rw [hpart di x hxr.1]
              split
              · have h3 := List.length_erase_le (l := rowAt N x) (a := out)
                exact ⟨(erase_sorted h1.1).imp fun h => by omega, by omega⟩
              · exact ⟨h1.1.imp fun h => by omega, by omega⟩
            have hpl := hplen di
            refine Look.by _ hgi ?_
            refine Idx.by di rfl (by rw [ints_length]; exact hil) ?_
            refine Look.by _ hgi ?_
            refine Look.by _ (ints_get hx) ?_
            refine Idx.by x.toNat (by omega) (by omega) ?_
            refine Pick.T (by rw [hpl]; simp; omega) ?_
            refine Look.by _ hrx ?_
            refine Call.by _ _ (turnC_at hwx) ?_
            refine Idx.by x.toNat (by omega) (by omega) ?_
            refine Pick.T (by rw [hpl]; simp; omega) ?_
            refine Pick.T (by simp) ?_
            refine Seg.by (by kernel_rfl) ?_
            refine Pick.T (inI64_of (by omega) (by omega)) ?_
            refine Next.by (di + 1) (by omega) (by omega) (by refine Weak.by [(0, some _), (1, some _), (2, some _), (3, some _), (4, some _), (5, some _), (6, some _), (7, some _), (8, some _), (9, some _)] (by ((repeat' first | exact rfl | exact trivial | refine And.intro ?_ ?_) <;> (repeat' first | exact rfl | exact trivial | refine And.intro ?_ ?_)); all_goals ((first | (rw [hstp]; unfold cutF; rw [rowsI_set]; rfl) | (simp; done) | (simp; omega)))) (by ((repeat' first | exact rfl | exact trivial | refine And.intro ?_ ?_) <;> (repeat' first | exact rfl | exact trivial | refine And.intro ?_ ?_)); all_goals ((first | (rw [hstp]; unfold cutF; rw [rowsI_set]; rfl) | (simp; done) | (simp; omega)))) (by rfl))
          have hil : di = (rowAt N out).length := by simp at hc1; omega
          subst hil
          rw [List.take_length]
          have hN1 : ∀ u : Int, 0 ≤ u → rowAt ((rowAt N out).foldl (cutF out) N) u = (rowAt N u).erase out := fun u hu => by
            rw [cuts_row hnd hrv.2 hu]
            split
            · rfl
            · rename_i hno
              rw [List.erase_of_not_mem]
              exact fun h => hno (hW.sym u out hu hlo h)
          have hl1 : (rowsI ((rowAt N out).foldl (cutF out) N)).length = N.length := by rw [rowsI_length, cuts_length]
          refine JoinP.intro (α := Unit) (fun _ => True) (fun _ => [(2, .ptr 8 0), (3, .ptr 9 0), (1000002, .ptr 0 0), (1000003, .ptr 1 0), (1000004, .ptr 4 0), (1000006, .sl 6 none none), (1000008, .ptr 7 0)])
            (fun _ => [(0, some (.blk [.nils, .nils, .nils])), (1, some (.blk [.sl 2 none none, .sl 3 none none])), (4, some (.blk [.sl 5 none (some (0, last))])), (5, some (.flat true 1 (ints c))), (6, some (.flat true 4 (stps st))), (7, some (.blk [.s (.i .i64 (stepF N out).1), .s (.i .i64 (stepF N out).2.1), .s (.i .i64 (stepF N out).2.2.1), .s (.b (stepF N out).2.2.2)])), (2, some (.nest true 1 (rowsI (if (stepF N out).2.2.2 then joinF (joinF ((rowAt N out).foldl (cutF out) N) (stepF N out).2.1 (stepF N out).2.2.1) (stepF N out).2.2.1 (stepF N out).2.1 else (rowAt N out).foldl (cutF out) N)) [] [])), (3, some (.flat true 1 (bools G))), (8, some (.blk [.sl 2 none none, .sl 3 none none])), (9, some (.blk [.s (.i .i64 (stepF N out).1), .s (.i .i64 (stepF N out).2.1), .s (.i .i64 (stepF N out).2.2.1), .s (.b (stepF N out).2.2.2)]))]) 10 ?_ ?_
          rotate_left
          · rintro ⟨⟩ -
            have hl2 : (rowsI (if (stepF N out).2.2.2 then joinF (joinF ((rowAt N out).foldl (cutF out) N) (stepF N out).2.1 (stepF N out).2.2.1) (stepF N out).2.2.1 (stepF N out).2.1 else (rowAt N out).foldl (cutF out) N)).length = N.length := by
              rw [rowsI_length]
              split
              · rw [joinF_length, joinF_length, cuts_length]
              · rw [cuts_length]
            have hdo : (rowsI (if (stepF N out).2.2.2 then joinF (joinF ((rowAt N out).foldl (cutF out) N) (stepF N out).2.1 (stepF N out).2.2.1) (stepF N out).2.2.1 (stepF N out).2.1 else (rowAt N out).foldl (cutF out) N)).set (out).toNat [] = rowsI (doN N (stepF N out)) := by
              unfold doN
              rw [rowsI_set]; rfl
            have hdg : (bools G).set (out).toNat [.b true] = bools (doG G (stepF N out)) := by
              unfold doG bools
              rw [List.map_set]; rfl
            generalize rowsI (if (stepF N out).2.2.2 then joinF (joinF ((rowAt N out).foldl (cutF out) N) (stepF N out).2.1 (stepF N out).2.2.1) (stepF N out).2.2.1 (stepF N out).2.1 else (rowAt N out).foldl (cutF out) N) = RR at hl2 hdo ⊢
            refine Idx.by (out).toNat (by show (out : Int) = _; omega) (by omega) ?_
            refine Pick.T (by rw [hl2]; simp; omega) ?_
            refine Idx.by (out).toNat (by show (out : Int) = _; omega) (by rw [bools_length, hW.len]; omega) ?_
            refine Look.by _ (bools_get (goneAt_get hW.len hlo hhi)) ?_
            refine Seg.by (by kernel_rfl) ?_
            have hW2 := do_wf hW hmp
            have hNl2 : (doN N (stepF N out)).length = n.toNat := by rw [doN_length]; exact hNl
            have hGN2 : (doG G (stepF N out)).length = (doN N (stepF N out)).length := hW2.len
            have hlv := live_step hW hmp
            have hst4 : st.length + 1 ≤ n.toNat := by omega
            have hrun2 := run_step hrun hW hmy hst4 (fun v hv => heap_least hHc hH hout hperm hm hv)
            have hmay2 : ∀ v, mayB (doN N (stepF N out)) (doG G (stepF N out)) v = true → v ∈ c.take last ∨ v = (stepF N out).2.1 ∨ v = (stepF N out).2.2.1 := fun v hv => may_step hW hmp hs2 hv fun h2 hne => (hq1 v (hm v h2)).elim (fun e => absurd e hne) id
            generalize hN2 : doN N (stepF N out) = N2 at *
            generalize hG2 : doG G (stepF N out) = G2 at *
            generalize hsG : stepF N out = s at *
            refine Pick.T (by simp [cut, stps_length]; omega) ?_
            refine LoopP.intro (α := Nat × Option (Nat × Nat) × List Int) (fun a => a.1 ≤ 2 ∧ (a.2.1 = none ∨ ∃ L, a.2.1 = some (0, L) ∧ L ≤ a.2.2.length) ∧ a.2.2.length ≤ 4000 ∧ (cut a.2.1 a.2.2).length ≤ last + a.1 ∧ Heap (cut a.2.1 a.2.2) ∧ (∀ v ∈ cut a.2.1 a.2.2, 0 ≤ v ∧ v < n) ∧ ∀ v : Int, mayB N2 G2 v = true → v ∈ cut a.2.1 a.2.2 ∨ (a.1 ≤ 0 ∧ v = s.2.1) ∨ (a.1 ≤ 1 ∧ v = s.2.2.1)) (fun a => 2 - a.1) (fun a => [(2, .ptr 0 0), (3, .ptr 1 0), (4, .ptr 4 0), (6, .sl 6 none none), (51, .sl 7 none none), (52, .s (.i .i64 2)), (53, .s (.i .i64 a.1))])
              (fun a => [(0, some (.blk [.nils, .nils, .nils])), (1, some (.blk [.sl 2 none none, .sl 3 none none])), (2, some (.nest true 1 (rowsI N2) [] [])), (3, some (.flat true 1 (bools G2))), (4, some (.blk [.sl 5 none a.2.1])), (5, some (.flat true 1 (ints a.2.2))), (6, some (.flat true 4 (stps (st ++ [s])))), (7, some (.flat true 1 (ints [s.2.1, s.2.2.1])))]) 8 (0, some (0, last), c)
              ⟨by dsimp only; omega, .inr ⟨last, rfl, hlc⟩, by dsimp only; omega, by dsimp only; rw [hqc]; omega, hHc, hqr, fun v hv => (hmay2 v hv).elim .inl fun h => h.elim (fun h => .inr (.inl ⟨by dsimp only; omega, h⟩)) fun h => .inr (.inr ⟨by dsimp only; omega, h⟩)⟩ (by refine Weak.by [(0, some _), (1, some _), (2, some _), (3, some _), (4, some _), (5, some _), (6, some _), (7, some _)] (by ((repeat' first | exact rfl | exact trivial | refine And.intro ?_ ?_) <;> (repeat' first | exact rfl | exact trivial | refine And.intro ?_ ?_)); all_goals ((first | (exact stps_snoc st s) | (exact hdo.symm) | (exact hdg.symm)))) (by ((repeat' first | exact rfl | exact trivial | refine And.intro ?_ ?_) <;> (repeat' first | exact rfl | exact trivial | refine And.intro ?_ ?_)); all_goals ((first | (exact stps_snoc st s) | (exact hdo.symm) | (exact hdg.symm)))) (by rfl)) ?_
            rintro ⟨i, sub2, m2⟩ ⟨hi2, hsub2, hm24, hcl2, hH2, hr2, hmv2⟩
            dsimp only at hi2 hsub2 hm24 hcl2 hH2 hr2 hmv2 ⊢
            refine Pick.by (fun hc5 => ?_) (fun hc5 => ?_)
            · have hi3 : i < 2 := by simp at hc5; omega
              obtain ⟨x, hx⟩ : ∃ x, [s.2.1, s.2.2.1][i]? = some x := ⟨_, List.getElem?_eq_getElem (show i < [s.2.1, s.2.2.1].length from hi3)⟩
              have hxi : (i = 0 ∧ x = s.2.1) ∨ (i = 1 ∧ x = s.2.2.1) := by
                have : i = 0 ∨ i = 1 := by omega
                rcases this with e | e
                · subst e; simp at hx; exact .inl ⟨rfl, hx.symm⟩
                · subst e; simp at hx; exact .inr ⟨rfl, hx.symm⟩
              refine Idx.by i rfl (by rw [ints_length]; exact hi3) ?_
              refine Look.by _ (ints_get hx) ?_
              refine Call.by _ _ (MayC_at x hGN2) ?_
              refine JoinP.intro (α := Option (Nat × Nat) × List Int) (fun b => (b.1 = none ∨ ∃ L, b.1 = some (0, L) ∧ L ≤ b.2.length) ∧ b.2.length ≤ 4000 ∧ (cut b.1 b.2).length ≤ last + i + 1 ∧ Heap (cut b.1 b.2) ∧ (∀ v ∈ cut b.1 b.2, 0 ≤ v ∧ v < n) ∧ ∀ v : Int, mayB N2 G2 v = true → v ∈ cut b.1 b.2 ∨ (i + 1 ≤ 0 ∧ v = s.2.1) ∨ (i + 1 ≤ 1 ∧ v = s.2.2.1)) (fun b => [(2, .ptr 0 0), (3, .ptr 1 0), (4, .ptr 4 0), (6, .sl 6 none none), (51, .sl 7 none none), (52, .s (.i .i64 2)), (53, .s (.i .i64 i))])
                (fun b => [(0, some (.blk [.nils, .nils, .nils])), (1, some (.blk [.sl 2 none none, .sl 3 none none])), (2, some (.nest true 1 (rowsI N2) [] [])), (3, some (.flat true 1 (bools G2))), (4, some (.blk [.sl 5 none b.1])), (5, some (.flat true 1 (ints b.2))), (6, some (.flat true 4 (stps (st ++ [s])))), (7, some (.flat true 1 (ints [s.2.1, s.2.2.1])))]) 8 ?_ ?_
              rotate_left
              · rintro ⟨sub3, m3⟩ hJ
                refine Pick.T (inI64_of (by omega) (by omega)) ?_
                exact Next.by (i + 1, sub3, m3) ⟨by dsimp only; omega, hJ⟩ (by dsimp only; omega) (by refine Weak.by [(0, some _), (1, some _), (2, some _), (3, some _), (4, some _), (5, some _), (6, some _), (7, some _)] (by ((repeat' first | exact rfl | exact trivial | refine And.intro ?_ ?_) <;> (repeat' first | exact rfl | exact trivial | refine And.intro ?_ ?_))) (by ((repeat' first | exact rfl | exact trivial | refine And.intro ?_ ?_) <;> (repeat' first | exact rfl | exact trivial | refine And.intro ?_ ?_))) (by rfl))
              refine Pick.by (fun hc6 => ?_) (fun hc6 => ?_)
              · have hc6 : mayB N2 G2 x = true := hc6
                have hxr2 : 0 ≤ x ∧ x < n := may_range hNl2 hc6
                have hH := hH2
                refine Pick.T (by simp [cut, ints_length]; omega) ?_
                have hraw : cut sub2 (ints m2) = ints (cut sub2 m2) := cut_ints
                have hlen0 : (cut sub2 (ints m2) ++ [[Sc.i .i64 x]]) = ints ((cut sub2 m2) ++ [x]) := by rw [hraw, ints_snoc]
                refine Pick.T (by show inI64 ((((cut sub2 (ints m2) ++ [[Sc.i .i64 x]]).length : Nat) : Int) - 1) = true; rw [hlen0, ints_length]; simp; exact inI64_of (by omega) (by omega)) ?_
                have hlen1 : (((cut sub2 m2).length : Nat) : Int) = (((cut sub2 (ints m2) ++ [[Sc.i .i64 x]]).length : Nat) : Int) - 1 := by rw [hlen0, ints_length]; simp
                refine JoinP.intro (α := List Int) (fun a => Heap a ∧ a.length = (cut sub2 m2).length + 1 ∧ ∀ v, v ∈ a ↔ v ∈ (cut sub2 m2) ∨ v = x) (fun a => [(0, .ptr 4 0), (4, .sl 8 none none), (1000002, .ptr 0 0), (1000003, .ptr 1 0), (1000004, .ptr 4 0), (1000006, .sl 6 none none), (1000051, .sl 7 none none), (1000052, .s (.i .i64 2)), (1000053, .s (.i .i64 i))])
                  (fun a => [(0, some (.blk [.nils, .nils, .nils])), (1, some (.blk [.sl 2 none none, .sl 3 none none])), (2, some (.nest true 1 (rowsI N2) [] [])), (3, some (.flat true 1 (bools G2))), (4, some (.blk [.sl 5 none sub2])), (6, some (.flat true 4 (stps (st ++ [s])))), (7, some (.flat true 1 (ints [s.2.1, s.2.2.1]))), (8, some (.flat true 1 (ints a)))]) 9 ?_ ?_
                rotate_left
                · rintro m ⟨hHm, hml2, hmem⟩
                  exact ⟨(none, m), ⟨.inl rfl, by dsimp only; omega, by show m.length ≤ _; omega, hHm, fun v hv => ((hmem v).1 hv).elim (hr2 v) fun e => by rw [e]; exact hxr2, fun v hv => put_may hxi (hmem v).2 (hmv2 v hv)⟩, by refine Weak.by [(0, some _), (1, some _), (2, some _), (3, some _), (4, some _), (5, some _), (6, some _), (7, some _)] (by ((repeat' first | exact rfl | exact trivial | refine And.intro ?_ ?_) <;> (repeat' first | exact rfl | exact trivial | refine And.intro ?_ ?_))) (by ((repeat' first | exact rfl | exact trivial | refine And.intro ?_ ?_) <;> (repeat' first | exact rfl | exact trivial | refine And.intro ?_ ?_))) (by rfl)⟩
                refine LoopP.intro (α := Nat × List Int) (fun a => a.2.Perm ((cut sub2 m2) ++ [x]) ∧ HUp a.2 a.1 ∧ a.1 < a.2.length) (fun a => a.1) (fun a => [(0, .ptr 4 0), (4, .sl 8 none none), (5, .s (.i .i64 a.1)), (1000002, .ptr 0 0), (1000003, .ptr 1 0), (1000004, .ptr 4 0), (1000006, .sl 6 none none), (1000051, .sl 7 none none), (1000052, .s (.i .i64 2)), (1000053, .s (.i .i64 i))])
                  (fun a => [(0, some (.blk [.nils, .nils, .nils])), (1, some (.blk [.sl 2 none none, .sl 3 none none])), (2, some (.nest true 1 (rowsI N2) [] [])), (3, some (.flat true 1 (bools G2))), (4, some (.blk [.sl 5 none sub2])), (6, some (.flat true 4 (stps (st ++ [s])))), (7, some (.flat true 1 (ints [s.2.1, s.2.2.1]))), (8, some (.flat true 1 (ints a.2)))]) 9 ((cut sub2 m2).length, (cut sub2 m2) ++ [x]) ⟨List.Perm.refl _, up_start hH _, by simp⟩ (by refine Weak.by [(0, some _), (1, some _), (2, some _), (3, some _), (4, some _), (5, some _), (6, some _), (7, some _), (8, some _)] (by ((repeat' first | exact rfl | exact trivial | refine And.intro ?_ ?_) <;> (repeat' first | exact rfl | exact trivial | refine And.intro ?_ ?_)); all_goals ((first | (exact hlen0.symm) | (exact sc_eq hlen1)))) (by ((repeat' first | exact rfl | exact trivial | refine And.intro ?_ ?_) <;> (repeat' first | exact rfl | exact trivial | refine And.intro ?_ ?_)); all_goals ((first | (exact hlen0.symm) | (exact sc_eq hlen1)))) (by rfl)) ?_
                rintro ⟨p, m⟩ ⟨hperm, hup, hpm⟩
                dsimp only at hperm hup hpm ⊢
                have hml : m.length = (cut sub2 m2).length + 1 := by rw [hperm.length_eq]; simp
                have hpq : 0 < p → ((p : Int) - 1).tdiv 2 = (((p - 1) / 2 : Nat) : Int) := fun h => by rw [show (p : Int) - 1 = ((p - 1 : Nat) : Int) by omega]; rfl
                have hput : Heap m → Heap m ∧ m.length = (cut sub2 m2).length + 1 ∧ ∀ v, v ∈ m ↔ v ∈ (cut sub2 m2) ∨ v = x := fun h => ⟨h, hml, fun v => by rw [hperm.mem_iff]; simp⟩
                refine Pick.by (fun hc1 => ?_) (fun hc1 => ?_)
                · have hp0 : 0 < p := by simp at hc1; omega
                  have hq := hpq hp0
                  have hql : (p - 1) / 2 < m.length := by omega
                  obtain ⟨y, hy⟩ : ∃ y, m[p]? = some y := ⟨_, List.getElem?_eq_getElem hpm⟩
                  obtain ⟨z, hz⟩ : ∃ z, m[(p - 1) / 2]? = some z := ⟨_, List.getElem?_eq_getElem hql⟩
                  refine Idx.by p rfl (by rw [ints_length]; exact hpm) ?_
                  refine Look.by _ (ints_get hy) ?_
                  refine Pick.T (inI64_of (by omega) (by omega)) ?_
                  refine Pick.T (inI64_of (by omega) (by omega)) ?_
                  refine Idx.by ((p - 1) / 2) hq (by rw [ints_length]; exact hql) ?_
                  refine Look.by _ (ints_get hz) ?_
                  refine Seg.by (by kernel_rfl) ?_
                  refine Pick.by (fun hc2 => ?_) (fun hc2 => ?_)
                  · have hlt : y < z := by simpa using hc2
                    have hsw : ints ((m.set p z).set ((p - 1) / 2) y) = ((ints m).set p [.i .i64 z]).set ((p - 1) / 2) [.i .i64 y] := by rw [ints_set, ints_set]
                    refine Pick.T (inI64_of (by omega) (by omega)) ?_
                    refine Pick.T (inI64_of (by omega) (by omega)) ?_
                    refine Pick.T (inI64_of (by omega) (by omega)) ?_
                    refine Pick.T (inI64_of (by omega) (by omega)) ?_
                    refine Idx.by ((p - 1) / 2) hq (by rw [ints_length]; exact hql) ?_
                    refine Look.by _ (ints_get hz) ?_
                    refine Idx.by p rfl (by rw [ints_length]; exact hpm) ?_
                    refine Look.by _ (ints_get hy) ?_
                    refine Idx.by p rfl (by rw [ints_length]; exact hpm) ?_
                    refine Look.by _ (ints_get hy) ?_
                    refine Idx.by ((p - 1) / 2) hq (by rw [List.length_set, ints_length]; exact hql) ?_
                    refine Look.by _ (by rw [List.getElem?_set_ne (by omega)]; exact ints_get hz) ?_
                    refine Seg.by (by kernel_rfl) ?_
                    refine Pick.T (inI64_of (by omega) (by omega)) ?_
                    refine Pick.T (inI64_of (by omega) (by omega)) ?_
                    refine Next.by ((p - 1) / 2, (m.set p z).set ((p - 1) / 2) y) ⟨(swap_perm hy hz (by omega)).trans hperm, up_step hup hp0 hz hy hlt, by rw [List.length_set, List.length_set]; exact hql⟩ (by dsimp only; omega) (by refine Weak.by [(0, some _), (1, some _), (2, some _), (3, some _), (4, some _), (5, some _), (6, some _), (7, some _), (8, some _)] (by ((repeat' first | exact rfl | exact trivial | refine And.intro ?_ ?_) <;> (repeat' first | exact rfl | exact trivial | refine And.intro ?_ ?_)); all_goals ((first | (exact hsw) | (exact sc_eq hq.symm)))) (by ((repeat' first | exact rfl | exact trivial | refine And.intro ?_ ?_) <;> (repeat' first | exact rfl | exact trivial | refine And.intro ?_ ?_)); all_goals ((first | (exact hsw) | (exact sc_eq hq.symm)))) (by rfl))
                  · have hHm := hput (up_done hup (.inr fun x' y' hx' hy' => by
                      rw [hz] at hx'; rw [hy] at hy'
                      injection hx' with hx'; injection hy' with hy'
                      have : ¬ y < z := by simpa using hc2
                      omega))
                    exact ⟨m, hHm, by refine Weak.by [(0, some _), (1, some _), (2, some _), (3, some _), (4, some _), (5, some _), (6, some _), (7, some _), (8, some _)] (by ((repeat' first | exact rfl | exact trivial | refine And.intro ?_ ?_) <;> (repeat' first | exact rfl | exact trivial | refine And.intro ?_ ?_))) (by ((repeat' first | exact rfl | exact trivial | refine And.intro ?_ ?_) <;> (repeat' first | exact rfl | exact trivial | refine And.intro ?_ ?_))) (by rfl)⟩
                · have hp0 : p = 0 := by simp at hc1; omega
                  refine Seg.by (by kernel_rfl) ?_
                  exact ⟨m, hput (up_done hup (.inl hp0)), by refine Weak.by [(0, some _), (1, some _), (2, some _), (3, some _), (4, some _), (5, some _), (6, some _), (7, some _), (8, some _)] (by ((repeat' first | exact rfl | exact trivial | refine And.intro ?_ ?_) <;> (repeat' first | exact rfl | exact trivial | refine And.intro ?_ ?_))) (by ((repeat' first | exact rfl | exact trivial | refine And.intro ?_ ?_) <;> (repeat' first | exact rfl | exact trivial | refine And.intro ?_ ?_))) (by rfl)⟩
              · have hc6 : mayB N2 G2 x = false := hc6
                exact ⟨(sub2, m2), ⟨hsub2, hm24, by dsimp only; omega, hH2, hr2, fun v hv => skip_may hxi (fun e => by rw [e, hc6] at hv; cases hv) (hmv2 v hv)⟩, by refine Weak.by [(0, some _), (1, some _), (2, some _), (3, some _), (4, some _), (5, some _), (6, some _), (7, some _)] (by ((repeat' first | exact rfl | exact trivial | refine And.intro ?_ ?_) <;> (repeat' first | exact rfl | exact trivial | refine And.intro ?_ ?_))) (by ((repeat' first | exact rfl | exact trivial | refine And.intro ?_ ?_) <;> (repeat' first | exact rfl | exact trivial | refine And.intro ?_ ?_))) (by rfl)⟩
            · have hi3 : i = 2 := by simp at hc5; omega
              refine Next.by (st ++ [s], N2, G2, sub2, m2) ⟨hW2, hNl2, hrun2, by simp; omega, hsub2, hm24, by simp; omega, hH2, hr2, fun v hv => ?_⟩ (by simp; omega) (by refine Weak.by [(0, some _), (1, some _), (2, some _), (3, some _), (4, some _), (5, some _), (6, some _)] (by ((repeat' first | exact rfl | exact trivial | refine And.intro ?_ ?_) <;> (repeat' first | exact rfl | exact trivial | refine And.intro ?_ ?_))) (by ((repeat' first | exact rfl | exact trivial | refine And.intro ?_ ?_) <;> (repeat' first | exact rfl | exact trivial | refine And.intro ?_ ?_))) (by rfl))
              rcases hmv2 v hv with h | ⟨h1, _⟩ | ⟨h1, _⟩
              · exact h
              · omega
              · omega
          refine Pick.by (fun had => ?_) (fun had => ?_)
          · have had : (stepF N out).2.2.2 = true := had
            rw [if_pos had]
            rcases hs2 with ⟨_, _, _, e⟩ | ⟨_, _, _, _, e⟩ | ⟨a, b, hlv, hab, ea, eb, ec⟩
            · rw [had] at e; cases e
            · rw [had] at e; cases e
            have har := hrv.2 a (by rw [hlv]; simp)
            have hbr := hrv.2 b (by rw [hlv]; simp)
            have hra : (rowsI ((rowAt N out).foldl (cutF out) N))[a.toNat]? = some (ints ((rowAt N a).erase out)) := by
              have h1 := rowsI_get (rowAt_mem (N := (rowAt N out).foldl (cutF out) N) har.1 (by rw [cuts_length]; exact har.2)).2
              rw [hN1 a har.1] at h1
              exact h1
            have hrb : (rowsI ((rowAt N out).foldl (cutF out) N))[b.toNat]? = some (ints ((rowAt N b).erase out)) := by
              have h1 := rowsI_get (rowAt_mem (N := (rowAt N out).foldl (cutF out) N) hbr.1 (by rw [cuts_length]; exact hbr.2)).2
              rw [hN1 b hbr.1] at h1
              exact h1
            have hok : ∀ u, ((rowAt N u).erase out).Pairwise (· ≤ ·) ∧ ((rowAt N u).erase out).length ≤ 1000000 := fun u => by
              have h1 := hW.rows u
              have h2 := hW.row_len u
              have h3 := List.length_erase_le (l := rowAt N u) (a := out)
              exact ⟨(erase_sorted h1.1).imp fun h => by omega, by omega⟩
            rw [ea, eb]
            have hj : rowsI (joinF (joinF ((rowAt N out).foldl (cutF out) N) a b) b a) = ((rowsI ((rowAt N out).foldl (cutF out) N)).set a.toNat (ints (insAt ((rowAt N a).erase out) b))).set b.toNat (ints (insAt ((rowAt N b).erase out) a)) := by
              have e1 : rowAt (joinF ((rowAt N out).foldl (cutF out) N) a b) b = (rowAt N b).erase out := by
                unfold joinF
                rw [rowAt_set har.1 (by rw [cuts_length]; exact har.2) hbr.1, if_neg (by omega), hN1 b hbr.1]
              show rowsI ((joinF ((rowAt N out).foldl (cutF out) N) a b).set b.toNat (insAt (rowAt (joinF ((rowAt N out).foldl (cutF out) N) a b) b) a)) = _
              rw [e1, rowsI_set]
              unfold joinF
              rw [rowsI_set, hN1 a har.1]
            have hma : (rowsI ((rowAt N out).foldl (cutF out) N)).set a.toNat (ints (insAt ((rowAt N a).erase out) b)) ≠ [] ∨ True := .inr trivial
            have hl3 : ((rowsI ((rowAt N out).foldl (cutF out) N)).set a.toNat (ints (insAt ((rowAt N a).erase out) b))).length = N.length := by rw [List.length_set, hl1]
            have hrb2 : ((rowsI ((rowAt N out).foldl (cutF out) N)).set a.toNat (ints (insAt ((rowAt N a).erase out) b)))[b.toNat]? = some (ints ((rowAt N b).erase out)) := by rw [List.getElem?_set_ne (by omega)]; exact hrb
            refine Idx.by a.toNat (by omega) (by omega) ?_
            refine Pick.T (by rw [hl1]; simp; omega) ?_
            refine Look.by _ hra ?_
            refine Call.by _ _ (turnC_at (hok a)) ?_
            refine Idx.by a.toNat (by omega) (by omega) ?_
            refine Pick.T (by rw [hl1]; simp; omega) ?_
            refine Pick.T (by simp) ?_
            refine Seg.by (by kernel_rfl) ?_
            refine Idx.by b.toNat (by omega) (by omega) ?_
            refine Pick.T (by rw [hl3]; simp; omega) ?_
            refine Look.by _ hrb2 ?_
            refine Call.by _ _ (turnC_at (hok b)) ?_
            refine Idx.by b.toNat (by omega) (by omega) ?_
            refine Pick.T (by rw [hl3]; simp; omega) ?_
            refine Pick.T (by simp) ?_
            refine Seg.by (by kernel_rfl) ?_
            exact ⟨(), trivial, by refine Weak.by [(0, some _), (1, some _), (2, some _), (3, some _), (4, some _), (5, some _), (6, some _), (7, some _), (8, some _), (9, some _)] (by ((repeat' first | exact rfl | exact trivial | refine And.intro ?_ ?_) <;> (repeat' first | exact rfl | exact trivial | refine And.intro ?_ ?_)); all_goals ((exact hj))) (by ((repeat' first | exact rfl | exact trivial | refine And.intro ?_ ?_) <;> (repeat' first | exact rfl | exact trivial | refine And.intro ?_ ?_)); all_goals ((exact hj))) (by rfl)⟩
          · have had : (stepF N out).2.2.2 = false := had
            rw [if_neg (by rw [had]; simp)]
            exact ⟨(), trivial, by refine Weak.by [(0, some _), (1, some _), (2, some _), (3, some _), (4, some _), (5, some _), (6, some _), (7, some _), (8, some _), (9, some _)] (by ((repeat' first | exact rfl | exact trivial | refine And.intro ?_ ?_) <;> (repeat' first | exact rfl | exact trivial | refine And.intro ?_ ?_))) (by ((repeat' first | exact rfl | exact trivial | refine And.intro ?_ ?_) <;> (repeat' first | exact rfl | exact trivial | refine And.intro ?_ ?_))) (by rfl)⟩
        refine LoopP.intro (α := Nat × List Int) (fun a => Sift l out last a.2 a.1 ∧ a.1 ≤ last ∧ a.2.length = m.length) (fun a => last + 1 - a.1) (fun a => [(0, .ptr 4 0), (3, .sl 5 none (some (0, last))), (4, .s (.i .i64 out)), (5, .s (.i .i64 last)), (6, .s (.i .i64 a.1)), (1000002, .ptr 0 0), (1000003, .ptr 1 0), (1000004, .ptr 4 0), (1000006, .sl 6 none none)])
          (fun a => [(0, some (.blk [.nils, .nils, .nils])), (1, some (.blk [.sl 2 none none, .sl 3 none none])), (2, some (.nest true 1 (rowsI N) [] [])), (3, some (.flat true 1 (bools G))), (4, some (.blk [.sl 5 none none])), (5, some (.flat true 1 (ints a.2))), (6, some (.flat true 4 (stps st)))]) 7 (0, m.set 0 top) ⟨hsift, by dsimp only; omega, by rw [List.length_set]⟩ (by refine Weak.by [(0, some _), (1, some _), (2, some _), (3, some _), (4, some _), (5, some _), (6, some _)] (by ((repeat' first | exact rfl | exact trivial | refine And.intro ?_ ?_) <;> (repeat' first | exact rfl | exact trivial | refine And.intro ?_ ?_)); all_goals ((first | (rw [ints_set]; rfl) | (exact sc_eq hlast.symm)))) (by ((repeat' first | exact rfl | exact trivial | refine And.intro ?_ ?_) <;> (repeat' first | exact rfl | exact trivial | refine And.intro ?_ ?_)); all_goals ((first | (rw [ints_set]; rfl) | (exact sc_eq hlast.symm)))) (by rfl)) ?_
        rintro ⟨i, c⟩ ⟨hsf, hil, hcm⟩
        dsimp only at hsf hil hcm ⊢
        refine Pick.T (inI64_of (by omega) (by omega)) ?_
        refine Pick.T (inI64_of (by omega) (by omega)) ?_
        refine Pick.by (fun hc1 => ?_) (fun hc1 => ?_)
        · have hch : 2 * i + 1 < last := by simp at hc1; omega
          obtain ⟨x, hx⟩ : ∃ x, c[i]? = some x := ⟨_, List.getElem?_eq_getElem (by have := hsf.len; omega)⟩
          obtain ⟨y1, hy1⟩ : ∃ y, c[2 * i + 1]? = some y := ⟨_, List.getElem?_eq_getElem (by have := hsf.len; omega)⟩
          refine Pick.T (inI64_of (by omega) (by omega)) ?_
          refine Pick.T (inI64_of (by omega) (by omega)) ?_
          refine Pick.T (inI64_of (by omega) (by omega)) ?_
          have hk1 : (2 * (i : Int) + 1) = ((2 * i + 1 : Nat) : Int) := by omega
          have hk2 : (2 * (i : Int) + 1 + 1) = ((2 * i + 2 : Nat) : Int) := by omega
          have hjoin : ∀ k, (k = 2 * i + 1 ∨ k = 2 * i + 2) → k < last → (∀ y, c[k]? = some y → ∀ t z, 0 < t → (t - 1) / 2 = i → t < last → c[t]? = some z → y ≤ z) → (k = 2 * i + 1 ∨ k = 2 * i + 2) ∧ k < last ∧ ∀ y, c[k]? = some y → ∀ t z, 0 < t → (t - 1) / 2 = i → t < last → c[t]? = some z → y ≤ z := fun k a b d => ⟨a, b, d⟩
          refine Pick.by (fun hc2 => ?_) (fun hc2 => ?_)
          · have hch2 : 2 * i + 2 < last := by simp at hc2; omega
            obtain ⟨y2, hy2⟩ : ∃ y, c[2 * i + 2]? = some y := ⟨_, List.getElem?_eq_getElem (by have := hsf.len; omega)⟩
            refine Pick.T (inI64_of (by omega) (by omega)) ?_
            refine Idx.by (2 * i + 2) (by omega) (by omega) ?_
            refine Look.by _ (by rw [Nat.zero_add]; exact ints_get hy2) ?_
            refine Idx.by (2 * i + 1) (by omega) (by omega) ?_
            refine Look.by _ (by rw [Nat.zero_add]; exact ints_get hy1) ?_
            refine Seg.by (by kernel_rfl) ?_
            refine JoinP.intro (α := Nat) (fun k => (k = 2 * i + 1 ∨ k = 2 * i + 2) ∧ k < last ∧ ∀ y, c[k]? = some y → ∀ t z, 0 < t → (t - 1) / 2 = i → t < last → c[t]? = some z → y ≤ z) (fun k => [(0, .ptr 4 0), (3, .sl 5 none (some (0, last))), (4, .s (.i .i64 out)), (5, .s (.i .i64 last)), (6, .s (.i .i64 i)), (7, .s (.i .i64 k)), (1000002, .ptr 0 0), (1000003, .ptr 1 0), (1000004, .ptr 4 0), (1000006, .sl 6 none none)])
              (fun k => [(0, some (.blk [.nils, .nils, .nils])), (1, some (.blk [.sl 2 none none, .sl 3 none none])), (2, some (.nest true 1 (rowsI N) [] [])), (3, some (.flat true 1 (bools G))), (4, some (.blk [.sl 5 none none])), (5, some (.flat true 1 (ints c))), (6, some (.flat true 4 (stps st)))]) 7 ?_ ?_
            rotate_left
            · rintro k ⟨hkk, hkl, hM⟩
              obtain ⟨y, hy⟩ : ∃ y, c[k]? = some y := ⟨_, List.getElem?_eq_getElem (by have := hsf.len; omega)⟩
              have hmin := hM y hy
              refine Idx.by i rfl (by omega) ?_
              refine Look.by _ (by rw [Nat.zero_add]; exact ints_get hx) ?_
              refine Idx.by k rfl (by omega) ?_
              refine Look.by _ (by rw [Nat.zero_add]; exact ints_get hy) ?_
              refine Seg.by (by kernel_rfl) ?_
              refine Pick.by (fun hc4 => ?_) (fun hc4 => ?_)
              · have hle : x ≤ y := by simpa using hc4
                refine ⟨c, ⟨hcm, hsf.len, hsf.perm, sift_done hsf fun t u v ht htp hu hv => ?_⟩, by refine Weak.by [(0, some _), (1, some _), (2, some _), (3, some _), (4, some _), (5, some _), (6, some _)] (by ((repeat' first | exact rfl | exact trivial | refine And.intro ?_ ?_) <;> (repeat' first | exact rfl | exact trivial | refine And.intro ?_ ?_))) (by ((repeat' first | exact rfl | exact trivial | refine And.intro ?_ ?_) <;> (repeat' first | exact rfl | exact trivial | refine And.intro ?_ ?_))) (by rfl)⟩
                have htk : t < last := by
                  have := (List.getElem?_eq_some_iff.1 hv).1
                  rw [List.length_take] at this
                  omega
                rw [tk_get (by omega), hx] at hu
                injection hu with hu
                have := hmin t v ht htp htk (by rw [← tk_get htk]; exact hv)
                omega
              · have hlt : y < x := by simpa using hc4
                refine Idx.by k rfl (by omega) ?_
                refine Look.by _ (by rw [Nat.zero_add]; exact ints_get hy) ?_
                refine Idx.by i rfl (by omega) ?_
                refine Look.by _ (by rw [Nat.zero_add]; exact ints_get hx) ?_
                refine Idx.by i rfl (by omega) ?_
                refine Look.by _ (by rw [Nat.zero_add]; exact ints_get hx) ?_
                refine Idx.by k rfl (by omega) ?_
                refine Look.by _ (by rw [Nat.zero_add, Nat.zero_add, List.getElem?_set_ne (by omega)]; exact ints_get hy) ?_
                refine Seg.by (by kernel_rfl) ?_
                refine Next.by (k, (c.set i y).set k x) ⟨sift_step hsf (by omega) (by omega) hkl hx hy hlt hmin, by dsimp only; omega, by rw [List.length_set, List.length_set]; exact hcm⟩ (by dsimp only; omega) (by refine Weak.by [(0, some _), (1, some _), (2, some _), (3, some _), (4, some _), (5, some _), (6, some _)] (by ((repeat' first | exact rfl | exact trivial | refine And.intro ?_ ?_) <;> (repeat' first | exact rfl | exact trivial | refine And.intro ?_ ?_)); all_goals ((rw [Nat.zero_add, Nat.zero_add, ints_set, ints_set]; rfl))) (by ((repeat' first | exact rfl | exact trivial | refine And.intro ?_ ?_) <;> (repeat' first | exact rfl | exact trivial | refine And.intro ?_ ?_)); all_goals ((rw [Nat.zero_add, Nat.zero_add, ints_set, ints_set]; rfl))) (by rfl))
            refine Pick.by (fun hc3 => ?_) (fun hc3 => ?_)
            · have hlt2 : y2 < y1 := by simpa using hc3
              refine Pick.T (inI64_of (by omega) (by omega)) ?_
              refine ⟨2 * i + 2, hjoin _ (.inr rfl) hch2 fun y hy t z ht htp htl hz => ?_, by refine Weak.by [(0, some _), (1, some _), (2, some _), (3, some _), (4, some _), (5, some _), (6, some _)] (by ((repeat' first | exact rfl | exact trivial | refine And.intro ?_ ?_) <;> (repeat' first | exact rfl | exact trivial | refine And.intro ?_ ?_)); all_goals ((exact sc_eq hk2.symm))) (by ((repeat' first | exact rfl | exact trivial | refine And.intro ?_ ?_) <;> (repeat' first | exact rfl | exact trivial | refine And.intro ?_ ?_)); all_goals ((exact sc_eq hk2.symm))) (by rfl)⟩
              have : t = 2 * i + 1 ∨ t = 2 * i + 2 := by omega
              rcases this with rfl | rfl
              · rw [hy2] at hy; rw [hy1] at hz; injection hy with hy; injection hz with hz; omega
              · rw [hy] at hz; injection hz with hz; omega
            · have hlt2 : ¬ y2 < y1 := by simpa using hc3
              refine ⟨2 * i + 1, hjoin _ (.inl rfl) hch fun y hy t z ht htp htl hz => ?_, by refine Weak.by [(0, some _), (1, some _), (2, some _), (3, some _), (4, some _), (5, some _), (6, some _)] (by ((repeat' first | exact rfl | exact trivial | refine And.intro ?_ ?_) <;> (repeat' first | exact rfl | exact trivial | refine And.intro ?_ ?_)); all_goals ((exact sc_eq hk1.symm))) (by ((repeat' first | exact rfl | exact trivial | refine And.intro ?_ ?_) <;> (repeat' first | exact rfl | exact trivial | refine And.intro ?_ ?_)); all_goals ((exact sc_eq hk1.symm))) (by rfl)⟩
              have : t = 2 * i + 1 ∨ t = 2 * i + 2 := by omega
              rcases this with rfl | rfl
              · rw [hy] at hz; injection hz with hz; omega
              · rw [hy1] at hy; rw [hy2] at hz; injection hy with hy; injection hz with hz; omega
          · have hch2 : ¬ 2 * i + 2 < last := by simp at hc2; omega
            refine Seg.by (by kernel_rfl) ?_
            refine JoinP.intro (α := Nat) (fun k => (k = 2 * i + 1 ∨ k = 2 * i + 2) ∧ k < last ∧ ∀ y, c[k]? = some y → ∀ t z, 0 < t → (t - 1) / 2 = i → t < last → c[t]? = some z → y ≤ z) (fun k => [(0, .ptr 4 0), (3, .sl 5 none (some (0, last))), (4, .s (.i .i64 out)), (5, .s (.i .i64 last)), (6, .s (.i .i64 i)), (7, .s (.i .i64 k)), (1000002, .ptr 0 0), (1000003, .ptr 1 0), (1000004, .ptr 4 0), (1000006, .sl 6 none none)])
              (fun k => [(0, some (.blk [.nils, .nils, .nils])), (1, some (.blk [.sl 2 none none, .sl 3 none none])), (2, some (.nest true 1 (rowsI N) [] [])), (3, some (.flat true 1 (bools G))), (4, some (.blk [.sl 5 none none])), (5, some (.flat true 1 (ints c))), (6, some (.flat true 4 (stps st)))]) 7 ?_ ?_
            rotate_left
            · rintro k ⟨hkk, hkl, hM⟩
              obtain ⟨y, hy⟩ : ∃ y, c[k]? = some y := ⟨_, List.getElem?_eq_getElem (by have := hsf.len; omega)⟩
              have hmin := hM y hy
              refine Idx.by i rfl (by omega) ?_
              refine Look.by _ (by rw [Nat.zero_add]; exact ints_get hx) ?_
              refine Idx.by k rfl (by omega) ?_
              refine Look.by _ (by rw [Nat.zero_add]; exact ints_get hy) ?_
              refine Seg.by (by kernel_rfl) ?_
              refine Pick.by (fun hc4 => ?_) (fun hc4 => ?_)
              · have hle : x ≤ y := by simpa using hc4
                refine ⟨c, ⟨hcm, hsf.len, hsf.perm, sift_done hsf fun t u v ht htp hu hv => ?_⟩, by refine Weak.by [(0, some _), (1, some _), (2, some _), (3, some _), (4, some _), (5, some _), (6, some _)] (by ((repeat' first | exact rfl | exact trivial | refine And.intro ?_ ?_) <;> (repeat' first | exact rfl | exact trivial | refine And.intro ?_ ?_))) (by ((repeat' first | exact rfl | exact trivial | refine And.intro ?_ ?_) <;> (repeat' first | exact rfl | exact trivial | refine And.intro ?_ ?_))) (by rfl)⟩
                have htk : t < last := by
                  have := (List.getElem?_eq_some_iff.1 hv).1
                  rw [List.length_take] at this
                  omega
                rw [tk_get (by omega), hx] at hu
                injection hu with hu
                have := hmin t v ht htp htk (by rw [← tk_get htk]; exact hv)
                omega
              · have hlt : y < x := by simpa using hc4
                refine Idx.by k rfl (by omega) ?_
                refine Look.by _ (by rw [Nat.zero_add]; exact ints_get hy) ?_
                refine Idx.by i rfl (by omega) ?_
                refine Look.by _ (by rw [Nat.zero_add]; exact ints_get hx) ?_
                refine Idx.by i rfl (by omega) ?_
                refine Look.by _ (by rw [Nat.zero_add]; exact ints_get hx) ?_
                refine Idx.by k rfl (by omega) ?_
                refine Look.by _ (by rw [Nat.zero_add, Nat.zero_add, List.getElem?_set_ne (by omega)]; exact ints_get hy) ?_
                refine Seg.by (by kernel_rfl) ?_
                refine Next.by (k, (c.set i y).set k x) ⟨sift_step hsf (by omega) (by omega) hkl hx hy hlt hmin, by dsimp only; omega, by rw [List.length_set, List.length_set]; exact hcm⟩ (by dsimp only; omega) (by refine Weak.by [(0, some _), (1, some _), (2, some _), (3, some _), (4, some _), (5, some _), (6, some _)] (by ((repeat' first | exact rfl | exact trivial | refine And.intro ?_ ?_) <;> (repeat' first | exact rfl | exact trivial | refine And.intro ?_ ?_)); all_goals ((rw [Nat.zero_add, Nat.zero_add, ints_set, ints_set]; rfl))) (by ((repeat' first | exact rfl | exact trivial | refine And.intro ?_ ?_) <;> (repeat' first | exact rfl | exact trivial | refine And.intro ?_ ?_)); all_goals ((rw [Nat.zero_add, Nat.zero_add, ints_set, ints_set]; rfl))) (by rfl))
            refine ⟨2 * i + 1, hjoin _ (.inl rfl) hch fun y hy t z ht htp htl hz => ?_, by refine Weak.by [(0, some _), (1, some _), (2, some _), (3, some _), (4, some _), (5, some _), (6, some _)] (by ((repeat' first | exact rfl | exact trivial | refine And.intro ?_ ?_) <;> (repeat' first | exact rfl | exact trivial | refine And.intro ?_ ?_)); all_goals ((exact sc_eq hk1.symm))) (by ((repeat' first | exact rfl | exact trivial | refine And.intro ?_ ?_) <;> (repeat' first | exact rfl | exact trivial | refine And.intro ?_ ?_)); all_goals ((exact sc_eq hk1.symm))) (by rfl)⟩
            have : t = 2 * i + 1 := by omega
            rw [this, hy] at hz; injection hz with hz; omega
        · have hch : ¬ 2 * i + 1 < last := by simp at hc1; omega
          refine ⟨c, ⟨hcm, hsf.len, hsf.perm, sift_done hsf fun t u v ht htp hu hv => ?_⟩, by refine Weak.by [(0, some _), (1, some _), (2, some _), (3, some _), (4, some _), (5, some _), (6, some _)] (by ((repeat' first | exact rfl | exact trivial | refine And.intro ?_ ?_) <;> (repeat' first | exact rfl | exact trivial | refine And.intro ?_ ?_))) (by ((repeat' first | exact rfl | exact trivial | refine And.intro ?_ ?_) <;> (repeat' first | exact rfl | exact trivial | refine And.intro ?_ ?_))) (by rfl)⟩
          have := (List.getElem?_eq_some_iff.1 hv).1
          rw [List.length_take] at this
          omega
      · have hz : l.length = 0 := by rw [ints_length, hlm] at hc; simpa using hc
        have hno : ∀ u, mayB N G u ≠ true := fun u hu => by
          have := hm u hu
          rw [List.eq_nil_of_length_eq_zero hz] at this
          simp at this
        rw [runS_end (firstMay_none hno), List.append_nil] at hrun
        rw [hrun]
        have hst4 : st.length ≤ 1000 := by omega
        have hGN := hW.len
        have hmo := hW.most
        have hNL := rowsI_length N
        refine LoopP.intro (α := Nat) (fun j => j ≤ N.length) (fun j => N.length - j) (fun j => [(2, .ptr 2 0), (4, .ptr 1 0), (5, .ptr 3 0), (13, .sl 4 none none), (14, .s (.i .i64 N.length)), (15, .s (.i .i64 j)), (1000002, .ptr 0 0)])
          (fun j => [(0, some (.blk [.nils, .nils, .nils])), (1, some (.blk [.nils, .nils, .nils])), (2, some (.blk [.sl 4 none none, .sl 5 none none])), (3, some (.blk [.sl 6 none none, .sl 7 none none, .sl 8 none none])), (4, some (.nest true 1 (rowsI N) [] [])), (5, some (.flat true 1 (bools G))), (6, some (.flat true 4 (stps st))), (7, some (.flat true 1 (ints (leftK G j)))), (8, some (.flat true 2 (edges (edgesK N G j))))]) 9 0 (by omega) (by refine Weak.by [(0, some _), (1, some _), (2, some _), (3, some _), (4, some _), (5, some _), (6, some _), (7, none), (8, none)] (by ((repeat' first | exact rfl | exact trivial | refine And.intro ?_ ?_) <;> (repeat' first | exact rfl | exact trivial | refine And.intro ?_ ?_)); all_goals ((first | (rw [hNL]; rfl) | done))) (by ((repeat' first | exact rfl | exact trivial | refine And.intro ?_ ?_) <;> (repeat' first | exact rfl | exact trivial | refine And.intro ?_ ?_)); all_goals ((first | (rw [hNL]; rfl) | done))) (by rfl)) ?_
        rintro j hj
        have hlk := leftK_len G j
        have hek := edgesK_len hW j
        refine Pick.by (fun hd1 => ?_) (fun hd1 => ?_)
        · have hjl : j < N.length := by simpa using hd1
          have hgj : (bools G)[j]? = some [.b (G.getD j false)] := by
            refine bools_get ?_
            rw [List.getD_eq_getElem?_getD, List.getElem?_eq_getElem (by omega)]; rfl
          have hrj : (rowsI N)[j]? = some (ints (rowAt N j)) := by
            have := (rowAt_mem (N := N) (v := (j : Int)) (by omega) (by omega)).2
            exact rowsI_get this
          have hrl := hW.row_len (j : Int)
          refine Idx.by j rfl (by omega) ?_
          refine Pick.T (by rw [hNL]; simp; omega) ?_
          refine Idx.by j rfl (by rw [bools_length]; omega) ?_
          refine Look.by _ hgj ?_
          refine Pick.by (fun hd2 => ?_) (fun hd2 => ?_)
          · have hd2 : G.getD j false = true := hd2
            refine Pick.T (inI64_of (by omega) (by omega)) ?_
            refine Next.by (j + 1) (by omega) (by omega) (by refine Weak.by [(0, some _), (1, some _), (2, some _), (3, some _), (4, some _), (5, some _), (6, some _), (7, some _), (8, some _)] (by ((repeat' first | exact rfl | exact trivial | refine And.intro ?_ ?_) <;> (repeat' first | exact rfl | exact trivial | refine And.intro ?_ ?_)); all_goals ((first | (rw [leftK_succ, if_pos hd2, List.append_nil]) | (rw [edgesK_succ, if_pos hd2, List.append_nil])))) (by ((repeat' first | exact rfl | exact trivial | refine And.intro ?_ ?_) <;> (repeat' first | exact rfl | exact trivial | refine And.intro ?_ ?_)); all_goals ((first | (rw [leftK_succ, if_pos hd2, List.append_nil]) | (rw [edgesK_succ, if_pos hd2, List.append_nil])))) (by rfl))
          have hd2 : G.getD j false = false := hd2
          have hl1 : leftK G (j + 1) = leftK G j ++ [(j : Int)] := by rw [leftK_succ, if_neg (by rw [hd2]; simp)]
          have he1 : edgesK N G (j + 1) = edgesK N G j ++ outE N j := by rw [edgesK_succ, if_neg (by rw [hd2]; simp)]
          refine Pick.T (by simp [cut, ints_length]; omega) ?_
          refine Look.by _ hrj ?_
          refine LoopP.intro (α := Nat) (fun k => k ≤ (rowAt N j).length) (fun k => (rowAt N j).length - k) (fun k => [(2, .ptr 2 0), (4, .ptr 1 0), (5, .ptr 3 0), (6, .s (.i .i64 j)), (13, .sl 4 none none), (14, .s (.i .i64 N.length)), (15, .s (.i .i64 j)), (31, .sl 4 (some (j, 0)) none), (32, .s (.i .i64 (rowAt N j).length)), (33, .s (.i .i64 k)), (1000002, .ptr 0 0)])
            (fun k => [(0, some (.blk [.nils, .nils, .nils])), (1, some (.blk [.nils, .nils, .nils])), (2, some (.blk [.sl 4 none none, .sl 5 none none])), (3, some (.blk [.sl 6 none none, .sl 7 none none, .sl 8 none none])), (4, some (.nest true 1 (rowsI N) [] [])), (5, some (.flat true 1 (bools G))), (6, some (.flat true 4 (stps st))), (7, some (.flat true 1 (ints (leftK G (j + 1))))), (8, some (.flat true 2 (edges (edgesK N G j ++ (((rowAt N j).take k).filter fun x => decide (x > (j : Int))).map fun x => ((j : Int), x)))))]) 9 0 (by omega) (by refine Weak.by [(0, some _), (1, some _), (2, some _), (3, some _), (4, some _), (5, some _), (6, some _), (7, some _), (8, some _)] (by ((repeat' first | exact rfl | exact trivial | refine And.intro ?_ ?_) <;> (repeat' first | exact rfl | exact trivial | refine And.intro ?_ ?_)); all_goals ((first | (rw [hl1, ints_snoc]; rfl) | (rw [List.take_zero]; simp; done) | (rw [ints_length]; rfl) | (simp; done)))) (by ((repeat' first | exact rfl | exact trivial | refine And.intro ?_ ?_) <;> (repeat' first | exact rfl | exact trivial | refine And.intro ?_ ?_)); all_goals ((first | (rw [hl1, ints_snoc]; rfl) | (rw [List.take_zero]; simp; done) | (rw [ints_length]; rfl) | (simp; done)))) (by rfl)) ?_
          rintro k hk
          have hpl : ((((rowAt N j).take k).filter fun x => decide (x > (j : Int))).map fun x => ((j : Int), x)).length ≤ 1000 := by
            rw [List.length_map]
            refine Nat.le_trans (List.length_filter_le _ _) ?_
            rw [List.length_take]; omega
          refine Pick.by (fun hd3 => ?_) (fun hd3 => ?_)
          · have hkl : k < (rowAt N j).length := by simpa using hd3
            obtain ⟨x, hx⟩ : ∃ x, (rowAt N j)[k]? = some x := ⟨_, List.getElem?_eq_getElem hkl⟩
            have hxe : (rowAt N j)[k] = x := by rw [List.getElem?_eq_getElem hkl] at hx; injection hx
            refine Look.by _ hrj ?_
            refine Idx.by k rfl (by rw [ints_length]; exact hkl) ?_
            refine Look.by _ hrj ?_
            refine Look.by _ (ints_get hx) ?_
            refine Pick.by (fun hd4 => ?_) (fun hd4 => ?_)
            · have hd4 : x > (j : Int) := by simpa using hd4
              refine Pick.T (by simp [cut, edges_length] at hpl ⊢; omega) ?_
              refine Pick.T (inI64_of (by omega) (by omega)) ?_
              refine Next.by (k + 1) (by omega) (by omega) (by refine Weak.by [(0, some _), (1, some _), (2, some _), (3, some _), (4, some _), (5, some _), (6, some _), (7, some _), (8, some _)] (by ((repeat' first | exact rfl | exact trivial | refine And.intro ?_ ?_) <;> (repeat' first | exact rfl | exact trivial | refine And.intro ?_ ?_)); all_goals ((first | (rw [List.take_succ_eq_append_getElem hkl, hxe, List.filter_append, List.map_append, List.filter_cons, if_pos (by simpa using hd4), List.filter_nil, ← List.append_assoc]; exact edges_snoc _ _) | (simp; done)))) (by ((repeat' first | exact rfl | exact trivial | refine And.intro ?_ ?_) <;> (repeat' first | exact rfl | exact trivial | refine And.intro ?_ ?_)); all_goals ((first | (rw [List.take_succ_eq_append_getElem hkl, hxe, List.filter_append, List.map_append, List.filter_cons, if_pos (by simpa using hd4), List.filter_nil, ← List.append_assoc]; exact edges_snoc _ _) | (simp; done)))) (by rfl))
            · have hd4 : ¬ x > (j : Int) := by simpa using hd4
              refine Pick.T (inI64_of (by omega) (by omega)) ?_
              refine Next.by (k + 1) (by omega) (by omega) (by refine Weak.by [(0, some _), (1, some _), (2, some _), (3, some _), (4, some _), (5, some _), (6, some _), (7, some _), (8, some _)] (by ((repeat' first | exact rfl | exact trivial | refine And.intro ?_ ?_) <;> (repeat' first | exact rfl | exact trivial | refine And.intro ?_ ?_)); all_goals ((first | (rw [List.take_succ_eq_append_getElem hkl, hxe, List.filter_append, List.map_append, List.filter_cons, if_neg (by simpa using hd4), List.filter_nil, List.map_nil, List.append_nil]) | (simp; done)))) (by ((repeat' first | exact rfl | exact trivial | refine And.intro ?_ ?_) <;> (repeat' first | exact rfl | exact trivial | refine And.intro ?_ ?_)); all_goals ((first | (rw [List.take_succ_eq_append_getElem hkl, hxe, List.filter_append, List.map_append, List.filter_cons, if_neg (by simpa using hd4), List.filter_nil, List.map_nil, List.append_nil]) | (simp; done)))) (by rfl))
          · have hkl : k = (rowAt N j).length := by simp at hd3; omega
            have hfull : edgesK N G (j + 1) = edgesK N G j ++ (((rowAt N j).take k).filter fun x => decide (x > (j : Int))).map fun x => ((j : Int), x) := by rw [he1, hkl, List.take_length]; rfl
            refine Pick.T (inI64_of (by omega) (by omega)) ?_
            refine Next.by (j + 1) (by omega) (by omega) (by refine Weak.by [(0, some _), (1, some _), (2, some _), (3, some _), (4, some _), (5, some _), (6, some _), (7, some _), (8, some _)] (by ((repeat' first | exact rfl | exact trivial | refine And.intro ?_ ?_) <;> (repeat' first | exact rfl | exact trivial | refine And.intro ?_ ?_)); all_goals ((rw [hfull]))) (by ((repeat' first | exact rfl | exact trivial | refine And.intro ?_ ?_) <;> (repeat' first | exact rfl | exact trivial | refine And.intro ?_ ?_)); all_goals ((rw [hfull]))) (by rfl))
        have hjl : j = N.length := by simp at hd1; omega
        subst hjl
        have e1 : leftF G = leftK G N.length := by unfold leftF leftK; rw [hGN]
        have e2 : edgesF N G = edgesK N G N.length := by unfold edgesF edgesK; rw [e1]
        refine ⟨rfl, ?_⟩
        (repeat' first | exact rfl | exact trivial | refine And.intro ?_ ?_)
        all_goals (first | exact congrArg ints e1 | exact congrArg edges e2)
    · have hlm : m.take L = cut (some (0, L)) m := rfl
      generalize cut (some (0, L)) m = l at *
      have hLl : l.length = L := by rw [← hlm, List.length_take]; omega
      have hget : ∀ j, j < L → l[j]? = m[j]? := fun j hj => by rw [← hlm, List.getElem?_take, if_pos hj]
      refine Pick.by (fun hc => ?_) (fun hc => ?_)
      · have hpos : 0 < l.length := by rw [hLl]; simpa using hc
        obtain ⟨out, hout⟩ : ∃ a, l[0]? = some a := ⟨_, List.getElem?_eq_getElem hpos⟩
        obtain ⟨last, hlst⟩ : ∃ k, l.length = k + 1 := ⟨l.length - 1, by omega⟩
        obtain ⟨top, htop⟩ : ∃ a, l[last]? = some a := ⟨_, List.getElem?_eq_getElem (by omega)⟩
        have hlast : (L : Int) - 1 = (last : Int) := by omega
        have hout2 : m[0]? = some out := by rw [← hget 0 (by omega)]; exact hout
        have htop2 : m[last]? = some top := by rw [← hget last (by omega)]; exact htop
        have hsift : Sift l out last (m.set 0 top) 0 := by
          have e : (m.set 0 top).take last = (l.set 0 top).take last := by
            rw [← hlm, List.take_set, List.take_set, List.take_take, Nat.min_eq_left (by omega)]
          exact ⟨by rw [List.length_set]; omega, by rw [e]; exact take_perm hout htop hlst, by rw [e]; exact dn_start hH _⟩
        refine Idx.by 0 rfl (by omega) ?_
        refine Look.by _ (ints_get hout2) ?_
        refine Pick.T (by rw [hlast]; exact inI64_of (by omega) (by omega)) ?_
        refine Idx.by last hlast (by omega) ?_
        refine Look.by _ (by rw [Nat.zero_add]; exact ints_get htop2) ?_
        refine Idx.by 0 rfl (by omega) ?_
        refine Look.by _ (ints_get hout2) ?_
        refine Rng.by 0 last rfl hlast (by omega) (by omega) ?_
        refine JoinP.intro (α := List Int) (fun c => c.length = m.length ∧ last ≤ c.length ∧ (out :: c.take last).Perm l ∧ Heap (c.take last)) (fun c => [(0, .ptr 4 0), (3, .sl 5 none (some (0, last))), (4, .s (.i .i64 out)), (1000002, .ptr 0 0), (1000003, .ptr 1 0), (1000004, .ptr 4 0), (1000006, .sl 6 none none)])
          (fun c => [(0, some (.blk [.nils, .nils, .nils])), (1, some (.blk [.sl 2 none none, .sl 3 none none])), (2, some (.nest true 1 (rowsI N) [] [])), (3, some (.flat true 1 (bools G))), (4, some (.blk [.sl 5 none (some (0, L))])), (5, some (.flat true 1 (ints c))), (6, some (.flat true 4 (stps st)))]) 7 ?_ ?_
        rotate_left
        · rintro c ⟨hcm, hlc, hperm, hHc⟩
          have hGN := hW.len
          have hq0 : ∀ v, v ∈ c.take last → v ∈ l := fun v hv => hperm.mem_iff.1 (List.mem_cons_of_mem _ hv)
          have hq1 : ∀ v, v ∈ l → v = out ∨ v ∈ c.take last := fun v hv => by simpa using hperm.mem_iff.2 hv
          have hqr : ∀ v ∈ c.take last, 0 ≤ v ∧ v < n := fun v hv => hr v (hq0 v hv)
          have hqc : cut (some (0, last)) c = c.take last := rfl
          have hqlen : (c.take last).length = last := by rw [List.length_take]; omega
          have hor := hr out (List.mem_of_getElem? hout)
          refine Call.by _ _ (MayC_at out hGN) ?_
          refine Pick.by (fun hmy => ?_) (fun hmy => ?_)
          · have hmy : mayB N G out = false := by have hmy : (!mayB N G out) = true := hmy; simpa using hmy
            refine Next.by (st, N, G, some (0, last), c) ⟨hW, hNl, hrun, hlive, .inr ⟨last, rfl, hlc⟩, by dsimp only; omega, by dsimp only; rw [hqc]; omega, hHc, hqr, fun v hv => ?_⟩ (by dsimp only; rw [hqc]; omega) (by refine Weak.by [(0, some _), (1, some _), (2, some _), (3, some _), (4, some _), (5, some _), (6, some _)] (by ((repeat' first | exact rfl | exact trivial | refine And.intro ?_ ?_) <;> (repeat' first | exact rfl | exact trivial | refine And.intro ?_ ?_))) (by ((repeat' first | exact rfl | exact trivial | refine And.intro ?_ ?_) <;> (repeat' first | exact rfl | exact trivial | refine And.intro ?_ ?_))) (by rfl))
            rcases hq1 v (hm v hv) with e | e
            · rw [e, hmy] at hv; cases hv
            · exact e
          have hmy : mayB N G out = true := by have hmy : (!mayB N G out) = false := hmy; simpa using hmy
          have hmp := mayB_iff.1 hmy
          obtain ⟨hs1, hs2⟩ := step_two hW hmp rfl
          refine Call.by _ _ (StepC_at ⟨hW, hmp.lo, hmp.hi⟩) ?_
          have hlo := hmp.lo
          have hhi := hmp.hi
          have hrv := hW.rows out
          have hnd : (rowAt N out).Nodup := hrv.1.imp fun hab => by omega
          have hNL := rowsI_length N
          have hmo := hW.most
          have hrl := hW.row_len out
          have hgv : (rowsI N)[(out).toNat]? = some (ints (rowAt N out)) := rowsI_get (rowAt_mem hlo hhi).2
          have hvv : out ∉ rowAt N out := hW.irr out hlo
          have hpart : ∀ (di : Nat) (u : Int), 0 ≤ u → rowAt (((rowAt N out).take di).foldl (cutF out) N) u = if u ∈ (rowAt N out).take di then (rowAt N u).erase out else rowAt N u := fun di u hu => cuts_row (hnd.sublist (List.take_sublist _ _)) (fun x hx => hrv.2 x (List.mem_of_mem_take hx)) hu
          have hplen : ∀ di : Nat, (rowsI (((rowAt N out).take di).foldl (cutF out) N)).length = N.length := fun di => by rw [rowsI_length, cuts_length]
          have hpget : ∀ (di : Nat) (u : Int), 0 ≤ u → u < N.length → (rowsI (((rowAt N out).take di).foldl (cutF out) N))[u.toNat]? = some (ints (rowAt (((rowAt N out).take di).foldl (cutF out) N) u)) := fun di u h0 h1 => rowsI_get (rowAt_mem h0 (by rw [cuts_length]; exact h1)).2
          refine Idx.by (out).toNat (by show (out : Int) = _; omega) (by omega) ?_
          refine Pick.T (by rw [hNL]; simp; omega) ?_
          refine Look.by _ hgv ?_
          refine LoopP.intro (α := Nat) (fun di => di ≤ (rowAt N out).length) (fun di => (rowAt N out).length - di) (fun di => [(2, .ptr 8 0), (3, .ptr 9 0), (11, .sl 2 (some ((out).toNat, 0)) none), (12, .s (.i .i64 (rowAt N out).length)), (13, .s (.i .i64 di)), (1000002, .ptr 0 0), (1000003, .ptr 1 0), (1000004, .ptr 4 0), (1000006, .sl 6 none none), (1000008, .ptr 7 0)])
            (fun di => [(0, some (.blk [.nils, .nils, .nils])), (1, some (.blk [.sl 2 none none, .sl 3 none none])), (4, some (.blk [.sl 5 none (some (0, last))])), (5, some (.flat true 1 (ints c))), (6, some (.flat true 4 (stps st))), (7, some (.blk [.s (.i .i64 (stepF N out).1), .s (.i .i64 (stepF N out).2.1), .s (.i .i64 (stepF N out).2.2.1), .s (.b (stepF N out).2.2.2)])), (2, some (.nest true 1 (rowsI (((rowAt N out).take di).foldl (cutF out) N)) [] [])), (3, some (.flat true 1 (bools G))), (8, some (.blk [.sl 2 none none, .sl 3 none none])), (9, some (.blk [.s (.i .i64 (stepF N out).1), .s (.i .i64 (stepF N out).2.1), .s (.i .i64 (stepF N out).2.2.1), .s (.b (stepF N out).2.2.2)]))]) 10 0 (by omega) (by refine Weak.by [(0, some _), (1, some _), (2, some _), (3, some _), (4, some _), (5, some _), (6, some _), (7, some _), (8, some _), (9, some _)] (by ((repeat' first | exact rfl | exact trivial | refine And.intro ?_ ?_) <;> (repeat' first | exact rfl | exact trivial | refine And.intro ?_ ?_)); all_goals ((first | (rw [ints_length]; rfl) | (simp; done)))) (by ((repeat' first | exact rfl | exact trivial | refine And.intro ?_ ?_) <;> (repeat' first | exact rfl | exact trivial | refine And.intro ?_ ?_)); all_goals ((first | (rw [ints_length]; rfl) | (simp; done)))) (by rfl)) ?_
          rintro di hi
          refine Pick.by (fun hc1 => ?_) (fun hc1 => ?_)
          · have hil : di < (rowAt N out).length := by simpa using hc1
            obtain ⟨x, hx⟩ : ∃ x, (rowAt N out)[di]? = some x := ⟨_, List.getElem?_eq_getElem hil⟩
            have hxm := List.mem_of_getElem? hx
            have hxr := hrv.2 x hxm
            have hxv : x ≠ out := fun e => hvv (e ▸ hxm)
            have hgi : (rowsI (((rowAt N out).take di).foldl (cutF out) N))[(out).toNat]? = some (ints (rowAt N out)) := by
              rw [hpget di out hlo hhi, hpart di out hlo, if_neg fun h => hvv (List.mem_of_mem_take h)]
            have hrx := hpget di x hxr.1 hxr.2
            have hstp : ((rowAt N out).take (di + 1)).foldl (cutF out) N = cutF out (((rowAt N out).take di).foldl (cutF out) N) x := by
              rw [List.take_succ_eq_append_getElem hil, List.foldl_append]
              have : (rowAt N out)[di] = x := by rw [List.getElem?_eq_getElem hil] at hx; injection hx
              rw [this]; rfl
            have hwx : (rowAt (((rowAt N out).take di).foldl (cutF out) N) x).Pairwise (· ≤ ·) ∧ (rowAt (((rowAt N out).take di).foldl (cutF out) N) x).length ≤ 1000000 := by
              have h1 := hW.rows x
              have h2 := hW.row_len x
              rw [hpart di x hxr.1]
              split
              · have h3 := List.length_erase_le (l := rowAt N x) (a := out)
                exact ⟨(erase_sorted h1.1).imp fun h => by omega, by omega⟩
              · exact ⟨h1.1.imp fun h => by omega, by omega⟩
            have hpl := hplen di
            refine Look.by _ hgi ?_
            refine Idx.by di rfl (by rw [ints_length]; exact hil) ?_
            refine Look.by _ hgi ?_
            refine Look.by _ (ints_get hx) ?_
            refine Idx.by x.toNat (by omega) (by omega) ?_
            refine Pick.T (by rw [hpl]; simp; omega) ?_
            refine Look.by _ hrx ?_
            refine Call.by _ _ (turnC_at hwx) ?_
            refine Idx.by x.toNat (by omega) (by omega) ?_
            refine Pick.T (by rw [hpl]; simp; omega) ?_
            refine Pick.T (by simp) ?_
            refine Seg.by (by kernel_rfl) ?_
            refine Pick.T (inI64_of (by omega) (by omega)) ?_
            refine Next.by (di + 1) (by omega) (by omega) (by refine Weak.by [(0, some _), (1, some _), (2, some _), (3, some _), (4, some _), (5, some _), (6, some _), (7, some _), (8, some _), (9, some _)] (by ((repeat' first | exact rfl | exact trivial | refine And.intro ?_ ?_) <;> (repeat' first | exact rfl | exact trivial | refine And.intro ?_ ?_)); all_goals ((first | (rw [hstp]; unfold cutF; rw [rowsI_set]; rfl) | (simp; done) | (simp; omega)))) (by ((repeat' first | exact rfl | exact trivial | refine And.intro ?_ ?_) <;> (repeat' first | exact rfl | exact trivial | refine And.intro ?_ ?_)); all_goals ((first | (rw [hstp]; unfold cutF; rw [rowsI_set]; rfl) | (simp; done) | (simp; omega)))) (by rfl))
          have hil : di = (rowAt N out).length := by simp at hc1; omega
          subst hil
          rw [List.take_length]
          have hN1 : ∀ u : Int, 0 ≤ u → rowAt ((rowAt N out).foldl (cutF out) N) u = (rowAt N u).erase out := fun u hu => by
            rw [cuts_row hnd hrv.2 hu]
            split
            · rfl
            · rename_i hno
              rw [List.erase_of_not_mem]
              exact fun h => hno (hW.sym u out hu hlo h)
          have hl1 : (rowsI ((rowAt N out).foldl (cutF out) N)).length = N.length := by rw [rowsI_length, cuts_length]
          refine JoinP.intro (α := Unit) (fun _ => True) (fun _ => [(2, .ptr 8 0), (3, .ptr 9 0), (1000002, .ptr 0 0), (1000003, .ptr 1 0), (1000004, .ptr 4 0), (1000006, .sl 6 none none), (1000008, .ptr 7 0)])
            (fun _ => [(0, some (.blk [.nils, .nils, .nils])), (1, some (.blk [.sl 2 none none, .sl 3 none none])), (4, some (.blk [.sl 5 none (some (0, last))])), (5, some (.flat true 1 (ints c))), (6, some (.flat true 4 (stps st))), (7, some (.blk [.s (.i .i64 (stepF N out).1), .s (.i .i64 (stepF N out).2.1), .s (.i .i64 (stepF N out).2.2.1), .s (.b (stepF N out).2.2.2)])), (2, some (.nest true 1 (rowsI (if (stepF N out).2.2.2 then joinF (joinF ((rowAt N out).foldl (cutF out) N) (stepF N out).2.1 (stepF N out).2.2.1) (stepF N out).2.2.1 (stepF N out).2.1 else (rowAt N out).foldl (cutF out) N)) [] [])), (3, some (.flat true 1 (bools G))), (8, some (.blk [.sl 2 none none, .sl 3 none none])), (9, some (.blk [.s (.i .i64 (stepF N out).1), .s (.i .i64 (stepF N out).2.1), .s (.i .i64 (stepF N out).2.2.1), .s (.b (stepF N out).2.2.2)]))]) 10 ?_ ?_
          rotate_left
          · rintro ⟨⟩ -
            have hl2 : (rowsI (if (stepF N out).2.2.2 then joinF (joinF ((rowAt N out).foldl (cutF out) N) (stepF N out).2.1 (stepF N out).2.2.1) (stepF N out).2.2.1 (stepF N out).2.1 else (rowAt N out).foldl (cutF out) N)).length = N.length := by
              rw [rowsI_length]
              split
              · rw [joinF_length, joinF_length, cuts_length]
              · rw [cuts_length]
            have hdo : (rowsI (if (stepF N out).2.2.2 then joinF (joinF ((rowAt N out).foldl (cutF out) N) (stepF N out).2.1 (stepF N out).2.2.1) (stepF N out).2.2.1 (stepF N out).2.1 else (rowAt N out).foldl (cutF out) N)).set (out).toNat [] = rowsI (doN N (stepF N out)) := by
              unfold doN
              rw [rowsI_set]; rfl
            have hdg : (bools G).set (out).toNat [.b true] = bools (doG G (stepF N out)) := by
              unfold doG bools
              rw [List.map_set]; rfl
            generalize rowsI (if (stepF N out).2.2.2 then joinF (joinF ((rowAt N out).foldl (cutF out) N) (stepF N out).2.1 (stepF N out).2.2.1) (stepF N out).2.2.1 (stepF N out).2.1 else (rowAt N out).foldl (cutF out) N) = RR at hl2 hdo ⊢
            refine Idx.by (out).toNat (by show (out : Int) = _; omega) (by omega) ?_
            refine Pick.T (by rw [hl2]; simp; omega) ?_
            refine Idx.by (out).toNat (by show (out : Int) = _; omega) (by rw [bools_length, hW.len]; omega) ?_
            refine Look.by _ (bools_get (goneAt_get hW.len hlo hhi)) ?_
            refine Seg.by (by kernel_rfl) ?_
            have hW2 := do_wf hW hmp
            have hNl2 : (doN N (stepF N out)).length = n.toNat := by rw [doN_length]; exact hNl
            have hGN2 : (doG G (stepF N out)).length = (doN N (stepF N out)).length := hW2.len
            have hlv := live_step hW hmp
            have hst4 : st.length + 1 ≤ n.toNat := by omega
            have hrun2 := run_step hrun hW hmy hst4 (fun v hv => heap_least hHc hH hout hperm hm hv)
            have hmay2 : ∀ v, mayB (doN N (stepF N out)) (doG G (stepF N out)) v = true → v ∈ c.take last ∨ v = (stepF N out).2.1 ∨ v = (stepF N out).2.2.1 := fun v hv => may_step hW hmp hs2 hv fun h2 hne => (hq1 v (hm v h2)).elim (fun e => absurd e hne) id
            generalize hN2 : doN N (stepF N out) = N2 at *
            generalize hG2 : doG G (stepF N out) = G2 at *
            generalize hsG : stepF N out = s at *
            refine Pick.T (by simp [cut, stps_length]; omega) ?_
            refine LoopP.intro (α := Nat × Option (Nat × Nat) × List Int) (fun a => a.1 ≤ 2 ∧ (a.2.1 = none ∨ ∃ L, a.2.1 = some (0, L) ∧ L ≤ a.2.2.length) ∧ a.2.2.length ≤ 4000 ∧ (cut a.2.1 a.2.2).length ≤ last + a.1 ∧ Heap (cut a.2.1 a.2.2) ∧ (∀ v ∈ cut a.2.1 a.2.2, 0 ≤ v ∧ v < n) ∧ ∀ v : Int, mayB N2 G2 v = true → v ∈ cut a.2.1 a.2.2 ∨ (a.1 ≤ 0 ∧ v = s.2.1) ∨ (a.1 ≤ 1 ∧ v = s.2.2.1)) (fun a => 2 - a.1) (fun a => [(2, .ptr 0 0), (3, .ptr 1 0), (4, .ptr 4 0), (6, .sl 6 none none), (51, .sl 7 none none), (52, .s (.i .i64 2)), (53, .s (.i .i64 a.1))])
              (fun a => [(0, some (.blk [.nils, .nils, .nils])), (1, some (.blk [.sl 2 none none, .sl 3 none none])), (2, some (.nest true 1 (rowsI N2) [] [])), (3, some (.flat true 1 (bools G2))), (4, some (.blk [.sl 5 none a.2.1])), (5, some (.flat true 1 (ints a.2.2))), (6, some (.flat true 4 (stps (st ++ [s])))), (7, some (.flat true 1 (ints [s.2.1, s.2.2.1])))]) 8 (0, some (0, last), c)
              ⟨by dsimp only; omega, .inr ⟨last, rfl, hlc⟩, by dsimp only; omega, by dsimp only; rw [hqc]; omega, hHc, hqr, fun v hv => (hmay2 v hv).elim .inl fun h => h.elim (fun h => .inr (.inl ⟨by dsimp only; omega, h⟩)) fun h => .inr (.inr ⟨by dsimp only; omega, h⟩)⟩ (by refine Weak.by [(0, some _), (1, some _), (2, some _), (3, some _), (4, some _), (5, some _), (6, some _), (7, some _)] (by ((repeat' first | exact rfl | exact trivial | refine And.intro ?_ ?_) <;> (repeat' first | exact rfl | exact trivial | refine And.intro ?_ ?_)); all_goals ((first | (exact stps_snoc st s) | (exact hdo.symm) | (exact hdg.symm)))) (by ((repeat' first | exact rfl | exact trivial | refine And.intro ?_ ?_) <;> (repeat' first | exact rfl | exact trivial | refine And.intro ?_ ?_)); all_goals ((first | (exact stps_snoc st s) | (exact hdo.symm) | (exact hdg.symm)))) (by rfl)) ?_
            rintro ⟨i, sub2, m2⟩ ⟨hi2, hsub2, hm24, hcl2, hH2, hr2, hmv2⟩
            dsimp only at hi2 hsub2 hm24 hcl2 hH2 hr2 hmv2 ⊢
            refine Pick.by (fun hc5 => ?_) (fun hc5 => ?_)
            · have hi3 : i < 2 := by simp at hc5; omega
              obtain ⟨x, hx⟩ : ∃ x, [s.2.1, s.2.2.1][i]? = some x := ⟨_, List.getElem?_eq_getElem (show i < [s.2.1, s.2.2.1].length from hi3)⟩
              have hxi : (i = 0 ∧ x = s.2.1) ∨ (i = 1 ∧ x = s.2.2.1) := by
                have : i = 0 ∨ i = 1 := by omega
                rcases this with e | e
                · subst e; simp at hx; exact .inl ⟨rfl, hx.symm⟩
                · subst e; simp at hx; exact .inr ⟨rfl, hx.symm⟩
              refine Idx.by i rfl (by rw [ints_length]; exact hi3) ?_
              refine Look.by _ (ints_get hx) ?_
              refine Call.by _ _ (MayC_at x hGN2) ?_
              refine JoinP.intro (α := Option (Nat × Nat) × List Int) (fun b => (b.1 = none ∨ ∃ L, b.1 = some (0, L) ∧ L ≤ b.2.length) ∧ b.2.length ≤ 4000 ∧ (cut b.1 b.2).length ≤ last + i + 1 ∧ Heap (cut b.1 b.2) ∧ (∀ v ∈ cut b.1 b.2, 0 ≤ v ∧ v < n) ∧ ∀ v : Int, mayB N2 G2 v = true → v ∈ cut b.1 b.2 ∨ (i + 1 ≤ 0 ∧ v = s.2.1) ∨ (i + 1 ≤ 1 ∧ v = s.2.2.1)) (fun b => [(2, .ptr 0 0), (3, .ptr 1 0), (4, .ptr 4 0), (6, .sl 6 none none), (51, .sl 7 none none), (52, .s (.i .i64 2)), (53, .s (.i .i64 i))])
                (fun b => [(0, some (.blk [.nils, .nils, .nils])), (1, some (.blk [.sl 2 none none, .sl 3 none none])), (2, some (.nest true 1 (rowsI N2) [] [])), (3, some (.flat true 1 (bools G2))), (4, some (.blk [.sl 5 none b.1])), (5, some (.flat true 1 (ints b.2))), (6, some (.flat true 4 (stps (st ++ [s])))), (7, some (.flat true 1 (ints [s.2.1, s.2.2.1])))]) 8 ?_ ?_
              rotate_left
              · rintro ⟨sub3, m3⟩ hJ
                refine Pick.T (inI64_of (by omega) (by omega)) ?_
                exact Next.by (i + 1, sub3, m3) ⟨by dsimp only; omega, hJ⟩ (by dsimp only; omega) (by refine Weak.by [(0, some _), (1, some _), (2, some _), (3, some _), (4, some _), (5, some _), (6, some _), (7, some _)] (by ((repeat' first | exact rfl | exact trivial | refine And.intro ?_ ?_) <;> (repeat' first | exact rfl | exact trivial | refine And.intro ?_ ?_))) (by ((repeat' first | exact rfl | exact trivial | refine And.intro ?_ ?_) <;> (repeat' first | exact rfl | exact trivial | refine And.intro ?_ ?_))) (by rfl))
              refine Pick.by (fun hc6 => ?_) (fun hc6 => ?_)
              · have hc6 : mayB N2 G2 x = true := hc6
                have hxr2 : 0 ≤ x ∧ x < n := may_range hNl2 hc6
                have hH := hH2
                refine Pick.T (by simp [cut, ints_length]; omega) ?_
                have hraw : cut sub2 (ints m2) = ints (cut sub2 m2) := cut_ints
                have hlen0 : (cut sub2 (ints m2) ++ [[Sc.i .i64 x]]) = ints ((cut sub2 m2) ++ [x]) := by rw [hraw, ints_snoc]
                refine Pick.T (by show inI64 ((((cut sub2 (ints m2) ++ [[Sc.i .i64 x]]).length : Nat) : Int) - 1) = true; rw [hlen0, ints_length]; simp; exact inI64_of (by omega) (by omega)) ?_
                have hlen1 : (((cut sub2 m2).length : Nat) : Int) = (((cut sub2 (ints m2) ++ [[Sc.i .i64 x]]).length : Nat) : Int) - 1 := by rw [hlen0, ints_length]; simp
                refine JoinP.intro (α := List Int) (fun a => Heap a ∧ a.length = (cut sub2 m2).length + 1 ∧ ∀ v, v ∈ a ↔ v ∈ (cut sub2 m2) ∨ v = x) (fun a => [(0, .ptr 4 0), (4, .sl 8 none none), (1000002, .ptr 0 0), (1000003, .ptr 1 0), (1000004, .ptr 4 0), (1000006, .sl 6 none none), (1000051, .sl 7 none none), (1000052, .s (.i .i64 2)), (1000053, .s (.i .i64 i))])
                  (fun a => [(0, some (.blk [.nils, .nils, .nils])), (1, some (.blk [.sl 2 none none, .sl 3 none none])), (2, some (.nest true 1 (rowsI N2) [] [])), (3, some (.flat true 1 (bools G2))), (4, some (.blk [.sl 5 none sub2])), (6, some (.flat true 4 (stps (st ++ [s])))), (7, some (.flat true 1 (ints [s.2.1, s.2.2.1]))), (8, some (.flat true 1 (ints a)))]) 9 ?_ ?_
                rotate_left
                · rintro m ⟨hHm, hml2, hmem⟩
                  exact ⟨(none, m), ⟨.inl rfl, by dsimp only; omega, by show m.length ≤ _; omega, hHm, fun v hv => ((hmem v).1 hv).elim (hr2 v) fun e => by rw [e]; exact hxr2, fun v hv => put_may hxi (hmem v).2 (hmv2 v hv)⟩, by refine Weak.by [(0, some _), (1, some _), (2, some _), (3, some _), (4, some _), (5, some _), (6, some _), (7, some _)] (by ((repeat' first | exact rfl | exact trivial | refine And.intro ?_ ?_) <;> (repeat' first | exact rfl | exact trivial | refine And.intro ?_ ?_))) (by ((repeat' first | exact rfl | exact trivial | refine And.intro ?_ ?_) <;> (repeat' first | exact rfl | exact trivial | refine And.intro ?_ ?_))) (by rfl)⟩
                refine LoopP.intro (α := Nat × List Int) (fun a => a.2.Perm ((cut sub2 m2) ++ [x]) ∧ HUp a.2 a.1 ∧ a.1 < a.2.length) (fun a => a.1) (fun a => [(0, .ptr 4 0), (4, .sl 8 none none), (5, .s (.i .i64 a.1)), (1000002, .ptr 0 0), (1000003, .ptr 1 0), (1000004, .ptr 4 0), (1000006, .sl 6 none none), (1000051, .sl 7 none none), (1000052, .s (.i .i64 2)), (1000053, .s (.i .i64 i))])
                  (fun a => [(0, some (.blk [.nils, .nils, .nils])), (1, some (.blk [.sl 2 none none, .sl 3 none none])), (2, some (.nest true 1 (rowsI N2) [] [])), (3, some (.flat true 1 (bools G2))), (4, some (.blk [.sl 5 none sub2])), (6, some (.flat true 4 (stps (st ++ [s])))), (7, some (.flat true 1 (ints [s.2.1, s.2.2.1]))), (8, some (.flat true 1 (ints a.2)))]) 9 ((cut sub2 m2).length, (cut sub2 m2) ++ [x]) ⟨List.Perm.refl _, up_start hH _, by simp⟩ (by refine Weak.by [(0, some _), (1, some _), (2, some _), (3, some _), (4, some _), (5, some _), (6, some _), (7, some _), (8, some _)] (by ((repeat' first | exact rfl | exact trivial | refine And.intro ?_ ?_) <;> (repeat' first | exact rfl | exact trivial | refine And.intro ?_ ?_)); all_goals ((first | (exact hlen0.symm) | (exact sc_eq hlen1)))) (by ((repeat' first | exact rfl | exact trivial | refine And.intro ?_ ?_) <;> (repeat' first | exact rfl | exact trivial | refine And.intro ?_ ?_)); all_goals ((first | (exact hlen0.symm) | (exact sc_eq hlen1)))) (by rfl)) ?_
                rintro ⟨p, m⟩ ⟨hperm, hup, hpm⟩
                dsimp only at hperm hup hpm ⊢
                have hml : m.length = (cut sub2 m2).length + 1 := by rw [hperm.length_eq]; simp
                have hpq : 0 < p → ((p : Int) - 1).tdiv 2 = (((p - 1) / 2 : Nat) : Int) := fun h => by rw [show (p : Int) - 1 = ((p - 1 : Nat) : Int) by omega]; rfl
                have hput : Heap m → Heap m ∧ m.length = (cut sub2 m2).length + 1 ∧ ∀ v, v ∈ m ↔ v ∈ (cut sub2 m2) ∨ v = x := fun h => ⟨h, hml, fun v => by rw [hperm.mem_iff]; simp⟩
                refine Pick.by (fun hc1 => ?_) (fun hc1 => ?_)
                · have hp0 : 0 < p := by simp at hc1; omega
                  have hq := hpq hp0
                  have hql : (p - 1) / 2 < m.length := by omega
                  obtain ⟨y, hy⟩ : ∃ y, m[p]? = some y := ⟨_, List.getElem?_eq_getElem hpm⟩
                  obtain ⟨z, hz⟩ : ∃ z, m[(p - 1) / 2]? = some z := ⟨_, List.getElem?_eq_getElem hql⟩
                  refine Idx.by p rfl (by rw [ints_length]; exact hpm) ?_
                  refine Look.by _ (ints_get hy) ?_
                  refine Pick.T (inI64_of (by omega) (by omega)) ?_
                  refine Pick.T (inI64_of (by omega) (by omega)) ?_
                  refine Idx.by ((p - 1) / 2) hq (by rw [ints_length]; exact hql) ?_
                  refine Look.by _ (ints_get hz) ?_
                  refine Seg.by (by kernel_rfl) ?_
                  refine Pick.by (fun hc2 => ?_) (fun hc2 => ?_)
                  · have hlt : y < z := by simpa using hc2
                    have hsw : ints ((m.set p z).set ((p - 1) / 2) y) = ((ints m).set p [.i .i64 z]).set ((p - 1) / 2) [.i .i64 y] := by rw [ints_set, ints_set]
                    refine Pick.T (inI64_of (by omega) (by omega)) ?_
                    refine Pick.T (inI64_of (by omega) (by omega)) ?_
                    refine Pick.T (inI64_of (by omega) (by omega)) ?_
                    refine Pick.T (inI64_of (by omega) (by omega)) ?_
                    refine Idx.by ((p - 1) / 2) hq (by rw [ints_length]; exact hql) ?_
                    refine Look.by _ (ints_get hz) ?_
                    refine Idx.by p rfl (by rw [ints_length]; exact hpm) ?_
                    refine Look.by _ (ints_get hy) ?_
                    refine Idx.by p rfl (by rw [ints_length]; exact hpm) ?_
                    refine Look.by _ (ints_get hy) ?_
                    refine Idx.by ((p - 1) / 2) hq (by rw [List.length_set, ints_length]; exact hql) ?_
                    refine Look.by _ (by rw [List.getElem?_set_ne (by omega)]; exact ints_get hz) ?_
                    refine Seg.by (by kernel_rfl) ?_
                    refine Pick.T (inI64_of (by omega) (by omega)) ?_
                    refine Pick.T (inI64_of (by omega) (by omega)) ?_
                    refine Next.by ((p - 1) / 2, (m.set p z).set ((p - 1) / 2) y) ⟨(swap_perm hy hz (by omega)).trans hperm, up_step hup hp0 hz hy hlt, by rw [List.length_set, List.length_set]; exact hql⟩ (by dsimp only; omega) (by refine Weak.by [(0, some _), (1, some _), (2, some _), (3, some _), (4, some _), (5, some _), (6, some _), (7, some _), (8, some _)] (by ((repeat' first | exact rfl | exact trivial | refine And.intro ?_ ?_) <;> (repeat' first | exact rfl | exact trivial | refine And.intro ?_ ?_)); all_goals ((first | (exact hsw) | (exact sc_eq hq.symm)))) (by ((repeat' first | exact rfl | exact trivial | refine And.intro ?_ ?_) <;> (repeat' first | exact rfl | exact trivial | refine And.intro ?_ ?_)); all_goals ((first | (exact hsw) | (exact sc_eq hq.symm)))) (by rfl))
                  · have hHm := hput (up_done hup (.inr fun x' y' hx' hy' => by
                      rw [hz] at hx'; rw [hy] at hy'
                      injection hx' with hx'; injection hy' with hy'
                      have : ¬ y < z := by simpa using hc2
                      omega))
                    exact ⟨m, hHm, by refine Weak.by [(0, some _), (1, some _), (2, some _), (3, some _), (4, some _), (5, some _), (6, some _), (7, some _), (8, some _)] (by ((repeat' first | exact rfl | exact trivial | refine And.intro ?_ ?_) <;> (repeat' first | exact rfl | exact trivial | refine And.intro ?_ ?_))) (by ((repeat' first | exact rfl | exact trivial | refine And.intro ?_ ?_) <;> (repeat' first | exact rfl | exact trivial | refine And.intro ?_ ?_))) (by rfl)⟩
                · have hp0 : p = 0 := by simp at hc1; omega
                  refine Seg.by (by kernel_rfl) ?_
                  exact ⟨m, hput (up_done hup (.inl hp0)), by refine Weak.by [(0, some _), (1, some _), (2, some _), (3, some _), (4, some _), (5, some _), (6, some _), (7, some _), (8, some _)] (by ((repeat' first | exact rfl | exact trivial | refine And.intro ?_ ?_) <;> (repeat' first | exact rfl | exact trivial | refine And.intro ?_ ?_))) (by ((repeat' first | exact rfl | exact trivial | refine And.intro ?_ ?_) <;> (repeat' first | exact rfl | exact trivial | refine And.intro ?_ ?_))) (by rfl)⟩
              · have hc6 : mayB N2 G2 x = false := hc6
                exact ⟨(sub2, m2), ⟨hsub2, hm24, by dsimp only; omega, hH2, hr2, fun v hv => skip_may hxi (fun e => by rw [e, hc6] at hv; cases hv) (hmv2 v hv)⟩, by refine Weak.by [(0, some _), (1, some _), (2, some _), (3, some _), (4, some _), (5, some _), (6, some _), (7, some _)] (by ((repeat' first | exact rfl | exact trivial | refine And.intro ?_ ?_) <;> (repeat' first | exact rfl | exact trivial | refine And.intro ?_ ?_))) (by ((repeat' first | exact rfl | exact trivial | refine And.intro ?_ ?_) <;> (repeat' first | exact rfl | exact trivial | refine And.intro ?_ ?_))) (by rfl)⟩
            · have hi3 : i = 2 := by simp at hc5; omega
              refine Next.by (st ++ [s], N2, G2, sub2, m2) ⟨hW2, hNl2, hrun2, by simp; omega, hsub2, hm24, by simp; omega, hH2, hr2, fun v hv => ?_⟩ (by simp; omega) (by refine Weak.by [(0, some _), (1, some _), (2, some _), (3, some _), (4, some _), (5, some _), (6, some _)] (by ((repeat' first | exact rfl | exact trivial | refine And.intro ?_ ?_) <;> (repeat' first | exact rfl | exact trivial | refine And.intro ?_ ?_))) (by ((repeat' first | exact rfl | exact trivial | refine And.intro ?_ ?_) <;> (repeat' first | exact rfl | exact trivial | refine And.intro ?_ ?_))) (by rfl))
              rcases hmv2 v hv with h | ⟨h1, _⟩ | ⟨h1, _⟩
              · exact h
              · omega
              · omega
          refine Pick.by (fun had => ?_) (fun had => ?_)
          · have had : (stepF N out).2.2.2 = true := had
            rw [if_pos had]
            rcases hs2 with ⟨_, _, _, e⟩ | ⟨_, _, _, _, e⟩ | ⟨a, b, hlv, hab, ea, eb, ec⟩
            · rw [had] at e; cases e
            · rw [had] at e; cases e
            have har := hrv.2 a (by rw [hlv]; simp)
            have hbr := hrv.2 b (by rw [hlv]; simp)
            have hra : (rowsI ((rowAt N out).foldl (cutF out) N))[a.toNat]? = some (ints ((rowAt N a).erase out)) := by
              have h1 := rowsI_get (rowAt_mem (N := (rowAt N out).foldl (cutF out) N) har.1 (by rw [cuts_length]; exact har.2)).2
              rw [hN1 a har.1] at h1
              exact h1
            have hrb : (rowsI ((rowAt N out).foldl (cutF out) N))[b.toNat]? = some (ints ((rowAt N b).erase out)) := by
              have h1 := rowsI_get (rowAt_mem (N := (rowAt N out).foldl (cutF out) N) hbr.1 (by rw [cuts_length]; exact hbr.2)).2
              rw [hN1 b hbr.1] at h1
              exact h1
            have hok : ∀ u, ((rowAt N u).erase out).Pairwise (· ≤ ·) ∧ ((rowAt N u).erase out).length ≤ 1000000 := fun u => by
              have h1 := hW.rows u
              have h2 := hW.row_len u
              have h3 := List.length_erase_le (l := rowAt N u) (a := out)
              exact ⟨(erase_sorted h1.1).imp fun h => by omega, by omega⟩
            rw [ea, eb]
            have hj : rowsI (joinF (joinF ((rowAt N out).foldl (cutF out) N) a b) b a) = ((rowsI ((rowAt N out).foldl (cutF out) N)).set a.toNat (ints (insAt ((rowAt N a).erase out) b))).set b.toNat (ints (insAt ((rowAt N b).erase out) a)) := by
              have e1 : rowAt (joinF ((rowAt N out).foldl (cutF out) N) a b) b = (rowAt N b).erase out := by
                unfold joinF
                rw [rowAt_set har.1 (by rw [cuts_length]; exact har.2) hbr.1, if_neg (by omega), hN1 b hbr.1]
              show rowsI ((joinF ((rowAt N out).foldl (cutF out) N) a b).set b.toNat (insAt (rowAt (joinF ((rowAt N out).foldl (cutF out) N) a b) b) a)) = _
              rw [e1, rowsI_set]
              unfold joinF
              rw [rowsI_set, hN1 a har.1]
            have hma : (rowsI ((rowAt N out).foldl (cutF out) N)).set a.toNat (ints (insAt ((rowAt N a).erase out) b)) ≠ [] ∨ True := .inr trivial
            have hl3 : ((rowsI ((rowAt N out).foldl (cutF out) N)).set a.toNat (ints (insAt ((rowAt N a).erase out) b))).length = N.length := by rw [List.length_set, hl1]
            have hrb2 : ((rowsI ((rowAt N out).foldl (cutF out) N)).set a.toNat (ints (insAt ((rowAt N a).erase out) b)))[b.toNat]? = some (ints ((rowAt N b).erase out)) := by rw [List.getElem?_set_ne (by omega)]; exact hrb
            refine Idx.by a.toNat (by omega) (by omega) ?_
            refine Pick.T (by rw [hl1]; simp; omega) ?_
            refine Look.by _ hra ?_
            refine Call.by _ _ (turnC_at (hok a)) ?_
            refine Idx.by a.toNat (by omega) (by omega) ?_
            refine Pick.T (by rw [hl1]; simp; omega) ?_
            refine Pick.T (by simp) ?_
            refine Seg.by (by kernel_rfl) ?_
            refine Idx.by b.toNat (by omega) (by omega) ?_
            refine Pick.T (by rw [hl3]; simp; omega) ?_
            refine Look.by _ hrb2 ?_
            refine Call.by _ _ (turnC_at (hok b)) ?_
            refine Idx.by b.toNat (by omega) (by omega) ?_
            refine Pick.T (by rw [hl3]; simp; omega) ?_
            refine Pick.T (by simp) ?_
            refine Seg.by (by kernel_rfl) ?_
            exact ⟨(), trivial, by refine Weak.by [(0, some _), (1, some _), (2, some _), (3, some _), (4, some _), (5, some _), (6, some _), (7, some _), (8, some _), (9, some _)] (by ((repeat' first | exact rfl | exact trivial | refine And.intro ?_ ?_) <;> (repeat' first | exact rfl | exact trivial | refine And.intro ?_ ?_)); all_goals ((exact hj))) (by ((repeat' first | exact rfl | exact trivial | refine And.intro ?_ ?_) <;> (repeat' first | exact rfl | exact trivial | refine And.intro ?_ ?_)); all_goals ((exact hj))) (by rfl)⟩
          · have had : (stepF N out).2.2.2 = false := had
            rw [if_neg (by rw [had]; simp)]
            exact ⟨(), trivial, by refine Weak.by [(0, some _), (1, some _), (2, some _), (3, some _), (4, some _), (5, some _), (6, some _), (7, some _), (8, some _), (9, some _)] (by ((repeat' first | exact rfl | exact trivial | refine And.intro ?_ ?_) <;> (repeat' first | exact rfl | exact trivial | refine And.intro ?_ ?_))) (by ((repeat' first | exact rfl | exact trivial | refine And.intro ?_ ?_) <;> (repeat' first | exact rfl | exact trivial | refine And.intro ?_ ?_))) (by rfl)⟩
        refine LoopP.intro (α := Nat × List Int) (fun a => Sift l out last a.2 a.1 ∧ a.1 ≤ last ∧ a.2.length = m.length) (fun a => last + 1 - a.1) (fun a => [(0, .ptr 4 0), (3, .sl 5 none (some (0, last))), (4, .s (.i .i64 out)), (5, .s (.i .i64 last)), (6, .s (.i .i64 a.1)), (1000002, .ptr 0 0), (1000003, .ptr 1 0), (1000004, .ptr 4 0), (1000006, .sl 6 none none)])
          (fun a => [(0, some (.blk [.nils, .nils, .nils])), (1, some (.blk [.sl 2 none none, .sl 3 none none])), (2, some (.nest true 1 (rowsI N) [] [])), (3, some (.flat true 1 (bools G))), (4, some (.blk [.sl 5 none (some (0, L))])), (5, some (.flat true 1 (ints a.2))), (6, some (.flat true 4 (stps st)))]) 7 (0, m.set 0 top) ⟨hsift, by dsimp only; omega, by rw [List.length_set]⟩ (by refine Weak.by [(0, some _), (1, some _), (2, some _), (3, some _), (4, some _), (5, some _), (6, some _)] (by ((repeat' first | exact rfl | exact trivial | refine And.intro ?_ ?_) <;> (repeat' first | exact rfl | exact trivial | refine And.intro ?_ ?_)); all_goals ((first | (rw [ints_set]; rfl) | (exact sc_eq hlast.symm)))) (by ((repeat' first | exact rfl | exact trivial | refine And.intro ?_ ?_) <;> (repeat' first | exact rfl | exact trivial | refine And.intro ?_ ?_)); all_goals ((first | (rw [ints_set]; rfl) | (exact sc_eq hlast.symm)))) (by rfl)) ?_
        rintro ⟨i, c⟩ ⟨hsf, hil, hcm⟩
        dsimp only at hsf hil hcm ⊢
        refine Pick.T (inI64_of (by omega) (by omega)) ?_
        refine Pick.T (inI64_of (by omega) (by omega)) ?_
        refine Pick.by (fun hc1 => ?_) (fun hc1 => ?_)
        · have hch : 2 * i + 1 < last := by simp at hc1; omega
          obtain ⟨x, hx⟩ : ∃ x, c[i]? = some x := ⟨_, List.getElem?_eq_getElem (by have := hsf.len; omega)⟩
          obtain ⟨y1, hy1⟩ : ∃ y, c[2 * i + 1]? = some y := ⟨_, List.getElem?_eq_getElem (by have := hsf.len; omega)⟩
          refine Pick.T (inI64_of (by omega) (by omega)) ?_
          refine Pick.T (inI64_of (by omega) (by omega)) ?_
          refine Pick.T (inI64_of (by omega) (by omega)) ?_
          have hk1 : (2 * (i : Int) + 1) = ((2 * i + 1 : Nat) : Int) := by omega
          have hk2 : (2 * (i : Int) + 1 + 1) = ((2 * i + 2 : Nat) : Int) := by omega
          have hjoin : ∀ k, (k = 2 * i + 1 ∨ k = 2 * i + 2) → k < last → (∀ y, c[k]? = some y → ∀ t z, 0 < t → (t - 1) / 2 = i → t < last → c[t]? = some z → y ≤ z) → (k = 2 * i + 1 ∨ k = 2 * i + 2) ∧ k < last ∧ ∀ y, c[k]? = some y → ∀ t z, 0 < t → (t - 1) / 2 = i → t < last → c[t]? = some z → y ≤ z := fun k a b d => ⟨a, b, d⟩
          refine Pick.by (fun hc2 => ?_) (fun hc2 => ?_)
          · have hch2 : 2 * i + 2 < last := by simp at hc2; omega
            obtain ⟨y2, hy2⟩ : ∃ y, c[2 * i + 2]? = some y := ⟨_, List.getElem?_eq_getElem (by have := hsf.len; omega)⟩
            refine Pick.T (inI64_of (by omega) (by omega)) ?_
            refine Idx.by (2 * i + 2) (by omega) (by omega) ?_
            refine Look.by _ (by rw [Nat.zero_add]; exact ints_get hy2) ?_
            refine Idx.by (2 * i + 1) (by omega) (by omega) ?_
            refine Look.by _ (by rw [Nat.zero_add]; exact ints_get hy1) ?_
            refine Seg.by (by kernel_rfl) ?_
            refine JoinP.intro (α := Nat) (fun k => (k = 2 * i + 1 ∨ k = 2 * i + 2) ∧ k < last ∧ ∀ y, c[k]? = some y → ∀ t z, 0 < t → (t - 1) / 2 = i → t < last → c[t]? = some z → y ≤ z) (fun k => [(0, .ptr 4 0), (3, .sl 5 none (some (0, last))), (4, .s (.i .i64 out)), (5, .s (.i .i64 last)), (6, .s (.i .i64 i)), (7, .s (.i .i64 k)), (1000002, .ptr 0 0), (1000003, .ptr 1 0), (1000004, .ptr 4 0), (1000006, .sl 6 none none)])
              (fun k => [(0, some (.blk [.nils, .nils, .nils])), (1, some (.blk [.sl 2 none none, .sl 3 none none])), (2, some (.nest true 1 (rowsI N) [] [])), (3, some (.flat true 1 (bools G))), (4, some (.blk [.sl 5 none (some (0, L))])), (5, some (.flat true 1 (ints c))), (6, some (.flat true 4 (stps st)))]) 7 ?_ ?_
            rotate_left
            · rintro k ⟨hkk, hkl, hM⟩
              obtain ⟨y, hy⟩ : ∃ y, c[k]? = some y := ⟨_, List.getElem?_eq_getElem (by have := hsf.len; omega)⟩
              have hmin := hM y hy
              refine Idx.by i rfl (by omega) ?_
              refine Look.by _ (by rw [Nat.zero_add]; exact ints_get hx) ?_
              refine Idx.by k rfl (by omega) ?_
              refine Look.by _ (by rw [Nat.zero_add]; exact ints_get hy) ?_
              refine Seg.by (by kernel_rfl) ?_
              refine Pick.by (fun hc4 => ?_) (fun hc4 => ?_)
              · have hle : x ≤ y := by simpa using hc4
                refine ⟨c, ⟨hcm, hsf.len, hsf.perm, sift_done hsf fun t u v ht htp hu hv => ?_⟩, by refine Weak.by [(0, some _), (1, some _), (2, some _), (3, some _), (4, some _), (5, some _), (6, some _)] (by ((repeat' first | exact rfl | exact trivial | refine And.intro ?_ ?_) <;> (repeat' first | exact rfl | exact trivial | refine And.intro ?_ ?_))) (by ((repeat' first | exact rfl | exact trivial | refine And.intro ?_ ?_) <;> (repeat' first | exact rfl | exact trivial | refine And.intro ?_ ?_))) (by rfl)⟩
                have htk : t < last := by
                  have := (List.getElem?_eq_some_iff.1 hv).1
                  rw [List.length_take] at this
                  omega
                rw [tk_get (by omega), hx] at hu
                injection hu with hu
                have := hmin t v ht htp htk (by rw [← tk_get htk]; exact hv)
                omega
              · have hlt : y < x := by simpa using hc4
                refine Idx.by k rfl (by omega) ?_
                refine Look.by _ (by rw [Nat.zero_add]; exact ints_get hy) ?_
                refine Idx.by i rfl (by omega) ?_
                refine Look.by _ (by rw [Nat.zero_add]; exact ints_get hx) ?_
                refine Idx.by i rfl (by omega) ?_
                refine Look.by _ (by rw [Nat.zero_add]; exact ints_get hx) ?_
                refine Idx.by k rfl (by omega) ?_
                refine Look.by _ (by rw [Nat.zero_add, Nat.zero_add, List.getElem?_set_ne (by omega)]; exact ints_get hy) ?_
                refine Seg.by (by kernel_rfl) ?_
                refine Next.by (k, (c.set i y).set k x) ⟨sift_step hsf (by omega) (by omega) hkl hx hy hlt hmin, by dsimp only; omega, by rw [List.length_set, List.length_set]; exact hcm⟩ (by dsimp only; omega) (by refine Weak.by [(0, some _), (1, some _), (2, some _), (3, some _), (4, some _), (5, some _), (6, some _)] (by ((repeat' first | exact rfl | exact trivial | refine And.intro ?_ ?_) <;> (repeat' first | exact rfl | exact trivial | refine And.intro ?_ ?_)); all_goals ((rw [Nat.zero_add, Nat.zero_add, ints_set, ints_set]; rfl))) (by ((repeat' first | exact rfl | exact trivial | refine And.intro ?_ ?_) <;> (repeat' first | exact rfl | exact trivial | refine And.intro ?_ ?_)); all_goals ((rw [Nat.zero_add, Nat.zero_add, ints_set, ints_set]; rfl))) (by rfl))
            refine Pick.by (fun hc3 => ?_) (fun hc3 => ?_)
            · have hlt2 : y2 < y1 := by simpa using hc3
              refine Pick.T (inI64_of (by omega) (by omega)) ?_
              refine ⟨2 * i + 2, hjoin _ (.inr rfl) hch2 fun y hy t z ht htp htl hz => ?_, by refine Weak.by [(0, some _), (1, some _), (2, some _), (3, some _), (4, some _), (5, some _), (6, some _)] (by ((repeat' first | exact rfl | exact trivial | refine And.intro ?_ ?_) <;> (repeat' first | exact rfl | exact trivial | refine And.intro ?_ ?_)); all_goals ((exact sc_eq hk2.symm))) (by ((repeat' first | exact rfl | exact trivial | refine And.intro ?_ ?_) <;> (repeat' first | exact rfl | exact trivial | refine And.intro ?_ ?_)); all_goals ((exact sc_eq hk2.symm))) (by rfl)⟩
              have : t = 2 * i + 1 ∨ t = 2 * i + 2 := by omega
              rcases this with rfl | rfl
              · rw [hy2] at hy; rw [hy1] at hz; injection hy with hy; injection hz with hz; omega
              · rw [hy] at hz; injection hz with hz; omega
            · have hlt2 : ¬ y2 < y1 := by simpa using hc3
              refine ⟨2 * i + 1, hjoin _ (.inl rfl) hch fun y hy t z ht htp htl hz => ?_, by refine Weak.by [(0, some _), (1, some _), (2, some _), (3, some _), (4, some _), (5, some _), (6, some _)] (by ((repeat' first | exact rfl | exact trivial | refine And.intro ?_ ?_) <;> (repeat' first | exact rfl | exact trivial | refine And.intro ?_ ?_)); all_goals ((exact sc_eq hk1.symm))) (by ((repeat' first | exact rfl | exact trivial | refine And.intro ?_ ?_) <;> (repeat' first | exact rfl | exact trivial | refine And.intro ?_ ?_)); all_goals ((exact sc_eq hk1.symm))) (by rfl)⟩
              have : t = 2 * i + 1 ∨ t = 2 * i + 2 := by omega
              rcases this with rfl | rfl
              · rw [hy] at hz; injection hz with hz; omega
              · rw [hy1] at hy; rw [hy2] at hz; injection hy with hy; injection hz with hz; omega
          · have hch2 : ¬ 2 * i + 2 < last := by simp at hc2; omega
            refine Seg.by (by kernel_rfl) ?_
            refine JoinP.intro (α := Nat) (fun k => (k = 2 * i + 1 ∨ k = 2 * i + 2) ∧ k < last ∧ ∀ y, c[k]? = some y → ∀ t z, 0 < t → (t - 1) / 2 = i → t < last → c[t]? = some z → y ≤ z) (fun k => [(0, .ptr 4 0), (3, .sl 5 none (some (0, last))), (4, .s (.i .i64 out)), (5, .s (.i .i64 last)), (6, .s (.i .i64 i)), (7, .s (.i .i64 k)), (1000002, .ptr 0 0), (1000003, .ptr 1 0), (1000004, .ptr 4 0), (1000006, .sl 6 none none)])
              (fun k => [(0, some (.blk [.nils, .nils, .nils])), (1, some (.blk [.sl 2 none none, .sl 3 none none])), (2, some (.nest true 1 (rowsI N) [] [])), (3, some (.flat true 1 (bools G))), (4, some (.blk [.sl 5 none (some (0, L))])), (5, some (.flat true 1 (ints c))), (6, some (.flat true 4 (stps st)))]) 7 ?_ ?_
            rotate_left
            · rintro k ⟨hkk, hkl, hM⟩
              obtain ⟨y, hy⟩ : ∃ y, c[k]? = some y := ⟨_, List.getElem?_eq_getElem (by have := hsf.len; omega)⟩
              have hmin := hM y hy
              refine Idx.by i rfl (by omega) ?_
              refine Look.by _ (by rw [Nat.zero_add]; exact ints_get hx) ?_
              refine Idx.by k rfl (by omega) ?_
              refine Look.by _ (by rw [Nat.zero_add]; exact ints_get hy) ?_
              refine Seg.by (by kernel_rfl) ?_
              refine Pick.by (fun hc4 => ?_) (fun hc4 => ?_)
              · have hle : x ≤ y := by simpa using hc4
                refine ⟨c, ⟨hcm, hsf.len, hsf.perm, sift_done hsf fun t u v ht htp hu hv => ?_⟩, by refine Weak.by [(0, some _), (1, some _), (2, some _), (3, some _), (4, some _), (5, some _), (6, some _)] (by ((repeat' first | exact rfl | exact trivial | refine And.intro ?_ ?_) <;> (repeat' first | exact rfl | exact trivial | refine And.intro ?_ ?_))) (by ((repeat' first | exact rfl | exact trivial | refine And.intro ?_ ?_) <;> (repeat' first | exact rfl | exact trivial | refine And.intro ?_ ?_))) (by rfl)⟩
                have htk : t < last := by
                  have := (List.getElem?_eq_some_iff.1 hv).1
                  rw [List.length_take] at this
                  omega
                rw [tk_get (by omega), hx] at hu
                injection hu with hu
                have := hmin t v ht htp htk (by rw [← tk_get htk]; exact hv)
                omega
              · have hlt : y < x := by simpa using hc4
                refine Idx.by k rfl (by omega) ?_
                refine Look.by _ (by rw [Nat.zero_add]; exact ints_get hy) ?_
                refine Idx.by i rfl (by omega) ?_
                refine Look.by _ (by rw [Nat.zero_add]; exact ints_get hx) ?_
                refine Idx.by i rfl (by omega) ?_
                refine Look.by _ (by rw [Nat.zero_add]; exact ints_get hx) ?_
                refine Idx.by k rfl (by omega) ?_
                refine Look.by _ (by rw [Nat.zero_add, Nat.zero_add, List.getElem?_set_ne (by omega)]; exact ints_get hy) ?_
                refine Seg.by (by kernel_rfl) ?_
                refine Next.by (k, (c.set i y).set k x) ⟨sift_step hsf (by omega) (by omega) hkl hx hy hlt hmin, by dsimp only; omega, by rw [List.length_set, List.length_set]; exact hcm⟩ (by dsimp only; omega) (by refine Weak.by [(0, some _), (1, some _), (2, some _), (3, some _), (4, some _), (5, some _), (6, some _)] (by ((repeat' first | exact rfl | exact trivial | refine And.intro ?_ ?_) <;> (repeat' first | exact rfl | exact trivial | refine And.intro ?_ ?_)); all_goals ((rw [Nat.zero_add, Nat.zero_add, ints_set, ints_set]; rfl))) (by ((repeat' first | exact rfl | exact trivial | refine And.intro ?_ ?_) <;> (repeat' first | exact rfl | exact trivial | refine And.intro ?_ ?_)); all_goals ((rw [Nat.zero_add, Nat.zero_add, ints_set, ints_set]; rfl))) (by rfl))
            refine ⟨2 * i + 1, hjoin _ (.inl rfl) hch fun y hy t z ht htp htl hz => ?_, by refine Weak.by [(0, some _), (1, some _), (2, some _), (3, some _), (4, some _), (5, some _), (6, some _)] (by ((repeat' first | exact rfl | exact trivial | refine And.intro ?_ ?_) <;> (repeat' first | exact rfl | exact trivial | refine And.intro ?_ ?_)); all_goals ((exact sc_eq hk1.symm))) (by ((repeat' first | exact rfl | exact trivial | refine And.intro ?_ ?_) <;> (repeat' first | exact rfl | exact trivial | refine And.intro ?_ ?_)); all_goals ((exact sc_eq hk1.symm))) (by rfl)⟩
            have : t = 2 * i + 1 := by omega
            rw [this, hy] at hz; injection hz with hz; omega
        · have hch : ¬ 2 * i + 1 < last := by simp at hc1; omega
          refine ⟨c, ⟨hcm, hsf.len, hsf.perm, sift_done hsf fun t u v ht htp hu hv => ?_⟩, by refine Weak.by [(0, some _), (1, some _), (2, some _), (3, some _), (4, some _), (5, some _), (6, some _)] (by ((repeat' first | exact rfl | exact trivial | refine And.intro ?_ ?_) <;> (repeat' first | exact rfl | exact trivial | refine And.intro ?_ ?_))) (by ((repeat' first | exact rfl | exact trivial | refine And.intro ?_ ?_) <;> (repeat' first | exact rfl | exact trivial | refine And.intro ?_ ?_))) (by rfl)⟩
          have := (List.getElem?_eq_some_iff.1 hv).1
          rw [List.length_take] at this
          omega
      · have hz : l.length = 0 := by rw [hLl]; simpa using hc
        have hno : ∀ u, mayB N G u ≠ true := fun u hu => by
          have := hm u hu
          rw [List.eq_nil_of_length_eq_zero hz] at this
          simp at this
        rw [runS_end (firstMay_none hno), List.append_nil] at hrun
        rw [hrun]
        have hst4 : st.length ≤ 1000 := by omega
        have hGN := hW.len
        have hmo := hW.most
        have hNL := rowsI_length N
        refine LoopP.intro (α := Nat) (fun j => j ≤ N.length) (fun j => N.length - j) (fun j => [(2, .ptr 2 0), (4, .ptr 1 0), (5, .ptr 3 0), (13, .sl 4 none none), (14, .s (.i .i64 N.length)), (15, .s (.i .i64 j)), (1000002, .ptr 0 0)])
          (fun j => [(0, some (.blk [.nils, .nils, .nils])), (1, some (.blk [.nils, .nils, .nils])), (2, some (.blk [.sl 4 none none, .sl 5 none none])), (3, some (.blk [.sl 6 none none, .sl 7 none none, .sl 8 none none])), (4, some (.nest true 1 (rowsI N) [] [])), (5, some (.flat true 1 (bools G))), (6, some (.flat true 4 (stps st))), (7, some (.flat true 1 (ints (leftK G j)))), (8, some (.flat true 2 (edges (edgesK N G j))))]) 9 0 (by omega) (by refine Weak.by [(0, some _), (1, some _), (2, some _), (3, some _), (4, some _), (5, some _), (6, some _), (7, none), (8, none)] (by ((repeat' first | exact rfl | exact trivial | refine And.intro ?_ ?_) <;> (repeat' first | exact rfl | exact trivial | refine And.intro ?_ ?_)); all_goals ((first | (rw [hNL]; rfl) | done))) (by ((repeat' first | exact rfl | exact trivial | refine And.intro ?_ ?_) <;> (repeat' first | exact rfl | exact trivial | refine And.intro ?_ ?_)); all_goals ((first | (rw [hNL]; rfl) | done))) (by rfl)) ?_
        rintro j hj
        have hlk := leftK_len G j
        have hek := edgesK_len hW j
        refine Pick.by (fun hd1 => ?_) (fun hd1 => ?_)
        · have hjl : j < N.length := by simpa using hd1
          have hgj : (bools G)[j]? = some [.b (G.getD j false)] := by
            refine bools_get ?_
            rw [List.getD_eq_getElem?_getD, List.getElem?_eq_getElem (by omega)]; rfl
          have hrj : (rowsI N)[j]? = some (ints (rowAt N j)) := by
            have := (rowAt_mem (N := N) (v := (j : Int)) (by omega) (by omega)).2
            exact rowsI_get this
          have hrl := hW.row_len (j : Int)
          refine Idx.by j rfl (by omega) ?_
          refine Pick.T (by rw [hNL]; simp; omega) ?_
          refine Idx.by j rfl (by rw [bools_length]; omega) ?_
          refine Look.by _ hgj ?_
          refine Pick.by (fun hd2 => ?_) (fun hd2 => ?_)
          · have hd2 : G.getD j false = true := hd2
            refine Pick.T (inI64_of (by omega) (by omega)) ?_
            refine Next.by (j + 1) (by omega) (by omega) (by refine Weak.by [(0, some _), (1, some _), (2, some _), (3, some _), (4, some _), (5, some _), (6, some _), (7, some _), (8, some _)] (by ((repeat' first | exact rfl | exact trivial | refine And.intro ?_ ?_) <;> (repeat' first | exact rfl | exact trivial | refine And.intro ?_ ?_)); all_goals ((first | (rw [leftK_succ, if_pos hd2, List.append_nil]) | (rw [edgesK_succ, if_pos hd2, List.append_nil])))) (by ((repeat' first | exact rfl | exact trivial | refine And.intro ?_ ?_) <;> (repeat' first | exact rfl | exact trivial | refine And.intro ?_ ?_)); all_goals ((first | (rw [leftK_succ, if_pos hd2, List.append_nil]) | (rw [edgesK_succ, if_pos hd2, List.append_nil])))) (by rfl))
          have hd2 : G.getD j false = false := hd2
          have hl1 : leftK G (j + 1) = leftK G j ++ [(j : Int)] := by rw [leftK_succ, if_neg (by rw [hd2]; simp)]
          have he1 : edgesK N G (j + 1) = edgesK N G j ++ outE N j := by rw [edgesK_succ, if_neg (by rw [hd2]; simp)]
          refine Pick.T (by simp [cut, ints_length]; omega) ?_
          refine Look.by _ hrj ?_
          refine LoopP.intro (α := Nat) (fun k => k ≤ (rowAt N j).length) (fun k => (rowAt N j).length - k) (fun k => [(2, .ptr 2 0), (4, .ptr 1 0), (5, .ptr 3 0), (6, .s (.i .i64 j)), (13, .sl 4 none none), (14, .s (.i .i64 N.length)), (15, .s (.i .i64 j)), (31, .sl 4 (some (j, 0)) none), (32, .s (.i .i64 (rowAt N j).length)), (33, .s (.i .i64 k)), (1000002, .ptr 0 0)])
            (fun k => [(0, some (.blk [.nils, .nils, .nils])), (1, some (.blk [.nils, .nils, .nils])), (2, some (.blk [.sl 4 none none, .sl 5 none none])), (3, some (.blk [.sl 6 none none, .sl 7 none none, .sl 8 none none])), (4, some (.nest true 1 (rowsI N) [] [])), (5, some (.flat true 1 (bools G))), (6, some (.flat true 4 (stps st))), (7, some (.flat true 1 (ints (leftK G (j + 1))))), (8, some (.flat true 2 (edges (edgesK N G j ++ (((rowAt N j).take k).filter fun x => decide (x > (j : Int))).map fun x => ((j : Int), x)))))]) 9 0 (by omega) (by refine Weak.by [(0, some _), (1, some _), (2, some _), (3, some _), (4, some _), (5, some _), (6, some _), (7, some _), (8, some _)] (by ((repeat' first | exact rfl | exact trivial | refine And.intro ?_ ?_) <;> (repeat' first | exact rfl | exact trivial | refine And.intro ?_ ?_)); all_goals ((first | (rw [hl1, ints_snoc]; rfl) | (rw [List.take_zero]; simp; done) | (rw [ints_length]; rfl) | (simp; done)))) (by ((repeat' first | exact rfl | exact trivial | refine And.intro ?_ ?_) <;> (repeat' first | exact rfl | exact trivial | refine And.intro ?_ ?_)); all_goals ((first | (rw [hl1, ints_snoc]; rfl) | (rw [List.take_zero]; simp; done) | (rw [ints_length]; rfl) | (simp; done)))) (by rfl)) ?_
          rintro k hk
          have hpl : ((((rowAt N j).take k).filter fun x => decide (x > (j : Int))).map fun x => ((j : Int), x)).length ≤ 1000 := by
            rw [List.length_map]
            refine Nat.le_trans (List.length_filter_le _ _) ?_
            rw [List.length_take]; omega
          refine Pick.by (fun hd3 => ?_) (fun hd3 => ?_)
          · have hkl : k < (rowAt N j).length := by simpa using hd3
            obtain ⟨x, hx⟩ : ∃ x, (rowAt N j)[k]? = some x := ⟨_, List.getElem?_eq_getElem hkl⟩
            have hxe : (rowAt N j)[k] = x := by rw [List.getElem?_eq_getElem hkl] at hx; injection hx
            refine Look.by _ hrj ?_
            refine Idx.by k rfl (by rw [ints_length]; exact hkl) ?_
            refine Look.by _ hrj ?_
            refine Look.by _ (ints_get hx) ?_
            refine Pick.by (fun hd4 => ?_) (fun hd4 => ?_)
            · have hd4 : x > (j : Int) := by simpa using hd4
              refine Pick.T (by simp [cut, edges_length] at hpl ⊢; omega) ?_
              refine Pick.T (inI64_of (by omega) (by omega)) ?_
              refine Next.by (k + 1) (by omega) (by omega) (by refine Weak.by [(0, some _), (1, some _), (2, some _), (3, some _), (4, some _), (5, some _), (6, some _), (7, some _), (8, some _)] (by ((repeat' first | exact rfl | exact trivial | refine And.intro ?_ ?_) <;> (repeat' first | exact rfl | exact trivial | refine And.intro ?_ ?_)); all_goals ((first | (rw [List.take_succ_eq_append_getElem hkl, hxe, List.filter_append, List.map_append, List.filter_cons, if_pos (by simpa using hd4), List.filter_nil, ← List.append_assoc]; exact edges_snoc _ _) | (simp; done)))) (by ((repeat' first | exact rfl | exact trivial | refine And.intro ?_ ?_) <;> (repeat' first | exact rfl | exact trivial | refine And.intro ?_ ?_)); all_goals ((first | (rw [List.take_succ_eq_append_getElem hkl, hxe, List.filter_append, List.map_append, List.filter_cons, if_pos (by simpa using hd4), List.filter_nil, ← List.append_assoc]; exact edges_snoc _ _) | (simp; done)))) (by rfl))
            · have hd4 : ¬ x > (j : Int) := by simpa using hd4
              refine Pick.T (inI64_of (by omega) (by omega)) ?_
              refine Next.by (k + 1) (by omega) (by omega) (by refine Weak.by [(0, some _), (1, some _), (2, some _), (3, some _), (4, some _), (5, some _), (6, some _), (7, some _), (8, some _)] (by ((repeat' first | exact rfl | exact trivial | refine And.intro ?_ ?_) <;> (repeat' first | exact rfl | exact trivial | refine And.intro ?_ ?_)); all_goals ((first | (rw [List.take_succ_eq_append_getElem hkl, hxe, List.filter_append, List.map_append, List.filter_cons, if_neg (by simpa using hd4), List.filter_nil, List.map_nil, List.append_nil]) | (simp; done)))) (by ((repeat' first | exact rfl | exact trivial | refine And.intro ?_ ?_) <;> (repeat' first | exact rfl | exact trivial | refine And.intro ?_ ?_)); all_goals ((first | (rw [List.take_succ_eq_append_getElem hkl, hxe, List.filter_append, List.map_append, List.filter_cons, if_neg (by simpa using hd4), List.filter_nil, List.map_nil, List.append_nil]) | (simp; done)))) (by rfl))
          · have hkl : k = (rowAt N j).length := by simp at hd3; omega
            have hfull : edgesK N G (j + 1) = edgesK N G j ++ (((rowAt N j).take k).filter fun x => decide (x > (j : Int))).map fun x => ((j : Int), x) := by rw [he1, hkl, List.take_length]; rfl
            refine Pick.T (inI64_of (by omega) (by omega)) ?_
            refine Next.by (j + 1) (by omega) (by omega) (by refine Weak.by [(0, some _), (1, some _), (2, some _), (3, some _), (4, some _), (5, some _), (6, some _), (7, some _), (8, some _)] (by ((repeat' first | exact rfl | exact trivial | refine And.intro ?_ ?_) <;> (repeat' first | exact rfl | exact trivial | refine And.intro ?_ ?_)); all_goals ((rw [hfull]))) (by ((repeat' first | exact rfl | exact trivial | refine And.intro ?_ ?_) <;> (repeat' first | exact rfl | exact trivial | refine And.intro ?_ ?_)); all_goals ((rw [hfull]))) (by rfl))
        have hjl : j = N.length := by simp at hd1; omega
        subst hjl
        have e1 : leftF G = leftK G N.length := by unfold leftF leftK; rw [hGN]
        have e2 : edgesF N G = edgesK N G N.length := by unfold edgesF edgesK; rw [e1]
        refine ⟨rfl, ?_⟩
        (repeat' first | exact rfl | exact trivial | refine And.intro ?_ ?_)
        all_goals (first | exact congrArg ints e1 | exact congrArg edges e2)
end Go.Sh

set_option linter.unusedVariables false
set_option linter.unusedSimpArgs false
namespace Go.Sh
open Go.Proofs Go.RowKit
/-! ### slices.Clone of steps -/
attribute [local go_sem] Oper.semAt_some
theorem tS : Try.prog.underlying 67 = some (TypeDesc.slice 73) := by kernel_rfl
theorem iS : (Try.prog.info? 73).map (fun i => (i.zero, i.size, i.bytes)) = some (some (.agg #[.int .i64 0, .int .i64 0, .int .i64 0, .bool false]), 4, 32) := by kernel_rfl
set_option maxRecDepth 100000 in
set_option maxHeartbeats 2000000 in
theorem clone_empty (A : Option Addr) (c : Nat) (w : World) : Calls Try.prog 87 #[.slice A 0 c] w fun e w' => ∃ B c', e = .returned (.slice B 0 c') ∧ Frm (fun _ => False) w w' ∧ ((B = none ∧ c' = 0) ∨ ∃ gb cur T, B = some ⟨gb, 0, none⟩ ∧ w.heap.size ≤ gb ∧ w'.heap[gb]? = some (.cells cur T (0, 0)) ∧ c' * 4 ≤ cur.size ∧ c' ≤ 9223372036854775807) := by
  have t22 := tS
  obtain ⟨i0, hi, hz0, hz1, hz2⟩ := info_parts iS
  have q22 : ∀ (w : World) (a : Option Addr) (n c n' c' : Nat), (binOp .eql 67 (.slice a n c) (.slice none n' c')).run Try.prog w = .ok (.bool a.isNone) w := fun w a n c n' c' => Lib.run_eql_slice_nil w _ _ a n c n' c' tS
  have u22 : ∀ w, Sem.run Try.prog (underlying 67) w = .ok (TypeDesc.slice 73) w := run_underlying t22
  refine (callsIn_wide (n := 6)).1 ?_
  refine callsIn_of_wp Try.func87 rfl trivial ?_ rfl
  simp only [Try.ntmps87, List.size_toArray, List.length_cons, List.length_nil, Nat.reduceAdd, Nat.reduceSub, Array.replicate_succ, Array.replicate_zero, List.push_toArray, List.append_toArray, List.nil_append, List.cons_append]
  cases A with
  | none =>
    gi_wp2
    go_ret
    exact ⟨_, _, rfl, Frm.refl _ _, .inl ⟨rfl, rfl⟩⟩
  | some a =>
    gi_wp2_with (gi_at_builtin; refine wpListIn_append_own _ rfl _ _ 67 rfl w.heap.size 73 i0 _ 4 32 t22 hi hz0 hz1 hz2 rfl (by decide) _ _ _ rfl (World.ownsRow_made w #[] 0 (Nat.le_refl _) (Nat.zero_le _) rfl) a 0 c [] rfl rfl (by intro j u hj; simp at hj) (by intro u hu; cases hu) (by unfold maxLen; omega) (by omega) (by simp) ?_)
    intro v' w1 hown hgrow hnil
    gi_wp2
    go_ret
    have hb : Below w.heap.size w w1 := ((Below.refl _ w).alloc (Nat.le_refl _) _).grown hgrow (by simp) (by intro k hk; simp [Value.ownBlock] at hk; omega)
    have hf : Frm (fun _ => False) w w1 := ⟨hb.os, hb.tape, hb.output, hb.size, fun b h _ => hb.block b h⟩
    rcases hown.2 with ⟨rfl, _⟩ | ⟨gb, cap', cur, rfl, hbase, hgb, r1, r2, r3, r4⟩
    · exact ⟨_, _, rfl, hf, .inl ⟨rfl, rfl⟩⟩
    · refine ⟨_, _, rfl, hf, .inr ⟨gb, cur, _, rfl, hbase, hgb, ?_, ?_⟩⟩
      · omega
      · unfold maxLen at *; omega
noncomputable def CloneC : Con := conP 1 (fun l : List Stp => l.length ≤ 1000000) (fun l => [.one (.flat false 4 (stps l))]) (fun l => .one (.flat true 4 (stps l)))
theorem stps_inj {l m : List Stp} (h : stps l = stps m) : l = m := by
  refine (List.map_inj_right fun a b e => ?_).1 h
  obtain ⟨a1, a2, a3, a4⟩ := a
  obtain ⟨b1, b2, b3, b4⟩ := b
  simp at e
  obtain ⟨rfl, rfl, rfl, rfl⟩ := e
  rfl
theorem CloneC_at {l : List Stp} (h : l.length ≤ 1000000) : CloneC.F [.one (.flat false 4 (stps l))] = some (.one (.flat true 4 (stps l)), []) :=
  conP_at (a := l) (fun a b _ _ h => by simp at h; rw [stps_inj h]) h
theorem Clone_ok : SoundC Try.prog T 87 CloneC := by
  refine sound_pure Try.func87 (by rfl) (by rfl) (by simp [CloneC, conP]) ?_
  have hfull : SoundP Try.prog 87 (conF (fun l : List Stp => l.length ≤ 1000000 ∧ l ≠ []) (fun l => [.one (.flat false 4 (stps l))]) (fun l => .one (.flat true 4 (stps l)))) := by
    refine con_pure (X := { Γ := [], T := T, nt := 8 }) cr_none hmix hT sound_nil Try.func87 (by rfl) (by rfl) (by rfl) 1 ?_
    rintro l ⟨hl, hne⟩
    refine ⟨⟨Nat.le_of_ble_eq_true rfl, Nat.le_of_ble_eq_true rfl⟩, ?_⟩
    have hpos : 0 < l.length := List.length_pos_iff.2 hne
    refine Pick.T (by rw [stps_length]; simpa using hpos) ?_
    refine Pick.T (by simp [cut, stps_length]; omega) ?_
    exact ⟨rfl, rfl, rfl⟩
  intro vs r outs hF w us hus
  obtain ⟨l, hl, rfl, rfl⟩ := conF_inv (pre := fun l : List Stp => l.length ≤ 1000000) (enc := fun l => [.one (.flat false 4 (stps l))]) (val := fun l => .one (.flat true 4 (stps l))) hF
  by_cases hne : l = []
  · subst hne
    obtain ⟨u, hu, x, hx, hFl⟩ : ∃ u, us = #[u] ∧ CellOk w noLab 0 (.flat false 4 (stps [])) u := by
      obtain ⟨us⟩ := us
      match us, hus with
      | [u], hus => exact ⟨u, rfl, hus.1⟩
      | [], hus => exact hus.elim
      | _ :: _ :: _, hus => exact hus.2.elim
    subst hu
    subst hx
    refine (clone_empty x.A x.c w).mono ?_
    rintro e w' ⟨B, c', rfl, hf, hB⟩
    rcases hB with ⟨rfl, rfl⟩ | ⟨gb, cur, T', rfl, h1, h2, h3, h4⟩
    · exact ⟨_, noLab, rfl, hf, fun b k h => by simp [noLab] at h, ⟨⟨none, 0, fun _ => none, fun _ => 0⟩, rfl, FlatOk.nil (by omega)⟩⟩
    · have hlt : gb < w'.heap.size := by
        rcases Nat.lt_or_ge gb w'.heap.size with h | h
        · exact h
        · simp [Array.getElem?_eq_none h] at h2
      refine ⟨_, fun b => if b = gb then some (0, none) else none, rfl, hf, fun b k h => ?_, ⟨⟨some ⟨gb, 0, none⟩, c', fun _ => none, fun _ => 0⟩, rfl, ?_⟩⟩
      · dsimp only at h
        split at h
        · rename_i e; subst e; exact ⟨h1, hlt⟩
        · simp at h
      · exact { fits := Nat.zero_le _, pos := by omega, even := fun i row h => by simp [stps] at h, cell := fun i row j x h => by simp [stps] at h, room := fun _ => .inr ⟨gb, 0, cur, T', rfl, if_pos rfl, h2, by dsimp only; omega, h4⟩ }
  · exact hfull _ _ _ (conF_at (fun a b _ _ h => by simp at h; rw [stps_inj h]) ⟨hl, hne⟩) w us hus
/-! ### reduce.Narrow -/
open Classical in
noncomputable def narrowB (n : Int) (E : List Ed) : Bool := decide (RightP n E) && decide ((runO n E).2.1 = [])
noncomputable def NarrowC : Con := conP 2 (fun _ : Int × List Ed => True) (fun a => [grV a.1 a.2]) (fun a => .one (.s (.b (narrowB a.1 a.2))))
theorem NarrowC_at (n : Int) (E : List Ed) : NarrowC.F [grV n E] = some (.one (.s (.b (narrowB n E))), []) :=
  conP_at (a := (n, E)) (fun x y _ _ h => by
    obtain ⟨n, E⟩ := x
    obtain ⟨n', E'⟩ := y
    simp at h
    obtain ⟨rfl, rfl⟩ := grV_inj h
    rfl) trivial
theorem Narrow_ok : SoundC Try.prog T 25 NarrowC := by
  refine sound_con (X := { Γ := [(39, RightC), (40, RunC)], T := T, nt := 12 }) cr_none hmix hT (sound_cons RightG_ok (sound_cons Run_ok sound_nil)) Try.func25 (by rfl) (by rfl) (by rfl) (by rfl) 2 ?_
  rintro ⟨n, E⟩ -
  refine ⟨⟨Nat.le_of_ble_eq_true rfl, Nat.le_of_ble_eq_true rfl⟩, ?_⟩
  refine Call.by _ _ (RightC_at n E) ?_
  refine Pick.by (fun h1 => ?_) (fun h1 => ?_)
  · have h1 : RightP n E := by have h1 : decide (RightP n E) = true := h1; simpa using h1
    refine Call.by _ _ (RunC_at n E) ?_
    refine ⟨rfl, ?_⟩
    show Sc.b ((((ints (runO n E).2.1).length : Nat) : Int) == 0) = Sc.b (narrowB n E)
    unfold narrowB
    rw [decide_eq_true h1, Bool.true_and, ints_length]
    congr 1
    rw [Bool.eq_iff_iff]
    simp
  · have h1 : ¬ RightP n E := by have h1 : decide (RightP n E) = false := h1; simpa using h1
    refine ⟨rfl, ?_⟩
    show Sc.b false = Sc.b (narrowB n E)
    unfold narrowB
    rw [decide_eq_false h1, Bool.false_and]
/-! ### reduce.Replay -/
def mayStp (N : List (List Int)) (G : List Bool) (s : Stp) : Bool := mayB N G s.1 && decide (stepF N s.1 = s)
def replS : List Stp → List (List Int) → List Bool → List Stp × Bool × List (List Int) × List Bool
  | [], N, G => ([], true, N, G)
  | s :: r, N, G => if mayStp N G s then (s :: (replS r (doN N s) (doG G s)).1, (replS r (doN N s) (doG G s)).2) else ([], false, N, G)
def replR (n : Int) (E : List Ed) (l : List Stp) : List Stp × Bool × List (List Int) × List Bool := replS l (nbrs n.toNat E) (List.replicate n.toNat false)
open Classical in
noncomputable def replO (n : Int) (E : List Ed) (l : List Stp) : (List Stp × List Int × List Ed) × Bool := if RightP n E then (((replR n E l).1, leftF (replR n E l).2.2.2, edgesF (replR n E l).2.2.1 (replR n E l).2.2.2), (replR n E l).2.1) else (([], [], []), false)
noncomputable def ReplC : Con := conP 3 (fun a : (Int × List Ed) × List Stp => a.2.length ≤ 1000000) (fun a => [grV a.1.1 a.1.2, .one (.flat false 4 (stps a.2))]) (fun a => .tup [logV true (replO a.1.1 a.1.2 a.2).1.1 (replO a.1.1 a.1.2 a.2).1.2.1 (replO a.1.1 a.1.2 a.2).1.2.2, .one (.s (.b (replO a.1.1 a.1.2 a.2).2))])
theorem ReplC_at {n : Int} {E : List Ed} {l : List Stp} (h : l.length ≤ 1000000) : ReplC.F [grV n E, .one (.flat false 4 (stps l))] = some (.tup [logV true (replO n E l).1.1 (replO n E l).1.2.1 (replO n E l).1.2.2, .one (.s (.b (replO n E l).2))], []) :=
  conP_at (a := ((n, E), l)) (fun a b _ _ h => by
    obtain ⟨⟨n, E⟩, l⟩ := a
    obtain ⟨⟨n', E'⟩, l'⟩ := b
    simp at h
    obtain ⟨h1, h2⟩ := h
    obtain ⟨rfl, rfl⟩ := grV_inj h1
    rw [stps_inj h2]) h
noncomputable def XRepl : Cx := { Γ := [(39, RightC), (70, BeginC), (71, MayC), (74, StepC), (87, CloneC), (98, turnC (fun l _ => l.Pairwise (· ≤ ·) ∧ l.length ≤ 1000000) (fun l x => l.erase x)), (99, turnC (fun l _ => l.Pairwise (· ≤ ·) ∧ l.length ≤ 1000000) insAt)], T := T, nt := 49, inl := [(75, inlF Try.f75), (76, inlF Try.f76)], jc := [70031] }
theorem XRepl_sound : Sound Try.prog T XRepl.Γ := sound_cons RightG_ok (sound_cons Begin_ok (sound_cons May_ok (sound_cons Step_ok (sound_cons Clone_ok (sound_cons (turn_sound Without_call) (sound_cons (turn_sound With_call) sound_nil))))))
theorem XRepl_ok : CrOk Try.prog (callAt 1 XRepl) := callAt_ok hmix hT XRepl_sound (inl_cons Try.func75 (by rfl) (by rfl) (by rfl) (inl_cons Try.func76 (by rfl) (by rfl) (by rfl) inl_nil)) cr_none 1
theorem eqStp (a b : Stp) : (a.1 == b.1 && (a.2.1 == b.2.1 && (a.2.2.1 == b.2.2.1 && (a.2.2.2 == b.2.2.2 && true)))) = decide (a = b) := by
  obtain ⟨a1, a2, a3, a4⟩ := a
  obtain ⟨b1, b2, b3, b4⟩ := b
  rw [Bool.eq_iff_iff]
  simp
theorem replS_go {l : List Stp} {N : List (List Int)} {G : List Bool} {s : Stp} (h : mayStp N G s = true) : replS (s :: l) N G = (s :: (replS l (doN N s) (doG G s)).1, (replS l (doN N s) (doG G s)).2) := if_pos h
theorem replS_no {l : List Stp} {N : List (List Int)} {G : List Bool} {s : Stp} (h : mayStp N G s = false) : replS (s :: l) N G = ([], false, N, G) := if_neg (by rw [h]; simp)
set_option maxHeartbeats 4000000 in
theorem Repl_ok : SoundC Try.prog T 53 ReplC := by
  refine sound_con (X := XRepl) (cr := callAt 1 XRepl) XRepl_ok hmix hT XRepl_sound Try.func53 (by rfl) (by rfl) (by rfl) (by rfl) 3 ?_
  rintro ⟨⟨n, E⟩, L⟩ hL
  dsimp only at hL ⊢
  refine ⟨⟨Nat.le_of_ble_eq_true rfl, Nat.le_of_ble_eq_true rfl⟩, ?_⟩
  refine Call.by _ _ (RightC_at n E) ?_
  refine Pick.by (fun h1 => ?_) (fun h1 => ?_)
  · have h1 : ¬ RightP n E := by have h1 : (!decide (RightP n E)) = true := h1; simpa using h1
    have hv : replO n E L = (([], [], []), false) := if_neg h1
    rw [hv]
    refine ⟨rfl, ?_⟩
    (repeat' first | exact rfl | exact trivial | refine And.intro ?_ ?_)
  have hR : RightP n E := by have h1 : (!decide (RightP n E)) = false := h1; simpa using h1
  have hv : replO n E L = (((replR n E L).1, leftF (replR n E L).2.2.2, edgesF (replR n E L).2.2.1 (replR n E L).2.2.2), (replR n E L).2.1) := if_pos hR
  rw [hv]
  refine Call.by _ _ (BeginC_at hR) ?_
  have hW := begin_wf hR
  have hNl := nbrs_length n.toNat E
  have hrep : replR n E L = ([] ++ (replS (L.drop 0) (nbrs n.toNat E) (List.replicate n.toNat false)).1, (replS (L.drop 0) (nbrs n.toNat E) (List.replicate n.toNat false)).2) := rfl
  generalize nbrs n.toNat E = N at *
  generalize List.replicate n.toNat false = G at *
  refine LoopP.intro (α := Nat × List (List Int) × List Bool) (fun a => a.1 ≤ L.length ∧ Wf a.2.1 a.2.2 ∧ replR n E L = (L.take a.1 ++ (replS (L.drop a.1) a.2.1 a.2.2).1, (replS (L.drop a.1) a.2.1 a.2.2).2)) (fun a => L.length - a.1) (fun a => [(1, .sl 4 none none), (4, .ptr 0 0), (6, .ptr 1 0), (15, .sl 4 none none), (16, .s (.i .i64 L.length)), (17, .s (.i .i64 a.1))])
    (fun a => [(0, some (.blk [.nils, .nils, .nils])), (1, some (.blk [.sl 2 none none, .sl 3 none none])), (2, some (.nest true 1 (rowsI a.2.1) [] [])), (3, some (.flat true 1 (bools a.2.2))), (4, some (.flat false 4 (stps L)))]) 5 (0, N, G) ⟨by omega, hW, hrep⟩ (by refine Weak.by [(0, some _), (1, some _), (2, some _), (3, some _), (4, some _)] (by ((repeat' first | exact rfl | exact trivial | refine And.intro ?_ ?_) <;> (repeat' first | exact rfl | exact trivial | refine And.intro ?_ ?_)); all_goals ((rw [stps_length]; rfl))) (by ((repeat' first | exact rfl | exact trivial | refine And.intro ?_ ?_) <;> (repeat' first | exact rfl | exact trivial | refine And.intro ?_ ?_)); all_goals ((rw [stps_length]; rfl))) (by rfl)) ?_
  clear hW hrep hNl
  rintro ⟨i, N, G⟩ ⟨hi, hW, hrep⟩
  dsimp only at hi hW hrep ⊢
  have hGN := hW.len
  refine Pick.by (fun hc => ?_) (fun hc => ?_)
  · have hlt : i < L.length := by simpa using hc
    obtain ⟨s, hs⟩ : ∃ s, L[i]? = some s := ⟨_, List.getElem?_eq_getElem hlt⟩
    have hse : L[i] = s := by rw [List.getElem?_eq_getElem hlt] at hs; injection hs
    have hrow : (stps L)[i]? = some [.i .i64 s.1, .i .i64 s.2.1, .i .i64 s.2.2.1, .b s.2.2.2] := by unfold stps; rw [List.getElem?_map, hs]; rfl
    have hdrop : L.drop i = s :: L.drop (i + 1) := by rw [List.drop_eq_getElem_cons hlt, hse]
    rw [hdrop] at hrep
    refine Idx.by i rfl (by rw [stps_length]; exact hlt) ?_
    refine Look.by _ hrow ?_
    refine Call.by _ _ (MayC_at s.1 hGN) ?_
    have hcS : cut (subOf none 0 0 i) (stps L) = stps (L.take i) := by
      simp only [subOf, cut, List.drop_zero, Nat.sub_zero, stps, List.map_take]
    have hcl := CloneC_at (l := L.take i) (by rw [List.length_take]; omega)
    rw [← hcS] at hcl
    refine Pick.by (fun hmy => ?_) (fun hmy => ?_)
    · have hmy : mayB N G s.1 = false := by have hmy : (!mayB N G s.1) = true := hmy; simpa using hmy
      rw [replS_no (by unfold mayStp; rw [hmy]; rfl), List.append_nil] at hrep
      rw [hrep]
      refine Seg.by (by kernel_rfl) ?_
      refine Rng.by 0 i rfl rfl (by omega) (by rw [stps_length]; omega) ?_
      refine Call.by _ _ hcl ?_
      refine Bar.by (by kernel_rfl) (by kernel_rfl) ?_
      have hGN := hW.len
      have hmo := hW.most
      have hNL := rowsI_length N
      refine LoopP.intro (α := Nat) (fun j => j ≤ N.length) (fun j => N.length - j) (fun j => [(2, .ptr 2 0), (4, .ptr 1 0), (5, .ptr 3 0), (13, .sl 4 none none), (14, .s (.i .i64 N.length)), (15, .s (.i .i64 j)), (1000004, .ptr 0 0)])
        (fun j => [(0, some (.blk [.nils, .nils, .nils])), (1, some (.blk [.nils, .nils, .nils])), (2, some (.blk [.sl 4 none none, .sl 5 none none])), (3, some (.blk [.sl 6 none none, .sl 7 none none, .sl 8 none none])), (4, some (.nest true 1 (rowsI N) [] [])), (5, some (.flat true 1 (bools G))), (6, some (.flat true 4 (stps (L.take i)))), (7, some (.flat true 1 (ints (leftK G j)))), (8, some (.flat true 2 (edges (edgesK N G j))))]) 9 0 (by omega) (by refine Weak.by [(0, some _), (1, some _), (2, some _), (3, some _), (4, some _), (5, some _), (6, some _), (7, none), (8, none)] (by ((repeat' first | exact rfl | exact trivial | refine And.intro ?_ ?_) <;> (repeat' first | exact rfl | exact trivial | refine And.intro ?_ ?_)); all_goals ((first | (rw [hNL]; rfl) | (exact hcS.symm)))) (by ((repeat' first | exact rfl | exact trivial | refine And.intro ?_ ?_) <;> (repeat' first | exact rfl | exact trivial | refine And.intro ?_ ?_)); all_goals ((first | (rw [hNL]; rfl) | (exact hcS.symm)))) (by rfl)) ?_
      rintro j hj
      have hlk := leftK_len G j
      have hek := edgesK_len hW j
      refine Pick.by (fun hd1 => ?_) (fun hd1 => ?_)
      · have hjl : j < N.length := by simpa using hd1
        have hgj : (bools G)[j]? = some [.b (G.getD j false)] := by
          refine bools_get ?_
          rw [List.getD_eq_getElem?_getD, List.getElem?_eq_getElem (by omega)]; rfl
        have hrj : (rowsI N)[j]? = some (ints (rowAt N j)) := by
          have := (rowAt_mem (N := N) (v := (j : Int)) (by omega) (by omega)).2
          exact rowsI_get this
        have hrl := hW.row_len (j : Int)
        refine Idx.by j rfl (by omega) ?_
        refine Pick.T (by rw [hNL]; simp; omega) ?_
        refine Idx.by j rfl (by rw [bools_length]; omega) ?_
        refine Look.by _ hgj ?_
        refine Pick.by (fun hd2 => ?_) (fun hd2 => ?_)
        · have hd2 : G.getD j false = true := hd2
          refine Pick.T (inI64_of (by omega) (by omega)) ?_
          refine Next.by (j + 1) (by omega) (by omega) (by refine Weak.by [(0, some _), (1, some _), (2, some _), (3, some _), (4, some _), (5, some _), (6, some _), (7, some _), (8, some _)] (by ((repeat' first | exact rfl | exact trivial | refine And.intro ?_ ?_) <;> (repeat' first | exact rfl | exact trivial | refine And.intro ?_ ?_)); all_goals ((first | (rw [leftK_succ, if_pos hd2, List.append_nil]) | (rw [edgesK_succ, if_pos hd2, List.append_nil])))) (by ((repeat' first | exact rfl | exact trivial | refine And.intro ?_ ?_) <;> (repeat' first | exact rfl | exact trivial | refine And.intro ?_ ?_)); all_goals ((first | (rw [leftK_succ, if_pos hd2, List.append_nil]) | (rw [edgesK_succ, if_pos hd2, List.append_nil])))) (by rfl))
        have hd2 : G.getD j false = false := hd2
        have hl1 : leftK G (j + 1) = leftK G j ++ [(j : Int)] := by rw [leftK_succ, if_neg (by rw [hd2]; simp)]
        have he1 : edgesK N G (j + 1) = edgesK N G j ++ outE N j := by rw [edgesK_succ, if_neg (by rw [hd2]; simp)]
        refine Pick.T (by simp [cut, ints_length]; omega) ?_
        refine Look.by _ hrj ?_
        refine LoopP.intro (α := Nat) (fun k => k ≤ (rowAt N j).length) (fun k => (rowAt N j).length - k) (fun k => [(2, .ptr 2 0), (4, .ptr 1 0), (5, .ptr 3 0), (6, .s (.i .i64 j)), (13, .sl 4 none none), (14, .s (.i .i64 N.length)), (15, .s (.i .i64 j)), (31, .sl 4 (some (j, 0)) none), (32, .s (.i .i64 (rowAt N j).length)), (33, .s (.i .i64 k)), (1000004, .ptr 0 0)])
          (fun k => [(0, some (.blk [.nils, .nils, .nils])), (1, some (.blk [.nils, .nils, .nils])), (2, some (.blk [.sl 4 none none, .sl 5 none none])), (3, some (.blk [.sl 6 none none, .sl 7 none none, .sl 8 none none])), (4, some (.nest true 1 (rowsI N) [] [])), (5, some (.flat true 1 (bools G))), (6, some (.flat true 4 (stps (L.take i)))), (7, some (.flat true 1 (ints (leftK G (j + 1))))), (8, some (.flat true 2 (edges (edgesK N G j ++ (((rowAt N j).take k).filter fun x => decide (x > (j : Int))).map fun x => ((j : Int), x)))))]) 9 0 (by omega) (by refine Weak.by [(0, some _), (1, some _), (2, some _), (3, some _), (4, some _), (5, some _), (6, some _), (7, some _), (8, some _)] (by ((repeat' first | exact rfl | exact trivial | refine And.intro ?_ ?_) <;> (repeat' first | exact rfl | exact trivial | refine And.intro ?_ ?_)); all_goals ((first | (rw [hl1, ints_snoc]; rfl) | (rw [List.take_zero]; simp; done) | (rw [ints_length]; rfl) | (simp; done)))) (by ((repeat' first | exact rfl | exact trivial | refine And.intro ?_ ?_) <;> (repeat' first | exact rfl | exact trivial | refine And.intro ?_ ?_)); all_goals ((first | (rw [hl1, ints_snoc]; rfl) | (rw [List.take_zero]; simp; done) | (rw [ints_length]; rfl) | (simp; done)))) (by rfl)) ?_
        rintro k hk
        have hpl : ((((rowAt N j).take k).filter fun x => decide (x > (j : Int))).map fun x => ((j : Int), x)).length ≤ 1000 := by
          rw [List.length_map]
          refine Nat.le_trans (List.length_filter_le _ _) ?_
          rw [List.length_take]; omega
        refine Pick.by (fun hd3 => ?_) (fun hd3 => ?_)
        · have hkl : k < (rowAt N j).length := by simpa using hd3
          obtain ⟨x, hx⟩ : ∃ x, (rowAt N j)[k]? = some x := ⟨_, List.getElem?_eq_getElem hkl⟩
          have hxe : (rowAt N j)[k] = x := by rw [List.getElem?_eq_getElem hkl] at hx; injection hx
          refine Look.by _ hrj ?_
          refine Idx.by k rfl (by rw [ints_length]; exact hkl) ?_
          refine Look.by _ hrj ?_
          refine Look.by _ (ints_get hx) ?_
          refine Pick.by (fun hd4 => ?_) (fun hd4 => ?_)
          · have hd4 : x > (j : Int) := by simpa using hd4
            refine Pick.T (by simp [cut, edges_length] at hpl ⊢; omega) ?_
            refine Pick.T (inI64_of (by omega) (by omega)) ?_
            refine Next.by (k + 1) (by omega) (by omega) (by refine Weak.by [(0, some _), (1, some _), (2, some _), (3, some _), (4, some _), (5, some _), (6, some _), (7, some _), (8, some _)] (by ((repeat' first | exact rfl | exact trivial | refine And.intro ?_ ?_) <;> (repeat' first | exact rfl | exact trivial | refine And.intro ?_ ?_)); all_goals ((first | (rw [List.take_succ_eq_append_getElem hkl, hxe, List.filter_append, List.map_append, List.filter_cons, if_pos (by simpa using hd4), List.filter_nil, ← List.append_assoc]; exact edges_snoc _ _) | (simp; done)))) (by ((repeat' first | exact rfl | exact trivial | refine And.intro ?_ ?_) <;> (repeat' first | exact rfl | exact trivial | refine And.intro ?_ ?_)); all_goals ((first | (rw [List.take_succ_eq_append_getElem hkl, hxe, List.filter_append, List.map_append, List.filter_cons, if_pos (by simpa using hd4), List.filter_nil, ← List.append_assoc]; exact edges_snoc _ _) | (simp; done)))) (by rfl))
          · have hd4 : ¬ x > (j : Int) := by simpa using hd4
            refine Pick.T (inI64_of (by omega) (by omega)) ?_
            refine Next.by (k + 1) (by omega) (by omega) (by refine Weak.by [(0, some _), (1, some _), (2, some _), (3, some _), (4, some _), (5, some _), (6, some _), (7, some _), (8, some _)] (by ((repeat' first | exact rfl | exact trivial | refine And.intro ?_ ?_) <;> (repeat' first | exact rfl | exact trivial | refine And.intro ?_ ?_)); all_goals ((first | (rw [List.take_succ_eq_append_getElem hkl, hxe, List.filter_append, List.map_append, List.filter_cons, if_neg (by simpa using hd4), List.filter_nil, List.map_nil, List.append_nil]) | (simp; done)))) (by ((repeat' first | exact rfl | exact trivial | refine And.intro ?_ ?_) <;> (repeat' first | exact rfl | exact trivial | refine And.intro ?_ ?_)); all_goals ((first | (rw [List.take_succ_eq_append_getElem hkl, hxe, List.filter_append, List.map_append, List.filter_cons, if_neg (by simpa using hd4), List.filter_nil, List.map_nil, List.append_nil]) | (simp; done)))) (by rfl))
        · have hkl : k = (rowAt N j).length := by simp at hd3; omega
          have hfull : edgesK N G (j + 1) = edgesK N G j ++ (((rowAt N j).take k).filter fun x => decide (x > (j : Int))).map fun x => ((j : Int), x) := by rw [he1, hkl, List.take_length]; rfl
          refine Pick.T (inI64_of (by omega) (by omega)) ?_
          refine Next.by (j + 1) (by omega) (by omega) (by refine Weak.by [(0, some _), (1, some _), (2, some _), (3, some _), (4, some _), (5, some _), (6, some _), (7, some _), (8, some _)] (by ((repeat' first | exact rfl | exact trivial | refine And.intro ?_ ?_) <;> (repeat' first | exact rfl | exact trivial | refine And.intro ?_ ?_)); all_goals ((rw [hfull]))) (by ((repeat' first | exact rfl | exact trivial | refine And.intro ?_ ?_) <;> (repeat' first | exact rfl | exact trivial | refine And.intro ?_ ?_)); all_goals ((rw [hfull]))) (by rfl))
      have hjl : j = N.length := by simp at hd1; omega
      subst hjl
      have e1 : leftF G = leftK G N.length := by unfold leftF leftK; rw [hGN]
      have e2 : edgesF N G = edgesK N G N.length := by unfold edgesF edgesK; rw [e1]
      refine Seg.by (by kernel_rfl) ?_
      refine ⟨rfl, ?_⟩
      (repeat' first | exact rfl | exact trivial | refine And.intro ?_ ?_)
      all_goals (first | exact congrArg ints e1 | exact congrArg edges e2)
    have hmy : mayB N G s.1 = true := by have hmy : (!mayB N G s.1) = false := hmy; simpa using hmy
    have hmp := mayB_iff.1 hmy
    refine Call.by _ _ (StepC_at ⟨hW, hmp.lo, hmp.hi⟩) ?_
    refine Seg.by (by kernel_rfl) ?_
    refine Pick.by (fun hne => ?_) (fun hne => ?_)
    · have hne : ¬ stepF N s.1 = s := by
        have hne2 : (!decide (stepF N s.1 = s)) = true := by rw [← eqStp]; exact hne
        simpa using hne2
      rw [replS_no (by unfold mayStp; rw [hmy, decide_eq_false hne]; rfl), List.append_nil] at hrep
      rw [hrep]
      refine Rng.by 0 i rfl rfl (by omega) (by rw [stps_length]; omega) ?_
      refine Call.by _ _ hcl ?_
      refine Bar.by (by kernel_rfl) (by kernel_rfl) ?_
      have hGN := hW.len
      have hmo := hW.most
      have hNL := rowsI_length N
      refine LoopP.intro (α := Nat) (fun j => j ≤ N.length) (fun j => N.length - j) (fun j => [(2, .ptr 2 0), (4, .ptr 1 0), (5, .ptr 3 0), (13, .sl 4 none none), (14, .s (.i .i64 N.length)), (15, .s (.i .i64 j)), (1000004, .ptr 0 0)])
        (fun j => [(0, some (.blk [.nils, .nils, .nils])), (1, some (.blk [.nils, .nils, .nils])), (2, some (.blk [.sl 4 none none, .sl 5 none none])), (3, some (.blk [.sl 6 none none, .sl 7 none none, .sl 8 none none])), (4, some (.nest true 1 (rowsI N) [] [])), (5, some (.flat true 1 (bools G))), (6, some (.flat true 4 (stps (L.take i)))), (7, some (.flat true 1 (ints (leftK G j)))), (8, some (.flat true 2 (edges (edgesK N G j))))]) 9 0 (by omega) (by refine Weak.by [(0, some _), (1, some _), (2, some _), (3, some _), (4, some _), (5, some _), (6, some _), (7, none), (8, none)] (by ((repeat' first | exact rfl | exact trivial | refine And.intro ?_ ?_) <;> (repeat' first | exact rfl | exact trivial | refine And.intro ?_ ?_)); all_goals ((first | (rw [hNL]; rfl) | (exact hcS.symm)))) (by ((repeat' first | exact rfl | exact trivial | refine And.intro ?_ ?_) <;> (repeat' first | exact rfl | exact trivial | refine And.intro ?_ ?_)); all_goals ((first | (rw [hNL]; rfl) | (exact hcS.symm)))) (by rfl)) ?_
      rintro j hj
      have hlk := leftK_len G j
      have hek := edgesK_len hW j
      refine Pick.by (fun hd1 => ?_) (fun hd1 => ?_)
      · have hjl : j < N.length := by simpa using hd1
        have hgj : (bools G)[j]? = some [.b (G.getD j false)] := by
          refine bools_get ?_
          rw [List.getD_eq_getElem?_getD, List.getElem?_eq_getElem (by omega)]; rfl
        have hrj : (rowsI N)[j]? = some (ints (rowAt N j)) := by
          have := (rowAt_mem (N := N) (v := (j : Int)) (by omega) (by omega)).2
          exact rowsI_get this
        have hrl := hW.row_len (j : Int)
        refine Idx.by j rfl (by omega) ?_
        refine Pick.T (by rw [hNL]; simp; omega) ?_
        refine Idx.by j rfl (by rw [bools_length]; omega) ?_
        refine Look.by _ hgj ?_
        refine Pick.by (fun hd2 => ?_) (fun hd2 => ?_)
        · have hd2 : G.getD j false = true := hd2
          refine Pick.T (inI64_of (by omega) (by omega)) ?_
          refine Next.by (j + 1) (by omega) (by omega) (by refine Weak.by [(0, some _), (1, some _), (2, some _), (3, some _), (4, some _), (5, some _), (6, some _), (7, some _), (8, some _)] (by ((repeat' first | exact rfl | exact trivial | refine And.intro ?_ ?_) <;> (repeat' first | exact rfl | exact trivial | refine And.intro ?_ ?_)); all_goals ((first | (rw [leftK_succ, if_pos hd2, List.append_nil]) | (rw [edgesK_succ, if_pos hd2, List.append_nil])))) (by ((repeat' first | exact rfl | exact trivial | refine And.intro ?_ ?_) <;> (repeat' first | exact rfl | exact trivial | refine And.intro ?_ ?_)); all_goals ((first | (rw [leftK_succ, if_pos hd2, List.append_nil]) | (rw [edgesK_succ, if_pos hd2, List.append_nil])))) (by rfl))
        have hd2 : G.getD j false = false := hd2
        have hl1 : leftK G (j + 1) = leftK G j ++ [(j : Int)] := by rw [leftK_succ, if_neg (by rw [hd2]; simp)]
        have he1 : edgesK N G (j + 1) = edgesK N G j ++ outE N j := by rw [edgesK_succ, if_neg (by rw [hd2]; simp)]
        refine Pick.T (by simp [cut, ints_length]; omega) ?_
        refine Look.by _ hrj ?_
        refine LoopP.intro (α := Nat) (fun k => k ≤ (rowAt N j).length) (fun k => (rowAt N j).length - k) (fun k => [(2, .ptr 2 0), (4, .ptr 1 0), (5, .ptr 3 0), (6, .s (.i .i64 j)), (13, .sl 4 none none), (14, .s (.i .i64 N.length)), (15, .s (.i .i64 j)), (31, .sl 4 (some (j, 0)) none), (32, .s (.i .i64 (rowAt N j).length)), (33, .s (.i .i64 k)), (1000004, .ptr 0 0)])
          (fun k => [(0, some (.blk [.nils, .nils, .nils])), (1, some (.blk [.nils, .nils, .nils])), (2, some (.blk [.sl 4 none none, .sl 5 none none])), (3, some (.blk [.sl 6 none none, .sl 7 none none, .sl 8 none none])), (4, some (.nest true 1 (rowsI N) [] [])), (5, some (.flat true 1 (bools G))), (6, some (.flat true 4 (stps (L.take i)))), (7, some (.flat true 1 (ints (leftK G (j + 1))))), (8, some (.flat true 2 (edges (edgesK N G j ++ (((rowAt N j).take k).filter fun x => decide (x > (j : Int))).map fun x => ((j : Int), x)))))]) 9 0 (by omega) (by refine Weak.by [(0, some _), (1, some _), (2, some _), (3, some _), (4, some _), (5, some _), (6, some _), (7, some _), (8, some _)] (by ((repeat' first | exact rfl | exact trivial | refine And.intro ?_ ?_) <;> (repeat' first | exact rfl | exact trivial | refine And.intro ?_ ?_)); all_goals ((first | (rw [hl1, ints_snoc]; rfl) | (rw [List.take_zero]; simp; done) | (rw [ints_length]; rfl) | (simp; done)))) (by ((repeat' first | exact rfl | exact trivial | refine And.intro ?_ ?_) <;> (repeat' first | exact rfl | exact trivial | refine And.intro ?_ ?_)); all_goals ((first | (rw [hl1, ints_snoc]; rfl) | (rw [List.take_zero]; simp; done) | (rw [ints_length]; rfl) | (simp; done)))) (by rfl)) ?_
        rintro k hk
        have hpl : ((((rowAt N j).take k).filter fun x => decide (x > (j : Int))).map fun x => ((j : Int), x)).length ≤ 1000 := by
          rw [List.length_map]
          refine Nat.le_trans (List.length_filter_le _ _) ?_
          rw [List.length_take]; omega
        refine Pick.by (fun hd3 => ?_) (fun hd3 => ?_)
        · have hkl : k < (rowAt N j).length := by simpa using hd3
          obtain ⟨x, hx⟩ : ∃ x, (rowAt N j)[k]? = some x := ⟨_, List.getElem?_eq_getElem hkl⟩
          have hxe : (rowAt N j)[k] = x := by rw [List.getElem?_eq_getElem hkl] at hx; injection hx
          refine Look.by _ hrj ?_
          refine Idx.by k rfl (by rw [ints_length]; exact hkl) ?_
          refine Look.by _ hrj ?_
          refine Look.by _ (ints_get hx) ?_
          refine Pick.by (fun hd4 => ?_) (fun hd4 => ?_)
          · have hd4 : x > (j : Int) := by simpa using hd4
            refine Pick.T (by simp [cut, edges_length] at hpl ⊢; omega) ?_
            refine Pick.T (inI64_of (by omega) (by omega)) ?_
            refine Next.by (k + 1) (by omega) (by omega) (by refine Weak.by [(0, some _), (1, some _), (2, some _), (3, some _), (4, some _), (5, some _), (6, some _), (7, some _), (8, some _)] (by ((repeat' first | exact rfl | exact trivial | refine And.intro ?_ ?_) <;> (repeat' first | exact rfl | exact trivial | refine And.intro ?_ ?_)); all_goals ((first | (rw [List.take_succ_eq_append_getElem hkl, hxe, List.filter_append, List.map_append, List.filter_cons, if_pos (by simpa using hd4), List.filter_nil, ← List.append_assoc]; exact edges_snoc _ _) | (simp; done)))) (by ((repeat' first | exact rfl | exact trivial | refine And.intro ?_ ?_) <;> (repeat' first | exact rfl | exact trivial | refine And.intro ?_ ?_)); all_goals ((first | (rw [List.take_succ_eq_append_getElem hkl, hxe, List.filter_append, List.map_append, List.filter_cons, if_pos (by simpa using hd4), List.filter_nil, ← List.append_assoc]; exact edges_snoc _ _) | (simp; done)))) (by rfl))
          · have hd4 : ¬ x > (j : Int) := by simpa using hd4
            refine Pick.T (inI64_of (by omega) (by omega)) ?_
            refine Next.by (k + 1) (by omega) (by omega) (by refine Weak.by [(0, some _), (1, some _), (2, some _), (3, some _), (4, some _), (5, some _), (6, some _), (7, some _), (8, some _)] (by ((repeat' first | exact rfl | exact trivial | refine And.intro ?_ ?_) <;> (repeat' first | exact rfl | exact trivial | refine And.intro ?_ ?_)); all_goals ((first | (rw [List.take_succ_eq_append_getElem hkl, hxe, List.filter_append, List.map_append, List.filter_cons, if_neg (by simpa using hd4), List.filter_nil, List.map_nil, List.append_nil]) | (simp; done)))) (by ((repeat' first | exact rfl | exact trivial | refine And.intro ?_ ?_) <;> (repeat' first | exact rfl | exact trivial | refine And.intro ?_ ?_)); all_goals ((first | (rw [List.take_succ_eq_append_getElem hkl, hxe, List.filter_append, List.map_append, List.filter_cons, if_neg (by simpa using hd4), List.filter_nil, List.map_nil, List.append_nil]) | (simp; done)))) (by rfl))
        · have hkl : k = (rowAt N j).length := by simp at hd3; omega
          have hfull : edgesK N G (j + 1) = edgesK N G j ++ (((rowAt N j).take k).filter fun x => decide (x > (j : Int))).map fun x => ((j : Int), x) := by rw [he1, hkl, List.take_length]; rfl
          refine Pick.T (inI64_of (by omega) (by omega)) ?_
          refine Next.by (j + 1) (by omega) (by omega) (by refine Weak.by [(0, some _), (1, some _), (2, some _), (3, some _), (4, some _), (5, some _), (6, some _), (7, some _), (8, some _)] (by ((repeat' first | exact rfl | exact trivial | refine And.intro ?_ ?_) <;> (repeat' first | exact rfl | exact trivial | refine And.intro ?_ ?_)); all_goals ((rw [hfull]))) (by ((repeat' first | exact rfl | exact trivial | refine And.intro ?_ ?_) <;> (repeat' first | exact rfl | exact trivial | refine And.intro ?_ ?_)); all_goals ((rw [hfull]))) (by rfl))
      have hjl : j = N.length := by simp at hd1; omega
      subst hjl
      have e1 : leftF G = leftK G N.length := by unfold leftF leftK; rw [hGN]
      have e2 : edgesF N G = edgesK N G N.length := by unfold edgesF edgesK; rw [e1]
      refine Seg.by (by kernel_rfl) ?_
      refine ⟨rfl, ?_⟩
      (repeat' first | exact rfl | exact trivial | refine And.intro ?_ ?_)
      all_goals (first | exact congrArg ints e1 | exact congrArg edges e2)
    have hne : stepF N s.1 = s := by
      have hne2 : (!decide (stepF N s.1 = s)) = false := by rw [← eqStp]; exact hne
      simpa using hne2
    rw [replS_go (by unfold mayStp; rw [hmy, decide_eq_true hne]; rfl)] at hrep
    obtain ⟨V, hV⟩ : ∃ V, s.1 = V := ⟨_, rfl⟩
    rw [hV] at hmp hne hmy
    subst hne
    obtain ⟨hs1, hs2⟩ := step_two hW hmp rfl
    have hlo := hmp.lo
    have hhi := hmp.hi
    have hrv := hW.rows V
    have hnd : (rowAt N V).Nodup := hrv.1.imp fun hab => by omega
    have hNL := rowsI_length N
    have hmo := hW.most
    have hrl := hW.row_len V
    have hgv : (rowsI N)[(V).toNat]? = some (ints (rowAt N V)) := rowsI_get (rowAt_mem hlo hhi).2
    have hvv : V ∉ rowAt N V := hW.irr V hlo
    have hpart : ∀ (di : Nat) (u : Int), 0 ≤ u → rowAt (((rowAt N V).take di).foldl (cutF V) N) u = if u ∈ (rowAt N V).take di then (rowAt N u).erase V else rowAt N u := fun di u hu => cuts_row (hnd.sublist (List.take_sublist _ _)) (fun x hx => hrv.2 x (List.mem_of_mem_take hx)) hu
    have hplen : ∀ di : Nat, (rowsI (((rowAt N V).take di).foldl (cutF V) N)).length = N.length := fun di => by rw [rowsI_length, cuts_length]
    have hpget : ∀ (di : Nat) (u : Int), 0 ≤ u → u < N.length → (rowsI (((rowAt N V).take di).foldl (cutF V) N))[u.toNat]? = some (ints (rowAt (((rowAt N V).take di).foldl (cutF V) N) u)) := fun di u h0 h1 => rowsI_get (rowAt_mem h0 (by rw [cuts_length]; exact h1)).2
    refine Idx.by (V).toNat (by show (V : Int) = _; omega) (by omega) ?_
    refine Pick.T (by rw [hNL]; simp; omega) ?_
    refine Look.by _ hgv ?_
    refine LoopP.intro (α := Nat) (fun di => di ≤ (rowAt N V).length) (fun di => (rowAt N V).length - di) (fun di => [(2, .ptr 8 0), (3, .ptr 9 0), (11, .sl 2 (some ((V).toNat, 0)) none), (12, .s (.i .i64 (rowAt N V).length)), (13, .s (.i .i64 di)), (1000001, .sl 4 none none), (1000004, .ptr 0 0), (1000006, .ptr 1 0), (1000015, .sl 4 none none), (1000016, .s (.i .i64 L.length)), (1000017, .s (.i .i64 i))])
      (fun di => [(0, some (.blk [.nils, .nils, .nils])), (1, some (.blk [.sl 2 none none, .sl 3 none none])), (4, some (.flat false 4 (stps L))), (2, some (.nest true 1 (rowsI (((rowAt N V).take di).foldl (cutF V) N)) [] [])), (3, some (.flat true 1 (bools G))), (8, some (.blk [.sl 2 none none, .sl 3 none none])), (9, some (.blk [.s (.i .i64 (stepF N V).1), .s (.i .i64 (stepF N V).2.1), .s (.i .i64 (stepF N V).2.2.1), .s (.b (stepF N V).2.2.2)]))]) 10 0 (by omega) (by refine Weak.by [(0, some _), (1, some _), (2, some _), (3, some _), (4, some _), (8, some _), (9, some _)] (by ((repeat' first | exact rfl | exact trivial | refine And.intro ?_ ?_) <;> (repeat' first | exact rfl | exact trivial | refine And.intro ?_ ?_)); all_goals ((first | (rw [ints_length]; rfl) | (simp; done)))) (by ((repeat' first | exact rfl | exact trivial | refine And.intro ?_ ?_) <;> (repeat' first | exact rfl | exact trivial | refine And.intro ?_ ?_)); all_goals ((first | (rw [ints_length]; rfl) | (simp; done)))) (by rfl)) ?_
    rintro di hi
    refine Pick.by (fun hc1 => ?_) (fun hc1 => ?_)
    · have hil : di < (rowAt N V).length := by simpa using hc1
      obtain ⟨x, hx⟩ : ∃ x, (rowAt N V)[di]? = some x := ⟨_, List.getElem?_eq_getElem hil⟩
      have hxm := List.mem_of_getElem? hx
      have hxr := hrv.2 x hxm
      have hxv : x ≠ V := fun e => hvv (e ▸ hxm)
      have hgi : (rowsI (((rowAt N V).take di).foldl (cutF V) N))[(V).toNat]? = some (ints (rowAt N V)) := by
        rw [hpget di V hlo hhi, hpart di V hlo, if_neg fun h => hvv (List.mem_of_mem_take h)]
      have hrx := hpget di x hxr.1 hxr.2
      have hstp : ((rowAt N V).take (di + 1)).foldl (cutF V) N = cutF V (((rowAt N V).take di).foldl (cutF V) N) x := by
        rw [List.take_succ_eq_append_getElem hil, List.foldl_append]
        have : (rowAt N V)[di] = x := by rw [List.getElem?_eq_getElem hil] at hx; injection hx
        rw [this]; rfl
      have hwx : (rowAt (((rowAt N V).take di).foldl (cutF V) N) x).Pairwise (· ≤ ·) ∧ (rowAt (((rowAt N V).take di).foldl (cutF V) N) x).length ≤ 1000000 := by
        have h1 := hW.rows x
        have h2 := hW.row_len x
        rw [hpart di x hxr.1]
        split
        · have h3 := List.length_erase_le (l := rowAt N x) (a := V)
          exact ⟨(erase_sorted h1.1).imp fun h => by omega, by omega⟩
        · exact ⟨h1.1.imp fun h => by omega, by omega⟩
      have hpl := hplen di
      refine Look.by _ hgi ?_
      refine Idx.by di rfl (by rw [ints_length]; exact hil) ?_
      refine Look.by _ hgi ?_
      refine Look.by _ (ints_get hx) ?_
      refine Idx.by x.toNat (by omega) (by omega) ?_
      refine Pick.T (by rw [hpl]; simp; omega) ?_
      refine Look.by _ hrx ?_
      refine Call.by _ _ (turnC_at hwx) ?_
      refine Idx.by x.toNat (by omega) (by omega) ?_
      refine Pick.T (by rw [hpl]; simp; omega) ?_
      refine Pick.T (by simp) ?_
      refine Seg.by (by kernel_rfl) ?_
      refine Pick.T (inI64_of (by omega) (by omega)) ?_
      refine Next.by (di + 1) (by omega) (by omega) (by refine Weak.by [(0, some _), (1, some _), (2, some _), (3, some _), (4, some _), (8, some _), (9, some _)] (by ((repeat' first | exact rfl | exact trivial | refine And.intro ?_ ?_) <;> (repeat' first | exact rfl | exact trivial | refine And.intro ?_ ?_)); all_goals ((first | (rw [hstp]; unfold cutF; rw [rowsI_set]; rfl) | (simp; done) | (simp; omega)))) (by ((repeat' first | exact rfl | exact trivial | refine And.intro ?_ ?_) <;> (repeat' first | exact rfl | exact trivial | refine And.intro ?_ ?_)); all_goals ((first | (rw [hstp]; unfold cutF; rw [rowsI_set]; rfl) | (simp; done) | (simp; omega)))) (by rfl))
    have hil : di = (rowAt N V).length := by simp at hc1; omega
    subst hil
    rw [List.take_length]
    have hN1 : ∀ u : Int, 0 ≤ u → rowAt ((rowAt N V).foldl (cutF V) N) u = (rowAt N u).erase V := fun u hu => by
      rw [cuts_row hnd hrv.2 hu]
      split
      · rfl
      · rename_i hno
        rw [List.erase_of_not_mem]
        exact fun h => hno (hW.sym u V hu hlo h)
    have hl1 : (rowsI ((rowAt N V).foldl (cutF V) N)).length = N.length := by rw [rowsI_length, cuts_length]
    refine JoinP.intro (α := Unit) (fun _ => True) (fun _ => [(2, .ptr 8 0), (3, .ptr 9 0), (1000001, .sl 4 none none), (1000004, .ptr 0 0), (1000006, .ptr 1 0), (1000015, .sl 4 none none), (1000016, .s (.i .i64 L.length)), (1000017, .s (.i .i64 i))])
      (fun _ => [(0, some (.blk [.nils, .nils, .nils])), (1, some (.blk [.sl 2 none none, .sl 3 none none])), (4, some (.flat false 4 (stps L))), (2, some (.nest true 1 (rowsI (if (stepF N V).2.2.2 then joinF (joinF ((rowAt N V).foldl (cutF V) N) (stepF N V).2.1 (stepF N V).2.2.1) (stepF N V).2.2.1 (stepF N V).2.1 else (rowAt N V).foldl (cutF V) N)) [] [])), (3, some (.flat true 1 (bools G))), (8, some (.blk [.sl 2 none none, .sl 3 none none])), (9, some (.blk [.s (.i .i64 (stepF N V).1), .s (.i .i64 (stepF N V).2.1), .s (.i .i64 (stepF N V).2.2.1), .s (.b (stepF N V).2.2.2)]))]) 10 ?_ ?_
    rotate_left
    · rintro ⟨⟩ -
      have hl2 : (rowsI (if (stepF N V).2.2.2 then joinF (joinF ((rowAt N V).foldl (cutF V) N) (stepF N V).2.1 (stepF N V).2.2.1) (stepF N V).2.2.1 (stepF N V).2.1 else (rowAt N V).foldl (cutF V) N)).length = N.length := by
        rw [rowsI_length]
        split
        · rw [joinF_length, joinF_length, cuts_length]
        · rw [cuts_length]
      have hdo : (rowsI (if (stepF N V).2.2.2 then joinF (joinF ((rowAt N V).foldl (cutF V) N) (stepF N V).2.1 (stepF N V).2.2.1) (stepF N V).2.2.1 (stepF N V).2.1 else (rowAt N V).foldl (cutF V) N)).set (V).toNat [] = rowsI (doN N (stepF N V)) := by
        unfold doN
        rw [rowsI_set]; rfl
      have hdg : (bools G).set (V).toNat [.b true] = bools (doG G (stepF N V)) := by
        unfold doG bools
        rw [List.map_set]; rfl
      generalize rowsI (if (stepF N V).2.2.2 then joinF (joinF ((rowAt N V).foldl (cutF V) N) (stepF N V).2.1 (stepF N V).2.2.1) (stepF N V).2.2.1 (stepF N V).2.1 else (rowAt N V).foldl (cutF V) N) = RR at hl2 hdo ⊢
      refine Idx.by (V).toNat (by show (V : Int) = _; omega) (by omega) ?_
      refine Pick.T (by rw [hl2]; simp; omega) ?_
      refine Idx.by (V).toNat (by show (V : Int) = _; omega) (by rw [bools_length, hW.len]; omega) ?_
      refine Look.by _ (bools_get (goneAt_get hW.len hlo hhi)) ?_
      refine Seg.by (by kernel_rfl) ?_
      refine Pick.T (inI64_of (by omega) (by omega)) ?_
      refine Next.by (i + 1, doN N (stepF N V), doG G (stepF N V)) ⟨by dsimp only; omega, do_wf hW hmp, ?_⟩ (by dsimp only; omega) (by refine Weak.by [(0, some _), (1, some _), (2, some _), (3, some _), (4, some _)] (by ((repeat' first | exact rfl | exact trivial | refine And.intro ?_ ?_) <;> (repeat' first | exact rfl | exact trivial | refine And.intro ?_ ?_)); all_goals ((first | (exact hdo.symm) | (exact hdg.symm)))) (by ((repeat' first | exact rfl | exact trivial | refine And.intro ?_ ?_) <;> (repeat' first | exact rfl | exact trivial | refine And.intro ?_ ?_)); all_goals ((first | (exact hdo.symm) | (exact hdg.symm)))) (by rfl))
      dsimp only
      rw [hrep, List.take_succ_eq_append_getElem hlt, hse, List.append_assoc]; rfl
    refine Pick.by (fun had => ?_) (fun had => ?_)
    · have had : (stepF N V).2.2.2 = true := had
      rw [if_pos had]
      rcases hs2 with ⟨_, _, _, e⟩ | ⟨_, _, _, _, e⟩ | ⟨a, b, hlv, hab, ea, eb, ec⟩
      · rw [had] at e; cases e
      · rw [had] at e; cases e
      have har := hrv.2 a (by rw [hlv]; simp)
      have hbr := hrv.2 b (by rw [hlv]; simp)
      have hra : (rowsI ((rowAt N V).foldl (cutF V) N))[a.toNat]? = some (ints ((rowAt N a).erase V)) := by
        have h1 := rowsI_get (rowAt_mem (N := (rowAt N V).foldl (cutF V) N) har.1 (by rw [cuts_length]; exact har.2)).2
        rw [hN1 a har.1] at h1
        exact h1
      have hrb : (rowsI ((rowAt N V).foldl (cutF V) N))[b.toNat]? = some (ints ((rowAt N b).erase V)) := by
        have h1 := rowsI_get (rowAt_mem (N := (rowAt N V).foldl (cutF V) N) hbr.1 (by rw [cuts_length]; exact hbr.2)).2
        rw [hN1 b hbr.1] at h1
        exact h1
      have hok : ∀ u, ((rowAt N u).erase V).Pairwise (· ≤ ·) ∧ ((rowAt N u).erase V).length ≤ 1000000 := fun u => by
        have h1 := hW.rows u
        have h2 := hW.row_len u
        have h3 := List.length_erase_le (l := rowAt N u) (a := V)
        exact ⟨(erase_sorted h1.1).imp fun h => by omega, by omega⟩
      rw [ea, eb]
      have hj : rowsI (joinF (joinF ((rowAt N V).foldl (cutF V) N) a b) b a) = ((rowsI ((rowAt N V).foldl (cutF V) N)).set a.toNat (ints (insAt ((rowAt N a).erase V) b))).set b.toNat (ints (insAt ((rowAt N b).erase V) a)) := by
        have e1 : rowAt (joinF ((rowAt N V).foldl (cutF V) N) a b) b = (rowAt N b).erase V := by
          unfold joinF
          rw [rowAt_set har.1 (by rw [cuts_length]; exact har.2) hbr.1, if_neg (by omega), hN1 b hbr.1]
        show rowsI ((joinF ((rowAt N V).foldl (cutF V) N) a b).set b.toNat (insAt (rowAt (joinF ((rowAt N V).foldl (cutF V) N) a b) b) a)) = _
        rw [e1, rowsI_set]
        unfold joinF
        rw [rowsI_set, hN1 a har.1]
      have hma : (rowsI ((rowAt N V).foldl (cutF V) N)).set a.toNat (ints (insAt ((rowAt N a).erase V) b)) ≠ [] ∨ True := .inr trivial
      have hl3 : ((rowsI ((rowAt N V).foldl (cutF V) N)).set a.toNat (ints (insAt ((rowAt N a).erase V) b))).length = N.length := by rw [List.length_set, hl1]
      have hrb2 : ((rowsI ((rowAt N V).foldl (cutF V) N)).set a.toNat (ints (insAt ((rowAt N a).erase V) b)))[b.toNat]? = some (ints ((rowAt N b).erase V)) := by rw [List.getElem?_set_ne (by omega)]; exact hrb
      refine Idx.by a.toNat (by omega) (by omega) ?_
      refine Pick.T (by rw [hl1]; simp; omega) ?_
      refine Look.by _ hra ?_
      refine Call.by _ _ (turnC_at (hok a)) ?_
      refine Idx.by a.toNat (by omega) (by omega) ?_
      refine Pick.T (by rw [hl1]; simp; omega) ?_
      refine Pick.T (by simp) ?_
      refine Seg.by (by kernel_rfl) ?_
      refine Idx.by b.toNat (by omega) (by omega) ?_
      refine Pick.T (by rw [hl3]; simp; omega) ?_
      refine Look.by _ hrb2 ?_
      refine Call.by _ _ (turnC_at (hok b)) ?_
      refine Idx.by b.toNat (by omega) (by omega) ?_
      refine Pick.T (by rw [hl3]; simp; omega) ?_
      refine Pick.T (by simp) ?_
      refine Seg.by (by kernel_rfl) ?_
      exact ⟨(), trivial, by refine Weak.by [(0, some _), (1, some _), (2, some _), (3, some _), (4, some _), (8, some _), (9, some _)] (by ((repeat' first | exact rfl | exact trivial | refine And.intro ?_ ?_) <;> (repeat' first | exact rfl | exact trivial | refine And.intro ?_ ?_)); all_goals ((exact hj))) (by ((repeat' first | exact rfl | exact trivial | refine And.intro ?_ ?_) <;> (repeat' first | exact rfl | exact trivial | refine And.intro ?_ ?_)); all_goals ((exact hj))) (by rfl)⟩
    · have had : (stepF N V).2.2.2 = false := had
      rw [if_neg (by rw [had]; simp)]
      exact ⟨(), trivial, by refine Weak.by [(0, some _), (1, some _), (2, some _), (3, some _), (4, some _), (8, some _), (9, some _)] (by ((repeat' first | exact rfl | exact trivial | refine And.intro ?_ ?_) <;> (repeat' first | exact rfl | exact trivial | refine And.intro ?_ ?_))) (by ((repeat' first | exact rfl | exact trivial | refine And.intro ?_ ?_) <;> (repeat' first | exact rfl | exact trivial | refine And.intro ?_ ?_))) (by rfl)⟩
  · have hge : i = L.length := by simp at hc; omega
    subst hge
    have hcl := CloneC_at (l := L) hL
    have hend : replS (L.drop L.length) N G = ([], true, N, G) := by rw [List.drop_length]; rfl
    rw [hend, List.take_length, List.append_nil] at hrep
    rw [hrep]
    refine Call.by _ _ hcl ?_
    refine Bar.by (by kernel_rfl) (by kernel_rfl) ?_
    have hGN := hW.len
    have hmo := hW.most
    have hNL := rowsI_length N
    refine LoopP.intro (α := Nat) (fun j => j ≤ N.length) (fun j => N.length - j) (fun j => [(2, .ptr 2 0), (4, .ptr 1 0), (5, .ptr 3 0), (13, .sl 4 none none), (14, .s (.i .i64 N.length)), (15, .s (.i .i64 j)), (1000004, .ptr 0 0)])
      (fun j => [(0, some (.blk [.nils, .nils, .nils])), (1, some (.blk [.nils, .nils, .nils])), (2, some (.blk [.sl 4 none none, .sl 5 none none])), (3, some (.blk [.sl 6 none none, .sl 7 none none, .sl 8 none none])), (4, some (.nest true 1 (rowsI N) [] [])), (5, some (.flat true 1 (bools G))), (6, some (.flat true 4 (stps L))), (7, some (.flat true 1 (ints (leftK G j)))), (8, some (.flat true 2 (edges (edgesK N G j))))]) 9 0 (by omega) (by refine Weak.by [(0, some _), (1, some _), (2, some _), (3, some _), (4, some _), (5, some _), (6, some _), (7, none), (8, none)] (by ((repeat' first | exact rfl | exact trivial | refine And.intro ?_ ?_) <;> (repeat' first | exact rfl | exact trivial | refine And.intro ?_ ?_)); all_goals ((first | (rw [hNL]; rfl) | done))) (by ((repeat' first | exact rfl | exact trivial | refine And.intro ?_ ?_) <;> (repeat' first | exact rfl | exact trivial | refine And.intro ?_ ?_)); all_goals ((first | (rw [hNL]; rfl) | done))) (by rfl)) ?_
    rintro j hj
    have hlk := leftK_len G j
    have hek := edgesK_len hW j
    refine Pick.by (fun hd1 => ?_) (fun hd1 => ?_)
    · have hjl : j < N.length := by simpa using hd1
      have hgj : (bools G)[j]? = some [.b (G.getD j false)] := by
        refine bools_get ?_
        rw [List.getD_eq_getElem?_getD, List.getElem?_eq_getElem (by omega)]; rfl
      have hrj : (rowsI N)[j]? = some (ints (rowAt N j)) := by
        have := (rowAt_mem (N := N) (v := (j : Int)) (by omega) (by omega)).2
        exact rowsI_get this
      have hrl := hW.row_len (j : Int)
      refine Idx.by j rfl (by omega) ?_
      refine Pick.T (by rw [hNL]; simp; omega) ?_
      refine Idx.by j rfl (by rw [bools_length]; omega) ?_
      refine Look.by _ hgj ?_
      refine Pick.by (fun hd2 => ?_) (fun hd2 => ?_)
      · have hd2 : G.getD j false = true := hd2
        refine Pick.T (inI64_of (by omega) (by omega)) ?_
        refine Next.by (j + 1) (by omega) (by omega) (by refine Weak.by [(0, some _), (1, some _), (2, some _), (3, some _), (4, some _), (5, some _), (6, some _), (7, some _), (8, some _)] (by ((repeat' first | exact rfl | exact trivial | refine And.intro ?_ ?_) <;> (repeat' first | exact rfl | exact trivial | refine And.intro ?_ ?_)); all_goals ((first | (rw [leftK_succ, if_pos hd2, List.append_nil]) | (rw [edgesK_succ, if_pos hd2, List.append_nil])))) (by ((repeat' first | exact rfl | exact trivial | refine And.intro ?_ ?_) <;> (repeat' first | exact rfl | exact trivial | refine And.intro ?_ ?_)); all_goals ((first | (rw [leftK_succ, if_pos hd2, List.append_nil]) | (rw [edgesK_succ, if_pos hd2, List.append_nil])))) (by rfl))
      have hd2 : G.getD j false = false := hd2
      have hl1 : leftK G (j + 1) = leftK G j ++ [(j : Int)] := by rw [leftK_succ, if_neg (by rw [hd2]; simp)]
      have he1 : edgesK N G (j + 1) = edgesK N G j ++ outE N j := by rw [edgesK_succ, if_neg (by rw [hd2]; simp)]
      refine Pick.T (by simp [cut, ints_length]; omega) ?_
      refine Look.by _ hrj ?_
      refine LoopP.intro (α := Nat) (fun k => k ≤ (rowAt N j).length) (fun k => (rowAt N j).length - k) (fun k => [(2, .ptr 2 0), (4, .ptr 1 0), (5, .ptr 3 0), (6, .s (.i .i64 j)), (13, .sl 4 none none), (14, .s (.i .i64 N.length)), (15, .s (.i .i64 j)), (31, .sl 4 (some (j, 0)) none), (32, .s (.i .i64 (rowAt N j).length)), (33, .s (.i .i64 k)), (1000004, .ptr 0 0)])
        (fun k => [(0, some (.blk [.nils, .nils, .nils])), (1, some (.blk [.nils, .nils, .nils])), (2, some (.blk [.sl 4 none none, .sl 5 none none])), (3, some (.blk [.sl 6 none none, .sl 7 none none, .sl 8 none none])), (4, some (.nest true 1 (rowsI N) [] [])), (5, some (.flat true 1 (bools G))), (6, some (.flat true 4 (stps L))), (7, some (.flat true 1 (ints (leftK G (j + 1))))), (8, some (.flat true 2 (edges (edgesK N G j ++ (((rowAt N j).take k).filter fun x => decide (x > (j : Int))).map fun x => ((j : Int), x)))))]) 9 0 (by omega) (by refine Weak.by [(0, some _), (1, some _), (2, some _), (3, some _), (4, some _), (5, some _), (6, some _), (7, some _), (8, some _)] (by ((repeat' first | exact rfl | exact trivial | refine And.intro ?_ ?_) <;> (repeat' first | exact rfl | exact trivial | refine And.intro ?_ ?_)); all_goals ((first | (rw [hl1, ints_snoc]; rfl) | (rw [List.take_zero]; simp; done) | (rw [ints_length]; rfl) | (simp; done)))) (by ((repeat' first | exact rfl | exact trivial | refine And.intro ?_ ?_) <;> (repeat' first | exact rfl | exact trivial | refine And.intro ?_ ?_)); all_goals ((first | (rw [hl1, ints_snoc]; rfl) | (rw [List.take_zero]; simp; done) | (rw [ints_length]; rfl) | (simp; done)))) (by rfl)) ?_
      rintro k hk
      have hpl : ((((rowAt N j).take k).filter fun x => decide (x > (j : Int))).map fun x => ((j : Int), x)).length ≤ 1000 := by
        rw [List.length_map]
        refine Nat.le_trans (List.length_filter_le _ _) ?_
        rw [List.length_take]; omega
      refine Pick.by (fun hd3 => ?_) (fun hd3 => ?_)
      · have hkl : k < (rowAt N j).length := by simpa using hd3
        obtain ⟨x, hx⟩ : ∃ x, (rowAt N j)[k]? = some x := ⟨_, List.getElem?_eq_getElem hkl⟩
        have hxe : (rowAt N j)[k] = x := by rw [List.getElem?_eq_getElem hkl] at hx; injection hx
        refine Look.by _ hrj ?_
        refine Idx.by k rfl (by rw [ints_length]; exact hkl) ?_
        refine Look.by _ hrj ?_
        refine Look.by _ (ints_get hx) ?_
        refine Pick.by (fun hd4 => ?_) (fun hd4 => ?_)
        · have hd4 : x > (j : Int) := by simpa using hd4
          refine Pick.T (by simp [cut, edges_length] at hpl ⊢; omega) ?_
          refine Pick.T (inI64_of (by omega) (by omega)) ?_
          refine Next.by (k + 1) (by omega) (by omega) (by refine Weak.by [(0, some _), (1, some _), (2, some _), (3, some _), (4, some _), (5, some _), (6, some _), (7, some _), (8, some _)] (by ((repeat' first | exact rfl | exact trivial | refine And.intro ?_ ?_) <;> (repeat' first | exact rfl | exact trivial | refine And.intro ?_ ?_)); all_goals ((first | (rw [List.take_succ_eq_append_getElem hkl, hxe, List.filter_append, List.map_append, List.filter_cons, if_pos (by simpa using hd4), List.filter_nil, ← List.append_assoc]; exact edges_snoc _ _) | (simp; done)))) (by ((repeat' first | exact rfl | exact trivial | refine And.intro ?_ ?_) <;> (repeat' first | exact rfl | exact trivial | refine And.intro ?_ ?_)); all_goals ((first | (rw [List.take_succ_eq_append_getElem hkl, hxe, List.filter_append, List.map_append, List.filter_cons, if_pos (by simpa using hd4), List.filter_nil, ← List.append_assoc]; exact edges_snoc _ _) | (simp; done)))) (by rfl))
        · have hd4 : ¬ x > (j : Int) := by simpa using hd4
          refine Pick.T (inI64_of (by omega) (by omega)) ?_
          refine Next.by (k + 1) (by omega) (by omega) (by refine Weak.by [(0, some _), (1, some _), (2, some _), (3, some _), (4, some _), (5, some _), (6, some _), (7, some _), (8, some _)] (by ((repeat' first | exact rfl | exact trivial | refine And.intro ?_ ?_) <;> (repeat' first | exact rfl | exact trivial | refine And.intro ?_ ?_)); all_goals ((first | (rw [List.take_succ_eq_append_getElem hkl, hxe, List.filter_append, List.map_append, List.filter_cons, if_neg (by simpa using hd4), List.filter_nil, List.map_nil, List.append_nil]) | (simp; done)))) (by ((repeat' first | exact rfl | exact trivial | refine And.intro ?_ ?_) <;> (repeat' first | exact rfl | exact trivial | refine And.intro ?_ ?_)); all_goals ((first | (rw [List.take_succ_eq_append_getElem hkl, hxe, List.filter_append, List.map_append, List.filter_cons, if_neg (by simpa using hd4), List.filter_nil, List.map_nil, List.append_nil]) | (simp; done)))) (by rfl))
      · have hkl : k = (rowAt N j).length := by simp at hd3; omega
        have hfull : edgesK N G (j + 1) = edgesK N G j ++ (((rowAt N j).take k).filter fun x => decide (x > (j : Int))).map fun x => ((j : Int), x) := by rw [he1, hkl, List.take_length]; rfl
        refine Pick.T (inI64_of (by omega) (by omega)) ?_
        refine Next.by (j + 1) (by omega) (by omega) (by refine Weak.by [(0, some _), (1, some _), (2, some _), (3, some _), (4, some _), (5, some _), (6, some _), (7, some _), (8, some _)] (by ((repeat' first | exact rfl | exact trivial | refine And.intro ?_ ?_) <;> (repeat' first | exact rfl | exact trivial | refine And.intro ?_ ?_)); all_goals ((rw [hfull]))) (by ((repeat' first | exact rfl | exact trivial | refine And.intro ?_ ?_) <;> (repeat' first | exact rfl | exact trivial | refine And.intro ?_ ?_)); all_goals ((rw [hfull]))) (by rfl))
    have hjl : j = N.length := by simp at hd1; omega
    subst hjl
    have e1 : leftF G = leftK G N.length := by unfold leftF leftK; rw [hGN]
    have e2 : edgesF N G = edgesK N G N.length := by unfold edgesF edgesK; rw [e1]
    refine Seg.by (by kernel_rfl) ?_
    refine ⟨rfl, ?_⟩
    (repeat' first | exact rfl | exact trivial | refine And.intro ?_ ?_)
    all_goals (first | exact congrArg ints e1 | exact congrArg edges e2)
end Go.Sh

set_option linter.unusedVariables false
set_option linter.unusedSimpArgs false
namespace Go.Sh
/-! ### reduction by a table -/
def inAt (I : List Bool) (v : Nat) : Bool := I.getD v false
def matAt (M : List (List Bool)) (u v : Nat) : Bool := (M.getD u []).getD v false
def setM (M : List (List Bool)) (u v : Nat) : List (List Bool) := M.set u ((M.getD u []).set v true)
def nearM (I : List Bool) (M : List (List Bool)) (v : Nat) : List Int := ((List.range I.length).filter fun x => inAt I x && matAt M v x).map fun (x : Nat) => (x : Int)
structure Sqr (n : Nat) (M : List (List Bool)) : Prop where
  len : M.length = n
  row : ∀ r ∈ M, r.length = n
theorem Sqr.at_ {n : Nat} {M : List (List Bool)} (h : Sqr n M) {u : Nat} (hu : u < n) : M[u]? = some (M.getD u []) ∧ (M.getD u []).length = n := by
  have hlt : u < M.length := by rw [h.len]; exact hu
  rw [List.getD_eq_getElem?_getD, List.getElem?_eq_getElem hlt]
  exact ⟨rfl, h.row _ (List.getElem_mem hlt)⟩
theorem Sqr.set {n : Nat} {M : List (List Bool)} (h : Sqr n M) {u v : Nat} (hu : u < n) : Sqr n (setM M u v) := by
  refine ⟨by rw [setM, List.length_set]; exact h.len, fun r hr => ?_⟩
  rcases List.mem_or_eq_of_mem_set hr with hr | rfl
  · exact h.row r hr
  · rw [List.length_set]; exact (h.at_ hu).2
theorem setM_at {n : Nat} {M : List (List Bool)} (h : Sqr n M) {u v : Nat} (hu : u < n) (hv : v < n) (a b : Nat) : matAt (setM M u v) a b = (matAt M a b || (decide (a = u) && decide (b = v))) := by
  unfold matAt setM
  have hl := (h.at_ hu).2
  rw [List.getD_eq_getElem?_getD (l := M.set u _), List.getElem?_set]
  by_cases e : u = a
  · subst e
    rw [if_pos rfl, if_pos (by rw [h.len]; exact hu)]
    simp only [Option.getD_some]
    rw [List.getD_eq_getElem?_getD, List.getElem?_set]
    by_cases e2 : v = b
    · subst e2
      rw [if_pos rfl, if_pos (by rw [hl]; exact hv)]; simp
    · rw [if_neg e2, ← List.getD_eq_getElem?_getD]
      have : ¬ b = v := fun h => e2 h.symm
      simp [this]
  · rw [if_neg e]
    have : ¬ a = u := fun h => e h.symm
    simp [this, List.getD_eq_getElem?_getD]
/-- the table tells what the rows tell -/
structure Sim (n : Nat) (N : List (List Int)) (G I : List Bool) (M : List (List Bool)) : Prop where
  wf : Wf N G
  len : N.length = n
  il : I.length = n
  sq : Sqr n M
  inn : ∀ v, v < n → inAt I v = !goneAt G v
  adj : ∀ u v, u < n → v < n → inAt I u = true → inAt I v = true → (matAt M u v = true ↔ (v : Int) ∈ rowAt N u)
theorem sorted_eq : ∀ {l m : List Int}, l.Pairwise (· < ·) → m.Pairwise (· < ·) → (∀ x, x ∈ l ↔ x ∈ m) → l = m := by
  intro l
  induction l with
  | nil =>
    intro m _ _ h
    cases m with
    | nil => rfl
    | cons b m => have := (h b).2 (by simp); simp at this
  | cons a l ih =>
    intro m hl hm h
    cases m with
    | nil => have := (h a).1 (by simp); simp at this
    | cons b m =>
      rw [List.pairwise_cons] at hl hm
      have hab : a = b := by
        rcases List.mem_cons.1 ((h a).1 (by simp)) with e | e
        · exact e
        · rcases List.mem_cons.1 ((h b).2 (by simp)) with e2 | e2
          · exact e2.symm
          · have := hl.1 b e2; have := hm.1 a e; omega
      subst hab
      rw [ih hl.2 hm.2 fun x => ?_]
      have := h x
      simp only [List.mem_cons] at this
      constructor
      · intro hx
        rcases this.1 (.inr hx) with e | e
        · have := hl.1 x hx; omega
        · exact e
      · intro hx
        rcases this.2 (.inr hx) with e | e
        · have := hm.1 x hx; omega
        · exact e
theorem range_cast_sorted {p : Nat → Bool} (n : Nat) : (((List.range n).filter p).map fun (x : Nat) => (x : Int)).Pairwise (· < ·) := by
  rw [List.pairwise_map]
  exact (List.Pairwise.sublist List.filter_sublist List.pairwise_lt_range).imp fun h => by omega
theorem mem_range_cast {p : Nat → Bool} {n : Nat} {x : Int} : x ∈ ((List.range n).filter p).map (fun (x : Nat) => (x : Int)) ↔ ∃ k : Nat, k < n ∧ p k = true ∧ x = k := by
  rw [List.mem_map]
  constructor
  · rintro ⟨k, hk, rfl⟩
    rw [List.mem_filter, List.mem_range] at hk
    exact ⟨k, hk.1, hk.2, rfl⟩
  · rintro ⟨k, h1, h2, rfl⟩
    exact ⟨k, by rw [List.mem_filter, List.mem_range]; exact ⟨h1, h2⟩, rfl⟩
section
variable {n : Nat} {N : List (List Int)} {G I : List Bool} {M : List (List Bool)}
theorem Sim.inRow (h : Sim n N G I M) {u : Nat} {x : Int} (hx : x ∈ rowAt N u) : 0 ≤ x ∧ x < n ∧ inAt I x.toNat = true := by
  have hr := (h.wf.rows u).2 x hx
  rw [h.len] at hr
  refine ⟨hr.1, hr.2, ?_⟩
  rw [h.inn _ (by omega), Int.toNat_of_nonneg hr.1]
  cases hg : goneAt G x with
  | false => rfl
  | true =>
    have h1 := h.wf.gone x hr.1 hg
    have h2 := h.wf.sym u x (by omega) hr.1 hx
    rw [h1] at h2; simp at h2
theorem Sim.near (h : Sim n N G I M) {v : Nat} (hv : v < n) (hi : inAt I v = true) : nearM I M v = rowAt N v := by
  refine sorted_eq (range_cast_sorted _) (h.wf.rows v).1 fun x => ?_
  unfold nearM
  rw [mem_range_cast, h.il]
  constructor
  · rintro ⟨k, h1, h2, rfl⟩
    rw [Bool.and_eq_true] at h2
    exact (h.adj v k hv h1 hi h2.1).1 h2.2
  · intro hx
    obtain ⟨h0, h1, h2⟩ := h.inRow hx
    refine ⟨x.toNat, by omega, ?_, by omega⟩
    rw [h2, Bool.true_and]
    exact (h.adj v x.toNat hv (by omega) hi h2).2 (by rw [Int.toNat_of_nonneg h0]; exact hx)
theorem Sim.may (h : Sim n N G I M) (v : Nat) (hv : v < n) : mayB N G v = (inAt I v && decide ((nearM I M v).length ≤ 2)) := by
  unfold mayB
  rw [decide_eq_true (show (0 : Int) ≤ (v : Int) by omega), decide_eq_true (show (v : Int) < (N.length : Int) by rw [h.len]; omega), Bool.true_and, Bool.true_and, ← h.inn v hv]
  cases hi : inAt I v with
  | false => rfl
  | true => rw [h.near hv hi]
/-- the step that the table tells -/
theorem Sim.step (h : Sim n N G I M) {v : Nat} (hv : v < n) (hi : inAt I v = true) {a b : Int} (hl : rowAt N v = [a, b]) : (stepF N v).2.2.2 = !matAt M a.toNat b.toNat := by
  have ha := h.inRow (u := v) (x := a) (by rw [hl]; simp)
  have hb := h.inRow (u := v) (x := b) (by rw [hl]; simp)
  have key := h.adj a.toNat b.toNat (by omega) (by omega) ha.2.2 hb.2.2
  rw [Int.toNat_of_nonneg hb.1, Int.toNat_of_nonneg ha.1] at key
  show (decide (1 < (rowAt N v).length) && !(rowAt N ((rowAt N v).getD 0 (-1))).elem ((rowAt N v).getD 1 (-1))) = _
  rw [hl]
  show (decide (1 < 2) && !(rowAt N a).elem b) = _
  rw [show decide (1 < 2) = true from rfl, Bool.true_and]
  congr 1
  rw [Bool.eq_iff_iff, key]
  simp
def goM (N : List (List Int)) (M : List (List Bool)) (v : Nat) : List (List Bool) := match rowAt N v with
  | [a, b] => setM (setM M a.toNat b.toNat) b.toNat a.toNat
  | _ => M
theorem Sim.go (h : Sim n N G I M) {v : Nat} (hv : v < n) (hm : MayP N G v) : Sim n (doN N (stepF N v)) (doG G (stepF N v)) (I.set v false) (goM N M v) := by
  have hi : inAt I v = true := by rw [h.inn v hv, hm.there]; rfl
  obtain ⟨_, hc⟩ := step_two h.wf hm rfl
  have hset : ∀ u, inAt (I.set v false) u = (inAt I u && decide (u ≠ v)) := fun u => by
    unfold inAt
    rw [List.getD_eq_getElem?_getD, List.getElem?_set]
    by_cases e : v = u
    · subst e
      rw [if_pos rfl, if_pos (by rw [h.il]; exact hv)]; simp
    · rw [if_neg e, ← List.getD_eq_getElem?_getD]
      have : u ≠ v := fun h => e h.symm
      simp [this]
  have hsq : Sqr n (goM N M v) := by
    unfold goM
    split
    · rename_i a b hl
      have ha := h.inRow (u := v) (x := a) (by rw [hl]; simp)
      have hb := h.inRow (u := v) (x := b) (by rw [hl]; simp)
      exact (h.sq.set (by omega)).set (by omega)
    · exact h.sq
  refine ⟨do_wf h.wf hm, by rw [doN_length]; exact h.len, by rw [List.length_set]; exact h.il, hsq, fun u hu => ?_, fun u w hu hw hiu hiw => ?_⟩
  · rw [hset, do_gone h.wf hm (by omega), h.inn u hu]
    by_cases e : u = v
    · subst e; simp
    · rw [if_neg (by omega)]; simp [e]
  · rw [hset] at hiu hiw
    simp only [Bool.and_eq_true, decide_eq_true_eq] at hiu hiw
    obtain ⟨_, hrow⟩ := do_row h.wf hm (show (0 : Int) ≤ (u : Int) by omega)
    rw [hrow]
    have hadj := h.adj u w hu hw hiu.1 hiw.1
    have hne1 : (u : Int) ≠ (v : Int) := by have := hiu.2; omega
    have hne2 : (w : Int) ≠ (v : Int) := by have := hiw.2; omega
    rcases hc with ⟨hl, _, _, hd⟩ | ⟨a, hl, _, _, hd⟩ | ⟨a, b, hl, hab, ea, eb, ed⟩
    · unfold goM
      rw [hl, hd]
      dsimp only
      rw [hadj]
      simp [hne1, hne2]
    · unfold goM
      rw [hl, hd]
      dsimp only
      rw [hadj]
      simp [hne1, hne2]
    · have ha := h.inRow (u := v) (x := a) (by rw [hl]; simp)
      have hb := h.inRow (u := v) (x := b) (by rw [hl]; simp)
      unfold goM
      rw [hl]
      dsimp only
      rw [setM_at (h.sq.set (by omega)) (by omega) (by omega), setM_at h.sq (by omega) (by omega), ea, eb]
      simp only [Bool.or_eq_true, Bool.and_eq_true, decide_eq_true_eq]
      rw [hadj]
      have e1 : (u : Int) = a ↔ u = a.toNat := by omega
      have e2 : (w : Int) = b ↔ w = b.toNat := by omega
      have e3 : (u : Int) = b ↔ u = b.toNat := by omega
      have e4 : (w : Int) = a ↔ w = a.toNat := by omega
      cases hd : (stepF N v).2.2.2 with
      | true =>
        rw [e1, e2, e3, e4]
        constructor
        · rintro ((h1 | h1) | h1)
          · exact ⟨hne1, .inl ⟨h1, hne2⟩⟩
          · exact ⟨hne1, .inr ⟨rfl, .inl h1⟩⟩
          · exact ⟨hne1, .inr ⟨rfl, .inr h1⟩⟩
        · rintro ⟨_, ⟨h1, _⟩ | ⟨_, h1 | h1⟩⟩
          · exact .inl (.inl h1)
          · exact .inl (.inr h1)
          · exact .inr h1
      | false =>
        rw [hd] at ed
        have hba : b ∈ rowAt N a := by
          cases hx : (rowAt N a).elem b with
          | false => rw [hx] at ed; cases ed
          | true => simpa using hx
        have hab2 : a ∈ rowAt N b := h.wf.sym a b ha.1 hb.1 hba
        constructor
        · rintro ((h1 | h1) | h1)
          · exact ⟨hne1, .inl ⟨h1, hne2⟩⟩
          · refine ⟨hne1, .inl ⟨?_, hne2⟩⟩
            rw [e1.2 h1.1, e2.2 h1.2]; exact hba
          · refine ⟨hne1, .inl ⟨?_, hne2⟩⟩
            rw [e3.2 h1.1, e4.2 h1.2]; exact hab2
        · rintro ⟨_, ⟨h1, _⟩ | ⟨h1, _⟩⟩
          · exact .inl (.inl h1)
          · cases h1
end
end Go.Sh

set_option linter.unusedVariables false
set_option linter.unusedSimpArgs false
namespace Go.Sh
open Go.Proofs
/-! ### a table, as it lies in memory -/
section
variable {n : Nat} {N : List (List Int)} {G I : List Bool} {M : List (List Bool)}
end
end Go.Sh

set_option linter.unusedVariables false
set_option linter.unusedSimpArgs false
namespace Go.Sh
open Go.Proofs
end Go.Sh

set_option linter.unusedVariables false
set_option linter.unusedSimpArgs false
namespace Go.Sh
open Go.Proofs
/-! ### carcanetlaw10.shown -/
def E4 : List Ed := [(0, 1), (0, 3), (1, 2), (2, 3)]
def K4E : List Ed := [(0, 1), (0, 2), (0, 3), (1, 2), (1, 3), (2, 3)]
theorem RE4 : RightP 4 E4 := by decide
theorem RK4 : RightP 4 K4E := by decide
theorem run_E4 : runO 4 E4 = ([(0, 1, 3, true), (1, 2, 3, false), (2, 3, -1, false), (3, -1, -1, false)], [], []) := by
  unfold runO
  rw [if_pos RE4]
  decide +kernel
theorem run_K4 : runO 4 K4E = ([], [0, 1, 2, 3], K4E) := by
  unfold runO
  rw [if_pos RK4]
  decide +kernel
theorem repl_E4 : replO 4 E4 [(1, 0, 2, true), (3, 0, 1, false)] = (([(1, 0, 2, true)], [0, 2, 3], [(0, 2), (0, 3), (2, 3)]), false) := by
  unfold replO
  rw [if_pos RE4]
  refine Prod.ext (Prod.ext ?_ (Prod.ext ?_ ?_)) ?_ <;> decide +kernel
theorem nar_E4 : narrowB 4 E4 = true := by
  unfold narrowB
  rw [run_E4, decide_eq_true RE4]; rfl
theorem nar_K4 : narrowB 4 K4E = false := by
  unfold narrowB
  rw [run_K4, decide_eq_true RK4]; rfl
noncomputable def Shown10C : Con := conP 0 (fun _ : Unit => True) (fun _ => []) (fun _ => .one (.s (.b true)))
theorem Shown10C_at : Shown10C.F [] = some (.one (.s (.b true)), []) := conP_at (a := ()) (fun a b _ _ h => rfl) trivial
set_option maxRecDepth 100000 in
set_option maxHeartbeats 1000000 in
theorem Shown10_ok : SoundC Try.prog T 26 Shown10C := by
  refine sound_con (X := { Γ := [(40, RunC), (53, ReplC), (25, NarrowC)], T := T, nt := 96 }) cr_none hmix hT (sound_cons Run_ok (sound_cons Repl_ok (sound_cons Narrow_ok sound_nil))) Try.func26 (by rfl) (by rfl) (by rfl) (by rfl) 0 ?_
  rintro ⟨⟩ -
  refine ⟨⟨Nat.le_of_ble_eq_true rfl, Nat.le_of_ble_eq_true rfl⟩, ?_⟩
  have hE := RunC_at 4 E4
  rw [run_E4] at hE
  have hK := RunC_at 4 K4E
  rw [run_K4] at hK
  have hR := ReplC_at (n := 4) (E := E4) (l := [(1, 0, 2, true), (3, 0, 1, false)]) (by decide)
  rw [repl_E4] at hR
  have hN := NarrowC_at 4 E4
  rw [nar_E4] at hN
  have hM := NarrowC_at 4 K4E
  rw [nar_K4] at hM
  refine Call.by _ _ hE ?_
  refine Call.by _ _ hK ?_
  refine Call.by _ _ hR ?_
  refine Idx.by 0 rfl (by decide) ?_
  refine Look.by _ rfl ?_
  refine Idx.by 3 rfl (by decide) ?_
  refine Look.by _ rfl ?_
  refine Call.by _ _ hN ?_
  refine Call.by _ _ hM ?_
  exact ⟨rfl, rfl⟩
/-! ### carcanetlaw10.ReduceWrong -/
end Go.Sh

set_option linter.unusedVariables false
set_option linter.unusedSimpArgs false
namespace Go.Sh
open Go.Proofs
/-! ### how much is left -/
theorem firstMay_may {N : List (List Int)} {G : List Bool} {v : Nat} (h : firstMay N G = some v) : mayB N G v = true := by
  have := List.find?_some h
  simpa using this
theorem runS_wf : ∀ (f : Nat) {N : List (List Int)} {G : List Bool}, Wf N G → Wf (runS f N G).2.1 (runS f N G).2.2 ∧ (runS f N G).2.1.length = N.length ∧ (runS f N G).1.length ≤ f := by
  intro f
  induction f with
  | zero => intro N G h; exact ⟨h, rfl, by simp [runS]⟩
  | succ f ih =>
    intro N G h
    cases hf : firstMay N G with
    | none => rw [runS_end hf]; exact ⟨h, rfl, by simp⟩
    | some v =>
      rw [runS_go hf]
      obtain ⟨h1, h2, h3⟩ := ih (do_wf h (mayB_iff.1 (firstMay_may hf)))
      exact ⟨h1, by rw [h2, doN_length], by simp; omega⟩
/-! ### carcanetref10.Narrow -/
/-! ### carcanetref10.Same -/
/-! ### carcanetlaw10.ours -/
/-! ### carcanetlaw10.theirs -/
end Go.Sh

set_option linter.unusedVariables false
set_option linter.unusedSimpArgs false
namespace Go.Sh
/-! ### what is left, as a graph -/
theorem mem_leftF {G : List Bool} {v : Int} : v ∈ leftF G ↔ 0 ≤ v ∧ v < G.length ∧ goneAt G v = false := by
  unfold leftF
  rw [mem_range_cast]
  constructor
  · rintro ⟨k, h1, h2, rfl⟩
    refine ⟨by omega, by omega, ?_⟩
    rw [goneAt_nat]
    simpa using h2
  · rintro ⟨h1, h2, h3⟩
    refine ⟨v.toNat, by omega, ?_, by omega⟩
    unfold goneAt at h3
    rw [h3]; rfl
/-! ### runs -/
def live (G : List Bool) : Nat := G.countP (!·)
theorem first_no {N : List (List Int)} {G : List Bool} (h : firstMay N G = none) (u : Int) : mayB N G u = false := by
  cases hu : mayB N G u with
  | false => rfl
  | true =>
    have hm := mayB_iff.1 hu
    unfold firstMay at h
    rw [List.find?_eq_none] at h
    have h0 := hm.lo
    have h1 := hm.hi
    have := h u.toNat (by rw [List.mem_range]; omega)
    rw [Int.toNat_of_nonneg h0] at this
    exact absurd hu this
theorem live_pos {N : List (List Int)} {G : List Bool} (hW : Wf N G) {v : Int} (hm : mayB N G v = true) : 1 ≤ live G := by
  have := live_step hW (mayB_iff.1 hm)
  unfold live; omega
theorem run_end {N : List (List Int)} {G : List Bool} : ∀ {f : Nat}, Wf N G → live G ≤ f → ∀ u, mayB (runS f N G).2.1 (runS f N G).2.2 u = false := by
  intro f
  induction f generalizing N G with
  | zero =>
    intro h hf u
    cases hu : mayB N G u with
    | false => exact hu
    | true => have := live_pos h hu; omega
  | succ f ih =>
    intro h hf u
    cases hm : firstMay N G with
    | none => rw [runS_end hm]; exact first_no hm u
    | some v =>
      rw [runS_go hm]
      have hv := mayB_iff.1 (firstMay_may hm)
      have := live_step h hv
      exact ih (do_wf h hv) (by unfold live at hf ⊢; omega) u
theorem run_count {f : Nat} : ∀ {N : List (List Int)} {G : List Bool}, Wf N G → (runS f N G).1.length + live (runS f N G).2.2 = live G := by
  induction f with
  | zero => intro N G _; simp [runS]
  | succ f ih =>
    intro N G h
    cases hm : firstMay N G with
    | none => rw [runS_end hm]; simp
    | some v =>
      rw [runS_go hm]
      have hv := mayB_iff.1 (firstMay_may hm)
      have h1 := live_step h hv
      have h2 := ih (do_wf h hv)
      unfold live at *
      simp only [List.length_cons]
      omega
theorem live_zero (n : Nat) : live (List.replicate n false) = n := by unfold live; simp [List.countP_replicate]
end Go.Sh

set_option linter.unusedVariables false
set_option linter.unusedSimpArgs false
namespace Go.Sh
open Go.Proofs
/-! ### graph.Degrees -/
end Go.Sh

namespace Go.Proofs
open Go.RowKit Go.Shelf

attribute [local go_sem] Oper.semAt_some

def Try.upto {α : Type} (f : Nat → α) (k : Nat) : List α := (List.range k).map f
theorem Try.upto_succ {α : Type} (f : Nat → α) (k : Nat) : Try.upto f (k + 1) = Try.upto f k ++ [f k] := by simp [Try.upto, List.range_succ]
theorem Try.upto_length {α : Type} (f : Nat → α) (k : Nat) : (Try.upto f k).length = k := by simp [Try.upto]
theorem Try.upto_all (zs : List Int) : Try.upto (fun j => zs[j]?.getD 0) zs.length = zs := by
  apply List.ext_getElem
  · simp [Try.upto]
  · intro i h1 h2
    simp [Try.upto, h2]
theorem Try.upto_take (zs : List Int) {k : Nat} (hk : k ≤ zs.length) : Try.upto (fun j => zs[j]?.getD 0) k = zs.take k := by
  apply List.ext_getElem
  · simp [Try.upto, hk]
  · intro i h1 h2
    have : i < zs.length := by simp [Try.upto] at h1; omega
    simp [Try.upto, this]

set_option maxRecDepth 100000 in
set_option maxHeartbeats 2000000 in
theorem Try.values1_in (F : Fence) (n : Nat) (h7 : F.fn 123) (hro : F.round = none) (hn : 1 ≤ n) (l Bs n₀ len cap : Nat) (a : Addr) (zs : List Int) (hreach : len * 8 ≤ 140737488351232) (hb : a.block < n₀) (J Jx : List Int → World → Prop)
    (hY : ∀ pre x W, J pre W → pre.length < len → YieldAt F (n - 1) Try.prog l #[.int .i64 x] W fun e W' =>
      (e = .returned (.bool true) ∧ J (pre ++ [x]) W' ∧ Below n₀ W W') ∨ (e = .returned (.bool false) ∧ Jx (pre ++ [x]) W'))
    (W : World) (hBs : W.cell? ⟨Bs, 0, none⟩ = some (.slice (some a) len cap)) (hc : ∀ j, j < len → W.cell? (a.add j) = some (.int .i64 (zs[j]?.getD 0))) (h0 : J [] W) :
    CallsIn F n Try.prog 123 #[.func (.yield l) #[] #[], .pointer (some ⟨Bs, 0, none⟩)] W fun e W' => (∃ v, e = .returned v) ∧
      ((∃ ys, ys = Try.upto (fun j => zs[j]?.getD 0) len ∧ J ys W') ∨ (∃ pre, (∃ k, k ≤ len ∧ pre = Try.upto (fun j => zs[j]?.getD 0) k) ∧ Jx pre W')) := by
  refine callsIn_of_wp Try.func123 rfl h7 ?_ hro
  simp only [Try.ntmps123, List.size_toArray, List.length_cons, List.length_nil, Nat.reduceAdd, Nat.reduceSub, Array.replicate_succ, Array.replicate_zero, List.push_toArray, List.append_toArray, List.nil_append, List.cons_append]
  gi_wp2
  gi_loopw [7] (fun i wr => ∃ k : Nat, k ≤ len ∧ i = .int .i64 k ∧ J (Try.upto (fun j => zs[j]?.getD 0) k) wr ∧ Below n₀ W wr)
    (fun i _ => len - (intOf i).toNat)
  case atStart => exact ⟨0, Nat.zero_le _, rfl, h0, Below.refl _ _⟩
  case round =>
    obtain ⟨k, hk, rfl, hJs, hnx⟩ := hrel
    have hcx : k < len → wr.cell? (a.add k) = some (.int .i64 (zs[k]?.getD 0)) := fun h => (hnx.cell (p := a.add k) (by unfold Addr.add; split <;> exact hb)).trans (hc k h)
    by_cases hlt : k < len
    · obtain ⟨fn, tmps, assign, body, hy, hR⟩ := hY _ (zs[k]?.getD 0) wr hJs (by rw [Try.upto_length]; exact hlt)
      have hcx' := hcx hlt
      gi_wp2
      refine hR.mono ?_
      rintro e W3 (⟨rfl, hJ3, hk3⟩ | ⟨rfl, hJx3⟩)
      · gi_wp2
        go_roundw
        case rel => exact ⟨k + 1, by omega, by simp, by rw [Try.upto_succ]; exact hJ3, hnx.trans hk3⟩
        case measure => simp [intOf]; omega
      · gi_wp2
        refine bodyPost_ret (results_none rfl _ _ _) rfl ?_
        exact ⟨⟨_, rfl⟩, .inr ⟨_, ⟨k + 1, by omega, (Try.upto_succ _ _).symm⟩, hJx3⟩⟩
    · obtain rfl : k = len := by omega
      gi_wp2
      go_end0
      exact ⟨⟨_, rfl⟩, .inl ⟨_, rfl, hJs⟩⟩
set_option maxRecDepth 100000 in
set_option maxHeartbeats 1000000 in
theorem Try.values1_nil_in (F : Fence) (n : Nat) (h7 : F.fn 123) (hro : F.round = none) (l Bs : Nat) (a : Option Addr) (cap : Nat) (J : List Int → World → Prop) (W : World) (hBs : W.cell? ⟨Bs, 0, none⟩ = some (.slice a 0 cap)) (h0 : J [] W) :
    CallsIn F n Try.prog 123 #[.func (.yield l) #[] #[], .pointer (some ⟨Bs, 0, none⟩)] W fun e W' => (∃ v, e = .returned v) ∧ J [] W' := by
  refine callsIn_of_wp Try.func123 rfl h7 ?_ hro
  simp only [Try.ntmps123, List.size_toArray, List.length_cons, List.length_nil, Nat.reduceAdd, Nat.reduceSub, Array.replicate_succ, Array.replicate_zero, List.push_toArray, List.append_toArray, List.nil_append, List.cons_append]
  gi_wp2
  gi_loopw [7] (fun i wr => i = .int .i64 0 ∧ J [] wr) (fun _ _ => 0)
  case atStart => exact ⟨rfl, h0⟩
  case round =>
    obtain ⟨rfl, hJs⟩ := hrel
    gi_wp2
    go_end0
    exact ⟨⟨_, rfl⟩, hJs⟩

set_option maxHeartbeats 1000000 in
theorem Try.values_in (F : Fence) (n : Nat) (h5 : F.fn 104) (hro : F.round = none) (a : Option Addr) (len cap : Nat) (w : World) :
    CallsIn F n Try.prog 104 #[.slice a len cap] w fun e w' => e = .returned (.func (.func 123) #[] #[.pointer (some ⟨w.heap.size, 0, none⟩)]) ∧ w' = w.alloc (.cells #[.slice a len cap] 29) := by
  refine callsIn_of_wp Try.func104 rfl h5 ?_ hro
  simp only [Try.ntmps104, List.size_toArray, List.length_cons, List.length_nil, Nat.reduceAdd, Nat.reduceSub, Array.replicate_succ, Array.replicate_zero, List.push_toArray, List.append_toArray, List.nil_append, List.cons_append]
  gi_wp2
  go_ret
  exact ⟨rfl, rfl⟩
def Try.Ints (n₀ : Nat) (W : World) (sv : Value) (zs : List Int) : Prop :=
  (zs = [] ∧ ∃ a cap, sv = .slice a 0 cap) ∨ ∃ a cap, sv = .slice (some a) zs.length cap ∧ a.block < n₀ ∧ ∀ j, j < zs.length → W.cell? (a.add j) = some (.int .i64 (zs[j]?.getD 0))
theorem Try.add_block (a : Addr) (j : Nat) : (a.add j).block = a.block := by unfold Addr.add; split <;> rfl
theorem Try.Ints.below {n₀ : Nat} {A B : World} (h : Below n₀ A B) {sv : Value} {zs : List Int} : Try.Ints n₀ A sv zs → Try.Ints n₀ B sv zs
  | .inl e => .inl e
  | .inr ⟨a, cap, e, hb, hc⟩ => .inr ⟨a, cap, e, hb, fun j hj => (h.cell (p := a.add j) (by rw [Try.add_block]; exact hb)).trans (hc j hj)⟩
theorem Try.values_stops (F : Fence) (n : Nat) (h7 : F.fn 123) (hro : F.round = none) (hn : 1 ≤ n) (Bs n₀ : Nat) (sv : Value) (zs : List Int) (hreach : zs.length * 8 ≤ 140737488351232) (w : World) (hBs : Bs < w.heap.size) (hn₀ : n₀ ≤ w.heap.size)
    (hc : w.cell? ⟨Bs, 0, none⟩ = some sv) (hI : Try.Ints n₀ w sv zs) :
    SeqStopsK F n Try.prog 123 #[.pointer (some ⟨Bs, 0, none⟩)] (fun x : Int => #[Value.int .i64 x]) (Below n₀) (fun ys => ys = zs) (fun pre => pre <+: zs) zs.length w := fun l J Jx W hW _ _ hY h0 => by
  have hc' := (hW.cell (p := ⟨Bs, 0, none⟩) hBs).trans hc
  rcases hI.below (hW.mono hn₀) with ⟨rfl, a, cap, rfl⟩ | ⟨a, cap, rfl, hb, hcs⟩
  · exact (Try.values1_nil_in F n h7 hro l Bs a cap J W hc' h0).mono fun e W' ⟨he, hj⟩ => ⟨he, .inl ⟨_, rfl, hj⟩⟩
  · refine (Try.values1_in F n h7 hro hn l Bs n₀ zs.length cap a zs hreach hb J Jx hY W hc' hcs h0).mono ?_
    rintro e W' ⟨he, ⟨ys, rfl, hj⟩ | ⟨pre, ⟨k, hk, rfl⟩, hj⟩⟩
    · exact ⟨he, .inl ⟨_, Try.upto_all zs, hj⟩⟩
    · exact ⟨he, .inr ⟨_, by rw [Try.upto_take zs hk]; exact List.take_prefix _ _, hj⟩⟩
end Go.Proofs

namespace Go.Proofs
open Go.RowKit Go.Shelf

attribute [local go_sem] Oper.semAt_some
theorem Try.info3 : (Try.prog.info? 3).map (fun i => (i.zero, i.size, i.bytes)) = some (some (.int .i64 0), 1, 8) := by kernel_rfl
set_option maxRecDepth 100000 in
set_option maxHeartbeats 2000000 in
theorem Try.appendSeq_in (F : Fence) (n : Nat) (h116 : F.fn 139) (h103 : F.fn 123) (hro : F.round = none) (hn : 3 ≤ n) (Bs n₀ : Nat) (sv : Value) (zs : List Int) (hlen : zs.length ≤ maxLen) (hreach : zs.length * 8 ≤ 140737488351232) (w : World) (hBs : Bs < w.heap.size) (hn₀ : n₀ ≤ w.heap.size)
    (hc : w.cell? ⟨Bs, 0, none⟩ = some sv) (hI : Try.Ints n₀ w sv zs) :
    CallsIn F n Try.prog 139 #[.slice none 0 0, .func (.func 123) #[] #[.pointer (some ⟨Bs, 0, none⟩)]] w fun e W' => ∃ v, e = .returned v ∧ W'.ownsRow w.heap.size 3 1 v zs.length (zs.map (Value.int .i64)) ∧ (v = .slice none 0 0 ↔ zs = []) ∧ Below w.heap.size w W' := by
  have h1 : 1 ≤ n := by omega
  obtain ⟨i0, hi, hz0, hz1, hz2⟩ := info_parts Try.info3
  refine callsIn_of_wp_marks Try.func139 rfl h116 ?_ hro
  simp only [Try.ntmps139, List.size_toArray, List.length_cons, List.length_nil, Nat.reduceAdd, Nat.reduceSub, Array.replicate_succ, Array.replicate_zero, List.push_toArray, List.append_toArray, List.nil_append, List.cons_append]
  gi_wp2
  have bO := Boxed.new w 29 (.slice none 0 0)
  have hB0 : Below w.heap.size w (w.alloc (.cells #[.slice none 0 0] 29)) := ((Below.refl _ w).alloc (Nat.le_refl _) _)
  refine wpIn_rangeFunc_ownG hro h1 (gf := 123) (lb := #[.pointer (some ⟨Bs, 0, none⟩)]) rfl h103 (enters_of Try.func123 (by kernel_rfl) rfl)
    (Try.values_stops F (n - 1) h103 hro (by omega) Bs w.heap.size _ zs hreach _ (by simp; omega) (by simp) ((hB0.cell (p := ⟨Bs, 0, none⟩) hBs).trans hc) (by
      rcases hI.below (hB0.mono hn₀) with h | ⟨a, cap, e, hb, hcs⟩
      · exact .inl h
      · exact .inr ⟨a, cap, e, by omega, hcs⟩)) belowK_t (belowK_b (by simp)) (Below.refl _ _) (fun _ => rfl)
    (fun pre W => (∃ v, Boxed W w.heap.size 29 v ∧ W.ownsRow w.heap.size 3 1 v pre.length (pre.map (Value.int .i64)) ∧ (v = .slice none 0 0 ↔ pre = [])) ∧ Below w.heap.size w W)
    (fun _ _ _ => False)
    (OwnFrom.and (Own.from (holdsRow_own w.heap.size w.heap.size 29 3 1 (fun pre : List Int => pre.length) (fun pre => pre.map (Value.int .i64)) (fun pre v => v = .slice none 0 0 ↔ pre = [])) _) (ownFrom_below (Nat.le_refl _) (by simp)))
    (fun _ _ _ _ _ hs _ _ => hs)
    ⟨⟨_, bO, World.ownsRow_nil _ _ _ _, by simp⟩, hB0⟩
    (fun x => { tmps := #[.slice none 0 0, .func (.func 123) #[] #[.pointer (some ⟨Bs, 0, none⟩)], .pointer (some ⟨w.heap.size, 0, none⟩), undef, .slice none 0 0, .int .i64 x, .func (.func 123) #[] #[.pointer (some ⟨Bs, 0, none⟩)], .int .i64 x, undef, undef, undef, undef, undef], defers := [] }) ?assign ?body ?done ?stop
  case assign =>
    intro l x W K hK
    gi_wp2
    exact hK
  case body =>
    rintro l pre x W ⟨⟨v, hv, hrow, hnil⟩, hB⟩ hlt
    have hc := hv.cell
    gi_wp2_with (gi_at_builtin; refine wpListIn_append_own _ rfl _ _ 29 rfl w.heap.size 3 i0 (.int .i64 0) 1 8 Try.underlying29 hi hz0 hz1 hz2 rfl (by decide) _ _ _ rfl (hrow.alloc _) ⟨W.heap.size, 0, none⟩ 1 1 [.int .i64 x] rfl rfl (cell_one_new _ _ _) (by simp [Value.oneCell']) (by omega) (by omega) (by have := hB.size; simp; omega) ?_; intro v' w1 hown' hgrow _; obtain ⟨g', cap', rfl⟩ := ownsRow_succ hown'; obtain ⟨hv1, hv2, hr2, hk2, hb2⟩ := hv.appended (by decide) hrow hB.size (Nat.le_refl _) hown' hgrow; have hc1 := hv1.cell; have hf1 := hv1.frozen)
    exact ⟨hk2.from _, hb2, ⟨_, hv2, by simpa using hr2, by simp⟩, hB.trans hb2⟩
  case done =>
    rintro D ys W hD rfl ⟨⟨v, hv, hrow, hnil⟩, hB⟩ hK
    have hc := hv.cell
    gi_wp2
    refine ⟨by simp, .inl ⟨_, _, rfl, run_takeDeferred hK, ?_⟩⟩
    exact ⟨_, results_tmp rfl _ _ _, v, rfl, ownsRow_putObj hrow _ hK rfl, hnil, hB.trans (belowK_b (w := w) (Nat.le_refl _) W D _ _ (by simp at hD; omega) hK rfl rfl)⟩
  case stop =>
    rintro D c pre W _ _ h _
    exact h.elim
end Go.Proofs

namespace Go.Proofs
open Go.RowKit Go.Shelf Go.Maps Go.Sort

attribute [local go_sem] Oper.semAt_some
set_option maxRecDepth 100000 in
set_option maxHeartbeats 2000000 in
theorem Try.collect_in (F : Fence) (n : Nat) (h102 : F.fn 122) (h116 : F.fn 139) (h103 : F.fn 123) (hro : F.round = none) (hn : 4 ≤ n) (Bs n₀ : Nat) (sv : Value) (zs : List Int) (hlen : zs.length ≤ maxLen) (hreach : zs.length * 8 ≤ 140737488351232) (w : World) (hBs : Bs < w.heap.size) (hn₀ : n₀ ≤ w.heap.size)
    (hc : w.cell? ⟨Bs, 0, none⟩ = some sv) (hI : Try.Ints n₀ w sv zs) :
    CallsIn F n Try.prog 122 #[.func (.func 123) #[] #[.pointer (some ⟨Bs, 0, none⟩)]] w fun e W' => ∃ v, e = .returned v ∧ W'.ownsRow w.heap.size 3 1 v zs.length (zs.map (Value.int .i64)) ∧ (v = .slice none 0 0 ↔ zs = []) ∧ Below w.heap.size w W' := by
  have h1 : 1 ≤ n := by omega
  refine callsIn_of_wp Try.func122 rfl h102 ?_ hro
  simp only [Try.ntmps122, List.size_toArray, List.length_cons, List.length_nil, Nat.reduceAdd, Nat.reduceSub, Array.replicate_succ, Array.replicate_zero, List.push_toArray, List.append_toArray, List.nil_append, List.cons_append]
  gi_wp2_with (gi_at_call 139; refine (Try.appendSeq_in F (n - 1) h116 h103 hro (by omega) Bs n₀ sv zs hlen hreach w hBs hn₀ hc hI).mono ?_; rintro e w' ⟨v, rfl, hrow, hnil, hB⟩)
  go_ret
  exact ⟨v, rfl, hrow, hnil, hB⟩
def Try.SortsIn (F : Fence) (m : Nat) : Prop :=
  (∀ (blk off cap : Nat) (ss : List Int) (W : World), Holds (Value.int .i64) W blk off ss.toArray → blk < W.heap.size → ss.length < 4611686018427387904 →
    CallsIn F m Try.prog 77 #[.slice (some ⟨blk, off, none⟩) ss.length cap] W fun e w' => e = .returned (.tuple #[]) ∧ ∃ k os, w' = grow (putRow (Value.int .i64) (Sort.ahead W k) blk off (ss.mergeSort fun x y => decide (x ≤ y)).toArray) os) ∧
  (∀ (p : Option Addr) (cap : Nat) (W : World), CallsIn F m Try.prog 77 #[.slice p 0 cap] W fun e w' => e = .returned (.tuple #[]) ∧ w' = W)
theorem Try.sortsIn (m : Nat) : Try.SortsIn Fence.wide m :=
  ⟨fun blk off cap ss W h1 h2 h3 => callsIn_wide.2 (Any.slices_Sort_int Try.laysSort blk off cap ss W h1 h2 h3), fun p cap W => callsIn_wide.2 (Any.slices_Sort_int_none Try.laysSort p cap W)⟩
set_option maxRecDepth 100000 in
set_option maxHeartbeats 2000000 in
theorem Try.sorted_in (F : Fence) (n : Nat) (h92 : F.fn 103) (h84 : F.fn 77) (h102 : F.fn 122) (h116 : F.fn 139) (h103 : F.fn 123) (hro : F.round = none) (hn : 5 ≤ n) (hsort : Try.SortsIn F (n - 1)) (Bs n₀ : Nat) (sv : Value) (zs : List Int) (hlen : zs.length ≤ maxLen) (hreach : zs.length * 8 ≤ 140737488351232) (w : World) (hBs : Bs < w.heap.size) (hn₀ : n₀ ≤ w.heap.size)
    (hc : w.cell? ⟨Bs, 0, none⟩ = some sv) (hI : Try.Ints n₀ w sv zs) :
    CallsIn F n Try.prog 103 #[.func (.func 123) #[] #[.pointer (some ⟨Bs, 0, none⟩)]] w fun e W' => ∃ v, e = .returned v ∧ W'.ownsRow w.heap.size 3 1 v zs.length ((zs.mergeSort (fun x y => decide (x ≤ y))).map (Value.int .i64)) ∧ (v = .slice none 0 0 ↔ zs = []) ∧ Below w.heap.size w W' := by
  have h1 : 1 ≤ n := by omega
  refine callsIn_of_wp Try.func103 rfl h92 ?_ hro
  simp only [Try.ntmps103, List.size_toArray, List.length_cons, List.length_nil, Nat.reduceAdd, Nat.reduceSub, Array.replicate_succ, Array.replicate_zero, List.push_toArray, List.append_toArray, List.nil_append, List.cons_append]
  gi_wp2_with (gi_at_call 122; refine (Try.collect_in F (n - 1) h102 h116 h103 hro (by omega) Bs n₀ sv zs hlen hreach w hBs hn₀ hc hI).mono ?_; rintro e W ⟨v, rfl, hrow, hnil, hb⟩)
  rcases hrow.2 with ⟨rfl, hz⟩ | ⟨gb, cap, cur, rfl, hbase, hgb, r1, r2, r3, r4⟩
  · have hss : zs = [] := List.eq_nil_of_length_eq_zero hz
    subst hss
    gi_wp2_with (gi_at_call 77; refine (hsort.2 none 0 W).mono ?_; rintro e w' ⟨rfl, rfl⟩)
    go_ret
    exact ⟨.slice none 0 0, rfl, by simpa using hrow, by simp, hb⟩
  · have hH : Holds (Value.int .i64) W gb 0 zs.toArray := holds_of_block_i hgb (by simpa using r4)
    have hgl : gb < W.heap.size := (Array.getElem?_eq_some_iff.1 hgb).1
    have hsz : zs.length < 4611686018427387904 := by omega
    have cS := hsort.1 gb 0 cap zs W hH hgl hsz
    gi_wp2_with (gi_at_call 77; refine cS.mono ?_; rintro e w' ⟨rfl, nn, os, rfl⟩)
    go_ret
    exact ⟨_, rfl, ownsRow_sorted_i (by simp) hbase hgb r1 r2 r3, hnil, hb.grown (grownBy_sorted_i _) hb.size (fun j hj => by cases hj; exact hbase)⟩
end Go.Proofs

namespace Go.Proofs
open Go.RowKit Go.Shelf Go.Maps Go.Sort

theorem Try.keeps_iff (s : List Int) (j : Nat) (hj : j < s.length) : Lib.keeps s.toArray j = true ↔ (j = 0 ∨ s[j] ≠ s[j - 1]'(by omega)) := by
  have h1 : s.toArray[j]! = s[j] := by rw [getElem!_pos _ j (by simpa using hj)]; simp
  have h2 : s.toArray[j - 1]! = s[j - 1]'(by omega) := by rw [getElem!_pos _ (j - 1) (by simp; omega)]; simp
  unfold Lib.keeps
  rw [h1, h2]
  simp
theorem Try.compact_nodup {s : List Int} (hs : s.Pairwise (· ≤ ·)) : (Lib.compact s).length = s.length ↔ s.Nodup := by
  unfold Lib.compact Lib.compactUpTo
  rw [List.length_map]
  have hr : s.length = (List.range s.length).length := by simp
  constructor
  · intro h
    have hall : ∀ j ∈ List.range s.length, Lib.keeps s.toArray j = true := by
      refine List.length_filter_eq_length_iff.1 ?_
      rw [h]; exact hr
    have hlt : ∀ i j (hij : i < j) (hj : j < s.length), s[i]'(by omega) < s[j] := by
      intro i j hij hj
      have hk := (Try.keeps_iff s j hj).1 (hall j (List.mem_range.2 hj))
      have hne : s[j] ≠ s[j - 1]'(by omega) := by rcases hk with h | h <;> first | omega | exact h
      have hle : s[j - 1]'(by omega) ≤ s[j] := by
        have := List.pairwise_iff_getElem.1 hs (j - 1) j (by omega) hj (by omega)
        exact this
      have h2 : s[i]'(by omega) ≤ s[j - 1]'(by omega) := by
        rcases Nat.eq_or_lt_of_le (show i ≤ j - 1 by omega) with e | h
        · subst e; exact Int.le_refl _
        · exact List.pairwise_iff_getElem.1 hs i (j - 1) (by omega) (by omega) h
      omega
    exact List.pairwise_iff_getElem.2 fun i j hi hj hij => by have := hlt i j hij hj; omega
  · intro h
    rw [List.length_filter_eq_length_iff.2 ?_]
    · simp
    · intro j hj
      have hj := List.mem_range.1 hj
      rw [Try.keeps_iff s j hj]
      by_cases h0 : j = 0
      · exact .inl h0
      · have := List.pairwise_iff_getElem.1 h (j - 1) j (by omega) hj (by omega)
        exact .inr fun e => this e.symm
def Try.sortL (zs : List Int) : List Int := zs.mergeSort (fun x y => decide (x ≤ y))
theorem Try.sortL_sorted (zs : List Int) : (Try.sortL zs).Pairwise (· ≤ ·) := by
  have := List.pairwise_mergeSort (le := fun a b : Int => decide (a ≤ b)) (fun a b c h1 h2 => by simp at *; omega) (fun a b => by simp; omega) zs
  exact this.imp (fun h => by simpa using h)
theorem Try.compact_sort (zs : List Int) : (Lib.compact (Try.sortL zs)).length = zs.length ↔ zs.Nodup := by
  have hp : (Try.sortL zs).Perm zs := List.mergeSort_perm zs _
  rw [← hp.length_eq, Try.compact_nodup (Try.sortL_sorted zs), hp.nodup_iff]
def Try.CompactsIn (F : Fence) (m : Nat) : Prop :=
  (∀ (blk off cap : Nat) (zs : List Int) (w : World), Holds (Value.int .i64) w blk off zs.toArray → zs.length ≤ 9223372036854775807 → zs.length ≤ cap →
    CallsIn F m Try.prog 105 #[.slice (some ⟨blk, off, none⟩) zs.length cap] w fun e w' => e = .returned (.slice (some ⟨blk, off, none⟩) (Lib.compact zs).length cap) ∧ ∃ q, w' = putRow (Value.int .i64) (Sort.ahead w q) blk off (Lib.compact zs ++ List.replicate (zs.length - (Lib.compact zs).length) 0).toArray) ∧
  (∀ (a : Option Addr) (cap : Nat) (w : World), CallsIn F m Try.prog 105 #[.slice a 0 cap] w fun e w' => e = .returned (.slice a 0 cap) ∧ w' = w)
theorem Try.compactsIn (m : Nat) : Try.CompactsIn Fence.wide m :=
  ⟨fun blk off cap ss W h1 h2 h3 => callsIn_wide.2 (Any.slices_Compact_int Try.laysCompact blk off cap ss W h1 h2 h3), fun p cap W => callsIn_wide.2 (Any.slices_Compact_int_empty Try.laysCompact p cap W)⟩
set_option maxRecDepth 100000 in
set_option maxHeartbeats 2000000 in
theorem Try.unlike_in (F : Fence) (n : Nat) (h77 : F.fn 88) (h93 : F.fn 104) (h94 : F.fn 105) (h92 : F.fn 103) (h84 : F.fn 77) (h102 : F.fn 122) (h116 : F.fn 139) (h103 : F.fn 123) (hro : F.round = none) (hn : 6 ≤ n) (hsort : Try.SortsIn F (n - 1 - 1)) (hcomp : Try.CompactsIn F (n - 1)) (a : Option Addr) (cap : Nat) (zs : List Int) (hlen : zs.length ≤ 1000000) (w : World)
    (hI : Try.Ints w.heap.size w (.slice a zs.length cap) zs) :
    CallsIn F n Try.prog 88 #[.slice a zs.length cap] w fun e W' => e = .returned (.bool (decide zs.Nodup)) ∧ Below w.heap.size w W' := by
  have h1 : 1 ≤ n := by omega
  have hml : zs.length ≤ maxLen := by unfold maxLen; omega
  have hB0 : Below w.heap.size w (w.alloc (.cells #[.slice a zs.length cap] 29)) := ((Below.refl _ w).alloc (Nat.le_refl _) _)
  have bO := Boxed.new w 29 (.slice a zs.length cap)
  have hcs := Try.compact_sort zs
  have hsl : (Try.sortL zs).length = zs.length := (List.mergeSort_perm zs _).length_eq
  refine callsIn_of_wp Try.func88 rfl h77 ?_ hro
  simp only [Try.ntmps88, List.size_toArray, List.length_cons, List.length_nil, Nat.reduceAdd, Nat.reduceSub, Array.replicate_succ, Array.replicate_zero, List.push_toArray, List.append_toArray, List.nil_append, List.cons_append]
  gi_wp2_with (first
    | (gi_at_call 104; refine (Try.values_in F (n - 1) h93 hro _ _ _ _).mono ?_; rintro e w' ⟨rfl, rfl⟩)
    | (gi_at_call 103; refine (Try.sorted_in F (n - 1) h92 h84 h102 h116 h103 hro (by omega) hsort w.heap.size w.heap.size _ zs hml (by omega) _ (by simp) (by simp) bO.cell (hI.below hB0)).mono ?_; rintro e W ⟨v, rfl, hrow, hnil, hb⟩))
  rcases hrow.2 with ⟨rfl, hz⟩ | ⟨gb, cap', cur, rfl, hbase, hgb, r1, r2, r3, r4⟩
  · have hss : zs = [] := List.eq_nil_of_length_eq_zero hz
    subst hss
    gi_wp2_with (gi_at_call 105; refine (hcomp.2 none 0 W).mono ?_; rintro e w' ⟨rfl, rfl⟩)
    go_ret
    exact ⟨rfl, hB0.trans (hb.mono (by simp))⟩
  · have hH : Holds (Value.int .i64) W gb 0 (Try.sortL zs).toArray := holds_of_block_i hgb (by rw [hsl]; simpa [Try.sortL] using r4)
    have hsz : (Try.sortL zs).length ≤ 9223372036854775807 := by omega
    have cS := hcomp.1 gb 0 cap' (Try.sortL zs) W hH hsz (by omega)
    rw [hsl] at cS
    gi_wp2_with (gi_at_call 105; refine cS.mono ?_; rintro e w' ⟨rfl, q, rfl⟩)
    go_ret
    have hg : W.grownBy (putRow encZ (Sort.ahead W q) gb 0 (Lib.compact (Try.sortL zs) ++ List.replicate (zs.length - (Lib.compact (Try.sortL zs)).length) 0).toArray) (some gb) := by
      have := grownBy_sorted_i (w := W) (g := gb) (n := q) (os := #[]) (Lib.compact (Try.sortL zs) ++ List.replicate (zs.length - (Lib.compact (Try.sortL zs)).length) 0).toArray
      rwa [grow_empty] at this
    have hb1 : Below w.heap.size w W := hB0.trans (hb.mono (by simp))
    refine ⟨?_, hb1.grown hg hb1.size (fun j hj => by cases hj; simp at hbase; omega)⟩
    show Ending.returned (.bool (((Lib.compact (Try.sortL zs)).length : Int) == (zs.length : Int))) = _
    congr 2
    by_cases hd : zs.Nodup
    · rw [decide_eq_true hd, hcs.2 hd]; simp
    · rw [decide_eq_false hd]
      exact beq_eq_false_iff_ne.2 fun h => hd (hcs.1 (by omega))
open Go.Sh in
theorem Try.ints_of {w : World} {l : List Int} {A : Option Addr} {c : Nat} (h : FlatOk w noLab none A c 1 (ints l)) : Try.Ints w.heap.size w (.slice A l.length c) l := by
  cases l with
  | nil => exact .inl ⟨rfl, A, c, rfl⟩
  | cons x l =>
    obtain ⟨a, rfl, _, h0⟩ := h.cell 0 [.i .i64 x] 0 (.i .i64 x) rfl rfl
    refine .inr ⟨a, c, rfl, ?_, fun j hj => ?_⟩
    · have h0 : w.cell? (a.add (0 * 1 + 0)) = some (Sc.val (.i .i64 x)) := h0
      have e : (a.add (0 * 1 + 0)).block = a.block := Try.add_block a _
      rw [← e]
      generalize a.add (0 * 1 + 0) = p at h0
      simp only [World.cell?] at h0
      by_cases hp : p.block < w.heap.size
      · exact hp
      · rw [Array.getElem?_eq_none (by omega)] at h0
        simp at h0
    · have hg := List.getElem?_eq_getElem hj
      obtain ⟨b, hb, _, hc⟩ := h.cell j [.i .i64 (x :: l)[j]] 0 (.i .i64 (x :: l)[j]) (ints_get hg) rfl
      injection hb with hb
      subst hb
      rw [Nat.mul_one, Nat.add_zero] at hc
      rw [hc, hg]; rfl
end Go.Proofs


set_option linter.unusedVariables false
namespace Go.Sh
open Go.Proofs
/-! ### walk.unlike -/
theorem Unlike_ok : SoundC Try.prog T 88 UnlikeC := by
  refine sound_pure Try.func88 (by rfl) (by rfl) (by simp [UnlikeC, conP]) ?_
  intro vs r outs hF w us hus
  obtain ⟨l, hl, rfl, rfl⟩ := conF_inv (pre := fun l : List Int => l.length ≤ 1000000) (enc := fun l => [.one (.flat false 1 (ints l))]) (val := fun l => .one (.s (.b (decide l.Nodup)))) hF
  have hl : l.length ≤ 1000000 := hl
  obtain ⟨u, hu⟩ : ∃ u, us.toList = [u] ∧ V1Ok w noLab 0 (.one (.flat false 1 (ints l))) u := by
    cases h : us.toList with
    | nil => rw [h] at hus; exact hus.elim
    | cons u r =>
      rw [h] at hus
      cases r with
      | nil => exact ⟨u, rfl, hus.1⟩
      | cons _ _ => exact hus.2.elim
  obtain ⟨he, ⟨x, hx, hF⟩⟩ := hu
  obtain rfl : us = #[u] := by cases us; simp_all
  subst hx
  rw [ints_length]
  refine ((callsIn_wide (n := 6)).1 (Try.unlike_in Fence.wide 6 trivial trivial trivial trivial trivial trivial trivial trivial rfl (by omega) (Try.sortsIn _) (Try.compactsIn _) x.A x.c l hl w (Try.ints_of hF))).mono ?_
  rintro e w' ⟨rfl, hb⟩
  exact ⟨_, noLab, rfl, ⟨hb.os, hb.tape, hb.output, hb.size, fun b h _ => hb.block b h⟩, fun b k h => by simp [noLab] at h, ⟨⟨none, 0, fun _ => none, fun _ => 0⟩, rfl⟩⟩
end Go.Sh

set_option linter.unusedVariables false
set_option linter.unusedSimpArgs false
namespace Go.Sh
open Go.Proofs
/-! ### carcanetref08.Size, joined, touch -/
/-! ### carcanetref08.Check -/
end Go.Sh

set_option linter.unusedVariables false
set_option linter.unusedSimpArgs false
namespace Go.Sh
/-! ### few edges, few vertices -/
theorem nodup_lenG {α : Type} [DecidableEq α] {l : List α} : ∀ {m : List α}, l.Nodup → (∀ x ∈ l, x ∈ m) → l.length ≤ m.length := by
  induction l with
  | nil => intro m _ _; simp
  | cons x l ih =>
    intro m h s
    rw [List.nodup_cons] at h
    have hx := s x (by simp)
    have := ih (m := m.erase x) h.2 fun y hy => (List.mem_erase_of_ne (fun (e : y = x) => h.1 (by rw [← e]; exact hy))).2 (s y (by simp [hy]))
    rw [List.length_erase_of_mem hx] at this
    have := List.length_pos_of_mem hx
    simp; omega
theorem disj_at {S : List (List Int)} (h : S.flatten.Nodup) {i j : Nat} {a b : List Int} (ha : S[i]? = some a) (hb : S[j]? = some b) {v : Int} (va : v ∈ a) (vb : v ∈ b) : i = j := by
  rw [List.Nodup, List.pairwise_flatten] at h
  obtain ⟨hi, ea⟩ := List.getElem?_eq_some_iff.1 ha
  obtain ⟨hj, eb⟩ := List.getElem?_eq_some_iff.1 hb
  rcases Nat.lt_trichotomy i j with hlt | e | hlt
  · have := List.pairwise_iff_getElem.1 h.2 i j hi hj hlt
    rw [ea, eb] at this
    exact absurd rfl (this v va v vb)
  · exact e
  · have := List.pairwise_iff_getElem.1 h.2 j i hj hi hlt
    rw [ea, eb] at this
    exact absurd rfl (this v vb v va)
end Go.Sh

set_option linter.unusedVariables false
set_option linter.unusedSimpArgs false
namespace Go.Sh
/-! ### a vertex of two neighbours goes: models stay, and come back -/
theorem MdL.mono {vs : List Nat} {A A' : Nat → Nat → Prop} {c : Nat → Nat} (h : MdL vs A c) (hs : ∀ x y, x ∈ vs → y ∈ vs → A x y → A' x y) : MdL vs A' c :=
  ⟨h.some, fun i hi P hP hcl => h.conn i hi P hP fun x y hx hy ex ey k => hcl x y hx hy ex ey (hs x y hx hy k), fun i j hij hj => by
    obtain ⟨x, y, hx, hy, k, e⟩ := h.meet i j hij hj
    exact ⟨x, y, hx, hy, hs x y hx hy k, e⟩⟩
/-- but for a vertex that is in no set -/
theorem MdL.off {vs vs' : List Nat} {A A' : Nat → Nat → Prop} {c : Nat → Nat} {v : Nat} (h : MdL vs A c) (hc : 4 ≤ c v) (hv : ∀ x, x ≠ v → (x ∈ vs ↔ x ∈ vs')) (hs : ∀ x y, x ≠ v → y ≠ v → A x y → A' x y) : MdL vs' A' c := by
  have ne : ∀ x i, i < 4 → c x = i → x ≠ v := fun x i hi e k => by rw [k] at e; omega
  refine ⟨fun i hi => ?_, fun i hi P hP hcl x hx ex => ?_, fun i j hij hj => ?_⟩
  · obtain ⟨x, hx, e⟩ := h.some i hi
    exact ⟨x, (hv x (ne x i hi e)).1 hx, e⟩
  · obtain ⟨y, hy, ey, hPy⟩ := hP
    exact h.conn i hi P ⟨y, (hv y (ne y i hi ey)).2 hy, ey, hPy⟩ (fun a b ha hb ea eb k => hcl a b ((hv a (ne a i hi ea)).1 ha) ((hv b (ne b i hi eb)).1 hb) ea eb (hs a b (ne a i hi ea) (ne b i hi eb) k)) x ((hv x (ne x i hi ex)).2 hx) ex
  · obtain ⟨x, y, hx, hy, k, ex, ey⟩ := h.meet i j hij hj
    have nx := ne x i (by omega) ex
    have ny := ne y j hj ey
    exact ⟨x, y, (hv x nx).1 hx, (hv y ny).1 hy, hs x y nx ny k, ex, ey⟩
open Classical in
theorem MdL.down {vs vs' : List Nat} {A : Nat → Nat → Prop} (hA : Sm A) {v w : Nat} (hv : v ∈ vs) (hw : w ∈ vs) (hvw : A v w) (hvs : ∀ x, x ∈ vs' ↔ x ∈ vs ∧ x ≠ v) {c : Nat → Nat} (h : MdL vs A c) (hc : c v = c w) : MdL vs' (ctr A v w) c := by
  have hne : w ≠ v := (hA.ne hvw).symm
  have hw' := (hvs w).2 ⟨hw, hne⟩
  refine ⟨fun i hi => ?_, fun i hi P hP hcl x hx ex => ?_, fun i j hij hj => ?_⟩
  · obtain ⟨x, hx, e⟩ := h.some i hi
    by_cases k : x = v
    · subst k; exact ⟨w, hw', by rw [← hc]; exact e⟩
    · exact ⟨x, (hvs x).2 ⟨hx, k⟩, e⟩
  · obtain ⟨hx0, hxv⟩ := (hvs x).1 hx
    obtain ⟨y, hy, ey, hPy⟩ := hP
    obtain ⟨hy0, hyv⟩ := (hvs y).1 hy
    have := h.conn i hi (fun z => if z = v then P w else P z) ⟨y, hy0, ey, by rw [if_neg hyv]; exact hPy⟩ (fun a b ha hb ea eb k hPa => by
      try dsimp only at hPa ⊢
      by_cases e1 : a = v
      · subst e1
        rw [if_pos rfl] at hPa
        have nb : b ≠ a := (hA.ne k).symm
        rw [if_neg nb]
        by_cases e2 : b = w
        · rw [e2]; exact hPa
        · exact hcl w b hw' ((hvs b).2 ⟨hb, nb⟩) (by rw [← hc]; exact ea) eb (.inr (.inl ⟨rfl, k, e2⟩)) hPa
      · rw [if_neg e1] at hPa
        have ha' := (hvs a).2 ⟨ha, e1⟩
        by_cases e2 : b = v
        · subst e2
          rw [if_pos rfl]
          by_cases e3 : a = w
          · rw [← e3]; exact hPa
          · exact hcl a w ha' hw' ea (by rw [← hc]; exact eb) (.inr (.inr ⟨rfl, hA.sym _ _ k, e3⟩)) hPa
        · rw [if_neg e2]
          exact hcl a b ha' ((hvs b).2 ⟨hb, e2⟩) ea eb (.inl k) hPa) x hx0 ex
    try dsimp only at this
    rw [if_neg hxv] at this
    exact this
  · obtain ⟨x, y, hx, hy, k, ex, ey⟩ := h.meet i j hij hj
    by_cases e1 : x = v
    · subst e1
      have ny : y ≠ x := (hA.ne k).symm
      have nw : y ≠ w := fun e => by rw [e] at ey; omega
      exact ⟨w, y, hw', (hvs y).2 ⟨hy, ny⟩, .inr (.inl ⟨rfl, k, nw⟩), by rw [← hc]; exact ex, ey⟩
    · by_cases e2 : y = v
      · subst e2
        have nw : x ≠ w := fun e => by rw [e] at ex; omega
        exact ⟨x, w, (hvs x).2 ⟨hx, e1⟩, hw', .inr (.inr ⟨rfl, hA.sym _ _ k, nw⟩), ex, by rw [← hc]; exact ey⟩
      · exact ⟨x, y, (hvs x).2 ⟨hx, e1⟩, (hvs y).2 ⟨hy, e2⟩, .inl k, ex, ey⟩
structure Red (A A' : Nat → Nat → Prop) (v a b : Nat) (Q : Prop) : Prop where
  nb : ∀ y, A v y → y = a ∨ y = b
  iff : ∀ x y, A' x y ↔ x ≠ v ∧ y ≠ v ∧ (A x y ∨ (Q ∧ ((x = a ∧ y = b) ∨ (x = b ∧ y = a))))
  q1 : Q → A v a ∧ A v b ∧ a ≠ b
  q2 : A v a → A v b → a ≠ b → A a b ∨ Q
theorem Red.swap {A A' : Nat → Nat → Prop} (hA : Sm A) {v a b : Nat} {Q : Prop} (h : Red A A' v a b Q) : Red A A' v b a Q :=
  ⟨fun y k => (h.nb y k).symm, fun x y => (h.iff x y).trans ⟨fun ⟨k1, k2, k3⟩ => ⟨k1, k2, k3.imp id fun ⟨q, k⟩ => ⟨q, k.symm⟩⟩, fun ⟨k1, k2, k3⟩ => ⟨k1, k2, k3.imp id fun ⟨q, k⟩ => ⟨q, k.symm⟩⟩⟩, fun q => ⟨(h.q1 q).2.1, (h.q1 q).1, (h.q1 q).2.2.symm⟩, fun k1 k2 k3 => (h.q2 k2 k1 k3.symm).imp (hA.sym _ _) id⟩
section
variable {vs : List Nat} {A A' : Nat → Nat → Prop} {v a b : Nat} {Q : Prop}
theorem erase_mem (hn : vs.Nodup) (v : Nat) : ∀ x, x ∈ vs.erase v ↔ x ∈ vs ∧ x ≠ v := fun x => by rw [hn.mem_erase_iff]; exact And.comm
theorem Red.back (hA : Sm A) (hn : vs.Nodup) (hv : v ∈ vs) (ha : a ∈ vs) (h : Red A A' v a b Q) {c : Nat → Nat} (hc : MdL vs A' c) : ∃ c, MdL vs A c := by
  have iso : 4 ≤ c v := by
    rcases Nat.lt_or_ge (c v) 4 with hlt | hge
    · exfalso
      have only : ∀ x, x ∈ vs → c x = c v → x = v := hc.conn (c v) hlt (fun x => x = v) ⟨v, hv, rfl, rfl⟩ fun x y _ _ _ _ k e => absurd e ((h.iff x y).1 k).1
      have two : ∀ i j, i < j → j < 4 → i ≠ c v ∧ j ≠ c v := fun i j hij hj => by
        obtain ⟨x, y, hx, hy, k, ex, ey⟩ := hc.meet i j hij hj
        obtain ⟨n1, n2, _⟩ := (h.iff x y).1 k
        exact ⟨fun e => n1 (only x hx (ex.trans e)), fun e => n2 (only y hy (ey.trans e))⟩
      have t1 := two 0 1 (by omega) (by omega)
      have t2 := two 2 3 (by omega) (by omega)
      omega
    · exact hge
  by_cases hQ : Q
  · obtain ⟨k1, k2, k3⟩ := h.q1 hQ
    have h1 : MdL (vs.erase v) (ctr A v a) c := hc.off iso (fun x hx => by rw [erase_mem hn]; exact ⟨fun k => ⟨k, hx⟩, fun k => k.1⟩) fun x y _ _ k => by
      obtain ⟨_, _, k | ⟨_, ⟨e1, e2⟩ | ⟨e1, e2⟩⟩⟩ := (h.iff x y).1 k
      · exact .inl k
      · exact .inr (.inl ⟨e1, by rw [e2]; exact k2, by rw [e2]; exact k3.symm⟩)
      · exact .inr (.inr ⟨e2, by rw [e1]; exact k2, by rw [e1]; exact k3.symm⟩)
    exact ⟨_, h1.lift hA hv ha k1 (erase_mem hn v)⟩
  · exact ⟨c, hc.mono fun x y _ _ k => by
      obtain ⟨_, _, k | ⟨q, _⟩⟩ := (h.iff x y).1 k
      · exact k
      · exact absurd q hQ⟩
theorem Red.go (hA : Sm A) (hn : vs.Nodup) (hv : v ∈ vs) (hin : ∀ x y, A x y → x ∈ vs) (h : Red A A' v a b Q) {c : Nat → Nat} (hc : MdL vs A c) : ∃ c, MdL vs A' c := by
  rcases Nat.lt_or_ge (c v) 4 with hlt | hge
  · have main : ∀ {a b : Nat}, Red A A' v a b Q → A v a → c v = c a → ∃ c, MdL vs A' c := by
      intro a b h kva hca
      have h1 := hc.down hA hv (hin _ _ (hA.sym _ _ kva)) kva (erase_mem hn v) hca
      have h2 : MdL (vs.erase v) A' c := h1.mono fun x y hx hy k => by
        obtain ⟨_, nx⟩ := (erase_mem hn v x).1 hx
        obtain ⟨_, ny⟩ := (erase_mem hn v y).1 hy
        rcases k with k | ⟨e1, k, n⟩ | ⟨e1, k, n⟩
        · exact (h.iff x y).2 ⟨nx, ny, .inl k⟩
        · subst e1
          rcases h.nb y k with e | e
          · exact absurd e n
          · subst e
            refine (h.iff x y).2 ⟨nx, ny, ?_⟩
            rcases h.q2 kva k n.symm with k2 | q
            · exact .inl k2
            · exact .inr ⟨q, .inl ⟨rfl, rfl⟩⟩
        · subst e1
          rcases h.nb x k with e | e
          · exact absurd e n
          · subst e
            refine (h.iff x y).2 ⟨nx, ny, ?_⟩
            rcases h.q2 kva k n.symm with k2 | q
            · exact .inl (hA.sym _ _ k2)
            · exact .inr ⟨q, .inr ⟨rfl, rfl⟩⟩
      exact ⟨_, h2.induced fun x hx => ((erase_mem hn v x).1 hx).1⟩
    by_cases hex : ∃ w, A v w ∧ c v = c w
    · obtain ⟨w, kw, ew⟩ := hex
      rcases h.nb w kw with e | e
      · subst e; exact main h kw ew
      · subst e; exact main (h.swap hA) kw ew
    · exfalso
      have only : ∀ x, x ∈ vs → c x = c v → x = v := hc.conn (c v) hlt (fun x => x = v) ⟨v, hv, rfl, rfl⟩ fun x y _ _ _ ey k e => by
        subst e; exact absurd ⟨y, k, ey.symm⟩ hex
      have nbr : ∀ j, j < 4 → j ≠ c v → ∃ y, A v y ∧ c y = j := fun j hj hne => by
        rcases Nat.lt_or_gt_of_ne hne with hlt2 | hgt
        · obtain ⟨x, y, hx, hy, k, ex, ey⟩ := hc.meet j (c v) hlt2 hlt
          rw [only y hy ey] at k
          exact ⟨x, hA.sym _ _ k, ex⟩
        · obtain ⟨x, y, hx, hy, k, ex, ey⟩ := hc.meet (c v) j hgt hj
          rw [only x hx ex] at k
          exact ⟨y, k, ey⟩
      have col : ∀ j, j < 4 → j ≠ c v → c a = j ∨ c b = j := fun j hj hne => by
        obtain ⟨y, k, e⟩ := nbr j hj hne
        rcases h.nb y k with e2 | e2
        · left; rw [← e2]; exact e
        · right; rw [← e2]; exact e
      by_cases e0 : c v = 0
      · have := col 1 (by omega) (by omega); have := col 2 (by omega) (by omega); have := col 3 (by omega) (by omega); omega
      by_cases e1 : c v = 1
      · have := col 0 (by omega) (by omega); have := col 2 (by omega) (by omega); have := col 3 (by omega) (by omega); omega
      by_cases e2 : c v = 2
      · have := col 0 (by omega) (by omega); have := col 1 (by omega) (by omega); have := col 3 (by omega) (by omega); omega
      · have := col 0 (by omega) (by omega); have := col 1 (by omega) (by omega); have := col 2 (by omega) (by omega); omega
  · exact ⟨c, hc.off hge (fun x _ => Iff.rfl) fun x y nx ny k => (h.iff x y).2 ⟨nx, ny, .inl k⟩⟩
end
/-! #### rows -/
def adjN (N : List (List Int)) (x y : Nat) : Prop := (y : Int) ∈ rowAt N x
def K4 (N : List (List Int)) : Prop := ∃ c, MdL (List.range N.length) (adjN N) c
theorem adjN_sm {N : List (List Int)} {G : List Bool} (h : Wf N G) : Sm (adjN N) := ⟨fun x y k => h.sym x y (by omega) (by omega) k, fun x k => h.irr x (by omega) k⟩
theorem adjN_in {N : List (List Int)} {G : List Bool} (h : Wf N G) (x y : Nat) (k : adjN N x y) : x ∈ List.range N.length := by
  have := (h.rows y).2 x (h.sym x y (by omega) (by omega) k)
  rw [List.mem_range]; omega
theorem step_red {N : List (List Int)} {G : List Bool} (h : Wf N G) {v : Nat} (hm : MayP N G v) : ∃ a b Q, a < N.length ∧ Red (adjN N) (adjN (doN N (stepF N v))) v a b Q := by
  obtain ⟨_, hc⟩ := step_two h hm rfl
  have hrow : ∀ x y : Nat, adjN (doN N (stepF N v)) x y ↔ (x : Int) ≠ v ∧ (((y : Int) ∈ rowAt N x ∧ (y : Int) ≠ v) ∨ ((stepF N v).2.2.2 = true ∧ (((x : Int) = (stepF N v).2.1 ∧ (y : Int) = (stepF N v).2.2.1) ∨ ((x : Int) = (stepF N v).2.2.1 ∧ (y : Int) = (stepF N v).2.1)))) := fun x y => (do_row h hm (by omega)).2 y
  have hv0 := hm.hi
  rcases hc with ⟨hl, _, _, hd⟩ | ⟨a, hl, _, _, hd⟩ | ⟨a, b, hl, hab, ea, eb, hd⟩
  · refine ⟨v, v, False, by omega, ⟨fun y k => ?_, fun x y => ?_, fun q => q.elim, fun k => ?_⟩⟩
    · unfold adjN at k; rw [hl] at k; simp at k
    · rw [hrow, hd]
      unfold adjN
      constructor
      · rintro ⟨n1, ⟨k, n2⟩ | ⟨e, _⟩⟩
        · exact ⟨by omega, by omega, .inl k⟩
        · cases e
      · rintro ⟨n1, n2, k | ⟨q, _⟩⟩
        · exact ⟨by omega, .inl ⟨k, by omega⟩⟩
        · exact q.elim
    · unfold adjN at k; rw [hl] at k; simp at k
  · have har := (h.rows v).2 a (by rw [hl]; simp)
    obtain ⟨a, rfl⟩ : ∃ c : Nat, a = c := ⟨a.toNat, by omega⟩
    refine ⟨a, a, False, by omega, ⟨fun y k => ?_, fun x y => ?_, fun q => q.elim, fun _ _ n => absurd rfl n⟩⟩
    · unfold adjN at k; rw [hl] at k; simp at k; omega
    · rw [hrow, hd]
      unfold adjN
      constructor
      · rintro ⟨n1, ⟨k, n2⟩ | ⟨e, _⟩⟩
        · exact ⟨by omega, by omega, .inl k⟩
        · cases e
      · rintro ⟨n1, n2, k | ⟨q, _⟩⟩
        · exact ⟨by omega, .inl ⟨k, by omega⟩⟩
        · exact q.elim
  · have har := (h.rows v).2 a (by rw [hl]; simp)
    have hbr := (h.rows v).2 b (by rw [hl]; simp)
    have hav : a ≠ v := fun e => h.irr v hm.lo (by rw [hl]; simp [e])
    have hbv : b ≠ v := fun e => h.irr v hm.lo (by rw [hl]; simp [e])
    obtain ⟨a, rfl⟩ : ∃ c : Nat, a = c := ⟨a.toNat, by omega⟩
    obtain ⟨b, rfl⟩ : ∃ c : Nat, b = c := ⟨b.toNat, by omega⟩
    refine ⟨a, b, (stepF N v).2.2.2 = true, by omega, ⟨fun y k => ?_, fun x y => ?_, fun q => ?_, fun _ _ _ => ?_⟩⟩
    · unfold adjN at k; rw [hl] at k; simp at k; omega
    · rw [hrow, ea, eb]
      unfold adjN
      constructor
      · rintro ⟨n1, ⟨k, n2⟩ | ⟨e, ⟨k1, k2⟩ | ⟨k1, k2⟩⟩⟩
        · exact ⟨by omega, by omega, .inl k⟩
        · exact ⟨by omega, by omega, .inr ⟨e, .inl ⟨by omega, by omega⟩⟩⟩
        · exact ⟨by omega, by omega, .inr ⟨e, .inr ⟨by omega, by omega⟩⟩⟩
      · rintro ⟨n1, n2, k | ⟨e, ⟨k1, k2⟩ | ⟨k1, k2⟩⟩⟩
        · exact ⟨by omega, .inl ⟨k, by omega⟩⟩
        · exact ⟨by omega, .inr ⟨e, .inl ⟨by omega, by omega⟩⟩⟩
        · exact ⟨by omega, .inr ⟨e, .inr ⟨by omega, by omega⟩⟩⟩
    · unfold adjN
      rw [hl]
      exact ⟨by simp, by simp, by omega⟩
    · unfold adjN
      rw [hd]
      cases he : (rowAt N a).elem (b : Int) with
      | true => left; simpa using he
      | false => right; rfl
theorem K4_step {N : List (List Int)} {G : List Bool} (h : Wf N G) {v : Int} (hm : MayP N G v) : K4 (doN N (stepF N v)) ↔ K4 N := by
  have h0 := hm.lo
  have h1 := hm.hi
  obtain ⟨v, rfl⟩ : ∃ c : Nat, v = c := ⟨v.toNat, by omega⟩
  obtain ⟨a, b, Q, ha, hr⟩ := step_red h hm
  have hv : v ∈ List.range N.length := List.mem_range.2 (by omega)
  unfold K4
  rw [doN_length]
  exact ⟨fun ⟨c, hc⟩ => hr.back (adjN_sm h) List.nodup_range hv (List.mem_range.2 ha) hc, fun ⟨c, hc⟩ => hr.go (adjN_sm h) List.nodup_range hv (adjN_in h) hc⟩
theorem K4_run {f : Nat} : ∀ {N : List (List Int)} {G : List Bool}, Wf N G → (K4 (runS f N G).2.1 ↔ K4 N) := by
  induction f with
  | zero => intro N G _; exact Iff.rfl
  | succ f ih =>
    intro N G h
    cases hm : firstMay N G with
    | none => rw [runS_end hm]
    | some v =>
      rw [runS_go hm]
      have hp := mayB_iff.1 (firstMay_may hm)
      exact (ih (do_wf h hp)).trans (K4_step h hp)
end Go.Sh

set_option linter.unusedVariables false
set_option linter.unusedSimpArgs false
namespace Go.Sh
open Go.Proofs
/-! ### carcanetlaw10.ReduceCore -/
theorem near_there {N : List (List Int)} {G : List Bool} (h : Wf N G) {v x : Int} (hv : 0 ≤ v) (hx : x ∈ rowAt N v) : 0 ≤ x ∧ x < N.length ∧ goneAt G x = false := by
  have hr := (h.rows v).2 x hx
  refine ⟨hr.1, hr.2, ?_⟩
  cases hg : goneAt G x with
  | false => rfl
  | true =>
    have h2 := h.sym v x hv hr.1 hx
    rw [h.gone x hr.1 hg] at h2; simp at h2
theorem leftF_length (G : List Bool) : (leftF G).length = live G := by
  unfold leftF live
  rw [List.length_map, ← List.countP_eq_length_filter]
  have e : G = (List.range G.length).map fun v => G.getD v false := by
    apply List.ext_getElem?
    intro i
    rw [List.getElem?_map]
    by_cases hi : i < G.length
    · rw [List.getElem?_range hi, Option.map_some, List.getD_eq_getElem?_getD, List.getElem?_eq_getElem hi]; rfl
    · rw [List.getElem?_eq_none (by omega), List.getElem?_eq_none (by simp; omega)]; rfl
  conv => rhs; rw [e]
  rw [List.countP_map]; rfl
/-- what is left at the end -/
structure Core (N : List (List Int)) (G : List Bool) : Prop where
  wf : Wf N G
  no : ∀ u, mayB N G u = false
theorem Core.three {N : List (List Int)} {G : List Bool} (h : Core N G) {v : Int} (h0 : 0 ≤ v) (h1 : v < N.length) (hg : goneAt G v = false) : 3 ≤ (rowAt N v).length := by
  have := h.no v
  by_cases hl : (rowAt N v).length ≤ 2
  · rw [mayB_iff.2 ⟨h0, h1, hg, hl⟩] at this; cases this
  · omega
theorem Core.four {N : List (List Int)} {G : List Bool} (h : Core N G) (hl : leftF G ≠ []) : 4 ≤ (leftF G).length := by
  obtain ⟨v, hv⟩ := List.exists_mem_of_ne_nil _ hl
  obtain ⟨h0, h1, hg⟩ := mem_leftF.1 hv
  rw [h.wf.len] at h1
  have h3 := h.three h0 h1 hg
  have hnd : (v :: rowAt N v).Nodup := List.nodup_cons.2 ⟨h.wf.irr v h0, (h.wf.rows v).1.imp fun hab => by omega⟩
  have := nodup_lenG (m := leftF G) hnd fun x hx => by
    rcases List.mem_cons.1 hx with e | hx
    · rw [e]; exact hv
    · obtain ⟨x0, x1, xg⟩ := near_there h.wf h0 hx
      exact mem_leftF.2 ⟨x0, by rw [h.wf.len]; exact x1, xg⟩
  simp only [List.length_cons] at this
  omega
theorem core_run {n : Int} {E : List Ed} (hR : RightP n E) : Core (runR n E).2.1 (runR n E).2.2 ∧ (runR n E).2.1.length = n.toNat ∧ (runR n E).1.length + (leftF (runR n E).2.2).length = n.toNat := by
  have hW := begin_wf hR
  have hl : live (List.replicate n.toNat false) ≤ n.toNat := by rw [live_zero]; omega
  obtain ⟨h1, h2, h3⟩ := runS_wf n.toNat hW
  have hc := run_count (f := n.toNat) hW
  rw [live_zero] at hc
  exact ⟨⟨h1, run_end hW hl⟩, by rw [show (runR n E).2.1.length = _ from h2, nbrs_length], by rw [leftF_length]; exact hc⟩
end Go.Sh

set_option linter.unusedVariables false
set_option linter.unusedSimpArgs false
namespace Go.Sh
/-! ### graphs as rows of bits: what one comes to by deletions and contractions -/
def up1 (v i : Nat) : Nat := if i < v then i else i + 1
def lessX (x v : Nat) : Nat := (x &&& (2 ^ v - 1)) ||| ((x >>> (v + 1)) <<< v)
theorem lessX_bit (x v i : Nat) : (lessX x v).testBit i = x.testBit (up1 v i) := by
  unfold lessX up1
  rw [Nat.testBit_or, Nat.testBit_and, Nat.testBit_two_pow_sub_one, Nat.testBit_shiftLeft, Nat.testBit_shiftRight]
  by_cases h : i < v
  · rw [if_pos h]
    have : ¬ i ≥ v := by omega
    simp [h, this]
  · rw [if_neg h]
    have : i ≥ v := by omega
    simp [h, this]
    congr 1
    omega
def lessL (r : List Nat) (v : Nat) : List Nat := (r.eraseIdx v).map (lessX · v)
def bitL (r : List Nat) (a b : Nat) : Bool := (r.getD a 0).testBit b
def sizeN (k : Int) : Nat := (patG k).1.toNat
theorem lessL_length {r : List Nat} {v : Nat} (h : v < r.length) : (lessL r v).length = r.length - 1 := by
  unfold lessL
  rw [List.length_map, List.length_eraseIdx_of_lt h]
theorem up1_lt {v i n : Nat} (h : i < n - 1) : up1 v i < n := by unfold up1; split <;> omega
def dn1 (v i : Nat) : Nat := if i < v then i else i - 1
theorem up_dn {v i : Nat} (h : i ≠ v) : up1 v (dn1 v i) = i := by
  unfold up1 dn1
  by_cases h1 : i < v
  · rw [if_pos h1, if_pos h1]
  · rw [if_neg h1, if_neg (by omega)]; omega
theorem dn_lt {v i n : Nat} (h : i ≠ v) (hv : v < n) (hi : i < n) : dn1 v i < n - 1 := by unfold dn1; split <;> omega
theorem up_inj {v i j : Nat} (h : up1 v i = up1 v j) : i = j := by unfold up1 at h; split at h <;> split at h <;> omega
theorem lessL_getD (r : List Nat) (v i : Nat) : (lessL r v).getD i 0 = lessX (r.getD (up1 v i) 0) v := by
  have z : lessX 0 v = 0 := by simp [lessX]
  unfold lessL up1
  rw [List.getD_eq_getElem?_getD, List.getElem?_map, List.getElem?_eraseIdx, List.getD_eq_getElem?_getD]
  split
  · cases r[i]? with
    | none => simp [z]
    | some x => simp
  · cases r[i + 1]? with
    | none => simp [z]
    | some x => simp
theorem bit_less (r : List Nat) (v i j : Nat) : bitL (lessL r v) i j = bitL r (up1 v i) (up1 v j) := by
  unfold bitL
  rw [lessL_getD, lessX_bit]
/-- rows of bits of a graph -/
structure Sq (r : List Nat) : Prop where
  bnd : ∀ a b, bitL r a b = true → b < r.length
  sym : ∀ a b, bitL r a b = true → bitL r b a = true
  irr : ∀ a, bitL r a a = false
theorem Sq.lt {r : List Nat} (h : Sq r) {a b : Nat} (hb : bitL r a b = true) : a < r.length := h.bnd _ _ (h.sym _ _ hb)
theorem Sq.less {r : List Nat} (h : Sq r) {v : Nat} (hv : v < r.length) : Sq (lessL r v) := by
  refine ⟨fun a b hb => ?_, fun a b hb => ?_, fun a => ?_⟩
  · rw [bit_less] at hb
    have := h.bnd _ _ hb
    rw [lessL_length hv]
    unfold up1 at this
    split at this <;> omega
  · rw [bit_less] at hb ⊢; exact h.sym _ _ hb
  · rw [bit_less]; exact h.irr _
/-- a model, as colours of the vertices: each colour below m is there, hangs together, and those of the pattern's pairs touch -/
structure Mod (r : List Nat) (m : Nat) (pat : List (Nat × Nat)) (c : Nat → Nat) : Prop where
  some : ∀ i, i < m → ∃ x, x < r.length ∧ c x = i
  conn : ∀ i, i < m → ∀ P : Nat → Prop, (∃ x, x < r.length ∧ c x = i ∧ P x) → (∀ x y, c x = i → c y = i → bitL r x y = true → P x → P y) → ∀ x, x < r.length → c x = i → P x
  meet : ∀ q ∈ pat, ∃ x y, bitL r x y = true ∧ c x = q.1 ∧ c y = q.2
theorem Mod.less {r : List Nat} {m : Nat} {pat : List (Nat × Nat)} {c : Nat → Nat} (h : Mod r m pat c) (hp : ∀ q ∈ pat, q.1 < m ∧ q.2 < m ∧ q.1 ≠ q.2) {v : Nat} (hv : v < r.length) (hc : m ≤ c v) : Mod (lessL r v) m pat fun i => c (up1 v i) := by
  have hl := lessL_length hv
  refine ⟨fun i hi => ?_, fun i hi P hP hcl x hx hcx => ?_, fun q hq => ?_⟩
  · obtain ⟨x, h1, h2⟩ := h.some i hi
    have hx : x ≠ v := fun e => by subst e; omega
    exact ⟨dn1 v x, by rw [hl]; exact dn_lt hx hv h1, by rw [up_dn hx]; exact h2⟩
  · have := h.conn i hi (fun x => ∃ y, up1 v y = x ∧ P y) ?_ ?_ (up1 v x) (by rw [hl] at hx; exact up1_lt hx) hcx
    · obtain ⟨y, h1, h2⟩ := this
      rw [← up_inj h1]; exact h2
    · obtain ⟨x, h1, h2, h3⟩ := hP
      exact ⟨up1 v x, by rw [hl] at h1; exact up1_lt h1, h2, x, rfl, h3⟩
    · rintro x y cx cy hb ⟨x', rfl, hPx⟩
      have hy : y ≠ v := fun e => by subst e; omega
      refine ⟨dn1 v y, up_dn hy, hcl x' _ cx (by rw [up_dn hy]; exact cy) ?_ hPx⟩
      rw [bit_less, up_dn hy]; exact hb
  · obtain ⟨x, y, h1, h2, h3⟩ := h.meet q hq
    have hx : x ≠ v := fun e => by subst e; have := hp q hq; omega
    have hy : y ≠ v := fun e => by subst e; have := hp q hq; omega
    exact ⟨dn1 v x, dn1 v y, by rw [bit_less, up_dn hx, up_dn hy]; exact h1, by rw [up_dn hx]; exact h2, by rw [up_dn hy]; exact h3⟩
def patN (k : Int) : List (Nat × Nat) := (patG k).2.map fun q => (q.1.toNat, q.2.toNat)
theorem patN_one : sizeN 1 = 4 ∧ patN 1 = [(0, 1), (0, 2), (0, 3), (1, 2), (1, 3), (2, 3)] := by decide
/-! #### rows of a graph -/
def rowStep (r : List Nat) (x : Ed) : List Nat := (r.set x.1.toNat (r.getD x.1.toNat 0 ||| 2 ^ x.2.toNat)).set x.2.toNat ((r.set x.1.toNat (r.getD x.1.toNat 0 ||| 2 ^ x.2.toNat)).getD x.2.toNat 0 ||| 2 ^ x.1.toNat)
def rowsL (n : Int) (E : List Ed) : List Nat := E.foldl rowStep (List.replicate n.toNat 0)
theorem rowStep_length (r : List Nat) (x : Ed) : (rowStep r x).length = r.length := by simp [rowStep]
theorem set_bit {r : List Nat} {i : Nat} (hi : i < r.length) (j a b : Nat) : bitL (r.set i (r.getD i 0 ||| 2 ^ j)) a b = (bitL r a b || (decide (a = i) && decide (b = j))) := by
  unfold bitL
  rw [List.getD_eq_getElem?_getD, List.getElem?_set]
  by_cases e : i = a
  · subst e
    rw [if_pos rfl, if_pos hi]
    show ((r.getD i 0 ||| 2 ^ j).testBit b) = _
    rw [Nat.testBit_or, Nat.testBit_two_pow, decide_eq_true rfl, Bool.true_and, decide_eq_decide.2 (show j = b ↔ b = j from ⟨Eq.symm, Eq.symm⟩)]
  · rw [if_neg e]
    have : ¬ a = i := fun h => e h.symm
    simp [this]
theorem rowStep_bit {r : List Nat} {x : Ed} {n : Int} (hl : r.length = n.toNat) (hx : okE n x) (a b : Nat) : bitL (rowStep r x) a b = (bitL r a b || (decide (a = x.1.toNat) && decide (b = x.2.toNat)) || (decide (a = x.2.toNat) && decide (b = x.1.toNat))) := by
  obtain ⟨h1, h2, h3⟩ := hx
  unfold rowStep
  rw [set_bit (by rw [List.length_set]; omega), set_bit (by omega)]
theorem rows_bit {n : Int} : ∀ (E : List Ed) (r : List Nat), r.length = n.toNat → (∀ x ∈ E, okE n x) → (E.foldl rowStep r).length = n.toNat ∧ ∀ a b : Nat, bitL (E.foldl rowStep r) a b = true ↔ bitL r a b = true ∨ adjE E a b := by
  intro E
  induction E with
  | nil => intro r hl _; exact ⟨hl, fun a b => by simp [adjE]⟩
  | cons x E ih =>
    intro r hl hE
    have hx := hE x (by simp)
    obtain ⟨i1, i2⟩ := ih (rowStep r x) (by rw [rowStep_length]; exact hl) fun y hy => hE y (by simp [hy])
    refine ⟨i1, fun a b => ?_⟩
    rw [List.foldl_cons, i2, rowStep_bit hl hx]
    obtain ⟨h1, h2, h3⟩ := hx
    obtain ⟨u, v⟩ := x
    dsimp only at h1 h2 h3
    simp only [Bool.or_eq_true, Bool.and_eq_true, decide_eq_true_eq, adjE, List.mem_cons, Prod.mk.injEq]
    constructor
    · rintro ((( h | ⟨e1, e2⟩) | ⟨e1, e2⟩) | h)
      · exact .inl h
      · exact .inr (.inl (.inl ⟨by omega, by omega⟩))
      · exact .inr (.inr (.inl ⟨by omega, by omega⟩))
      · rcases h with h | h
        · exact .inr (.inl (.inr h))
        · exact .inr (.inr (.inr h))
    · rintro (h | (⟨e1, e2⟩ | h) | (⟨e1, e2⟩ | h))
      · exact .inl (.inl (.inl h))
      · exact .inl (.inl (.inr ⟨by omega, by omega⟩))
      · exact .inr (.inl h)
      · exact .inl (.inr ⟨by omega, by omega⟩)
      · exact .inr (.inr h)
theorem rowsL_length {n : Int} {E : List Ed} (h : ∀ x ∈ E, okE n x) : (rowsL n E).length = n.toNat := (rows_bit E _ (by simp) h).1
theorem rowsL_bit {n : Int} {E : List Ed} (h : ∀ x ∈ E, okE n x) (a b : Nat) : bitL (rowsL n E) a b = true ↔ adjE E a b := by
  unfold rowsL
  rw [(rows_bit E _ (by simp) h).2]
  constructor
  · rintro (h | h)
    · exfalso
      unfold bitL at h
      rw [List.getD_eq_getElem?_getD, List.getElem?_replicate] at h
      split at h <;> simp at h
    · exact h
  · exact .inr
theorem adjE_range {n : Int} {E : List Ed} (h : ∀ x ∈ E, okE n x) {a b : Int} (ha : adjE E a b) : 0 ≤ a ∧ a < n ∧ 0 ≤ b ∧ b < n ∧ a ≠ b := by
  rcases ha with ha | ha
  · obtain ⟨h1, h2, h3⟩ := h _ ha
    dsimp only at h1 h2 h3; omega
  · obtain ⟨h1, h2, h3⟩ := h _ ha
    dsimp only at h1 h2 h3; omega
theorem rowsL_sq {n : Int} {E : List Ed} (h : ∀ x ∈ E, okE n x) : Sq (rowsL n E) := by
  refine ⟨fun a b hb => ?_, fun a b hb => ?_, fun a => ?_⟩
  · rw [rowsL_bit h] at hb
    have := adjE_range h hb
    rw [rowsL_length h]; omega
  · rw [rowsL_bit h] at hb ⊢
    exact hb.symm
  · cases hc : bitL (rowsL n E) a a with
    | false => rfl
    | true =>
      rw [rowsL_bit h] at hc
      have := adjE_range h hc
      omega
theorem rch_back {E : List Ed} {l : List Int} {P : Int → Prop} {s : Int} (hs : s ∈ l) (hc : ∀ u v, u ∈ l → v ∈ l → adjE E u v → P u → P v) : ∀ {v : Int}, Rch E l s v → v ∈ l ∧ (P v → P s) := by
  intro v hr
  induction hr with
  | base => exact ⟨hs, id⟩
  | @step u v hr ha hv ih => exact ⟨hv, fun hp => ih.2 (hc v u hv ih.1 ha.symm hp)⟩
theorem rch_forw {E : List Ed} {l : List Int} {P : Int → Prop} {s : Int} (hs : s ∈ l) (hp : P s) (hc : ∀ u v, u ∈ l → v ∈ l → adjE E u v → P u → P v) : ∀ {v : Int}, Rch E l s v → v ∈ l ∧ P v := by
  intro v hr
  induction hr with
  | base => exact ⟨hs, hp⟩
  | @step u v hr ha hv ih => exact ⟨hv, hc u v ih.1 hv ha ih.2⟩
theorem chk_mod {n : Int} {E : List Ed} {k : Int} {S : List (List Int)} (h : CheckP n E k S) : Mod (rowsL n E) (sizeN k) (patN k) fun x => S.findIdx fun l => l.elem (x : Int) := by
  obtain ⟨hR, hk0, hl, hW, hnd, hT⟩ := h
  have hE : ∀ x ∈ E, okE n x := fun x hx => hR.2.2.2.1 x hx
  have hb := rowsL_bit hE
  have hlen := rowsL_length hE
  have hSl : S.length = sizeN k := by unfold sizeN; omega
  have cx : ∀ (x : Nat) (i : Nat) (hi : i < S.length), (S.findIdx fun l => l.elem (x : Int)) = i ↔ (x : Int) ∈ S[i] := fun x i hi => by
    constructor
    · intro e
      have := List.findIdx_getElem (xs := S) (p := fun l => l.elem (x : Int)) (w := by omega)
      simp only [e] at this
      simpa using this
    · intro hm
      have hlt : (S.findIdx fun l => l.elem (x : Int)) < S.length := List.findIdx_lt_length_of_exists ⟨S[i], List.getElem_mem hi, by simpa using hm⟩
      have := List.findIdx_getElem (xs := S) (p := fun l => l.elem (x : Int)) (w := hlt)
      exact disj_at hnd (List.getElem?_eq_getElem hlt) (List.getElem?_eq_getElem hi) (by simpa using this) hm
  refine ⟨fun i hi => ?_, fun i hi P hP hcl x hx hcx => ?_, fun q hq => ?_⟩
  · have hi : i < S.length := by omega
    have hw := hW _ (List.getElem_mem hi)
    obtain ⟨v, hv⟩ := List.exists_mem_of_ne_nil _ hw.2.1
    have hvr := hw.2.2.2.1 v hv
    refine ⟨v.toNat, by rw [hlen]; omega, (cx _ i hi).2 ?_⟩
    rw [Int.toNat_of_nonneg hvr.1]; exact hv
  · have hi : i < S.length := by omega
    have hw := hW _ (List.getElem_mem hi)
    have hin : S[i].headD 0 ∈ S[i] := by
      cases hS : S[i] with
      | nil => exact absurd hS hw.2.1
      | cons a l => simp
    have hr0 := hw.2.2.2.1
    have hcl2 : ∀ u v, u ∈ S[i] → v ∈ S[i] → adjE E u v → P u.toNat → P v.toNat := fun u v hu hv ha hp => by
      have r1 := hr0 u hu
      have r2 := hr0 v hv
      have e1 := Int.toNat_of_nonneg r1.1
      have e2 := Int.toNat_of_nonneg r2.1
      refine hcl u.toNat v.toNat ((cx _ i hi).2 (by rw [e1]; exact hu)) ((cx _ i hi).2 (by rw [e2]; exact hv)) ((hb _ _).2 (by rw [e1, e2]; exact ha)) hp
    obtain ⟨y, hy, hcy, hPy⟩ := hP
    have hyS := (cx y i hi).1 hcy
    have hxS := (cx x i hi).1 hcx
    have hs := (rch_back (P := fun v => P v.toNat) hin hcl2 (hw.2.2.2.2 _ hyS)).2 (by simpa using hPy)
    have := (rch_forw (P := fun v => P v.toNat) hin hs hcl2 (hw.2.2.2.2 _ hxS)).2
    simpa using this
  · obtain ⟨p, hp, rfl⟩ := List.mem_map.1 hq
    have := hT p hp
    obtain ⟨_, _, _, h4⟩ := patG_ok k
    obtain ⟨q0, q1, q2⟩ := h4 p hp
    have i1 : p.1.toNat < S.length := by omega
    have i2 : p.2.toNat < S.length := by omega
    have s1 : setAt S p.1 = S[p.1.toNat] := by unfold setAt; rw [List.getD_eq_getElem?_getD, List.getElem?_eq_getElem i1]; rfl
    have s2 : setAt S p.2 = S[p.2.toNat] := by unfold setAt; rw [List.getD_eq_getElem?_getD, List.getElem?_eq_getElem i2]; rfl
    rw [s1, s2] at this
    obtain ⟨x, hx, ht⟩ := List.any_eq_true.1 this
    have e1 := Int.toNat_of_nonneg (hE x hx).1
    have e2 := Int.toNat_of_nonneg (show 0 ≤ x.2 by have := hE x hx; obtain ⟨a1, a2, a3⟩ := this; omega)
    simp only [Bool.or_eq_true, Bool.and_eq_true] at ht
    rcases ht with ⟨t1, t2⟩ | ⟨t1, t2⟩
    · refine ⟨x.1.toNat, x.2.toNat, (hb _ _).2 (by rw [e1, e2]; exact .inl hx), (cx _ _ i1).2 (by rw [e1]; simpa using t1), (cx _ _ i2).2 (by rw [e2]; simpa using t2)⟩
    · refine ⟨x.2.toNat, x.1.toNat, (hb _ _).2 (by rw [e1, e2]; exact .inr hx), (cx _ _ i1).2 (by rw [e2]; simpa using t2), (cx _ _ i2).2 (by rw [e1]; simpa using t1)⟩
end Go.Sh

set_option linter.unusedVariables false
set_option linter.unusedSimpArgs false
namespace Go.Sh
/-! ### narrow: there is no model of the complete graph of four -/
theorem Core.K4 {N : List (List Int)} {G : List Bool} (h : Core N G) : K4 N ↔ leftF G ≠ [] := by
  constructor
  · rintro ⟨c, hc⟩ e
    obtain ⟨x, y, hx, hy, k, _⟩ := hc.meet 0 1 (by omega) (by omega)
    rw [List.mem_range] at hx
    have : (x : Int) ∈ leftF G := mem_leftF.2 ⟨by omega, by rw [h.wf.len]; omega, by
      cases hg : goneAt G (x : Int) with
      | false => rfl
      | true => unfold adjN at k; rw [h.wf.gone x (by omega) hg] at k; simp at k⟩
    rw [e] at this; simp at this
  · intro hne
    let vs := (List.range N.length).filter fun (x : Nat) => !goneAt G (x : Int)
    have hvs : ∀ x, x ∈ vs ↔ x < N.length ∧ goneAt G (x : Int) = false := fun x => by
      rw [List.mem_filter, List.mem_range]; simp
    have h0 : vs ≠ [] := by
      obtain ⟨v, hv⟩ := List.exists_mem_of_ne_nil _ hne
      obtain ⟨a0, a1, a2⟩ := mem_leftF.1 hv
      intro e
      have : v.toNat ∈ vs := (hvs _).2 ⟨by rw [h.wf.len] at a1; omega, by rw [Int.toNat_of_nonneg a0]; exact a2⟩
      rw [e] at this; simp at this
    have hd : ∀ x, x ∈ vs → D3 vs (adjN N) x := fun x hx => by
      obtain ⟨x1, x2⟩ := (hvs x).1 hx
      have h3 := h.three (v := (x : Int)) (by omega) (by omega) x2
      have hs := (h.wf.rows (x : Int)).1
      have hin : ∀ y, y ∈ rowAt N x → y.toNat ∈ vs ∧ adjN N x y.toNat := fun y hy => by
        obtain ⟨y0, y1, y2⟩ := near_there h.wf (by omega) hy
        exact ⟨(hvs _).2 ⟨by omega, by rw [Int.toNat_of_nonneg y0]; exact y2⟩, by unfold adjN; rw [Int.toNat_of_nonneg y0]; exact hy⟩
      have hr0 := fun y hy => (near_there h.wf (show (0 : Int) ≤ x by omega) (x := y) hy).1
      match hrow : rowAt N x, h3 with
      | a :: b :: c :: l, _ =>
        rw [hrow] at hs hin hr0
        simp only [List.pairwise_cons] at hs
        have ab := hs.1 b (by simp)
        have ac := hs.1 c (by simp)
        have bc := hs.2.1 c (by simp)
        have a0 := hr0 a (by simp)
        obtain ⟨m1, k1⟩ := hin a (by simp)
        obtain ⟨m2, k2⟩ := hin b (by simp)
        obtain ⟨m3, k3⟩ := hin c (by simp)
        exact ⟨_, _, _, m1, m2, m3, by omega, by omega, by omega, k1, k2, k3⟩
      | [], h3 => simp at h3
      | [_], h3 => simp at h3
      | [_, _], h3 => simp at h3
    obtain ⟨c, hc⟩ := dirac (adjN_sm h.wf) (List.nodup_range.sublist List.filter_sublist) hd h0
    exact ⟨_, hc.induced fun x hx => List.mem_range.2 ((hvs x).1 hx).1⟩
theorem narrow_K4 {n : Int} {E : List Ed} (hR : RightP n E) : narrowB n E = true ↔ ¬ K4 (nbrs n.toNat E) := by
  obtain ⟨hC, _, _⟩ := core_run hR
  have h1 : K4 (runR n E).2.1 ↔ K4 (nbrs n.toNat E) := K4_run (begin_wf hR)
  have hrun : runO n E = ((runR n E).1, leftF (runR n E).2.2, edgesF (runR n E).2.1 (runR n E).2.2) := if_pos hR
  unfold narrowB
  rw [decide_eq_true hR, Bool.true_and, decide_eq_true_eq, hrun, ← h1, hC.K4]
  simp
/-! #### models of sets, and rows of bits -/
theorem nbrs_adj {n : Int} {E : List Ed} (hR : RightP n E) (x y : Nat) : adjN (nbrs n.toNat E) x y ↔ adjE E x y := by
  unfold adjN
  by_cases hx : (x : Int) < n.toNat
  · rw [nbrs_row (by omega) hx, mem_nearL]
  · rw [rowAt_out (by rw [nbrs_length]; omega)]
    constructor
    · intro h; simp at h
    · intro h
      have := adjE_range (fun p hp => hR.2.2.2.1 p hp) h
      omega
theorem mod_mdl {r : List Nat} (hs : Sq r) {c : Nat → Nat} : Mod r 4 (patN 1) c ↔ MdL (List.range r.length) (fun x y => bitL r x y = true) c := by
  have rg : ∀ {x}, x ∈ List.range r.length ↔ x < r.length := List.mem_range
  constructor
  · intro h
    refine ⟨fun i hi => ?_, fun i hi P ⟨x, hx, e, hP⟩ hcl y hy ey => ?_, fun i j hij hj => ?_⟩
    · obtain ⟨x, hx, e⟩ := h.some i hi; exact ⟨x, rg.2 hx, e⟩
    · exact h.conn i hi P ⟨x, rg.1 hx, e, hP⟩ (fun a b ea eb k => hcl a b (rg.2 (hs.lt k)) (rg.2 (hs.bnd _ _ k)) ea eb k) y (rg.1 hy) ey
    · have hq : (i, j) ∈ patN 1 := by
        rw [patN_one.2]
        have : (i = 0 ∧ j = 1) ∨ (i = 0 ∧ j = 2) ∨ (i = 0 ∧ j = 3) ∨ (i = 1 ∧ j = 2) ∨ (i = 1 ∧ j = 3) ∨ (i = 2 ∧ j = 3) := by omega
        rcases this with ⟨rfl, rfl⟩ | ⟨rfl, rfl⟩ | ⟨rfl, rfl⟩ | ⟨rfl, rfl⟩ | ⟨rfl, rfl⟩ | ⟨rfl, rfl⟩ <;> simp
      obtain ⟨x, y, k, ex, ey⟩ := h.meet _ hq
      exact ⟨x, y, rg.2 (hs.lt k), rg.2 (hs.bnd _ _ k), k, ex, ey⟩
  · intro h
    refine ⟨fun i hi => ?_, fun i hi P ⟨x, hx, e, hP⟩ hcl y hy ey => ?_, fun q hq => ?_⟩
    · obtain ⟨x, hx, e⟩ := h.some i hi; exact ⟨x, rg.1 hx, e⟩
    · exact h.conn i hi P ⟨x, rg.2 hx, e, hP⟩ (fun a b _ _ ea eb k => hcl a b ea eb k) y (rg.2 hy) ey
    · have hq2 : q.1 < q.2 ∧ q.2 < 4 := by
        rw [patN_one.2] at hq
        simp at hq
        rcases hq with rfl | rfl | rfl | rfl | rfl | rfl <;> decide
      obtain ⟨x, y, _, _, k, ex, ey⟩ := h.meet q.1 q.2 hq2.1 hq2.2
      exact ⟨x, y, k, ex, ey⟩
theorem rows_K4 {n : Int} {E : List Ed} (hR : RightP n E) {c : Nat → Nat} : MdL (List.range (rowsL n E).length) (fun x y => bitL (rowsL n E) x y = true) c ↔ MdL (List.range (nbrs n.toNat E).length) (adjN (nbrs n.toNat E)) c := by
  have hE : ∀ x ∈ E, okE n x := fun x hx => hR.2.2.2.1 x hx
  rw [rowsL_length hE, nbrs_length]
  have e : ∀ x y : Nat, bitL (rowsL n E) x y = true ↔ adjN (nbrs n.toNat E) x y := fun x y => by rw [rowsL_bit hE, nbrs_adj hR]
  exact ⟨fun h => h.mono fun x y _ _ k => (e x y).1 k, fun h => h.mono fun x y _ _ k => (e x y).2 k⟩
theorem chk_K4 {n : Int} {E : List Ed} {S : List (List Int)} (h : CheckP n E 1 S) : K4 (nbrs n.toNat E) := by
  have h1 := chk_mod h
  have hE : ∀ x ∈ E, okE n x := fun x hx => h.1.2.2.2.1 x hx
  rw [patN_one.1] at h1
  exact ⟨_, (rows_K4 h.1).1 ((mod_mdl (rowsL_sq hE)).1 h1)⟩
end Go.Sh
