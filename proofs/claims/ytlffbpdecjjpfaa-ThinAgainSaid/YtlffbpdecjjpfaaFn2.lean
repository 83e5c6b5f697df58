/- What the functions answer that the statement reaches. No condition. -/
import Derived.Test.YtlffbpdecjjpfaaFn1
import Derived.RangeFuncBox
import Derived.RangeFuncLeaves
import Derived.Shelf.Abstract
import Derived.WalkKit
import Derived.OwnWalkIn
import Derived.TacticsInMore
import Derived.LoopNIn
import Derived.LoopIn
import Derived.Maps.AppendAt
import Derived.Test.YtlffbpdecjjpfaaProg
import Derived.Shelf.SlSortCmp.NoneTotal
import Derived.Ground.SlsfProg
import Derived.Sort.QuietIn
import Derived.Sort.QuietTacIn
import Derived.Deep.RegionLaw
import Derived.Deep.RegionLawGrows
import Derived.StillTailTactics
import Derived.Shelf.Sort.Plain
import Derived.Shelf.Slices.In.SortNone
import Derived.Shelf.Slices.CompactI
import Derived.Ground.NamesProg
import Derived.Ground.Names2Prog
import Derived.Sort.OwnSorted
import Derived.Shelf.SlIterI.Sorted
set_option linter.unusedVariables false
set_option linter.unusedSimpArgs false
namespace Go.Sh
open Go.Proofs
/-! ### reduce.Run -/
open Classical in
noncomputable def runO (n : Int) (E : List Ed) : List Stp × List Int × List Ed := if RightP n E then ((runR n E).1, leftF (runR n E).2.2, edgesF (runR n E).2.1 (runR n E).2.2) else ([], [], [])
noncomputable def RunC : Con := conP 2 (fun _ : Int × List Ed => True) (fun a => [grV a.1 a.2]) (fun a => logV true (runO a.1 a.2).1 (runO a.1 a.2).2.1 (runO a.1 a.2).2.2)
theorem RunC_at (n : Int) (E : List Ed) : RunC.F [grV n E] = some (logV true (runO n E).1 (runO n E).2.1 (runO n E).2.2, []) :=
  conP_at (a := (n, E)) (fun x y _ _ h => by
    obtain ⟨n, E⟩ := x
    obtain ⟨n', E'⟩ := y
    simp at h
    obtain ⟨rfl, rfl⟩ := grV_inj h
    rfl) trivial
noncomputable def XRun : Cx := { Γ := [(42, RightC), (50, BeginC), (51, MayC), (52, StepC), (84, turnC (fun l _ => l.Pairwise (· ≤ ·) ∧ l.length ≤ 1000000) (fun l x => l.erase x)), (85, turnC (fun l _ => l.Pairwise (· ≤ ·) ∧ l.length ≤ 1000000) insAt)], T := T, nt := 66, inl := [(56, inlF Try.f56), (57, inlF Try.f57), (55, inlF Try.f55), (53, inlF Try.f53)], join := [82000, 56000], jc := [82050, 70031, 66059, 66024] }
theorem XRun_sound : Sound Try.prog T XRun.Γ := sound_cons RightG_ok (sound_cons Begin_ok (sound_cons May_ok (sound_cons Step_ok (sound_cons (turn_sound Without_call) (sound_cons (turn_sound With_call) sound_nil)))))
theorem XRun_ok : CrOk Try.prog (callAt 1 XRun) := callAt_ok hmix hT XRun_sound (inl_cons Try.func56 (by rfl) (by rfl) (by rfl) (inl_cons Try.func57 (by rfl) (by rfl) (by rfl) (inl_cons Try.func55 (by rfl) (by rfl) (by rfl) (inl_cons Try.func53 (by rfl) (by rfl) (by rfl) inl_nil)))) cr_none 1
theorem may_range {N : List (List Int)} {G : List Bool} {n x : Int} (h : N.length = n.toNat) (k : mayB N G x = true) : 0 ≤ x ∧ x < n := by
  have h1 := (mayB_iff.1 k).lo
  have h2 := (mayB_iff.1 k).hi
  omega
theorem skip_may {i : Nat} {x a b v : Int} {P : Prop} (hx : (i = 0 ∧ x = a) ∨ (i = 1 ∧ x = b)) (hne : v ≠ x) (k : P ∨ (i ≤ 0 ∧ v = a) ∨ (i ≤ 1 ∧ v = b)) : P ∨ (i + 1 ≤ 0 ∧ v = a) ∨ (i + 1 ≤ 1 ∧ v = b) := by
  rcases k with k | ⟨k1, k2⟩ | ⟨k1, k2⟩
  · exact .inl k
  · rcases hx with ⟨_, e⟩ | ⟨e0, _⟩
    · exact absurd (by rw [k2, e]) hne
    · omega
  · rcases hx with ⟨e0, _⟩ | ⟨_, e⟩
    · exact .inr (.inr ⟨by omega, k2⟩)
    · exact absurd (by rw [k2, e]) hne
theorem put_may {i : Nat} {x a b v : Int} {P Q : Prop} (hx : (i = 0 ∧ x = a) ∨ (i = 1 ∧ x = b)) (h : P ∨ v = x → Q) (k : P ∨ (i ≤ 0 ∧ v = a) ∨ (i ≤ 1 ∧ v = b)) : Q ∨ (i + 1 ≤ 0 ∧ v = a) ∨ (i + 1 ≤ 1 ∧ v = b) := by
  rcases k with k | ⟨k1, k2⟩ | ⟨k1, k2⟩
  · exact .inl (h (.inl k))
  · rcases hx with ⟨_, e⟩ | ⟨e0, _⟩
    · exact .inl (h (.inr (by rw [k2, e])))
    · omega
  · rcases hx with ⟨e0, _⟩ | ⟨_, e⟩
    · exact .inr (.inr ⟨by omega, k2⟩)
    · exact .inl (h (.inr (by rw [k2, e])))
set_option maxHeartbeats 4000000 in
theorem Run_ok : SoundC Try.prog T 26 RunC := by
  refine sound_con (X := XRun) (cr := callAt 1 XRun) XRun_ok hmix hT XRun_sound Try.func26 (by rfl) (by rfl) (by rfl) (by rfl) 2 ?_
  rintro ⟨n, E⟩ -
  dsimp only
  refine ⟨⟨Nat.le_of_ble_eq_true rfl, Nat.le_of_ble_eq_true rfl⟩, ?_⟩
  refine Call.by _ _ (RightC_at n E) ?_
  refine Pick.by (fun h1 => ?_) (fun h1 => ?_)
  · have h1 : ¬ RightP n E := by have h1 : (!decide (RightP n E)) = true := h1; simpa using h1
    have hv : runO n E = ([], [], []) := if_neg h1
    rw [hv]
    refine ⟨rfl, ?_⟩
    (repeat' first | exact rfl | exact trivial | apply And.intro)
  have hR : RightP n E := by have h1 : (!decide (RightP n E)) = false := h1; simpa using h1
  have hv : runO n E = ((runR n E).1, leftF (runR n E).2.2, edgesF (runR n E).2.1 (runR n E).2.2) := if_pos hR
  rw [hv]
  refine Call.by _ _ (BeginC_at hR) ?_
  have hn0 := hR.1
  have hn1 := hR.2.1
  have hW := begin_wf hR
  have hNl := nbrs_length n.toNat E
  have hGl : (List.replicate n.toNat false).length = (nbrs n.toNat E).length := by rw [hNl]; simp
  refine LoopP.intro (α := Nat × List Int) (fun a => a.1 ≤ n.toNat ∧ a.2.length ≤ a.1 ∧ Heap a.2 ∧ (∀ v ∈ a.2, 0 ≤ v ∧ v < n) ∧ ∀ v : Int, v < a.1 → mayB (nbrs n.toNat E) (List.replicate n.toNat false) v = true → v ∈ a.2) (fun a => n.toNat - a.1) (fun a => [(2, .ptr 0 0), (3, .ptr 1 0), (4, .ptr 4 0), (18, .s (.i .i64 n)), (19, .s (.i .i64 a.1))])
    (fun a => [(0, some (.blk [.nils, .nils, .nils])), (1, some (.blk [.sl 2 none none, .sl 3 none none])), (2, some (.nest true 1 (rowsI (nbrs n.toNat E)) [] [])), (3, some (.flat true 1 (bools (List.replicate n.toNat false)))), (4, some (.blk [.sl 5 none none])), (5, some (.flat true 1 (ints a.2)))]) 6 (0, []) ⟨by omega, by simp, heap_nil, by simp, fun v h1 h2 => by rw [mayB_iff] at h2; have := h2.lo; omega⟩ (by refine Weak.by [(0, some _), (1, some _), (2, some _), (3, some _), (4, some _), (5, none)] (by ((repeat' first | exact rfl | exact trivial | apply And.intro) <;> (repeat' first | exact rfl | exact trivial | apply And.intro))) (by ((repeat' first | exact rfl | exact trivial | apply And.intro) <;> (repeat' first | exact rfl | exact trivial | apply And.intro))) (by rfl)) ?_
  rintro ⟨i, l⟩ ⟨hi, hl, hH, hr, hm⟩
  dsimp only at hi hl hH hr hm ⊢
  refine Pick.by (fun hc => ?_) (fun hc => ?_)
  · have hlt : i < n.toNat := by simp at hc; omega
    refine Call.by _ _ (MayC_at (i : Int) hGl) ?_
    refine JoinP.intro (α := List Int) (fun l => l.length ≤ i + 1 ∧ Heap l ∧ (∀ v ∈ l, 0 ≤ v ∧ v < n) ∧ ∀ v : Int, v < (i + 1 : Nat) → mayB (nbrs n.toNat E) (List.replicate n.toNat false) v = true → v ∈ l) (fun l => [(2, .ptr 0 0), (3, .ptr 1 0), (4, .ptr 4 0), (18, .s (.i .i64 n)), (19, .s (.i .i64 i))])
      (fun l => [(0, some (.blk [.nils, .nils, .nils])), (1, some (.blk [.sl 2 none none, .sl 3 none none])), (2, some (.nest true 1 (rowsI (nbrs n.toNat E)) [] [])), (3, some (.flat true 1 (bools (List.replicate n.toNat false)))), (4, some (.blk [.sl 5 none none])), (5, some (.flat true 1 (ints l)))]) 6 ?_ ?_
    rotate_left
    · rintro l' ⟨a1, a2, a3, a4⟩
      refine Pick.T (inI64_of (by omega) (by omega)) ?_
      exact Next.by (i + 1, l') ⟨by dsimp only; omega, a1, a2, a3, a4⟩ (by dsimp only; omega) (by refine Weak.by [(0, some _), (1, some _), (2, some _), (3, some _), (4, some _), (5, some _)] (by ((repeat' first | exact rfl | exact trivial | apply And.intro) <;> (repeat' first | exact rfl | exact trivial | apply And.intro))) (by ((repeat' first | exact rfl | exact trivial | apply And.intro) <;> (repeat' first | exact rfl | exact trivial | apply And.intro))) (by rfl))
    refine Pick.by (fun h2 => ?_) (fun h2 => ?_)
    · refine Pick.T (by simp [cut, ints_length]; omega) ?_
      have hraw : ints l = ints l := rfl
      have hlen0 : (ints l ++ [[Sc.i .i64 ((i : Nat) : Int)]]) = ints (l ++ [((i : Nat) : Int)]) := by rw [hraw, ints_snoc]
      refine Pick.T (by show inI64 ((((ints l ++ [[Sc.i .i64 ((i : Nat) : Int)]]).length : Nat) : Int) - 1) = true; rw [hlen0, ints_length]; simp; exact inI64_of (by omega) (by omega)) ?_
      have hlen1 : ((l.length : Nat) : Int) = (((ints l ++ [[Sc.i .i64 ((i : Nat) : Int)]]).length : Nat) : Int) - 1 := by rw [hlen0, ints_length]; simp
      refine JoinP.intro (α := List Int) (fun a => Heap a ∧ a.length = l.length + 1 ∧ ∀ v, v ∈ a ↔ v ∈ l ∨ v = ((i : Nat) : Int)) (fun a => [(0, .ptr 4 0), (4, .sl 6 none none), (1000002, .ptr 0 0), (1000003, .ptr 1 0), (1000004, .ptr 4 0), (1000018, .s (.i .i64 n)), (1000019, .s (.i .i64 i))])
        (fun a => [(0, some (.blk [.nils, .nils, .nils])), (1, some (.blk [.sl 2 none none, .sl 3 none none])), (2, some (.nest true 1 (rowsI (nbrs n.toNat E)) [] [])), (3, some (.flat true 1 (bools (List.replicate n.toNat false)))), (4, some (.blk [.sl 5 none none])), (6, some (.flat true 1 (ints a)))]) 7 ?_ ?_
      rotate_left
      · rintro m ⟨hHm, hml2, hmem⟩
        exact ⟨m, ⟨by omega, hHm, fun v hv => ((hmem v).1 hv).elim (hr v) fun e => by rw [e]; omega, fun v hv hmv => (hmem v).2 (if hvi : v < i then .inl (hm v hvi hmv) else .inr (by omega))⟩, by refine Weak.by [(0, some _), (1, some _), (2, some _), (3, some _), (4, some _), (5, some _)] (by ((repeat' first | exact rfl | exact trivial | apply And.intro) <;> (repeat' first | exact rfl | exact trivial | apply And.intro))) (by ((repeat' first | exact rfl | exact trivial | apply And.intro) <;> (repeat' first | exact rfl | exact trivial | apply And.intro))) (by rfl)⟩
      refine LoopP.intro (α := Nat × List Int) (fun a => a.2.Perm (l ++ [((i : Nat) : Int)]) ∧ HUp a.2 a.1 ∧ a.1 < a.2.length) (fun a => a.1) (fun a => [(0, .ptr 4 0), (4, .sl 6 none none), (5, .s (.i .i64 a.1)), (1000002, .ptr 0 0), (1000003, .ptr 1 0), (1000004, .ptr 4 0), (1000018, .s (.i .i64 n)), (1000019, .s (.i .i64 i))])
        (fun a => [(0, some (.blk [.nils, .nils, .nils])), (1, some (.blk [.sl 2 none none, .sl 3 none none])), (2, some (.nest true 1 (rowsI (nbrs n.toNat E)) [] [])), (3, some (.flat true 1 (bools (List.replicate n.toNat false)))), (4, some (.blk [.sl 5 none none])), (6, some (.flat true 1 (ints a.2)))]) 7 (l.length, l ++ [((i : Nat) : Int)]) ⟨List.Perm.refl _, up_start hH _, by simp⟩ (by refine Weak.by [(0, some _), (1, some _), (2, some _), (3, some _), (4, some _), (5, some _), (6, some _)] (by ((repeat' first | exact rfl | exact trivial | apply And.intro) <;> (repeat' first | exact rfl | exact trivial | apply And.intro)); all_goals ((first | (exact hlen0.symm) | (exact sc_eq hlen1)))) (by ((repeat' first | exact rfl | exact trivial | apply And.intro) <;> (repeat' first | exact rfl | exact trivial | apply And.intro)); all_goals ((first | (exact hlen0.symm) | (exact sc_eq hlen1)))) (by rfl)) ?_
      rintro ⟨p, m⟩ ⟨hperm, hup, hpm⟩
      dsimp only at hperm hup hpm ⊢
      have hml : m.length = l.length + 1 := by rw [hperm.length_eq]; simp
      have hpq : 0 < p → ((p : Int) - 1).tdiv 2 = (((p - 1) / 2 : Nat) : Int) := fun h => by rw [show (p : Int) - 1 = ((p - 1 : Nat) : Int) by omega]; rfl
      have hput : Heap m → Heap m ∧ m.length = l.length + 1 ∧ ∀ v, v ∈ m ↔ v ∈ l ∨ v = ((i : Nat) : Int) := fun h => ⟨h, hml, fun v => by rw [hperm.mem_iff]; simp⟩
      refine Pick.by (fun hc1 => ?_) (fun hc1 => ?_)
      · have hp0 : 0 < p := by simp at hc1; omega
        have hq := hpq hp0
        have hql : (p - 1) / 2 < m.length := by omega
        obtain ⟨y, hy⟩ : ∃ y, m[p]? = some y := ⟨_, List.getElem?_eq_getElem hpm⟩
        obtain ⟨z, hz⟩ : ∃ z, m[(p - 1) / 2]? = some z := ⟨_, List.getElem?_eq_getElem hql⟩
        refine Idx.by p rfl (by rw [ints_length]; exact hpm) ?_
        refine Look.by _ (ints_get hy) ?_
        refine Pick.T (inI64_of (by omega) (by omega)) ?_
        refine Pick.T (inI64_of (by omega) (by omega)) ?_
        refine Idx.by ((p - 1) / 2) hq (by rw [ints_length]; exact hql) ?_
        refine Look.by _ (ints_get hz) ?_
        refine Seg.by (by kernel_rfl) ?_
        refine Pick.by (fun hc2 => ?_) (fun hc2 => ?_)
        · have hlt : y < z := by simpa using hc2
          have hsw : ints ((m.set p z).set ((p - 1) / 2) y) = ((ints m).set p [.i .i64 z]).set ((p - 1) / 2) [.i .i64 y] := by rw [ints_set, ints_set]
          refine Pick.T (inI64_of (by omega) (by omega)) ?_
          refine Pick.T (inI64_of (by omega) (by omega)) ?_
          refine Pick.T (inI64_of (by omega) (by omega)) ?_
          refine Pick.T (inI64_of (by omega) (by omega)) ?_
          refine Idx.by ((p - 1) / 2) hq (by rw [ints_length]; exact hql) ?_
          refine Look.by _ (ints_get hz) ?_
          refine Idx.by p rfl (by rw [ints_length]; exact hpm) ?_
          refine Look.by _ (ints_get hy) ?_
          refine Idx.by p rfl (by rw [ints_length]; exact hpm) ?_
          refine Look.by _ (ints_get hy) ?_
          refine Idx.by ((p - 1) / 2) hq (by rw [List.length_set, ints_length]; exact hql) ?_
          refine Look.by _ (by rw [List.getElem?_set_ne (by omega)]; exact ints_get hz) ?_
          refine Seg.by (by kernel_rfl) ?_
          refine Pick.T (inI64_of (by omega) (by omega)) ?_
          refine Pick.T (inI64_of (by omega) (by omega)) ?_
          refine Next.by ((p - 1) / 2, (m.set p z).set ((p - 1) / 2) y) ⟨(swap_perm hy hz (by omega)).trans hperm, up_step hup hp0 hz hy hlt, by rw [List.length_set, List.length_set]; exact hql⟩ (by dsimp only; omega) (by refine Weak.by [(0, some _), (1, some _), (2, some _), (3, some _), (4, some _), (5, some _), (6, some _)] (by ((repeat' first | exact rfl | exact trivial | apply And.intro) <;> (repeat' first | exact rfl | exact trivial | apply And.intro)); all_goals ((first | (exact hsw) | (exact sc_eq hq.symm)))) (by ((repeat' first | exact rfl | exact trivial | apply And.intro) <;> (repeat' first | exact rfl | exact trivial | apply And.intro)); all_goals ((first | (exact hsw) | (exact sc_eq hq.symm)))) (by rfl))
        · have hHm := hput (up_done hup (.inr fun x' y' hx' hy' => by
            rw [hz] at hx'; rw [hy] at hy'
            injection hx' with hx'; injection hy' with hy'
            have : ¬ y < z := by simpa using hc2
            omega))
          exact ⟨m, hHm, by refine Weak.by [(0, some _), (1, some _), (2, some _), (3, some _), (4, some _), (5, some _), (6, some _)] (by ((repeat' first | exact rfl | exact trivial | apply And.intro) <;> (repeat' first | exact rfl | exact trivial | apply And.intro))) (by ((repeat' first | exact rfl | exact trivial | apply And.intro) <;> (repeat' first | exact rfl | exact trivial | apply And.intro))) (by rfl)⟩
      · have hp0 : p = 0 := by simp at hc1; omega
        refine Seg.by (by kernel_rfl) ?_
        exact ⟨m, hput (up_done hup (.inl hp0)), by refine Weak.by [(0, some _), (1, some _), (2, some _), (3, some _), (4, some _), (5, some _), (6, some _)] (by ((repeat' first | exact rfl | exact trivial | apply And.intro) <;> (repeat' first | exact rfl | exact trivial | apply And.intro))) (by ((repeat' first | exact rfl | exact trivial | apply And.intro) <;> (repeat' first | exact rfl | exact trivial | apply And.intro))) (by rfl)⟩
    · have h2 : mayB (nbrs n.toNat E) (List.replicate n.toNat false) i = false := h2
      refine ⟨l, ⟨by omega, hH, hr, fun v hv hmv => ?_⟩, by refine Weak.by [(0, some _), (1, some _), (2, some _), (3, some _), (4, some _), (5, some _)] (by ((repeat' first | exact rfl | exact trivial | apply And.intro) <;> (repeat' first | exact rfl | exact trivial | apply And.intro))) (by ((repeat' first | exact rfl | exact trivial | apply And.intro) <;> (repeat' first | exact rfl | exact trivial | apply And.intro))) (by rfl)⟩
      by_cases hvi : v < i
      · exact hm v hvi hmv
      · have : v = i := by omega
        rw [this, h2] at hmv; cases hmv
  · have hin : i = n.toNat := by simp at hc; omega
    have hm : ∀ v : Int, mayB (nbrs n.toNat E) (List.replicate n.toNat false) v = true → v ∈ l := fun v hv => hm v (by have := (mayB_iff.1 hv).hi; rw [hNl] at this; omega) hv
    have hl0 : l.length ≤ n.toNat := by omega
    have hrun : runR n E = ([] ++ (runS n.toNat (nbrs n.toNat E) (List.replicate n.toNat false)).1, (runS n.toNat (nbrs n.toNat E) (List.replicate n.toNat false)).2) := rfl
    generalize hNN : nbrs n.toNat E = N at *
    generalize hGG : List.replicate n.toNat false = G at *
    refine LoopP.intro (α := List Stp × List (List Int) × List Bool × Option (Nat × Nat) × List Int) (fun a => Wf a.2.1 a.2.2.1 ∧ a.2.1.length = n.toNat ∧ runR n E = (a.1 ++ (runS (n.toNat - a.1.length) a.2.1 a.2.2.1).1, (runS (n.toNat - a.1.length) a.2.1 a.2.2.1).2) ∧ a.1.length + a.2.2.1.countP (!·) ≤ n.toNat ∧ (a.2.2.2.1 = none ∨ ∃ L, a.2.2.2.1 = some (0, L) ∧ L ≤ a.2.2.2.2.length) ∧
        a.2.2.2.2.length ≤ 4000 ∧ (cut a.2.2.2.1 a.2.2.2.2).length ≤ n.toNat + 2 * a.1.length ∧ Heap (cut a.2.2.2.1 a.2.2.2.2) ∧ (∀ v ∈ cut a.2.2.2.1 a.2.2.2.2, 0 ≤ v ∧ v < n) ∧ ∀ v : Int, mayB a.2.1 a.2.2.1 v = true → v ∈ cut a.2.2.2.1 a.2.2.2.2)
      (fun a => 3 * (n.toNat - a.1.length) + (cut a.2.2.2.1 a.2.2.2.2).length) (fun a => [(2, .ptr 0 0), (3, .ptr 1 0), (4, .ptr 4 0), (6, .sl 6 none none)])
      (fun a => [(0, some (.blk [.nils, .nils, .nils])), (1, some (.blk [.sl 2 none none, .sl 3 none none])), (2, some (.nest true 1 (rowsI a.2.1) [] [])), (3, some (.flat true 1 (bools a.2.2.1))), (4, some (.blk [.sl 5 none a.2.2.2.1])), (5, some (.flat true 1 (ints a.2.2.2.2))), (6, some (.flat true 4 (stps a.1)))]) 7 ([], N, G, none, l)
      ⟨hW, hNl, by simpa using hrun, by rw [← hGG]; simp [List.countP_replicate], .inl rfl, by show l.length ≤ _; omega, by show l.length ≤ _; omega, hH, hr, hm⟩ (by refine Weak.by [(0, some _), (1, some _), (2, some _), (3, some _), (4, some _), (5, some _), (6, none)] (by ((repeat' first | exact rfl | exact trivial | apply And.intro) <;> (repeat' first | exact rfl | exact trivial | apply And.intro))) (by ((repeat' first | exact rfl | exact trivial | apply And.intro) <;> (repeat' first | exact rfl | exact trivial | apply And.intro))) (by rfl)) ?_
    clear hrun hl0 hH hr hm hW hNl hGl hl hi hc
    rintro ⟨st, N, G, sub, m⟩ ⟨hW, hNl, hrun, hlive, hsub, hm4, hl0, hH, hr, hm⟩
    dsimp only at hW hNl hrun hlive hsub hm4 hl0 hH hr hm ⊢
    rcases hsub with rfl | ⟨L, rfl, hL⟩
    · generalize hlm : cut none m = l at *
      have hlm : m = l := hlm
      refine Pick.by (fun hc => ?_) (fun hc => ?_)
      · have hpos : 0 < l.length := by rw [ints_length, hlm] at hc; simpa using hc
        obtain ⟨out, hout⟩ : ∃ a, l[0]? = some a := ⟨_, List.getElem?_eq_getElem hpos⟩
        obtain ⟨last, hlst⟩ : ∃ k, l.length = k + 1 := ⟨l.length - 1, by omega⟩
        obtain ⟨top, htop⟩ : ∃ a, l[last]? = some a := ⟨_, List.getElem?_eq_getElem (by omega)⟩
        have hlast : (((ints m).length : Nat) : Int) - 1 = (last : Int) := by rw [ints_length, hlm]; omega
        have hsift : Sift l out last (m.set 0 top) 0 := ⟨by rw [List.length_set, hlm]; omega, by rw [hlm]; exact take_perm hout htop hlst, by rw [hlm]; exact dn_start hH _⟩
        have hil : (ints m).length = last + 1 := by rw [ints_length, hlm]; exact hlst
        refine Idx.by 0 rfl (by omega) ?_
        refine Look.by _ (by rw [hlm]; exact ints_get hout) ?_
        refine Pick.T (by rw [hlast]; exact inI64_of (by omega) (by omega)) ?_
        refine Idx.by last hlast (by omega) ?_
        refine Look.by _ (by rw [hlm]; exact ints_get htop) ?_
        refine Idx.by 0 rfl (by omega) ?_
        refine Look.by _ (by rw [hlm]; exact ints_get hout) ?_
        refine Rng.by 0 last rfl hlast (by omega) (by rw [List.length_set]; omega) ?_
        refine JoinP.intro (α := List Int) (fun c => c.length = m.length ∧ last ≤ c.length ∧ (out :: c.take last).Perm l ∧ Heap (c.take last)) (fun c => [(0, .ptr 4 0), (3, .sl 5 none (some (0, last))), (4, .s (.i .i64 out)), (1000002, .ptr 0 0), (1000003, .ptr 1 0), (1000004, .ptr 4 0), (1000006, .sl 6 none none)])
          (fun c => [(0, some (.blk [.nils, .nils, .nils])), (1, some (.blk [.sl 2 none none, .sl 3 none none])), (2, some (.nest true 1 (rowsI N) [] [])), (3, some (.flat true 1 (bools G))), (4, some (.blk [.sl 5 none none])), (5, some (.flat true 1 (ints c))), (6, some (.flat true 4 (stps st)))]) 7 ?_ ?_
        rotate_left
        · rintro c ⟨hcm, hlc, hperm, hHc⟩
          have hGN := hW.len
          have hq0 : ∀ v, v ∈ c.take last → v ∈ l := fun v hv => hperm.mem_iff.1 (List.mem_cons_of_mem _ hv)
          have hq1 : ∀ v, v ∈ l → v = out ∨ v ∈ c.take last := fun v hv => by simpa using hperm.mem_iff.2 hv
          have hqr : ∀ v ∈ c.take last, 0 ≤ v ∧ v < n := fun v hv => hr v (hq0 v hv)
          have hqc : cut (some (0, last)) c = c.take last := rfl
          have hqlen : (c.take last).length = last := by rw [List.length_take]; omega
          have hor := hr out (List.mem_of_getElem? hout)
          refine Call.by _ _ (MayC_at out hGN) ?_
          refine Pick.by (fun hmy => ?_) (fun hmy => ?_)
          · have hmy : mayB N G out = false := by have hmy : (!mayB N G out) = true := hmy; simpa using hmy
            refine Next.by (st, N, G, some (0, last), c) ⟨hW, hNl, hrun, hlive, .inr ⟨last, rfl, hlc⟩, by dsimp only; omega, by dsimp only; rw [hqc]; omega, hHc, hqr, fun v hv => ?_⟩ (by dsimp only; rw [hqc]; omega) (by refine Weak.by [(0, some _), (1, some _), (2, some _), (3, some _), (4, some _), (5, some _), (6, some _)] (by ((repeat' first | exact rfl | exact trivial | apply And.intro) <;> (repeat' first | exact rfl | exact trivial | apply And.intro))) (by ((repeat' first | exact rfl | exact trivial | apply And.intro) <;> (repeat' first | exact rfl | exact trivial | apply And.intro))) (by rfl))
            rcases hq1 v (hm v hv) with e | e
            · rw [e, hmy] at hv; cases hv
            · exact e
          have hmy : mayB N G out = true := by have hmy : (!mayB N G out) = false := hmy; simpa using hmy
          have hmp := mayB_iff.1 hmy
          obtain ⟨hs1, hs2⟩ := step_two hW hmp rfl
          refine Call.by _ _ (StepC_at ⟨hW, hmp.lo, hmp.hi⟩) ?_
          have hlo := hmp.lo
          have hhi := hmp.hi
          have hrv := hW.rows out
          have hnd : (rowAt N out).Nodup := hrv.1.imp fun hab => by omega
          have hNL := rowsI_length N
          have hmo := hW.most
          have hrl := hW.row_len out
          have hgv : (rowsI N)[(out).toNat]? = some (ints (rowAt N out)) := rowsI_get (rowAt_mem hlo hhi).2
          have hvv : out ∉ rowAt N out := hW.irr out hlo
          have hpart : ∀ (di : Nat) (u : Int), 0 ≤ u → rowAt (((rowAt N out).take di).foldl (cutF out) N) u = if u ∈ (rowAt N out).take di then (rowAt N u).erase out else rowAt N u := fun di u hu => cuts_row (hnd.sublist (List.take_sublist _ _)) (fun x hx => hrv.2 x (List.mem_of_mem_take hx)) hu
          have hplen : ∀ di : Nat, (rowsI (((rowAt N out).take di).foldl (cutF out) N)).length = N.length := fun di => by rw [rowsI_length, cuts_length]
          have hpget : ∀ (di : Nat) (u : Int), 0 ≤ u → u < N.length → (rowsI (((rowAt N out).take di).foldl (cutF out) N))[u.toNat]? = some (ints (rowAt (((rowAt N out).take di).foldl (cutF out) N) u)) := fun di u h0 h1 => rowsI_get (rowAt_mem h0 (by rw [cuts_length]; exact h1)).2
          refine Idx.by (out).toNat (by show (out : Int) = _; omega) (by omega) ?_
          refine Pick.T (by rw [hNL]; simp; omega) ?_
          refine Look.by _ hgv ?_
          refine LoopP.intro (α := Nat) (fun di => di ≤ (rowAt N out).length) (fun di => (rowAt N out).length - di) (fun di => [(2, .ptr 8 0), (3, .ptr 9 0), (11, .sl 2 (some ((out).toNat, 0)) none), (12, .s (.i .i64 (rowAt N out).length)), (13, .s (.i .i64 di)), (1000002, .ptr 0 0), (1000003, .ptr 1 0), (1000004, .ptr 4 0), (1000006, .sl 6 none none), (1000008, .ptr 7 0)])
            (fun di => [(0, some (.blk [.nils, .nils, .nils])), (1, some (.blk [.sl 2 none none, .sl 3 none none])), (4, some (.blk [.sl 5 none (some (0, last))])), (5, some (.flat true 1 (ints c))), (6, some (.flat true 4 (stps st))), (7, some (.blk [.s (.i .i64 (stepF N out).1), .s (.i .i64 (stepF N out).2.1), .s (.i .i64 (stepF N out).2.2.1), .s (.b (stepF N out).2.2.2)])), (2, some (.nest true 1 (rowsI (((rowAt N out).take di).foldl (cutF out) N)) [] [])), (3, some (.flat true 1 (bools G))), (8, some (.blk [.sl 2 none none, .sl 3 none none])), (9, some (.blk [.s (.i .i64 (stepF N out).1), .s (.i .i64 (stepF N out).2.1), .s (.i .i64 (stepF N out).2.2.1), .s (.b (stepF N out).2.2.2)]))]) 10 0 (by omega) (by refine Weak.by [(0, some _), (1, some _), (2, some _), (3, some _), (4, some _), (5, some _), (6, some _), (7, some _), (8, some _), (9, some _)] (by ((repeat' first | exact rfl | exact trivial | apply And.intro) <;> (repeat' first | exact rfl | exact trivial | apply And.intro)); all_goals ((first | (rw [ints_length]; rfl) | (simp; done)))) (by ((repeat' first | exact rfl | exact trivial | apply And.intro) <;> (repeat' first | exact rfl | exact trivial | apply And.intro)); all_goals ((first | (rw [ints_length]; rfl) | (simp; done)))) (by rfl)) ?_
          rintro di hi
          refine Pick.by (fun hc1 => ?_) (fun hc1 => ?_)
          · have hil : di < (rowAt N out).length := by simpa using hc1
            obtain ⟨x, hx⟩ : ∃ x, (rowAt N out)[di]? = some x := ⟨_, List.getElem?_eq_getElem hil⟩
            have hxm := List.mem_of_getElem? hx
            have hxr := hrv.2 x hxm
            have hxv : x ≠ out := fun e => hvv (e ▸ hxm)
            have hgi : (rowsI (((rowAt N out).take di).foldl (cutF out) N))[(out).toNat]? = some (ints (rowAt N out)) := by
              rw [hpget di out hlo hhi, hpart di out hlo, if_neg fun h => hvv (List.mem_of_mem_take h)]
            have hrx := hpget di x hxr.1 hxr.2
            have hstp : ((rowAt N out).take (di + 1)).foldl (cutF out) N = cutF out (((rowAt N out).take di).foldl (cutF out) N) x := by
              rw [List.take_succ_eq_append_getElem hil, List.foldl_append]
              have : (rowAt N out)[di] = x := by rw [List.getElem?_eq_getElem hil] at hx; injection hx
              rw [this]; rfl
            have hwx : (rowAt (((rowAt N out).take di).foldl (cutF out) N) x).Pairwise (· ≤ ·) ∧ (rowAt (((rowAt N out).take di).foldl (cutF out) N) x).length ≤ 1000000 := by
              have h1 := hW.rows x
              have h2 := hW.row_len x
              rw [hpart di x hxr.1]
              split
              · have h3 := List.length_erase_le (l := rowAt N x) (a := out)
                exact ⟨(erase_sorted h1.1).imp fun h => by omega, by omega⟩
              · exact ⟨h1.1.imp fun h => by omega, by omega⟩
            have hpl := hplen di
            refine Look.by _ hgi ?_
            refine Idx.by di rfl (by rw [ints_length]; exact hil) ?_
            refine Look.by _ hgi ?_
            refine Look.by _ (ints_get hx) ?_
            refine Idx.by x.toNat (by omega) (by omega) ?_
            refine Pick.T (by rw [hpl]; simp; omega) ?_
            refine Look.by _ hrx ?_
            refine Call.by _ _ (turnC_at hwx) ?_
            refine Idx.by x.toNat (by omega) (by omega) ?_
            refine Pick.T (by rw [hpl]; simp; omega) ?_
            refine Pick.T (by simp) ?_
            refine Seg.by (by kernel_rfl) ?_
            refine Pick.T (inI64_of (by omega) (by omega)) ?_
            refine Next.by (di + 1) (by omega) (by omega) (by refine Weak.by [(0, some _), (1, some _), (2, some _), (3, some _), (4, some _), (5, some _), (6, some _), (7, some _), (8, some _), (9, some _)] (by ((repeat' first | exact rfl | exact trivial | apply And.intro) <;> (repeat' first | exact rfl | exact trivial | apply And.intro)); all_goals ((first | (rw [hstp]; unfold cutF; rw [rowsI_set]; rfl) | (simp; done) | (simp; omega)))) (by ((repeat' first | exact rfl | exact trivial | apply And.intro) <;> (repeat' first | exact rfl | exact trivial | apply And.intro)); all_goals ((first | (rw [hstp]; unfold cutF; rw [rowsI_set]; rfl) | (simp; done) | (simp; omega)))) (by rfl))
          have hil : di = (rowAt N out).length := by simp at hc1; omega
          subst hil
          rw [List.take_length]
          have hN1 : ∀ u : Int, 0 ≤ u → rowAt ((rowAt N out).foldl (cutF out) N) u = (rowAt N u).erase out := fun u hu => by
            rw [cuts_row hnd hrv.2 hu]
            split
            · rfl
            · rename_i hno
              rw [List.erase_of_not_mem]
              exact fun h => hno (hW.sym u out hu hlo h)
          have hl1 : (rowsI ((rowAt N out).foldl (cutF out) N)).length = N.length := by rw [rowsI_length, cuts_length]
          refine JoinP.intro (α := Unit) (fun _ => True) (fun _ => [(2, .ptr 8 0), (3, .ptr 9 0), (1000002, .ptr 0 0), (1000003, .ptr 1 0), (1000004, .ptr 4 0), (1000006, .sl 6 none none), (1000008, .ptr 7 0)])
            (fun _ => [(0, some (.blk [.nils, .nils, .nils])), (1, some (.blk [.sl 2 none none, .sl 3 none none])), (4, some (.blk [.sl 5 none (some (0, last))])), (5, some (.flat true 1 (ints c))), (6, some (.flat true 4 (stps st))), (7, some (.blk [.s (.i .i64 (stepF N out).1), .s (.i .i64 (stepF N out).2.1), .s (.i .i64 (stepF N out).2.2.1), .s (.b (stepF N out).2.2.2)])), (2, some (.nest true 1 (rowsI (if (stepF N out).2.2.2 then joinF (joinF ((rowAt N out).foldl (cutF out) N) (stepF N out).2.1 (stepF N out).2.2.1) (stepF N out).2.2.1 (stepF N out).2.1 else (rowAt N out).foldl (cutF out) N)) [] [])), (3, some (.flat true 1 (bools G))), (8, some (.blk [.sl 2 none none, .sl 3 none none])), (9, some (.blk [.s (.i .i64 (stepF N out).1), .s (.i .i64 (stepF N out).2.1), .s (.i .i64 (stepF N out).2.2.1), .s (.b (stepF N out).2.2.2)]))]) 10 ?_ ?_
          rotate_left
          · rintro ⟨⟩ -
            have hl2 : (rowsI (if (stepF N out).2.2.2 then joinF (joinF ((rowAt N out).foldl (cutF out) N) (stepF N out).2.1 (stepF N out).2.2.1) (stepF N out).2.2.1 (stepF N out).2.1 else (rowAt N out).foldl (cutF out) N)).length = N.length := by
              rw [rowsI_length]
              split
              · rw [joinF_length, joinF_length, cuts_length]
              · rw [cuts_length]
            have hdo : (rowsI (if (stepF N out).2.2.2 then joinF (joinF ((rowAt N out).foldl (cutF out) N) (stepF N out).2.1 (stepF N out).2.2.1) (stepF N out).2.2.1 (stepF N out).2.1 else (rowAt N out).foldl (cutF out) N)).set (out).toNat [] = rowsI (doN N (stepF N out)) := by
              unfold doN
              rw [rowsI_set]; rfl
            have hdg : (bools G).set (out).toNat [.b true] = bools (doG G (stepF N out)) := by
              unfold doG bools
              rw [List.map_set]; rfl
            generalize rowsI (if (stepF N out).2.2.2 then joinF (joinF ((rowAt N out).foldl (cutF out) N) (stepF N out).2.1 (stepF N out).2.2.1) (stepF N out).2.2.1 (stepF N out).2.1 else (rowAt N out).foldl (cutF out) N) = RR at hl2 hdo ⊢
            refine Idx.by (out).toNat (by show (out : Int) = _; omega) (by omega) ?_
            refine Pick.T (by rw [hl2]; simp; omega) ?_
            refine Idx.by (out).toNat (by show (out : Int) = _; omega) (by rw [bools_length, hW.len]; omega) ?_
            refine Look.by _ (bools_get (goneAt_get hW.len hlo hhi)) ?_
            refine Seg.by (by kernel_rfl) ?_
            have hW2 := do_wf hW hmp
            have hNl2 : (doN N (stepF N out)).length = n.toNat := by rw [doN_length]; exact hNl
            have hGN2 : (doG G (stepF N out)).length = (doN N (stepF N out)).length := hW2.len
            have hlv := live_step hW hmp
            have hst4 : st.length + 1 ≤ n.toNat := by omega
            have hrun2 := run_step hrun hW hmy hst4 (fun v hv => heap_least hHc hH hout hperm hm hv)
            have hmay2 : ∀ v, mayB (doN N (stepF N out)) (doG G (stepF N out)) v = true → v ∈ c.take last ∨ v = (stepF N out).2.1 ∨ v = (stepF N out).2.2.1 := fun v hv => may_step hW hmp hs2 hv fun h2 hne => (hq1 v (hm v h2)).elim (fun e => absurd e hne) id
            generalize hN2 : doN N (stepF N out) = N2 at *
            generalize hG2 : doG G (stepF N out) = G2 at *
            generalize hsG : stepF N out = s at *
            refine Pick.T (by simp [cut, stps_length]; omega) ?_
            refine LoopP.intro (α := Nat × Option (Nat × Nat) × List Int) (fun a => a.1 ≤ 2 ∧ (a.2.1 = none ∨ ∃ L, a.2.1 = some (0, L) ∧ L ≤ a.2.2.length) ∧ a.2.2.length ≤ 4000 ∧ (cut a.2.1 a.2.2).length ≤ last + a.1 ∧ Heap (cut a.2.1 a.2.2) ∧ (∀ v ∈ cut a.2.1 a.2.2, 0 ≤ v ∧ v < n) ∧ ∀ v : Int, mayB N2 G2 v = true → v ∈ cut a.2.1 a.2.2 ∨ (a.1 ≤ 0 ∧ v = s.2.1) ∨ (a.1 ≤ 1 ∧ v = s.2.2.1)) (fun a => 2 - a.1) (fun a => [(2, .ptr 0 0), (3, .ptr 1 0), (4, .ptr 4 0), (6, .sl 6 none none), (51, .sl 7 none none), (52, .s (.i .i64 2)), (53, .s (.i .i64 a.1))])
              (fun a => [(0, some (.blk [.nils, .nils, .nils])), (1, some (.blk [.sl 2 none none, .sl 3 none none])), (2, some (.nest true 1 (rowsI N2) [] [])), (3, some (.flat true 1 (bools G2))), (4, some (.blk [.sl 5 none a.2.1])), (5, some (.flat true 1 (ints a.2.2))), (6, some (.flat true 4 (stps (st ++ [s])))), (7, some (.flat true 1 (ints [s.2.1, s.2.2.1])))]) 8 (0, some (0, last), c)
              ⟨by dsimp only; omega, .inr ⟨last, rfl, hlc⟩, by dsimp only; omega, by dsimp only; rw [hqc]; omega, hHc, hqr, fun v hv => (hmay2 v hv).elim .inl fun h => h.elim (fun h => .inr (.inl ⟨by dsimp only; omega, h⟩)) fun h => .inr (.inr ⟨by dsimp only; omega, h⟩)⟩ (by refine Weak.by [(0, some _), (1, some _), (2, some _), (3, some _), (4, some _), (5, some _), (6, some _), (7, some _)] (by ((repeat' first | exact rfl | exact trivial | apply And.intro) <;> (repeat' first | exact rfl | exact trivial | apply And.intro)); all_goals ((first | (exact stps_snoc st s) | (exact hdo.symm) | (exact hdg.symm)))) (by ((repeat' first | exact rfl | exact trivial | apply And.intro) <;> (repeat' first | exact rfl | exact trivial | apply And.intro)); all_goals ((first | (exact stps_snoc st s) | (exact hdo.symm) | (exact hdg.symm)))) (by rfl)) ?_
            rintro ⟨i, sub2, m2⟩ ⟨hi2, hsub2, hm24, hcl2, hH2, hr2, hmv2⟩
            dsimp only at hi2 hsub2 hm24 hcl2 hH2 hr2 hmv2 ⊢
            refine Pick.by (fun hc5 => ?_) (fun hc5 => ?_)
            · have hi3 : i < 2 := by simp at hc5; omega
              obtain ⟨x, hx⟩ : ∃ x, [s.2.1, s.2.2.1][i]? = some x := ⟨_, List.getElem?_eq_getElem (show i < [s.2.1, s.2.2.1].length from hi3)⟩
              have hxi : (i = 0 ∧ x = s.2.1) ∨ (i = 1 ∧ x = s.2.2.1) := by
                have : i = 0 ∨ i = 1 := by omega
                rcases this with e | e
                · subst e; simp at hx; exact .inl ⟨rfl, hx.symm⟩
                · subst e; simp at hx; exact .inr ⟨rfl, hx.symm⟩
              refine Idx.by i rfl (by rw [ints_length]; exact hi3) ?_
              refine Look.by _ (ints_get hx) ?_
              refine Call.by _ _ (MayC_at x hGN2) ?_
              refine JoinP.intro (α := Option (Nat × Nat) × List Int) (fun b => (b.1 = none ∨ ∃ L, b.1 = some (0, L) ∧ L ≤ b.2.length) ∧ b.2.length ≤ 4000 ∧ (cut b.1 b.2).length ≤ last + i + 1 ∧ Heap (cut b.1 b.2) ∧ (∀ v ∈ cut b.1 b.2, 0 ≤ v ∧ v < n) ∧ ∀ v : Int, mayB N2 G2 v = true → v ∈ cut b.1 b.2 ∨ (i + 1 ≤ 0 ∧ v = s.2.1) ∨ (i + 1 ≤ 1 ∧ v = s.2.2.1)) (fun b => [(2, .ptr 0 0), (3, .ptr 1 0), (4, .ptr 4 0), (6, .sl 6 none none), (51, .sl 7 none none), (52, .s (.i .i64 2)), (53, .s (.i .i64 i))])
                (fun b => [(0, some (.blk [.nils, .nils, .nils])), (1, some (.blk [.sl 2 none none, .sl 3 none none])), (2, some (.nest true 1 (rowsI N2) [] [])), (3, some (.flat true 1 (bools G2))), (4, some (.blk [.sl 5 none b.1])), (5, some (.flat true 1 (ints b.2))), (6, some (.flat true 4 (stps (st ++ [s])))), (7, some (.flat true 1 (ints [s.2.1, s.2.2.1])))]) 8 ?_ ?_
              rotate_left
              · rintro ⟨sub3, m3⟩ hJ
                refine Pick.T (inI64_of (by omega) (by omega)) ?_
                exact Next.by (i + 1, sub3, m3) ⟨by dsimp only; omega, hJ⟩ (by dsimp only; omega) (by refine Weak.by [(0, some _), (1, some _), (2, some _), (3, some _), (4, some _), (5, some _), (6, some _), (7, some _)] (by ((repeat' first | exact rfl | exact trivial | apply And.intro) <;> (repeat' first | exact rfl | exact trivial | apply And.intro))) (by ((repeat' first | exact rfl | exact trivial | apply And.intro) <;> (repeat' first | exact rfl | exact trivial | apply And.intro))) (by rfl))
              refine Pick.by (fun hc6 => ?_) (fun hc6 => ?_)
              · have hc6 : mayB N2 G2 x = true := hc6
                have hxr2 : 0 ≤ x ∧ x < n := may_range hNl2 hc6
                have hH := hH2
                refine Pick.T (by simp [cut, ints_length]; omega) ?_
                have hraw : cut sub2 (ints m2) = ints (cut sub2 m2) := cut_ints
                have hlen0 : (cut sub2 (ints m2) ++ [[Sc.i .i64 x]]) = ints ((cut sub2 m2) ++ [x]) := by rw [hraw, ints_snoc]
                refine Pick.T (by show inI64 ((((cut sub2 (ints m2) ++ [[Sc.i .i64 x]]).length : Nat) : Int) - 1) = true; rw [hlen0, ints_length]; simp; exact inI64_of (by omega) (by omega)) ?_
                have hlen1 : (((cut sub2 m2).length : Nat) : Int) = (((cut sub2 (ints m2) ++ [[Sc.i .i64 x]]).length : Nat) : Int) - 1 := by rw [hlen0, ints_length]; simp
                refine JoinP.intro (α := List Int) (fun a => Heap a ∧ a.length = (cut sub2 m2).length + 1 ∧ ∀ v, v ∈ a ↔ v ∈ (cut sub2 m2) ∨ v = x) (fun a => [(0, .ptr 4 0), (4, .sl 8 none none), (1000002, .ptr 0 0), (1000003, .ptr 1 0), (1000004, .ptr 4 0), (1000006, .sl 6 none none), (1000051, .sl 7 none none), (1000052, .s (.i .i64 2)), (1000053, .s (.i .i64 i))])
                  (fun a => [(0, some (.blk [.nils, .nils, .nils])), (1, some (.blk [.sl 2 none none, .sl 3 none none])), (2, some (.nest true 1 (rowsI N2) [] [])), (3, some (.flat true 1 (bools G2))), (4, some (.blk [.sl 5 none sub2])), (6, some (.flat true 4 (stps (st ++ [s])))), (7, some (.flat true 1 (ints [s.2.1, s.2.2.1]))), (8, some (.flat true 1 (ints a)))]) 9 ?_ ?_
                rotate_left
                · rintro m ⟨hHm, hml2, hmem⟩
                  exact ⟨(none, m), ⟨.inl rfl, by dsimp only; omega, by show m.length ≤ _; omega, hHm, fun v hv => ((hmem v).1 hv).elim (hr2 v) fun e => by rw [e]; exact hxr2, fun v hv => put_may hxi (hmem v).2 (hmv2 v hv)⟩, by refine Weak.by [(0, some _), (1, some _), (2, some _), (3, some _), (4, some _), (5, some _), (6, some _), (7, some _)] (by ((repeat' first | exact rfl | exact trivial | apply And.intro) <;> (repeat' first | exact rfl | exact trivial | apply And.intro))) (by ((repeat' first | exact rfl | exact trivial | apply And.intro) <;> (repeat' first | exact rfl | exact trivial | apply And.intro))) (by rfl)⟩
                refine LoopP.intro (α := Nat × List Int) (fun a => a.2.Perm ((cut sub2 m2) ++ [x]) ∧ HUp a.2 a.1 ∧ a.1 < a.2.length) (fun a => a.1) (fun a => [(0, .ptr 4 0), (4, .sl 8 none none), (5, .s (.i .i64 a.1)), (1000002, .ptr 0 0), (1000003, .ptr 1 0), (1000004, .ptr 4 0), (1000006, .sl 6 none none), (1000051, .sl 7 none none), (1000052, .s (.i .i64 2)), (1000053, .s (.i .i64 i))])
                  (fun a => [(0, some (.blk [.nils, .nils, .nils])), (1, some (.blk [.sl 2 none none, .sl 3 none none])), (2, some (.nest true 1 (rowsI N2) [] [])), (3, some (.flat true 1 (bools G2))), (4, some (.blk [.sl 5 none sub2])), (6, some (.flat true 4 (stps (st ++ [s])))), (7, some (.flat true 1 (ints [s.2.1, s.2.2.1]))), (8, some (.flat true 1 (ints a.2)))]) 9 ((cut sub2 m2).length, (cut sub2 m2) ++ [x]) ⟨List.Perm.refl _, up_start hH _, by simp⟩ (by refine Weak.by [(0, some _), (1, some _), (2, some _), (3, some _), (4, some _), (5, some _), (6, some _), (7, some _), (8, some _)] (by ((repeat' first | exact rfl | exact trivial | apply And.intro) <;> (repeat' first | exact rfl | exact trivial | apply And.intro)); all_goals ((first | (exact hlen0.symm) | (exact sc_eq hlen1)))) (by ((repeat' first | exact rfl | exact trivial | apply And.intro) <;> (repeat' first | exact rfl | exact trivial | apply And.intro)); all_goals ((first | (exact hlen0.symm) | (exact sc_eq hlen1)))) (by rfl)) ?_
                rintro ⟨p, m⟩ ⟨hperm, hup, hpm⟩
                dsimp only at hperm hup hpm ⊢
                have hml : m.length = (cut sub2 m2).length + 1 := by rw [hperm.length_eq]; simp
                have hpq : 0 < p → ((p : Int) - 1).tdiv 2 = (((p - 1) / 2 : Nat) : Int) := fun h => by rw [show (p : Int) - 1 = ((p - 1 : Nat) : Int) by omega]; rfl
                have hput : Heap m → Heap m ∧ m.length = (cut sub2 m2).length + 1 ∧ ∀ v, v ∈ m ↔ v ∈ (cut sub2 m2) ∨ v = x := fun h => ⟨h, hml, fun v => by rw [hperm.mem_iff]; simp⟩
                refine Pick.by (fun hc1 => ?_) (fun hc1 => ?_)
                · have hp0 : 0 < p := by simp at hc1; omega
                  have hq := hpq hp0
                  have hql : (p - 1) / 2 < m.length := by omega
                  obtain ⟨y, hy⟩ : ∃ y, m[p]? = some y := ⟨_, List.getElem?_eq_getElem hpm⟩
                  obtain ⟨z, hz⟩ : ∃ z, m[(p - 1) / 2]? = some z := ⟨_, List.getElem?_eq_getElem hql⟩
                  refine Idx.by p rfl (by rw [ints_length]; exact hpm) ?_
                  refine Look.by _ (ints_get hy) ?_
                  refine Pick.T (inI64_of (by omega) (by omega)) ?_
                  refine Pick.T (inI64_of (by omega) (by omega)) ?_
                  refine Idx.by ((p - 1) / 2) hq (by rw [ints_length]; exact hql) ?_
                  refine Look.by _ (ints_get hz) ?_
                  refine Seg.by (by kernel_rfl) ?_
                  refine Pick.by (fun hc2 => ?_) (fun hc2 => ?_)
                  · have hlt : y < z := by simpa using hc2
                    have hsw : ints ((m.set p z).set ((p - 1) / 2) y) = ((ints m).set p [.i .i64 z]).set ((p - 1) / 2) [.i .i64 y] := by rw [ints_set, ints_set]
                    refine Pick.T (inI64_of (by omega) (by omega)) ?_
                    refine Pick.T (inI64_of (by omega) (by omega)) ?_
                    refine Pick.T (inI64_of (by omega) (by omega)) ?_
                    refine Pick.T (inI64_of (by omega) (by omega)) ?_
                    refine Idx.by ((p - 1) / 2) hq (by rw [ints_length]; exact hql) ?_
                    refine Look.by _ (ints_get hz) ?_
                    refine Idx.by p rfl (by rw [ints_length]; exact hpm) ?_
                    refine Look.by _ (ints_get hy) ?_
                    refine Idx.by p rfl (by rw [ints_length]; exact hpm) ?_
                    refine Look.by _ (ints_get hy) ?_
                    refine Idx.by ((p - 1) / 2) hq (by rw [List.length_set, ints_length]; exact hql) ?_
                    refine Look.by _ (by rw [List.getElem?_set_ne (by omega)]; exact ints_get hz) ?_
                    refine Seg.by (by kernel_rfl) ?_
                    refine Pick.T (inI64_of (by omega) (by omega)) ?_
                    refine Pick.T (inI64_of (by omega) (by omega)) ?_
                    refine Next.by ((p - 1) / 2, (m.set p z).set ((p - 1) / 2) y) ⟨(swap_perm hy hz (by omega)).trans hperm, up_step hup hp0 hz hy hlt, by rw [List.length_set, List.length_set]; exact hql⟩ (by dsimp only; omega) (by refine Weak.by [(0, some _), (1, some _), (2, some _), (3, some _), (4, some _), (5, some _), (6, some _), (7, some _), (8, some _)] (by ((repeat' first | exact rfl | exact trivial | apply And.intro) <;> (repeat' first | exact rfl | exact trivial | apply And.intro)); all_goals ((first | (exact hsw) | (exact sc_eq hq.symm)))) (by ((repeat' first | exact rfl | exact trivial | apply And.intro) <;> (repeat' first | exact rfl | exact trivial | apply And.intro)); all_goals ((first | (exact hsw) | (exact sc_eq hq.symm)))) (by rfl))
                  · have hHm := hput (up_done hup (.inr fun x' y' hx' hy' => by
                      rw [hz] at hx'; rw [hy] at hy'
                      injection hx' with hx'; injection hy' with hy'
                      have : ¬ y < z := by simpa using hc2
                      omega))
                    exact ⟨m, hHm, by refine Weak.by [(0, some _), (1, some _), (2, some _), (3, some _), (4, some _), (5, some _), (6, some _), (7, some _), (8, some _)] (by ((repeat' first | exact rfl | exact trivial | apply And.intro) <;> (repeat' first | exact rfl | exact trivial | apply And.intro))) (by ((repeat' first | exact rfl | exact trivial | apply And.intro) <;> (repeat' first | exact rfl | exact trivial | apply And.intro))) (by rfl)⟩
                · have hp0 : p = 0 := by simp at hc1; omega
                  refine Seg.by (by kernel_rfl) ?_
                  exact ⟨m, hput (up_done hup (.inl hp0)), by refine Weak.by [(0, some _), (1, some _), (2, some _), (3, some _), (4, some _), (5, some _), (6, some _), (7, some _), (8, some _)] (by ((repeat' first | exact rfl | exact trivial | apply And.intro) <;> (repeat' first | exact rfl | exact trivial | apply And.intro))) (by ((repeat' first | exact rfl | exact trivial | apply And.intro) <;> (repeat' first | exact rfl | exact trivial | apply And.intro))) (by rfl)⟩
              · have hc6 : mayB N2 G2 x = false := hc6
                exact ⟨(sub2, m2), ⟨hsub2, hm24, by dsimp only; omega, hH2, hr2, fun v hv => skip_may hxi (fun e => by rw [e, hc6] at hv; cases hv) (hmv2 v hv)⟩, by refine Weak.by [(0, some _), (1, some _), (2, some _), (3, some _), (4, some _), (5, some _), (6, some _), (7, some _)] (by ((repeat' first | exact rfl | exact trivial | apply And.intro) <;> (repeat' first | exact rfl | exact trivial | apply And.intro))) (by ((repeat' first | exact rfl | exact trivial | apply And.intro) <;> (repeat' first | exact rfl | exact trivial | apply And.intro))) (by rfl)⟩
            · have hi3 : i = 2 := by simp at hc5; omega
              refine Next.by (st ++ [s], N2, G2, sub2, m2) ⟨hW2, hNl2, hrun2, by simp; omega, hsub2, hm24, by simp; omega, hH2, hr2, fun v hv => ?_⟩ (by simp; omega) (by refine Weak.by [(0, some _), (1, some _), (2, some _), (3, some _), (4, some _), (5, some _), (6, some _)] (by ((repeat' first | exact rfl | exact trivial | apply And.intro) <;> (repeat' first | exact rfl | exact trivial | apply And.intro))) (by ((repeat' first | exact rfl | exact trivial | apply And.intro) <;> (repeat' first | exact rfl | exact trivial | apply And.intro))) (by rfl))
              rcases hmv2 v hv with h | ⟨h1, _⟩ | ⟨h1, _⟩
              · exact h
              · omega
              · omega
          refine Pick.by (fun had => ?_) (fun had => ?_)
          · have had : (stepF N out).2.2.2 = true := had
            rw [if_pos had]
            rcases hs2 with ⟨_, _, _, e⟩ | ⟨_, _, _, _, e⟩ | ⟨a, b, hlv, hab, ea, eb, ec⟩
            · rw [had] at e; cases e
            · rw [had] at e; cases e
            have har := hrv.2 a (by rw [hlv]; simp)
            have hbr := hrv.2 b (by rw [hlv]; simp)
            have hra : (rowsI ((rowAt N out).foldl (cutF out) N))[a.toNat]? = some (ints ((rowAt N a).erase out)) := by
              have h1 := rowsI_get (rowAt_mem (N := (rowAt N out).foldl (cutF out) N) har.1 (by rw [cuts_length]; exact har.2)).2
              rw [hN1 a har.1] at h1
              exact h1
            have hrb : (rowsI ((rowAt N out).foldl (cutF out) N))[b.toNat]? = some (ints ((rowAt N b).erase out)) := by
              have h1 := rowsI_get (rowAt_mem (N := (rowAt N out).foldl (cutF out) N) hbr.1 (by rw [cuts_length]; exact hbr.2)).2
              rw [hN1 b hbr.1] at h1
              exact h1
            have hok : ∀ u, ((rowAt N u).erase out).Pairwise (· ≤ ·) ∧ ((rowAt N u).erase out).length ≤ 1000000 := fun u => by
              have h1 := hW.rows u
              have h2 := hW.row_len u
              have h3 := List.length_erase_le (l := rowAt N u) (a := out)
              exact ⟨(erase_sorted h1.1).imp fun h => by omega, by omega⟩
            rw [ea, eb]
            have hj : rowsI (joinF (joinF ((rowAt N out).foldl (cutF out) N) a b) b a) = ((rowsI ((rowAt N out).foldl (cutF out) N)).set a.toNat (ints (insAt ((rowAt N a).erase out) b))).set b.toNat (ints (insAt ((rowAt N b).erase out) a)) := by
              have e1 : rowAt (joinF ((rowAt N out).foldl (cutF out) N) a b) b = (rowAt N b).erase out := by
                unfold joinF
                rw [rowAt_set har.1 (by rw [cuts_length]; exact har.2) hbr.1, if_neg (by omega), hN1 b hbr.1]
              show rowsI ((joinF ((rowAt N out).foldl (cutF out) N) a b).set b.toNat (insAt (rowAt (joinF ((rowAt N out).foldl (cutF out) N) a b) b) a)) = _
              rw [e1, rowsI_set]
              unfold joinF
              rw [rowsI_set, hN1 a har.1]
            have hma : (rowsI ((rowAt N out).foldl (cutF out) N)).set a.toNat (ints (insAt ((rowAt N a).erase out) b)) ≠ [] ∨ True := .inr trivial
            have hl3 : ((rowsI ((rowAt N out).foldl (cutF out) N)).set a.toNat (ints (insAt ((rowAt N a).erase out) b))).length = N.length := by rw [List.length_set, hl1]
            have hrb2 : ((rowsI ((rowAt N out).foldl (cutF out) N)).set a.toNat (ints (insAt ((rowAt N a).erase out) b)))[b.toNat]? = some (ints ((rowAt N b).erase out)) := by rw [List.getElem?_set_ne (by omega)]; exact hrb
            refine Idx.by a.toNat (by omega) (by omega) ?_
            refine Pick.T (by rw [hl1]; simp; omega) ?_
            refine Look.by _ hra ?_
            refine Call.by _ _ (turnC_at (hok a)) ?_
            refine Idx.by a.toNat (by omega) (by omega) ?_
            refine Pick.T (by rw [hl1]; simp; omega) ?_
            refine Pick.T (by simp) ?_
            refine Seg.by (by kernel_rfl) ?_
            refine Idx.by b.toNat (by omega) (by omega) ?_
            refine Pick.T (by rw [hl3]; simp; omega) ?_
            refine Look.by _ hrb2 ?_
            refine Call.by _ _ (turnC_at (hok b)) ?_
            refine Idx.by b.toNat (by omega) (by omega) ?_
            refine Pick.T (by rw [hl3]; simp; omega) ?_
            refine Pick.T (by simp) ?_
            refine Seg.by (by kernel_rfl) ?_
            exact ⟨(), trivial, by refine Weak.by [(0, some _), (1, some _), (2, some _), (3, some _), (4, some _), (5, some _), (6, some _), (7, some _), (8, some _), (9, some _)] (by ((repeat' first | exact rfl | exact trivial | apply And.intro) <;> (repeat' first | exact rfl | exact trivial | apply And.intro)); all_goals ((exact hj))) (by ((repeat' first | exact rfl | exact trivial | apply And.intro) <;> (repeat' first | exact rfl | exact trivial | apply And.intro)); all_goals ((exact hj))) (by rfl)⟩
          · have had : (stepF N out).2.2.2 = false := had
            rw [if_neg (by rw [had]; simp)]
            exact ⟨(), trivial, by refine Weak.by [(0, some _), (1, some _), (2, some _), (3, some _), (4, some _), (5, some _), (6, some _), (7, some _), (8, some _), (9, some _)] (by ((repeat' first | exact rfl | exact trivial | apply And.intro) <;> (repeat' first | exact rfl | exact trivial | apply And.intro))) (by ((repeat' first | exact rfl | exact trivial | apply And.intro) <;> (repeat' first | exact rfl | exact trivial | apply And.intro))) (by rfl)⟩
        refine LoopP.intro (α := Nat × List Int) (fun a => Sift l out last a.2 a.1 ∧ a.1 ≤ last ∧ a.2.length = m.length) (fun a => last + 1 - a.1) (fun a => [(0, .ptr 4 0), (3, .sl 5 none (some (0, last))), (4, .s (.i .i64 out)), (5, .s (.i .i64 last)), (6, .s (.i .i64 a.1)), (1000002, .ptr 0 0), (1000003, .ptr 1 0), (1000004, .ptr 4 0), (1000006, .sl 6 none none)])
          (fun a => [(0, some (.blk [.nils, .nils, .nils])), (1, some (.blk [.sl 2 none none, .sl 3 none none])), (2, some (.nest true 1 (rowsI N) [] [])), (3, some (.flat true 1 (bools G))), (4, some (.blk [.sl 5 none none])), (5, some (.flat true 1 (ints a.2))), (6, some (.flat true 4 (stps st)))]) 7 (0, m.set 0 top) ⟨hsift, by dsimp only; omega, by rw [List.length_set]⟩ (by refine Weak.by [(0, some _), (1, some _), (2, some _), (3, some _), (4, some _), (5, some _), (6, some _)] (by ((repeat' first | exact rfl | exact trivial | apply And.intro) <;> (repeat' first | exact rfl | exact trivial | apply And.intro)); all_goals ((first | (rw [ints_set]; rfl) | (exact sc_eq hlast.symm)))) (by ((repeat' first | exact rfl | exact trivial | apply And.intro) <;> (repeat' first | exact rfl | exact trivial | apply And.intro)); all_goals ((first | (rw [ints_set]; rfl) | (exact sc_eq hlast.symm)))) (by rfl)) ?_
        rintro ⟨i, c⟩ ⟨hsf, hil, hcm⟩
        dsimp only at hsf hil hcm ⊢
        refine Pick.T (inI64_of (by omega) (by omega)) ?_
        refine Pick.T (inI64_of (by omega) (by omega)) ?_
        refine Pick.by (fun hc1 => ?_) (fun hc1 => ?_)
        · have hch : 2 * i + 1 < last := by simp at hc1; omega
          obtain ⟨x, hx⟩ : ∃ x, c[i]? = some x := ⟨_, List.getElem?_eq_getElem (by have := hsf.len; omega)⟩
          obtain ⟨y1, hy1⟩ : ∃ y, c[2 * i + 1]? = some y := ⟨_, List.getElem?_eq_getElem (by have := hsf.len; omega)⟩
          refine Pick.T (inI64_of (by omega) (by omega)) ?_
          refine Pick.T (inI64_of (by omega) (by omega)) ?_
          refine Pick.T (inI64_of (by omega) (by omega)) ?_
          have hk1 : (2 * (i : Int) + 1) = ((2 * i + 1 : Nat) : Int) := by omega
          have hk2 : (2 * (i : Int) + 1 + 1) = ((2 * i + 2 : Nat) : Int) := by omega
          have hjoin : ∀ k, (k = 2 * i + 1 ∨ k = 2 * i + 2) → k < last → (∀ y, c[k]? = some y → ∀ t z, 0 < t → (t - 1) / 2 = i → t < last → c[t]? = some z → y ≤ z) → (k = 2 * i + 1 ∨ k = 2 * i + 2) ∧ k < last ∧ ∀ y, c[k]? = some y → ∀ t z, 0 < t → (t - 1) / 2 = i → t < last → c[t]? = some z → y ≤ z := fun k a b d => ⟨a, b, d⟩
          refine Pick.by (fun hc2 => ?_) (fun hc2 => ?_)
          · have hch2 : 2 * i + 2 < last := by simp at hc2; omega
            obtain ⟨y2, hy2⟩ : ∃ y, c[2 * i + 2]? = some y := ⟨_, List.getElem?_eq_getElem (by have := hsf.len; omega)⟩
            refine Pick.T (inI64_of (by omega) (by omega)) ?_
            refine Idx.by (2 * i + 2) (by omega) (by omega) ?_
            refine Look.by _ (by rw [Nat.zero_add]; exact ints_get hy2) ?_
            refine Idx.by (2 * i + 1) (by omega) (by omega) ?_
            refine Look.by _ (by rw [Nat.zero_add]; exact ints_get hy1) ?_
            refine Seg.by (by kernel_rfl) ?_
            refine JoinP.intro (α := Nat) (fun k => (k = 2 * i + 1 ∨ k = 2 * i + 2) ∧ k < last ∧ ∀ y, c[k]? = some y → ∀ t z, 0 < t → (t - 1) / 2 = i → t < last → c[t]? = some z → y ≤ z) (fun k => [(0, .ptr 4 0), (3, .sl 5 none (some (0, last))), (4, .s (.i .i64 out)), (5, .s (.i .i64 last)), (6, .s (.i .i64 i)), (7, .s (.i .i64 k)), (1000002, .ptr 0 0), (1000003, .ptr 1 0), (1000004, .ptr 4 0), (1000006, .sl 6 none none)])
              (fun k => [(0, some (.blk [.nils, .nils, .nils])), (1, some (.blk [.sl 2 none none, .sl 3 none none])), (2, some (.nest true 1 (rowsI N) [] [])), (3, some (.flat true 1 (bools G))), (4, some (.blk [.sl 5 none none])), (5, some (.flat true 1 (ints c))), (6, some (.flat true 4 (stps st)))]) 7 ?_ ?_
            rotate_left
            · rintro k ⟨hkk, hkl, hM⟩
              obtain ⟨y, hy⟩ : ∃ y, c[k]? = some y := ⟨_, List.getElem?_eq_getElem (by have := hsf.len; omega)⟩
              have hmin := hM y hy
              refine Idx.by i rfl (by omega) ?_
              refine Look.by _ (by rw [Nat.zero_add]; exact ints_get hx) ?_
              refine Idx.by k rfl (by omega) ?_
              refine Look.by _ (by rw [Nat.zero_add]; exact ints_get hy) ?_
              refine Seg.by (by kernel_rfl) ?_
              refine Pick.by (fun hc4 => ?_) (fun hc4 => ?_)
              · have hle : x ≤ y := by simpa using hc4
                refine ⟨c, ⟨hcm, hsf.len, hsf.perm, sift_done hsf fun t u v ht htp hu hv => ?_⟩, by refine Weak.by [(0, some _), (1, some _), (2, some _), (3, some _), (4, some _), (5, some _), (6, some _)] (by ((repeat' first | exact rfl | exact trivial | apply And.intro) <;> (repeat' first | exact rfl | exact trivial | apply And.intro))) (by ((repeat' first | exact rfl | exact trivial | apply And.intro) <;> (repeat' first | exact rfl | exact trivial | apply And.intro))) (by rfl)⟩
                have htk : t < last := by
                  have := (List.getElem?_eq_some_iff.1 hv).1
                  rw [List.length_take] at this
                  omega
                rw [tk_get (by omega), hx] at hu
                injection hu with hu
                have := hmin t v ht htp htk (by rw [← tk_get htk]; exact hv)
                omega
              · have hlt : y < x := by simpa using hc4
                refine Idx.by k rfl (by omega) ?_
                refine Look.by _ (by rw [Nat.zero_add]; exact ints_get hy) ?_
                refine Idx.by i rfl (by omega) ?_
                refine Look.by _ (by rw [Nat.zero_add]; exact ints_get hx) ?_
                refine Idx.by i rfl (by omega) ?_
                refine Look.by _ (by rw [Nat.zero_add]; exact ints_get hx) ?_
                refine Idx.by k rfl (by omega) ?_
                refine Look.by _ (by rw [Nat.zero_add, Nat.zero_add, List.getElem?_set_ne (by omega)]; exact ints_get hy) ?_
                refine Seg.by (by kernel_rfl) ?_
                refine Next.by (k, (c.set i y).set k x) ⟨sift_step hsf (by omega) (by omega) hkl hx hy hlt hmin, by dsimp only; omega, by rw [List.length_set, List.length_set]; exact hcm⟩ (by dsimp only; omega) (by refine Weak.by [(0, some _), (1, some _), (2, some _), (3, some _), (4, some _), (5, some _), (6, some _)] (by ((repeat' first | exact rfl | exact trivial | apply And.intro) <;> (repeat' first | exact rfl | exact trivial | apply And.intro)); all_goals ((rw [Nat.zero_add, Nat.zero_add, ints_set, ints_set]; rfl))) (by ((repeat' first | exact rfl | exact trivial | apply And.intro) <;> (repeat' first | exact rfl | exact trivial | apply And.intro)); all_goals ((rw [Nat.zero_add, Nat.zero_add, ints_set, ints_set]; rfl))) (by rfl))
            refine Pick.by (fun hc3 => ?_) (fun hc3 => ?_)
            · have hlt2 : y2 < y1 := by simpa using hc3
              refine Pick.T (inI64_of (by omega) (by omega)) ?_
              refine ⟨2 * i + 2, hjoin _ (.inr rfl) hch2 fun y hy t z ht htp htl hz => ?_, by refine Weak.by [(0, some _), (1, some _), (2, some _), (3, some _), (4, some _), (5, some _), (6, some _)] (by ((repeat' first | exact rfl | exact trivial | apply And.intro) <;> (repeat' first | exact rfl | exact trivial | apply And.intro)); all_goals ((exact sc_eq hk2.symm))) (by ((repeat' first | exact rfl | exact trivial | apply And.intro) <;> (repeat' first | exact rfl | exact trivial | apply And.intro)); all_goals ((exact sc_eq hk2.symm))) (by rfl)⟩
              have : t = 2 * i + 1 ∨ t = 2 * i + 2 := by omega
              rcases this with rfl | rfl
              · rw [hy2] at hy; rw [hy1] at hz; injection hy with hy; injection hz with hz; omega
              · rw [hy] at hz; injection hz with hz; omega
            · have hlt2 : ¬ y2 < y1 := by simpa using hc3
              refine ⟨2 * i + 1, hjoin _ (.inl rfl) hch fun y hy t z ht htp htl hz => ?_, by refine Weak.by [(0, some _), (1, some _), (2, some _), (3, some _), (4, some _), (5, some _), (6, some _)] (by ((repeat' first | exact rfl | exact trivial | apply And.intro) <;> (repeat' first | exact rfl | exact trivial | apply And.intro)); all_goals ((exact sc_eq hk1.symm))) (by ((repeat' first | exact rfl | exact trivial | apply And.intro) <;> (repeat' first | exact rfl | exact trivial | apply And.intro)); all_goals ((exact sc_eq hk1.symm))) (by rfl)⟩
              have : t = 2 * i + 1 ∨ t = 2 * i + 2 := by omega
              rcases this with rfl | rfl
              · rw [hy] at hz; injection hz with hz; omega
              · rw [hy1] at hy; rw [hy2] at hz; injection hy with hy; injection hz with hz; omega
          · have hch2 : ¬ 2 * i + 2 < last := by simp at hc2; omega
            refine Seg.by (by kernel_rfl) ?_
            refine JoinP.intro (α := Nat) (fun k => (k = 2 * i + 1 ∨ k = 2 * i + 2) ∧ k < last ∧ ∀ y, c[k]? = some y → ∀ t z, 0 < t → (t - 1) / 2 = i → t < last → c[t]? = some z → y ≤ z) (fun k => [(0, .ptr 4 0), (3, .sl 5 none (some (0, last))), (4, .s (.i .i64 out)), (5, .s (.i .i64 last)), (6, .s (.i .i64 i)), (7, .s (.i .i64 k)), (1000002, .ptr 0 0), (1000003, .ptr 1 0), (1000004, .ptr 4 0), (1000006, .sl 6 none none)])
              (fun k => [(0, some (.blk [.nils, .nils, .nils])), (1, some (.blk [.sl 2 none none, .sl 3 none none])), (2, some (.nest true 1 (rowsI N) [] [])), (3, some (.flat true 1 (bools G))), (4, some (.blk [.sl 5 none none])), (5, some (.flat true 1 (ints c))), (6, some (.flat true 4 (stps st)))]) 7 ?_ ?_
            rotate_left
            · rintro k ⟨hkk, hkl, hM⟩
              obtain ⟨y, hy⟩ : ∃ y, c[k]? = some y := ⟨_, List.getElem?_eq_getElem (by have := hsf.len; omega)⟩
              have hmin := hM y hy
              refine Idx.by i rfl (by omega) ?_
              refine Look.by _ (by rw [Nat.zero_add]; exact ints_get hx) ?_
              refine Idx.by k rfl (by omega) ?_
              refine Look.by _ (by rw [Nat.zero_add]; exact ints_get hy) ?_
              refine Seg.by (by kernel_rfl) ?_
              refine Pick.by (fun hc4 => ?_) (fun hc4 => ?_)
              · have hle : x ≤ y := by simpa using hc4
                refine ⟨c, ⟨hcm, hsf.len, hsf.perm, sift_done hsf fun t u v ht htp hu hv => ?_⟩, by refine Weak.by [(0, some _), (1, some _), (2, some _), (3, some _), (4, some _), (5, some _), (6, some _)] (by ((repeat' first | exact rfl | exact trivial | apply And.intro) <;> (repeat' first | exact rfl | exact trivial | apply And.intro))) (by ((repeat' first | exact rfl | exact trivial | apply And.intro) <;> (repeat' first | exact rfl | exact trivial | apply And.intro))) (by rfl)⟩
                have htk : t < last := by
                  have := (List.getElem?_eq_some_iff.1 hv).1
                  rw [List.length_take] at this
                  omega
                rw [tk_get (by omega), hx] at hu
                injection hu with hu
                have := hmin t v ht htp htk (by rw [← tk_get htk]; exact hv)
                omega
              · have hlt : y < x := by simpa using hc4
                refine Idx.by k rfl (by omega) ?_
                refine Look.by _ (by rw [Nat.zero_add]; exact ints_get hy) ?_
                refine Idx.by i rfl (by omega) ?_
                refine Look.by _ (by rw [Nat.zero_add]; exact ints_get hx) ?_
                refine Idx.by i rfl (by omega) ?_
                refine Look.by _ (by rw [Nat.zero_add]; exact ints_get hx) ?_
                refine Idx.by k rfl (by omega) ?_
                refine Look.by _ (by rw [Nat.zero_add, Nat.zero_add, List.getElem?_set_ne (by omega)]; exact ints_get hy) ?_
                refine Seg.by (by kernel_rfl) ?_
                refine Next.by (k, (c.set i y).set k x) ⟨sift_step hsf (by omega) (by omega) hkl hx hy hlt hmin, by dsimp only; omega, by rw [List.length_set, List.length_set]; exact hcm⟩ (by dsimp only; omega) (by refine Weak.by [(0, some _), (1, some _), (2, some _), (3, some _), (4, some _), (5, some _), (6, some _)] (by ((repeat' first | exact rfl | exact trivial | apply And.intro) <;> (repeat' first | exact rfl | exact trivial | apply And.intro)); all_goals ((rw [Nat.zero_add, Nat.zero_add, ints_set, ints_set]; rfl))) (by ((repeat' first | exact rfl | exact trivial | apply And.intro) <;> (repeat' first | exact rfl | exact trivial | apply And.intro)); all_goals ((rw [Nat.zero_add, Nat.zero_add, ints_set, ints_set]; rfl))) (by rfl))
            refine ⟨2 * i + 1, hjoin _ (.inl rfl) hch fun y hy t z ht htp htl hz => ?_, by refine Weak.by [(0, some _), (1, some _), (2, some _), (3, some _), (4, some _), (5, some _), (6, some _)] (by ((repeat' first | exact rfl | exact trivial | apply And.intro) <;> (repeat' first | exact rfl | exact trivial | apply And.intro)); all_goals ((exact sc_eq hk1.symm))) (by ((repeat' first | exact rfl | exact trivial | apply And.intro) <;> (repeat' first | exact rfl | exact trivial | apply And.intro)); all_goals ((exact sc_eq hk1.symm))) (by rfl)⟩
            have : t = 2 * i + 1 := by omega
            rw [this, hy] at hz; injection hz with hz; omega
        · have hch : ¬ 2 * i + 1 < last := by simp at hc1; omega
          refine ⟨c, ⟨hcm, hsf.len, hsf.perm, sift_done hsf fun t u v ht htp hu hv => ?_⟩, by refine Weak.by [(0, some _), (1, some _), (2, some _), (3, some _), (4, some _), (5, some _), (6, some _)] (by ((repeat' first | exact rfl | exact trivial | apply And.intro) <;> (repeat' first | exact rfl | exact trivial | apply And.intro))) (by ((repeat' first | exact rfl | exact trivial | apply And.intro) <;> (repeat' first | exact rfl | exact trivial | apply And.intro))) (by rfl)⟩
          have := (List.getElem?_eq_some_iff.1 hv).1
          rw [List.length_take] at this
          omega
      · have hz : l.length = 0 := by rw [ints_length, hlm] at hc; simpa using hc
        have hno : ∀ u, mayB N G u ≠ true := fun u hu => by
          have := hm u hu
          rw [List.eq_nil_of_length_eq_zero hz] at this
          simp at this
        rw [runS_end (firstMay_none hno), List.append_nil] at hrun
        rw [hrun]
        have hst4 : st.length ≤ 1000 := by omega
        have hGN := hW.len
        have hmo := hW.most
        have hNL := rowsI_length N
        refine LoopP.intro (α := Nat) (fun j => j ≤ N.length) (fun j => N.length - j) (fun j => [(2, .ptr 2 0), (4, .ptr 1 0), (5, .ptr 3 0), (13, .sl 4 none none), (14, .s (.i .i64 N.length)), (15, .s (.i .i64 j)), (1000002, .ptr 0 0)])
          (fun j => [(0, some (.blk [.nils, .nils, .nils])), (1, some (.blk [.nils, .nils, .nils])), (2, some (.blk [.sl 4 none none, .sl 5 none none])), (3, some (.blk [.sl 6 none none, .sl 7 none none, .sl 8 none none])), (4, some (.nest true 1 (rowsI N) [] [])), (5, some (.flat true 1 (bools G))), (6, some (.flat true 4 (stps st))), (7, some (.flat true 1 (ints (leftK G j)))), (8, some (.flat true 2 (edges (edgesK N G j))))]) 9 0 (by omega) (by refine Weak.by [(0, some _), (1, some _), (2, some _), (3, some _), (4, some _), (5, some _), (6, some _), (7, none), (8, none)] (by ((repeat' first | exact rfl | exact trivial | apply And.intro) <;> (repeat' first | exact rfl | exact trivial | apply And.intro)); all_goals ((first | (rw [hNL]; rfl) | done))) (by ((repeat' first | exact rfl | exact trivial | apply And.intro) <;> (repeat' first | exact rfl | exact trivial | apply And.intro)); all_goals ((first | (rw [hNL]; rfl) | done))) (by rfl)) ?_
        rintro j hj
        have hlk := leftK_len G j
        have hek := edgesK_len hW j
        refine Pick.by (fun hd1 => ?_) (fun hd1 => ?_)
        · have hjl : j < N.length := by simpa using hd1
          have hgj : (bools G)[j]? = some [.b (G.getD j false)] := by
            refine bools_get ?_
            rw [List.getD_eq_getElem?_getD, List.getElem?_eq_getElem (by omega)]; rfl
          have hrj : (rowsI N)[j]? = some (ints (rowAt N j)) := by
            have := (rowAt_mem (N := N) (v := (j : Int)) (by omega) (by omega)).2
            exact rowsI_get this
          have hrl := hW.row_len (j : Int)
          refine Idx.by j rfl (by omega) ?_
          refine Pick.T (by rw [hNL]; simp; omega) ?_
          refine Idx.by j rfl (by rw [bools_length]; omega) ?_
          refine Look.by _ hgj ?_
          refine Pick.by (fun hd2 => ?_) (fun hd2 => ?_)
          · have hd2 : G.getD j false = true := hd2
            refine Pick.T (inI64_of (by omega) (by omega)) ?_
            refine Next.by (j + 1) (by omega) (by omega) (by refine Weak.by [(0, some _), (1, some _), (2, some _), (3, some _), (4, some _), (5, some _), (6, some _), (7, some _), (8, some _)] (by ((repeat' first | exact rfl | exact trivial | apply And.intro) <;> (repeat' first | exact rfl | exact trivial | apply And.intro)); all_goals ((first | (rw [leftK_succ, if_pos hd2, List.append_nil]) | (rw [edgesK_succ, if_pos hd2, List.append_nil])))) (by ((repeat' first | exact rfl | exact trivial | apply And.intro) <;> (repeat' first | exact rfl | exact trivial | apply And.intro)); all_goals ((first | (rw [leftK_succ, if_pos hd2, List.append_nil]) | (rw [edgesK_succ, if_pos hd2, List.append_nil])))) (by rfl))
          have hd2 : G.getD j false = false := hd2
          have hl1 : leftK G (j + 1) = leftK G j ++ [(j : Int)] := by rw [leftK_succ, if_neg (by rw [hd2]; simp)]
          have he1 : edgesK N G (j + 1) = edgesK N G j ++ outE N j := by rw [edgesK_succ, if_neg (by rw [hd2]; simp)]
          refine Pick.T (by simp [cut, ints_length]; omega) ?_
          refine Look.by _ hrj ?_
          refine LoopP.intro (α := Nat) (fun k => k ≤ (rowAt N j).length) (fun k => (rowAt N j).length - k) (fun k => [(2, .ptr 2 0), (4, .ptr 1 0), (5, .ptr 3 0), (6, .s (.i .i64 j)), (13, .sl 4 none none), (14, .s (.i .i64 N.length)), (15, .s (.i .i64 j)), (31, .sl 4 (some (j, 0)) none), (32, .s (.i .i64 (rowAt N j).length)), (33, .s (.i .i64 k)), (1000002, .ptr 0 0)])
            (fun k => [(0, some (.blk [.nils, .nils, .nils])), (1, some (.blk [.nils, .nils, .nils])), (2, some (.blk [.sl 4 none none, .sl 5 none none])), (3, some (.blk [.sl 6 none none, .sl 7 none none, .sl 8 none none])), (4, some (.nest true 1 (rowsI N) [] [])), (5, some (.flat true 1 (bools G))), (6, some (.flat true 4 (stps st))), (7, some (.flat true 1 (ints (leftK G (j + 1))))), (8, some (.flat true 2 (edges (edgesK N G j ++ (((rowAt N j).take k).filter fun x => decide (x > (j : Int))).map fun x => ((j : Int), x)))))]) 9 0 (by omega) (by refine Weak.by [(0, some _), (1, some _), (2, some _), (3, some _), (4, some _), (5, some _), (6, some _), (7, some _), (8, some _)] (by ((repeat' first | exact rfl | exact trivial | apply And.intro) <;> (repeat' first | exact rfl | exact trivial | apply And.intro)); all_goals ((first | (rw [hl1, ints_snoc]; rfl) | (rw [List.take_zero]; simp; done) | (rw [ints_length]; rfl) | (simp; done)))) (by ((repeat' first | exact rfl | exact trivial | apply And.intro) <;> (repeat' first | exact rfl | exact trivial | apply And.intro)); all_goals ((first | (rw [hl1, ints_snoc]; rfl) | (rw [List.take_zero]; simp; done) | (rw [ints_length]; rfl) | (simp; done)))) (by rfl)) ?_
          rintro k hk
          have hpl : ((((rowAt N j).take k).filter fun x => decide (x > (j : Int))).map fun x => ((j : Int), x)).length ≤ 1000 := by
            rw [List.length_map]
            refine Nat.le_trans (List.length_filter_le _ _) ?_
            rw [List.length_take]; omega
          refine Pick.by (fun hd3 => ?_) (fun hd3 => ?_)
          · have hkl : k < (rowAt N j).length := by simpa using hd3
            obtain ⟨x, hx⟩ : ∃ x, (rowAt N j)[k]? = some x := ⟨_, List.getElem?_eq_getElem hkl⟩
            have hxe : (rowAt N j)[k] = x := by rw [List.getElem?_eq_getElem hkl] at hx; injection hx
            refine Look.by _ hrj ?_
            refine Idx.by k rfl (by rw [ints_length]; exact hkl) ?_
            refine Look.by _ hrj ?_
            refine Look.by _ (ints_get hx) ?_
            refine Pick.by (fun hd4 => ?_) (fun hd4 => ?_)
            · have hd4 : x > (j : Int) := by simpa using hd4
              refine Pick.T (by simp [cut, edges_length] at hpl ⊢; omega) ?_
              refine Pick.T (inI64_of (by omega) (by omega)) ?_
              refine Next.by (k + 1) (by omega) (by omega) (by refine Weak.by [(0, some _), (1, some _), (2, some _), (3, some _), (4, some _), (5, some _), (6, some _), (7, some _), (8, some _)] (by ((repeat' first | exact rfl | exact trivial | apply And.intro) <;> (repeat' first | exact rfl | exact trivial | apply And.intro)); all_goals ((first | (rw [List.take_succ_eq_append_getElem hkl, hxe, List.filter_append, List.map_append, List.filter_cons, if_pos (by simpa using hd4), List.filter_nil, ← List.append_assoc]; exact edges_snoc _ _) | (simp; done)))) (by ((repeat' first | exact rfl | exact trivial | apply And.intro) <;> (repeat' first | exact rfl | exact trivial | apply And.intro)); all_goals ((first | (rw [List.take_succ_eq_append_getElem hkl, hxe, List.filter_append, List.map_append, List.filter_cons, if_pos (by simpa using hd4), List.filter_nil, ← List.append_assoc]; exact edges_snoc _ _) | (simp; done)))) (by rfl))
            · have hd4 : ¬ x > (j : Int) := by simpa using hd4
              refine Pick.T (inI64_of (by omega) (by omega)) ?_
              refine Next.by (k + 1) (by omega) (by omega) (by refine Weak.by [(0, some _), (1, some _), (2, some _), (3, some _), (4, some _), (5, some _), (6, some _), (7, some _), (8, some _)] (by ((repeat' first | exact rfl | exact trivial | apply And.intro) <;> (repeat' first | exact rfl | exact trivial | apply And.intro)); all_goals ((first | (rw [List.take_succ_eq_append_getElem hkl, hxe, List.filter_append, List.map_append, List.filter_cons, if_neg (by simpa using hd4), List.filter_nil, List.map_nil, List.append_nil]) | (simp; done)))) (by ((repeat' first | exact rfl | exact trivial | apply And.intro) <;> (repeat' first | exact rfl | exact trivial | apply And.intro)); all_goals ((first | (rw [List.take_succ_eq_append_getElem hkl, hxe, List.filter_append, List.map_append, List.filter_cons, if_neg (by simpa using hd4), List.filter_nil, List.map_nil, List.append_nil]) | (simp; done)))) (by rfl))
          · have hkl : k = (rowAt N j).length := by simp at hd3; omega
            have hfull : edgesK N G (j + 1) = edgesK N G j ++ (((rowAt N j).take k).filter fun x => decide (x > (j : Int))).map fun x => ((j : Int), x) := by rw [he1, hkl, List.take_length]; rfl
            refine Pick.T (inI64_of (by omega) (by omega)) ?_
            refine Next.by (j + 1) (by omega) (by omega) (by refine Weak.by [(0, some _), (1, some _), (2, some _), (3, some _), (4, some _), (5, some _), (6, some _), (7, some _), (8, some _)] (by ((repeat' first | exact rfl | exact trivial | apply And.intro) <;> (repeat' first | exact rfl | exact trivial | apply And.intro)); all_goals ((rw [hfull]))) (by ((repeat' first | exact rfl | exact trivial | apply And.intro) <;> (repeat' first | exact rfl | exact trivial | apply And.intro)); all_goals ((rw [hfull]))) (by rfl))
        have hjl : j = N.length := by simp at hd1; omega
        subst hjl
        have e1 : leftF G = leftK G N.length := by unfold leftF leftK; rw [hGN]
        have e2 : edgesF N G = edgesK N G N.length := by unfold edgesF edgesK; rw [e1]
        refine ⟨rfl, ?_⟩
        (repeat' first | exact rfl | exact trivial | apply And.intro)
        all_goals (first | exact congrArg ints e1 | exact congrArg edges e2)
    · have hlm : m.take L = cut (some (0, L)) m := rfl
      generalize cut (some (0, L)) m = l at *
      have hLl : l.length = L := by rw [← hlm, List.length_take]; omega
      have hget : ∀ j, j < L → l[j]? = m[j]? := fun j hj => by rw [← hlm, List.getElem?_take, if_pos hj]
      refine Pick.by (fun hc => ?_) (fun hc => ?_)
      · have hpos : 0 < l.length := by rw [hLl]; simpa using hc
        obtain ⟨out, hout⟩ : ∃ a, l[0]? = some a := ⟨_, List.getElem?_eq_getElem hpos⟩
        obtain ⟨last, hlst⟩ : ∃ k, l.length = k + 1 := ⟨l.length - 1, by omega⟩
        obtain ⟨top, htop⟩ : ∃ a, l[last]? = some a := ⟨_, List.getElem?_eq_getElem (by omega)⟩
        have hlast : (L : Int) - 1 = (last : Int) := by omega
        have hout2 : m[0]? = some out := by rw [← hget 0 (by omega)]; exact hout
        have htop2 : m[last]? = some top := by rw [← hget last (by omega)]; exact htop
        have hsift : Sift l out last (m.set 0 top) 0 := by
          have e : (m.set 0 top).take last = (l.set 0 top).take last := by
            rw [← hlm, List.take_set, List.take_set, List.take_take, Nat.min_eq_left (by omega)]
          exact ⟨by rw [List.length_set]; omega, by rw [e]; exact take_perm hout htop hlst, by rw [e]; exact dn_start hH _⟩
        refine Idx.by 0 rfl (by omega) ?_
        refine Look.by _ (ints_get hout2) ?_
        refine Pick.T (by rw [hlast]; exact inI64_of (by omega) (by omega)) ?_
        refine Idx.by last hlast (by omega) ?_
        refine Look.by _ (by rw [Nat.zero_add]; exact ints_get htop2) ?_
        refine Idx.by 0 rfl (by omega) ?_
        refine Look.by _ (ints_get hout2) ?_
        refine Rng.by 0 last rfl hlast (by omega) (by omega) ?_
        refine JoinP.intro (α := List Int) (fun c => c.length = m.length ∧ last ≤ c.length ∧ (out :: c.take last).Perm l ∧ Heap (c.take last)) (fun c => [(0, .ptr 4 0), (3, .sl 5 none (some (0, last))), (4, .s (.i .i64 out)), (1000002, .ptr 0 0), (1000003, .ptr 1 0), (1000004, .ptr 4 0), (1000006, .sl 6 none none)])
          (fun c => [(0, some (.blk [.nils, .nils, .nils])), (1, some (.blk [.sl 2 none none, .sl 3 none none])), (2, some (.nest true 1 (rowsI N) [] [])), (3, some (.flat true 1 (bools G))), (4, some (.blk [.sl 5 none (some (0, L))])), (5, some (.flat true 1 (ints c))), (6, some (.flat true 4 (stps st)))]) 7 ?_ ?_
        rotate_left
        · rintro c ⟨hcm, hlc, hperm, hHc⟩
          have hGN := hW.len
          have hq0 : ∀ v, v ∈ c.take last → v ∈ l := fun v hv => hperm.mem_iff.1 (List.mem_cons_of_mem _ hv)
          have hq1 : ∀ v, v ∈ l → v = out ∨ v ∈ c.take last := fun v hv => by simpa using hperm.mem_iff.2 hv
          have hqr : ∀ v ∈ c.take last, 0 ≤ v ∧ v < n := fun v hv => hr v (hq0 v hv)
          have hqc : cut (some (0, last)) c = c.take last := rfl
          have hqlen : (c.take last).length = last := by rw [List.length_take]; omega
          have hor := hr out (List.mem_of_getElem? hout)
          refine Call.by _ _ (MayC_at out hGN) ?_
          refine Pick.by (fun hmy => ?_) (fun hmy => ?_)
          · have hmy : mayB N G out = false := by have hmy : (!mayB N G out) = true := hmy; simpa using hmy
            refine Next.by (st, N, G, some (0, last), c) ⟨hW, hNl, hrun, hlive, .inr ⟨last, rfl, hlc⟩, by dsimp only; omega, by dsimp only; rw [hqc]; omega, hHc, hqr, fun v hv => ?_⟩ (by dsimp only; rw [hqc]; omega) (by refine Weak.by [(0, some _), (1, some _), (2, some _), (3, some _), (4, some _), (5, some _), (6, some _)] (by ((repeat' first | exact rfl | exact trivial | apply And.intro) <;> (repeat' first | exact rfl | exact trivial | apply And.intro))) (by ((repeat' first | exact rfl | exact trivial | apply And.intro) <;> (repeat' first | exact rfl | exact trivial | apply And.intro))) (by rfl))
            rcases hq1 v (hm v hv) with e | e
            · rw [e, hmy] at hv; cases hv
            · exact e
          have hmy : mayB N G out = true := by have hmy : (!mayB N G out) = false := hmy; simpa using hmy
          have hmp := mayB_iff.1 hmy
          obtain ⟨hs1, hs2⟩ := step_two hW hmp rfl
          refine Call.by _ _ (StepC_at ⟨hW, hmp.lo, hmp.hi⟩) ?_
          have hlo := hmp.lo
          have hhi := hmp.hi
          have hrv := hW.rows out
          have hnd : (rowAt N out).Nodup := hrv.1.imp fun hab => by omega
          have hNL := rowsI_length N
          have hmo := hW.most
          have hrl := hW.row_len out
          have hgv : (rowsI N)[(out).toNat]? = some (ints (rowAt N out)) := rowsI_get (rowAt_mem hlo hhi).2
          have hvv : out ∉ rowAt N out := hW.irr out hlo
          have hpart : ∀ (di : Nat) (u : Int), 0 ≤ u → rowAt (((rowAt N out).take di).foldl (cutF out) N) u = if u ∈ (rowAt N out).take di then (rowAt N u).erase out else rowAt N u := fun di u hu => cuts_row (hnd.sublist (List.take_sublist _ _)) (fun x hx => hrv.2 x (List.mem_of_mem_take hx)) hu
          have hplen : ∀ di : Nat, (rowsI (((rowAt N out).take di).foldl (cutF out) N)).length = N.length := fun di => by rw [rowsI_length, cuts_length]
          have hpget : ∀ (di : Nat) (u : Int), 0 ≤ u → u < N.length → (rowsI (((rowAt N out).take di).foldl (cutF out) N))[u.toNat]? = some (ints (rowAt (((rowAt N out).take di).foldl (cutF out) N) u)) := fun di u h0 h1 => rowsI_get (rowAt_mem h0 (by rw [cuts_length]; exact h1)).2
          refine Idx.by (out).toNat (by show (out : Int) = _; omega) (by omega) ?_
          refine Pick.T (by rw [hNL]; simp; omega) ?_
          refine Look.by _ hgv ?_
          refine LoopP.intro (α := Nat) (fun di => di ≤ (rowAt N out).length) (fun di => (rowAt N out).length - di) (fun di => [(2, .ptr 8 0), (3, .ptr 9 0), (11, .sl 2 (some ((out).toNat, 0)) none), (12, .s (.i .i64 (rowAt N out).length)), (13, .s (.i .i64 di)), (1000002, .ptr 0 0), (1000003, .ptr 1 0), (1000004, .ptr 4 0), (1000006, .sl 6 none none), (1000008, .ptr 7 0)])
            (fun di => [(0, some (.blk [.nils, .nils, .nils])), (1, some (.blk [.sl 2 none none, .sl 3 none none])), (4, some (.blk [.sl 5 none (some (0, last))])), (5, some (.flat true 1 (ints c))), (6, some (.flat true 4 (stps st))), (7, some (.blk [.s (.i .i64 (stepF N out).1), .s (.i .i64 (stepF N out).2.1), .s (.i .i64 (stepF N out).2.2.1), .s (.b (stepF N out).2.2.2)])), (2, some (.nest true 1 (rowsI (((rowAt N out).take di).foldl (cutF out) N)) [] [])), (3, some (.flat true 1 (bools G))), (8, some (.blk [.sl 2 none none, .sl 3 none none])), (9, some (.blk [.s (.i .i64 (stepF N out).1), .s (.i .i64 (stepF N out).2.1), .s (.i .i64 (stepF N out).2.2.1), .s (.b (stepF N out).2.2.2)]))]) 10 0 (by omega) (by refine Weak.by [(0, some _), (1, some _), (2, some _), (3, some _), (4, some _), (5, some _), (6, some _), (7, some _), (8, some _), (9, some _)] (by ((repeat' first | exact rfl | exact trivial | apply And.intro) <;> (repeat' first | exact rfl | exact trivial | apply And.intro)); all_goals ((first | (rw [ints_length]; rfl) | (simp; done)))) (by ((repeat' first | exact rfl | exact trivial | apply And.intro) <;> (repeat' first | exact rfl | exact trivial | apply And.intro)); all_goals ((first | (rw [ints_length]; rfl) | (simp; done)))) (by rfl)) ?_
          rintro di hi
          refine Pick.by (fun hc1 => ?_) (fun hc1 => ?_)
          · have hil : di < (rowAt N out).length := by simpa using hc1
            obtain ⟨x, hx⟩ : ∃ x, (rowAt N out)[di]? = some x := ⟨_, List.getElem?_eq_getElem hil⟩
            have hxm := List.mem_of_getElem? hx
            have hxr := hrv.2 x hxm
            have hxv : x ≠ out := fun e => hvv (e ▸ hxm)
            have hgi : (rowsI (((rowAt N out).take di).foldl (cutF out) N))[(out).toNat]? = some (ints (rowAt N out)) := by
              rw [hpget di out hlo hhi, hpart di out hlo, if_neg fun h => hvv (List.mem_of_mem_take h)]
            have hrx := hpget di x hxr.1 hxr.2
            have hstp : ((rowAt N out).take (di + 1)).foldl (cutF out) N = cutF out (((rowAt N out).take di).foldl (cutF out) N) x := by
              rw [List.take_succ_eq_append_getElem hil, List.foldl_append]
              have : (rowAt N out)[di] = x := by rw [List.getElem?_eq_getElem hil] at hx; injection hx
              rw [this]; rfl
            have hwx : (rowAt (((rowAt N out).take di).foldl (cutF out) N) x).Pairwise (· ≤ ·) ∧ (rowAt (((rowAt N out).take di).foldl (cutF out) N) x).length ≤ 1000000 := by
              have h1 := hW.rows x
              have h2 := hW.row_len x
              rw [hpart di x hxr.1]
              split
              · have h3 := List.length_erase_le (l := rowAt N x) (a := out)
                exact ⟨(erase_sorted h1.1).imp fun h => by omega, by omega⟩
              · exact ⟨h1.1.imp fun h => by omega, by omega⟩
            have hpl := hplen di
            refine Look.by _ hgi ?_
            refine Idx.by di rfl (by rw [ints_length]; exact hil) ?_
            refine Look.by _ hgi ?_
            refine Look.by _ (ints_get hx) ?_
            refine Idx.by x.toNat (by omega) (by omega) ?_
            refine Pick.T (by rw [hpl]; simp; omega) ?_
            refine Look.by _ hrx ?_
            refine Call.by _ _ (turnC_at hwx) ?_
            refine Idx.by x.toNat (by omega) (by omega) ?_
            refine Pick.T (by rw [hpl]; simp; omega) ?_
            refine Pick.T (by simp) ?_
            refine Seg.by (by kernel_rfl) ?_
            refine Pick.T (inI64_of (by omega) (by omega)) ?_
            refine Next.by (di + 1) (by omega) (by omega) (by refine Weak.by [(0, some _), (1, some _), (2, some _), (3, some _), (4, some _), (5, some _), (6, some _), (7, some _), (8, some _), (9, some _)] (by ((repeat' first | exact rfl | exact trivial | apply And.intro) <;> (repeat' first | exact rfl | exact trivial | apply And.intro)); all_goals ((first | (rw [hstp]; unfold cutF; rw [rowsI_set]; rfl) | (simp; done) | (simp; omega)))) (by ((repeat' first | exact rfl | exact trivial | apply And.intro) <;> (repeat' first | exact rfl | exact trivial | apply And.intro)); all_goals ((first | (rw [hstp]; unfold cutF; rw [rowsI_set]; rfl) | (simp; done) | (simp; omega)))) (by rfl))
          have hil : di = (rowAt N out).length := by simp at hc1; omega
          subst hil
          rw [List.take_length]
          have hN1 : ∀ u : Int, 0 ≤ u → rowAt ((rowAt N out).foldl (cutF out) N) u = (rowAt N u).erase out := fun u hu => by
            rw [cuts_row hnd hrv.2 hu]
            split
            · rfl
            · rename_i hno
              rw [List.erase_of_not_mem]
              exact fun h => hno (hW.sym u out hu hlo h)
          have hl1 : (rowsI ((rowAt N out).foldl (cutF out) N)).length = N.length := by rw [rowsI_length, cuts_length]
          refine JoinP.intro (α := Unit) (fun _ => True) (fun _ => [(2, .ptr 8 0), (3, .ptr 9 0), (1000002, .ptr 0 0), (1000003, .ptr 1 0), (1000004, .ptr 4 0), (1000006, .sl 6 none none), (1000008, .ptr 7 0)])
            (fun _ => [(0, some (.blk [.nils, .nils, .nils])), (1, some (.blk [.sl 2 none none, .sl 3 none none])), (4, some (.blk [.sl 5 none (some (0, last))])), (5, some (.flat true 1 (ints c))), (6, some (.flat true 4 (stps st))), (7, some (.blk [.s (.i .i64 (stepF N out).1), .s (.i .i64 (stepF N out).2.1), .s (.i .i64 (stepF N out).2.2.1), .s (.b (stepF N out).2.2.2)])), (2, some (.nest true 1 (rowsI (if (stepF N out).2.2.2 then joinF (joinF ((rowAt N out).foldl (cutF out) N) (stepF N out).2.1 (stepF N out).2.2.1) (stepF N out).2.2.1 (stepF N out).2.1 else (rowAt N out).foldl (cutF out) N)) [] [])), (3, some (.flat true 1 (bools G))), (8, some (.blk [.sl 2 none none, .sl 3 none none])), (9, some (.blk [.s (.i .i64 (stepF N out).1), .s (.i .i64 (stepF N out).2.1), .s (.i .i64 (stepF N out).2.2.1), .s (.b (stepF N out).2.2.2)]))]) 10 ?_ ?_
          rotate_left
          · rintro ⟨⟩ -
            have hl2 : (rowsI (if (stepF N out).2.2.2 then joinF (joinF ((rowAt N out).foldl (cutF out) N) (stepF N out).2.1 (stepF N out).2.2.1) (stepF N out).2.2.1 (stepF N out).2.1 else (rowAt N out).foldl (cutF out) N)).length = N.length := by
              rw [rowsI_length]
              split
              · rw [joinF_length, joinF_length, cuts_length]
              · rw [cuts_length]
            have hdo : (rowsI (if (stepF N out).2.2.2 then joinF (joinF ((rowAt N out).foldl (cutF out) N) (stepF N out).2.1 (stepF N out).2.2.1) (stepF N out).2.2.1 (stepF N out).2.1 else (rowAt N out).foldl (cutF out) N)).set (out).toNat [] = rowsI (doN N (stepF N out)) := by
              unfold doN
              rw [rowsI_set]; rfl
            have hdg : (bools G).set (out).toNat [.b true] = bools (doG G (stepF N out)) := by
              unfold doG bools
              rw [List.map_set]; rfl
            generalize rowsI (if (stepF N out).2.2.2 then joinF (joinF ((rowAt N out).foldl (cutF out) N) (stepF N out).2.1 (stepF N out).2.2.1) (stepF N out).2.2.1 (stepF N out).2.1 else (rowAt N out).foldl (cutF out) N) = RR at hl2 hdo ⊢
            refine Idx.by (out).toNat (by show (out : Int) = _; omega) (by omega) ?_
            refine Pick.T (by rw [hl2]; simp; omega) ?_
            refine Idx.by (out).toNat (by show (out : Int) = _; omega) (by rw [bools_length, hW.len]; omega) ?_
            refine Look.by _ (bools_get (goneAt_get hW.len hlo hhi)) ?_
            refine Seg.by (by kernel_rfl) ?_
            have hW2 := do_wf hW hmp
            have hNl2 : (doN N (stepF N out)).length = n.toNat := by rw [doN_length]; exact hNl
            have hGN2 : (doG G (stepF N out)).length = (doN N (stepF N out)).length := hW2.len
            have hlv := live_step hW hmp
            have hst4 : st.length + 1 ≤ n.toNat := by omega
            have hrun2 := run_step hrun hW hmy hst4 (fun v hv => heap_least hHc hH hout hperm hm hv)
            have hmay2 : ∀ v, mayB (doN N (stepF N out)) (doG G (stepF N out)) v = true → v ∈ c.take last ∨ v = (stepF N out).2.1 ∨ v = (stepF N out).2.2.1 := fun v hv => may_step hW hmp hs2 hv fun h2 hne => (hq1 v (hm v h2)).elim (fun e => absurd e hne) id
            generalize hN2 : doN N (stepF N out) = N2 at *
            generalize hG2 : doG G (stepF N out) = G2 at *
            generalize hsG : stepF N out = s at *
            refine Pick.T (by simp [cut, stps_length]; omega) ?_
            refine LoopP.intro (α := Nat × Option (Nat × Nat) × List Int) (fun a => a.1 ≤ 2 ∧ (a.2.1 = none ∨ ∃ L, a.2.1 = some (0, L) ∧ L ≤ a.2.2.length) ∧ a.2.2.length ≤ 4000 ∧ (cut a.2.1 a.2.2).length ≤ last + a.1 ∧ Heap (cut a.2.1 a.2.2) ∧ (∀ v ∈ cut a.2.1 a.2.2, 0 ≤ v ∧ v < n) ∧ ∀ v : Int, mayB N2 G2 v = true → v ∈ cut a.2.1 a.2.2 ∨ (a.1 ≤ 0 ∧ v = s.2.1) ∨ (a.1 ≤ 1 ∧ v = s.2.2.1)) (fun a => 2 - a.1) (fun a => [(2, .ptr 0 0), (3, .ptr 1 0), (4, .ptr 4 0), (6, .sl 6 none none), (51, .sl 7 none none), (52, .s (.i .i64 2)), (53, .s (.i .i64 a.1))])
              (fun a => [(0, some (.blk [.nils, .nils, .nils])), (1, some (.blk [.sl 2 none none, .sl 3 none none])), (2, some (.nest true 1 (rowsI N2) [] [])), (3, some (.flat true 1 (bools G2))), (4, some (.blk [.sl 5 none a.2.1])), (5, some (.flat true 1 (ints a.2.2))), (6, some (.flat true 4 (stps (st ++ [s])))), (7, some (.flat true 1 (ints [s.2.1, s.2.2.1])))]) 8 (0, some (0, last), c)
              ⟨by dsimp only; omega, .inr ⟨last, rfl, hlc⟩, by dsimp only; omega, by dsimp only; rw [hqc]; omega, hHc, hqr, fun v hv => (hmay2 v hv).elim .inl fun h => h.elim (fun h => .inr (.inl ⟨by dsimp only; omega, h⟩)) fun h => .inr (.inr ⟨by dsimp only; omega, h⟩)⟩ (by refine Weak.by [(0, some _), (1, some _), (2, some _), (3, some _), (4, some _), (5, some _), (6, some _), (7, some _)] (by ((repeat' first | exact rfl | exact trivial | apply And.intro) <;> (repeat' first | exact rfl | exact trivial | apply And.intro)); all_goals ((first | (exact stps_snoc st s) | (exact hdo.symm) | (exact hdg.symm)))) (by ((repeat' first | exact rfl | exact trivial | apply And.intro) <;> (repeat' first | exact rfl | exact trivial | apply And.intro)); all_goals ((first | (exact stps_snoc st s) | (exact hdo.symm) | (exact hdg.symm)))) (by rfl)) ?_
            rintro ⟨i, sub2, m2⟩ ⟨hi2, hsub2, hm24, hcl2, hH2, hr2, hmv2⟩
            dsimp only at hi2 hsub2 hm24 hcl2 hH2 hr2 hmv2 ⊢
            refine Pick.by (fun hc5 => ?_) (fun hc5 => ?_)
            · have hi3 : i < 2 := by simp at hc5; omega
              obtain ⟨x, hx⟩ : ∃ x, [s.2.1, s.2.2.1][i]? = some x := ⟨_, List.getElem?_eq_getElem (show i < [s.2.1, s.2.2.1].length from hi3)⟩
              have hxi : (i = 0 ∧ x = s.2.1) ∨ (i = 1 ∧ x = s.2.2.1) := by
                have : i = 0 ∨ i = 1 := by omega
                rcases this with e | e
                · subst e; simp at hx; exact .inl ⟨rfl, hx.symm⟩
                · subst e; simp at hx; exact .inr ⟨rfl, hx.symm⟩
              refine Idx.by i rfl (by rw [ints_length]; exact hi3) ?_
              refine Look.by _ (ints_get hx) ?_
              refine Call.by _ _ (MayC_at x hGN2) ?_
              refine JoinP.intro (α := Option (Nat × Nat) × List Int) (fun b => (b.1 = none ∨ ∃ L, b.1 = some (0, L) ∧ L ≤ b.2.length) ∧ b.2.length ≤ 4000 ∧ (cut b.1 b.2).length ≤ last + i + 1 ∧ Heap (cut b.1 b.2) ∧ (∀ v ∈ cut b.1 b.2, 0 ≤ v ∧ v < n) ∧ ∀ v : Int, mayB N2 G2 v = true → v ∈ cut b.1 b.2 ∨ (i + 1 ≤ 0 ∧ v = s.2.1) ∨ (i + 1 ≤ 1 ∧ v = s.2.2.1)) (fun b => [(2, .ptr 0 0), (3, .ptr 1 0), (4, .ptr 4 0), (6, .sl 6 none none), (51, .sl 7 none none), (52, .s (.i .i64 2)), (53, .s (.i .i64 i))])
                (fun b => [(0, some (.blk [.nils, .nils, .nils])), (1, some (.blk [.sl 2 none none, .sl 3 none none])), (2, some (.nest true 1 (rowsI N2) [] [])), (3, some (.flat true 1 (bools G2))), (4, some (.blk [.sl 5 none b.1])), (5, some (.flat true 1 (ints b.2))), (6, some (.flat true 4 (stps (st ++ [s])))), (7, some (.flat true 1 (ints [s.2.1, s.2.2.1])))]) 8 ?_ ?_
              rotate_left
              · rintro ⟨sub3, m3⟩ hJ
                refine Pick.T (inI64_of (by omega) (by omega)) ?_
                exact Next.by (i + 1, sub3, m3) ⟨by dsimp only; omega, hJ⟩ (by dsimp only; omega) (by refine Weak.by [(0, some _), (1, some _), (2, some _), (3, some _), (4, some _), (5, some _), (6, some _), (7, some _)] (by ((repeat' first | exact rfl | exact trivial | apply And.intro) <;> (repeat' first | exact rfl | exact trivial | apply And.intro))) (by ((repeat' first | exact rfl | exact trivial | apply And.intro) <;> (repeat' first | exact rfl | exact trivial | apply And.intro))) (by rfl))
              refine Pick.by (fun hc6 => ?_) (fun hc6 => ?_)
              · have hc6 : mayB N2 G2 x = true := hc6
                have hxr2 : 0 ≤ x ∧ x < n := may_range hNl2 hc6
                have hH := hH2
                refine Pick.T (by simp [cut, ints_length]; omega) ?_
                have hraw : cut sub2 (ints m2) = ints (cut sub2 m2) := cut_ints
                have hlen0 : (cut sub2 (ints m2) ++ [[Sc.i .i64 x]]) = ints ((cut sub2 m2) ++ [x]) := by rw [hraw, ints_snoc]
                refine Pick.T (by show inI64 ((((cut sub2 (ints m2) ++ [[Sc.i .i64 x]]).length : Nat) : Int) - 1) = true; rw [hlen0, ints_length]; simp; exact inI64_of (by omega) (by omega)) ?_
                have hlen1 : (((cut sub2 m2).length : Nat) : Int) = (((cut sub2 (ints m2) ++ [[Sc.i .i64 x]]).length : Nat) : Int) - 1 := by rw [hlen0, ints_length]; simp
                refine JoinP.intro (α := List Int) (fun a => Heap a ∧ a.length = (cut sub2 m2).length + 1 ∧ ∀ v, v ∈ a ↔ v ∈ (cut sub2 m2) ∨ v = x) (fun a => [(0, .ptr 4 0), (4, .sl 8 none none), (1000002, .ptr 0 0), (1000003, .ptr 1 0), (1000004, .ptr 4 0), (1000006, .sl 6 none none), (1000051, .sl 7 none none), (1000052, .s (.i .i64 2)), (1000053, .s (.i .i64 i))])
                  (fun a => [(0, some (.blk [.nils, .nils, .nils])), (1, some (.blk [.sl 2 none none, .sl 3 none none])), (2, some (.nest true 1 (rowsI N2) [] [])), (3, some (.flat true 1 (bools G2))), (4, some (.blk [.sl 5 none sub2])), (6, some (.flat true 4 (stps (st ++ [s])))), (7, some (.flat true 1 (ints [s.2.1, s.2.2.1]))), (8, some (.flat true 1 (ints a)))]) 9 ?_ ?_
                rotate_left
                · rintro m ⟨hHm, hml2, hmem⟩
                  exact ⟨(none, m), ⟨.inl rfl, by dsimp only; omega, by show m.length ≤ _; omega, hHm, fun v hv => ((hmem v).1 hv).elim (hr2 v) fun e => by rw [e]; exact hxr2, fun v hv => put_may hxi (hmem v).2 (hmv2 v hv)⟩, by refine Weak.by [(0, some _), (1, some _), (2, some _), (3, some _), (4, some _), (5, some _), (6, some _), (7, some _)] (by ((repeat' first | exact rfl | exact trivial | apply And.intro) <;> (repeat' first | exact rfl | exact trivial | apply And.intro))) (by ((repeat' first | exact rfl | exact trivial | apply And.intro) <;> (repeat' first | exact rfl | exact trivial | apply And.intro))) (by rfl)⟩
                refine LoopP.intro (α := Nat × List Int) (fun a => a.2.Perm ((cut sub2 m2) ++ [x]) ∧ HUp a.2 a.1 ∧ a.1 < a.2.length) (fun a => a.1) (fun a => [(0, .ptr 4 0), (4, .sl 8 none none), (5, .s (.i .i64 a.1)), (1000002, .ptr 0 0), (1000003, .ptr 1 0), (1000004, .ptr 4 0), (1000006, .sl 6 none none), (1000051, .sl 7 none none), (1000052, .s (.i .i64 2)), (1000053, .s (.i .i64 i))])
                  (fun a => [(0, some (.blk [.nils, .nils, .nils])), (1, some (.blk [.sl 2 none none, .sl 3 none none])), (2, some (.nest true 1 (rowsI N2) [] [])), (3, some (.flat true 1 (bools G2))), (4, some (.blk [.sl 5 none sub2])), (6, some (.flat true 4 (stps (st ++ [s])))), (7, some (.flat true 1 (ints [s.2.1, s.2.2.1]))), (8, some (.flat true 1 (ints a.2)))]) 9 ((cut sub2 m2).length, (cut sub2 m2) ++ [x]) ⟨List.Perm.refl _, up_start hH _, by simp⟩ (by refine Weak.by [(0, some _), (1, some _), (2, some _), (3, some _), (4, some _), (5, some _), (6, some _), (7, some _), (8, some _)] (by ((repeat' first | exact rfl | exact trivial | apply And.intro) <;> (repeat' first | exact rfl | exact trivial | apply And.intro)); all_goals ((first | (exact hlen0.symm) | (exact sc_eq hlen1)))) (by ((repeat' first | exact rfl | exact trivial | apply And.intro) <;> (repeat' first | exact rfl | exact trivial | apply And.intro)); all_goals ((first | (exact hlen0.symm) | (exact sc_eq hlen1)))) (by rfl)) ?_
                rintro ⟨p, m⟩ ⟨hperm, hup, hpm⟩
                dsimp only at hperm hup hpm ⊢
                have hml : m.length = (cut sub2 m2).length + 1 := by rw [hperm.length_eq]; simp
                have hpq : 0 < p → ((p : Int) - 1).tdiv 2 = (((p - 1) / 2 : Nat) : Int) := fun h => by rw [show (p : Int) - 1 = ((p - 1 : Nat) : Int) by omega]; rfl
                have hput : Heap m → Heap m ∧ m.length = (cut sub2 m2).length + 1 ∧ ∀ v, v ∈ m ↔ v ∈ (cut sub2 m2) ∨ v = x := fun h => ⟨h, hml, fun v => by rw [hperm.mem_iff]; simp⟩
                refine Pick.by (fun hc1 => ?_) (fun hc1 => ?_)
                · have hp0 : 0 < p := by simp at hc1; omega
                  have hq := hpq hp0
                  have hql : (p - 1) / 2 < m.length := by omega
                  obtain ⟨y, hy⟩ : ∃ y, m[p]? = some y := ⟨_, List.getElem?_eq_getElem hpm⟩
                  obtain ⟨z, hz⟩ : ∃ z, m[(p - 1) / 2]? = some z := ⟨_, List.getElem?_eq_getElem hql⟩
                  refine Idx.by p rfl (by rw [ints_length]; exact hpm) ?_
                  refine Look.by _ (ints_get hy) ?_
                  refine Pick.T (inI64_of (by omega) (by omega)) ?_
                  refine Pick.T (inI64_of (by omega) (by omega)) ?_
                  refine Idx.by ((p - 1) / 2) hq (by rw [ints_length]; exact hql) ?_
                  refine Look.by _ (ints_get hz) ?_
                  refine Seg.by (by kernel_rfl) ?_
                  refine Pick.by (fun hc2 => ?_) (fun hc2 => ?_)
                  · have hlt : y < z := by simpa using hc2
                    have hsw : ints ((m.set p z).set ((p - 1) / 2) y) = ((ints m).set p [.i .i64 z]).set ((p - 1) / 2) [.i .i64 y] := by rw [ints_set, ints_set]
                    refine Pick.T (inI64_of (by omega) (by omega)) ?_
                    refine Pick.T (inI64_of (by omega) (by omega)) ?_
                    refine Pick.T (inI64_of (by omega) (by omega)) ?_
                    refine Pick.T (inI64_of (by omega) (by omega)) ?_
                    refine Idx.by ((p - 1) / 2) hq (by rw [ints_length]; exact hql) ?_
                    refine Look.by _ (ints_get hz) ?_
                    refine Idx.by p rfl (by rw [ints_length]; exact hpm) ?_
                    refine Look.by _ (ints_get hy) ?_
                    refine Idx.by p rfl (by rw [ints_length]; exact hpm) ?_
                    refine Look.by _ (ints_get hy) ?_
                    refine Idx.by ((p - 1) / 2) hq (by rw [List.length_set, ints_length]; exact hql) ?_
                    refine Look.by _ (by rw [List.getElem?_set_ne (by omega)]; exact ints_get hz) ?_
                    refine Seg.by (by kernel_rfl) ?_
                    refine Pick.T (inI64_of (by omega) (by omega)) ?_
                    refine Pick.T (inI64_of (by omega) (by omega)) ?_
                    refine Next.by ((p - 1) / 2, (m.set p z).set ((p - 1) / 2) y) ⟨(swap_perm hy hz (by omega)).trans hperm, up_step hup hp0 hz hy hlt, by rw [List.length_set, List.length_set]; exact hql⟩ (by dsimp only; omega) (by refine Weak.by [(0, some _), (1, some _), (2, some _), (3, some _), (4, some _), (5, some _), (6, some _), (7, some _), (8, some _)] (by ((repeat' first | exact rfl | exact trivial | apply And.intro) <;> (repeat' first | exact rfl | exact trivial | apply And.intro)); all_goals ((first | (exact hsw) | (exact sc_eq hq.symm)))) (by ((repeat' first | exact rfl | exact trivial | apply And.intro) <;> (repeat' first | exact rfl | exact trivial | apply And.intro)); all_goals ((first | (exact hsw) | (exact sc_eq hq.symm)))) (by rfl))
                  · have hHm := hput (up_done hup (.inr fun x' y' hx' hy' => by
                      rw [hz] at hx'; rw [hy] at hy'
                      injection hx' with hx'; injection hy' with hy'
                      have : ¬ y < z := by simpa using hc2
                      omega))
                    exact ⟨m, hHm, by refine Weak.by [(0, some _), (1, some _), (2, some _), (3, some _), (4, some _), (5, some _), (6, some _), (7, some _), (8, some _)] (by ((repeat' first | exact rfl | exact trivial | apply And.intro) <;> (repeat' first | exact rfl | exact trivial | apply And.intro))) (by ((repeat' first | exact rfl | exact trivial | apply And.intro) <;> (repeat' first | exact rfl | exact trivial | apply And.intro))) (by rfl)⟩
                · have hp0 : p = 0 := by simp at hc1; omega
                  refine Seg.by (by kernel_rfl) ?_
                  exact ⟨m, hput (up_done hup (.inl hp0)), by refine Weak.by [(0, some _), (1, some _), (2, some _), (3, some _), (4, some _), (5, some _), (6, some _), (7, some _), (8, some _)] (by ((repeat' first | exact rfl | exact trivial | apply And.intro) <;> (repeat' first | exact rfl | exact trivial | apply And.intro))) (by ((repeat' first | exact rfl | exact trivial | apply And.intro) <;> (repeat' first | exact rfl | exact trivial | apply And.intro))) (by rfl)⟩
              · have hc6 : mayB N2 G2 x = false := hc6
                exact ⟨(sub2, m2), ⟨hsub2, hm24, by dsimp only; omega, hH2, hr2, fun v hv => skip_may hxi (fun e => by rw [e, hc6] at hv; cases hv) (hmv2 v hv)⟩, by refine Weak.by [(0, some _), (1, some _), (2, some _), (3, some _), (4, some _), (5, some _), (6, some _), (7, some _)] (by ((repeat' first | exact rfl | exact trivial | apply And.intro) <;> (repeat' first | exact rfl | exact trivial | apply And.intro))) (by ((repeat' first | exact rfl | exact trivial | apply And.intro) <;> (repeat' first | exact rfl | exact trivial | apply And.intro))) (by rfl)⟩
            · have hi3 : i = 2 := by simp at hc5; omega
              refine Next.by (st ++ [s], N2, G2, sub2, m2) ⟨hW2, hNl2, hrun2, by simp; omega, hsub2, hm24, by simp; omega, hH2, hr2, fun v hv => ?_⟩ (by simp; omega) (by refine Weak.by [(0, some _), (1, some _), (2, some _), (3, some _), (4, some _), (5, some _), (6, some _)] (by ((repeat' first | exact rfl | exact trivial | apply And.intro) <;> (repeat' first | exact rfl | exact trivial | apply And.intro))) (by ((repeat' first | exact rfl | exact trivial | apply And.intro) <;> (repeat' first | exact rfl | exact trivial | apply And.intro))) (by rfl))
              rcases hmv2 v hv with h | ⟨h1, _⟩ | ⟨h1, _⟩
              · exact h
              · omega
              · omega
          refine Pick.by (fun had => ?_) (fun had => ?_)
          · have had : (stepF N out).2.2.2 = true := had
            rw [if_pos had]
            rcases hs2 with ⟨_, _, _, e⟩ | ⟨_, _, _, _, e⟩ | ⟨a, b, hlv, hab, ea, eb, ec⟩
            · rw [had] at e; cases e
            · rw [had] at e; cases e
            have har := hrv.2 a (by rw [hlv]; simp)
            have hbr := hrv.2 b (by rw [hlv]; simp)
            have hra : (rowsI ((rowAt N out).foldl (cutF out) N))[a.toNat]? = some (ints ((rowAt N a).erase out)) := by
              have h1 := rowsI_get (rowAt_mem (N := (rowAt N out).foldl (cutF out) N) har.1 (by rw [cuts_length]; exact har.2)).2
              rw [hN1 a har.1] at h1
              exact h1
            have hrb : (rowsI ((rowAt N out).foldl (cutF out) N))[b.toNat]? = some (ints ((rowAt N b).erase out)) := by
              have h1 := rowsI_get (rowAt_mem (N := (rowAt N out).foldl (cutF out) N) hbr.1 (by rw [cuts_length]; exact hbr.2)).2
              rw [hN1 b hbr.1] at h1
              exact h1
            have hok : ∀ u, ((rowAt N u).erase out).Pairwise (· ≤ ·) ∧ ((rowAt N u).erase out).length ≤ 1000000 := fun u => by
              have h1 := hW.rows u
              have h2 := hW.row_len u
              have h3 := List.length_erase_le (l := rowAt N u) (a := out)
              exact ⟨(erase_sorted h1.1).imp fun h => by omega, by omega⟩
            rw [ea, eb]
            have hj : rowsI (joinF (joinF ((rowAt N out).foldl (cutF out) N) a b) b a) = ((rowsI ((rowAt N out).foldl (cutF out) N)).set a.toNat (ints (insAt ((rowAt N a).erase out) b))).set b.toNat (ints (insAt ((rowAt N b).erase out) a)) := by
              have e1 : rowAt (joinF ((rowAt N out).foldl (cutF out) N) a b) b = (rowAt N b).erase out := by
                unfold joinF
                rw [rowAt_set har.1 (by rw [cuts_length]; exact har.2) hbr.1, if_neg (by omega), hN1 b hbr.1]
              show rowsI ((joinF ((rowAt N out).foldl (cutF out) N) a b).set b.toNat (insAt (rowAt (joinF ((rowAt N out).foldl (cutF out) N) a b) b) a)) = _
              rw [e1, rowsI_set]
              unfold joinF
              rw [rowsI_set, hN1 a har.1]
            have hma : (rowsI ((rowAt N out).foldl (cutF out) N)).set a.toNat (ints (insAt ((rowAt N a).erase out) b)) ≠ [] ∨ True := .inr trivial
            have hl3 : ((rowsI ((rowAt N out).foldl (cutF out) N)).set a.toNat (ints (insAt ((rowAt N a).erase out) b))).length = N.length := by rw [List.length_set, hl1]
            have hrb2 : ((rowsI ((rowAt N out).foldl (cutF out) N)).set a.toNat (ints (insAt ((rowAt N a).erase out) b)))[b.toNat]? = some (ints ((rowAt N b).erase out)) := by rw [List.getElem?_set_ne (by omega)]; exact hrb
            refine Idx.by a.toNat (by omega) (by omega) ?_
            refine Pick.T (by rw [hl1]; simp; omega) ?_
            refine Look.by _ hra ?_
            refine Call.by _ _ (turnC_at (hok a)) ?_
            refine Idx.by a.toNat (by omega) (by omega) ?_
            refine Pick.T (by rw [hl1]; simp; omega) ?_
            refine Pick.T (by simp) ?_
            refine Seg.by (by kernel_rfl) ?_
            refine Idx.by b.toNat (by omega) (by omega) ?_
            refine Pick.T (by rw [hl3]; simp; omega) ?_
            refine Look.by _ hrb2 ?_
            refine Call.by _ _ (turnC_at (hok b)) ?_
            refine Idx.by b.toNat (by omega) (by omega) ?_
            refine Pick.T (by rw [hl3]; simp; omega) ?_
            refine Pick.T (by simp) ?_
            refine Seg.by (by kernel_rfl) ?_
            exact ⟨(), trivial, by refine Weak.by [(0, some _), (1, some _), (2, some _), (3, some _), (4, some _), (5, some _), (6, some _), (7, some _), (8, some _), (9, some _)] (by ((repeat' first | exact rfl | exact trivial | apply And.intro) <;> (repeat' first | exact rfl | exact trivial | apply And.intro)); all_goals ((exact hj))) (by ((repeat' first | exact rfl | exact trivial | apply And.intro) <;> (repeat' first | exact rfl | exact trivial | apply And.intro)); all_goals ((exact hj))) (by rfl)⟩
          · have had : (stepF N out).2.2.2 = false := had
            rw [if_neg (by rw [had]; simp)]
            exact ⟨(), trivial, by refine Weak.by [(0, some _), (1, some _), (2, some _), (3, some _), (4, some _), (5, some _), (6, some _), (7, some _), (8, some _), (9, some _)] (by ((repeat' first | exact rfl | exact trivial | apply And.intro) <;> (repeat' first | exact rfl | exact trivial | apply And.intro))) (by ((repeat' first | exact rfl | exact trivial | apply And.intro) <;> (repeat' first | exact rfl | exact trivial | apply And.intro))) (by rfl)⟩
        refine LoopP.intro (α := Nat × List Int) (fun a => Sift l out last a.2 a.1 ∧ a.1 ≤ last ∧ a.2.length = m.length) (fun a => last + 1 - a.1) (fun a => [(0, .ptr 4 0), (3, .sl 5 none (some (0, last))), (4, .s (.i .i64 out)), (5, .s (.i .i64 last)), (6, .s (.i .i64 a.1)), (1000002, .ptr 0 0), (1000003, .ptr 1 0), (1000004, .ptr 4 0), (1000006, .sl 6 none none)])
          (fun a => [(0, some (.blk [.nils, .nils, .nils])), (1, some (.blk [.sl 2 none none, .sl 3 none none])), (2, some (.nest true 1 (rowsI N) [] [])), (3, some (.flat true 1 (bools G))), (4, some (.blk [.sl 5 none (some (0, L))])), (5, some (.flat true 1 (ints a.2))), (6, some (.flat true 4 (stps st)))]) 7 (0, m.set 0 top) ⟨hsift, by dsimp only; omega, by rw [List.length_set]⟩ (by refine Weak.by [(0, some _), (1, some _), (2, some _), (3, some _), (4, some _), (5, some _), (6, some _)] (by ((repeat' first | exact rfl | exact trivial | apply And.intro) <;> (repeat' first | exact rfl | exact trivial | apply And.intro)); all_goals ((first | (rw [ints_set]; rfl) | (exact sc_eq hlast.symm)))) (by ((repeat' first | exact rfl | exact trivial | apply And.intro) <;> (repeat' first | exact rfl | exact trivial | apply And.intro)); all_goals ((first | (rw [ints_set]; rfl) | (exact sc_eq hlast.symm)))) (by rfl)) ?_
        rintro ⟨i, c⟩ ⟨hsf, hil, hcm⟩
        dsimp only at hsf hil hcm ⊢
        refine Pick.T (inI64_of (by omega) (by omega)) ?_
        refine Pick.T (inI64_of (by omega) (by omega)) ?_
        refine Pick.by (fun hc1 => ?_) (fun hc1 => ?_)
        · have hch : 2 * i + 1 < last := by simp at hc1; omega
          obtain ⟨x, hx⟩ : ∃ x, c[i]? = some x := ⟨_, List.getElem?_eq_getElem (by have := hsf.len; omega)⟩
          obtain ⟨y1, hy1⟩ : ∃ y, c[2 * i + 1]? = some y := ⟨_, List.getElem?_eq_getElem (by have := hsf.len; omega)⟩
          refine Pick.T (inI64_of (by omega) (by omega)) ?_
          refine Pick.T (inI64_of (by omega) (by omega)) ?_
          refine Pick.T (inI64_of (by omega) (by omega)) ?_
          have hk1 : (2 * (i : Int) + 1) = ((2 * i + 1 : Nat) : Int) := by omega
          have hk2 : (2 * (i : Int) + 1 + 1) = ((2 * i + 2 : Nat) : Int) := by omega
          have hjoin : ∀ k, (k = 2 * i + 1 ∨ k = 2 * i + 2) → k < last → (∀ y, c[k]? = some y → ∀ t z, 0 < t → (t - 1) / 2 = i → t < last → c[t]? = some z → y ≤ z) → (k = 2 * i + 1 ∨ k = 2 * i + 2) ∧ k < last ∧ ∀ y, c[k]? = some y → ∀ t z, 0 < t → (t - 1) / 2 = i → t < last → c[t]? = some z → y ≤ z := fun k a b d => ⟨a, b, d⟩
          refine Pick.by (fun hc2 => ?_) (fun hc2 => ?_)
          · have hch2 : 2 * i + 2 < last := by simp at hc2; omega
            obtain ⟨y2, hy2⟩ : ∃ y, c[2 * i + 2]? = some y := ⟨_, List.getElem?_eq_getElem (by have := hsf.len; omega)⟩
            refine Pick.T (inI64_of (by omega) (by omega)) ?_
            refine Idx.by (2 * i + 2) (by omega) (by omega) ?_
            refine Look.by _ (by rw [Nat.zero_add]; exact ints_get hy2) ?_
            refine Idx.by (2 * i + 1) (by omega) (by omega) ?_
            refine Look.by _ (by rw [Nat.zero_add]; exact ints_get hy1) ?_
            refine Seg.by (by kernel_rfl) ?_
            refine JoinP.intro (α := Nat) (fun k => (k = 2 * i + 1 ∨ k = 2 * i + 2) ∧ k < last ∧ ∀ y, c[k]? = some y → ∀ t z, 0 < t → (t - 1) / 2 = i → t < last → c[t]? = some z → y ≤ z) (fun k => [(0, .ptr 4 0), (3, .sl 5 none (some (0, last))), (4, .s (.i .i64 out)), (5, .s (.i .i64 last)), (6, .s (.i .i64 i)), (7, .s (.i .i64 k)), (1000002, .ptr 0 0), (1000003, .ptr 1 0), (1000004, .ptr 4 0), (1000006, .sl 6 none none)])
              (fun k => [(0, some (.blk [.nils, .nils, .nils])), (1, some (.blk [.sl 2 none none, .sl 3 none none])), (2, some (.nest true 1 (rowsI N) [] [])), (3, some (.flat true 1 (bools G))), (4, some (.blk [.sl 5 none (some (0, L))])), (5, some (.flat true 1 (ints c))), (6, some (.flat true 4 (stps st)))]) 7 ?_ ?_
            rotate_left
            · rintro k ⟨hkk, hkl, hM⟩
              obtain ⟨y, hy⟩ : ∃ y, c[k]? = some y := ⟨_, List.getElem?_eq_getElem (by have := hsf.len; omega)⟩
              have hmin := hM y hy
              refine Idx.by i rfl (by omega) ?_
              refine Look.by _ (by rw [Nat.zero_add]; exact ints_get hx) ?_
              refine Idx.by k rfl (by omega) ?_
              refine Look.by _ (by rw [Nat.zero_add]; exact ints_get hy) ?_
              refine Seg.by (by kernel_rfl) ?_
              refine Pick.by (fun hc4 => ?_) (fun hc4 => ?_)
              · have hle : x ≤ y := by simpa using hc4
                refine ⟨c, ⟨hcm, hsf.len, hsf.perm, sift_done hsf fun t u v ht htp hu hv => ?_⟩, by refine Weak.by [(0, some _), (1, some _), (2, some _), (3, some _), (4, some _), (5, some _), (6, some _)] (by ((repeat' first | exact rfl | exact trivial | apply And.intro) <;> (repeat' first | exact rfl | exact trivial | apply And.intro))) (by ((repeat' first | exact rfl | exact trivial | apply And.intro) <;> (repeat' first | exact rfl | exact trivial | apply And.intro))) (by rfl)⟩
                have htk : t < last := by
                  have := (List.getElem?_eq_some_iff.1 hv).1
                  rw [List.length_take] at this
                  omega
                rw [tk_get (by omega), hx] at hu
                injection hu with hu
                have := hmin t v ht htp htk (by rw [← tk_get htk]; exact hv)
                omega
              · have hlt : y < x := by simpa using hc4
                refine Idx.by k rfl (by omega) ?_
                refine Look.by _ (by rw [Nat.zero_add]; exact ints_get hy) ?_
                refine Idx.by i rfl (by omega) ?_
                refine Look.by _ (by rw [Nat.zero_add]; exact ints_get hx) ?_
                refine Idx.by i rfl (by omega) ?_
                refine Look.by _ (by rw [Nat.zero_add]; exact ints_get hx) ?_
                refine Idx.by k rfl (by omega) ?_
                refine Look.by _ (by rw [Nat.zero_add, Nat.zero_add, List.getElem?_set_ne (by omega)]; exact ints_get hy) ?_
                refine Seg.by (by kernel_rfl) ?_
                refine Next.by (k, (c.set i y).set k x) ⟨sift_step hsf (by omega) (by omega) hkl hx hy hlt hmin, by dsimp only; omega, by rw [List.length_set, List.length_set]; exact hcm⟩ (by dsimp only; omega) (by refine Weak.by [(0, some _), (1, some _), (2, some _), (3, some _), (4, some _), (5, some _), (6, some _)] (by ((repeat' first | exact rfl | exact trivial | apply And.intro) <;> (repeat' first | exact rfl | exact trivial | apply And.intro)); all_goals ((rw [Nat.zero_add, Nat.zero_add, ints_set, ints_set]; rfl))) (by ((repeat' first | exact rfl | exact trivial | apply And.intro) <;> (repeat' first | exact rfl | exact trivial | apply And.intro)); all_goals ((rw [Nat.zero_add, Nat.zero_add, ints_set, ints_set]; rfl))) (by rfl))
            refine Pick.by (fun hc3 => ?_) (fun hc3 => ?_)
            · have hlt2 : y2 < y1 := by simpa using hc3
              refine Pick.T (inI64_of (by omega) (by omega)) ?_
              refine ⟨2 * i + 2, hjoin _ (.inr rfl) hch2 fun y hy t z ht htp htl hz => ?_, by refine Weak.by [(0, some _), (1, some _), (2, some _), (3, some _), (4, some _), (5, some _), (6, some _)] (by ((repeat' first | exact rfl | exact trivial | apply And.intro) <;> (repeat' first | exact rfl | exact trivial | apply And.intro)); all_goals ((exact sc_eq hk2.symm))) (by ((repeat' first | exact rfl | exact trivial | apply And.intro) <;> (repeat' first | exact rfl | exact trivial | apply And.intro)); all_goals ((exact sc_eq hk2.symm))) (by rfl)⟩
              have : t = 2 * i + 1 ∨ t = 2 * i + 2 := by omega
              rcases this with rfl | rfl
              · rw [hy2] at hy; rw [hy1] at hz; injection hy with hy; injection hz with hz; omega
              · rw [hy] at hz; injection hz with hz; omega
            · have hlt2 : ¬ y2 < y1 := by simpa using hc3
              refine ⟨2 * i + 1, hjoin _ (.inl rfl) hch fun y hy t z ht htp htl hz => ?_, by refine Weak.by [(0, some _), (1, some _), (2, some _), (3, some _), (4, some _), (5, some _), (6, some _)] (by ((repeat' first | exact rfl | exact trivial | apply And.intro) <;> (repeat' first | exact rfl | exact trivial | apply And.intro)); all_goals ((exact sc_eq hk1.symm))) (by ((repeat' first | exact rfl | exact trivial | apply And.intro) <;> (repeat' first | exact rfl | exact trivial | apply And.intro)); all_goals ((exact sc_eq hk1.symm))) (by rfl)⟩
              have : t = 2 * i + 1 ∨ t = 2 * i + 2 := by omega
              rcases this with rfl | rfl
              · rw [hy] at hz; injection hz with hz; omega
              · rw [hy1] at hy; rw [hy2] at hz; injection hy with hy; injection hz with hz; omega
          · have hch2 : ¬ 2 * i + 2 < last := by simp at hc2; omega
            refine Seg.by (by kernel_rfl) ?_
            refine JoinP.intro (α := Nat) (fun k => (k = 2 * i + 1 ∨ k = 2 * i + 2) ∧ k < last ∧ ∀ y, c[k]? = some y → ∀ t z, 0 < t → (t - 1) / 2 = i → t < last → c[t]? = some z → y ≤ z) (fun k => [(0, .ptr 4 0), (3, .sl 5 none (some (0, last))), (4, .s (.i .i64 out)), (5, .s (.i .i64 last)), (6, .s (.i .i64 i)), (7, .s (.i .i64 k)), (1000002, .ptr 0 0), (1000003, .ptr 1 0), (1000004, .ptr 4 0), (1000006, .sl 6 none none)])
              (fun k => [(0, some (.blk [.nils, .nils, .nils])), (1, some (.blk [.sl 2 none none, .sl 3 none none])), (2, some (.nest true 1 (rowsI N) [] [])), (3, some (.flat true 1 (bools G))), (4, some (.blk [.sl 5 none (some (0, L))])), (5, some (.flat true 1 (ints c))), (6, some (.flat true 4 (stps st)))]) 7 ?_ ?_
            rotate_left
            · rintro k ⟨hkk, hkl, hM⟩
              obtain ⟨y, hy⟩ : ∃ y, c[k]? = some y := ⟨_, List.getElem?_eq_getElem (by have := hsf.len; omega)⟩
              have hmin := hM y hy
              refine Idx.by i rfl (by omega) ?_
              refine Look.by _ (by rw [Nat.zero_add]; exact ints_get hx) ?_
              refine Idx.by k rfl (by omega) ?_
              refine Look.by _ (by rw [Nat.zero_add]; exact ints_get hy) ?_
              refine Seg.by (by kernel_rfl) ?_
              refine Pick.by (fun hc4 => ?_) (fun hc4 => ?_)
              · have hle : x ≤ y := by simpa using hc4
                refine ⟨c, ⟨hcm, hsf.len, hsf.perm, sift_done hsf fun t u v ht htp hu hv => ?_⟩, by refine Weak.by [(0, some _), (1, some _), (2, some _), (3, some _), (4, some _), (5, some _), (6, some _)] (by ((repeat' first | exact rfl | exact trivial | apply And.intro) <;> (repeat' first | exact rfl | exact trivial | apply And.intro))) (by ((repeat' first | exact rfl | exact trivial | apply And.intro) <;> (repeat' first | exact rfl | exact trivial | apply And.intro))) (by rfl)⟩
                have htk : t < last := by
                  have := (List.getElem?_eq_some_iff.1 hv).1
                  rw [List.length_take] at this
                  omega
                rw [tk_get (by omega), hx] at hu
                injection hu with hu
                have := hmin t v ht htp htk (by rw [← tk_get htk]; exact hv)
                omega
              · have hlt : y < x := by simpa using hc4
                refine Idx.by k rfl (by omega) ?_
                refine Look.by _ (by rw [Nat.zero_add]; exact ints_get hy) ?_
                refine Idx.by i rfl (by omega) ?_
                refine Look.by _ (by rw [Nat.zero_add]; exact ints_get hx) ?_
                refine Idx.by i rfl (by omega) ?_
                refine Look.by _ (by rw [Nat.zero_add]; exact ints_get hx) ?_
                refine Idx.by k rfl (by omega) ?_
                refine Look.by _ (by rw [Nat.zero_add, Nat.zero_add, List.getElem?_set_ne (by omega)]; exact ints_get hy) ?_
                refine Seg.by (by kernel_rfl) ?_
                refine Next.by (k, (c.set i y).set k x) ⟨sift_step hsf (by omega) (by omega) hkl hx hy hlt hmin, by dsimp only; omega, by rw [List.length_set, List.length_set]; exact hcm⟩ (by dsimp only; omega) (by refine Weak.by [(0, some _), (1, some _), (2, some _), (3, some _), (4, some _), (5, some _), (6, some _)] (by ((repeat' first | exact rfl | exact trivial | apply And.intro) <;> (repeat' first | exact rfl | exact trivial | apply And.intro)); all_goals ((rw [Nat.zero_add, Nat.zero_add, ints_set, ints_set]; rfl))) (by ((repeat' first | exact rfl | exact trivial | apply And.intro) <;> (repeat' first | exact rfl | exact trivial | apply And.intro)); all_goals ((rw [Nat.zero_add, Nat.zero_add, ints_set, ints_set]; rfl))) (by rfl))
            refine ⟨2 * i + 1, hjoin _ (.inl rfl) hch fun y hy t z ht htp htl hz => ?_, by refine Weak.by [(0, some _), (1, some _), (2, some _), (3, some _), (4, some _), (5, some _), (6, some _)] (by ((repeat' first | exact rfl | exact trivial | apply And.intro) <;> (repeat' first | exact rfl | exact trivial | apply And.intro)); all_goals ((exact sc_eq hk1.symm))) (by ((repeat' first | exact rfl | exact trivial | apply And.intro) <;> (repeat' first | exact rfl | exact trivial | apply And.intro)); all_goals ((exact sc_eq hk1.symm))) (by rfl)⟩
            have : t = 2 * i + 1 := by omega
            rw [this, hy] at hz; injection hz with hz; omega
        · have hch : ¬ 2 * i + 1 < last := by simp at hc1; omega
          refine ⟨c, ⟨hcm, hsf.len, hsf.perm, sift_done hsf fun t u v ht htp hu hv => ?_⟩, by refine Weak.by [(0, some _), (1, some _), (2, some _), (3, some _), (4, some _), (5, some _), (6, some _)] (by ((repeat' first | exact rfl | exact trivial | apply And.intro) <;> (repeat' first | exact rfl | exact trivial | apply And.intro))) (by ((repeat' first | exact rfl | exact trivial | apply And.intro) <;> (repeat' first | exact rfl | exact trivial | apply And.intro))) (by rfl)⟩
          have := (List.getElem?_eq_some_iff.1 hv).1
          rw [List.length_take] at this
          omega
      · have hz : l.length = 0 := by rw [hLl]; simpa using hc
        have hno : ∀ u, mayB N G u ≠ true := fun u hu => by
          have := hm u hu
          rw [List.eq_nil_of_length_eq_zero hz] at this
          simp at this
        rw [runS_end (firstMay_none hno), List.append_nil] at hrun
        rw [hrun]
        have hst4 : st.length ≤ 1000 := by omega
        have hGN := hW.len
        have hmo := hW.most
        have hNL := rowsI_length N
        refine LoopP.intro (α := Nat) (fun j => j ≤ N.length) (fun j => N.length - j) (fun j => [(2, .ptr 2 0), (4, .ptr 1 0), (5, .ptr 3 0), (13, .sl 4 none none), (14, .s (.i .i64 N.length)), (15, .s (.i .i64 j)), (1000002, .ptr 0 0)])
          (fun j => [(0, some (.blk [.nils, .nils, .nils])), (1, some (.blk [.nils, .nils, .nils])), (2, some (.blk [.sl 4 none none, .sl 5 none none])), (3, some (.blk [.sl 6 none none, .sl 7 none none, .sl 8 none none])), (4, some (.nest true 1 (rowsI N) [] [])), (5, some (.flat true 1 (bools G))), (6, some (.flat true 4 (stps st))), (7, some (.flat true 1 (ints (leftK G j)))), (8, some (.flat true 2 (edges (edgesK N G j))))]) 9 0 (by omega) (by refine Weak.by [(0, some _), (1, some _), (2, some _), (3, some _), (4, some _), (5, some _), (6, some _), (7, none), (8, none)] (by ((repeat' first | exact rfl | exact trivial | apply And.intro) <;> (repeat' first | exact rfl | exact trivial | apply And.intro)); all_goals ((first | (rw [hNL]; rfl) | done))) (by ((repeat' first | exact rfl | exact trivial | apply And.intro) <;> (repeat' first | exact rfl | exact trivial | apply And.intro)); all_goals ((first | (rw [hNL]; rfl) | done))) (by rfl)) ?_
        rintro j hj
        have hlk := leftK_len G j
        have hek := edgesK_len hW j
        refine Pick.by (fun hd1 => ?_) (fun hd1 => ?_)
        · have hjl : j < N.length := by simpa using hd1
          have hgj : (bools G)[j]? = some [.b (G.getD j false)] := by
            refine bools_get ?_
            rw [List.getD_eq_getElem?_getD, List.getElem?_eq_getElem (by omega)]; rfl
          have hrj : (rowsI N)[j]? = some (ints (rowAt N j)) := by
            have := (rowAt_mem (N := N) (v := (j : Int)) (by omega) (by omega)).2
            exact rowsI_get this
          have hrl := hW.row_len (j : Int)
          refine Idx.by j rfl (by omega) ?_
          refine Pick.T (by rw [hNL]; simp; omega) ?_
          refine Idx.by j rfl (by rw [bools_length]; omega) ?_
          refine Look.by _ hgj ?_
          refine Pick.by (fun hd2 => ?_) (fun hd2 => ?_)
          · have hd2 : G.getD j false = true := hd2
            refine Pick.T (inI64_of (by omega) (by omega)) ?_
            refine Next.by (j + 1) (by omega) (by omega) (by refine Weak.by [(0, some _), (1, some _), (2, some _), (3, some _), (4, some _), (5, some _), (6, some _), (7, some _), (8, some _)] (by ((repeat' first | exact rfl | exact trivial | apply And.intro) <;> (repeat' first | exact rfl | exact trivial | apply And.intro)); all_goals ((first | (rw [leftK_succ, if_pos hd2, List.append_nil]) | (rw [edgesK_succ, if_pos hd2, List.append_nil])))) (by ((repeat' first | exact rfl | exact trivial | apply And.intro) <;> (repeat' first | exact rfl | exact trivial | apply And.intro)); all_goals ((first | (rw [leftK_succ, if_pos hd2, List.append_nil]) | (rw [edgesK_succ, if_pos hd2, List.append_nil])))) (by rfl))
          have hd2 : G.getD j false = false := hd2
          have hl1 : leftK G (j + 1) = leftK G j ++ [(j : Int)] := by rw [leftK_succ, if_neg (by rw [hd2]; simp)]
          have he1 : edgesK N G (j + 1) = edgesK N G j ++ outE N j := by rw [edgesK_succ, if_neg (by rw [hd2]; simp)]
          refine Pick.T (by simp [cut, ints_length]; omega) ?_
          refine Look.by _ hrj ?_
          refine LoopP.intro (α := Nat) (fun k => k ≤ (rowAt N j).length) (fun k => (rowAt N j).length - k) (fun k => [(2, .ptr 2 0), (4, .ptr 1 0), (5, .ptr 3 0), (6, .s (.i .i64 j)), (13, .sl 4 none none), (14, .s (.i .i64 N.length)), (15, .s (.i .i64 j)), (31, .sl 4 (some (j, 0)) none), (32, .s (.i .i64 (rowAt N j).length)), (33, .s (.i .i64 k)), (1000002, .ptr 0 0)])
            (fun k => [(0, some (.blk [.nils, .nils, .nils])), (1, some (.blk [.nils, .nils, .nils])), (2, some (.blk [.sl 4 none none, .sl 5 none none])), (3, some (.blk [.sl 6 none none, .sl 7 none none, .sl 8 none none])), (4, some (.nest true 1 (rowsI N) [] [])), (5, some (.flat true 1 (bools G))), (6, some (.flat true 4 (stps st))), (7, some (.flat true 1 (ints (leftK G (j + 1))))), (8, some (.flat true 2 (edges (edgesK N G j ++ (((rowAt N j).take k).filter fun x => decide (x > (j : Int))).map fun x => ((j : Int), x)))))]) 9 0 (by omega) (by refine Weak.by [(0, some _), (1, some _), (2, some _), (3, some _), (4, some _), (5, some _), (6, some _), (7, some _), (8, some _)] (by ((repeat' first | exact rfl | exact trivial | apply And.intro) <;> (repeat' first | exact rfl | exact trivial | apply And.intro)); all_goals ((first | (rw [hl1, ints_snoc]; rfl) | (rw [List.take_zero]; simp; done) | (rw [ints_length]; rfl) | (simp; done)))) (by ((repeat' first | exact rfl | exact trivial | apply And.intro) <;> (repeat' first | exact rfl | exact trivial | apply And.intro)); all_goals ((first | (rw [hl1, ints_snoc]; rfl) | (rw [List.take_zero]; simp; done) | (rw [ints_length]; rfl) | (simp; done)))) (by rfl)) ?_
          rintro k hk
          have hpl : ((((rowAt N j).take k).filter fun x => decide (x > (j : Int))).map fun x => ((j : Int), x)).length ≤ 1000 := by
            rw [List.length_map]
            refine Nat.le_trans (List.length_filter_le _ _) ?_
            rw [List.length_take]; omega
          refine Pick.by (fun hd3 => ?_) (fun hd3 => ?_)
          · have hkl : k < (rowAt N j).length := by simpa using hd3
            obtain ⟨x, hx⟩ : ∃ x, (rowAt N j)[k]? = some x := ⟨_, List.getElem?_eq_getElem hkl⟩
            have hxe : (rowAt N j)[k] = x := by rw [List.getElem?_eq_getElem hkl] at hx; injection hx
            refine Look.by _ hrj ?_
            refine Idx.by k rfl (by rw [ints_length]; exact hkl) ?_
            refine Look.by _ hrj ?_
            refine Look.by _ (ints_get hx) ?_
            refine Pick.by (fun hd4 => ?_) (fun hd4 => ?_)
            · have hd4 : x > (j : Int) := by simpa using hd4
              refine Pick.T (by simp [cut, edges_length] at hpl ⊢; omega) ?_
              refine Pick.T (inI64_of (by omega) (by omega)) ?_
              refine Next.by (k + 1) (by omega) (by omega) (by refine Weak.by [(0, some _), (1, some _), (2, some _), (3, some _), (4, some _), (5, some _), (6, some _), (7, some _), (8, some _)] (by ((repeat' first | exact rfl | exact trivial | apply And.intro) <;> (repeat' first | exact rfl | exact trivial | apply And.intro)); all_goals ((first | (rw [List.take_succ_eq_append_getElem hkl, hxe, List.filter_append, List.map_append, List.filter_cons, if_pos (by simpa using hd4), List.filter_nil, ← List.append_assoc]; exact edges_snoc _ _) | (simp; done)))) (by ((repeat' first | exact rfl | exact trivial | apply And.intro) <;> (repeat' first | exact rfl | exact trivial | apply And.intro)); all_goals ((first | (rw [List.take_succ_eq_append_getElem hkl, hxe, List.filter_append, List.map_append, List.filter_cons, if_pos (by simpa using hd4), List.filter_nil, ← List.append_assoc]; exact edges_snoc _ _) | (simp; done)))) (by rfl))
            · have hd4 : ¬ x > (j : Int) := by simpa using hd4
              refine Pick.T (inI64_of (by omega) (by omega)) ?_
              refine Next.by (k + 1) (by omega) (by omega) (by refine Weak.by [(0, some _), (1, some _), (2, some _), (3, some _), (4, some _), (5, some _), (6, some _), (7, some _), (8, some _)] (by ((repeat' first | exact rfl | exact trivial | apply And.intro) <;> (repeat' first | exact rfl | exact trivial | apply And.intro)); all_goals ((first | (rw [List.take_succ_eq_append_getElem hkl, hxe, List.filter_append, List.map_append, List.filter_cons, if_neg (by simpa using hd4), List.filter_nil, List.map_nil, List.append_nil]) | (simp; done)))) (by ((repeat' first | exact rfl | exact trivial | apply And.intro) <;> (repeat' first | exact rfl | exact trivial | apply And.intro)); all_goals ((first | (rw [List.take_succ_eq_append_getElem hkl, hxe, List.filter_append, List.map_append, List.filter_cons, if_neg (by simpa using hd4), List.filter_nil, List.map_nil, List.append_nil]) | (simp; done)))) (by rfl))
          · have hkl : k = (rowAt N j).length := by simp at hd3; omega
            have hfull : edgesK N G (j + 1) = edgesK N G j ++ (((rowAt N j).take k).filter fun x => decide (x > (j : Int))).map fun x => ((j : Int), x) := by rw [he1, hkl, List.take_length]; rfl
            refine Pick.T (inI64_of (by omega) (by omega)) ?_
            refine Next.by (j + 1) (by omega) (by omega) (by refine Weak.by [(0, some _), (1, some _), (2, some _), (3, some _), (4, some _), (5, some _), (6, some _), (7, some _), (8, some _)] (by ((repeat' first | exact rfl | exact trivial | apply And.intro) <;> (repeat' first | exact rfl | exact trivial | apply And.intro)); all_goals ((rw [hfull]))) (by ((repeat' first | exact rfl | exact trivial | apply And.intro) <;> (repeat' first | exact rfl | exact trivial | apply And.intro)); all_goals ((rw [hfull]))) (by rfl))
        have hjl : j = N.length := by simp at hd1; omega
        subst hjl
        have e1 : leftF G = leftK G N.length := by unfold leftF leftK; rw [hGN]
        have e2 : edgesF N G = edgesK N G N.length := by unfold edgesF edgesK; rw [e1]
        refine ⟨rfl, ?_⟩
        (repeat' first | exact rfl | exact trivial | apply And.intro)
        all_goals (first | exact congrArg ints e1 | exact congrArg edges e2)
end Go.Sh

set_option linter.unusedVariables false
set_option linter.unusedSimpArgs false
namespace Go.Sh
open Go.Proofs Go.RowKit
/-! ### slices.Clone of steps -/
attribute [local go_sem] Oper.semAt_some
/-! ### reduce.Narrow -/
open Classical in
noncomputable def narrowB (n : Int) (E : List Ed) : Bool := decide (RightP n E) && decide ((runO n E).2.1 = [])
noncomputable def NarrowC : Con := conP 2 (fun _ : Int × List Ed => True) (fun a => [grV a.1 a.2]) (fun a => .one (.s (.b (narrowB a.1 a.2))))
theorem NarrowC_at (n : Int) (E : List Ed) : NarrowC.F [grV n E] = some (.one (.s (.b (narrowB n E))), []) :=
  conP_at (a := (n, E)) (fun x y _ _ h => by
    obtain ⟨n, E⟩ := x
    obtain ⟨n', E'⟩ := y
    simp at h
    obtain ⟨rfl, rfl⟩ := grV_inj h
    rfl) trivial
theorem Narrow_ok : SoundC Try.prog T 39 NarrowC := by
  refine sound_con (X := { Γ := [(42, RightC), (26, RunC)], T := T, nt := 12 }) cr_none hmix hT (sound_cons RightG_ok (sound_cons Run_ok sound_nil)) Try.func39 (by rfl) (by rfl) (by rfl) (by rfl) 2 ?_
  rintro ⟨n, E⟩ -
  refine ⟨⟨Nat.le_of_ble_eq_true rfl, Nat.le_of_ble_eq_true rfl⟩, ?_⟩
  refine Call.by _ _ (RightC_at n E) ?_
  refine Pick.by (fun h1 => ?_) (fun h1 => ?_)
  · have h1 : RightP n E := by have h1 : decide (RightP n E) = true := h1; simpa using h1
    refine Call.by _ _ (RunC_at n E) ?_
    refine ⟨rfl, ?_⟩
    show Sc.b ((((ints (runO n E).2.1).length : Nat) : Int) == 0) = Sc.b (narrowB n E)
    unfold narrowB
    rw [decide_eq_true h1, Bool.true_and, ints_length]
    congr 1
    rw [Bool.eq_iff_iff]
    simp
  · have h1 : ¬ RightP n E := by have h1 : decide (RightP n E) = false := h1; simpa using h1
    refine ⟨rfl, ?_⟩
    show Sc.b false = Sc.b (narrowB n E)
    unfold narrowB
    rw [decide_eq_false h1, Bool.false_and]
/-! ### reduce.Replay -/
end Go.Sh

namespace Go.Proofs
open Go.RowKit Go.Shelf

attribute [local go_sem] Oper.semAt_some

def Try.upto {α : Type} (f : Nat → α) (k : Nat) : List α := (List.range k).map f
theorem Try.upto_succ {α : Type} (f : Nat → α) (k : Nat) : Try.upto f (k + 1) = Try.upto f k ++ [f k] := by simp [Try.upto, List.range_succ]
theorem Try.upto_length {α : Type} (f : Nat → α) (k : Nat) : (Try.upto f k).length = k := by simp [Try.upto]
theorem Try.upto_all (zs : List Int) : Try.upto (fun j => zs[j]?.getD 0) zs.length = zs := by
  apply List.ext_getElem
  · simp [Try.upto]
  · intro i h1 h2
    simp [Try.upto, h2]
theorem Try.upto_take (zs : List Int) {k : Nat} (hk : k ≤ zs.length) : Try.upto (fun j => zs[j]?.getD 0) k = zs.take k := by
  apply List.ext_getElem
  · simp [Try.upto, hk]
  · intro i h1 h2
    have : i < zs.length := by simp [Try.upto] at h1; omega
    simp [Try.upto, this]

set_option maxRecDepth 100000 in
set_option maxHeartbeats 2000000 in
theorem Try.values1_in (F : Fence) (n : Nat) (h7 : F.fn 119) (hro : F.round = none) (hn : 1 ≤ n) (l Bs n₀ len cap : Nat) (a : Addr) (zs : List Int) (hreach : len * 8 ≤ 140737488351232) (hb : a.block < n₀) (J Jx : List Int → World → Prop)
    (hY : ∀ pre x W, J pre W → pre.length < len → YieldAt F (n - 1) Try.prog l #[.int .i64 x] W fun e W' =>
      (e = .returned (.bool true) ∧ J (pre ++ [x]) W' ∧ Below n₀ W W') ∨ (e = .returned (.bool false) ∧ Jx (pre ++ [x]) W'))
    (W : World) (hBs : W.cell? ⟨Bs, 0, none⟩ = some (.slice (some a) len cap)) (hc : ∀ j, j < len → W.cell? (a.add j) = some (.int .i64 (zs[j]?.getD 0))) (h0 : J [] W) :
    CallsIn F n Try.prog 119 #[.func (.yield l) #[] #[], .pointer (some ⟨Bs, 0, none⟩)] W fun e W' => (∃ v, e = .returned v) ∧
      ((∃ ys, ys = Try.upto (fun j => zs[j]?.getD 0) len ∧ J ys W') ∨ (∃ pre, (∃ k, k ≤ len ∧ pre = Try.upto (fun j => zs[j]?.getD 0) k) ∧ Jx pre W')) := by
  refine callsIn_of_wp Try.func119 rfl h7 ?_ hro
  simp only [Try.ntmps119, List.size_toArray, List.length_cons, List.length_nil, Nat.reduceAdd, Nat.reduceSub, Array.replicate_succ, Array.replicate_zero, List.push_toArray, List.append_toArray, List.nil_append, List.cons_append]
  gi_wp2
  gi_loopw [7] (fun i wr => ∃ k : Nat, k ≤ len ∧ i = .int .i64 k ∧ J (Try.upto (fun j => zs[j]?.getD 0) k) wr ∧ Below n₀ W wr)
    (fun i _ => len - (intOf i).toNat)
  case atStart => exact ⟨0, Nat.zero_le _, rfl, h0, Below.refl _ _⟩
  case round =>
    obtain ⟨k, hk, rfl, hJs, hnx⟩ := hrel
    have hcx : k < len → wr.cell? (a.add k) = some (.int .i64 (zs[k]?.getD 0)) := fun h => (hnx.cell (p := a.add k) (by unfold Addr.add; split <;> exact hb)).trans (hc k h)
    by_cases hlt : k < len
    · obtain ⟨fn, tmps, assign, body, hy, hR⟩ := hY _ (zs[k]?.getD 0) wr hJs (by rw [Try.upto_length]; exact hlt)
      have hcx' := hcx hlt
      gi_wp2
      refine hR.mono ?_
      rintro e W3 (⟨rfl, hJ3, hk3⟩ | ⟨rfl, hJx3⟩)
      · gi_wp2
        go_roundw
        case rel => exact ⟨k + 1, by omega, by simp, by rw [Try.upto_succ]; exact hJ3, hnx.trans hk3⟩
        case measure => simp [intOf]; omega
      · gi_wp2
        refine bodyPost_ret (results_none rfl _ _ _) rfl ?_
        exact ⟨⟨_, rfl⟩, .inr ⟨_, ⟨k + 1, by omega, (Try.upto_succ _ _).symm⟩, hJx3⟩⟩
    · obtain rfl : k = len := by omega
      gi_wp2
      go_end0
      exact ⟨⟨_, rfl⟩, .inl ⟨_, rfl, hJs⟩⟩
set_option maxRecDepth 100000 in
set_option maxHeartbeats 1000000 in
theorem Try.values1_nil_in (F : Fence) (n : Nat) (h7 : F.fn 119) (hro : F.round = none) (l Bs : Nat) (a : Option Addr) (cap : Nat) (J : List Int → World → Prop) (W : World) (hBs : W.cell? ⟨Bs, 0, none⟩ = some (.slice a 0 cap)) (h0 : J [] W) :
    CallsIn F n Try.prog 119 #[.func (.yield l) #[] #[], .pointer (some ⟨Bs, 0, none⟩)] W fun e W' => (∃ v, e = .returned v) ∧ J [] W' := by
  refine callsIn_of_wp Try.func119 rfl h7 ?_ hro
  simp only [Try.ntmps119, List.size_toArray, List.length_cons, List.length_nil, Nat.reduceAdd, Nat.reduceSub, Array.replicate_succ, Array.replicate_zero, List.push_toArray, List.append_toArray, List.nil_append, List.cons_append]
  gi_wp2
  gi_loopw [7] (fun i wr => i = .int .i64 0 ∧ J [] wr) (fun _ _ => 0)
  case atStart => exact ⟨rfl, h0⟩
  case round =>
    obtain ⟨rfl, hJs⟩ := hrel
    gi_wp2
    go_end0
    exact ⟨⟨_, rfl⟩, hJs⟩

set_option maxHeartbeats 1000000 in
theorem Try.values_in (F : Fence) (n : Nat) (h5 : F.fn 92) (hro : F.round = none) (a : Option Addr) (len cap : Nat) (w : World) :
    CallsIn F n Try.prog 92 #[.slice a len cap] w fun e w' => e = .returned (.func (.func 119) #[] #[.pointer (some ⟨w.heap.size, 0, none⟩)]) ∧ w' = w.alloc (.cells #[.slice a len cap] 30) := by
  refine callsIn_of_wp Try.func92 rfl h5 ?_ hro
  simp only [Try.ntmps92, List.size_toArray, List.length_cons, List.length_nil, Nat.reduceAdd, Nat.reduceSub, Array.replicate_succ, Array.replicate_zero, List.push_toArray, List.append_toArray, List.nil_append, List.cons_append]
  gi_wp2
  go_ret
  exact ⟨rfl, rfl⟩
def Try.Ints (n₀ : Nat) (W : World) (sv : Value) (zs : List Int) : Prop :=
  (zs = [] ∧ ∃ a cap, sv = .slice a 0 cap) ∨ ∃ a cap, sv = .slice (some a) zs.length cap ∧ a.block < n₀ ∧ ∀ j, j < zs.length → W.cell? (a.add j) = some (.int .i64 (zs[j]?.getD 0))
theorem Try.add_block (a : Addr) (j : Nat) : (a.add j).block = a.block := by unfold Addr.add; split <;> rfl
theorem Try.Ints.below {n₀ : Nat} {A B : World} (h : Below n₀ A B) {sv : Value} {zs : List Int} : Try.Ints n₀ A sv zs → Try.Ints n₀ B sv zs
  | .inl e => .inl e
  | .inr ⟨a, cap, e, hb, hc⟩ => .inr ⟨a, cap, e, hb, fun j hj => (h.cell (p := a.add j) (by rw [Try.add_block]; exact hb)).trans (hc j hj)⟩
theorem Try.values_stops (F : Fence) (n : Nat) (h7 : F.fn 119) (hro : F.round = none) (hn : 1 ≤ n) (Bs n₀ : Nat) (sv : Value) (zs : List Int) (hreach : zs.length * 8 ≤ 140737488351232) (w : World) (hBs : Bs < w.heap.size) (hn₀ : n₀ ≤ w.heap.size)
    (hc : w.cell? ⟨Bs, 0, none⟩ = some sv) (hI : Try.Ints n₀ w sv zs) :
    SeqStopsK F n Try.prog 119 #[.pointer (some ⟨Bs, 0, none⟩)] (fun x : Int => #[Value.int .i64 x]) (Below n₀) (fun ys => ys = zs) (fun pre => pre <+: zs) zs.length w := fun l J Jx W hW _ _ hY h0 => by
  have hc' := (hW.cell (p := ⟨Bs, 0, none⟩) hBs).trans hc
  rcases hI.below (hW.mono hn₀) with ⟨rfl, a, cap, rfl⟩ | ⟨a, cap, rfl, hb, hcs⟩
  · exact (Try.values1_nil_in F n h7 hro l Bs a cap J W hc' h0).mono fun e W' ⟨he, hj⟩ => ⟨he, .inl ⟨_, rfl, hj⟩⟩
  · refine (Try.values1_in F n h7 hro hn l Bs n₀ zs.length cap a zs hreach hb J Jx hY W hc' hcs h0).mono ?_
    rintro e W' ⟨he, ⟨ys, rfl, hj⟩ | ⟨pre, ⟨k, hk, rfl⟩, hj⟩⟩
    · exact ⟨he, .inl ⟨_, Try.upto_all zs, hj⟩⟩
    · exact ⟨he, .inr ⟨_, by rw [Try.upto_take zs hk]; exact List.take_prefix _ _, hj⟩⟩
end Go.Proofs

set_option linter.unusedVariables false
set_option linter.unusedSimpArgs false
namespace Go.Proofs
open Go.RowKit Go.Shelf

attribute [local go_sem] Oper.semAt_some
/-- the cells of edges -/
def Try.Eds (S : Nat → Prop) (W : World) (sv : Value) (E : List (Int × Int)) : Prop :=
  (E = [] ∧ ∃ a cap, sv = .slice a 0 cap) ∨ ∃ ab ao cap, sv = .slice (some ⟨ab, ao, none⟩) E.length cap ∧ S ab ∧ ∀ j x, E[j]? = some x → W.cell? ⟨ab, ao + j * 2, none⟩ = some (.int .i64 x.1) ∧ W.cell? ⟨ab, ao + j * 2 + 1, none⟩ = some (.int .i64 x.2)
/-- some blocks lie as they lay -/
structure Try.Kept (S : Nat → Prop) (W W' : World) : Prop where
  size : W.heap.size ≤ W'.heap.size
  block : ∀ k, S k → W'.heap[k]? = W.heap[k]?
theorem Try.Kept.refl (S : Nat → Prop) (W : World) : Try.Kept S W W := ⟨Nat.le_refl _, fun _ _ => rfl⟩
theorem Try.Kept.trans {S : Nat → Prop} {A B C : World} (h : Try.Kept S A B) (k : Try.Kept S B C) : Try.Kept S A C := ⟨Nat.le_trans h.size k.size, fun b hb => (k.block b hb).trans (h.block b hb)⟩
theorem Try.Kept.cell {S : Nat → Prop} {W W' : World} (h : Try.Kept S W W') {p : Addr} (hp : S p.block) : W'.cell? p = W.cell? p := World.cell?_of_block (w := W) (h.block p.block hp)
theorem Try.Kept.alloc {S : Nat → Prop} {A W : World} (h : Try.Kept S A W) (hS : ∀ k, S k → k < A.heap.size) (o : Obj) : Try.Kept S A (W.alloc o) := ⟨Nat.le_trans h.size (by simp), fun k hk => (Below.heap_alloc W o k (Nat.lt_of_lt_of_le (hS k hk) h.size)).trans (h.block k hk)⟩
theorem Try.Kept.of {n : Nat} {S : Nat → Prop} {W W' : World} (h : Below n W W') (hS : ∀ k, S k → k < n) : Try.Kept S W W' := ⟨h.size, fun k hk => h.block k (hS k hk)⟩
/-- some blocks, and all blocks of a type, lie as they lay -/
def Try.Kp (S : Nat → Prop) (t : Nat) (W W' : World) : Prop := Try.Kept S W W' ∧ ∀ (k : Nat) (c : Array Value) (fr : Nat × Nat), W.heap[k]? = some (Obj.cells c t fr) → W'.heap[k]? = some (Obj.cells c t fr)
theorem Try.kp_t {S : Nat → Prop} {t : Nat} {A B C : World} (h : Try.Kp S t A B) (k : Try.Kp S t B C) : Try.Kp S t A C := ⟨h.1.trans k.1, fun b c fr hb => k.2 b c fr (h.2 b c fr hb)⟩
theorem Try.kp_b {S : Nat → Prop} {t : Nat} {w : World} (hS : ∀ k, S k → k < w.heap.size) (W : World) (l : Nat) (o o' : Obj) (hl : w.heap.size ≤ l) (h : W.heap[l]? = some o) (hc : o.isCells = false) (hw : o.isWalk = false) : Try.Kp S t W (W.putObj l o') :=
  ⟨⟨(grownBy_putObj' W l o').size, fun k hk => by
    by_cases hlt : k < W.heap.size
    · exact (grownBy_putObj' W l o').block k hlt (fun e2 => by injection e2 with e2; have := hS k hk; omega)
    · have h1 := hS k hk
      have h2 := (Array.getElem?_eq_some_iff.1 h).1
      omega⟩, fun k c fr hk => by
    by_cases e : k = l
    · subst e; rw [h] at hk; injection hk with hk; subst hk; cases hc
    · exact ((grownBy_putObj' W l o').block k (Array.getElem?_eq_some_iff.1 hk).1 (fun e2 => e (by cases e2; rfl))).trans hk⟩
open Go.Sh in
theorem Try.nearL_one {n v xa xb : Int} (h : okE n (xa, xb)) (l : List Ed) : Go.Sh.nearL (l ++ [(xa, xb)]) v = Go.Sh.nearL l v ++ (if xb = v then [xa] else if xa = v then [xb] else []) := by
  unfold Go.Sh.okE at h
  rw [Go.Sh.nearL_snoc]
  unfold Go.Sh.nearX
  dsimp only at h ⊢
  by_cases h2 : xb = v
  · rw [if_pos h2, if_neg (by omega), if_pos h2]; rfl
  · rw [if_neg h2, if_neg h2]
    by_cases h3 : xa = v
    · rw [if_pos h3]; rfl
    · rw [if_neg h3]; rfl
set_option maxRecDepth 100000 in
set_option maxHeartbeats 2000000 in
theorem Try.near1_in (F : Fence) (n : Nat) (h7 : F.fn 86) (hro : F.round = none) (hn : 1 ≤ n) (l Bg Bv cap : Nat) (S : Nat → Prop) (ab ao : Nat) (v m : Int) (E : List (Int × Int)) (hE : ∀ p ∈ E, Go.Sh.okE m p) (hEl : E.length ≤ 4000) (hb : S ab) (hBg0 : S Bg) (hBv0 : S Bv) (J Jx : List Int → World → Prop)
    (hY : ∀ pre x W, J pre W → pre.length < E.length → YieldAt F (n - 1) Try.prog l #[.int .i64 x] W fun e W' =>
      (e = .returned (.bool true) ∧ J (pre ++ [x]) W' ∧ Try.Kp S 59 W W') ∨ (e = .returned (.bool false) ∧ Jx (pre ++ [x]) W'))
    (W : World) (hJ : AbidesFrom W.heap.size J) (hS : ∀ k, S k → k < W.heap.size) (hBg : W.cell? ⟨Bg, 1, none⟩ = some (.slice (some ⟨ab, ao, none⟩) E.length cap)) (hBv : W.cell? ⟨Bv, 0, none⟩ = some (.int .i64 v)) (hc : ∀ j x, E[j]? = some x → W.cell? ⟨ab, ao + j * 2, none⟩ = some (.int .i64 x.1) ∧ W.cell? ⟨ab, ao + j * 2 + 1, none⟩ = some (.int .i64 x.2)) (h0 : J [] W) :
    CallsIn F n Try.prog 86 #[.func (.yield l) #[] #[], .pointer (some ⟨Bg, 0, none⟩), .pointer (some ⟨Bv, 0, none⟩)] W fun e W' => (∃ v, e = .returned v) ∧
      ((∃ k, k ≤ E.length ∧ (k = E.length ∨ ∃ x, E[k]? = some x ∧ x.1 > v) ∧ J (Go.Sh.nearL (E.take k) v) W') ∨ (∃ pre, (∃ k, k ≤ E.length ∧ pre = Go.Sh.nearL (E.take k) v) ∧ Jx pre W')) := by
  refine callsIn_of_wp Try.func86 rfl h7 ?_ hro
  simp only [Try.ntmps86, List.size_toArray, List.length_cons, List.length_nil, Nat.reduceAdd, Nat.reduceSub, Array.replicate_succ, Array.replicate_zero, List.push_toArray, List.append_toArray, List.nil_append, List.cons_append]
  gi_wp2
  gi_loopw [9] (fun i wr => ∃ k : Nat, k ≤ E.length ∧ i = .int .i64 k ∧ J (Go.Sh.nearL (E.take k) v) wr ∧ (Go.Sh.nearL (E.take k) v).length ≤ k ∧ Try.Kept S W wr)
    (fun i _ => E.length - (intOf i).toNat)
  case atStart => exact ⟨0, Nat.zero_le _, rfl, h0, by simp [Go.Sh.nearL], Try.Kept.refl _ _⟩
  case round =>
    obtain ⟨k, hk, rfl, hJs, hnl, hnx⟩ := hrel
    by_cases hlt : k < E.length
    · obtain ⟨x, hx⟩ : ∃ x, E[k]? = some x := ⟨_, List.getElem?_eq_getElem hlt⟩
      have hxm : x ∈ E := List.mem_of_getElem? hx
      have hok := hE x hxm
      have hcx1 : wr.cell? ⟨ab, ao + k * 2, none⟩ = some (.int .i64 x.1) := (hnx.cell (p := ⟨ab, ao + k * 2, none⟩) hb).trans (hc k x hx).1
      have hcx2 : wr.cell? ⟨ab, ao + k * 2 + 1, none⟩ = some (.int .i64 x.2) := (hnx.cell (p := ⟨ab, ao + k * 2 + 1, none⟩) hb).trans (hc k x hx).2
      have hv2 : wr.cell? ⟨Bv, 0, none⟩ = some (.int .i64 v) := (hnx.cell (p := ⟨Bv, 0, none⟩) hBv0).trans hBv
      obtain ⟨xa, xb⟩ := x
      have hab : xa < xb := hok.2.1
      have htk : E.take (k + 1) = E.take k ++ [(xa, xb)] := by
        rw [List.take_succ_eq_append_getElem hlt]
        rw [List.getElem?_eq_getElem hlt] at hx
        injection hx with hx
        rw [hx]
      have hst := Try.nearL_one (v := v) hok (E.take k)
      rw [← htk] at hst
      dsimp only at hcx1 hcx2
      have hv3 : (wr.alloc (.cells #[.int .i64 xa, .int .i64 xb] 59)).cell? ⟨Bv, 0, none⟩ = some (.int .i64 v) := ((hnx.alloc hS _).cell (p := ⟨Bv, 0, none⟩) hBv0).trans hBv
      have hJ3 : J (Go.Sh.nearL (E.take k) v) (wr.alloc (.cells #[.int .i64 xa, .int .i64 xb] 59)) := hJ _ _ _ none hJs (World.grownBy_alloc _ _ _) (fun r e => by cases e)
      have hnx3 : Try.Kept S W (wr.alloc (.cells #[.int .i64 xa, .int .i64 xb] 59)) := hnx.alloc hS _
      by_cases h1 : v < xa
      · gi_wp2
        refine bodyPost_ret (results_none rfl _ _ _) rfl ?_
        exact ⟨⟨_, rfl⟩, .inl ⟨k, by omega, .inr ⟨_, hx, h1⟩, hJ3⟩⟩
      · by_cases h2 : xb = v
        · rw [if_pos h2] at hst
          have h3 : ¬ xa = v := by omega
          obtain ⟨fn, tmps, assign, body, hy, hR⟩ := hY _ xa _ hJ3 (by omega)
          rw [← hst] at hR
          subst h2
          gi_wp2
          refine hR.mono ?_
          rintro e W3 (⟨rfl, hJ4, hk4⟩ | ⟨rfl, hJx4⟩)
          · have hbx : W3.heap[wr.heap.size]? = some (.cells #[.int .i64 xa, .int .i64 xb] 59) := hk4.2 _ _ _ (World.alloc_heap_new wr _)
            have hb0 : W3.cell? ⟨wr.heap.size, 0, none⟩ = some (.int .i64 xa) := by simp [World.cell?, hbx]
            have hv4 : W3.cell? ⟨Bv, 0, none⟩ = some (.int .i64 xb) := (hk4.1.cell (p := ⟨Bv, 0, none⟩) hBv0).trans hv3
            gi_wp2
            refine ⟨fun _ h => (by cases h), ?_⟩
            gi_wp2
            go_roundw
            case rel => exact ⟨k + 1, by omega, by simp, hJ4, by rw [hst, List.length_append]; simp; omega, hnx3.trans hk4.1⟩
            case measure => simp [intOf]; omega
          · gi_wp2
            refine bodyPost_ret (results_none rfl _ _ _) rfl ?_
            exact ⟨⟨_, rfl⟩, .inr ⟨_, ⟨k + 1, by omega, rfl⟩, hJx4⟩⟩
        · rw [if_neg h2] at hst
          by_cases h3 : xa = v
          · rw [if_pos h3] at hst
            obtain ⟨fn, tmps, assign, body, hy, hR⟩ := hY _ xb _ hJ3 (by omega)
            rw [← hst] at hR
            subst h3
            have hbf : (xb == xa) = false := beq_eq_false_iff_ne.2 h2
            gi_wp2
            refine ⟨fun _ h => (by cases h), ?_⟩
            gi_wp2
            refine hR.mono ?_
            rintro e W3 (⟨rfl, hJ4, hk4⟩ | ⟨rfl, hJx4⟩)
            · gi_wp2
              go_roundw
              case rel => exact ⟨k + 1, by omega, by simp, hJ4, by rw [hst, List.length_append]; simp; omega, hnx3.trans hk4.1⟩
              case measure => simp [intOf]; omega
            · gi_wp2
              refine bodyPost_ret (results_none rfl _ _ _) rfl ?_
              exact ⟨⟨_, rfl⟩, .inr ⟨_, ⟨k + 1, by omega, rfl⟩, hJx4⟩⟩
          · rw [if_neg h3, List.append_nil] at hst
            have hbf : (xb == v) = false := beq_eq_false_iff_ne.2 h2
            have hbg : (xa == v) = false := beq_eq_false_iff_ne.2 h3
            gi_wp2
            refine ⟨fun _ h => (by cases h), ?_⟩
            gi_wp2
            go_roundw
            case rel => exact ⟨k + 1, by omega, by simp, by rw [hst]; exact hJ3, by rw [hst]; omega, hnx3⟩
            case measure => simp [intOf]; omega
    · obtain rfl : k = E.length := by omega
      gi_wp2
      go_end0
      exact ⟨⟨_, rfl⟩, .inl ⟨_, Nat.le_refl _, .inl rfl, hJs⟩⟩

open Go.Sh in
/-- from where a vertex is passed on, it has no neighbours more -/
theorem Try.near_rest {n v : Int} {E : List Ed} (hE : ∀ p ∈ E, okE n p) (hs : E.Pairwise ltE) {k : Nat} (hk : k = E.length ∨ ∃ x, E[k]? = some x ∧ x.1 > v) : Go.Sh.nearL (E.take k) v = Go.Sh.nearL E v := by
  rcases hk with rfl | ⟨x, hx, hv⟩
  · rw [List.take_length]
  · have h2 : Go.Sh.nearL (E.drop k) v = [] := by
      unfold Go.Sh.nearL
      rw [List.flatMap_eq_nil_iff]
      intro y hy
      have hy1 : x.1 ≤ y.1 := by
        obtain ⟨j, hj⟩ := List.getElem?_of_mem hy
        rw [List.getElem?_drop] at hj
        rcases Nat.eq_zero_or_pos j with h0 | h0
        · subst h0; rw [Nat.add_zero, hx] at hj; injection hj with hj; rw [hj]; exact Int.le_refl _
        · obtain ⟨h1, e1⟩ := List.getElem?_eq_some_iff.1 hx
          obtain ⟨h3, e3⟩ := List.getElem?_eq_some_iff.1 hj
          have := List.pairwise_iff_getElem.1 hs k (k + j) h1 h3 (by omega)
          rw [e1, e3] at this
          unfold ltE at this; omega
      have := (hE y (List.mem_of_mem_drop hy)).2.1
      unfold nearX
      rw [if_neg (by omega), if_neg (by omega)]; rfl
    conv => rhs; rw [← List.take_append_drop k E]
    unfold Go.Sh.nearL at h2 ⊢
    rw [List.flatMap_append, h2, List.append_nil]
end Go.Proofs

namespace Go.Proofs
open Go.RowKit Go.Shelf

attribute [local go_sem] Oper.semAt_some
theorem Try.info3 : (Try.prog.info? 3).map (fun i => (i.zero, i.size, i.bytes)) = some (some (.int .i64 0), 1, 8) := by kernel_rfl
set_option maxRecDepth 100000 in
set_option maxHeartbeats 2000000 in
theorem Try.appendSeq_in (F : Fence) (n : Nat) (h116 : F.fn 136) (h103 : F.fn 119) (hro : F.round = none) (hn : 3 ≤ n) (Bs n₀ : Nat) (sv : Value) (zs : List Int) (hlen : zs.length ≤ maxLen) (hreach : zs.length * 8 ≤ 140737488351232) (w : World) (hBs : Bs < w.heap.size) (hn₀ : n₀ ≤ w.heap.size)
    (hc : w.cell? ⟨Bs, 0, none⟩ = some sv) (hI : Try.Ints n₀ w sv zs) :
    CallsIn F n Try.prog 136 #[.slice none 0 0, .func (.func 119) #[] #[.pointer (some ⟨Bs, 0, none⟩)]] w fun e W' => ∃ v, e = .returned v ∧ W'.ownsRow w.heap.size 3 1 v zs.length (zs.map (Value.int .i64)) ∧ (v = .slice none 0 0 ↔ zs = []) ∧ Below w.heap.size w W' := by
  have h1 : 1 ≤ n := by omega
  obtain ⟨i0, hi, hz0, hz1, hz2⟩ := info_parts Try.info3
  refine callsIn_of_wp_marks Try.func136 rfl h116 ?_ hro
  simp only [Try.ntmps136, List.size_toArray, List.length_cons, List.length_nil, Nat.reduceAdd, Nat.reduceSub, Array.replicate_succ, Array.replicate_zero, List.push_toArray, List.append_toArray, List.nil_append, List.cons_append]
  gi_wp2
  have bO := Boxed.new w 30 (.slice none 0 0)
  have hB0 : Below w.heap.size w (w.alloc (.cells #[.slice none 0 0] 30)) := ((Below.refl _ w).alloc (Nat.le_refl _) _)
  refine wpIn_rangeFunc_ownG hro h1 (gf := 119) (lb := #[.pointer (some ⟨Bs, 0, none⟩)]) rfl h103 (enters_of Try.func119 (by kernel_rfl) rfl)
    (Try.values_stops F (n - 1) h103 hro (by omega) Bs w.heap.size _ zs hreach _ (by simp; omega) (by simp) ((hB0.cell (p := ⟨Bs, 0, none⟩) hBs).trans hc) (by
      rcases hI.below (hB0.mono hn₀) with h | ⟨a, cap, e, hb, hcs⟩
      · exact .inl h
      · exact .inr ⟨a, cap, e, by omega, hcs⟩)) belowK_t (belowK_b (by simp)) (Below.refl _ _) (fun _ => rfl)
    (fun pre W => (∃ v, Boxed W w.heap.size 30 v ∧ W.ownsRow w.heap.size 3 1 v pre.length (pre.map (Value.int .i64)) ∧ (v = .slice none 0 0 ↔ pre = [])) ∧ Below w.heap.size w W)
    (fun _ _ _ => False)
    (OwnFrom.and (Own.from (holdsRow_own w.heap.size w.heap.size 30 3 1 (fun pre : List Int => pre.length) (fun pre => pre.map (Value.int .i64)) (fun pre v => v = .slice none 0 0 ↔ pre = [])) _) (ownFrom_below (Nat.le_refl _) (by simp)))
    (fun _ _ _ _ _ hs _ _ => hs)
    ⟨⟨_, bO, World.ownsRow_nil _ _ _ _, by simp⟩, hB0⟩
    (fun x => { tmps := #[.slice none 0 0, .func (.func 119) #[] #[.pointer (some ⟨Bs, 0, none⟩)], .pointer (some ⟨w.heap.size, 0, none⟩), undef, .slice none 0 0, .int .i64 x, .func (.func 119) #[] #[.pointer (some ⟨Bs, 0, none⟩)], .int .i64 x, undef, undef, undef, undef, undef], defers := [] }) ?assign ?body ?done ?stop
  case assign =>
    intro l x W K hK
    gi_wp2
    exact hK
  case body =>
    rintro l pre x W ⟨⟨v, hv, hrow, hnil⟩, hB⟩ hlt
    have hc := hv.cell
    gi_wp2_with (gi_at_builtin; refine wpListIn_append_own _ rfl _ _ 30 rfl w.heap.size 3 i0 (.int .i64 0) 1 8 Try.underlying30 hi hz0 hz1 hz2 rfl (by decide) _ _ _ rfl (hrow.alloc _) ⟨W.heap.size, 0, none⟩ 1 1 [.int .i64 x] rfl rfl (cell_one_new _ _ _) (by simp [Value.oneCell']) (by omega) (by omega) (by have := hB.size; simp; omega) ?_; intro v' w1 hown' hgrow _; obtain ⟨g', cap', rfl⟩ := ownsRow_succ hown'; obtain ⟨hv1, hv2, hr2, hk2, hb2⟩ := hv.appended (by decide) hrow hB.size (Nat.le_refl _) hown' hgrow; have hc1 := hv1.cell; have hf1 := hv1.frozen)
    exact ⟨hk2.from _, hb2, ⟨_, hv2, by simpa using hr2, by simp⟩, hB.trans hb2⟩
  case done =>
    rintro D ys W hD rfl ⟨⟨v, hv, hrow, hnil⟩, hB⟩ hK
    have hc := hv.cell
    gi_wp2
    refine ⟨by simp, .inl ⟨_, _, rfl, run_takeDeferred hK, ?_⟩⟩
    exact ⟨_, results_tmp rfl _ _ _, v, rfl, ownsRow_putObj hrow _ hK rfl, hnil, hB.trans (belowK_b (w := w) (Nat.le_refl _) W D _ _ (by simp at hD; omega) hK rfl rfl)⟩
  case stop =>
    rintro D c pre W _ _ h _
    exact h.elim
end Go.Proofs

set_option linter.unusedVariables false
set_option linter.unusedSimpArgs false
namespace Go.Proofs
open Go.RowKit Go.Shelf Go.Sh

attribute [local go_sem] Oper.semAt_some
/-- a graph's value, taken apart -/
theorem Try.gr_of {w : World} {n : Int} {E : List Ed} {u : Value} (h : V1Ok w noLab 0 (grV n E) u) : ∃ A c, u = .agg #[.int .i64 n, .slice A E.length c] ∧ FlatOk w noLab none A c 2 (edges E) := by
  obtain ⟨cs, rfl, hc⟩ := h
  cases hl : cs.toList with
  | nil => rw [hl] at hc; exact hc.elim
  | cons a r =>
    rw [hl] at hc
    cases r with
    | nil => exact hc.2.elim
    | cons b r =>
      cases r with
      | cons _ _ => exact hc.2.2.elim
      | nil =>
        obtain ⟨⟨_, h1⟩, ⟨x, h2, h3⟩, _⟩ := hc
        have h1 : a = .int .i64 n := h1
        rw [edges_length] at h2
        refine ⟨x.A, x.c, ?_, h3⟩
        have : cs = #[a, b] := by cases cs; simp_all
        rw [this, h1, h2]
theorem Try.gr_ok {w : World} {n : Int} {E : List Ed} {A : Option Addr} {c : Nat} (h : FlatOk w noLab none A c 2 (edges E)) : V1Ok w noLab 0 (grV n E) (.agg #[.int .i64 n, .slice A E.length c]) :=
  ⟨_, rfl, ⟨⟨none, 0, fun _ => none, fun _ => 0⟩, rfl⟩, ⟨⟨A, c, fun _ => none, fun _ => 0⟩, by show Value.slice A E.length c = .slice A (edges E).length c; rw [edges_length], h⟩, trivial⟩
theorem Try.flat_below {w w' : World} {A : Option Addr} {c sz : Nat} {rows : Flat} (h : FlatOk w noLab none A c sz rows) (hb : ∀ b : Nat, b < w.heap.size → w'.heap[b]? = w.heap[b]?) : FlatOk w' noLab none A c sz rows :=
  h.mono (by simp) (fun b hlt _ => ⟨rfl, hb b hlt⟩)
theorem Try.eds_of {w : World} {E : List Ed} {A : Option Addr} {c : Nat} (h : FlatOk w noLab none A c 2 (edges E)) : Try.Eds (· < w.heap.size) w (.slice A E.length c) E := by
  cases E with
  | nil => exact .inl ⟨rfl, A, c, rfl⟩
  | cons x E =>
    obtain ⟨a, rfl, _, h0⟩ := h.cell 0 [.i .i64 x.1, .i .i64 x.2] 0 (.i .i64 x.1) rfl rfl
    have h0 : w.cell? a = some (.int .i64 x.1) := h0
    obtain ⟨ab, ao, sp⟩ := a
    have hsp : sp = none := by
      cases sp with
      | none => rfl
      | some s =>
        simp only [World.cell?] at h0
        split at h0 <;> simp at h0
    subst hsp
    refine .inr ⟨ab, ao, c, rfl, ?_, fun j y hj => ?_⟩
    · simp only [World.cell?] at h0
      by_cases hp : ab < w.heap.size
      · exact hp
      · rw [Array.getElem?_eq_none (by omega)] at h0
        simp at h0
    · have hr := edges_get hj
      obtain ⟨b1, e1, _, h1⟩ := h.cell j _ 0 (.i .i64 y.1) hr rfl
      obtain ⟨b2, e2, _, h2⟩ := h.cell j _ 1 (.i .i64 y.2) hr rfl
      injection e1 with e1
      injection e2 with e2
      subst e1
      subst e2
      rw [Addr.add_plain] at h1 h2
      exact ⟨h1, by rw [Nat.add_assoc]; exact h2⟩
theorem Try.right_in (m : Nat) (w : World) (n : Int) (E : List Ed) (A : Option Addr) (c : Nat) (h : FlatOk w noLab none A c 2 (edges E)) :
    CallsIn Fence.wide m Try.prog 42 #[.agg #[.int .i64 n, .slice A E.length c]] w fun e w' => e = .returned (.bool (decide (RightP n E))) ∧ Below w.heap.size w w' := by
  refine callsIn_wide.2 ((RightG_p [grV n E] _ _ (RightC_at n E) w #[_] ⟨Try.gr_ok h, trivial⟩).mono ?_)
  rintro e w' ⟨u, lab, rfl, hf, _, hu⟩
  obtain ⟨x, hu⟩ := hu
  have hu : u = .bool (decide (RightP n E)) := hu
  exact ⟨by rw [hu], hf.os, hf.tape.1, hf.output, hf.size, fun b hb => hf.block b hb (fun h => h)⟩
/-- what the maker of the walk lays -/
def Try.nearW (w : World) (n v : Int) (sv : Value) : World := (w.alloc (.cells #[.int .i64 n, sv] 28)).alloc (.cells #[.int .i64 v] 3)
set_option maxHeartbeats 1000000 in
theorem Try.near_in (F : Fence) (m : Nat) (h5 : F.fn 58) (hro : F.round = none) (n v : Int) (A : Option Addr) (len c : Nat) (w : World) :
    CallsIn F m Try.prog 58 #[.agg #[.int .i64 n, .slice A len c], .int .i64 v] w fun e w' => e = .returned (.func (.func 86) #[] #[.pointer (some ⟨w.heap.size, 0, none⟩), .pointer (some ⟨w.heap.size + 1, 0, none⟩)]) ∧ w' = Try.nearW w n v (.slice A len c) := by
  refine callsIn_of_wp Try.func58 rfl h5 ?_ hro
  simp only [Try.ntmps58, List.size_toArray, List.length_cons, List.length_nil, Nat.reduceAdd, Nat.reduceSub, Array.replicate_succ, Array.replicate_zero, List.push_toArray, List.append_toArray, List.nil_append, List.cons_append]
  gi_wp2
  go_ret
  refine ⟨?_, rfl⟩
  simp
set_option maxRecDepth 100000 in
set_option maxHeartbeats 1000000 in
theorem Try.near1_nil_in (F : Fence) (m : Nat) (h7 : F.fn 86) (hro : F.round = none) (l Bg Bv : Nat) (a : Option Addr) (cap : Nat) (J : List Int → World → Prop) (W : World) (hBg : W.cell? ⟨Bg, 1, none⟩ = some (.slice a 0 cap)) (h0 : J [] W) :
    CallsIn F m Try.prog 86 #[.func (.yield l) #[] #[], .pointer (some ⟨Bg, 0, none⟩), .pointer (some ⟨Bv, 0, none⟩)] W fun e W' => (∃ v, e = .returned v) ∧ J [] W' := by
  refine callsIn_of_wp Try.func86 rfl h7 ?_ hro
  simp only [Try.ntmps86, List.size_toArray, List.length_cons, List.length_nil, Nat.reduceAdd, Nat.reduceSub, Array.replicate_succ, Array.replicate_zero, List.push_toArray, List.append_toArray, List.nil_append, List.cons_append]
  gi_wp2
  gi_loopw [9] (fun i wr => i = .int .i64 0 ∧ J [] wr) (fun _ _ => 0)
  case atStart => exact ⟨rfl, h0⟩
  case round =>
    obtain ⟨rfl, hJs⟩ := hrel
    gi_wp2
    go_end0
    exact ⟨⟨_, rfl⟩, hJs⟩
theorem Try.Eds.kept {S S' : Nat → Prop} {A B : World} (h : Try.Kept S A B) (hS : ∀ k, S' k → S k) {sv : Value} {E : List Ed} : Try.Eds S' A sv E → Try.Eds S B sv E
  | .inl e => .inl e
  | .inr ⟨ab, ao, cap, e, hb, hc⟩ => .inr ⟨ab, ao, cap, e, hS _ hb, fun j x hj => ⟨(h.cell (p := ⟨ab, ao + j * 2, none⟩) (hS _ hb)).trans (hc j x hj).1, (h.cell (p := ⟨ab, ao + j * 2 + 1, none⟩) (hS _ hb)).trans (hc j x hj).2⟩⟩
theorem Try.near_stops (F : Fence) (m : Nat) (h7 : F.fn 86) (hro : F.round = none) (hm : 1 ≤ m) (Bg Bv : Nat) (S : Nat → Prop) (n v : Int) (sv : Value) (E : List Ed) (hR : RightP n E) (w : World) (hBg0 : S Bg) (hBv0 : S Bv) (hS : ∀ k, S k → k < w.heap.size)
    (hBg : w.cell? ⟨Bg, 1, none⟩ = some sv) (hBv : w.cell? ⟨Bv, 0, none⟩ = some (.int .i64 v)) (hI : Try.Eds S w sv E) :
    SeqStopsK F m Try.prog 86 #[.pointer (some ⟨Bg, 0, none⟩), .pointer (some ⟨Bv, 0, none⟩)] (fun x : Int => #[Value.int .i64 x]) (Try.Kp S 59) (fun ys => ys = Go.Sh.nearL E v) (fun pre => pre <+: Go.Sh.nearL E v) E.length w := fun l J Jx W hW hJ _ hY h0 => by
  have hk := Try.Kept.of hW hS
  have hBg' := (hk.cell (p := ⟨Bg, 1, none⟩) hBg0).trans hBg
  have hBv' := (hk.cell (p := ⟨Bv, 0, none⟩) hBv0).trans hBv
  rcases hI.kept hk (fun k h => h) with ⟨rfl, a, cap, rfl⟩ | ⟨ab, ao, cap, rfl, hb, hcs⟩
  · exact (Try.near1_nil_in F m h7 hro l Bg Bv a cap J W hBg' h0).mono fun e W' ⟨he, hj⟩ => ⟨he, .inl ⟨_, rfl, hj⟩⟩
  · refine (Try.near1_in F m h7 hro hm l Bg Bv cap S ab ao v n E hR.2.2.2.1 hR.2.2.1 hb hBg0 hBv0 J Jx hY W hJ (fun k h => Nat.lt_of_lt_of_le (hS k h) hW.size) hBg' hBv' hcs h0).mono ?_
    rintro e W' ⟨he, ⟨k, hk, hk2, hj⟩ | ⟨pre, ⟨k, hk, rfl⟩, hj⟩⟩
    · refine ⟨he, .inl ⟨_, rfl, ?_⟩⟩
      rw [← Try.near_rest hR.2.2.2.1 hR.2.2.2.2 hk2]; exact hj
    · refine ⟨he, .inr ⟨_, ?_, hj⟩⟩
      exact ⟨Go.Sh.nearL (E.drop k) v, by unfold Go.Sh.nearL; rw [← List.flatMap_append, List.take_append_drop]⟩
/-- what is appended to a box's row keeps the other blocks below the row's -/
theorem Try.kp_append {W w1 : World} {n₀ B T : Nat} {S : Nat → Prop} {t e : TypeId} {size : Nat} {v v' : Value} {k : Nat} {xs : List Value} {tmp : Obj} (hv : Boxed W B t v) (ht : t ≠ T) (he : e ≠ T) (hrow : W.ownsRow n₀ e size v k xs) (hgrow : (W.alloc tmp).grownBy w1 v.ownBlock) (hS : ∀ k, S k → k < n₀ ∧ k ≠ B ∧ k < W.heap.size) : Try.Kp S T W (w1.setCell ⟨B, 0, none⟩ v') := by
  have hsz : W.heap.size ≤ (w1.setCell ⟨B, 0, none⟩ v').heap.size := by
    have h1 := hgrow.size
    have h2 : (w1.setCell ⟨B, 0, none⟩ v').heap.size = w1.heap.size := by simp [World.setCell]
    rw [h2]; simp at h1; omega
  refine ⟨⟨hsz, fun b hb => ?_⟩, fun b c fr hk => ?_⟩
  · obtain ⟨h1, h2, h3⟩ := hS b hb
    rw [Below.heap_setCell _ _ _ _ h2]
    refine (hgrow.block b (by simp; omega) ?_).trans (Below.heap_alloc _ _ _ h3)
    rcases hrow.2 with ⟨rfl, _⟩ | ⟨g, cap, cur, rfl, hg, hgb, _⟩
    · simp [Value.ownBlock]
    · intro h
      obtain rfl : b = g := by simpa [Value.ownBlock] using h
      omega
  · have hlt := (Array.getElem?_eq_some_iff.1 hk).1
    have h1 : b ≠ B := fun h => by
      subst h
      have hv : W.heap[b]? = some (.cells #[v] t (0, 0)) := hv
      rw [hv] at hk
      injection hk with hk; injection hk with _ hk; exact ht hk
    rw [Below.heap_setCell _ _ _ _ h1]
    refine (hgrow.block b (by simp; omega) ?_).trans ((Below.heap_alloc _ _ _ hlt).trans hk)
    rcases hrow.2 with ⟨rfl, _⟩ | ⟨g, cap, cur, rfl, _, hgb, _⟩
    · simp [Value.ownBlock]
    · intro h
      obtain rfl : b = g := by simpa [Value.ownBlock] using h
      rw [hgb] at hk
      injection hk with hk; injection hk with _ hk; exact he hk
end Go.Proofs

set_option linter.unusedVariables false
set_option linter.unusedSimpArgs false
namespace Go.Proofs
open Go.RowKit Go.Shelf Go.Sh

attribute [local go_sem] Oper.semAt_some
theorem Try.ownsRow_base {W : World} {b b' : Nat} {e : TypeId} {size : Nat} {v : Value} {k : Nat} {xs : List Value} (h : W.ownsRow b e size v k xs) (hb : b' ≤ b) : W.ownsRow b' e size v k xs :=
  ⟨h.1, h.2.imp id fun ⟨g, cap, cur, h1, h2, h3⟩ => ⟨g, cap, cur, h1, Nat.le_trans hb h2, h3⟩⟩
theorem Try.append_step {W w1 : World} {n0 n4 B : Nat} {v v' : Value} {k m : Nat} {xs ys : List Value} {tmp : Obj} (hv : Boxed W B 30 v) (hrow : W.ownsRow n4 3 1 v k xs) (h0 : n0 ≤ n4) (h4 : n4 ≤ W.heap.size) (hB : n0 ≤ B) (hown' : w1.ownsRow n4 3 1 v' m ys) (hgrow : (W.alloc tmp).grownBy w1 v.ownBlock) :
    Boxed w1 B 30 v ∧ Boxed (w1.setCell ⟨B, 0, none⟩ v') B 30 v' ∧ (w1.setCell ⟨B, 0, none⟩ v').ownsRow n4 3 1 v' m ys ∧ KeepsOthers W (w1.setCell ⟨B, 0, none⟩ v') ∧ Below n0 W (w1.setCell ⟨B, 0, none⟩ v') ∧ Try.Kp (fun k => k < n4 ∧ k ≠ B) 59 W (w1.setCell ⟨B, 0, none⟩ v') := by
  obtain ⟨hv1, hv2, hr2, hk2, hb2⟩ := hv.appended (by decide) (Try.ownsRow_base hrow h0) (Nat.le_trans h0 h4) hB (Try.ownsRow_base hown' h0) hgrow
  exact ⟨hv1, hv2, hown'.kept (grownBy_setCell' w1 B v') (.inr (hv1.not_row (by decide) hown').symm), hk2, hb2, Try.kp_append hv (by decide) (by decide) hrow hgrow (fun k h => ⟨h.1, h.2, Nat.lt_of_lt_of_le h.1 h4⟩)⟩
/-- the world as the walk through the neighbours begins -/
structure Try.NearAt (w W3 W4 : World) (n v : Int) (A : Option Addr) (c : Nat) (E : List Ed) : Prop where
  size : W4.heap.size = W3.heap.size + 2
  below : Below W3.heap.size W3 W4
  cg : W4.cell? ⟨W3.heap.size, 1, none⟩ = some (.slice A E.length c)
  cv : W4.cell? ⟨W3.heap.size + 1, 0, none⟩ = some (.int .i64 v)
theorem Try.near_at (w W3 : World) (n v : Int) (A : Option Addr) (c : Nat) (E : List Ed) : Try.NearAt w W3 (Try.nearW W3 n v (.slice A E.length c)) n v A c E := by
  have s4 : (Try.nearW W3 n v (.slice A E.length c)).heap.size = W3.heap.size + 2 := by simp [Try.nearW]
  have hb : Below W3.heap.size W3 (Try.nearW W3 n v (.slice A E.length c)) := ((Below.refl _ W3).alloc (Nat.le_refl _) _).alloc (by simp) _
  have h1 : (Try.nearW W3 n v (.slice A E.length c)).heap[W3.heap.size]? = some (.cells #[.int .i64 n, .slice A E.length c] 28) := by
    unfold Try.nearW
    rw [Below.heap_alloc _ _ _ (by simp)]; exact World.alloc_heap_new _ _
  have h2 : (Try.nearW W3 n v (.slice A E.length c)).heap[W3.heap.size + 1]? = some (.cells #[.int .i64 v] 3) := by
    have := World.alloc_heap_new (W3.alloc (.cells #[.int .i64 n, .slice A E.length c] 28)) (.cells #[.int .i64 v] 3)
    rwa [World.size_alloc] at this
  exact ⟨s4, hb, by simp [World.cell?, h1], by simp [World.cell?, h2]⟩
set_option maxRecDepth 100000 in
set_option maxHeartbeats 2000000 in
theorem Try.Near_in (n v : Int) (E : List Ed) (A : Option Addr) (c : Nat) (w : World) (hE : E.length ≤ 1000000) (h : FlatOk w noLab none A c 2 (edges E)) (L : List Int) (hL : L = if RightP n E then Go.Sh.nearL E v else []) :
    CallsIn Fence.wide 6 Try.prog 68 #[.agg #[.int .i64 n, .slice A E.length c], .int .i64 v] w fun e W' => ∃ x, e = .returned x ∧ W'.ownsRow w.heap.size 3 1 x L.length (L.map (Value.int .i64)) ∧ Below w.heap.size w W' := by
  obtain ⟨i0, hi, hz0, hz1, hz2⟩ := info_parts Try.info3
  obtain ⟨w1, hw1⟩ : ∃ w1, w.alloc (.cells #[.int .i64 n, .slice A E.length c] 28) = w1 := ⟨_, rfl⟩
  obtain ⟨w2, hw2⟩ : ∃ w2, w1.alloc (.cells #[.slice none 0 0] 30) = w2 := ⟨_, rfl⟩
  have s1 : w1.heap.size = w.heap.size + 1 := by rw [← hw1]; simp
  have s2 : w2.heap.size = w.heap.size + 2 := by rw [← hw2]; simp [s1]
  have b1 : Below w.heap.size w w1 := by rw [← hw1]; exact (Below.refl _ w).alloc (Nat.le_refl _) _
  have b2 : Below w.heap.size w w2 := by rw [← hw2]; exact b1.alloc (by omega) _
  have hg2 : w2.heap[w.heap.size]? = some (.cells #[.int .i64 n, .slice A E.length c] 28) := by
    rw [← hw2, Below.heap_alloc _ _ _ (by omega), ← hw1]; exact World.alloc_heap_new _ _
  have bO : Boxed w2 (w.heap.size + 1) 30 (.slice none 0 0) := by rw [← hw2, ← s1]; exact Boxed.new _ _ _
  have c0 : w2.cell? ⟨w.heap.size, 0, none⟩ = some (.int .i64 n) := by simp [World.cell?, hg2]
  have c1 : w2.cell? ⟨w.heap.size, 1, none⟩ = some (.slice A E.length c) := by simp [World.cell?, hg2]
  refine callsIn_of_wp_marks Try.func68 rfl trivial ?_ rfl
  simp only [Try.ntmps68, List.size_toArray, List.length_cons, List.length_nil, Nat.reduceAdd, Nat.reduceSub, Array.replicate_succ, Array.replicate_zero, List.push_toArray, List.append_toArray, List.nil_append, List.cons_append]
  have f2 := Try.flat_below h (fun b hb => b2.block b hb)
  subst hw1
  subst hw2
  by_cases hR : RightP n E
  · rw [if_pos hR] at hL
    gi_wp2_with (first
      | (refine ⟨trivial, ?_⟩; gi_at_call 42; refine (Try.right_in 5 _ n E A c f2).mono ?_; rintro e W3 ⟨rfl, hb3⟩; have c0' := (hb3.cell (p := ⟨w.heap.size, 0, none⟩) (by show w.heap.size < _; rw [s2]; omega)).trans c0; have c1' := (hb3.cell (p := ⟨w.heap.size, 1, none⟩) (by show w.heap.size < _; rw [s2]; omega)).trans c1; have hd : decide (RightP n E) = true := decide_eq_true hR)
      | (refine ⟨trivial, ?_⟩; gi_at_call 58; refine (Try.near_in Fence.wide 5 trivial rfl n v A E.length c _).mono ?_; rintro e W4 ⟨rfl, rfl⟩))
    have hA4 := Try.near_at w W3 n v A c E
    have s3 : w.heap.size + 2 ≤ W3.heap.size := by have := hb3.size; rw [s2] at this; exact this
    have bO3 : Boxed W3 (w.heap.size + 1) 30 (.slice none 0 0) := (hb3.block _ (by rw [s2]; omega)).trans bO
    have b3 : Below w.heap.size w W3 := b2.trans (hb3.mono (by rw [s2]; omega))
    have hE3 := (Try.eds_of h).kept (Try.Kept.of (S := (· < w.heap.size)) b3 (fun k h => h)) (fun k h => h)
    generalize Try.nearW W3 n v (.slice A E.length c) = W4 at hA4 ⊢
    obtain ⟨s4, hb4, cg, cv⟩ := hA4
    have bO4 : Boxed W4 (w.heap.size + 1) 30 (.slice none 0 0) := (hb4.block _ (by omega)).trans bO3
    have b4 : Below w.heap.size w W4 := b3.trans (hb4.mono (by omega))
    have hE4 : Try.Eds (fun k => k < W4.heap.size ∧ k ≠ w.heap.size + 1) W4 (.slice A E.length c) E := by
      rcases hE3.kept (Try.Kept.of (S := (· < w.heap.size)) (hb4.mono (show w.heap.size ≤ _ by omega)) (fun k h => h)) (fun k h => h) with h0 | ⟨ab, ao, cap, e, hb, hc⟩
      · exact .inl h0
      · exact .inr ⟨ab, ao, cap, e, ⟨by omega, by omega⟩, hc⟩
    have hml : E.length ≤ 4000 := hR.2.2.1
    refine wpIn_rangeFunc_ownG rfl (by omega) (gf := 86) (lb := #[.pointer (some ⟨W3.heap.size, 0, none⟩), .pointer (some ⟨W3.heap.size + 1, 0, none⟩)]) rfl trivial (enters_of Try.func86 (by kernel_rfl) rfl)
      (Try.near_stops Fence.wide 5 trivial rfl (by omega) W3.heap.size (W3.heap.size + 1) (fun k => k < W4.heap.size ∧ k ≠ w.heap.size + 1) n v _ E hR W4 ⟨by omega, by omega⟩ ⟨by omega, by omega⟩ (fun k h => h.1) cg cv hE4) Try.kp_t (Try.kp_b (fun k h => h.1)) (Below.refl _ _) (fun _ => rfl)
      (fun pre W => (∃ x, Boxed W (w.heap.size + 1) 30 x ∧ W.ownsRow W4.heap.size 3 1 x pre.length (pre.map (Value.int .i64)) ∧ (x = .slice none 0 0 ↔ pre = [])) ∧ Below w.heap.size W4 W)
      (fun _ _ _ => False)
      (OwnFrom.and (Own.from (holdsRow_own W4.heap.size (w.heap.size + 1) 30 3 1 (fun pre : List Int => pre.length) (fun pre => pre.map (Value.int .i64)) (fun pre v => v = .slice none 0 0 ↔ pre = [])) _) (ownFrom_below (by omega) (by omega)))
      (fun _ _ _ _ _ hs _ _ => hs)
      ⟨⟨_, bO4, World.ownsRow_nil _ _ _ _, by simp⟩, Below.refl _ _⟩
      (fun x => { tmps := #[.agg #[.int .i64 n, .slice A E.length c], .int .i64 v, .pointer (some ⟨w.heap.size, 0, none⟩), undef, .slice none 0 0, .pointer (some ⟨w.heap.size + 1, 0, none⟩), .int .i64 x, .agg #[.int .i64 n, .slice A E.length c], .bool true, .bool false, .agg #[.int .i64 n, .slice A E.length c], .int .i64 v, .func (.func 86) #[] #[.pointer (some ⟨W3.heap.size, 0, none⟩), .pointer (some ⟨W3.heap.size + 1, 0, none⟩)], .int .i64 x, undef, undef, undef, undef, undef], defers := [] }) ?assign ?body ?done ?stop
    case assign =>
      intro l x W K hK
      gi_wp2
      exact hK
    case body =>
      rintro l pre x W ⟨⟨y, hv, hrow, hnil⟩, hB⟩ hlt
      have hc := hv.cell
      have hmx : pre.length + 1 ≤ maxLen := by unfold maxLen; omega
      have hB3 : W4.heap.size ≤ W.heap.size := hB.size
      have hw4 : w.heap.size ≤ W4.heap.size := by omega
      have hwB : w.heap.size ≤ w.heap.size + 1 := by omega
      have hm8 : (pre.length + 1) * 8 ≤ 140737488355328 := by omega
      gi_wp2_with (gi_at_builtin; refine wpListIn_append_own _ rfl _ _ 30 rfl W4.heap.size 3 i0 (.int .i64 0) 1 8 Try.underlying30 hi hz0 hz1 hz2 rfl (by decide) _ _ _ rfl (hrow.alloc _) ⟨W.heap.size, 0, none⟩ 1 1 [.int .i64 x] rfl rfl (cell_one_new _ _ _) (by simp [Value.oneCell']) hmx hm8 (by rw [World.size_alloc]; omega) ?_; intro v' w1 hown' hgrow _; obtain ⟨g', cap', rfl⟩ := ownsRow_succ hown'; obtain ⟨hv1, hv2, hr3, hk2, hb2, hk3⟩ := Try.append_step hv hrow hw4 hB3 hwB hown' hgrow; have hc1 := hv1.cell; have hf1 := hv1.frozen)
      exact ⟨hk2.from _, hk3, ⟨_, hv2, by simpa using hr3, by simp⟩, hB.trans hb2⟩
    case done =>
      rintro D ys W hD rfl ⟨⟨y, hv, hrow, hnil⟩, hB⟩ hK
      have hc := hv.cell
      gi_wp2
      refine ⟨by simp, .inl ⟨_, _, rfl, run_takeDeferred hK, ?_⟩⟩
      exact ⟨_, results_tmp rfl _ _ _, y, rfl, by rw [hL]; exact ownsRow_putObj (Try.ownsRow_base hrow (by omega)) _ hK rfl, (b4.trans hB).trans (belowK_b (w := w) (Nat.le_refl _) W D _ _ (by omega) hK rfl rfl)⟩
    case stop =>
      rintro D cd pre W _ _ h _
      exact h.elim
  · rw [if_neg hR] at hL
    subst hL
    gi_wp2_with (refine ⟨trivial, ?_⟩; gi_at_call 42; refine (Try.right_in 5 _ n E A c f2).mono ?_; rintro e W3 ⟨rfl, hb3⟩; have hd : decide (RightP n E) = false := decide_eq_false hR)
    exact ⟨_, results_tmp rfl _ _ _, _, rfl, World.ownsRow_nil _ _ _ _, b2.trans (hb3.mono (by rw [s2]; omega))⟩
/-! ### graph.Has -/
set_option maxRecDepth 100000 in
set_option maxHeartbeats 2000000 in
theorem Try.Has_in (n a b : Int) (E : List Ed) (A : Option Addr) (c : Nat) (w : World) (hE : E.length ≤ 1000000) (h : FlatOk w noLab none A c 2 (edges E)) :
    CallsIn Fence.wide 6 Try.prog 27 #[.agg #[.int .i64 n, .slice A E.length c], .int .i64 a, .int .i64 b] w fun e W' => e = .returned (.bool (decide (RightP n E) && (Go.Sh.nearL E a).elem b)) ∧ Below w.heap.size w W' := by
  obtain ⟨w1, hw1⟩ : ∃ w1, w.alloc (.cells #[.int .i64 n, .slice A E.length c] 28) = w1 := ⟨_, rfl⟩
  obtain ⟨w2, hw2⟩ : ∃ w2, w1.alloc (.cells #[.int .i64 b] 3) = w2 := ⟨_, rfl⟩
  obtain ⟨w3, hw3⟩ : ∃ w3, w2.alloc (.cells #[.bool false] 4) = w3 := ⟨_, rfl⟩
  have s1 : w1.heap.size = w.heap.size + 1 := by rw [← hw1]; simp
  have s2 : w2.heap.size = w.heap.size + 2 := by rw [← hw2]; simp [s1]
  have s3 : w3.heap.size = w.heap.size + 3 := by rw [← hw3]; simp [s2]
  have b1 : Below w.heap.size w w1 := by rw [← hw1]; exact (Below.refl _ w).alloc (Nat.le_refl _) _
  have b2 : Below w.heap.size w w2 := by rw [← hw2]; exact b1.alloc (by omega) _
  have b3 : Below w.heap.size w w3 := by rw [← hw3]; exact b2.alloc (by omega) _
  have hg3 : w3.heap[w.heap.size]? = some (.cells #[.int .i64 n, .slice A E.length c] 28) := by
    rw [← hw3, Below.heap_alloc _ _ _ (by omega), ← hw2, Below.heap_alloc _ _ _ (by omega), ← hw1]; exact World.alloc_heap_new _ _
  have bB : Boxed w3 (w.heap.size + 1) 3 (.int .i64 b) := by rw [← hw3, ← s1]; refine Boxed.alloc ?_ _; rw [← hw2]; exact Boxed.new _ _ _
  have bO : Boxed w3 (w.heap.size + 2) 4 (.bool false) := by rw [← hw3, ← s2]; exact Boxed.new _ _ _
  have c0 : w3.cell? ⟨w.heap.size, 0, none⟩ = some (.int .i64 n) := by simp [World.cell?, hg3]
  have c1 : w3.cell? ⟨w.heap.size, 1, none⟩ = some (.slice A E.length c) := by simp [World.cell?, hg3]
  refine callsIn_of_wp_marks Try.func27 rfl trivial ?_ rfl
  simp only [Try.ntmps27, List.size_toArray, List.length_cons, List.length_nil, Nat.reduceAdd, Nat.reduceSub, Array.replicate_succ, Array.replicate_zero, List.push_toArray, List.append_toArray, List.nil_append, List.cons_append]
  have f3 := Try.flat_below h (fun b hb => b3.block b hb)
  subst hw1
  subst hw2
  subst hw3
  by_cases hR : RightP n E
  · gi_wp2_with (first
      | (refine ⟨trivial, ?_⟩; gi_at_call 42; refine (Try.right_in 5 _ n E A c f3).mono ?_; rintro e W3 ⟨rfl, hb3⟩; have c0' := (hb3.cell (p := ⟨w.heap.size, 0, none⟩) (by show w.heap.size < _; rw [s3]; omega)).trans c0; have c1' := (hb3.cell (p := ⟨w.heap.size, 1, none⟩) (by show w.heap.size < _; rw [s3]; omega)).trans c1; have hd : decide (RightP n E) = true := decide_eq_true hR)
      | (refine ⟨trivial, ?_⟩; gi_at_call 58; refine (Try.near_in Fence.wide 5 trivial rfl n a A E.length c _).mono ?_; rintro e W4 ⟨rfl, rfl⟩))
    have hA4 := Try.near_at w W3 n a A c E
    have t3 : w.heap.size + 3 ≤ W3.heap.size := by have := hb3.size; rw [s3] at this; exact this
    have bB3 : Boxed W3 (w.heap.size + 1) 3 (.int .i64 b) := (hb3.block _ (by rw [s3]; omega)).trans bB
    have bO3 : Boxed W3 (w.heap.size + 2) 4 (.bool false) := (hb3.block _ (by rw [s3]; omega)).trans bO
    have d3 : Below w.heap.size w W3 := b3.trans (hb3.mono (by rw [s3]; omega))
    have hE3 := (Try.eds_of h).kept (Try.Kept.of (S := (· < w.heap.size)) d3 (fun k h => h)) (fun k h => h)
    generalize Try.nearW W3 n a (.slice A E.length c) = W4 at hA4 ⊢
    obtain ⟨s4, hb4, cg, cv⟩ := hA4
    have bB4 : Boxed W4 (w.heap.size + 1) 3 (.int .i64 b) := (hb4.block _ (by omega)).trans bB3
    have bO4 : Boxed W4 (w.heap.size + 2) 4 (.bool false) := (hb4.block _ (by omega)).trans bO3
    have d4 : Below w.heap.size w W4 := d3.trans (hb4.mono (by omega))
    have hE4 : Try.Eds (fun k => k < W4.heap.size ∧ k ≠ w.heap.size + 2) W4 (.slice A E.length c) E := by
      rcases hE3.kept (Try.Kept.of (S := (· < w.heap.size)) (hb4.mono (show w.heap.size ≤ _ by omega)) (fun k h => h)) (fun k h => h) with h0 | ⟨ab, ao, cap, e, hb, hc⟩
      · exact .inl h0
      · exact .inr ⟨ab, ao, cap, e, ⟨by omega, by omega⟩, hc⟩
    have hml : E.length ≤ 4000 := hR.2.2.1
    have hd2 : decide (RightP n E) = true := decide_eq_true hR
    refine wpIn_rangeFunc_ownG rfl (by omega) (gf := 86) (lb := #[.pointer (some ⟨W3.heap.size, 0, none⟩), .pointer (some ⟨W3.heap.size + 1, 0, none⟩)]) rfl trivial (enters_of Try.func86 (by kernel_rfl) rfl)
      (Try.near_stops Fence.wide 5 trivial rfl (by omega) W3.heap.size (W3.heap.size + 1) (fun k => k < W4.heap.size ∧ k ≠ w.heap.size + 2) n a _ E hR W4 ⟨by omega, by omega⟩ ⟨by omega, by omega⟩ (fun k h => h.1) cg cv hE4) Try.kp_t (Try.kp_b (fun k h => h.1)) (Below.refl _ _) (fun _ => rfl)
      (fun pre W => (Boxed W (w.heap.size + 1) 3 (.int .i64 b) ∧ Boxed W (w.heap.size + 2) 4 (.bool false) ∧ b ∉ pre) ∧ Below w.heap.size W4 W)
      (fun cd pre W => (cd = .ret ∧ Boxed W (w.heap.size + 2) 4 (.bool true) ∧ b ∈ pre) ∧ Below w.heap.size W4 W)
      (OwnFrom.and (fun s X Y row hs hg hr => ⟨hs.1.kept hg (fun e => by have := (hr _ e.symm).1; omega), hs.2.1.kept hg (fun e => by have := (hr _ e.symm).1; omega), hs.2.2⟩) (ownFrom_below (by omega) (by omega)))
      (fun cd => OwnFrom.and (fun s X Y row hs hg hr => ⟨hs.1, hs.2.1.kept hg (fun e => by have := (hr _ e.symm).1; omega), hs.2.2⟩) (ownFrom_below (by omega) (by omega)))
      ⟨⟨bB4, bO4, by simp⟩, Below.refl _ _⟩
      (fun x => { tmps := #[.agg #[.int .i64 n, .slice A E.length c], .int .i64 a, .int .i64 b, .pointer (some ⟨w.heap.size, 0, none⟩), undef, .pointer (some ⟨w.heap.size + 1, 0, none⟩), .pointer (some ⟨w.heap.size + 2, 0, none⟩), .int .i64 x, .agg #[.int .i64 n, .slice A E.length c], .bool true, .bool false, .agg #[.int .i64 n, .slice A E.length c], .int .i64 a, .func (.func 86) #[] #[.pointer (some ⟨W3.heap.size, 0, none⟩), .pointer (some ⟨W3.heap.size + 1, 0, none⟩)], .int .i64 x, undef, undef, undef], defers := [] }) ?assign ?body ?done ?stop
    case assign =>
      intro l x W K hK
      gi_wp2
      exact hK
    case body =>
      rintro l pre x W ⟨⟨hv, ho, hn⟩, hB⟩ hlt
      have hc := hv.cell
      have hoc := ho.cell
      have hof := ho.frozen
      by_cases hx : x = b
      · have hxb : (x == b) = true := by simpa using hx
        gi_wp2
        exact ⟨(KeepsOthers.setCell _ _ _).from _, ⟨rfl, ho.set _, by simp [hx]⟩, hB.setCell (p := ⟨w.heap.size + 2, 0, none⟩) (by show w.heap.size ≤ w.heap.size + 2; omega) _⟩
      · have hxb : (x == b) = false := by simpa using hx
        gi_wp2
        exact ⟨KeepsFrom.refl _ _, ⟨Try.Kept.refl _ _, fun _ _ _ h => h⟩, ⟨hv, ho, by simp [hn]; exact fun e => hx e.symm⟩, hB⟩
    case done =>
      rintro D ys W hD rfl ⟨⟨hv, ho, hn⟩, hB⟩ hK
      have hoc := ho.cell
      have hof := ho.frozen
      gi_wp2
      have hK' : (W.setCell ⟨w.heap.size + 2, 0, none⟩ (.bool false)).heap[D]? = some (.deferred (some [])) := by
        rw [Below.heap_setCell _ _ _ _ (by show D ≠ w.heap.size + 2; omega)]; exact hK
      refine ⟨by simp, .inl ⟨_, _, rfl, run_takeDeferred hK', ?_⟩⟩
      have hc5 := cell_kept (ho.set (.bool false)).cell (grownBy_putObj' _ D (.deferred none)) (fun r e => by cases e; exact ⟨_, hK', rfl⟩)
      refine ⟨.bool false, ?_, by rw [hd2, show (Go.Sh.nearL E a).elem b = false by simpa using hn]; rfl, ((d4.trans hB).setCell (p := ⟨w.heap.size + 2, 0, none⟩) (by show w.heap.size ≤ w.heap.size + 2; omega) _).trans (belowK_b (w := w) (Nat.le_refl _) _ D _ _ (by omega) hK' rfl rfl)⟩
      simp [results, Try.f27, go_sem, hc5]
    case stop =>
      rintro D cd pre W hD hpre ⟨⟨rfl, ho, hn⟩, hB⟩ hK
      gi_wp2
      refine ⟨by simp, .inl ⟨_, _, rfl, run_takeDeferred hK, ?_⟩⟩
      have hc5 := cell_kept ho.cell (grownBy_putObj' _ D (.deferred none)) (fun r e => by cases e; exact ⟨_, hK, rfl⟩)
      refine ⟨.bool true, ?_, by rw [hd2, show (Go.Sh.nearL E a).elem b = true by simpa using hpre.subset hn]; rfl, (d4.trans hB).trans (belowK_b (w := w) (Nat.le_refl _) _ D _ _ (by omega) hK rfl rfl)⟩
      simp [results, Try.f27, go_sem, hc5]
  · gi_wp2_with (refine ⟨trivial, ?_⟩; gi_at_call 42; refine (Try.right_in 5 _ n E A c f3).mono ?_; rintro e W3 ⟨rfl, hb3⟩; have hd : decide (RightP n E) = false := decide_eq_false hR; have bO3 : Boxed W3 (w.heap.size + 2) 4 (.bool false) := (hb3.block _ (by rw [s3]; omega)).trans bO; have hoc := bO3.cell; have hof := bO3.frozen)
    have bO3 : Boxed W3 (w.heap.size + 2) 4 (.bool false) := (hb3.block _ (by rw [s3]; omega)).trans bO
    have hc5 := (bO3.set (.bool false)).cell
    refine ⟨.bool false, ?_, by rw [decide_eq_false hR]; rfl, (b3.trans (hb3.mono (by rw [s3]; omega))).setCell (p := ⟨w.heap.size + 2, 0, none⟩) (by show w.heap.size ≤ w.heap.size + 2; omega) _⟩
    simp [results, Try.f27, go_sem, hc5]
end Go.Proofs

set_option linter.unusedVariables false
set_option linter.unusedSimpArgs false
namespace Go.Sh
open Go.Proofs Go.Sort Go.Shelf Go.RowKit
/-! ### rows of cells in their place -/
/-! ### edges -/
def encE (p : Ed) : List Value := [.int .i64 p.1, .int .i64 p.2]
theorem edges_even (l : List Ed) : ∀ (i : Nat) (row : Row), (edges l)[i]? = some row → row.length = 2 := fun i row h => by
  simp only [edges, List.getElem?_map, Option.map_eq_some_iff] at h
  obtain ⟨x, _, rfl⟩ := h
  rfl
/-! ### graph.Normal's closure -/
theorem frm_grow [Fwd] (hD : Fwd.D) {w w' : World} (h : Frm (fun _ => False) w w') : ∃ q os, w' = grow (w.drewN q) os := by
  refine ⟨w'.drawn - w.drawn, w'.heap.extract w.heap.size w'.heap.size, ?_⟩
  have hd : w.drawn ≤ w'.drawn := h.tape.2 hD
  have hh : w'.heap = w.heap ++ w'.heap.extract w.heap.size w'.heap.size := by
    apply Array.ext_getElem?
    intro i
    have hs := h.size
    rcases Nat.lt_or_ge i w.heap.size with hi | hi
    · rw [Array.getElem?_append_left hi]; exact h.block i hi (fun h => h)
    · rw [Array.getElem?_append_right hi, Array.getElem?_extract]
      split
      · congr 1; omega
      · rw [Array.getElem?_eq_none]; omega
  have h1 := h.os; have h2 := h.tape.1; have h3 := h.output
  obtain ⟨a1, a2, a3, a4, a5⟩ := w
  obtain ⟨b1, b2, b3, b4, b5⟩ := w'
  simp only at h1 h2 h3 hd
  subst h1 h2 h3
  unfold grow World.drewN
  simp only at hh ⊢
  rw [← hh]
  congr 1
  omega
/-! ### slices.SortFunc on edges -/
end Go.Sh

set_option linter.unusedVariables false
set_option linter.unusedSimpArgs false
namespace Go.Sh
open Go.Proofs
/-! ### graph.Normal -/
end Go.Sh

set_option linter.unusedVariables false
set_option linter.unusedSimpArgs false
namespace Go.Proofs
open Go.RowKit Go.Shelf Go.Sh

attribute [local go_sem] Oper.semAt_some
theorem Try.infoE : (Try.prog.info? 59).map (fun i => (i.zero, i.size, i.bytes)) = some (some (.agg #[.int .i64 0, .int .i64 0]), 2, 16) := by kernel_rfl
/-- the edges that are left of some under new numbers -/
def Try.renE (f : Int → Int) (E : List Ed) : List Ed := E.filterMap fun p => if f p.1 ≥ 0 ∧ f p.2 ≥ 0 then some (f p.1, f p.2) else none
theorem Try.own_edges {w : World} {base : Nat} {x : Value} {L : List Ed} {e : TypeId} (h : w.ownsRow base e 2 x L.length (L.flatMap encE)) : ∃ A c, x = .slice A L.length c ∧ FlatOk w noLab none A c 2 (edges L) := by
  rcases h.2 with ⟨rfl, h0⟩ | ⟨g, cap, cur, rfl, hb, hg, h1, h2, h3, h4⟩
  · have : L = [] := List.eq_nil_of_length_eq_zero h0
    subst this
    exact ⟨none, 0, rfl, FlatOk.nil (by omega)⟩
  · refine ⟨_, _, rfl, ⟨by rw [edges_length]; exact h1, by omega, edges_even L, fun i row j x hi hj => ?_, fun h => by simp at h⟩⟩
    refine ⟨_, rfl, rfl, ?_⟩
    rw [Addr.add_plain, cells_at hg, Nat.zero_add]
    have hfl := flat_get (edges_even L) i j row hi (by have := edges_even L i row hi; have := (List.getElem?_eq_some_iff.1 hj).1; omega)
    have hil := (List.getElem?_eq_some_iff.1 hi).1
    rw [edges_length] at hil
    have hjl := (List.getElem?_eq_some_iff.1 hj).1
    have hr2 := edges_even L i row hi
    have hcr : cellsR (edges L) = L.flatMap encE := by
      unfold cellsR edges
      clear h h1 h2 h3 h4 hb hg hi hj hfl hil hjl
      induction L with
      | nil => rfl
      | cons p L ih => simp only [List.map_cons, List.flatten_cons, List.map_append, List.flatMap_cons, ih]; rfl
    have h5 : (cur.toList.take (L.length * 2))[i * 2 + j]? = some x.val := by
      rw [h4, ← hcr, cellsR, List.getElem?_map, hfl, hj]; rfl
    rw [List.getElem?_take_of_lt (by omega)] at h5
    rw [← Array.getElem?_toList]
    exact h5
/-- what sub.Contract's closure tells -/
def Try.conF (hi lo x : Int) : Int := if x = hi then lo else if x > hi then x - 1 else x
end Go.Proofs

set_option linter.unusedVariables false
set_option linter.unusedSimpArgs false
namespace Go.Proofs
open Go.RowKit Go.Shelf Go.Sh

attribute [local go_sem] Oper.semAt_some
theorem Try.wide_fn (f : Nat) : Fence.wide.fn f = True := rfl
attribute [local go_sem] Try.wide_fn
end Go.Proofs

set_option linter.unusedVariables false
set_option linter.unusedSimpArgs false
namespace Go.Sh
open Go.Proofs Go.RowKit Go.Shelf
/-! ### graph.Near, graph.Has: contracts -/
theorem own_flat {w : World} {base : Nat} {x : Value} {L : List Int} {e : TypeId} (h : w.ownsRow base e 1 x L.length (L.map (Value.int .i64))) : ∃ lab : Nat → Option Key, (∀ b k, lab b = some k → base ≤ b ∧ b < w.heap.size) ∧ VOk w lab 0 (.one (.flat true 1 (ints L))) x := by
  rcases h.2 with ⟨rfl, h0⟩ | ⟨g, cap, cur, rfl, hb, hg, h1, h2, h3, h4⟩
  · have : L = [] := List.eq_nil_of_length_eq_zero h0
    subst this
    exact ⟨noLab, fun b k h => by simp [noLab] at h, ⟨none, 0, fun _ => none, fun _ => 0⟩, rfl, ⟨by simp [ints], by omega, fun i row h => by simp [ints] at h, fun i row j x h => by simp [ints] at h, fun _ => .inl ⟨rfl, rfl⟩⟩⟩
  · have hgl : g < w.heap.size := (Array.getElem?_eq_some_iff.1 hg).1
    refine ⟨fun b => if b = g then some (0, none) else none, fun b k h => ?_, ⟨some ⟨g, 0, none⟩, cap, fun _ => none, fun _ => 0⟩, by show Value.slice _ _ _ = .slice _ (ints L).length _; rw [ints_length], ?_⟩
    · dsimp only at h
      split at h
      · rename_i e; subst e; exact ⟨hb, hgl⟩
      · cases h
    · have hm : cap ≤ 9223372036854775807 := by unfold maxLen at h2; omega
      refine ⟨by rw [ints_length]; exact h1, by omega, fun i row hi => ?_, fun i row j x hi hj => ?_, fun _ => .inr ⟨g, 0, cur, e, rfl, by simp, hg, by show 0 + cap * 1 ≤ cur.size; omega, hm⟩⟩
      · simp only [ints, List.getElem?_map, Option.map_eq_some_iff] at hi
        obtain ⟨y, _, rfl⟩ := hi; rfl
      · simp only [ints, List.getElem?_map, Option.map_eq_some_iff] at hi
        obtain ⟨y, hy, rfl⟩ := hi
        have hj0 : j = 0 := by
          cases j with
          | zero => rfl
          | succ j => simp at hj
        subst hj0
        simp at hj
        subst hj
        refine ⟨_, rfl, by simp, ?_⟩
        rw [Addr.add_plain, cells_at hg]
        have hil := (List.getElem?_eq_some_iff.1 hy).1
        have h5 : (cur.toList.take (L.length * 1))[i]? = some (.int .i64 y) := by rw [h4, List.getElem?_map, hy]; rfl
        rw [List.getElem?_take_of_lt (by omega)] at h5
        rw [Nat.mul_one, Nat.add_zero, Nat.zero_add, ← Array.getElem?_toList]
        exact h5
def nearG (n : Int) (E : List Ed) (v : Int) : List Int := if RightP n E then nearL E v else []
def hasG (n : Int) (E : List Ed) (a b : Int) : Bool := decide (RightP n E) && (nearL E a).elem b
noncomputable def NearGC : Con := conP 2 (fun a : (Int × List Ed) × Int => a.1.2.length ≤ 1000000) (fun a => [grV a.1.1 a.1.2, .one (.s (.i .i64 a.2))]) (fun a => .one (.flat true 1 (ints (nearG a.1.1 a.1.2 a.2))))
theorem NearGC_at {n : Int} {E : List Ed} (v : Int) (h : E.length ≤ 1000000) : NearGC.F [grV n E, .one (.s (.i .i64 v))] = some (.one (.flat true 1 (ints (nearG n E v))), []) :=
  conP_at (a := ((n, E), v)) (fun a b _ _ h => by
    obtain ⟨⟨n, E⟩, v⟩ := a
    obtain ⟨⟨n', E'⟩, v'⟩ := b
    simp at h
    obtain ⟨h1, h2⟩ := h
    obtain ⟨rfl, rfl⟩ := grV_inj h1
    subst h2
    rfl) h
noncomputable def HasGC : Con := conP 3 (fun a : (Int × List Ed) × Int × Int => a.1.2.length ≤ 1000000) (fun a => [grV a.1.1 a.1.2, .one (.s (.i .i64 a.2.1)), .one (.s (.i .i64 a.2.2))]) (fun a => .one (.s (.b (hasG a.1.1 a.1.2 a.2.1 a.2.2))))
theorem HasGC_at {n : Int} {E : List Ed} (a b : Int) (h : E.length ≤ 1000000) : HasGC.F [grV n E, .one (.s (.i .i64 a)), .one (.s (.i .i64 b))] = some (.one (.s (.b (hasG n E a b))), []) :=
  conP_at (a := ((n, E), a, b)) (fun x y _ _ h => by
    obtain ⟨⟨n, E⟩, a, b⟩ := x
    obtain ⟨⟨n', E'⟩, a', b'⟩ := y
    simp at h
    obtain ⟨h1, h2, h3⟩ := h
    obtain ⟨rfl, rfl⟩ := grV_inj h1
    subst h2 h3
    rfl) h
theorem us_int {w : World} {q : Nat} {v : Int} {u : Value} (h : V1Ok w noLab q (.one (.s (.i .i64 v))) u) : u = .int .i64 v := by
  obtain ⟨x, h⟩ := h; exact h
theorem Near_ok : SoundC Try.prog T 68 NearGC := by
  refine sound_pure Try.func68 (by rfl) (by rfl) (by simp [NearGC, conP]) ?_
  intro vs r outs hF w us hus
  obtain ⟨⟨⟨n, E⟩, v⟩, hl, rfl, rfl⟩ := conF_inv (pre := fun a : (Int × List Ed) × Int => a.1.2.length ≤ 1000000) (enc := fun a => [grV a.1.1 a.1.2, .one (.s (.i .i64 a.2))]) (val := fun a => .one (.flat true 1 (ints (nearG a.1.1 a.1.2 a.2)))) hF
  dsimp only at hl hus ⊢
  obtain ⟨u1, u2, hu, h1, h2⟩ : ∃ u1 u2, us.toList = [u1, u2] ∧ V1Ok w noLab 0 (grV n E) u1 ∧ V1Ok w noLab (0 + 2) (.one (.s (.i .i64 v))) u2 := by
    match h : us.toList, hus with
    | [u1, u2], hus => exact ⟨u1, u2, rfl, hus.1, hus.2.1⟩
    | [], hus => exact hus.elim
    | [_], hus => exact hus.2.elim
    | _ :: _ :: _ :: _, hus => exact hus.2.2.elim
  obtain rfl : us = #[u1, u2] := by cases us; simp_all
  obtain ⟨A, c, rfl, hA⟩ := Try.gr_of h1
  rw [us_int h2]
  refine ((callsIn_wide (n := 6)).1 (Try.Near_in n v E A c w hl hA (nearG n E v) rfl)).mono ?_
  rintro e w' ⟨x, rfl, hx, hb⟩
  obtain ⟨lab, hlab, hv⟩ := own_flat hx
  exact ⟨x, lab, rfl, ⟨hb.os, .of hb.tape, hb.output, hb.size, fun b h _ => hb.block b h⟩, hlab, hv⟩
theorem Has_ok : SoundC Try.prog T 27 HasGC := by
  refine sound_pure Try.func27 (by rfl) (by rfl) (by simp [HasGC, conP]) ?_
  intro vs r outs hF w us hus
  obtain ⟨⟨⟨n, E⟩, a, b⟩, hl, rfl, rfl⟩ := conF_inv (pre := fun a : (Int × List Ed) × Int × Int => a.1.2.length ≤ 1000000) (enc := fun a => [grV a.1.1 a.1.2, .one (.s (.i .i64 a.2.1)), .one (.s (.i .i64 a.2.2))]) (val := fun a => .one (.s (.b (hasG a.1.1 a.1.2 a.2.1 a.2.2)))) hF
  dsimp only at hl hus ⊢
  obtain ⟨u1, u2, u3, hu, h1, h2, h3⟩ : ∃ u1 u2 u3, us.toList = [u1, u2, u3] ∧ V1Ok w noLab 0 (grV n E) u1 ∧ V1Ok w noLab (0 + 2) (.one (.s (.i .i64 a))) u2 ∧ V1Ok w noLab (0 + 2 + 1) (.one (.s (.i .i64 b))) u3 := by
    match h : us.toList, hus with
    | [u1, u2, u3], hus => exact ⟨u1, u2, u3, rfl, hus.1, hus.2.1, hus.2.2.1⟩
    | [], hus => exact hus.elim
    | [_], hus => exact hus.2.elim
    | [_, _], hus => exact hus.2.2.elim
    | _ :: _ :: _ :: _ :: _, hus => exact hus.2.2.2.elim
  obtain rfl : us = #[u1, u2, u3] := by cases us; simp_all
  obtain ⟨A, c, rfl, hA⟩ := Try.gr_of h1
  rw [us_int h2, us_int h3]
  refine ((callsIn_wide (n := 6)).1 (Try.Has_in n a b E A c w hl hA)).mono ?_
  rintro e w' ⟨rfl, hb⟩
  exact ⟨_, noLab, rfl, ⟨hb.os, .of hb.tape, hb.output, hb.size, fun b h _ => hb.block b h⟩, fun b k h => by simp [noLab] at h, ⟨⟨none, 0, fun _ => none, fun _ => 0⟩, rfl⟩⟩
end Go.Sh

set_option linter.unusedVariables false
set_option linter.unusedSimpArgs false
namespace Go.Proofs
open Go.RowKit Go.Shelf Go.Sh

attribute [local go_sem] Oper.semAt_some
theorem Try.wide_fn2 (f : Nat) : Fence.wide.fn f = True := rfl
attribute [local go_sem] Try.wide_fn2
end Go.Proofs

set_option linter.unusedVariables false
set_option linter.unusedSimpArgs false
namespace Go.Sh
open Go.Proofs Go.RowKit Go.Shelf
/-! ### sub.Delete, sub.Contract: contracts -/
end Go.Sh

set_option linter.unusedVariables false
set_option linter.unusedSimpArgs false
namespace Go.Proofs
open Go.RowKit Go.Shelf Go.Sh

attribute [local go_sem] Oper.semAt_some
theorem Try.tE : Try.prog.underlying 22 = some (TypeDesc.slice 59) := by kernel_rfl
end Go.Proofs

set_option linter.unusedVariables false
set_option linter.unusedSimpArgs false
namespace Go.Sh
open Go.Proofs
theorem Narrow_p : SoundP Try.prog 39 (conF (fun _ : Int × List Ed => True) (fun a => [grV a.1 a.2]) (fun a => .one (.s (.b (narrowB a.1 a.2))))) := by
  refine con_pure (X := { Γ := [(42, RightC), (26, RunC)], T := T, nt := 12 }) cr_none hmix hT (sound_cons RightG_ok (sound_cons Run_ok sound_nil)) Try.func39 (by rfl) (by rfl) (by rfl) 2 ?_
  rintro ⟨n, E⟩ -
  refine ⟨⟨Nat.le_of_ble_eq_true rfl, Nat.le_of_ble_eq_true rfl⟩, ?_⟩
  refine Call.by _ _ (RightC_at n E) ?_
  refine Pick.by (fun h1 => ?_) (fun h1 => ?_)
  · have h1 : RightP n E := by have h1 : decide (RightP n E) = true := h1; simpa using h1
    refine Call.by _ _ (RunC_at n E) ?_
    refine ⟨rfl, ?_⟩
    show Sc.b ((((ints (runO n E).2.1).length : Nat) : Int) == 0) = Sc.b (narrowB n E)
    unfold narrowB
    rw [decide_eq_true h1, Bool.true_and, ints_length]
    congr 1
    rw [Bool.eq_iff_iff]
    simp
  · have h1 : ¬ RightP n E := by have h1 : decide (RightP n E) = false := h1; simpa using h1
    refine ⟨rfl, ?_⟩
    show Sc.b false = Sc.b (narrowB n E)
    unfold narrowB
    rw [decide_eq_false h1, Bool.false_and]
end Go.Sh
namespace Go.Proofs
open Go.RowKit Go.Shelf Go.Sh
/-! ### thin.Rest$1 -/
theorem Try.narrow_call (w : World) (n : Int) (E : List Ed) (A : Option Addr) (c : Nat) (h : FlatOk w noLab none A c 2 (edges E)) :
    Calls Try.prog 39 #[.agg #[.int .i64 n, .slice A E.length c]] w fun e w' => e = .returned (.bool (narrowB n E)) ∧ Below w.heap.size w w' := by
  refine (Narrow_p [grV n E] _ _ (conF_at (a := (n, E)) (fun x y _ _ h => by
    obtain ⟨n, E⟩ := x
    obtain ⟨n', E'⟩ := y
    simp at h
    obtain ⟨rfl, rfl⟩ := grV_inj h
    rfl) trivial) w #[_] ⟨Try.gr_ok h, trivial⟩).mono ?_
  rintro e w' ⟨u, lab, rfl, hf, _, hu⟩
  obtain ⟨x, hu⟩ := hu
  have hu : u = .bool (narrowB n E) := hu
  exact ⟨by rw [hu], hf.os, hf.tape.1, hf.output, hf.size, fun b hb => hf.block b hb (fun h => h)⟩
theorem Try.edge_cells (l : List Ed) : l.flatMap encE = cellsR (edges l) := by
  unfold cellsR edges
  induction l with
  | nil => rfl
  | cons p l ih => simp only [List.map_cons, List.flatten_cons, List.map_append, List.flatMap_cons, ih]; rfl
theorem Try.enc_len (l : List Ed) : (l.flatMap encE).length = l.length * 2 := by
  rw [Try.edge_cells, cellsR_len (edges_even _), edges_length]
theorem Try.flat_cells {w : World} {own : Nat → Option Key} {key : Option Key} {a : Addr} {c : Nat} {l : List Ed} (h : FlatOk w own key (some a) c 2 (edges l)) : ∀ j u, (l.flatMap encE)[j]? = some u → w.cell? (a.add j) = some u := by
  intro j u hu
  have hjl := (List.getElem?_eq_some_iff.1 hu).1
  rw [Try.enc_len] at hjl
  rw [Try.edge_cells] at hu
  have hrow : (edges l)[j / 2]? = some ((edges l)[j / 2]'(by rw [edges_length]; omega)) := List.getElem?_eq_getElem _
  have hr := h.even _ _ hrow
  have hm : j % 2 < ((edges l)[j / 2]'(by rw [edges_length]; omega)).length := by rw [hr]; omega
  have hx := List.getElem?_eq_getElem hm
  obtain ⟨a', ha', _, hc⟩ := h.cell _ _ _ _ hrow hx
  injection ha' with ha'
  subst ha'
  have hg := cellsR_get h.even hrow hx
  rw [show j / 2 * 2 + j % 2 = j by omega] at hc hg
  rw [hu] at hg
  injection hg with hg
  rw [hg]; exact hc
theorem Try.flat_nil {w : World} {own : Nat → Option Key} {key : Option Key} {c : Nat} {l : List Ed} (h : FlatOk w own key none c 2 (edges l)) : l = [] := by
  cases l with
  | nil => rfl
  | cons x l =>
    obtain ⟨a, ha, _⟩ := h.cell 0 _ 0 (.i .i64 x.1) rfl rfl
    simp at ha
theorem Try.append_none (w : World) (ty : TypeId) (ao xo : Option Addr) (n cap c : Nat) (hn : n ≤ cap) :
    (Builtin.append_ #[22, 22] ty #[.slice ao n cap, .slice xo 0 c]).run Try.prog w = .ok (.slice ao n cap) w := by
  obtain ⟨i0, hi0, hz0, hz1, hz2⟩ := info_parts Try.infoE
  have hf : (Builtin.firstCells 2 0 (.slice xo 0 c)).run Try.prog w = .ok #[] w := by
    cases xo with
    | none => rfl
    | some a =>
      have := run_loadCells_list (P := Try.prog) w a [] (fun k v hk => by simp at hk)
      simpa [Builtin.firstCells] using this
  cases ao with
  | none => simp [Builtin.append_, run_underlying Try.tE, sizeOf, typeInfo, hi0, hz1, Builtin.lenOf, hn, hf]
  | some a =>
    simp [Builtin.append_, run_underlying Try.tE, sizeOf, typeInfo, hi0, hz1, Builtin.lenOf, hn, hf, storeCells]
theorem Try.list_less {ops : Array Oper} {rest : List Oper} {o : Oper} {a : Act} {w : World} {Q : Exit → Act → World → Prop} (hg : o.guard = none) (s x : Operand)
    (hop : o.op = Op.call { callee := Callee.builtin Builtin.append, args := #[s, x], argTypes := #[22, 22] }) (K1 K2 : List Ed) (A1 A2 : Option Addr) (c2 : Nat)
    (hs : a.eval s = .slice A1 K1.length K1.length) (hx : a.eval x = .slice A2 K2.length c2) (h1 : FlatOk w noLab none A1 K1.length 2 (edges K1)) (h2 : FlatOk w noLab none A2 c2 2 (edges K2)) (hl1 : K1.length ≤ 100000) (hl2 : K2.length ≤ 100000)
    (hK : ∀ A' c' w', FlatOk w' noLab none A' c' 2 (edges (K1 ++ K2)) → Below w.heap.size w w' → wpList Try.prog ops Q rest (a.put o.dst (.slice A' (K1.length + K2.length) c')) w') :
    wpList Try.prog ops Q (o :: rest) a w := by
  refine wpList_plain hg fun K hKK => ?_
  have hw : Region.wanted o (yielded ops a.tmps) = true := by simp [Region.wanted, hg]
  have hK := fun A' c' w' h1 h2 => hKK _ _ (hK A' c' w' h1 h2)
  obtain ⟨i0, hi0, hz0, hz1, hz2⟩ := info_parts Try.infoE
  by_cases h0 : K2 = []
  · subst h0
    have hrun := Try.append_none w o.type A1 A2 K1.length K1.length c2 (Nat.le_refl _)
    rw [List.length_nil] at hx
    unfold Oper.wp
    simp [execOp, hop, resolve, invoke, builtin, hs, hx, hrun, Result.andThen]
    exact hK A1 K1.length w (by rw [List.append_nil]; exact h1) (Below.refl _ _)
  · have hp2 := List.length_pos_iff.2 h0
    obtain ⟨a2, rfl⟩ : ∃ a2, A2 = some a2 := by
      cases A2 with
      | none => exact absurd (Try.flat_nil h2) h0
      | some a2 => exact ⟨a2, rfl⟩
    have f1 : A1 = none → K1.length = 0 ∧ K1.length = 0 := fun h => by
      subst h
      have := Try.flat_nil h1
      rw [this]; exact ⟨rfl, rfl⟩
    have f2 : ∀ b, A1 = some b → ∀ j u, (K1.flatMap encE)[j]? = some u → w.cell? (b.add j) = some u := fun b hb j u hu => by
      subst hb
      exact Try.flat_cells h1 j u hu
    have f3 : ∀ u ∈ K2.flatMap encE, u.oneCell' = true := fun u hu => by
      obtain ⟨y, _, hy⟩ := List.mem_flatMap.1 hu
      simp [encE] at hy
      rcases hy with rfl | rfl <;> rfl
    have f4 : ∀ v' w', w'.ownsRow w.heap.size 59 2 v' (K1.length + K2.length) (K1.flatMap encE ++ K2.flatMap encE) → w.grownBy w' none → K (a.put o.dst v') w' := fun v' w' hown hgrow => by
      rw [← List.flatMap_append, ← List.length_append] at hown
      obtain ⟨A', c', rfl, hf⟩ := Try.own_edges hown
      rw [List.length_append]
      exact hK A' c' w' hf ⟨hgrow.os, hgrow.tape, hgrow.output, hgrow.size, fun b hb => hgrow.block b hb (by simp)⟩
    have fin := step_append_grows (P := Try.prog) (ops := ops) (o := o) (a := a) (w := w) (K := K) (Q := Q) (E := True) hg s x 22 hop 59 i0 (.agg #[.int .i64 0, .int .i64 0]) 2 16 Try.tE hi0 hz0 hz1 hz2 rfl (by decide) A1 K1.length K1.length (K1.flatMap encE) hs f1 (Try.enc_len K1) f2 a2 K2.length c2 (K2.flatMap encE) hx (Try.enc_len K2) (Try.flat_cells h2) f3 (by omega) (by unfold maxLen; omega) (by omega) f4
    rw [if_pos hw] at fin
    exact fin
/-- what it answers -/
noncomputable def sparedB (n : Int) (K E : List Ed) (i : Nat) : Bool := !narrowB n (K ++ E.drop (i + 1))
set_option maxRecDepth 100000 in
set_option maxHeartbeats 2000000 in
theorem Try.rest1_call (w : World) (n : Int) (i : Nat) (K E : List Ed) (bk bg : Nat) (A B : Option Addr) (ck c : Nat)
    (c1 : w.cell? ⟨bk, 0, none⟩ = some (.slice A K.length ck)) (c2 : w.cell? ⟨bg, 0, none⟩ = some (.int .i64 n)) (c3 : w.cell? ⟨bg, 1, none⟩ = some (.slice B E.length c))
    (hA : FlatOk w noLab none A ck 2 (edges K)) (hB : FlatOk w noLab none B c 2 (edges E)) (hi : i < E.length) (hl : E.length ≤ 100000) (hK : K.length ≤ 100000) :
    Calls Try.prog 73 #[.int .i64 i, .pointer (some ⟨bk, 0, none⟩), .pointer (some ⟨bg, 0, none⟩)] w fun e w' => e = .returned (.bool (sparedB n K E i)) ∧ Below w.heap.size w w' := by
  obtain ⟨i0, hi0, hz0, hz1, hz2⟩ := info_parts Try.infoE
  have hfa := hA.fits
  have hfb := hB.fits
  rw [edges_length] at hfa hfb
  have hf1 : FlatOk w noLab none A K.length 2 (edges K) := by
    have := (hA.sub (sub := some (0, K.length)) (A := A) (len := K.length) (cap := K.length) ⟨rfl, by rw [edges_length]; omega, Nat.le_refl _, by omega, .inr (by
      cases A with
      | none => rfl
      | some a => rw [Nat.zero_mul, Option.map_some, Go.Sh.Addr.add_zero])⟩).1
    have e : cut (some (0, K.length)) (edges K) = edges K := by
      show ((edges K).drop 0).take K.length = edges K
      rw [List.drop_zero, List.take_of_length_le (by rw [edges_length]; omega)]
    rw [e] at this
    exact this
  obtain ⟨A2, hA2⟩ : ∃ A2, (if c = i + 1 then B else B.map fun a => a.add ((i + 1) * 2)) = A2 := ⟨_, rfl⟩
  have hf2 : FlatOk w noLab none A2 (c - (i + 1)) 2 (edges (E.drop (i + 1))) := by
    have := (hB.sub (sub := some (i + 1, E.length - (i + 1))) (A := A2) (len := E.length - (i + 1)) (cap := c - (i + 1)) ⟨rfl, by rw [edges_length]; omega, by omega, by omega, by
      rw [← hA2]
      by_cases h : c = i + 1
      · left; omega
      · rw [if_neg h]; exact .inr rfl⟩).1
    have e : cut (some (i + 1, E.length - (i + 1))) (edges E) = edges (E.drop (i + 1)) := by
      show ((edges E).drop (i + 1)).take (E.length - (i + 1)) = edges (E.drop (i + 1))
      unfold edges
      rw [List.map_drop, List.take_of_length_le (by simp)]
    rw [e] at this
    exact this
  have hdl : (E.drop (i + 1)).length = E.length - (i + 1) := by rw [List.length_drop]
  have hic : i + 1 ≤ c := by omega
  have hie : i + 1 ≤ E.length := by omega
  have hwr : IntKind.wrap .i64 ((i : Int) + 1) = (i : Int) + 1 := by
    have h : i + 1 < 2 ^ 63 := by omega
    have e : ((i : Int) + 1) = ((i + 1 : Nat) : Int) := by omega
    rw [e]
    generalize i + 1 = m at h
    have e : (m : Int) % 2 ^ 64 = m := by omega
    simp only [IntKind.wrap, IntKind.bits, IntKind.signed]
    refine (if_neg fun h => ?_).trans e
    simp at h
    omega
  have hg1 : (0 : Int) ≤ (i : Int) + 1 := by omega
  have hg2 : (i : Int) + 1 ≤ (E.length : Int) := by omega
  have hd1 : FlatOk w.drew noLab none A K.length 2 (edges K) := hf1.mono id fun b _ h => ⟨h, rfl⟩
  have hd2 : FlatOk w.drew noLab none A2 (c - (i + 1)) 2 (edges (E.drop (i + 1))) := hf2.mono id fun b _ h => ⟨h, rfl⟩
  have hdl2 : (E.drop (i + 1)).length ≤ 100000 := by omega
  go_enter Try.func73, Try.ntmps73
  go_wp2_with fail
  go_still_tail 11, (by kernel_rfl)
  change wpList _ _ _ _ _ w.drew
  refine Try.list_less rfl (.tmp 11) (.tmp 16) rfl K (E.drop (i + 1)) A A2 (c - (i + 1)) (by simp [Act.eval, Act.put]) (by simp [Act.eval, Act.put]) hd1 hd2 hK hdl2 ?_
  intro A' c' w' hf' hb'
  have hb : Below w.heap.size w w' := ⟨hb'.os, hb'.tape, hb'.output, hb'.size, hb'.block⟩
  have c2' : w'.cell? ⟨bg, 0, none⟩ = some (.int .i64 n) := by rw [hb.cell (World.block_lt_of_cell? w _ c2)]; exact c2
  have hcall := Try.narrow_call w' n (K ++ E.drop (i + 1)) A' c' hf'
  rw [List.length_append] at hcall
  generalize hLe : K.length + (E.drop (i + 1)).length = Le at hcall ⊢
  go_wp2_with (go_at_call 39; refine hcall.mono ?_; rintro e w2 ⟨rfl, hb2⟩)
  go_ret
  refine ⟨rfl, hb.trans (hb2.mono hb.size)⟩
end Go.Proofs

set_option linter.unusedVariables false
set_option linter.unusedSimpArgs false
namespace Go.Sh
open Go.Proofs Go.RowKit
/-! ### slices.Clone of steps -/
attribute [local go_sem] Oper.semAt_some
/-! ### graph.Add -/
/-! ### slices.Index on edges -/
end Go.Sh

set_option linter.unusedVariables false
set_option linter.unusedSimpArgs false
namespace Go.Sh
open Go.Proofs Go.RowKit
/-! ### graph.Without -/
end Go.Sh

set_option linter.unusedVariables false
set_option linter.unusedSimpArgs false
namespace Go.Sh
/-! ### models of the complete graph of four: where all but two neighbours have three neighbours, there is one (Dirac) -/
/-- a model, as colours: 0 .. 3 -/
structure MdL (vs : List Nat) (A : Nat → Nat → Prop) (c : Nat → Nat) : Prop where
  some : ∀ i, i < 4 → ∃ x, x ∈ vs ∧ c x = i
  conn : ∀ i, i < 4 → ∀ P : Nat → Prop, (∃ x, x ∈ vs ∧ c x = i ∧ P x) → (∀ x y, x ∈ vs → y ∈ vs → c x = i → c y = i → A x y → P x → P y) → ∀ x, x ∈ vs → c x = i → P x
  meet : ∀ i j, i < j → j < 4 → ∃ x y, x ∈ vs ∧ y ∈ vs ∧ A x y ∧ c x = i ∧ c y = j
def D3 (vs : List Nat) (A : Nat → Nat → Prop) (x : Nat) : Prop := ∃ a b c, a ∈ vs ∧ b ∈ vs ∧ c ∈ vs ∧ a ≠ b ∧ a ≠ c ∧ b ≠ c ∧ A x a ∧ A x b ∧ A x c
theorem D3.but {vs : List Nat} {A : Nat → Nat → Prop} {x : Nat} (h : D3 vs A x) (v : Nat) : ∃ b c, b ∈ vs ∧ c ∈ vs ∧ b ≠ c ∧ b ≠ v ∧ c ≠ v ∧ A x b ∧ A x c := by
  obtain ⟨a, b, c, ha, hb, hc, h1, h2, h3, A1, A2, A3⟩ := h
  by_cases e : a = v
  · exact ⟨b, c, hb, hc, h3, fun e2 => h1 (e.trans e2.symm), fun e2 => h2 (e.trans e2.symm), A2, A3⟩
  · by_cases e2 : b = v
    · exact ⟨a, c, ha, hc, h2, e, fun e3 => h3 (e2.trans e3.symm), A1, A3⟩
    · exact ⟨a, b, ha, hb, h1, e, e2, A1, A2⟩
theorem D3.but2 {vs : List Nat} {A : Nat → Nat → Prop} {x : Nat} (h : D3 vs A x) (u v : Nat) : ∃ b, b ∈ vs ∧ b ≠ u ∧ b ≠ v ∧ A x b := by
  obtain ⟨b, c, hb, hc, h1, h2, h3, A1, A2⟩ := h.but v
  by_cases e : b = u
  · exact ⟨c, hc, fun e2 => h1 (e.trans e2.symm), h3, A2⟩
  · exact ⟨b, hb, e, h2, A1⟩
/-- an edge is contracted: v goes, u takes what it had -/
def ctr (A : Nat → Nat → Prop) (v u : Nat) (x y : Nat) : Prop := A x y ∨ (x = u ∧ A v y ∧ y ≠ u) ∨ (y = u ∧ A v x ∧ x ≠ u)
structure Sm (A : Nat → Nat → Prop) : Prop where
  sym : ∀ x y, A x y → A y x
  irr : ∀ x, ¬ A x x
theorem Sm.ne {A : Nat → Nat → Prop} (h : Sm A) {x y : Nat} (hA : A x y) : x ≠ y := fun e => h.irr x (by rw [← e] at hA; exact hA)
theorem ctr_sm {A : Nat → Nat → Prop} (h : Sm A) (v u : Nat) : Sm (ctr A v u) := by
  refine ⟨fun x y hxy => ?_, fun x hxx => ?_⟩
  · rcases hxy with k | ⟨k1, k2, k3⟩ | ⟨k1, k2, k3⟩
    · exact .inl (h.sym _ _ k)
    · exact .inr (.inr ⟨k1, k2, k3⟩)
    · exact .inr (.inl ⟨k1, k2, k3⟩)
  · rcases hxx with k | ⟨k1, _, k3⟩ | ⟨k1, _, k3⟩
    · exact h.irr x k
    · exact k3 k1
    · exact k3 k1
def upd (c : Nat → Nat) (v i x : Nat) : Nat := if x = v then i else c x
theorem upd_self (c : Nat → Nat) (v i : Nat) : upd c v i v = i := if_pos rfl
theorem upd_ne (c : Nat → Nat) {v i x : Nat} (h : x ≠ v) : upd c v i x = c x := if_neg h
theorem MdL.lift {vs : List Nat} {A : Nat → Nat → Prop} (hA : Sm A) {v u : Nat} (hv : v ∈ vs) (hu : u ∈ vs) (huv : A v u) {vs' : List Nat} (hvs : ∀ x, x ∈ vs' ↔ x ∈ vs ∧ x ≠ v) {c : Nat → Nat} (h : MdL vs' (ctr A v u) c) : MdL vs A (upd c v (c u)) := by
  have hne : u ≠ v := fun e => hA.irr v (by rw [e] at huv; exact huv)
  have hu' : u ∈ vs' := (hvs u).2 ⟨hu, hne⟩
  have cu : upd c v (c u) u = c u := upd_ne c hne
  have cv : upd c v (c u) v = c u := upd_self c v _
  have co : ∀ x, x ∈ vs' → upd c v (c u) x = c x := fun x hx => upd_ne c ((hvs x).1 hx).2
  refine ⟨fun i hi => ?_, fun i hi P hP hcl x hx hcx => ?_, fun i j hij hj => ?_⟩
  · obtain ⟨x, hx, hc⟩ := h.some i hi
    exact ⟨x, ((hvs x).1 hx).1, by rw [co x hx]; exact hc⟩
  · have hcl2 : ∀ x y, x ∈ vs' → y ∈ vs' → c x = i → c y = i → ctr A v u x y → P x → P y := fun x y hx hy ex ey hxy hPx => by
      have hx0 := ((hvs x).1 hx).1
      have hy0 := ((hvs y).1 hy).1
      rcases hxy with k | ⟨k1, k2, _⟩ | ⟨k1, k2, _⟩
      · exact hcl x y hx0 hy0 (by rw [co x hx]; exact ex) (by rw [co y hy]; exact ey) k hPx
      · subst k1
        have hPv := hcl x v hx0 hv (by rw [co x hx]; exact ex) (by rw [cv]; exact ex) (hA.sym _ _ huv) hPx
        exact hcl v y hv hy0 (by rw [cv]; exact ex) (by rw [co y hy]; exact ey) k2 hPv
      · subst k1
        have hPv := hcl x v hx0 hv (by rw [co x hx]; exact ex) (by rw [cv]; exact ey) (hA.sym _ _ k2) hPx
        exact hcl v y hv hy0 (by rw [cv]; exact ey) (by rw [co y hy]; exact ey) huv hPv
    have hst : ∃ y, y ∈ vs' ∧ c y = i ∧ P y := by
      obtain ⟨y, hy, ey, hPy⟩ := hP
      by_cases e : y = v
      · subst e
        rw [cv] at ey
        exact ⟨u, hu', ey, hcl y u hy hu (by rw [cv]; exact ey) (by rw [cu]; exact ey) huv hPy⟩
      · have := (hvs y).2 ⟨hy, e⟩
        exact ⟨y, this, by rw [← co y this]; exact ey, hPy⟩
    have hall := h.conn i hi P hst hcl2
    by_cases e : x = v
    · subst e
      rw [cv] at hcx
      exact hcl u x hu hx (by rw [cu]; exact hcx) (by rw [cv]; exact hcx) (hA.sym _ _ huv) (hall u hu' hcx)
    · have := (hvs x).2 ⟨hx, e⟩
      exact hall x this (by rw [← co x this]; exact hcx)
  · obtain ⟨x, y, hx, hy, hxy, ex, ey⟩ := h.meet i j hij hj
    have hx0 := ((hvs x).1 hx).1
    have hy0 := ((hvs y).1 hy).1
    rcases hxy with k | ⟨k1, k2, _⟩ | ⟨k1, k2, _⟩
    · exact ⟨x, y, hx0, hy0, k, by rw [co x hx]; exact ex, by rw [co y hy]; exact ey⟩
    · subst k1
      exact ⟨v, y, hv, hy0, k2, by rw [cv]; exact ex, by rw [co y hy]; exact ey⟩
    · subst k1
      exact ⟨x, v, hx0, hv, hA.sym _ _ k2, by rw [co x hx]; exact ex, by rw [cv]; exact ey⟩
open Classical in
theorem MdL.induced {vs vs' : List Nat} {A : Nat → Nat → Prop} (hs : ∀ x, x ∈ vs' → x ∈ vs) {c : Nat → Nat} (h : MdL vs' A c) : MdL vs A (fun x => if x ∈ vs' then c x else 4) := by
  have ci : ∀ x i, i < 4 → ((if x ∈ vs' then c x else 4) = i ↔ x ∈ vs' ∧ c x = i) := fun x i hi => by
    by_cases e : x ∈ vs'
    · rw [if_pos e]; exact ⟨fun h => ⟨e, h⟩, fun h => h.2⟩
    · rw [if_neg e]; exact ⟨fun h => by omega, fun h => absurd h.1 e⟩
  refine ⟨fun i hi => ?_, fun i hi P hP hcl x hx hcx => ?_, fun i j hij hj => ?_⟩
  · obtain ⟨x, hx, hc⟩ := h.some i hi
    exact ⟨x, hs x hx, (ci x i hi).2 ⟨hx, hc⟩⟩
  · obtain ⟨hx', hcx'⟩ := (ci x i hi).1 hcx
    obtain ⟨y, hy, hcy, hPy⟩ := hP
    obtain ⟨hy', hcy'⟩ := (ci y i hi).1 hcy
    refine h.conn i hi P ⟨y, hy', hcy', hPy⟩ (fun a b ha hb ea eb hab hPa => ?_) x hx' hcx'
    exact hcl a b (hs a ha) (hs b hb) ((ci a i hi).2 ⟨ha, ea⟩) ((ci b i hi).2 ⟨hb, eb⟩) hab hPa
  · obtain ⟨x, y, hx, hy, hxy, ex, ey⟩ := h.meet i j hij hj
    exact ⟨x, y, hs x hx, hs y hy, hxy, (ci x i (by omega)).2 ⟨hx, ex⟩, (ci y j hj).2 ⟨hy, ey⟩⟩
/-! #### two vertices alike -/
structure Twin (vs : List Nat) (A : Nat → Nat → Prop) (p q u v a b : Nat) : Prop where
  mem : u ∈ vs ∧ v ∈ vs ∧ a ∈ vs ∧ b ∈ vs
  out : u ≠ p ∧ u ≠ q ∧ v ≠ p ∧ v ≠ q
  ab : a ≠ b
  uv : A u v
  ua : A u a
  ub : A u b
  va : A v a
  vb : A v b
  nu : ∀ y, y ∈ vs → A u y → y = v ∨ y = a ∨ y = b
  nv : ∀ y, y ∈ vs → A v y → y = u ∨ y = a ∨ y = b
theorem Twin.swap {vs : List Nat} {A : Nat → Nat → Prop} {p q u v a b : Nat} (h : Twin vs A p q u v a b) : Twin vs A p q u v b a :=
  ⟨⟨h.mem.1, h.mem.2.1, h.mem.2.2.2, h.mem.2.2.1⟩, h.out, h.ab.symm, h.uv, h.ub, h.ua, h.vb, h.va, fun y hy k => (h.nu y hy k).imp id Or.symm, fun y hy k => (h.nv y hy k).imp id Or.symm⟩
/-- what is reached from a without u, v, b -/
inductive Rc (vs : List Nat) (A : Nat → Nat → Prop) (u v a b : Nat) : Nat → Prop
  | base : Rc vs A u v a b a
  | step {x y : Nat} : Rc vs A u v a b x → A x y → y ∈ vs → y ≠ u → y ≠ v → y ≠ b → Rc vs A u v a b y
section
variable {vs : List Nat} {A : Nat → Nat → Prop} {p q u v a b : Nat}
theorem Rc.facts (hA : Sm A) (h : Twin vs A p q u v a b) {x : Nat} (hx : Rc vs A u v a b x) : x ∈ vs ∧ x ≠ u ∧ x ≠ v ∧ x ≠ b := by
  induction hx with
  | base => exact ⟨h.mem.2.2.1, (hA.ne h.ua).symm, (hA.ne h.va).symm, h.ab⟩
  | step _ _ h1 h2 h3 h4 _ => exact ⟨h1, h2, h3, h4⟩
open Classical in
/-- .. one of them is beside b: a model -/
theorem Twin.model (hA : Sm A) (h : Twin vs A p q u v a b) {r : Nat} (hr : Rc vs A u v a b r) (hrb : A r b) : ∃ c, MdL vs A c := by
  let c : Nat → Nat := fun x => if x = u then 0 else if x = v then 1 else if x = b then 2 else if Rc vs A u v a b x then 3 else 4
  obtain ⟨mu, mv, ma, mb⟩ := h.mem
  have nuv := hA.ne h.uv
  have nub := hA.ne h.ub
  have nvb := hA.ne h.vb
  have c0 : c u = 0 := if_pos rfl
  have c1 : c v = 1 := by show (if v = u then 0 else if v = v then 1 else _) = 1; rw [if_neg nuv.symm, if_pos rfl]
  have c2 : c b = 2 := by show (if b = u then 0 else if b = v then 1 else if b = b then 2 else _) = 2; rw [if_neg nub.symm, if_neg nvb.symm, if_pos rfl]
  have c3 : ∀ x, Rc vs A u v a b x → c x = 3 := fun x hx => by
    obtain ⟨_, f1, f2, f3⟩ := hx.facts hA h
    show (if x = u then 0 else if x = v then 1 else if x = b then 2 else if Rc vs A u v a b x then 3 else 4) = 3
    rw [if_neg f1, if_neg f2, if_neg f3, if_pos hx]
  have inv : ∀ x, (c x = 0 → x = u) ∧ (c x = 1 → x = v) ∧ (c x = 2 → x = b) ∧ (c x = 3 → Rc vs A u v a b x) := fun x => by
    by_cases e0 : x = u
    · subst e0; rw [c0]; exact ⟨fun _ => rfl, by omega, by omega, by omega⟩
    by_cases e1 : x = v
    · subst e1; rw [c1]; exact ⟨by omega, fun _ => rfl, by omega, by omega⟩
    by_cases e2 : x = b
    · subst e2; rw [c2]; exact ⟨by omega, by omega, fun _ => rfl, by omega⟩
    by_cases e3 : Rc vs A u v a b x
    · rw [c3 x e3]; exact ⟨by omega, by omega, by omega, fun _ => e3⟩
    · have : c x = 4 := by
        show (if x = u then 0 else if x = v then 1 else if x = b then 2 else if Rc vs A u v a b x then 3 else 4) = 4
        rw [if_neg e0, if_neg e1, if_neg e2, if_neg e3]
      rw [this]; exact ⟨by omega, by omega, by omega, by omega⟩
  have single : ∀ (i w : Nat), (∀ x, c x = i → x = w) → ∀ P : Nat → Prop, (∃ x, x ∈ vs ∧ c x = i ∧ P x) → ∀ x, x ∈ vs → c x = i → P x := fun i w hi P hP x _ hx => by
    obtain ⟨y, _, ey, hy⟩ := hP
    rw [hi x hx]; rw [hi y ey] at hy; exact hy
  refine ⟨c, fun i hi => ?_, fun i hi P hP hcl => ?_, fun i j hij hj => ?_⟩
  · match i, hi with
    | 0, _ => exact ⟨u, mu, c0⟩
    | 1, _ => exact ⟨v, mv, c1⟩
    | 2, _ => exact ⟨b, mb, c2⟩
    | 3, _ => exact ⟨a, ma, c3 a .base⟩
  · match i, hi with
    | 0, _ => exact single 0 u (fun x => (inv x).1) P hP
    | 1, _ => exact single 1 v (fun x => (inv x).2.1) P hP
    | 2, _ => exact single 2 b (fun x => (inv x).2.2.1) P hP
    | 3, _ =>
      obtain ⟨y, hy, ey, hPy⟩ := hP
      have hry := (inv y).2.2.2 ey
      have back : ∀ {z : Nat}, Rc vs A u v a b z → P z → P a := by
        intro z hz
        induction hz with
        | base => exact id
        | @step x z hx hxz hz h1 h2 h3 ih =>
          intro hPz
          refine ih (hcl z x hz (hx.facts hA h).1 (c3 z (.step hx hxz hz h1 h2 h3)) (c3 x hx) (hA.sym _ _ hxz) hPz)
      have hPa := back hry hPy
      have forw : ∀ {z : Nat}, Rc vs A u v a b z → P z := by
        intro z hz
        induction hz with
        | base => exact hPa
        | @step x z hx hxz hz h1 h2 h3 ih => exact hcl x z (hx.facts hA h).1 hz (c3 x hx) (c3 z (.step hx hxz hz h1 h2 h3)) hxz ih
      intro x _ hx
      exact forw ((inv x).2.2.2 hx)
  · have hc : (i = 0 ∧ j = 1) ∨ (i = 0 ∧ j = 2) ∨ (i = 0 ∧ j = 3) ∨ (i = 1 ∧ j = 2) ∨ (i = 1 ∧ j = 3) ∨ (i = 2 ∧ j = 3) := by omega
    rcases hc with ⟨rfl, rfl⟩ | ⟨rfl, rfl⟩ | ⟨rfl, rfl⟩ | ⟨rfl, rfl⟩ | ⟨rfl, rfl⟩ | ⟨rfl, rfl⟩
    · exact ⟨u, v, mu, mv, h.uv, c0, c1⟩
    · exact ⟨u, b, mu, mb, h.ub, c0, c2⟩
    · exact ⟨u, a, mu, ma, h.ua, c0, c3 a .base⟩
    · exact ⟨v, b, mv, mb, h.vb, c1, c2⟩
    · exact ⟨v, a, mv, ma, h.va, c1, c3 a .base⟩
    · exact ⟨b, r, mb, (hr.facts hA h).1, hA.sym _ _ hrb, c2, c3 r hr⟩
end
structure Hyp (vs : List Nat) (A : Nat → Nat → Prop) (p q : Nat) : Prop where
  sm : Sm A
  nd : vs.Nodup
  pq : p ∈ vs ∧ q ∈ vs ∧ (p = q ∨ A p q)
  deg : ∀ x, x ∈ vs → x ≠ p → x ≠ q → D3 vs A x
  out : ∃ x, x ∈ vs ∧ x ≠ p ∧ x ≠ q
section
variable {vs : List Nat} {A : Nat → Nat → Prop} {p q : Nat}
open Classical in
/-- what hangs on the rest by a alone -/
theorem Twin.part {u v a b : Nat} (hH : Hyp vs A p q) (h : Twin vs A p q u v a b) (hno : ∀ r, Rc vs A u v a b r → ¬ A r b) (hpq : ∀ r, Rc vs A u v a b r → r ≠ p ∧ r ≠ q) (ih : ∀ vs' A' p' q', vs'.length < vs.length → Hyp vs' A' p' q' → ∃ c, MdL vs' A' c) : ∃ c, MdL vs A c := by
  have hA := hH.sm
  let vs' := vs.filter fun x => decide (Rc vs A u v a b x)
  have hvs : ∀ x, x ∈ vs' ↔ Rc vs A u v a b x := fun x => by
    rw [List.mem_filter, decide_eq_true_eq]
    exact ⟨fun h => h.2, fun hx => ⟨(hx.facts hA h).1, hx⟩⟩
  have hlt : vs'.length < vs.length := by
    have h1 : vs' ≠ vs := fun e => by
      have : u ∈ vs' := by rw [e]; exact h.mem.1
      exact ((hvs u).1 this).facts hA h |>.2.1 rfl
    have h2 : vs'.length ≤ vs.length := List.length_filter_le _ _
    rcases Nat.lt_or_ge vs'.length vs.length with k | k
    · exact k
    · exact absurd (List.filter_sublist.eq_of_length (Nat.le_antisymm h2 k)) h1
  have hstay : ∀ x y, Rc vs A u v a b x → x ≠ a → A x y → y ∈ vs → Rc vs A u v a b y := fun x y hx hxa hxy hy => by
    obtain ⟨f0, f1, f2, f3⟩ := hx.facts hA h
    refine .step hx hxy hy (fun e => ?_) (fun e => ?_) (fun e => hno x hx (by rw [← e]; exact hxy))
    · rcases h.nu x f0 (hA.sym _ _ (by rw [← e]; exact hxy)) with k | k | k
      · exact f2 k
      · exact hxa k
      · exact f3 k
    · rcases h.nv x f0 (hA.sym _ _ (by rw [← e]; exact hxy)) with k | k | k
      · exact f1 k
      · exact hxa k
      · exact f3 k
  have hH' : Hyp vs' A a a := by
    refine ⟨hA, hH.nd.sublist List.filter_sublist, ⟨(hvs a).2 .base, (hvs a).2 .base, .inl rfl⟩, fun x hx hxa _ => ?_, ?_⟩
    · have hx := (hvs x).1 hx
      have hp := hpq x hx
      obtain ⟨y1, y2, y3, m1, m2, m3, n1, n2, n3, k1, k2, k3⟩ := hH.deg x (hx.facts hA h).1 hp.1 hp.2
      exact ⟨y1, y2, y3, (hvs _).2 (hstay x y1 hx hxa k1 m1), (hvs _).2 (hstay x y2 hx hxa k2 m2), (hvs _).2 (hstay x y3 hx hxa k3 m3), n1, n2, n3, k1, k2, k3⟩
    · have hp := hpq a .base
      obtain ⟨y, hy, n1, n2, k⟩ := (hH.deg a h.mem.2.2.1 hp.1 hp.2).but2 u v
      have : Rc vs A u v a b y := .step .base k hy n1 n2 fun e => hno a .base (by rw [← e]; exact k)
      exact ⟨y, (hvs y).2 this, (hA.ne k).symm, (hA.ne k).symm⟩
  obtain ⟨c, hc⟩ := ih vs' A a a hlt hH'
  exact ⟨_, hc.induced fun x hx => ((hvs x).1 hx).facts hA h |>.1⟩
theorem Twin.done {u v a b : Nat} (hH : Hyp vs A p q) (h : Twin vs A p q u v a b) (ih : ∀ vs' A' p' q', vs'.length < vs.length → Hyp vs' A' p' q' → ∃ c, MdL vs' A' c) : ∃ c, MdL vs A c := by
  have hA := hH.sm
  by_cases h1 : ∃ r, Rc vs A u v a b r ∧ A r b
  · obtain ⟨r, hr, hrb⟩ := h1; exact h.model hA hr hrb
  by_cases h2 : ∃ r, Rc vs A u v b a r ∧ A r a
  · obtain ⟨r, hr, hrb⟩ := h2; exact h.swap.model hA hr hrb
  have no1 : ∀ r, Rc vs A u v a b r → ¬ A r b := fun r hr k => h1 ⟨r, hr, k⟩
  have no2 : ∀ r, Rc vs A u v b a r → ¬ A r a := fun r hr k => h2 ⟨r, hr, k⟩
  by_cases h3 : ∀ r, Rc vs A u v a b r → r ≠ p ∧ r ≠ q
  · exact h.part hH no1 h3 ih
  refine h.swap.part hH no2 (fun s hs => ?_) ih
  have disj : ∀ {s : Nat}, Rc vs A u v b a s → ¬ Rc vs A u v a b s := by
    intro s hs
    induction hs with
    | base => exact fun k => (k.facts hA h).2.2.2 rfl
    | @step x y hx hxy hy n1 n2 n3 ih2 =>
      intro k
      obtain ⟨f0, f1, f2, f3⟩ := hx.facts hA h.swap
      by_cases e : x = b
      · exact no1 y k (by rw [← e]; exact hA.sym _ _ hxy)
      · exact ih2 (.step k (hA.sym _ _ hxy) f0 f1 f2 e)
  obtain ⟨r, hr⟩ := Classical.not_forall.1 h3
  obtain ⟨hr, hrpq⟩ := Classical.not_imp.1 hr
  have hrpq : r = p ∨ r = q := by
    by_cases e : r = p
    · exact .inl e
    · exact .inr (Classical.byContradiction fun e2 => hrpq ⟨e, e2⟩)
  have hsr : ∀ w, (w = p ∨ w = q) → w ≠ s := fun w hw e => by
    subst e
    obtain ⟨f0, f1, f2, f3⟩ := hs.facts hA h.swap
    have hadj : r = w ∨ A r w := by
      rcases hH.pq.2.2 with e | e
      · left
        rcases hrpq with k | k <;> rcases hw with k2 | k2 <;> omega
      · rcases hrpq with k | k <;> rcases hw with k2 | k2
        · left; omega
        · right; rw [k, k2]; exact e
        · right; rw [k, k2]; exact hA.sym _ _ e
        · left; omega
    rcases hadj with e | e
    · exact disj hs (by rw [← e]; exact hr)
    · by_cases eb : w = b
      · exact no1 r hr (by rw [← eb]; exact e)
      · exact disj hs (.step hr e f0 f1 f2 eb)
  exact ⟨fun e => hsr p (.inl rfl) e.symm, fun e => hsr q (.inr rfl) e.symm⟩
/-- what stands in the way of contracting v into u -/
theorem ctr_fail {v u : Nat} (hH : Hyp vs A p q) (hv : v ∈ vs) (hu : u ∈ vs) (hvu : A v u) (hvp : v ≠ p) (hvq : v ≠ q) (ih : ∀ vs' A' p' q', vs'.length < vs.length → Hyp vs' A' p' q' → ∃ c, MdL vs' A' c) :
    (∃ c, MdL vs A c) ∨ (∃ a b, Twin vs A p q u v a b) ∨ ∃ w z, w ∈ vs ∧ z ∈ vs ∧ w ≠ p ∧ w ≠ q ∧ A w u ∧ A w v ∧ A w z ∧ z ≠ u ∧ z ≠ v ∧ ∀ y, y ∈ vs → A w y → y = u ∨ y = v ∨ y = z := by
  have hA := hH.sm
  have hne : u ≠ v := (hA.ne hvu).symm
  let vs' := vs.erase v
  have hvs : ∀ x, x ∈ vs' ↔ x ∈ vs ∧ x ≠ v := fun x => by
    show x ∈ vs.erase v ↔ _
    rw [hH.nd.mem_erase_iff]; exact And.comm
  have hlt : vs'.length < vs.length := by
    show (vs.erase v).length < _
    rw [List.length_erase_of_mem hv]
    have := List.length_pos_of_mem hv
    omega
  have toA : ∀ x y, A x y → ctr A v u x y := fun x y k => .inl k
  by_cases hall : ∀ x, x ∈ vs' → x ≠ p → x ≠ q → D3 vs' (ctr A v u) x
  · left
    have hH' : Hyp vs' (ctr A v u) p q := by
      refine ⟨ctr_sm hA v u, hH.nd.sublist List.erase_sublist, ⟨(hvs p).2 ⟨hH.pq.1, hvp.symm⟩, (hvs q).2 ⟨hH.pq.2.1, hvq.symm⟩, hH.pq.2.2.imp id (toA _ _)⟩, hall, ?_⟩
      obtain ⟨y, hy, n1, n2, k⟩ := (hH.deg v hv hvp hvq).but2 p q
      exact ⟨y, (hvs y).2 ⟨hy, (hA.ne k).symm⟩, n1, n2⟩
    obtain ⟨c, hc⟩ := ih _ _ _ _ hlt hH'
    exact ⟨_, hc.lift hA hv hu hvu hvs⟩
  right
  obtain ⟨w, hw⟩ := Classical.not_forall.1 hall
  obtain ⟨hw', hw⟩ := Classical.not_imp.1 hw
  obtain ⟨hwp, hw⟩ := Classical.not_imp.1 hw
  obtain ⟨hwq, hno⟩ := Classical.not_imp.1 hw
  obtain ⟨hwv, hwne⟩ := (hvs w).1 hw'
  by_cases hwu : w = u
  · left
    subst hwu
    obtain ⟨a, b, ma, mb, nab, na, nb, ka, kb⟩ := (hH.deg w hwv hwp hwq).but v
    obtain ⟨d, e, md, me, nde, nd, ne, kd, ke⟩ := (hH.deg v hv hvp hvq).but w
    have a' := (hvs a).2 ⟨ma, na⟩
    have b' := (hvs b).2 ⟨mb, nb⟩
    have hD : ∀ y, y ∈ vs → y ≠ v → ctr A v w w y → y = a ∨ y = b := fun y hy hyv k => Classical.byContradiction fun hc =>
      hno ⟨a, b, y, a', b', (hvs y).2 ⟨hy, hyv⟩, nab, fun e => hc (.inl e.symm), fun e => hc (.inr e.symm), toA _ _ ka, toA _ _ kb, k⟩
    have vd : ∀ y, y ∈ vs → A v y → y ≠ w → y = a ∨ y = b := fun y hy k hyw => hD y hy (hA.ne k).symm (.inr (.inl ⟨rfl, k, hyw⟩))
    have hva : A v a ∧ A v b := by
      rcases vd d md kd nd with e1 | e1 <;> rcases vd e me ke ne with e2 | e2
      · exact absurd (e1.trans e2.symm) nde
      · subst e1; subst e2; exact ⟨kd, ke⟩
      · subst e1; subst e2; exact ⟨ke, kd⟩
      · exact absurd (e1.trans e2.symm) nde
    refine ⟨a, b, ⟨hwv, hv, ma, mb⟩, ⟨hwp, hwq, hvp, hvq⟩, nab, hA.sym _ _ hvu, ka, kb, hva.1, hva.2, fun y hy k => ?_, fun y hy k => ?_⟩
    · by_cases e : y = v
      · exact .inl e
      · exact .inr (hD y hy e (toA _ _ k))
    · by_cases e : y = w
      · exact .inl e
      · exact .inr (vd y hy k e)
  · right
    have u' := (hvs u).2 ⟨hu, hne⟩
    by_cases hwv2 : A w v
    · have hcu : ctr A v u w u := .inr (.inr ⟨rfl, hA.sym _ _ hwv2, hwu⟩)
      obtain ⟨b, c, mb, mc, nbc, nb, nc, kb, kc⟩ := (hH.deg w hwv hwp hwq).but v
      have key : ∀ z, z ∈ vs → z ≠ u → z ≠ v → A w u → A w z → ∃ w z, w ∈ vs ∧ z ∈ vs ∧ w ≠ p ∧ w ≠ q ∧ A w u ∧ A w v ∧ A w z ∧ z ≠ u ∧ z ≠ v ∧ ∀ y, y ∈ vs → A w y → y = u ∨ y = v ∨ y = z := fun z mz nz nzv ku kz => by
        refine ⟨w, z, hwv, mz, hwp, hwq, ku, hwv2, kz, nz, nzv, fun y hy k => Classical.byContradiction fun hc => ?_⟩
        have y1 : y ≠ u := fun e => hc (.inl e)
        have y2 : y ≠ v := fun e => hc (.inr (.inl e))
        have y3 : y ≠ z := fun e => hc (.inr (.inr e))
        exact hno ⟨u, z, y, u', (hvs z).2 ⟨mz, nzv⟩, (hvs y).2 ⟨hy, y2⟩, nz.symm, y1.symm, y3.symm, toA _ _ ku, toA _ _ kz, toA _ _ k⟩
      by_cases eb : b = u
      · subst eb; exact key c mc nbc.symm nc kb kc
      · by_cases ec : c = u
        · subst ec; exact key b mb nbc nb kc kb
        · exact absurd ⟨u, b, c, u', (hvs b).2 ⟨mb, nb⟩, (hvs c).2 ⟨mc, nc⟩, fun e => eb e.symm, fun e => ec e.symm, nbc, hcu, toA _ _ kb, toA _ _ kc⟩ hno
    · obtain ⟨a, b, c, ma, mb, mc, n1, n2, n3, k1, k2, k3⟩ := hH.deg w hwv hwp hwq
      have ne : ∀ y, A w y → y ≠ v := fun y k e => hwv2 (by rw [← e]; exact k)
      exact absurd ⟨a, b, c, (hvs a).2 ⟨ma, ne a k1⟩, (hvs b).2 ⟨mb, ne b k2⟩, (hvs c).2 ⟨mc, ne c k3⟩, n1, n2, n3, toA _ _ k1, toA _ _ k2, toA _ _ k3⟩ hno
end
theorem dirac_aux : ∀ (n : Nat) (vs : List Nat) (A : Nat → Nat → Prop) (p q : Nat), vs.length = n → Hyp vs A p q → ∃ c, MdL vs A c := by
  intro n
  induction n using Nat.strongRecOn with
  | ind n ihn =>
    intro vs A p q hn hH
    have ih : ∀ vs' A' p' q', vs'.length < vs.length → Hyp vs' A' p' q' → ∃ c, MdL vs' A' c := fun vs' A' p' q' h k => ihn _ (by omega) vs' A' p' q' rfl k
    have hA := hH.sm
    obtain ⟨v, hv, hvp, hvq⟩ := hH.out
    obtain ⟨u, _, _, hu, _, _, _, _, _, kvu, _, _⟩ := hH.deg v hv hvp hvq
    rcases ctr_fail hH hv hu kvu hvp hvq ih with h | ⟨a, b, h⟩ | ⟨w, z, mw, mz, wp, wq, kwu, kwv, kwz, nzu, nzv, nw⟩
    · exact h
    · exact h.done hH ih
    · -- w has just u, v, z; u and v are neighbours
      rcases ctr_fail hH mw mz kwz wp wq ih with h | ⟨a, b, h⟩ | ⟨x, t, mx, mt, xp, xq, kxz, kxw, kxt, ntz, ntw, nx⟩
      · exact h
      · exact h.done hH ih
      · have hx : x = u ∨ x = v := by
          rcases nw x mx (hA.sym _ _ kxw) with e | e | e
          · exact .inl e
          · exact .inr e
          · exact absurd e (hA.ne kxz)
        have go : ∀ x o, x ∈ vs → o ∈ vs → x ≠ p → x ≠ q → A x z → A x w → A x o → A w o → o ≠ z → (∀ y, y ∈ vs → A x y → y = z ∨ y = w ∨ y = t) → (∀ y, y ∈ vs → A w y → y = x ∨ y = o ∨ y = z) → ∃ c, MdL vs A c := by
          intro x o mx mo xp xq k1 k2 k3 k4 noz nx nw
          have eo : o = t := by
            rcases nx o mo k3 with e | e | e
            · exact absurd e noz
            · exact absurd e (hA.ne k4).symm
            · exact e
          refine Twin.done (u := x) (v := w) (a := o) (b := z) hH ⟨⟨mx, mw, mo, mz⟩, ⟨xp, xq, wp, wq⟩, noz, k2, k3, k1, k4, kwz, fun y hy k => ?_, nw⟩ ih
          rcases nx y hy k with e | e | e
          · exact .inr (.inr e)
          · exact .inl e
          · exact .inr (.inl (e.trans eo.symm))
        rcases hx with e | e
        · subst e
          exact go x v mx hv xp xq kxz kxw (hA.sym _ _ kvu) kwv nzv.symm nx nw
        · subst e
          exact go x u mx hu xp xq kxz kxw kvu kwu nzu.symm nx fun y hy k => by
            rcases nw y hy k with e | e | e
            · exact .inr (.inl e)
            · exact .inl e
            · exact .inr (.inr e)
/-- where all have three neighbours there is a model of the complete graph of four -/
theorem dirac {vs : List Nat} {A : Nat → Nat → Prop} (hA : Sm A) (hn : vs.Nodup) (hd : ∀ x, x ∈ vs → D3 vs A x) (h0 : vs ≠ []) : ∃ c, MdL vs A c := by
  obtain ⟨p, hp⟩ := List.exists_mem_of_ne_nil _ h0
  obtain ⟨y, _, _, hy, _, _, _, _, _, k, _, _⟩ := hd p hp
  exact dirac_aux vs.length vs A p p rfl ⟨hA, hn, ⟨hp, hp, .inl rfl⟩, fun x hx _ _ => hd x hx, y, hy, (hA.ne k).symm, (hA.ne k).symm⟩
end Go.Sh

set_option linter.unusedVariables false
set_option linter.unusedSimpArgs false
namespace Go.Sh
/-! ### reduction by a table -/
theorem sorted_eq : ∀ {l m : List Int}, l.Pairwise (· < ·) → m.Pairwise (· < ·) → (∀ x, x ∈ l ↔ x ∈ m) → l = m := by
  intro l
  induction l with
  | nil =>
    intro m _ _ h
    cases m with
    | nil => rfl
    | cons b m => have := (h b).2 (by simp); simp at this
  | cons a l ih =>
    intro m hl hm h
    cases m with
    | nil => have := (h a).1 (by simp); simp at this
    | cons b m =>
      rw [List.pairwise_cons] at hl hm
      have hab : a = b := by
        rcases List.mem_cons.1 ((h a).1 (by simp)) with e | e
        · exact e
        · rcases List.mem_cons.1 ((h b).2 (by simp)) with e2 | e2
          · exact e2.symm
          · have := hl.1 b e2; have := hm.1 a e; omega
      subst hab
      rw [ih hl.2 hm.2 fun x => ?_]
      have := h x
      simp only [List.mem_cons] at this
      constructor
      · intro hx
        rcases this.1 (.inr hx) with e | e
        · have := hl.1 x hx; omega
        · exact e
      · intro hx
        rcases this.2 (.inr hx) with e | e
        · have := hm.1 x hx; omega
        · exact e
theorem mem_range_cast {p : Nat → Bool} {n : Nat} {x : Int} : x ∈ ((List.range n).filter p).map (fun (x : Nat) => (x : Int)) ↔ ∃ k : Nat, k < n ∧ p k = true ∧ x = k := by
  rw [List.mem_map]
  constructor
  · rintro ⟨k, hk, rfl⟩
    rw [List.mem_filter, List.mem_range] at hk
    exact ⟨k, hk.1, hk.2, rfl⟩
  · rintro ⟨k, h1, h2, rfl⟩
    exact ⟨k, by rw [List.mem_filter, List.mem_range]; exact ⟨h1, h2⟩, rfl⟩
section
variable {n : Nat} {N : List (List Int)} {G I : List Bool} {M : List (List Bool)}
end
end Go.Sh

set_option linter.unusedVariables false
set_option linter.unusedSimpArgs false
namespace Go.Sh
open Go.Proofs
/-! ### a table, as it lies in memory -/
section
variable {n : Nat} {N : List (List Int)} {G I : List Bool} {M : List (List Bool)}
end
end Go.Sh

set_option linter.unusedVariables false
set_option linter.unusedSimpArgs false
namespace Go.Sh
open Go.Proofs
end Go.Sh

set_option linter.unusedVariables false
set_option linter.unusedSimpArgs false
namespace Go.Sh
open Go.Proofs
/-! ### carcanetlaw10.shown -/
/-! ### carcanetlaw10.ReduceWrong -/
end Go.Sh

set_option linter.unusedVariables false
set_option linter.unusedSimpArgs false
namespace Go.Sh
open Go.Proofs
/-! ### how much is left -/
theorem firstMay_may {N : List (List Int)} {G : List Bool} {v : Nat} (h : firstMay N G = some v) : mayB N G v = true := by
  have := List.find?_some h
  simpa using this
theorem runS_wf : ∀ (f : Nat) {N : List (List Int)} {G : List Bool}, Wf N G → Wf (runS f N G).2.1 (runS f N G).2.2 ∧ (runS f N G).2.1.length = N.length ∧ (runS f N G).1.length ≤ f := by
  intro f
  induction f with
  | zero => intro N G h; exact ⟨h, rfl, by simp [runS]⟩
  | succ f ih =>
    intro N G h
    cases hf : firstMay N G with
    | none => rw [runS_end hf]; exact ⟨h, rfl, by simp⟩
    | some v =>
      rw [runS_go hf]
      obtain ⟨h1, h2, h3⟩ := ih (do_wf h (mayB_iff.1 (firstMay_may hf)))
      exact ⟨h1, by rw [h2, doN_length], by simp; omega⟩
/-! ### carcanetref10.Narrow -/
/-! ### carcanetref10.Same -/
/-! ### carcanetlaw10.ours -/
/-! ### carcanetlaw10.theirs -/
end Go.Sh

set_option linter.unusedVariables false
set_option linter.unusedSimpArgs false
namespace Go.Sh
/-! ### what is left, as a graph -/
theorem mem_leftF {G : List Bool} {v : Int} : v ∈ leftF G ↔ 0 ≤ v ∧ v < G.length ∧ goneAt G v = false := by
  unfold leftF
  rw [mem_range_cast]
  constructor
  · rintro ⟨k, h1, h2, rfl⟩
    refine ⟨by omega, by omega, ?_⟩
    rw [goneAt_nat]
    simpa using h2
  · rintro ⟨h1, h2, h3⟩
    refine ⟨v.toNat, by omega, ?_, by omega⟩
    unfold goneAt at h3
    rw [h3]; rfl
/-! ### runs -/
def live (G : List Bool) : Nat := G.countP (!·)
theorem first_no {N : List (List Int)} {G : List Bool} (h : firstMay N G = none) (u : Int) : mayB N G u = false := by
  cases hu : mayB N G u with
  | false => rfl
  | true =>
    have hm := mayB_iff.1 hu
    unfold firstMay at h
    rw [List.find?_eq_none] at h
    have h0 := hm.lo
    have h1 := hm.hi
    have := h u.toNat (by rw [List.mem_range]; omega)
    rw [Int.toNat_of_nonneg h0] at this
    exact absurd hu this
theorem live_pos {N : List (List Int)} {G : List Bool} (hW : Wf N G) {v : Int} (hm : mayB N G v = true) : 1 ≤ live G := by
  have := live_step hW (mayB_iff.1 hm)
  unfold live; omega
theorem run_end {N : List (List Int)} {G : List Bool} : ∀ {f : Nat}, Wf N G → live G ≤ f → ∀ u, mayB (runS f N G).2.1 (runS f N G).2.2 u = false := by
  intro f
  induction f generalizing N G with
  | zero =>
    intro h hf u
    cases hu : mayB N G u with
    | false => exact hu
    | true => have := live_pos h hu; omega
  | succ f ih =>
    intro h hf u
    cases hm : firstMay N G with
    | none => rw [runS_end hm]; exact first_no hm u
    | some v =>
      rw [runS_go hm]
      have hv := mayB_iff.1 (firstMay_may hm)
      have := live_step h hv
      exact ih (do_wf h hv) (by unfold live at hf ⊢; omega) u
theorem run_count {f : Nat} : ∀ {N : List (List Int)} {G : List Bool}, Wf N G → (runS f N G).1.length + live (runS f N G).2.2 = live G := by
  induction f with
  | zero => intro N G _; simp [runS]
  | succ f ih =>
    intro N G h
    cases hm : firstMay N G with
    | none => rw [runS_end hm]; simp
    | some v =>
      rw [runS_go hm]
      have hv := mayB_iff.1 (firstMay_may hm)
      have h1 := live_step h hv
      have h2 := ih (do_wf h hv)
      unfold live at *
      simp only [List.length_cons]
      omega
theorem live_zero (n : Nat) : live (List.replicate n false) = n := by unfold live; simp [List.countP_replicate]
end Go.Sh

set_option linter.unusedVariables false
set_option linter.unusedSimpArgs false
namespace Go.Sh
open Go.Proofs
/-! ### graph.Degrees -/
end Go.Sh

namespace Go.Proofs
open Go.RowKit Go.Shelf Go.Maps Go.Sort

attribute [local go_sem] Oper.semAt_some
set_option maxRecDepth 100000 in
set_option maxHeartbeats 2000000 in
theorem Try.collect_in (F : Fence) (n : Nat) (h102 : F.fn 118) (h116 : F.fn 136) (h103 : F.fn 119) (hro : F.round = none) (hn : 4 ≤ n) (Bs n₀ : Nat) (sv : Value) (zs : List Int) (hlen : zs.length ≤ maxLen) (hreach : zs.length * 8 ≤ 140737488351232) (w : World) (hBs : Bs < w.heap.size) (hn₀ : n₀ ≤ w.heap.size)
    (hc : w.cell? ⟨Bs, 0, none⟩ = some sv) (hI : Try.Ints n₀ w sv zs) :
    CallsIn F n Try.prog 118 #[.func (.func 119) #[] #[.pointer (some ⟨Bs, 0, none⟩)]] w fun e W' => ∃ v, e = .returned v ∧ W'.ownsRow w.heap.size 3 1 v zs.length (zs.map (Value.int .i64)) ∧ (v = .slice none 0 0 ↔ zs = []) ∧ Below w.heap.size w W' := by
  have h1 : 1 ≤ n := by omega
  refine callsIn_of_wp Try.func118 rfl h102 ?_ hro
  simp only [Try.ntmps118, List.size_toArray, List.length_cons, List.length_nil, Nat.reduceAdd, Nat.reduceSub, Array.replicate_succ, Array.replicate_zero, List.push_toArray, List.append_toArray, List.nil_append, List.cons_append]
  gi_wp2_with (gi_at_call 136; refine (Try.appendSeq_in F (n - 1) h116 h103 hro (by omega) Bs n₀ sv zs hlen hreach w hBs hn₀ hc hI).mono ?_; rintro e w' ⟨v, rfl, hrow, hnil, hB⟩)
  go_ret
  exact ⟨v, rfl, hrow, hnil, hB⟩
def Try.SortsIn (F : Fence) (m : Nat) : Prop :=
  (∀ (blk off cap : Nat) (ss : List Int) (W : World), Holds (Value.int .i64) W blk off ss.toArray → blk < W.heap.size → ss.length < 4611686018427387904 →
    CallsIn F m Try.prog 59 #[.slice (some ⟨blk, off, none⟩) ss.length cap] W fun e w' => e = .returned (.tuple #[]) ∧ ∃ k os, w' = grow (putRow (Value.int .i64) (Sort.ahead W k) blk off (ss.mergeSort fun x y => decide (x ≤ y)).toArray) os) ∧
  (∀ (p : Option Addr) (cap : Nat) (W : World), CallsIn F m Try.prog 59 #[.slice p 0 cap] W fun e w' => e = .returned (.tuple #[]) ∧ w' = W)
theorem Try.sortsIn (m : Nat) : Try.SortsIn Fence.wide m :=
  ⟨fun blk off cap ss W h1 h2 h3 => callsIn_wide.2 (Any.slices_Sort_int Try.laysSort blk off cap ss W h1 h2 h3), fun p cap W => callsIn_wide.2 (Any.slices_Sort_int_none Try.laysSort p cap W)⟩
set_option maxRecDepth 100000 in
set_option maxHeartbeats 2000000 in
theorem Try.sorted_in (F : Fence) (n : Nat) (h92 : F.fn 91) (h84 : F.fn 59) (h102 : F.fn 118) (h116 : F.fn 136) (h103 : F.fn 119) (hro : F.round = none) (hn : 5 ≤ n) (hsort : Try.SortsIn F (n - 1)) (Bs n₀ : Nat) (sv : Value) (zs : List Int) (hlen : zs.length ≤ maxLen) (hreach : zs.length * 8 ≤ 140737488351232) (w : World) (hBs : Bs < w.heap.size) (hn₀ : n₀ ≤ w.heap.size)
    (hc : w.cell? ⟨Bs, 0, none⟩ = some sv) (hI : Try.Ints n₀ w sv zs) :
    CallsIn F n Try.prog 91 #[.func (.func 119) #[] #[.pointer (some ⟨Bs, 0, none⟩)]] w fun e W' => ∃ v, e = .returned v ∧ W'.ownsRow w.heap.size 3 1 v zs.length ((zs.mergeSort (fun x y => decide (x ≤ y))).map (Value.int .i64)) ∧ (v = .slice none 0 0 ↔ zs = []) ∧ Below w.heap.size w W' := by
  have h1 : 1 ≤ n := by omega
  refine callsIn_of_wp Try.func91 rfl h92 ?_ hro
  simp only [Try.ntmps91, List.size_toArray, List.length_cons, List.length_nil, Nat.reduceAdd, Nat.reduceSub, Array.replicate_succ, Array.replicate_zero, List.push_toArray, List.append_toArray, List.nil_append, List.cons_append]
  gi_wp2_with (gi_at_call 118; refine (Try.collect_in F (n - 1) h102 h116 h103 hro (by omega) Bs n₀ sv zs hlen hreach w hBs hn₀ hc hI).mono ?_; rintro e W ⟨v, rfl, hrow, hnil, hb⟩)
  rcases hrow.2 with ⟨rfl, hz⟩ | ⟨gb, cap, cur, rfl, hbase, hgb, r1, r2, r3, r4⟩
  · have hss : zs = [] := List.eq_nil_of_length_eq_zero hz
    subst hss
    gi_wp2_with (gi_at_call 59; refine (hsort.2 none 0 W).mono ?_; rintro e w' ⟨rfl, rfl⟩)
    go_ret
    exact ⟨.slice none 0 0, rfl, by simpa using hrow, by simp, hb⟩
  · have hH : Holds (Value.int .i64) W gb 0 zs.toArray := holds_of_block_i hgb (by simpa using r4)
    have hgl : gb < W.heap.size := (Array.getElem?_eq_some_iff.1 hgb).1
    have hsz : zs.length < 4611686018427387904 := by omega
    have cS := hsort.1 gb 0 cap zs W hH hgl hsz
    gi_wp2_with (gi_at_call 59; refine cS.mono ?_; rintro e w' ⟨rfl, nn, os, rfl⟩)
    go_ret
    exact ⟨_, rfl, ownsRow_sorted_i (by simp) hbase hgb r1 r2 r3, hnil, hb.grown (grownBy_sorted_i _) hb.size (fun j hj => by cases hj; exact hbase)⟩
end Go.Proofs

namespace Go.Proofs
open Go.RowKit Go.Shelf Go.Maps Go.Sort

theorem Try.keeps_iff (s : List Int) (j : Nat) (hj : j < s.length) : Lib.keeps s.toArray j = true ↔ (j = 0 ∨ s[j] ≠ s[j - 1]'(by omega)) := by
  have h1 : s.toArray[j]! = s[j] := by rw [getElem!_pos _ j (by simpa using hj)]; simp
  have h2 : s.toArray[j - 1]! = s[j - 1]'(by omega) := by rw [getElem!_pos _ (j - 1) (by simp; omega)]; simp
  unfold Lib.keeps
  rw [h1, h2]
  simp
theorem Try.compact_nodup {s : List Int} (hs : s.Pairwise (· ≤ ·)) : (Lib.compact s).length = s.length ↔ s.Nodup := by
  unfold Lib.compact Lib.compactUpTo
  rw [List.length_map]
  have hr : s.length = (List.range s.length).length := by simp
  constructor
  · intro h
    have hall : ∀ j ∈ List.range s.length, Lib.keeps s.toArray j = true := by
      refine List.length_filter_eq_length_iff.1 ?_
      rw [h]; exact hr
    have hlt : ∀ i j (hij : i < j) (hj : j < s.length), s[i]'(by omega) < s[j] := by
      intro i j hij hj
      have hk := (Try.keeps_iff s j hj).1 (hall j (List.mem_range.2 hj))
      have hne : s[j] ≠ s[j - 1]'(by omega) := by rcases hk with h | h <;> first | omega | exact h
      have hle : s[j - 1]'(by omega) ≤ s[j] := by
        have := List.pairwise_iff_getElem.1 hs (j - 1) j (by omega) hj (by omega)
        exact this
      have h2 : s[i]'(by omega) ≤ s[j - 1]'(by omega) := by
        rcases Nat.eq_or_lt_of_le (show i ≤ j - 1 by omega) with e | h
        · subst e; exact Int.le_refl _
        · exact List.pairwise_iff_getElem.1 hs i (j - 1) (by omega) (by omega) h
      omega
    exact List.pairwise_iff_getElem.2 fun i j hi hj hij => by have := hlt i j hij hj; omega
  · intro h
    rw [List.length_filter_eq_length_iff.2 ?_]
    · simp
    · intro j hj
      have hj := List.mem_range.1 hj
      rw [Try.keeps_iff s j hj]
      by_cases h0 : j = 0
      · exact .inl h0
      · have := List.pairwise_iff_getElem.1 h (j - 1) j (by omega) hj (by omega)
        exact .inr fun e => this e.symm
def Try.sortL (zs : List Int) : List Int := zs.mergeSort (fun x y => decide (x ≤ y))
theorem Try.sortL_sorted (zs : List Int) : (Try.sortL zs).Pairwise (· ≤ ·) := by
  have := List.pairwise_mergeSort (le := fun a b : Int => decide (a ≤ b)) (fun a b c h1 h2 => by simp at *; omega) (fun a b => by simp; omega) zs
  exact this.imp (fun h => by simpa using h)
theorem Try.compact_sort (zs : List Int) : (Lib.compact (Try.sortL zs)).length = zs.length ↔ zs.Nodup := by
  have hp : (Try.sortL zs).Perm zs := List.mergeSort_perm zs _
  rw [← hp.length_eq, Try.compact_nodup (Try.sortL_sorted zs), hp.nodup_iff]
def Try.CompactsIn (F : Fence) (m : Nat) : Prop :=
  (∀ (blk off cap : Nat) (zs : List Int) (w : World), Holds (Value.int .i64) w blk off zs.toArray → zs.length ≤ 9223372036854775807 → zs.length ≤ cap →
    CallsIn F m Try.prog 93 #[.slice (some ⟨blk, off, none⟩) zs.length cap] w fun e w' => e = .returned (.slice (some ⟨blk, off, none⟩) (Lib.compact zs).length cap) ∧ ∃ q, w' = putRow (Value.int .i64) (Sort.ahead w q) blk off (Lib.compact zs ++ List.replicate (zs.length - (Lib.compact zs).length) 0).toArray) ∧
  (∀ (a : Option Addr) (cap : Nat) (w : World), CallsIn F m Try.prog 93 #[.slice a 0 cap] w fun e w' => e = .returned (.slice a 0 cap) ∧ w' = w)
theorem Try.compactsIn (m : Nat) : Try.CompactsIn Fence.wide m :=
  ⟨fun blk off cap ss W h1 h2 h3 => callsIn_wide.2 (Any.slices_Compact_int Try.laysCompact blk off cap ss W h1 h2 h3), fun p cap W => callsIn_wide.2 (Any.slices_Compact_int_empty Try.laysCompact p cap W)⟩
set_option maxRecDepth 100000 in
set_option maxHeartbeats 2000000 in
theorem Try.unlike_in (F : Fence) (n : Nat) (h77 : F.fn 61) (h93 : F.fn 92) (h94 : F.fn 93) (h92 : F.fn 91) (h84 : F.fn 59) (h102 : F.fn 118) (h116 : F.fn 136) (h103 : F.fn 119) (hro : F.round = none) (hn : 6 ≤ n) (hsort : Try.SortsIn F (n - 1 - 1)) (hcomp : Try.CompactsIn F (n - 1)) (a : Option Addr) (cap : Nat) (zs : List Int) (hlen : zs.length ≤ 1000000) (w : World)
    (hI : Try.Ints w.heap.size w (.slice a zs.length cap) zs) :
    CallsIn F n Try.prog 61 #[.slice a zs.length cap] w fun e W' => e = .returned (.bool (decide zs.Nodup)) ∧ Below w.heap.size w W' := by
  have h1 : 1 ≤ n := by omega
  have hml : zs.length ≤ maxLen := by unfold maxLen; omega
  have hB0 : Below w.heap.size w (w.alloc (.cells #[.slice a zs.length cap] 30)) := ((Below.refl _ w).alloc (Nat.le_refl _) _)
  have bO := Boxed.new w 30 (.slice a zs.length cap)
  have hcs := Try.compact_sort zs
  have hsl : (Try.sortL zs).length = zs.length := (List.mergeSort_perm zs _).length_eq
  refine callsIn_of_wp Try.func61 rfl h77 ?_ hro
  simp only [Try.ntmps61, List.size_toArray, List.length_cons, List.length_nil, Nat.reduceAdd, Nat.reduceSub, Array.replicate_succ, Array.replicate_zero, List.push_toArray, List.append_toArray, List.nil_append, List.cons_append]
  gi_wp2_with (first
    | (gi_at_call 92; refine (Try.values_in F (n - 1) h93 hro _ _ _ _).mono ?_; rintro e w' ⟨rfl, rfl⟩)
    | (gi_at_call 91; refine (Try.sorted_in F (n - 1) h92 h84 h102 h116 h103 hro (by omega) hsort w.heap.size w.heap.size _ zs hml (by omega) _ (by simp) (by simp) bO.cell (hI.below hB0)).mono ?_; rintro e W ⟨v, rfl, hrow, hnil, hb⟩))
  rcases hrow.2 with ⟨rfl, hz⟩ | ⟨gb, cap', cur, rfl, hbase, hgb, r1, r2, r3, r4⟩
  · have hss : zs = [] := List.eq_nil_of_length_eq_zero hz
    subst hss
    gi_wp2_with (gi_at_call 93; refine (hcomp.2 none 0 W).mono ?_; rintro e w' ⟨rfl, rfl⟩)
    go_ret
    exact ⟨rfl, hB0.trans (hb.mono (by simp))⟩
  · have hH : Holds (Value.int .i64) W gb 0 (Try.sortL zs).toArray := holds_of_block_i hgb (by rw [hsl]; simpa [Try.sortL] using r4)
    have hsz : (Try.sortL zs).length ≤ 9223372036854775807 := by omega
    have cS := hcomp.1 gb 0 cap' (Try.sortL zs) W hH hsz (by omega)
    rw [hsl] at cS
    gi_wp2_with (gi_at_call 93; refine cS.mono ?_; rintro e w' ⟨rfl, q, rfl⟩)
    go_ret
    have hg : W.grownBy (putRow encZ (Sort.ahead W q) gb 0 (Lib.compact (Try.sortL zs) ++ List.replicate (zs.length - (Lib.compact (Try.sortL zs)).length) 0).toArray) (some gb) := by
      have := grownBy_sorted_i (w := W) (g := gb) (n := q) (os := #[]) (Lib.compact (Try.sortL zs) ++ List.replicate (zs.length - (Lib.compact (Try.sortL zs)).length) 0).toArray
      rwa [grow_empty] at this
    have hb1 : Below w.heap.size w W := hB0.trans (hb.mono (by simp))
    refine ⟨?_, hb1.grown hg hb1.size (fun j hj => by cases hj; simp at hbase; omega)⟩
    show Ending.returned (.bool (((Lib.compact (Try.sortL zs)).length : Int) == (zs.length : Int))) = _
    congr 2
    by_cases hd : zs.Nodup
    · rw [decide_eq_true hd, hcs.2 hd]; simp
    · rw [decide_eq_false hd]
      exact beq_eq_false_iff_ne.2 fun h => hd (hcs.1 (by omega))
open Go.Sh in
theorem Try.ints_of {w : World} {l : List Int} {A : Option Addr} {c : Nat} (h : FlatOk w noLab none A c 1 (ints l)) : Try.Ints w.heap.size w (.slice A l.length c) l := by
  cases l with
  | nil => exact .inl ⟨rfl, A, c, rfl⟩
  | cons x l =>
    obtain ⟨a, rfl, _, h0⟩ := h.cell 0 [.i .i64 x] 0 (.i .i64 x) rfl rfl
    refine .inr ⟨a, c, rfl, ?_, fun j hj => ?_⟩
    · have h0 : w.cell? (a.add (0 * 1 + 0)) = some (Sc.val (.i .i64 x)) := h0
      have e : (a.add (0 * 1 + 0)).block = a.block := Try.add_block a _
      rw [← e]
      generalize a.add (0 * 1 + 0) = p at h0
      simp only [World.cell?] at h0
      by_cases hp : p.block < w.heap.size
      · exact hp
      · rw [Array.getElem?_eq_none (by omega)] at h0
        simp at h0
    · have hg := List.getElem?_eq_getElem hj
      obtain ⟨b, hb, _, hc⟩ := h.cell j [.i .i64 (x :: l)[j]] 0 (.i .i64 (x :: l)[j]) (ints_get hg) rfl
      injection hb with hb
      subst hb
      rw [Nat.mul_one, Nat.add_zero] at hc
      rw [hc, hg]; rfl
end Go.Proofs


set_option linter.unusedVariables false
namespace Go.Sh
open Go.Proofs
/-! ### walk.unlike -/
theorem Unlike_ok : SoundC Try.prog T 61 UnlikeC := by
  refine sound_pure Try.func61 (by rfl) (by rfl) (by simp [UnlikeC, conP]) ?_
  intro vs r outs hF w us hus
  obtain ⟨l, hl, rfl, rfl⟩ := conF_inv (pre := fun l : List Int => l.length ≤ 1000000) (enc := fun l => [.one (.flat false 1 (ints l))]) (val := fun l => .one (.s (.b (decide l.Nodup)))) hF
  have hl : l.length ≤ 1000000 := hl
  obtain ⟨u, hu⟩ : ∃ u, us.toList = [u] ∧ V1Ok w noLab 0 (.one (.flat false 1 (ints l))) u := by
    cases h : us.toList with
    | nil => rw [h] at hus; exact hus.elim
    | cons u r =>
      rw [h] at hus
      cases r with
      | nil => exact ⟨u, rfl, hus.1⟩
      | cons _ _ => exact hus.2.elim
  obtain ⟨he, ⟨x, hx, hF⟩⟩ := hu
  obtain rfl : us = #[u] := by cases us; simp_all
  subst hx
  rw [ints_length]
  refine ((callsIn_wide (n := 6)).1 (Try.unlike_in Fence.wide 6 trivial trivial trivial trivial trivial trivial trivial trivial rfl (by omega) (Try.sortsIn _) (Try.compactsIn _) x.A x.c l hl w (Try.ints_of hF))).mono ?_
  rintro e w' ⟨rfl, hb⟩
  exact ⟨_, noLab, rfl, ⟨hb.os, .of hb.tape, hb.output, hb.size, fun b h _ => hb.block b h⟩, fun b k h => by simp [noLab] at h, ⟨⟨none, 0, fun _ => none, fun _ => 0⟩, rfl⟩⟩
end Go.Sh

set_option linter.unusedVariables false
set_option linter.unusedSimpArgs false
namespace Go.Sh
open Go.Proofs
/-! ### carcanetref08.Size, joined, touch -/
/-! ### carcanetref08.Check -/
theorem flatten_len {S : List (List Int)} {m : Nat} (h : ∀ l ∈ S, l.length ≤ m) : S.flatten.length ≤ S.length * m := by
  induction S with
  | nil => simp
  | cons x S ih =>
    have h1 := h x (by simp)
    have h2 := ih fun l hl => h l (by simp [hl])
    rw [List.flatten_cons, List.length_append, List.length_cons, Nat.succ_mul]
    omega
theorem flat_snoc (S : List (List Int)) (x : List Int) : (S ++ [x]).flatten = S.flatten ++ x := by simp
theorem ints_append (l m : List Int) : ints (l ++ m) = ints l ++ ints m := by simp [ints]
end Go.Sh

set_option linter.unusedVariables false
set_option linter.unusedSimpArgs false
namespace Go.Sh
/-! ### few edges, few vertices -/
theorem nodup_lenG {α : Type} [DecidableEq α] {l : List α} : ∀ {m : List α}, l.Nodup → (∀ x ∈ l, x ∈ m) → l.length ≤ m.length := by
  induction l with
  | nil => intro m _ _; simp
  | cons x l ih =>
    intro m h s
    rw [List.nodup_cons] at h
    have hx := s x (by simp)
    have := ih (m := m.erase x) h.2 fun y hy => (List.mem_erase_of_ne (fun (e : y = x) => h.1 (by rw [← e]; exact hy))).2 (s y (by simp [hy]))
    rw [List.length_erase_of_mem hx] at this
    have := List.length_pos_of_mem hx
    simp; omega
theorem range_len {n : Int} {l : List Int} (h : l.Nodup) (hr : ∀ v ∈ l, 0 ≤ v ∧ v < n) : l.length ≤ n.toNat := by
  have := nodup_lenG (m := (List.range n.toNat).map fun (i : Nat) => (i : Int)) h fun v hv => by
    have := hr v hv
    exact List.mem_map.2 ⟨v.toNat, List.mem_range.2 (by omega), by omega⟩
  simpa using this
end Go.Sh

set_option linter.unusedVariables false
set_option linter.unusedSimpArgs false
namespace Go.Sh
/-! ### a vertex of two neighbours goes: models stay, and come back -/
theorem MdL.mono {vs : List Nat} {A A' : Nat → Nat → Prop} {c : Nat → Nat} (h : MdL vs A c) (hs : ∀ x y, x ∈ vs → y ∈ vs → A x y → A' x y) : MdL vs A' c :=
  ⟨h.some, fun i hi P hP hcl => h.conn i hi P hP fun x y hx hy ex ey k => hcl x y hx hy ex ey (hs x y hx hy k), fun i j hij hj => by
    obtain ⟨x, y, hx, hy, k, e⟩ := h.meet i j hij hj
    exact ⟨x, y, hx, hy, hs x y hx hy k, e⟩⟩
/-- but for a vertex that is in no set -/
theorem MdL.off {vs vs' : List Nat} {A A' : Nat → Nat → Prop} {c : Nat → Nat} {v : Nat} (h : MdL vs A c) (hc : 4 ≤ c v) (hv : ∀ x, x ≠ v → (x ∈ vs ↔ x ∈ vs')) (hs : ∀ x y, x ≠ v → y ≠ v → A x y → A' x y) : MdL vs' A' c := by
  have ne : ∀ x i, i < 4 → c x = i → x ≠ v := fun x i hi e k => by rw [k] at e; omega
  refine ⟨fun i hi => ?_, fun i hi P hP hcl x hx ex => ?_, fun i j hij hj => ?_⟩
  · obtain ⟨x, hx, e⟩ := h.some i hi
    exact ⟨x, (hv x (ne x i hi e)).1 hx, e⟩
  · obtain ⟨y, hy, ey, hPy⟩ := hP
    exact h.conn i hi P ⟨y, (hv y (ne y i hi ey)).2 hy, ey, hPy⟩ (fun a b ha hb ea eb k => hcl a b ((hv a (ne a i hi ea)).1 ha) ((hv b (ne b i hi eb)).1 hb) ea eb (hs a b (ne a i hi ea) (ne b i hi eb) k)) x ((hv x (ne x i hi ex)).2 hx) ex
  · obtain ⟨x, y, hx, hy, k, ex, ey⟩ := h.meet i j hij hj
    have nx := ne x i (by omega) ex
    have ny := ne y j hj ey
    exact ⟨x, y, (hv x nx).1 hx, (hv y ny).1 hy, hs x y nx ny k, ex, ey⟩
open Classical in
theorem MdL.down {vs vs' : List Nat} {A : Nat → Nat → Prop} (hA : Sm A) {v w : Nat} (hv : v ∈ vs) (hw : w ∈ vs) (hvw : A v w) (hvs : ∀ x, x ∈ vs' ↔ x ∈ vs ∧ x ≠ v) {c : Nat → Nat} (h : MdL vs A c) (hc : c v = c w) : MdL vs' (ctr A v w) c := by
  have hne : w ≠ v := (hA.ne hvw).symm
  have hw' := (hvs w).2 ⟨hw, hne⟩
  refine ⟨fun i hi => ?_, fun i hi P hP hcl x hx ex => ?_, fun i j hij hj => ?_⟩
  · obtain ⟨x, hx, e⟩ := h.some i hi
    by_cases k : x = v
    · subst k; exact ⟨w, hw', by rw [← hc]; exact e⟩
    · exact ⟨x, (hvs x).2 ⟨hx, k⟩, e⟩
  · obtain ⟨hx0, hxv⟩ := (hvs x).1 hx
    obtain ⟨y, hy, ey, hPy⟩ := hP
    obtain ⟨hy0, hyv⟩ := (hvs y).1 hy
    have := h.conn i hi (fun z => if z = v then P w else P z) ⟨y, hy0, ey, by rw [if_neg hyv]; exact hPy⟩ (fun a b ha hb ea eb k hPa => by
      try dsimp only at hPa ⊢
      by_cases e1 : a = v
      · subst e1
        rw [if_pos rfl] at hPa
        have nb : b ≠ a := (hA.ne k).symm
        rw [if_neg nb]
        by_cases e2 : b = w
        · rw [e2]; exact hPa
        · exact hcl w b hw' ((hvs b).2 ⟨hb, nb⟩) (by rw [← hc]; exact ea) eb (.inr (.inl ⟨rfl, k, e2⟩)) hPa
      · rw [if_neg e1] at hPa
        have ha' := (hvs a).2 ⟨ha, e1⟩
        by_cases e2 : b = v
        · subst e2
          rw [if_pos rfl]
          by_cases e3 : a = w
          · rw [← e3]; exact hPa
          · exact hcl a w ha' hw' ea (by rw [← hc]; exact eb) (.inr (.inr ⟨rfl, hA.sym _ _ k, e3⟩)) hPa
        · rw [if_neg e2]
          exact hcl a b ha' ((hvs b).2 ⟨hb, e2⟩) ea eb (.inl k) hPa) x hx0 ex
    try dsimp only at this
    rw [if_neg hxv] at this
    exact this
  · obtain ⟨x, y, hx, hy, k, ex, ey⟩ := h.meet i j hij hj
    by_cases e1 : x = v
    · subst e1
      have ny : y ≠ x := (hA.ne k).symm
      have nw : y ≠ w := fun e => by rw [e] at ey; omega
      exact ⟨w, y, hw', (hvs y).2 ⟨hy, ny⟩, .inr (.inl ⟨rfl, k, nw⟩), by rw [← hc]; exact ex, ey⟩
    · by_cases e2 : y = v
      · subst e2
        have nw : x ≠ w := fun e => by rw [e] at ex; omega
        exact ⟨x, w, (hvs x).2 ⟨hx, e1⟩, hw', .inr (.inr ⟨rfl, hA.sym _ _ k, nw⟩), ex, by rw [← hc]; exact ey⟩
      · exact ⟨x, y, (hvs x).2 ⟨hx, e1⟩, (hvs y).2 ⟨hy, e2⟩, .inl k, ex, ey⟩
structure Red (A A' : Nat → Nat → Prop) (v a b : Nat) (Q : Prop) : Prop where
  nb : ∀ y, A v y → y = a ∨ y = b
  iff : ∀ x y, A' x y ↔ x ≠ v ∧ y ≠ v ∧ (A x y ∨ (Q ∧ ((x = a ∧ y = b) ∨ (x = b ∧ y = a))))
  q1 : Q → A v a ∧ A v b ∧ a ≠ b
  q2 : A v a → A v b → a ≠ b → A a b ∨ Q
theorem Red.swap {A A' : Nat → Nat → Prop} (hA : Sm A) {v a b : Nat} {Q : Prop} (h : Red A A' v a b Q) : Red A A' v b a Q :=
  ⟨fun y k => (h.nb y k).symm, fun x y => (h.iff x y).trans ⟨fun ⟨k1, k2, k3⟩ => ⟨k1, k2, k3.imp id fun ⟨q, k⟩ => ⟨q, k.symm⟩⟩, fun ⟨k1, k2, k3⟩ => ⟨k1, k2, k3.imp id fun ⟨q, k⟩ => ⟨q, k.symm⟩⟩⟩, fun q => ⟨(h.q1 q).2.1, (h.q1 q).1, (h.q1 q).2.2.symm⟩, fun k1 k2 k3 => (h.q2 k2 k1 k3.symm).imp (hA.sym _ _) id⟩
section
variable {vs : List Nat} {A A' : Nat → Nat → Prop} {v a b : Nat} {Q : Prop}
theorem erase_mem (hn : vs.Nodup) (v : Nat) : ∀ x, x ∈ vs.erase v ↔ x ∈ vs ∧ x ≠ v := fun x => by rw [hn.mem_erase_iff]; exact And.comm
theorem Red.back (hA : Sm A) (hn : vs.Nodup) (hv : v ∈ vs) (ha : a ∈ vs) (h : Red A A' v a b Q) {c : Nat → Nat} (hc : MdL vs A' c) : ∃ c, MdL vs A c := by
  have iso : 4 ≤ c v := by
    rcases Nat.lt_or_ge (c v) 4 with hlt | hge
    · exfalso
      have only : ∀ x, x ∈ vs → c x = c v → x = v := hc.conn (c v) hlt (fun x => x = v) ⟨v, hv, rfl, rfl⟩ fun x y _ _ _ _ k e => absurd e ((h.iff x y).1 k).1
      have two : ∀ i j, i < j → j < 4 → i ≠ c v ∧ j ≠ c v := fun i j hij hj => by
        obtain ⟨x, y, hx, hy, k, ex, ey⟩ := hc.meet i j hij hj
        obtain ⟨n1, n2, _⟩ := (h.iff x y).1 k
        exact ⟨fun e => n1 (only x hx (ex.trans e)), fun e => n2 (only y hy (ey.trans e))⟩
      have t1 := two 0 1 (by omega) (by omega)
      have t2 := two 2 3 (by omega) (by omega)
      omega
    · exact hge
  by_cases hQ : Q
  · obtain ⟨k1, k2, k3⟩ := h.q1 hQ
    have h1 : MdL (vs.erase v) (ctr A v a) c := hc.off iso (fun x hx => by rw [erase_mem hn]; exact ⟨fun k => ⟨k, hx⟩, fun k => k.1⟩) fun x y _ _ k => by
      obtain ⟨_, _, k | ⟨_, ⟨e1, e2⟩ | ⟨e1, e2⟩⟩⟩ := (h.iff x y).1 k
      · exact .inl k
      · exact .inr (.inl ⟨e1, by rw [e2]; exact k2, by rw [e2]; exact k3.symm⟩)
      · exact .inr (.inr ⟨e2, by rw [e1]; exact k2, by rw [e1]; exact k3.symm⟩)
    exact ⟨_, h1.lift hA hv ha k1 (erase_mem hn v)⟩
  · exact ⟨c, hc.mono fun x y _ _ k => by
      obtain ⟨_, _, k | ⟨q, _⟩⟩ := (h.iff x y).1 k
      · exact k
      · exact absurd q hQ⟩
theorem Red.go (hA : Sm A) (hn : vs.Nodup) (hv : v ∈ vs) (hin : ∀ x y, A x y → x ∈ vs) (h : Red A A' v a b Q) {c : Nat → Nat} (hc : MdL vs A c) : ∃ c, MdL vs A' c := by
  rcases Nat.lt_or_ge (c v) 4 with hlt | hge
  · have main : ∀ {a b : Nat}, Red A A' v a b Q → A v a → c v = c a → ∃ c, MdL vs A' c := by
      intro a b h kva hca
      have h1 := hc.down hA hv (hin _ _ (hA.sym _ _ kva)) kva (erase_mem hn v) hca
      have h2 : MdL (vs.erase v) A' c := h1.mono fun x y hx hy k => by
        obtain ⟨_, nx⟩ := (erase_mem hn v x).1 hx
        obtain ⟨_, ny⟩ := (erase_mem hn v y).1 hy
        rcases k with k | ⟨e1, k, n⟩ | ⟨e1, k, n⟩
        · exact (h.iff x y).2 ⟨nx, ny, .inl k⟩
        · subst e1
          rcases h.nb y k with e | e
          · exact absurd e n
          · subst e
            refine (h.iff x y).2 ⟨nx, ny, ?_⟩
            rcases h.q2 kva k n.symm with k2 | q
            · exact .inl k2
            · exact .inr ⟨q, .inl ⟨rfl, rfl⟩⟩
        · subst e1
          rcases h.nb x k with e | e
          · exact absurd e n
          · subst e
            refine (h.iff x y).2 ⟨nx, ny, ?_⟩
            rcases h.q2 kva k n.symm with k2 | q
            · exact .inl (hA.sym _ _ k2)
            · exact .inr ⟨q, .inr ⟨rfl, rfl⟩⟩
      exact ⟨_, h2.induced fun x hx => ((erase_mem hn v x).1 hx).1⟩
    by_cases hex : ∃ w, A v w ∧ c v = c w
    · obtain ⟨w, kw, ew⟩ := hex
      rcases h.nb w kw with e | e
      · subst e; exact main h kw ew
      · subst e; exact main (h.swap hA) kw ew
    · exfalso
      have only : ∀ x, x ∈ vs → c x = c v → x = v := hc.conn (c v) hlt (fun x => x = v) ⟨v, hv, rfl, rfl⟩ fun x y _ _ _ ey k e => by
        subst e; exact absurd ⟨y, k, ey.symm⟩ hex
      have nbr : ∀ j, j < 4 → j ≠ c v → ∃ y, A v y ∧ c y = j := fun j hj hne => by
        rcases Nat.lt_or_gt_of_ne hne with hlt2 | hgt
        · obtain ⟨x, y, hx, hy, k, ex, ey⟩ := hc.meet j (c v) hlt2 hlt
          rw [only y hy ey] at k
          exact ⟨x, hA.sym _ _ k, ex⟩
        · obtain ⟨x, y, hx, hy, k, ex, ey⟩ := hc.meet (c v) j hgt hj
          rw [only x hx ex] at k
          exact ⟨y, k, ey⟩
      have col : ∀ j, j < 4 → j ≠ c v → c a = j ∨ c b = j := fun j hj hne => by
        obtain ⟨y, k, e⟩ := nbr j hj hne
        rcases h.nb y k with e2 | e2
        · left; rw [← e2]; exact e
        · right; rw [← e2]; exact e
      by_cases e0 : c v = 0
      · have := col 1 (by omega) (by omega); have := col 2 (by omega) (by omega); have := col 3 (by omega) (by omega); omega
      by_cases e1 : c v = 1
      · have := col 0 (by omega) (by omega); have := col 2 (by omega) (by omega); have := col 3 (by omega) (by omega); omega
      by_cases e2 : c v = 2
      · have := col 0 (by omega) (by omega); have := col 1 (by omega) (by omega); have := col 3 (by omega) (by omega); omega
      · have := col 0 (by omega) (by omega); have := col 1 (by omega) (by omega); have := col 2 (by omega) (by omega); omega
  · exact ⟨c, hc.off hge (fun x _ => Iff.rfl) fun x y nx ny k => (h.iff x y).2 ⟨nx, ny, .inl k⟩⟩
end
/-! #### rows -/
def adjN (N : List (List Int)) (x y : Nat) : Prop := (y : Int) ∈ rowAt N x
def K4 (N : List (List Int)) : Prop := ∃ c, MdL (List.range N.length) (adjN N) c
theorem adjN_sm {N : List (List Int)} {G : List Bool} (h : Wf N G) : Sm (adjN N) := ⟨fun x y k => h.sym x y (by omega) (by omega) k, fun x k => h.irr x (by omega) k⟩
theorem adjN_in {N : List (List Int)} {G : List Bool} (h : Wf N G) (x y : Nat) (k : adjN N x y) : x ∈ List.range N.length := by
  have := (h.rows y).2 x (h.sym x y (by omega) (by omega) k)
  rw [List.mem_range]; omega
theorem step_red {N : List (List Int)} {G : List Bool} (h : Wf N G) {v : Nat} (hm : MayP N G v) : ∃ a b Q, a < N.length ∧ Red (adjN N) (adjN (doN N (stepF N v))) v a b Q := by
  obtain ⟨_, hc⟩ := step_two h hm rfl
  have hrow : ∀ x y : Nat, adjN (doN N (stepF N v)) x y ↔ (x : Int) ≠ v ∧ (((y : Int) ∈ rowAt N x ∧ (y : Int) ≠ v) ∨ ((stepF N v).2.2.2 = true ∧ (((x : Int) = (stepF N v).2.1 ∧ (y : Int) = (stepF N v).2.2.1) ∨ ((x : Int) = (stepF N v).2.2.1 ∧ (y : Int) = (stepF N v).2.1)))) := fun x y => (do_row h hm (by omega)).2 y
  have hv0 := hm.hi
  rcases hc with ⟨hl, _, _, hd⟩ | ⟨a, hl, _, _, hd⟩ | ⟨a, b, hl, hab, ea, eb, hd⟩
  · refine ⟨v, v, False, by omega, ⟨fun y k => ?_, fun x y => ?_, fun q => q.elim, fun k => ?_⟩⟩
    · unfold adjN at k; rw [hl] at k; simp at k
    · rw [hrow, hd]
      unfold adjN
      constructor
      · rintro ⟨n1, ⟨k, n2⟩ | ⟨e, _⟩⟩
        · exact ⟨by omega, by omega, .inl k⟩
        · cases e
      · rintro ⟨n1, n2, k | ⟨q, _⟩⟩
        · exact ⟨by omega, .inl ⟨k, by omega⟩⟩
        · exact q.elim
    · unfold adjN at k; rw [hl] at k; simp at k
  · have har := (h.rows v).2 a (by rw [hl]; simp)
    obtain ⟨a, rfl⟩ : ∃ c : Nat, a = c := ⟨a.toNat, by omega⟩
    refine ⟨a, a, False, by omega, ⟨fun y k => ?_, fun x y => ?_, fun q => q.elim, fun _ _ n => absurd rfl n⟩⟩
    · unfold adjN at k; rw [hl] at k; simp at k; omega
    · rw [hrow, hd]
      unfold adjN
      constructor
      · rintro ⟨n1, ⟨k, n2⟩ | ⟨e, _⟩⟩
        · exact ⟨by omega, by omega, .inl k⟩
        · cases e
      · rintro ⟨n1, n2, k | ⟨q, _⟩⟩
        · exact ⟨by omega, .inl ⟨k, by omega⟩⟩
        · exact q.elim
  · have har := (h.rows v).2 a (by rw [hl]; simp)
    have hbr := (h.rows v).2 b (by rw [hl]; simp)
    have hav : a ≠ v := fun e => h.irr v hm.lo (by rw [hl]; simp [e])
    have hbv : b ≠ v := fun e => h.irr v hm.lo (by rw [hl]; simp [e])
    obtain ⟨a, rfl⟩ : ∃ c : Nat, a = c := ⟨a.toNat, by omega⟩
    obtain ⟨b, rfl⟩ : ∃ c : Nat, b = c := ⟨b.toNat, by omega⟩
    refine ⟨a, b, (stepF N v).2.2.2 = true, by omega, ⟨fun y k => ?_, fun x y => ?_, fun q => ?_, fun _ _ _ => ?_⟩⟩
    · unfold adjN at k; rw [hl] at k; simp at k; omega
    · rw [hrow, ea, eb]
      unfold adjN
      constructor
      · rintro ⟨n1, ⟨k, n2⟩ | ⟨e, ⟨k1, k2⟩ | ⟨k1, k2⟩⟩⟩
        · exact ⟨by omega, by omega, .inl k⟩
        · exact ⟨by omega, by omega, .inr ⟨e, .inl ⟨by omega, by omega⟩⟩⟩
        · exact ⟨by omega, by omega, .inr ⟨e, .inr ⟨by omega, by omega⟩⟩⟩
      · rintro ⟨n1, n2, k | ⟨e, ⟨k1, k2⟩ | ⟨k1, k2⟩⟩⟩
        · exact ⟨by omega, .inl ⟨k, by omega⟩⟩
        · exact ⟨by omega, .inr ⟨e, .inl ⟨by omega, by omega⟩⟩⟩
        · exact ⟨by omega, .inr ⟨e, .inr ⟨by omega, by omega⟩⟩⟩
    · unfold adjN
      rw [hl]
      exact ⟨by simp, by simp, by omega⟩
    · unfold adjN
      rw [hd]
      cases he : (rowAt N a).elem (b : Int) with
      | true => left; simpa using he
      | false => right; rfl
theorem K4_step {N : List (List Int)} {G : List Bool} (h : Wf N G) {v : Int} (hm : MayP N G v) : K4 (doN N (stepF N v)) ↔ K4 N := by
  have h0 := hm.lo
  have h1 := hm.hi
  obtain ⟨v, rfl⟩ : ∃ c : Nat, v = c := ⟨v.toNat, by omega⟩
  obtain ⟨a, b, Q, ha, hr⟩ := step_red h hm
  have hv : v ∈ List.range N.length := List.mem_range.2 (by omega)
  unfold K4
  rw [doN_length]
  exact ⟨fun ⟨c, hc⟩ => hr.back (adjN_sm h) List.nodup_range hv (List.mem_range.2 ha) hc, fun ⟨c, hc⟩ => hr.go (adjN_sm h) List.nodup_range hv (adjN_in h) hc⟩
theorem K4_run {f : Nat} : ∀ {N : List (List Int)} {G : List Bool}, Wf N G → (K4 (runS f N G).2.1 ↔ K4 N) := by
  induction f with
  | zero => intro N G _; exact Iff.rfl
  | succ f ih =>
    intro N G h
    cases hm : firstMay N G with
    | none => rw [runS_end hm]
    | some v =>
      rw [runS_go hm]
      have hp := mayB_iff.1 (firstMay_may hm)
      exact (ih (do_wf h hp)).trans (K4_step h hp)
end Go.Sh
