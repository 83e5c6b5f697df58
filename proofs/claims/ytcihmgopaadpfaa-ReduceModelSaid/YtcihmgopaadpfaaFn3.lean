/- What the functions answer that the statement reaches. No condition. -/
import Derived.Test.YtcihmgopaadpfaaFn2
import Derived.Test.YtcihmgopaadpfaaRows
set_option linter.unusedVariables false
set_option linter.unusedSimpArgs false
namespace Go.Sh
open Go.Proofs
/-! ### carcanetlaw08.MinorCheck, MinorNone -/
end Go.Sh

set_option linter.unusedVariables false
set_option linter.unusedSimpArgs false
namespace Go.Sh
open Go.Proofs
/-! ### carcanetlaw10.ReduceModel -/
theorem check_narrow {n : Int} {E : List Ed} {S : List (List Int)} (hR : RightP n E) (h : checkB n E 1 S = true) : narrowB n E = false := by
  have hk := chk_K4 (checkB_iff.1 h)
  cases hn : narrowB n E with
  | false => rfl
  | true => exact absurd hk ((narrow_K4 hR).1 hn)
noncomputable def RModelF := conF (fun _ : (Int × List Ed) × Mo => True) (fun a => [grV a.1.1 a.1.2, moV false a.2.1 a.2.2]) (fun _ => .one (.s (.b true)))
set_option maxHeartbeats 1000000 in
theorem RModel_ok : SoundP Try.prog 9 RModelF := by
  refine con_pure (X := { Γ := [(26, Shown10C), (16, OfC), (25, NarrowC), (27, CheckC)], T := T, nt := 55 }) cr_none hmix hT
    (sound_cons Shown10_ok (sound_cons Of_ok (sound_cons Narrow_ok (sound_cons (Check_ok Unlike_ok) sound_nil)))) Try.func9 (by rfl) (by rfl) (by rfl) 4 ?_
  rintro ⟨⟨n, E⟩, kd, l⟩ -
  dsimp only
  refine ⟨⟨Nat.le_of_ble_eq_true rfl, Nat.le_of_ble_eq_true rfl⟩, ?_⟩
  refine Call.by _ _ Shown10C_at ?_
  refine Call.by _ _ (OfC_at n E (most := 20) (by omega)) ?_
  have hR := any_right (n := n) (l := E) (most := 20) (by omega) (by omega)
  obtain ⟨m, hm⟩ : ∃ m, anyN n 20 = m := ⟨_, rfl⟩
  obtain ⟨F, hF⟩ : ∃ F, anyE n E 20 = F := ⟨_, rfl⟩
  rw [hm, hF] at hR ⊢
  refine LoopP.intro (α := Nat) (fun k => k ≤ l.length ∧ k ≤ 6) (fun k => l.length - k) (fun k => [(3, .ptr 0 0), (5, .s (.b true)), (6, .ptr 2 0), (7, .ptr 4 0), (8, .s (.i .i64 k))])
    (fun k => [(0, some (.blk [.s (.i .i64 kd), .sl 1 none none])), (1, some (.nest false 1 (rowsI l) [] [])), (2, some (.blk [.s (.i .i64 m), .sl 3 none none])), (3, some (.flat true 2 (edges F))), (4, some (.blk [.s (.i .i64 1), .sl 5 none none])), (5, some (.nest true 1 (rowsI ((l.take k).map fun x => x.take 20)) [] []))]) 6 0 (by simp) (by refine Weak.by [(0, some _), (1, some _), (2, some _), (3, some _), (4, some _), (5, none)] (by ((repeat' first | exact rfl | exact trivial | refine And.intro ?_ ?_) <;> (repeat' first | exact rfl | exact trivial | refine And.intro ?_ ?_)); all_goals (simp [rowsI])) (by ((repeat' first | exact rfl | exact trivial | refine And.intro ?_ ?_) <;> (repeat' first | exact rfl | exact trivial | refine And.intro ?_ ?_)); all_goals (simp [rowsI])) (by rfl)) ?_
  rintro k ⟨hk, hk6⟩
  refine Pick.by (fun hc => ?_) (fun hc => ?_)
  · have hlt : k < l.length := by simpa [rowsI_length] using hc
    refine Pick.by (fun h6 => ?_) (fun h6 => ?_)
    · have h6 : k < 6 := by simp at h6; omega
      have hstep : rowsI ((l.take (k + 1)).map fun x => x.take 20) = rowsI ((l.take k).map fun x => x.take 20) ++ [ints (l[k].take 20)] := by
        rw [← rowsI_snoc, take_snoc _ hlt]
      have hroom : (rowsI ((l.take k).map fun x => x.take 20)).length = k := by rw [rowsI_length]; simp; omega
      refine Idx.by k rfl ?_ ?_
      · rw [rowsI_length]; exact hlt
      refine Pick.T (by simpa [rowsI_length] using hlt) ?_
      refine Idx.by k rfl ?_ ?_
      · rw [rowsI_length]; exact hlt
      refine Pick.T (by simpa [rowsI_length] using hlt) ?_
      refine Look.by _ (rowsI_get (List.getElem?_eq_getElem hlt)) ?_
      refine Look.by _ (rowsI_get (List.getElem?_eq_getElem hlt)) ?_
      refine Rng.by 0 (min l[k].length 20) rfl ?_ (by omega) ?_ ?_
      · rw [ints_length]
        show (if (20 : Int) < (l[k].length : Int) then (20 : Int) else (l[k].length : Int)) = _
        split <;> omega
      · rw [ints_length]; omega
      have hcut : cut (subOf none 0 0 (min l[k].length 20)) (ints l[k]) = ints (l[k].take 20) := by
        simp only [subOf, cut, List.drop_zero, Nat.sub_zero, ints, List.map_take]
        rw [List.take_eq_take_iff]; simp; omega
      refine Look.by _ (rowsI_get (List.getElem?_eq_getElem hlt)) ?_
      refine Pick.T (by rw [hcut]; simp [ints_length, cut]; omega) ?_
      refine Pick.T (by rw [hroom]; simp; omega) ?_
      refine Seg.by (by kernel_rfl) ?_
      refine Pick.T (inI64_of (by omega) (by omega)) ?_
      refine Next.by (k + 1) ⟨by omega, by omega⟩ (by omega) (by refine Weak.by [(0, some _), (1, some _), (2, some _), (3, some _), (4, some _), (5, some _)] (by ((repeat' first | exact rfl | exact trivial | refine And.intro ?_ ?_) <;> (repeat' first | exact rfl | exact trivial | refine And.intro ?_ ?_)); all_goals (rw [hstep, ← hcut]; rfl)) (by ((repeat' first | exact rfl | exact trivial | refine And.intro ?_ ?_) <;> (repeat' first | exact rfl | exact trivial | refine And.intro ?_ ?_)); all_goals (rw [hstep, ← hcut]; rfl)) (by rfl))
    · obtain ⟨S, hS⟩ : ∃ S, ((l.take k).map fun x => x.take 20) = S := ⟨_, rfl⟩
      have hsm : small S := by
        rw [← hS]
        refine ⟨by simp; omega, fun r hr => ?_⟩
        obtain ⟨x, _, rfl⟩ := List.mem_map.1 hr
        simp; omega
      rw [hS]
      refine Call.by _ _ (CheckC_at (n := m) (E := F) (k := 1) hsm) ?_
      have hcn := check_narrow (S := S) hR
      refine Pick.by (fun h1 => ?_) (fun h1 => ?_)
      · have h1 : checkB m F 1 S = true := h1
        have hN := NarrowC_at m F
        rw [hcn h1] at hN
        refine Call.by _ _ hN ?_
        exact ⟨rfl, rfl⟩
      · exact ⟨rfl, rfl⟩
  · obtain ⟨S, hS⟩ : ∃ S, ((l.take k).map fun x => x.take 20) = S := ⟨_, rfl⟩
    have hsm : small S := by
      rw [← hS]
      refine ⟨by simp; omega, fun r hr => ?_⟩
      obtain ⟨x, _, rfl⟩ := List.mem_map.1 hr
      simp; omega
    rw [hS]
    refine Call.by _ _ (CheckC_at (n := m) (E := F) (k := 1) hsm) ?_
    have hcn := check_narrow (S := S) hR
    refine Pick.by (fun h1 => ?_) (fun h1 => ?_)
    · have h1 : checkB m F 1 S = true := h1
      have hN := NarrowC_at m F
      rw [hcn h1] at hN
      refine Call.by _ _ hN ?_
      exact ⟨rfl, rfl⟩
    · exact ⟨rfl, rfl⟩
end Go.Sh

set_option linter.unusedVariables false
set_option linter.unusedSimpArgs false
namespace Go.Sh
open Go.Proofs
/-! ### carcanetlaw08.MinorMoves -/
def i64 (x : Int) : Prop := -9223372036854775808 ≤ x ∧ x ≤ 9223372036854775807
def rows64 (S : List (List Int)) : Prop := ∀ l ∈ S, ∀ x ∈ l, i64 x
def clI (x : Int) : Int := mnI x 4611686018427387904
def clP (j : Nat) (row : List Int) : List Int := (row.take j).map clI ++ row.drop j
theorem clP_all (row : List Int) (j : Nat) (h : row.length ≤ j) : clP j row = row.map clI := by
  unfold clP
  rw [List.take_of_length_le h, List.drop_eq_nil_of_le h, List.append_nil]
theorem clP_zero (row : List Int) : clP 0 row = row := by simp [clP]
def ClI (S : List (List Int)) (i j : Nat) (R : List (List Int)) : Prop := R.length = S.length ∧ ∀ r row, S[r]? = some row → R[r]? = some (if r < i then row.map clI else if r = i then clP j row else row)
theorem ClI.at {S R : List (List Int)} {i j : Nat} (h : ClI S i j R) {row : List Int} (hi : S[i]? = some row) : R[i]? = some (clP j row) := by
  have := h.2 i row hi
  rwa [if_neg (by omega), if_pos rfl] at this
theorem ClI.step {S R : List (List Int)} {i j : Nat} (h : ClI S i j R) {row : List Int} (hi : S[i]? = some row) : ClI S i (j + 1) (R.set i (clP (j + 1) row)) := by
  refine ⟨by rw [List.length_set]; exact h.1, fun r w hr => ?_⟩
  rw [List.getElem?_set]
  by_cases e : i = r
  · subst e
    rw [hi] at hr
    injection hr with hr
    subst hr
    rw [if_pos rfl, if_pos (by rw [h.1]; exact (List.getElem?_eq_some_iff.1 hi).1), if_neg (by omega), if_pos rfl]
  · rw [if_neg e, h.2 r w hr, if_neg (show ¬ r = i by omega), if_neg (show ¬ r = i by omega)]
theorem ClI.next {S R : List (List Int)} {i j : Nat} (h : ClI S i j R) {row : List Int} (hi : S[i]? = some row) (hj : row.length ≤ j) : ClI S (i + 1) 0 R := by
  refine ⟨h.1, fun r w hr => ?_⟩
  rw [h.2 r w hr]
  by_cases e : r < i
  · rw [if_pos e, if_pos (by omega)]
  · by_cases e2 : r = i
    · subst e2
      rw [hi] at hr
      injection hr with hr
      subst hr
      rw [if_neg e, if_pos rfl, if_pos (by omega), clP_all _ _ hj]
    · rw [if_neg e, if_neg e2, if_neg (by omega)]
      split
      · rw [clP_zero]
      · rfl
theorem ClI.done {S R : List (List Int)} {i : Nat} (h : ClI S i 0 R) (hi : S.length ≤ i) : R = S.map fun l => l.map clI := by
  apply List.ext_getElem?
  intro r
  by_cases hr : r < S.length
  · rw [h.2 r _ (List.getElem?_eq_getElem hr), if_pos (by omega)]
    simp [hr]
  · rw [List.getElem?_eq_none (by rw [h.1]; omega), List.getElem?_eq_none (by simp; omega)]
theorem ClI.zero (S : List (List Int)) : ClI S 0 0 S := ⟨rfl, fun r row h => by
  rw [if_neg (by omega), clP_zero]
  split <;> exact h⟩
end Go.Sh

set_option linter.unusedVariables false
set_option linter.unusedSimpArgs false
namespace Go.Sh
open Go.Proofs
/-! ### what is handed in, as data -/
theorem VTy.struct {T : Tab} {t : Nat} {ti : TI} {fs : List (Nat × Nat)} {v : V} (ht : lk T t = some ti) (hk : ti.kind = .struct fs) (h : VTy T t v) : ∃ cs, v = .agg cs ∧ All2 (fun (f : Nat × Nat) c => CTy T f.2 c) fs cs := by
  unfold VTy at h
  rw [ht] at h
  simp only at h
  rw [hk] at h
  exact h
theorem VTy.cell {T : Tab} {t : Nat} {ti : TI} {v : V} (ht : lk T t = some ti) (hk : ∀ fs, ti.kind ≠ .struct fs) (h : VTy T t v) : ∃ c, v = .one c ∧ CTy T t c := by
  unfold VTy at h
  rw [ht] at h
  simp only at h
  exact h
theorem ScTy.int {T : Tab} {t : Nat} {ti : TI} {k : IntKind} {x : Sc} (ht : lk T t = some ti) (hk : ti.kind = .int k) (h : ScTy T t x) : ∃ n, x = .i k n ∧ (Lit.int k n).wf = true := by
  unfold ScTy at h
  rw [ht] at h
  simp only at h
  rw [hk] at h
  cases x with
  | i k' n => obtain ⟨rfl, h⟩ := h; exact ⟨n, rfl, h⟩
  | b _ => exact h.elim
theorem CTy.sc {T : Tab} {t : Nat} {c : C} (hs : sliceE T t = none) (h : CTy T t c) : ∃ x, c = .s x ∧ ScTy T t x := by
  unfold CTy at h
  rw [hs] at h
  exact h
theorem CTy.flat {T : Tab} {t e : Nat} {c : C} (hs : sliceE T t = some e) (hs2 : sliceE T e = none) (h : CTy T t c) : ∃ rows, c = .flat false (sizeT T e) rows ∧ FlatTy T e rows := by
  unfold CTy at h
  rw [hs] at h
  simp only at h
  rw [hs2] at h
  exact h
theorem CTy.nest {T : Tab} {t e e2 : Nat} {c : C} (hs : sliceE T t = some e) (hs2 : sliceE T e = some e2) (h : CTy T t c) : ∃ rows, c = .nest false (sizeT T e2) rows ∧ rows.length ≤ maxLen ∧ ∀ fl ∈ rows, FlatTy T e2 fl := by
  unfold CTy at h
  rw [hs] at h
  simp only at h
  rw [hs2] at h
  exact h
theorem i64_wf {n : Int} (h : (Lit.int .i64 n).wf = true) : i64 n := by
  simp [Lit.wf, IntKind.min, IntKind.max, IntKind.signed, IntKind.bits] at h
  exact h
theorem list_ex {α β : Type} {P : α → β → Prop} : ∀ {l : List α}, (∀ x ∈ l, ∃ y, P x y) → ∃ m : List β, All2 P l m := by
  intro l
  induction l with
  | nil => intro _; exact ⟨[], All2.nil⟩
  | cons x l ih =>
    intro h
    obtain ⟨y, hy⟩ := h x (by simp)
    obtain ⟨m, hm⟩ := ih fun x hx => h x (by simp [hx])
    exact ⟨y :: m, All2.cons' hy hm⟩
theorem All2.map_eq {α β : Type} {f : β → α} {l : List α} {m : List β} (h : All2 (fun x y => x = f y) l m) : l = m.map f := by
  apply List.ext_getElem?
  intro i
  rw [List.getElem?_map]
  by_cases hi : i < l.length
  · have him : i < m.length := by rw [← h.1]; exact hi
    rw [List.getElem?_eq_getElem hi, List.getElem?_eq_getElem him, Option.map_some, h.2 i _ _ (List.getElem?_eq_getElem hi) (List.getElem?_eq_getElem him)]
  · rw [List.getElem?_eq_none (by omega), List.getElem?_eq_none (by rw [← h.1]; omega)]; rfl
theorem All2.mem {α β : Type} {R : α → β → Prop} {l : List α} {m : List β} (h : All2 R l m) {y : β} (hy : y ∈ m) : ∃ x ∈ l, R x y := by
  obtain ⟨i, hi⟩ := List.mem_iff_getElem?.1 hy
  have hl := (List.getElem?_eq_some_iff.1 hi).1
  rw [← h.1] at hl
  exact ⟨_, List.getElem_mem hl, h.2 i _ y (List.getElem?_eq_getElem hl) hi⟩
/-! #### at this program's types -/
theorem row_int {row : Row} (h : RowTy T 3 row) : ∃ n, row = [.i .i64 n] ∧ i64 n := by
  obtain ⟨x, rfl, hx⟩ := h
  obtain ⟨n, rfl, hw⟩ := ScTy.int (t := 3) rfl rfl hx
  exact ⟨n, rfl, i64_wf hw⟩
theorem ints_of {fl : Flat} (h : FlatTy T 3 fl) : ∃ l : List Int, fl = ints l ∧ l.length ≤ maxLen ∧ ∀ x ∈ l, i64 x := by
  obtain ⟨m, hm⟩ := list_ex (P := fun row n => row = [Sc.i .i64 n] ∧ i64 n) fun row hr => row_int (h.2 row hr)
  refine ⟨m, All2.map_eq (f := fun n => [Sc.i .i64 n]) (hm.imp fun _ _ _ k => k.1), by rw [← hm.1]; exact h.1, fun x hx => ?_⟩
  obtain ⟨_, _, k⟩ := hm.mem hx
  exact k.2
theorem rows_of {rows : List Flat} (h : ∀ fl ∈ rows, FlatTy T 3 fl) : ∃ S : List (List Int), rows = rowsI S ∧ rows64 S ∧ ∀ l ∈ S, l.length ≤ maxLen := by
  obtain ⟨m, hm⟩ := list_ex (P := fun (fl : Flat) l => fl = ints l ∧ l.length ≤ maxLen ∧ ∀ x ∈ l, i64 x) fun fl hf => ints_of (h fl hf)
  refine ⟨m, All2.map_eq (hm.imp fun _ _ _ k => k.1), fun l hl => ?_, fun l hl => ?_⟩
  · obtain ⟨_, _, k⟩ := hm.mem hl; exact k.2.2
  · obtain ⟨_, _, k⟩ := hm.mem hl; exact k.2.1
theorem All2.two {α β : Type} {R : α → β → Prop} {a b : α} {m : List β} (h : All2 R [a, b] m) : ∃ x y, m = [x, y] ∧ R a x ∧ R b y := by
  obtain ⟨h1, h2⟩ := h
  match m, h1, h2 with
  | [x, y], _, h2 => exact ⟨x, y, rfl, h2 0 a x rfl rfl, h2 1 b y rfl rfl⟩
theorem All2.one {α β : Type} {R : α → β → Prop} {a : α} {m : List β} (h : All2 R [a] m) : ∃ x, m = [x] ∧ R a x := by
  obtain ⟨h1, h2⟩ := h
  match m, h1, h2 with
  | [x], _, h2 => exact ⟨x, rfl, h2 0 a x rfl rfl⟩
theorem All2.three {α β : Type} {R : α → β → Prop} {a b c : α} {m : List β} (h : All2 R [a, b, c] m) : ∃ x y z, m = [x, y, z] ∧ R a x ∧ R b y ∧ R c z := by
  obtain ⟨h1, h2⟩ := h
  match m, h1, h2 with
  | [x, y, z], _, h2 => exact ⟨x, y, z, rfl, h2 0 a x rfl rfl, h2 1 b y rfl rfl, h2 2 c z rfl rfl⟩
theorem row_edge {row : Row} (h : RowTy T 60 row) : ∃ p : Ed, row = [.i .i64 p.1, .i .i64 p.2] ∧ i64 p.1 ∧ i64 p.2 := by
  obtain ⟨_, h⟩ := h
  obtain ⟨x, y, rfl, hx, hy⟩ := All2.two h
  obtain ⟨n, rfl, hn⟩ := ScTy.int (t := 3) rfl rfl hx
  obtain ⟨m, rfl, hm⟩ := ScTy.int (t := 3) rfl rfl hy
  exact ⟨(n, m), rfl, i64_wf hn, i64_wf hm⟩
theorem edges_of {fl : Flat} (h : FlatTy T 60 fl) : ∃ E : List Ed, fl = edges E ∧ E.length ≤ maxLen ∧ ∀ p ∈ E, i64 p.1 ∧ i64 p.2 := by
  obtain ⟨m, hm⟩ := list_ex (P := fun row (p : Ed) => row = [Sc.i .i64 p.1, Sc.i .i64 p.2] ∧ i64 p.1 ∧ i64 p.2) fun row hr => row_edge (h.2 row hr)
  refine ⟨m, All2.map_eq (f := fun p : Ed => [Sc.i .i64 p.1, Sc.i .i64 p.2]) (hm.imp fun _ _ _ k => k.1), by rw [← hm.1]; exact h.1, fun x hx => ?_⟩
  obtain ⟨_, _, k⟩ := hm.mem hx
  exact k.2
theorem model_of {v : V} (h : VTy T 47 v) : ∃ k S, v = moV false k S ∧ i64 k ∧ rows64 S := by
  obtain ⟨cs, rfl, hcs⟩ := VTy.struct (t := 47) rfl rfl h
  obtain ⟨x, y, rfl, hx, hy⟩ := All2.two hcs
  obtain ⟨z, rfl, hz⟩ := CTy.sc (t := 3) rfl hx
  obtain ⟨n, rfl, hw⟩ := ScTy.int (t := 3) rfl rfl hz
  obtain ⟨rows, rfl, _, hr⟩ := CTy.nest (t := 28) (e := 29) (e2 := 3) rfl rfl hy
  obtain ⟨S, rfl, hS, _⟩ := rows_of hr
  exact ⟨n, S, rfl, i64_wf hw, hS⟩
theorem net_of {v : V} (h : VTy T 24 v) : ∃ n E, v = grV n E ∧ i64 n ∧ ∀ p ∈ E, i64 p.1 ∧ i64 p.2 := by
  obtain ⟨cs, rfl, hcs⟩ := VTy.struct (t := 24) rfl rfl h
  obtain ⟨x, y, rfl, hx, hy⟩ := All2.two hcs
  obtain ⟨z, rfl, hz⟩ := CTy.sc (t := 3) rfl hx
  obtain ⟨n, rfl, hw⟩ := ScTy.int (t := 3) rfl rfl hz
  obtain ⟨rows, rfl, hr⟩ := CTy.flat (t := 22) (e := 60) rfl rfl hy
  obtain ⟨E, rfl, _, hE⟩ := edges_of hr
  exact ⟨n, E, rfl, i64_wf hw, hE⟩
end Go.Sh

set_option linter.unusedVariables false
namespace Go.Sh
open Go.Proofs
theorem own : ownKnob Try.prog.godebug = none := by kernel_rfl
theorem laidOut : laidOutB Try.prog = true := by kernel_rfl
set_option maxRecDepth 100000 in
/-- A law whose function answers true, whatever comes. -/
theorem law_row {s : ChangeSpec} {f : FuncId} {fn : Func} {conds : List PathCond} {apart fresh handsOn : Bool} {ts : List TypeId} {F : List V → Option (V × List V)} (hf : Try.prog.funcs[f]? = some fn) (hin : Try.prog.inits.idxOf? f = none) (hv : s.vars = [])
    (hts : fn.params.toList = ts) (ha : ts.all (argB T) = true) (hr : ts.all (fun t => Try.prog.readableRec t && Nat.blt t Try.prog.types.size) = true) (hres : fn.resultTypes = #[4])
    (hsp : ∀ (H : Type) (ds : List (DataW H)), ds.length = ts.length → (s.fn H ds).results = [.lit (.bool true)] ∧ (s.fn H ds).args = ds ∧ (s.fn H ds).vars = [])
    (hS : SoundP Try.prog f F) (hF : LawV T ts F) (os : Os) (started : os.Started) (H : Type) (enc : TypeId × Value → H) (a : Assume)
    (hw : ∃ (w : World) (tape : Tape) (i : Input), w.os = os ∧ (w.forCall tape i).Shaped Try.checked.prog ∧ i.vars = [] ∧ Input.okWide Try.checked.prog (w.forCall tape i) .any w.heap.size f i ∧
      s.pre6 enc Try.checked.prog fn conds apart (w.forCall tape i).memory i.args ∧ a.holds Try.checked.prog (lone (Frame.enter Try.checked.prog f i.args .normal) [] (w.forCall tape i))) :
    ReturnsInHanded a Try.checked os f .any (s.pre6 enc Try.checked.prog fn conds apart) (s.post enc Try.checked.prog fn apart fresh handsOn false) := by
  refine returnsInHanded_of_change (C := Try.checked) own started hin hf hw ?_
  intro W base args ds gs before hval hW _ _
  refine law_contract (P := Try.prog) (conds := conds) hT laidOut hv hts ha (fun t ht => ?_) hres Try.underlying4 (hsp H) hS hF hval hW
  have := List.all_eq_true.1 hr t ht
  simp only [Bool.and_eq_true] at this
  exact ⟨this.1, Nat.le_of_ble_eq_true this.2⟩
end Go.Sh
