/- What the functions answer that the statement reaches. No condition. -/
import Derived.Test.YtlffbpdecjjpfaaFn2
import Derived.Deep.RegionLaw
import Derived.Test.YtlffbpdecjjpfaaRows
set_option linter.unusedVariables false
set_option linter.unusedSimpArgs false
namespace Go.Sh
open Go.Proofs
/-! ### carcanetlaw10.ReduceCore -/
theorem near_there {N : List (List Int)} {G : List Bool} (h : Wf N G) {v x : Int} (hv : 0 ≤ v) (hx : x ∈ rowAt N v) : 0 ≤ x ∧ x < N.length ∧ goneAt G x = false := by
  have hr := (h.rows v).2 x hx
  refine ⟨hr.1, hr.2, ?_⟩
  cases hg : goneAt G x with
  | false => rfl
  | true =>
    have h2 := h.sym v x hv hr.1 hx
    rw [h.gone x hr.1 hg] at h2; simp at h2
theorem leftF_length (G : List Bool) : (leftF G).length = live G := by
  unfold leftF live
  rw [List.length_map, ← List.countP_eq_length_filter]
  have e : G = (List.range G.length).map fun v => G.getD v false := by
    apply List.ext_getElem?
    intro i
    rw [List.getElem?_map]
    by_cases hi : i < G.length
    · rw [List.getElem?_range hi, Option.map_some, List.getD_eq_getElem?_getD, List.getElem?_eq_getElem hi]; rfl
    · rw [List.getElem?_eq_none (by omega), List.getElem?_eq_none (by simp; omega)]; rfl
  conv => rhs; rw [e]
  rw [List.countP_map]; rfl
/-- what is left at the end -/
structure Core (N : List (List Int)) (G : List Bool) : Prop where
  wf : Wf N G
  no : ∀ u, mayB N G u = false
theorem Core.three {N : List (List Int)} {G : List Bool} (h : Core N G) {v : Int} (h0 : 0 ≤ v) (h1 : v < N.length) (hg : goneAt G v = false) : 3 ≤ (rowAt N v).length := by
  have := h.no v
  by_cases hl : (rowAt N v).length ≤ 2
  · rw [mayB_iff.2 ⟨h0, h1, hg, hl⟩] at this; cases this
  · omega
theorem Core.four {N : List (List Int)} {G : List Bool} (h : Core N G) (hl : leftF G ≠ []) : 4 ≤ (leftF G).length := by
  obtain ⟨v, hv⟩ := List.exists_mem_of_ne_nil _ hl
  obtain ⟨h0, h1, hg⟩ := mem_leftF.1 hv
  rw [h.wf.len] at h1
  have h3 := h.three h0 h1 hg
  have hnd : (v :: rowAt N v).Nodup := List.nodup_cons.2 ⟨h.wf.irr v h0, (h.wf.rows v).1.imp fun hab => by omega⟩
  have := nodup_lenG (m := leftF G) hnd fun x hx => by
    rcases List.mem_cons.1 hx with e | hx
    · rw [e]; exact hv
    · obtain ⟨x0, x1, xg⟩ := near_there h.wf h0 hx
      exact mem_leftF.2 ⟨x0, by rw [h.wf.len]; exact x1, xg⟩
  simp only [List.length_cons] at this
  omega
theorem core_run {n : Int} {E : List Ed} (hR : RightP n E) : Core (runR n E).2.1 (runR n E).2.2 ∧ (runR n E).2.1.length = n.toNat ∧ (runR n E).1.length + (leftF (runR n E).2.2).length = n.toNat := by
  have hW := begin_wf hR
  have hl : live (List.replicate n.toNat false) ≤ n.toNat := by rw [live_zero]; omega
  obtain ⟨h1, h2, h3⟩ := runS_wf n.toNat hW
  have hc := run_count (f := n.toNat) hW
  rw [live_zero] at hc
  exact ⟨⟨h1, run_end hW hl⟩, by rw [show (runR n E).2.1.length = _ from h2, nbrs_length], by rw [leftF_length]; exact hc⟩
end Go.Sh

set_option linter.unusedVariables false
set_option linter.unusedSimpArgs false
namespace Go.Sh
/-! ### graphs as rows of bits: what one comes to by deletions and contractions -/
/-! #### rows of a graph -/
theorem adjE_range {n : Int} {E : List Ed} (h : ∀ x ∈ E, okE n x) {a b : Int} (ha : adjE E a b) : 0 ≤ a ∧ a < n ∧ 0 ≤ b ∧ b < n ∧ a ≠ b := by
  rcases ha with ha | ha
  · obtain ⟨h1, h2, h3⟩ := h _ ha
    dsimp only at h1 h2 h3; omega
  · obtain ⟨h1, h2, h3⟩ := h _ ha
    dsimp only at h1 h2 h3; omega
end Go.Sh

set_option linter.unusedVariables false
set_option linter.unusedSimpArgs false
namespace Go.Sh
/-! ### narrow: there is no model of the complete graph of four -/
theorem Core.K4 {N : List (List Int)} {G : List Bool} (h : Core N G) : K4 N ↔ leftF G ≠ [] := by
  constructor
  · rintro ⟨c, hc⟩ e
    obtain ⟨x, y, hx, hy, k, _⟩ := hc.meet 0 1 (by omega) (by omega)
    rw [List.mem_range] at hx
    have : (x : Int) ∈ leftF G := mem_leftF.2 ⟨by omega, by rw [h.wf.len]; omega, by
      cases hg : goneAt G (x : Int) with
      | false => rfl
      | true => unfold adjN at k; rw [h.wf.gone x (by omega) hg] at k; simp at k⟩
    rw [e] at this; simp at this
  · intro hne
    let vs := (List.range N.length).filter fun (x : Nat) => !goneAt G (x : Int)
    have hvs : ∀ x, x ∈ vs ↔ x < N.length ∧ goneAt G (x : Int) = false := fun x => by
      rw [List.mem_filter, List.mem_range]; simp
    have h0 : vs ≠ [] := by
      obtain ⟨v, hv⟩ := List.exists_mem_of_ne_nil _ hne
      obtain ⟨a0, a1, a2⟩ := mem_leftF.1 hv
      intro e
      have : v.toNat ∈ vs := (hvs _).2 ⟨by rw [h.wf.len] at a1; omega, by rw [Int.toNat_of_nonneg a0]; exact a2⟩
      rw [e] at this; simp at this
    have hd : ∀ x, x ∈ vs → D3 vs (adjN N) x := fun x hx => by
      obtain ⟨x1, x2⟩ := (hvs x).1 hx
      have h3 := h.three (v := (x : Int)) (by omega) (by omega) x2
      have hs := (h.wf.rows (x : Int)).1
      have hin : ∀ y, y ∈ rowAt N x → y.toNat ∈ vs ∧ adjN N x y.toNat := fun y hy => by
        obtain ⟨y0, y1, y2⟩ := near_there h.wf (by omega) hy
        exact ⟨(hvs _).2 ⟨by omega, by rw [Int.toNat_of_nonneg y0]; exact y2⟩, by unfold adjN; rw [Int.toNat_of_nonneg y0]; exact hy⟩
      have hr0 := fun y hy => (near_there h.wf (show (0 : Int) ≤ x by omega) (x := y) hy).1
      match hrow : rowAt N x, h3 with
      | a :: b :: c :: l, _ =>
        rw [hrow] at hs hin hr0
        simp only [List.pairwise_cons] at hs
        have ab := hs.1 b (by simp)
        have ac := hs.1 c (by simp)
        have bc := hs.2.1 c (by simp)
        have a0 := hr0 a (by simp)
        obtain ⟨m1, k1⟩ := hin a (by simp)
        obtain ⟨m2, k2⟩ := hin b (by simp)
        obtain ⟨m3, k3⟩ := hin c (by simp)
        exact ⟨_, _, _, m1, m2, m3, by omega, by omega, by omega, k1, k2, k3⟩
      | [], h3 => simp at h3
      | [_], h3 => simp at h3
      | [_, _], h3 => simp at h3
    obtain ⟨c, hc⟩ := dirac (adjN_sm h.wf) (List.nodup_range.sublist List.filter_sublist) hd h0
    exact ⟨_, hc.induced fun x hx => List.mem_range.2 ((hvs x).1 hx).1⟩
theorem narrow_K4 {n : Int} {E : List Ed} (hR : RightP n E) : narrowB n E = true ↔ ¬ K4 (nbrs n.toNat E) := by
  obtain ⟨hC, _, _⟩ := core_run hR
  have h1 : K4 (runR n E).2.1 ↔ K4 (nbrs n.toNat E) := K4_run (begin_wf hR)
  have hrun : runO n E = ((runR n E).1, leftF (runR n E).2.2, edgesF (runR n E).2.1 (runR n E).2.2) := if_pos hR
  unfold narrowB
  rw [decide_eq_true hR, Bool.true_and, decide_eq_true_eq, hrun, ← h1, hC.K4]
  simp
/-! #### models of sets, and rows of bits -/
theorem nbrs_adj {n : Int} {E : List Ed} (hR : RightP n E) (x y : Nat) : adjN (nbrs n.toNat E) x y ↔ adjE E x y := by
  unfold adjN
  by_cases hx : (x : Int) < n.toNat
  · rw [nbrs_row (by omega) hx, mem_nearL]
  · rw [rowAt_out (by rw [nbrs_length]; omega)]
    constructor
    · intro h; simp at h
    · intro h
      have := adjE_range (fun p hp => hR.2.2.2.1 p hp) h
      omega
end Go.Sh

set_option linter.unusedVariables false
set_option linter.unusedSimpArgs false
namespace Go.Sh
open Go.Proofs
/-! ### carcanetlaw08.MinorCheck, MinorNone -/
end Go.Sh

set_option linter.unusedVariables false
set_option linter.unusedSimpArgs false
namespace Go.Sh
open Go.Proofs
/-! ### carcanetlaw10.ReduceModel -/
end Go.Sh

set_option linter.unusedVariables false
set_option linter.unusedSimpArgs false
namespace Go.Sh
open Go.Proofs
/-! ### models of what came of a graph are models of the graph -/
/-! ### what came of a deletion, of a contraction -/
end Go.Sh

set_option linter.unusedVariables false
set_option linter.unusedSimpArgs false
namespace Go.Sh
open Go.Proofs
/-! ### what is narrow stays so -/
theorem K4_sub {n : Int} {E E' : List Ed} (hR : RightP n E) (hR' : RightP n E') (hs : ∀ a b, adjE E' a b → adjE E a b) (h : K4 (nbrs n.toNat E')) : K4 (nbrs n.toNat E) := by
  obtain ⟨c, hc⟩ := h
  rw [nbrs_length] at hc
  exact ⟨c, by rw [nbrs_length]; exact hc.mono fun x y _ _ k => (nbrs_adj hR x y).2 (hs _ _ ((nbrs_adj hR' x y).1 k))⟩
end Go.Sh

set_option linter.unusedVariables false
set_option linter.unusedSimpArgs false
namespace Go.Sh
open Go.Proofs
/-! ### carcanetlaw10.ReduceLess -/
theorem narrow_wo {n : Int} {E E' : List Ed} (hR : RightP n E) (hR' : RightP n E') (hs : ∀ p ∈ E', p ∈ E) (h : narrowB n E = true) : narrowB n E' = true :=
  (narrow_K4 hR').2 fun k => (narrow_K4 hR).1 h (K4_sub hR hR' (fun a b => Or.imp (hs _) (hs _)) k)
end Go.Sh

set_option linter.unusedVariables false
set_option linter.unusedSimpArgs false
namespace Go.Sh
/-! ### what can't be spared -/
noncomputable def restK (n : Int) : List Ed → List Ed → List Ed
  | K, [] => K
  | K, x :: r => if narrowB n (K ++ r) = false then restK n K r else restK n (K ++ [x]) r
theorem restK_go {n : Int} {K r : List Ed} {x : Ed} (h : narrowB n (K ++ r) = false) : restK n K (x :: r) = restK n K r := if_pos h
theorem restK_keep {n : Int} {K r : List Ed} {x : Ed} (h : narrowB n (K ++ r) = true) : restK n K (x :: r) = restK n (K ++ [x]) r := if_neg (by rw [h]; simp)
open Classical in
noncomputable def restF (n : Int) (E : List Ed) : Int × List Ed := if RightP n E ∧ narrowB n E = false then (n, restK n [] E) else (0, [])
theorem right_sub {n : Int} {E F : List Ed} (hR : RightP n E) (h : F.Sublist E) : RightP n F :=
  ⟨hR.1, hR.2.1, Nat.le_trans h.length_le hR.2.2.1, fun p hp => hR.2.2.2.1 p (h.subset hp), hR.2.2.2.2.sublist h⟩
theorem edge_nodup {n : Int} {E : List Ed} (hR : RightP n E) : E.Nodup := List.nodup_iff_pairwise_ne.2 (hR.2.2.2.2.imp fun h => ltE_ne h)
structure RestI (n : Int) (E K r : List Ed) : Prop where
  sub : (K ++ r).Sublist E
  wide : narrowB n (K ++ r) = false
  least : ∀ x ∈ K, narrowB n ((K ++ r).erase x) = true
theorem RestI.go {n : Int} {E K r : List Ed} {x : Ed} (hR : RightP n E) (h : RestI n E K (x :: r)) (hn : narrowB n (K ++ r) = false) : RestI n E K r := by
  have hs : (K ++ r).Sublist (K ++ x :: r) := (List.Sublist.refl K).append (List.sublist_cons_self x r)
  refine ⟨hs.trans h.sub, hn, fun y hy => ?_⟩
  have h1 := right_sub hR h.sub
  exact narrow_wo (right_sub h1 List.erase_sublist) (right_sub h1 ((List.erase_sublist).trans hs)) (fun p hp => (hs.erase y).subset hp) (h.least y hy)
theorem RestI.keep {n : Int} {E K r : List Ed} {x : Ed} (hR : RightP n E) (h : RestI n E K (x :: r)) (hn : narrowB n (K ++ r) = true) : RestI n E (K ++ [x]) r := by
  have e : K ++ [x] ++ r = K ++ x :: r := by simp
  refine ⟨by rw [e]; exact h.sub, by rw [e]; exact h.wide, fun y hy => ?_⟩
  rw [e]
  rcases List.mem_append.1 hy with hy | hy
  · exact h.least y hy
  · have : y = x := by simpa using hy
    subst this
    have hnd := edge_nodup (right_sub hR h.sub)
    have hyK : y ∉ K := fun hk => by
      rw [List.nodup_append] at hnd
      exact hnd.2.2 y hk y (by simp) rfl
    rw [List.erase_append_right _ hyK, List.erase_cons_head]
    exact hn
theorem restK_is {n : Int} {E : List Ed} (hR : RightP n E) : ∀ {r K : List Ed}, RestI n E K r → RestI n E (restK n K r) [] := by
  intro r
  induction r with
  | nil => intro K h; exact h
  | cons x r ih =>
    intro K h
    cases hn : narrowB n (K ++ r) with
    | false => rw [restK_go hn]; exact ih (h.go hR hn)
    | true => rw [restK_keep hn]; exact ih (h.keep hR hn)
structure LeastP (n : Int) (E F : List Ed) : Prop where
  sub : F.Sublist E
  wide : narrowB n F = false
  least : ∀ x ∈ F, narrowB n (F.erase x) = true
theorem rest_least {n : Int} {E : List Ed} (hR : RightP n E) (h : narrowB n E = false) : LeastP n E (restK n [] E) := by
  have := restK_is hR (K := []) (r := E) ⟨by simp, h, fun x hx => by simp at hx⟩
  have k1 := this.sub
  have k2 := this.wide
  have k3 := this.least
  rw [List.append_nil] at k1 k2
  simp only [List.append_nil] at k3
  exact ⟨k1, k2, k3⟩
theorem restK_len {n : Int} : ∀ {r K : List Ed}, (restK n K r).length ≤ K.length + r.length := by
  intro r
  induction r with
  | nil => intro K; simp [restK]
  | cons x r ih =>
    intro K
    cases hn : narrowB n (K ++ r) with
    | false => rw [restK_go hn]; have := ih (K := K); simp; omega
    | true => rw [restK_keep hn]; have := ih (K := K ++ [x]); simp at this ⊢; omega
/-- what can't be spared stays -/
theorem restK_stay {n : Int} : ∀ {r K : List Ed}, (K ++ r).Nodup → (∀ x ∈ r, narrowB n ((K ++ r).erase x) = true) → restK n K r = K ++ r := by
  intro r
  induction r with
  | nil => intro K _ _; simp [restK]
  | cons x r ih =>
    intro K hnd h
    have hx : x ∉ K := fun hk => by
      rw [List.nodup_append] at hnd
      exact hnd.2.2 x hk x (by simp) rfl
    have h1 := h x (by simp)
    rw [List.erase_append_right _ hx, List.erase_cons_head] at h1
    have e : K ++ [x] ++ r = K ++ x :: r := by simp
    rw [restK_keep h1, ih (by rw [e]; exact hnd) (fun y hy => by rw [e]; exact h y (by simp [hy])), e]
theorem restF_yes {n : Int} {E : List Ed} (hR : RightP n E) (h : narrowB n E = false) : restF n E = (n, restK n [] E) := if_pos ⟨hR, h⟩
theorem restF_narrow {n : Int} {E : List Ed} (h : narrowB n E = true) : restF n E = (0, []) := if_neg fun k => by rw [h] at k; simp at k
theorem restF_wrong {n : Int} {E : List Ed} (h : ¬ RightP n E) : restF n E = (0, []) := if_neg fun k => h k.1
theorem restF_len {n : Int} {E : List Ed} : (restF n E).2.length ≤ E.length := by
  unfold restF
  split
  · have := restK_len (n := n) (K := []) (r := E); simpa using this
  · simp
theorem restF_again {n : Int} {E : List Ed} : restF (restF n E).1 (restF n E).2 = restF n E := by
  by_cases h : RightP n E ∧ narrowB n E = false
  · have hL := rest_least h.1 h.2
    rw [restF_yes h.1 h.2]
    have hR := right_sub h.1 hL.sub
    rw [restF_yes hR hL.wide, restK_stay (by simpa using edge_nodup hR) (by simpa using hL.least)]
    rfl
  · have e : restF n E = (0, []) := if_neg h
    rw [e]
    show restF 0 [] = (0, [])
    have hR0 : RightP 0 [] := by unfold RightP okE; simp
    by_cases hn : narrowB 0 [] = false
    · rw [restF_yes hR0 hn]; rfl
    · exact if_neg fun k => hn k.2
end Go.Sh

set_option linter.unusedVariables false
set_option linter.unusedSimpArgs false
namespace Go.Sh
open Go.Proofs
/-! ### a call of thin.Rest$1 -/
section
variable {P : Program} {O0 : Nat → Prop} {w0 : Base} {nt : Nat} {g : G} {a : Act} {w : World} {sl : Sl} {en : En} {nx : Nat}
/-- A call that changes nothing and answers a scalar. -/
theorem scal_core {f : Nat} {us : Array Value} {x : Sc} {K : SV → Sl → En → Nat → Prop} (R : Rel (fun n => n < nx) O0 w0 nt (toS sl en) g a w)
    (hc : Calls P f us w fun e w' => e = .returned x.val ∧ Frm (fun _ => False) w w') (hK : K (.s x) sl en nx) :
    Calls P f us w fun e w' => ∃ v u sl' en' nx' g', e = .returned u ∧ K v sl' en' nx' ∧ VR3 (toS sl' en') g' v u ∧ (∀ n ∈ names3 v, n < nx') ∧ Rel (fun n => n < nx') O0 w0 nt (toS sl' en') g' a w' := by
  refine hc.mono ?_
  rintro e w' ⟨rfl, hfr⟩
  have hd : Did (fun n => n < nx) (toS sl en) g w (fun _ => False) (.s x) [] x.val w' g := by
    refine did_of R (fun _ => False) (fun _ _ _ => rfl) (fun k x hx => .inl (R.me k x hx).1) (fun k _ _ => ⟨rfl, rfl, fun _ => rfl, fun _ => rfl⟩) (fun b k r hb _ _ => ⟨rfl, hfr.block b hb (fun h => h)⟩) (fun b hb ho => ⟨ho, hfr.block b hb (fun h => h)⟩)
      ⟨hfr.os, hfr.tape, hfr.output, hfr.size⟩ (fun b k hb => Nat.lt_of_lt_of_le (R.bound b k hb) hfr.size) (fun b k r hb => .inl (R.label b k r hb)) (fun _ _ h => h.elim) (fun k e he h => (h (R.me k e he).1).elim) (fun _ => rfl)
  have R2 := Did.rel R hd (d := none) (u' := x.val) (fun t h => by simp at h) (fun _ => rfl) (fun k hk => by simp [names3, names2, names1, namesW] at hk)
  refine ⟨.s x, _, sl, en, nx, g, rfl, hK, rfl, fun k hk => by simp [names3, names2, names1] at hk, ?_⟩
  exact R2.wider fun k hk => by rcases hk with hk | hk <;> first | exact hk | exact hk.elim
def cellsIs (en : En) (n : Nat) (vs : List SV) : Prop := lk en n = some (some (.blk vs)) ∨ lk en n = some (some (.rblk vs))
def rowIs (en : En) (v : SV) (K : List Ed) : Prop := (v = .nils ∧ K = []) ∨ ∃ k own, v = .sl k none none ∧ lk en k = some (some (.flat own 2 (edges K)))
def sparedCR (f0 : Nat) : CallR := fun f vs Kc sl en nx => f = f0 ∧ ∃ (i : Nat) (n1 n2 : Nat) (n : Int) (K E : List Ed) (v1 v2 : SV), vs = [.s (.i .i64 (i : Int)), .ptr n1 0, .ptr n2 0] ∧ cellsIs en n1 [v1] ∧ cellsIs en n2 [.s (.i .i64 n), v2] ∧ rowIs en v1 K ∧ rowIs en v2 E ∧ i < E.length ∧ E.length ≤ 100000 ∧ K.length ≤ 100000 ∧ Kc (.s (.b (sparedB n K E i))) sl en nx
theorem cells_rel {n : Nat} {vs : List SV} {b : Nat} (R : Rel (fun n => n < nx) O0 w0 nt (toS sl en) g a w) (h : cellsIs en n vs) (hb : g.base n = some ⟨b, 0, none⟩) : ∃ arr T, w.heap[b]? = some (.cells arr T (0, 0)) ∧ All2 (VR1 (toS sl en) g) vs arr.toList := by
  have fe : ∀ {e}, lk en n = some (some e) → (toS sl en).fe n = some e := fun h => by simp [toS, h]
  have key : ∀ {b' : Nat} {arr : Array Value} {T : TypeId}, g.base n = some ⟨b', 0, none⟩ → w.heap[b']? = some (.cells arr T (0, 0)) → All2 (VR1 (toS sl en) g) vs arr.toList → ∃ arr T, w.heap[b]? = some (.cells arr T (0, 0)) ∧ All2 (VR1 (toS sl en) g) vs arr.toList := by
    intro b' arr T hA hh hl
    rw [hb] at hA
    injection hA with hA
    injection hA with hA
    subst hA
    exact ⟨arr, T, hh, hl⟩
  rcases h with h | h
  · obtain ⟨b', arr, T, hA, _, hh, hl⟩ := R.ents _ _ (fe h); exact key hA hh hl
  · obtain ⟨b', arr, T, hA, _, hh, hl⟩ := R.ents _ _ (fe h); exact key hA hh hl
theorem row_rel {v : SV} {K : List Ed} {u : Value} (R : Rel (fun n => n < nx) O0 w0 nt (toS sl en) g a w) (h : rowIs en v K) (hu : VR1 (toS sl en) g v u) : ∃ A c, u = .slice A K.length c ∧ FlatOk w noLab none A c 2 (edges K) := by
  rcases h with ⟨rfl, rfl⟩ | ⟨k, own, rfl, hk⟩
  · exact ⟨none, 0, hu, FlatOk.nil (by omega)⟩
  · have fe : (toS sl en).fe k = some (.flat own 2 (edges K)) := by simp [toS, hk]
    obtain ⟨A, len, cap, rfl, hs⟩ := hu
    have hf : FlatOk w g.own _ (g.base k) (g.cap k) 2 (edges K) := R.ents k _ fe
    obtain ⟨rfl, rfl, rfl⟩ := hs (edges K).length 2 (by simp [lenSz, fe])
    rw [edges_length]
    exact ⟨_, _, rfl, hf.ro⟩
end
theorem spared_ok : CrOk Try.prog (sparedCR 73) := by
  intro f' vs Kc sl en nx h O0 w0 nt g a w us R hus hn
  obtain ⟨rfl, i, n1, n2, n, K, E, v1, v2, rfl, hc1, hc2, hr1, hr2, hi, hE, hK, hKc⟩ := h
  refine ⟨⟨_, Try.func73, by decide, by simp [Try.f73]⟩, ?_⟩
  obtain ⟨u1, u2, rfl, k1, k2⟩ : ∃ u1 u2, us = [.int .i64 (i : Int), u1, u2] ∧ VR1 (toS sl en) g (.ptr n1 0) u1 ∧ VR1 (toS sl en) g (.ptr n2 0) u2 := by
    match us, hus with
    | [v1, v2, v3], hus => exact ⟨v2, v3, by rw [show v1 = .int .i64 (i : Int) from hus.2 0 _ _ rfl rfl], hus.2 1 _ _ rfl rfl, hus.2 2 _ _ rfl rfl⟩
    | [], hus => exact absurd hus.1 (by simp)
    | [_], hus => exact absurd hus.1 (by simp)
    | [_, _], hus => exact absurd hus.1 (by simp)
    | _ :: _ :: _ :: _ :: _, hus => exact absurd hus.1 (by simp)
  obtain ⟨b1, hb1, rfl⟩ := k1
  obtain ⟨b2, hb2, rfl⟩ := k2
  obtain ⟨arr1, T1, e1, q1⟩ := cells_rel R hc1 hb1
  obtain ⟨arr2, T2, e2, q2⟩ := cells_rel R hc2 hb2
  obtain ⟨x1, hx1⟩ : ∃ q, arr1.toList = [q] := List.length_eq_one_iff.1 (by rw [← q1.1]; rfl)
  obtain ⟨x2, x3, hx2⟩ : ∃ q r, arr2.toList = [q, r] := by
    have := q2.1
    match h : arr2.toList, this with
    | [q, r], _ => exact ⟨q, r, rfl⟩
  rw [hx1] at q1
  rw [hx2] at q2
  obtain ⟨A, ck, rfl, hA⟩ := row_rel R hr1 (q1.2 0 _ _ rfl rfl)
  obtain ⟨B, c, rfl, hB⟩ := row_rel R hr2 (q2.2 1 _ _ rfl rfl)
  have hx : x2 = .int .i64 n := q2.2 0 _ _ rfl rfl
  subst hx
  have hw : ∀ {b : Nat} {arr : Array Value} {T : TypeId} (k : Nat), w.heap[b]? = some (.cells arr T (0, 0)) → w.cell? ⟨b, k, none⟩ = arr.toList[k]? := fun k h => by simp [World.cell?, h]
  have hcall := Try.rest1_call w n i K E b1 b2 A B ck c (by rw [hw 0 e1, hx1]; rfl) (by rw [hw 0 e2, hx2]; rfl) (by rw [hw 1 e2, hx2]; rfl) hA hB hi hE hK
  refine scal_core (x := .b (sparedB n K E i)) R (hcall.mono ?_) hKc
  rintro e w' ⟨he, hb⟩
  exact ⟨he, hb.os, .of hb.tape, hb.output, hb.size, fun b hlt _ => hb.block b hlt⟩
/-! ### thin.Rest -/
noncomputable def RestC : Con := conP 2 (fun _ : Int × List Ed => True) (fun a => [grV a.1 a.2]) (fun a => grO (restF a.1 a.2).1 (restF a.1 a.2).2)
theorem RestC_at (n : Int) (E : List Ed) : RestC.F [grV n E] = some (grO (restF n E).1 (restF n E).2, []) :=
  conP_at (a := (n, E)) (fun x y _ _ h => by
    obtain ⟨n, E⟩ := x
    obtain ⟨n', E'⟩ := y
    simp at h
    obtain ⟨rfl, rfl⟩ := grV_inj h
    rfl) trivial
noncomputable def XRest : Cx := { Γ := [(42, RightC), (39, NarrowC)], T := T, nt := 37, ext := [73], base := sparedCR 73 }
theorem XRest_sound : Sound Try.prog T XRest.Γ := sound_cons RightG_ok (sound_cons Narrow_ok sound_nil)
theorem XRest_ok : CrOk Try.prog (callAt 1 XRest) := callAt_ok hmix hT XRest_sound inl_nil spared_ok 1
set_option maxHeartbeats 1000000 in
theorem Rest_ok : SoundC Try.prog T 40 RestC := by
  refine sound_con (X := XRest) (cr := callAt 1 XRest) XRest_ok hmix hT XRest_sound Try.func40 (by rfl) (by rfl) (by rfl) (by rfl) 3 ?_
  rintro ⟨n, E⟩ -
  dsimp only
  refine ⟨⟨Nat.le_of_ble_eq_true rfl, Nat.le_of_ble_eq_true rfl⟩, ?_⟩
  refine Call.by _ _ (RightC_at n E) ?_
  refine Pick.by (fun h1 => ?_) (fun h1 => ?_)
  · have h1 : ¬ RightP n E := by have h1 : (!decide (RightP n E)) = true := h1; simpa using h1
    rw [restF_wrong h1]
    refine ⟨rfl, ?_⟩
    (repeat' first | exact rfl | exact trivial | apply And.intro)
  have h1 : RightP n E := by have h1 : (!decide (RightP n E)) = false := h1; simpa using h1
  refine Call.by _ _ (NarrowC_at n E) ?_
  refine Pick.by (fun h2 => ?_) (fun h2 => ?_)
  · rw [restF_narrow h2]
    refine ⟨rfl, ?_⟩
    (repeat' first | exact rfl | exact trivial | apply And.intro)
  have h2 : narrowB n E = false := h2
  rw [restF_yes h1 h2]
  have hEl := h1.2.2.1
  refine LoopP.intro (α := Nat × List Ed) (fun s => s.1 ≤ E.length ∧ restK n s.2 (E.drop s.1) = restK n [] E ∧ s.2.length ≤ s.1) (fun s => E.length - s.1) (fun s => [(1, .ptr 0 0), (2, .ptr 2 0), (3, .ptr 3 0), (4, .fn 73 [.ptr 3 0, .ptr 0 0]), (17, .sl 1 none none), (18, .s (.i .i64 E.length)), (19, .s (.i .i64 s.1))])
    (fun s => [(0, some (.blk [.s (.i .i64 n), .sl 1 none none])), (1, some (.flat false 2 (edges E))), (2, some (.blk [.s (.i .i64 0), .nils])), (3, some (.blk [.sl 4 none none])), (4, some (.flat true 2 (edges s.2)))]) 5 (0, []) ⟨by simp, by simp, by simp⟩ (by refine Weak.by [(0, some _), (1, some _), (2, some _), (3, some _), (4, none)] (by ((repeat' first | exact rfl | exact trivial | apply And.intro) <;> (repeat' first | exact rfl | exact trivial | apply And.intro)); all_goals (exact sc_eq (by rw [edges_length]))) (by ((repeat' first | exact rfl | exact trivial | apply And.intro) <;> (repeat' first | exact rfl | exact trivial | apply And.intro)); all_goals (exact sc_eq (by rw [edges_length]))) (by rfl)) ?_
  rintro ⟨i, K⟩ ⟨hi, hr, hkl⟩
  dsimp only at hi hr hkl ⊢
  refine Pick.by (fun hc => ?_) (fun hc => ?_)
  · have hlt : i < E.length := by have := of_decide_eq_true hc; omega
    have hget : E[i]? = some E[i] := List.getElem?_eq_getElem hlt
    have hdr : E.drop i = E[i] :: E.drop (i + 1) := List.drop_eq_getElem_cons hlt
    obtain ⟨x, hx⟩ : ∃ x, E[i] = x := ⟨_, rfl⟩
    rw [hx] at hget hdr
    refine Idx.by i rfl (by rw [edges_length]; exact hlt) ?_
    refine Look.by _ (edges_get hget) ?_
    refine ⟨rfl, i, 3, 0, n, K, E, .sl 4 none none, .sl 1 none none, rfl, .inl rfl, .inl rfl, .inr ⟨4, true, rfl, rfl⟩, .inr ⟨1, false, rfl, rfl⟩, hlt, by omega, by omega, ?_⟩
    refine Pick.by (fun h3 => ?_) (fun h3 => ?_)
    · have h3 : narrowB n (K ++ E.drop (i + 1)) = true := by
        have h3 : (!(!narrowB n (K ++ E.drop (i + 1)))) = true := h3
        simpa using h3
      refine Pick.T (decide_eq_true (by rw [edges_length]; first | omega | (simp; omega) | (show K.length + 1 ≤ _; omega))) ?_
      refine Pick.T (inI64_of (by omega) (by omega)) ?_
      refine Next.by (i + 1, K ++ [x]) ⟨by dsimp only; omega, by rw [← hr, hdr, restK_keep h3], by simp; omega⟩ (by dsimp only; omega) (by refine Weak.by [(0, some _), (1, some _), (2, some _), (3, some _), (4, some _)] (by ((repeat' first | exact rfl | exact trivial | apply And.intro) <;> (repeat' first | exact rfl | exact trivial | apply And.intro)); all_goals (first | (rw [edges_snoc]; rfl))) (by ((repeat' first | exact rfl | exact trivial | apply And.intro) <;> (repeat' first | exact rfl | exact trivial | apply And.intro)); all_goals (first | (rw [edges_snoc]; rfl))) (by rfl))
    · have h3 : narrowB n (K ++ E.drop (i + 1)) = false := by
        have h3 : (!(!narrowB n (K ++ E.drop (i + 1)))) = false := h3
        simpa using h3
      refine Pick.T (inI64_of (by omega) (by omega)) ?_
      refine Next.by (i + 1, K) ⟨by dsimp only; omega, by rw [← hr, hdr, restK_go h3], by dsimp only; omega⟩ (by dsimp only; omega) (by refine Weak.by [(0, some _), (1, some _), (2, some _), (3, some _), (4, some _)] (by ((repeat' first | exact rfl | exact trivial | apply And.intro) <;> (repeat' first | exact rfl | exact trivial | apply And.intro))) (by ((repeat' first | exact rfl | exact trivial | apply And.intro) <;> (repeat' first | exact rfl | exact trivial | apply And.intro))) (by rfl))
  have hil : i = E.length := by have := of_decide_eq_false hc; omega
  subst hil
  rw [List.drop_length] at hr
  have hr : K = restK n [] E := hr
  rw [← hr]
  refine ⟨rfl, ?_⟩
  (repeat' first | exact rfl | exact trivial | apply And.intro)
end Go.Sh

set_option linter.unusedVariables false
set_option linter.unusedSimpArgs false
namespace Go.Sh
open Go.Proofs
/-! ### paths, rows apart, subdivisions: what they are -/
def stepsE (E : List Ed) (p : List Int) : Prop := ∀ i, i + 1 < p.length → adjE E (p.getD i 0) (p.getD (i + 1) 0)
def PathP (n : Int) (E : List Ed) (p : List Int) : Prop := RightP n E ∧ p ≠ [] ∧ (0 ≤ p.headD 0 ∧ p.headD 0 < n) ∧ p.Nodup ∧ stepsE E p
noncomputable def pathB (n : Int) (E : List Ed) (p : List Int) : Bool := @decide (PathP n E p) (Classical.propDecidable _)
theorem pathB_iff {n : Int} {E : List Ed} {p : List Int} : pathB n E p = true ↔ PathP n E p := @decide_eq_true_iff _ (Classical.propDecidable _)
theorem pathB_no {n : Int} {E : List Ed} {p : List Int} (h : ¬ PathP n E p) : pathB n E p = false := by rw [Bool.eq_false_iff]; exact fun k => h (pathB_iff.1 k)
theorem adj_in {n : Int} {E : List Ed} (hR : RightP n E) {x y : Int} (h : adjE E x y) : (0 ≤ x ∧ x < n) ∧ 0 ≤ y ∧ y < n := by
  rcases h with h | h <;> (have := hR.2.2.2.1 _ h; unfold okE at this; dsimp only at this; omega)
theorem getD_at {p : List Int} {i : Nat} (h : i < p.length) : p.getD i 0 = p[i] := by rw [List.getD_eq_getElem?_getD, List.getElem?_eq_getElem h]; rfl
theorem path_in {n : Int} {E : List Ed} {p : List Int} (h : PathP n E p) : ∀ x ∈ p, 0 ≤ x ∧ x < n := fun x hx => by
  obtain ⟨i, hi, rfl⟩ := List.mem_iff_getElem.1 hx
  cases i with
  | zero => rw [show p[0] = p.headD 0 by cases p with | nil => simp at hi | cons a l => rfl]; exact h.2.2.1
  | succ i =>
    have := (adj_in h.1 (h.2.2.2.2 i hi)).2
    rwa [getD_at hi] at this
def innerL (p : List Int) : List Int := (p.drop 1).dropLast
theorem innerL_length (p : List Int) : (innerL p).length = p.length - 2 := by simp [innerL]; omega
theorem innerL_get {p : List Int} {i : Nat} (h : i < p.length - 2) : (innerL p)[i]'(by rw [innerL_length]; exact h) = p[i + 1]'(by omega) := by
  simp only [innerL, List.getElem_dropLast, List.getElem_drop]
  congr 1
  omega
theorem mem_inner {p : List Int} {v : Int} : v ∈ innerL p ↔ ∃ i, ∃ h : i + 2 < p.length, v = p[i + 1]'(by omega) := by
  rw [List.mem_iff_getElem]
  constructor
  · rintro ⟨i, hi, rfl⟩
    rw [innerL_length] at hi
    exact ⟨i, by omega, innerL_get (by omega)⟩
  · rintro ⟨i, hi, rfl⟩
    exact ⟨i, by rw [innerL_length]; omega, innerL_get (by omega)⟩
def ApartP (L : List (List Int)) : Prop := ∀ r ∈ L, ∀ v ∈ innerL r, L.flatten.count v = 1
noncomputable def apartB (L : List (List Int)) : Bool := @decide (ApartP L) (Classical.propDecidable _)
theorem apartB_iff {L : List (List Int)} : apartB L = true ↔ ApartP L := @decide_eq_true_iff _ (Classical.propDecidable _)
theorem apartB_no {L : List (List Int)} (h : ¬ ApartP L) : apartB L = false := by rw [Bool.eq_false_iff]; exact fun k => h (apartB_iff.1 k)
/-- the places of the tops between which the paths go -/
def prsT (k : Int) : List (Int × Int) := if k = 1 then [(0, 1), (0, 2), (0, 3), (1, 2), (1, 3), (2, 3)] else if k = 2 then [(0, 1), (0, 1), (0, 1)] else []
def shapeP (k : Int) (T : List Int) (L : List (List Int)) : Prop := (k = 1 ∧ T.length = 4 ∧ L.length = 6) ∨ (k = 2 ∧ T.length = 2 ∧ L.length = 3)
instance (k : Int) (T : List Int) (L : List (List Int)) : Decidable (shapeP k T L) := by unfold shapeP; exact inferInstance
def fitP (n : Int) (E : List Ed) (k : Int) (T : List Int) (i : Nat) (p : List Int) : Prop :=
  PathP n E p ∧ p.headD 0 = T.getD ((prsT k).getD i (0, 0)).1.toNat 0 ∧ p.getLastD 0 = T.getD ((prsT k).getD i (0, 0)).2.toNat 0 ∧ k + 1 ≤ p.length
def SubP (n : Int) (E : List Ed) (k : Int) (T : List Int) (L : List (List Int)) : Prop := shapeP k T L ∧ (∀ i p, L[i]? = some p → fitP n E k T i p) ∧ ApartP L
noncomputable def subB (n : Int) (E : List Ed) (k : Int) (T : List Int) (L : List (List Int)) : Bool := @decide (SubP n E k T L) (Classical.propDecidable _)
theorem subB_iff {n : Int} {E : List Ed} {k : Int} {T : List Int} {L : List (List Int)} : subB n E k T L = true ↔ SubP n E k T L := @decide_eq_true_iff _ (Classical.propDecidable _)
theorem subB_no {n : Int} {E : List Ed} {k : Int} {T : List Int} {L : List (List Int)} (h : ¬ SubP n E k T L) : subB n E k T L = false := by rw [Bool.eq_false_iff]; exact fun k => h (subB_iff.1 k)
def sbV (o : Bool) (k : Int) (T : List Int) (L : List (List Int)) : V := .agg [.s (.i .i64 k), .flat o 1 (ints T), .nest o 1 (rowsI L)]
theorem sbV_inj {o : Bool} {k k' : Int} {T T' : List Int} {L L' : List (List Int)} (h : sbV o k T L = sbV o k' T' L') : k = k' ∧ T = T' ∧ L = L' := by
  simp only [sbV, V.agg.injEq, List.cons.injEq, C.nest.injEq, C.flat.injEq, C.s.injEq, Sc.i.injEq, true_and, and_true] at h
  exact ⟨h.1, ints_inj h.2.1, rowsI_inj h.2.2⟩
/-- in a subdivision no top stands twice -/
theorem sub_tops {n : Int} {E : List Ed} {k : Int} {T : List Int} {L : List (List Int)} (h : SubP n E k T L) : T.Nodup := by
  obtain ⟨hs, hf, _⟩ := h
  have key : ∀ i (p : List Int), L[i]? = some p → p.headD 0 ≠ p.getLastD 0 := fun i p hp e => by
    obtain ⟨hP, _, _, hl⟩ := hf i p hp
    have h2 : 2 ≤ p.length := by rcases hs with hs | hs <;> omega
    match p, h2, hP.2.2.2.1, e with
    | a :: b :: r, _, hnd, e =>
      have hm : a ∈ b :: r := by
        have e : a = (b :: r).getLastD 0 := by simpa [List.getLastD_cons] using e
        rw [e, List.getLastD_eq_getLast?, List.getLast?_eq_some_getLast (by simp)]
        exact List.getLast_mem _
      exact (List.nodup_cons.1 hnd).1 hm
  have hk : ∀ i, i < L.length → T.getD ((prsT k).getD i (0, 0)).1.toNat 0 ≠ T.getD ((prsT k).getD i (0, 0)).2.toNat 0 := fun i hi e => by
    obtain ⟨_, h1, h2, _⟩ := hf i _ (List.getElem?_eq_getElem hi)
    exact key i _ (List.getElem?_eq_getElem hi) (by rw [h1, h2, e])
  rcases hs with ⟨rfl, hT, hL⟩ | ⟨rfl, hT, hL⟩
  · match T, hT with
    | [a, b, c, d], _ =>
      have h0 := hk 0 (by omega)
      have h1 := hk 1 (by omega)
      have h2 := hk 2 (by omega)
      have h3 := hk 3 (by omega)
      have h4 := hk 4 (by omega)
      have h5 := hk 5 (by omega)
      simp [prsT] at h0 h1 h2 h3 h4 h5
      simp; exact ⟨⟨h0, h1, h2⟩, ⟨h3, h4⟩, h5⟩
  · match T, hT with
    | [a, b], _ =>
      have h0 := hk 0 (by omega)
      simp [prsT] at h0
      simp; exact h0
/-- all edges of the paths, as they come -/
def segsR (p : List Int) : List Ed := (List.range (p.length - 1)).map fun i => edN (p.getD i 0, p.getD (i + 1) 0)
def segs (L : List (List Int)) : List Ed := L.flatMap segsR
end Go.Sh

set_option linter.unusedVariables false
set_option linter.unusedSimpArgs false
namespace Go.Sh
open Go.Proofs Go.Sort Go.Shelf Go.RowKit
/-! ### slices.SortFunc on rows of numbers -/
theorem put_heap {α : Type} [Inhabited α] (enc : α → Value) (w : World) (q b off : Nat) (d : Array α) (os : Array Obj) {x : Nat} (hx : x < w.heap.size) :
    (grow (putRow enc (Sort.ahead w q) b off d) os).heap[x]? = (w.heap[x]?).map fun o => if x = b then onCells (putCells enc off d) o else o := by
  show ((w.heap.modify b (onCells (putCells enc off d))) ++ os)[x]? = _
  rw [Array.getElem?_append_left (by simpa using hx), Array.getElem?_modify]
  by_cases e : b = x
  · simp [e]
  · have : ¬ x = b := fun h => e h.symm
    simp [e, this]
noncomputable def sortL (cf : List Int → List Int → Int) (L : List (List Int)) : List (List Int) := L.mergeSort fun x y => !(ltOf cf) y x
theorem sortL_perm (cf : List Int → List Int → Int) (L : List (List Int)) : (sortL cf L).Perm L := List.mergeSort_perm L _
open Classical in
noncomputable def sortN (cf : List Int → List Int → Int) (l : List Flat) : List Flat := if h : ∃ L : List (List Int), l = rowsI L then rowsI (sortL cf h.choose) else l
theorem sortN_rows (cf : List Int → List Int → Int) (L : List (List Int)) : sortN cf (rowsI L) = rowsI (sortL cf L) := by
  have h : ∃ L' : List (List Int), rowsI L = rowsI L' := ⟨L, rfl⟩
  unfold sortN
  rw [dif_pos h, ← rowsI_inj h.choose_spec]
def sortNP (good : List Int → Prop) (cf : List Int → List Int → Int) (l : List Flat) : Prop := ∃ L : List (List Int), l = rowsI L ∧ (∀ r ∈ L, good r) ∧ L.Pairwise (fun x y => ltOf cf x y = true ∨ ltOf cf y x = true) ∧ L.length ≤ 1000000
theorem nest_sort {P : Program} {ρ : Ren} (LS : SlLaysF.n6 P ρ) {f c : Nat} (hf : ρ.f 6 = f) (hfn : ∃ fn, P.funcs[f]? = some fn ∧ fn.name ≠ "runtime.NumGoroutine" ∧ fn.body ≠ none)
    (eg : ∀ args w, (callFunc c args).run P w = .ok (.enter c args) w) (good : List Int → Prop) (cf : List Int → List Int → Int) (hO : SWO (ltOf cf))
    (hC : ∀ (x y : List Int) (A B : Option Addr) (ca cb : Nat) (W : World), good x → good y → FlatOk W noLab none A ca 1 (ints x) → FlatOk W noLab none B cb 1 (ints y) →
      Calls P c #[.slice A x.length ca, .slice B y.length cb] W fun e w' => e = .returned (.int .i64 (cf x y)) ∧ ∃ q os', w' = grow (W.drewN q) os') :
    NestFnCall P f c 1 (sortNP good cf) (sortN cf) := by
  refine ⟨hfn, ?_⟩
  rintro l ⟨L, rfl, hg, hD, hl⟩ w own n A cap rb rc h hown
  rw [sortN_rows]
  subst hf
  rcases Nat.eq_zero_or_pos L.length with h0 | h0
  · have : L = [] := List.eq_nil_of_length_eq_zero h0
    subst this
    refine (AnyF.slices_SortFunc_none { LS with } A cap _ w).mono ?_
    rintro e w' ⟨rfl, rfl⟩
    refine ⟨rfl, Frm.refl _ _, id, id, fun i hi => ⟨hi, rfl⟩, fun i hi => ⟨hi, rfl⟩, by simp [sortL], fun i fl hi => ?_, fun i fl hi => ?_, ?_⟩
    · simp [sortL, rowsI] at hi
    · simp [sortL, rowsI] at hi
    · rcases h.room rfl with ⟨h1, _⟩ | h1
      · exact .inl ⟨h1, by simp [sortL, rowsI]⟩
      · exact .inr h1
  · obtain ⟨m, hm⟩ : ∃ m, L.length = m + 1 := ⟨L.length - 1, by omega⟩
    rcases h.room rfl with ⟨_, h1⟩ | ⟨b, off, arr, T', hA, ho, hh, hsz⟩
    · have : L = [] := by simpa [rowsI] using h1
      rw [this] at h0; simp at h0
    have hbl : b < w.heap.size := hown b _ ho
    let el : Fin (m + 1) → List Int := fun i => L[i.1]'(by omega)
    let enc : Fin (m + 1) → Value := fun i => .slice (rb i.1) (el i).length (rc i.1)
    let cf' : Fin (m + 1) → Fin (m + 1) → Int := fun i j => cf (el i) (el j)
    have hfits := h.fits
    rw [rowsI_length] at hfits
    have hrow : ∀ i : Fin (m + 1), (rowsI L)[i.1]? = some (ints (el i)) := fun i => rowsI_get (List.getElem?_eq_getElem (by omega))
    have hmem : ∀ i : Fin (m + 1), el i ∈ L := fun i => List.getElem_mem _
    have hlt : ∀ i j : Fin (m + 1), ltOf cf' i j = ltOf cf (el i) (el j) := fun i j => rfl
    have hO' : SWO (ltOf cf') := ⟨fun x => hO.irrefl _, fun x y z => hO.trans _ _ _, fun x y z => hO.ntrans _ _ _⟩
    have hT : ∀ x y, (ltOf cf') x y = false → (ltOf cf') y x = false → x = y := fun x y h1 h2 => by
      rw [List.pairwise_iff_getElem] at hD
      rcases Nat.lt_trichotomy x.1 y.1 with hxy | hxy | hxy
      · have := hD x.1 y.1 (by omega) (by omega) hxy
        rw [hlt] at h1 h2
        rcases this with k | k
        · rw [show ltOf cf L[x.1] L[y.1] = false from h1] at k; simp at k
        · rw [show ltOf cf L[y.1] L[x.1] = false from h2] at k; simp at k
      · exact Fin.ext hxy
      · have := hD y.1 x.1 (by omega) (by omega) hxy
        rw [hlt] at h1 h2
        rcases this with k | k
        · rw [show ltOf cf L[y.1] L[x.1] = false from h2] at k; simp at k
        · rw [show ltOf cf L[x.1] L[y.1] = false from h1] at k; simp at k
    have hd : ((List.finRange (m + 1)).toArray).size = m + 1 := by simp
    have hcell : ∀ i : Fin (m + 1), w.cell? ⟨b, off + i.1, none⟩ = some (enc i) := fun i => by
      obtain ⟨a, v, q1, q2, q3, q4⟩ := h.head i.1 _ (hrow i)
      rw [hA] at q1; injection q1 with q1; subst q1
      rw [Addr.add_plain] at q3
      rw [q3, q4 (by simp), ints_length]
    have hH : Holds enc w b off (List.finRange (m + 1)).toArray := fun j hj => by
      rw [hd] at hj
      refine ⟨?_, by simp [World.frozen?, hh]⟩
      rw [getElem!_pos _ j (by rw [hd]; exact hj)]
      have hj' : (List.finRange (m + 1)).toArray[j]'(by rw [hd]; exact hj) = ⟨j, hj⟩ := by simp
      rw [hj', hcell ⟨j, hj⟩]
    have hfl : ∀ (q : Nat) (os : Array Obj) (d' : Array (Fin (m + 1))) (i : Fin (m + 1)), FlatOk (sortWorld enc w b off q d' os) noLab none (rb i.1) (rc i.1) 1 (ints (el i)) := fun q os d' i => by
      have hr := h.row i.1 _ (hrow i) (by simp)
      refine ⟨hr.fits, hr.pos, hr.even, fun i' row j x hi hj => ?_, fun hs => by simp at hs⟩
      obtain ⟨a, k1, k2, k3⟩ := hr.cell i' row j x hi hj
      refine ⟨a, k1, rfl, ?_⟩
      have hab : a.block < w.heap.size := hown _ _ k2
      have hne : a.block ≠ b := fun e => by rw [e, ho] at k2; injection k2 with k2; injection k2 with _ k2; simp at k2
      rw [cell_of_block (w := w)]
      · exact k3
      · rw [Addr.add_block]
        show (grow (putRow enc (Sort.ahead w q) b off d') os).heap[a.block]? = _
        rw [put_heap enc w q b off d' os hab]
        simp [hne]
    have hcmp : CmpLays1 P c #[] enc cf' b off (List.finRange (m + 1)).toArray.size w := fun q os dk hs x y =>
      hC (el x) (el y) _ _ _ _ _ (hg _ (hmem x)) (hg _ (hmem y)) (hfl q os dk x) (hfl q os dk y)
    have hS := Any.slices_SortFunc_total LS enc (fun _ => rfl) cf' hO' c #[] b off cap (List.finRange (m + 1)).toArray w eg hcmp hH hbl (by rw [hd]; omega) hT
    rw [rowsI_length, hm, hA]
    rw [hd] at hS
    refine hS.mono ?_
    rintro e w' ⟨rfl, q, os, rfl⟩
    obtain ⟨M, hM⟩ : ∃ M, (List.finRange (m + 1)).mergeSort (fun x y => !(ltOf cf') y x) = M := ⟨_, rfl⟩
    simp only [hM]
    have hperm : M.Perm (List.finRange (m + 1)) := by rw [← hM]; exact List.mergeSort_perm _ _
    have hML : M.length = m + 1 := by rw [hperm.length_eq]; simp
    have hnd : M.Nodup := hperm.nodup_iff.2 (List.nodup_finRange _)
    have hall : ∀ i : Fin (m + 1), i ∈ M := fun i => hperm.mem_iff.2 (List.mem_finRange i)
    have hmap : sortL cf L = M.map el := by
      have hLm : L = (List.finRange (m + 1)).map el := by
        apply List.ext_getElem
        · simp [hm]
        · intro i h1 h2; simp [el]
      rw [← hM, List.map_mergeSort (r := fun x y => !(ltOf cf') y x) (s := fun x y => !(ltOf cf) y x) (f := el) (fun a _ b _ => rfl), ← hLm]
      rfl
    have hlen : (rowsI (sortL cf L)).length = m + 1 := by rw [hmap]; simp [rowsI, hML]
    let s : Nat → Nat := fun i => if h : i < M.length then (M[i]).1 else i
    let t : Nat → Nat := fun j => if h : j < m + 1 then M.idxOf ⟨j, h⟩ else j
    have hs : ∀ i, (hi : i < m + 1) → s i = (M[i]'(by omega)).1 := fun i hi => by simp only [s]; rw [dif_pos (by omega)]
    have hget : ∀ i fl, (rowsI (sortL cf L))[i]? = some fl → i < m + 1 ∧ ∃ hi : i < M.length, fl = ints (el M[i]) := fun i fl hi => by
      have hil := (List.getElem?_eq_some_iff.1 hi).1
      rw [hlen] at hil
      refine ⟨hil, by omega, ?_⟩
      rw [hmap] at hi
      simp only [rowsI, List.getElem?_map, List.getElem?_eq_getElem (show i < M.length by omega), Option.map_some, Option.some.injEq] at hi
      exact hi.symm
    refine ⟨trivial, ⟨rfl, .of rfl, rfl, ?_, fun x hx hn => ?_⟩, s, t, fun i hi => ⟨by rw [hs i hi]; exact (M[i]'(by omega)).2, ?_⟩, fun i hi => ?_, hlen, fun i fl hi => ?_, fun i fl hi => ?_, .inr ⟨b, off, putCells enc off M.toArray arr, T', rfl, ho, ?_, by simp [putCells]; omega⟩⟩
    · show w.heap.size ≤ ((w.heap.modify b _) ++ os).size
      simp
    · show (grow (putRow enc (Sort.ahead w q) b off M.toArray) os).heap[x]? = _
      rw [put_heap enc w q b off M.toArray os hx]
      have : x ≠ b := fun e => hn (by rw [e]; exact ho)
      simp [this]
    · have hsi := hs i hi
      simp only [t]
      rw [dif_pos (by rw [hsi]; exact (M[i]'(by omega)).2)]
      have : (⟨s i, by rw [hsi]; exact (M[i]'(by omega)).2⟩ : Fin (m + 1)) = M[i]'(by omega) := Fin.ext hsi
      rw [this]
      exact hnd.idxOf_getElem i (by omega)
    · have hti : t i = M.idxOf ⟨i, hi⟩ := by simp only [t]; rw [dif_pos hi]
      have hlt' : M.idxOf (⟨i, hi⟩ : Fin (m + 1)) < M.length := List.idxOf_lt_length_of_mem (hall _)
      refine ⟨by omega, ?_⟩
      rw [hti, hs _ (by omega), List.getElem_idxOf hlt']
    · obtain ⟨hi1, hi2, rfl⟩ := hget i fl hi
      rw [hs i hi1]
      exact hrow _
    · obtain ⟨hi1, hi2, rfl⟩ := hget i fl hi
      refine ⟨_, rfl, ?_⟩
      rw [Addr.add_plain, hs i hi1]
      show (grow (putRow enc (Sort.ahead w q) b off M.toArray) os).cell? _ = _
      simp only [World.cell?, put_heap enc w q b off M.toArray os hbl, hh, Option.map_some, if_true, onCells]
      show (putCells enc off M.toArray arr)[off + i]? = _
      unfold putCells
      rw [Array.getElem?_mapIdx, Array.getElem?_eq_getElem (by omega), Option.map_some, if_pos (by simp; omega), ints_length]
      rw [getElem!_pos _ _ (by simp; omega)]
      simp [enc]
    · show (grow (putRow enc (Sort.ahead w q) b off M.toArray) os).heap[b]? = _
      rw [put_heap enc w q b off M.toArray os hbl, hh]
      simp [onCells]
end Go.Sh

set_option linter.unusedVariables false
set_option linter.unusedSimpArgs false
namespace Go.Sh
open Go.Proofs
/-! ### what is read: a path followed from a top -/
/-- the next one behind a path whose last one has two neighbours -/
def nxtT (E : List Ed) (p : List Int) : Int := (nearL E (p.getLastD 0)).getD 0 0 + (nearL E (p.getLastD 0)).getD 1 0 - p.getD (p.length - 2) 0
def goT (E : List Ed) : Nat → List Int → List Int
  | 0, p => p
  | f + 1, p => if (nearL E (p.getLastD 0)).length = 2 then goT E f (p ++ [nxtT E p]) else p
structure FolT (n : Int) (E : List Ed) (t : Int) (p : List Int) : Prop where
  two : 2 ≤ p.length
  hd : p.getD 0 0 = t
  st : stepsE E p
  nd : p.dropLast.Nodup
  deg : ∀ i, 1 ≤ i → i + 1 < p.length → (nearL E (p.getD i 0)).length = 2
  ne : ∀ i, i + 2 < p.length → p.getD i 0 ≠ p.getD (i + 2) 0
theorem adj_ne {n : Int} {E : List Ed} (hR : RightP n E) {x y : Int} (h : adjE E x y) : x ≠ y := by
  rcases h with h | h <;> (have := hR.2.2.2.1 _ h; unfold okE at this; dsimp only at this; omega)
theorem near_nodup {n : Int} {E : List Ed} (hR : RightP n E) (v : Int) : (nearL E v).Nodup :=
  (near_sorted hR.2.2.2.1 hR.2.2.2.2).imp fun h => by omega
theorem lastD_get {p : List Int} (h : 0 < p.length) : p.getLastD 0 = p.getD (p.length - 1) 0 := by
  rw [List.getLastD_eq_getLast?, List.getLast?_eq_getElem?, List.getD_eq_getElem?_getD]
/-- of two neighbours: which they are -/
theorem two_near {n : Int} {E : List Ed} (hR : RightP n E) {v a : Int} (h : (nearL E v).length = 2) (ha : adjE E v a) :
    adjE E v ((nearL E v).getD 0 0 + (nearL E v).getD 1 0 - a) ∧ (nearL E v).getD 0 0 + (nearL E v).getD 1 0 - a ≠ a ∧ ∀ b, adjE E v b → b = a ∨ b = (nearL E v).getD 0 0 + (nearL E v).getD 1 0 - a := by
  have hm : a ∈ nearL E v := mem_nearL.2 ha
  have hnd := near_nodup hR v
  obtain ⟨c, d, hcd⟩ : ∃ c d, nearL E v = [c, d] := by
    match hq : nearL E v, h with
    | [c, d], _ => exact ⟨c, d, rfl⟩
  have hall : ∀ b, adjE E v b ↔ b = c ∨ b = d := fun b => by rw [← mem_nearL, hcd]; simp
  rw [hcd] at hm hnd ⊢
  have hne : c ≠ d := by simpa using hnd
  simp only [List.getD_cons_zero, List.getD_cons_succ]
  simp only [List.mem_cons, List.not_mem_nil, or_false] at hm
  rcases hm with rfl | rfl
  · rw [show a + d - a = d by omega]
    exact ⟨(hall d).2 (.inr rfl), Ne.symm hne, fun b hb => (hall b).1 hb⟩
  · rw [show c + a - a = c by omega]
    exact ⟨(hall c).2 (.inl rfl), hne, fun b hb => ((hall b).1 hb).symm⟩
theorem getD_snoc {p : List Int} {x : Int} {i : Nat} : (p ++ [x]).getD i 0 = if i < p.length then p.getD i 0 else if i = p.length then x else 0 := by
  simp only [List.getD_eq_getElem?_getD, List.getElem?_append]
  by_cases h : i < p.length
  · rw [if_pos h, if_pos h]
  · rw [if_neg h, if_neg h]
    by_cases h2 : i = p.length
    · subst h2; simp
    · rw [if_neg h2, List.getElem?_eq_none (by simp; omega)]; rfl
section
variable {n : Int} {E : List Ed} {t : Int} {p : List Int}
theorem FolT.last_new (h : FolT n E t p) (hR : RightP n E) (ht : (nearL E t).length ≠ 2) (h2 : (nearL E (p.getLastD 0)).length = 2) : p.Nodup := by
  have h0 := h.two
  have hne0 : p ≠ [] := by intro e; rw [e] at h0; simp at h0
  have hl := lastD_get (p := p) (by omega)
  rw [hl] at h2
  have hdl : ∀ i, i + 1 < p.length → p.dropLast[i]? = some (p.getD i 0) := fun i hi => by
    rw [List.getElem?_dropLast, if_pos (by omega), List.getElem?_eq_getElem (by omega), getD_at (by omega)]
  have hinj : ∀ i j, i + 1 < p.length → j + 1 < p.length → p.getD i 0 = p.getD j 0 → i = j := fun i j hi hj e => by
    have hi' : i < p.dropLast.length := by simp; omega
    exact (List.getElem?_inj hi' h.nd).1 (by rw [hdl i hi, hdl j hj, e])
  have hlast : ∀ j, j + 1 < p.length → p.getD (p.length - 1) 0 ≠ p.getD j 0 := fun j hj e => by
    rcases Nat.eq_zero_or_pos j with rfl | hj0
    · rw [e, h.hd] at h2; exact ht h2
    have hdj := h.deg j hj0 hj
    have s1 := h.st (j - 1) (by omega)
    rw [show j - 1 + 1 = j by omega] at s1
    have s2 := h.st j (by omega)
    have s3 := h.st (p.length - 2) (by omega)
    rw [show p.length - 2 + 1 = p.length - 1 by omega, e] at s3
    have hall := (two_near hR hdj s1.symm).2.2
    have hne := h.ne (j - 1) (by omega)
    rw [show j - 1 + 2 = j + 1 by omega] at hne
    have e2 := (hall _ s2).resolve_left (Ne.symm hne)
    rcases hall _ s3.symm with k | k
    · have := hinj _ _ (by omega) (by omega) k; omega
    · rw [← e2] at k
      rcases Nat.lt_or_ge (j + 2) p.length with hj2 | hj2
      · have := hinj _ _ (by omega) (by omega) k
        have hx := h.ne j (by omega)
        rw [show j + 2 = p.length - 1 by omega] at hx
        exact hx e.symm
      · have hj3 : j + 1 = p.length - 1 := by omega
        rw [hj3, e] at s2
        exact adj_ne hR s2 rfl
  have hsp : p = p.dropLast ++ [p.getLast hne0] := (List.dropLast_concat_getLast hne0).symm
  rw [hsp, List.nodup_append]
  refine ⟨h.nd, by simp, fun a ha b hb e => ?_⟩
  simp only [List.mem_singleton] at hb
  subst hb
  obtain ⟨j, hj, hja⟩ := List.mem_iff_getElem.1 ha
  rw [List.length_dropLast] at hj
  refine hlast j (by omega) ?_
  rw [getD_at (by omega), getD_at (by omega), ← List.getLast_eq_getElem hne0, ← e, ← hja]
  simp
theorem FolT.next (h : FolT n E t p) (hR : RightP n E) (ht : (nearL E t).length ≠ 2) (h2 : (nearL E (p.getLastD 0)).length = 2) : FolT n E t (p ++ [nxtT E p]) := by
  have h0 := h.two
  have hl := lastD_get (p := p) (by omega)
  have hnd := h.last_new hR ht h2
  have s3 := h.st (p.length - 2) (by omega)
  rw [show p.length - 2 + 1 = p.length - 1 by omega, ← hl] at s3
  obtain ⟨q1, q2, _⟩ := two_near hR h2 s3.symm
  refine ⟨by simp; omega, ?_, fun i hi => ?_, by simpa using hnd, fun i h1 hi => ?_, fun i hi => ?_⟩
  · rw [getD_snoc, if_pos (by omega)]; exact h.hd
  · simp at hi
    rw [getD_snoc, getD_snoc, if_pos (by omega)]
    by_cases hi2 : i + 1 < p.length
    · rw [if_pos hi2]; exact h.st i hi2
    · rw [if_neg hi2, if_pos (by omega), show i = p.length - 1 by omega, ← hl]
      exact q1
  · simp at hi
    rw [getD_snoc, if_pos (by omega)]
    by_cases hi2 : i + 1 < p.length
    · exact h.deg i h1 hi2
    · rw [show i = p.length - 1 by omega, ← hl]; exact h2
  · simp at hi
    rw [getD_snoc, getD_snoc, if_pos (by omega)]
    by_cases hi2 : i + 2 < p.length
    · rw [if_pos hi2]; exact h.ne i hi2
    · rw [if_neg hi2, if_pos (by omega), show i = p.length - 2 by omega]
      exact Ne.symm q2
theorem FolT.inN (h : FolT n E t p) (hR : RightP n E) : ∀ x ∈ p, 0 ≤ x ∧ x < n := fun x hx => by
  obtain ⟨i, hi, rfl⟩ := List.mem_iff_getElem.1 hx
  have h0 := h.two
  rw [← getD_at hi]
  by_cases h1 : i + 1 < p.length
  · exact (adj_in hR (h.st i h1)).1
  · have := (adj_in hR (h.st (i - 1) (by omega))).2
    rwa [show i - 1 + 1 = i by omega] at this
theorem FolT.len (h : FolT n E t p) (hR : RightP n E) : p.length ≤ n.toNat + 1 := by
  have := range_len h.nd fun x hx => h.inN hR x ((List.dropLast_sublist _).subset hx)
  simp at this; omega
theorem FolT.len2 (h : FolT n E t p) (hR : RightP n E) (ht : (nearL E t).length ≠ 2) (h2 : (nearL E (p.getLastD 0)).length = 2) : p.length ≤ n.toNat :=
  range_len (h.last_new hR ht h2) (h.inN hR)
theorem FolT.start {x : Int} (hx : x ∈ nearL E t) : FolT n E t [t, x] where
  two := by simp
  hd := rfl
  st i hi := by
    have hi : i + 1 < 2 := hi
    have : i = 0 := by omega
    subst this
    exact mem_nearL.1 hx
  nd := by simp
  deg i h1 hi := by
    have hi : i + 1 < 2 := hi
    omega
  ne i hi := by
    have hi : i + 2 < 2 := hi
    omega
end
theorem goT_stop {E : List Ed} {f : Nat} {p : List Int} (h : (nearL E (p.getLastD 0)).length ≠ 2) : goT E f p = p := by
  cases f with
  | zero => rfl
  | succ f => exact if_neg h
theorem goT_step {E : List Ed} {f : Nat} {p : List Int} (h : (nearL E (p.getLastD 0)).length = 2) : goT E (f + 1) p = goT E f (p ++ [nxtT E p]) := if_pos h
/-- what a path is that was followed to its end -/
theorem goT_fol {n : Int} {E : List Ed} {t : Int} (hR : RightP n E) (ht : (nearL E t).length ≠ 2) : ∀ (f : Nat) {p : List Int}, FolT n E t p → n.toNat + 2 ≤ f + p.length → FolT n E t (goT E f p) ∧ (nearL E ((goT E f p).getLastD 0)).length ≠ 2 ∧ ∃ r, goT E f p = p ++ r := by
  intro f
  induction f with
  | zero =>
    intro p h hf
    have := h.len hR
    omega
  | succ f ih =>
    intro p h hf
    by_cases h2 : (nearL E (p.getLastD 0)).length = 2
    · rw [goT_step h2]
      obtain ⟨q1, q2, r, q3⟩ := ih (h.next hR ht h2) (by simp; omega)
      exact ⟨q1, q2, nxtT E p :: r, by rw [q3]; simp⟩
    · rw [goT_stop h2]
      exact ⟨h, h2, [], by simp⟩
/-! ### what is read -/
def topsK (E : List Ed) (k : Nat) : List Int := ((List.range k).filter fun v => (nearL E (v : Nat)).length == 3).map fun (v : Nat) => (v : Int)
def degOk (E : List Ed) (v : Nat) : Prop := (nearL E (v : Nat)).length = 0 ∨ (nearL E (v : Nat)).length = 2 ∨ (nearL E (v : Nat)).length = 3
def degsOk (n : Int) (E : List Ed) : Prop := ∀ v : Nat, (v : Int) < n → degOk E v
def pathT (n : Int) (E : List Ed) (t x : Int) : List Int := goT E n.toNat [t, x]
def keepT (n : Int) (E : List Ed) (t : Int) (l : List Int) : List (List Int) := (l.map fun x => pathT n E t x).filter fun p => decide (t < p.getLastD 0)
def pathsT (n : Int) (E : List Ed) (T : List Int) : List (List Int) := T.flatMap fun t => keepT n E t (nearL E t)
def usedT (L : List (List Int)) : Nat := (L.map fun p => p.length - 1).sum
def cmpT (p q : List Int) : Int := orI [cmpI (p.headD 0) (q.headD 0), cmpI (p.getLastD 0) (q.getLastD 0), cmpI (p.getD 1 0) (q.getD 1 0)]
def ltT (p q : List Int) : Prop := p.headD 0 < q.headD 0 ∨ (p.headD 0 = q.headD 0 ∧ (p.getLastD 0 < q.getLastD 0 ∨ (p.getLastD 0 = q.getLastD 0 ∧ p.getD 1 0 < q.getD 1 0)))
theorem cmpT_lt (p q : List Int) : cmpT p q < 0 ↔ ltT p q := by
  unfold cmpT orI cmpI ltT
  repeat' split
  all_goals simp_all
  all_goals omega
theorem ltT_t {x y : List Int} : ltOf cmpT x y = true ↔ ltT x y := by unfold ltOf; rw [decide_eq_true_iff, cmpT_lt]
theorem ltT_f {x y : List Int} : ltOf cmpT x y = false ↔ ¬ ltT x y := by unfold ltOf; rw [decide_eq_false_iff_not, cmpT_lt]
theorem swoT : Go.Sort.SWO (ltOf cmpT) where
  irrefl x := by rw [ltT_f]; unfold ltT; omega
  trans x y z h1 h2 := by rw [ltT_t] at *; unfold ltT at *; omega
  ntrans x y z h1 h2 := by rw [ltT_f] at *; unfold ltT at *; omega
theorem parts_T {p q : List Int} (h : p.headD 0 ≠ q.headD 0 ∨ p.getD 1 0 ≠ q.getD 1 0) : ltOf cmpT p q = true ∨ ltOf cmpT q p = true := by
  rw [ltT_t, ltT_t]; unfold ltT; omega
def kindT (T : List Int) : Int := if T.length = 4 then 1 else if T.length = 2 then 2 else 0
def ReadP (n : Int) (E : List Ed) : Prop := RightP n E ∧ degsOk n E ∧ kindT (topsK E n.toNat) ≠ 0 ∧ usedT (pathsT n E (topsK E n.toNat)) = E.length ∧
  SubP n E (kindT (topsK E n.toNat)) (topsK E n.toNat) (sortL cmpT (pathsT n E (topsK E n.toNat)))
open Classical in
noncomputable def readF (n : Int) (E : List Ed) : (Int × List Int × List (List Int)) × Bool :=
  if ReadP n E then ((kindT (topsK E n.toNat), topsK E n.toNat, sortL cmpT (pathsT n E (topsK E n.toNat))), true) else ((0, [], []), false)
theorem readF_no {n : Int} {E : List Ed} (h : ¬ ReadP n E) : readF n E = ((0, [], []), false) := if_neg h
theorem readF_yes {n : Int} {E : List Ed} (h : ReadP n E) : readF n E = ((kindT (topsK E n.toNat), topsK E n.toNat, sortL cmpT (pathsT n E (topsK E n.toNat))), true) := if_pos h
theorem mem_topsK {E : List Ed} {k : Nat} {t : Int} : t ∈ topsK E k ↔ 0 ≤ t ∧ t < k ∧ (nearL E t).length = 3 := by
  unfold topsK
  rw [List.mem_map]
  constructor
  · rintro ⟨v, hv, rfl⟩
    rw [List.mem_filter, List.mem_range] at hv
    exact ⟨by omega, by omega, by simpa using hv.2⟩
  · rintro ⟨h0, h1, h2⟩
    exact ⟨t.toNat, by rw [List.mem_filter, List.mem_range, show ((t.toNat : Nat) : Int) = t by omega]; exact ⟨by omega, by simpa using h2⟩, by omega⟩
theorem topsK_sorted (E : List Ed) (k : Nat) : (topsK E k).Pairwise (· < ·) := by
  unfold topsK
  rw [List.pairwise_map]
  exact (List.pairwise_lt_range.filter _).imp fun h => by omega
theorem topsK_succ (E : List Ed) (k : Nat) : topsK E (k + 1) = topsK E k ++ (if (nearL E (k : Nat)).length = 3 then [(k : Int)] else []) := by
  unfold topsK
  rw [List.range_succ, List.filter_append, List.map_append]
  congr 1
  by_cases h : (nearL E (k : Nat)).length = 3 <;> simp [h]
theorem pathT_is {n : Int} {E : List Ed} (hR : RightP n E) {t x : Int} (ht : (nearL E t).length = 3) (hx : x ∈ nearL E t) :
    FolT n E t (pathT n E t x) ∧ (nearL E ((pathT n E t x).getLastD 0)).length ≠ 2 ∧ ∃ r, pathT n E t x = t :: x :: r := by
  obtain ⟨h1, h2, r, h3⟩ := goT_fol hR (by omega) n.toNat (FolT.start hx) (by simp)
  exact ⟨h1, h2, r, h3⟩
theorem mem_keepT {n : Int} {E : List Ed} {t : Int} {l : List Int} {p : List Int} : p ∈ keepT n E t l ↔ (∃ x ∈ l, p = pathT n E t x) ∧ t < p.getLastD 0 := by
  unfold keepT
  rw [List.mem_filter, List.mem_map, decide_eq_true_iff]
  exact and_congr_left fun _ => ⟨fun ⟨x, hx, e⟩ => ⟨x, hx, e.symm⟩, fun ⟨x, hx, e⟩ => ⟨x, hx, e.symm⟩⟩
theorem keepT_snoc (n : Int) (E : List Ed) (t : Int) (l : List Int) (x : Int) : keepT n E t (l ++ [x]) = keepT n E t l ++ (if t < (pathT n E t x).getLastD 0 then [pathT n E t x] else []) := by
  unfold keepT
  rw [List.map_append, List.filter_append]
  congr 1
  rw [List.map_cons, List.map_nil]
  by_cases h : t < (pathT n E t x).getLastD 0
  · rw [if_pos h, List.filter_cons, if_pos (decide_eq_true h)]; rfl
  · rw [if_neg h, List.filter_cons, if_neg (by rw [decide_eq_true_iff]; exact h)]; rfl
theorem paths_keys {n : Int} {E : List Ed} (hR : RightP n E) {T : List Int} (hT : ∀ t ∈ T, (nearL E t).length = 3) (hnd : T.Nodup) :
    (pathsT n E T).Pairwise (fun x y => ltOf cmpT x y = true ∨ ltOf cmpT y x = true) := by
  unfold pathsT
  rw [List.pairwise_flatMap]
  refine ⟨fun t ht => ?_, ?_⟩
  · unfold keepT
    refine List.Pairwise.filter _ ?_
    rw [List.pairwise_map]
    refine List.Pairwise.imp_of_mem ?_ (near_nodup hR t)
    intro x y hx hy hne
    obtain ⟨_, _, r, hr⟩ := pathT_is hR (hT t ht) hx
    obtain ⟨_, _, q, hq⟩ := pathT_is hR (hT t ht) hy
    rw [hr, hq]
    exact parts_T (.inr (by simpa using hne))
  · refine List.Pairwise.imp_of_mem ?_ hnd
    intro t u ht hu hne p hp q hq
    obtain ⟨⟨x, hx, rfl⟩, _⟩ := mem_keepT.1 hp
    obtain ⟨⟨y, hy, rfl⟩, _⟩ := mem_keepT.1 hq
    obtain ⟨_, _, r, hr⟩ := pathT_is hR (hT t ht) hx
    obtain ⟨_, _, q, hq⟩ := pathT_is hR (hT u hu) hy
    rw [hr, hq]
    exact parts_T (.inl (by simpa using hne))
end Go.Sh

set_option linter.unusedVariables false
set_option linter.unusedSimpArgs false
namespace Go.Sh
open Go.Proofs Go.Sort Go.Shelf Go.RowKit
/-! ### slices.SortFunc on paths -/
def goodT (x : List Int) : Prop := 2 ≤ x.length ∧ x.length ≤ 1000000
theorem hd_get {x : List Int} (h : 0 < x.length) : x[0]? = some (x.headD 0) := by cases x with | nil => simp at h | cons a l => rfl
theorem last_get {x : List Int} (h : 0 < x.length) : x[x.length - 1]? = some (x.getLastD 0) := by rw [List.getLastD_eq_getLast?, List.getLast?_eq_getElem?, List.getElem?_eq_getElem (by omega)]; rfl
theorem getD_get {x : List Int} {i : Nat} (h : i < x.length) : x[i]? = some (x.getD i 0) := by rw [List.getD_eq_getElem?_getD, List.getElem?_eq_getElem h]; rfl
theorem CloT_p [Fwd] : SoundP Try.prog 70 (conF (fun a : List Int × List Int => goodT a.1 ∧ goodT a.2) (fun a => [.one (.flat false 1 (ints a.1)), .one (.flat false 1 (ints a.2))]) (fun a => .one (.s (.i .i64 (cmpT a.1 a.2))))) := by
  refine con_pure (X := { Γ := [(72, CompareC), (71, OrC)], T := T, nt := 34 }) cr_none hmix hT (sound_cons Compare_ok (sound_cons Or_ok sound_nil)) Try.func70 (by rfl) (by rfl) (by rfl) 2 ?_
  rintro ⟨x, y⟩ ⟨⟨hx, hx2⟩, hy, hy2⟩
  dsimp only at hx hx2 hy hy2 ⊢
  refine ⟨⟨Nat.le_of_ble_eq_true rfl, Nat.le_of_ble_eq_true rfl⟩, ?_⟩
  refine Idx.by 0 rfl (by rw [ints_length]; omega) ?_
  refine Look.by _ (ints_get (hd_get (by omega))) ?_
  refine Idx.by 0 rfl (by rw [ints_length]; omega) ?_
  refine Look.by _ (ints_get (hd_get (by omega))) ?_
  refine Call.by _ _ (CompareC_at _ _) ?_
  refine Pick.T (inI64_of (by rw [ints_length]; omega) (by rw [ints_length]; omega)) ?_
  refine Idx.by (x.length - 1) (by rw [ints_length]; omega) (by rw [ints_length]; omega) ?_
  refine Look.by _ (ints_get (last_get (by omega))) ?_
  refine Pick.T (inI64_of (by rw [ints_length]; omega) (by rw [ints_length]; omega)) ?_
  refine Idx.by (y.length - 1) (by rw [ints_length]; omega) (by rw [ints_length]; omega) ?_
  refine Look.by _ (ints_get (last_get (by omega))) ?_
  refine Call.by _ _ (CompareC_at _ _) ?_
  refine Idx.by 1 rfl (by rw [ints_length]; omega) ?_
  refine Look.by _ (ints_get (getD_get (by omega))) ?_
  refine Idx.by 1 rfl (by rw [ints_length]; omega) ?_
  refine Look.by _ (ints_get (getD_get (by omega))) ?_
  refine Call.by _ _ (CompareC_at _ _) ?_
  refine Call.by _ _ (OrC_at (l := [cmpI (x.headD 0) (y.headD 0), cmpI (x.getLastD 0) (y.getLastD 0), cmpI (x.getD 1 0) (y.getD 1 0)]) (by simp)) ?_
  refine Seg.by (by kernel_rfl) ?_
  refine ⟨rfl, ?_⟩
  show _ = _
  rfl
theorem cloT_call (x y : List Int) (A B : Option Addr) (ca cb : Nat) (W : World) (hx : goodT x) (hy : goodT y) (h1 : FlatOk W noLab none A ca 1 (ints x)) (h2 : FlatOk W noLab none B cb 1 (ints y)) :
    Calls Try.prog 70 #[.slice A x.length ca, .slice B y.length cb] W fun e w' => e = .returned (.int .i64 (cmpT x y)) ∧ ∃ q os', w' = grow (W.drewN q) os' := by
  letI : Fwd := ⟨True⟩
  have hF : conF (fun a : List Int × List Int => goodT a.1 ∧ goodT a.2) (fun a => [V.one (.flat false 1 (ints a.1)), .one (.flat false 1 (ints a.2))]) (fun a => V.one (C.s (.i .i64 (cmpT a.1 a.2)))) [.one (.flat false 1 (ints x)), .one (.flat false 1 (ints y))] = some (.one (.s (.i .i64 (cmpT x y))), []) :=
    conF_at (a := (x, y)) (fun a b _ _ h => by simp at h; rw [ints_inj h.1, ints_inj h.2]) ⟨hx, hy⟩
  refine (CloT_p _ _ _ hF W #[.slice A x.length ca, .slice B y.length cb] ⟨⟨⟨A, ca, fun _ => none, fun _ => 0⟩, by rw [ints_length], h1⟩, ⟨⟨B, cb, fun _ => none, fun _ => 0⟩, by rw [ints_length], h2⟩, trivial⟩).mono ?_
  rintro e w' ⟨u, lab, rfl, hf, _, hu⟩
  obtain ⟨p, hu⟩ := hu
  refine ⟨?_, frm_grow trivial hf⟩
  show Ending.returned u = _
  rw [show u = (Sc.i .i64 (cmpT x y)).val from hu]
  rfl
theorem SortT_row : NestFnCall Try.prog 69 70 1 (sortNP goodT cmpT) (sortN cmpT) :=
  nest_sort Try.laysSortR rfl ⟨_, Try.func69, by decide, by simp [Try.f69]⟩
    (enters_of Try.func70 (by kernel_rfl) rfl) goodT cmpT swoT cloT_call
end Go.Sh

set_option linter.unusedVariables false
set_option linter.unusedSimpArgs false
namespace Go.Proofs
open Go.RowKit Go.Sh
attribute [local go_sem] Oper.semAt_some
def Try.prsR (k : Int) : Option (Nat × Flat) := if k = 1 ∨ k = 2 then some (2, edges (prsT k)) else none
theorem Try.edges_ev (l : List Ed) : ∀ (i : Nat) (row : Row), (edges l)[i]? = some row → row.length = 2 := fun i row h => by
  simp only [edges, List.getElem?_map, Option.map_eq_some_iff] at h
  obtain ⟨x, _, rfl⟩ := h
  rfl
theorem Try.al_size (W : World) (o : Obj) : (W.alloc o).heap.size = W.heap.size + 1 := by show (W.heap.push o).size = _; simp
theorem Try.rows_at {w' : World} {own : Nat → Option Key} {key : Key} {b : Nat} {arr : Array Value} {T : TypeId} {E : List Ed} (hh : w'.heap[b]? = some (.cells arr T (0, 0))) (ho : own b = some key) (hs : arr.size = E.length * 2) (hl : E.length ≤ 1000)
    (hc : ∀ (k : Nat) (x : Ed), E[k]? = some x → arr[k * 2]? = some (.int .i64 x.1) ∧ arr[k * 2 + 1]? = some (.int .i64 x.2)) : FlatOk w' own (some key) (some ⟨b, 0, none⟩) E.length 2 (edges E) := by
  refine ⟨by rw [edges_length]; exact Nat.le_refl _, by omega, Try.edges_ev E, fun r row q x hr hq => ?_, fun _ => .inr ⟨b, 0, arr, T, rfl, ho, hh, by omega, by omega⟩⟩
  simp only [edges, List.getElem?_map, Option.map_eq_some_iff] at hr
  obtain ⟨x0, hx0, rfl⟩ := hr
  have hql : q < 2 := (List.getElem?_eq_some_iff.1 hq).1
  refine ⟨_, rfl, ho, ?_⟩
  obtain ⟨c1, c2⟩ := hc r x0 hx0
  rw [Addr.add_plain]
  simp only [World.cell?, hh, Nat.zero_add]
  match q, hql, hq with
  | 0, _, hq => simp at hq; subst hq; rw [Nat.add_zero]; exact c1
  | 1, _, hq => simp at hq; subst hq; exact c2
set_option maxRecDepth 100000 in
set_option maxHeartbeats 4000000 in
theorem Try.pairs_run (k : Int) (w : World) : Calls Try.prog 62 #[.int .i64 k] w fun e w' => ∃ u, e = .returned u ∧ Frm (fun _ => False) w w' ∧ newOut w w' u (Try.prsR k) := by
  have hfr : ∀ o1 o2 : Obj, Frm (fun _ => False) w ((w.alloc o1).alloc o2) := fun o1 o2 => by
    refine ⟨rfl, .rfl, rfl, by rw [Try.al_size, Try.al_size]; omega, fun b hb _ => ?_⟩
    rw [heap_alloc_lt _ _ (by rw [Try.al_size]; omega), heap_alloc_lt _ _ hb]
  have hat0 : ∀ o1 o2 : Obj, ((w.alloc o1).alloc o2).heap[w.heap.size]? = some o1 := fun o1 o2 => by
    rw [heap_alloc_lt _ _ (by rw [Try.al_size]; omega), heap_alloc_at]
  have hat1 : ∀ o1 o2 : Obj, ((w.alloc o1).alloc o2).heap[w.heap.size + 1]? = some o2 := fun o1 o2 => by
    have := heap_alloc_at (w.alloc o1) o2
    rwa [Try.al_size] at this
  have hsz : ∀ o1 o2 : Obj, ((w.alloc o1).alloc o2).heap.size = w.heap.size + 2 := fun o1 o2 => by rw [Try.al_size, Try.al_size]
  by_cases h1 : k = 1
  · subst h1
    go_enter Try.func62, Try.ntmps62
    go_wp2
    go_ret
    refine ⟨_, rfl, hfr _ _, some ⟨w.heap.size, 0, none⟩, 6, rfl, fun key => ?_⟩
    exact Try.rows_at (E := prsT 1) (hat0 _ _) (by rw [if_pos ⟨Nat.le_refl _, by rw [hsz]; omega⟩]) rfl (by decide) (fun k x hx => by
      have hk : k < 6 := (List.getElem?_eq_some_iff.1 hx).1
      match k, hk, hx with
      | 0, _, hx => cases hx; exact ⟨rfl, rfl⟩
      | 1, _, hx => cases hx; exact ⟨rfl, rfl⟩
      | 2, _, hx => cases hx; exact ⟨rfl, rfl⟩
      | 3, _, hx => cases hx; exact ⟨rfl, rfl⟩
      | 4, _, hx => cases hx; exact ⟨rfl, rfl⟩
      | 5, _, hx => cases hx; exact ⟨rfl, rfl⟩)
  · by_cases h2 : k = 2
    · subst h2
      go_enter Try.func62, Try.ntmps62
      go_wp2
      go_ret
      refine ⟨_, rfl, hfr _ _, some ⟨w.heap.size + 1, 0, none⟩, 3, rfl, fun key => ?_⟩
      exact Try.rows_at (E := prsT 2) (hat1 _ _) (by rw [if_pos ⟨by omega, by rw [hsz]; omega⟩]) rfl (by decide) (fun k x hx => by
        have hk : k < 3 := (List.getElem?_eq_some_iff.1 hx).1
        match k, hk, hx with
        | 0, _, hx => cases hx; exact ⟨rfl, rfl⟩
        | 1, _, hx => cases hx; exact ⟨rfl, rfl⟩
        | 2, _, hx => cases hx; exact ⟨rfl, rfl⟩)
    · have hr : Try.prsR k = none := if_neg (by omega)
      rw [hr]
      go_enter Try.func62, Try.ntmps62
      go_wp2
      go_ret
      exact ⟨_, rfl, hfr _ _, rfl⟩
theorem Try.pairs_call : NewCall Try.prog 62 (fun x => match x with | .i .i64 k => some (Try.prsR k) | _ => none) := by
  refine ⟨⟨_, Try.func62, by decide, by simp [Try.f62]⟩, fun x r hx w => ?_⟩
  cases x with
  | i kd k =>
    cases kd <;> simp at hx
    subst hx
    exact Try.pairs_run k w
  | b v => simp at hx
end Go.Proofs

set_option linter.unusedVariables false
set_option linter.unusedSimpArgs false
namespace Go.Sh
open Go.Proofs
/-! ### walk.IsPath -/
noncomputable def TopsC : Con := conP 1 (fun _ : Int => True) (fun k => [.one (.s (.i .i64 k))]) (fun k => .one (.s (.i .i64 (if k = 1 then 4 else 2))))
theorem TopsC_at (k : Int) : TopsC.F [.one (.s (.i .i64 k))] = some (.one (.s (.i .i64 (if k = 1 then 4 else 2))), []) :=
  conP_at (a := k) (fun x y _ _ h => by simp at h; rw [h]) trivial
theorem Tops_ok : SoundC Try.prog T 63 TopsC := by
  refine sound_con (X := { Γ := [], T := T, nt := 5 }) cr_none hmix hT sound_nil Try.func63 (by rfl) (by rfl) (by rfl) (by rfl) 1 ?_
  rintro k -
  refine ⟨⟨Nat.le_of_ble_eq_true rfl, Nat.le_of_ble_eq_true rfl⟩, ?_⟩
  refine Pick.by (fun h1 => ?_) (fun h1 => ?_)
  · have h1 : k = 1 := by simpa using h1
    refine ⟨rfl, ?_⟩
    show _ = _
    rw [if_pos h1]
  · have h1 : ¬ k = 1 := by simpa using h1
    refine ⟨rfl, ?_⟩
    show _ = _
    rw [if_neg h1]
noncomputable def PathC : Con := conP 2 (fun a : (Int × List Ed) × List Int => a.2.length ≤ 1000000) (fun a => [grV a.1.1 a.1.2, .one (.flat false 1 (ints a.2))]) (fun a => .one (.s (.b (pathB a.1.1 a.1.2 a.2))))
theorem PathC_at {n : Int} {E : List Ed} {l : List Int} (h : l.length ≤ 1000000) : PathC.F [grV n E, .one (.flat false 1 (ints l))] = some (.one (.s (.b (pathB n E l))), []) :=
  conP_at (a := ((n, E), l)) (fun a b _ _ h => by
    obtain ⟨⟨n, E⟩, l⟩ := a
    obtain ⟨⟨n', E'⟩, l'⟩ := b
    simp at h
    obtain ⟨h1, h2⟩ := h
    obtain ⟨rfl, rfl⟩ := grV_inj h1
    rw [ints_inj h2]) h
theorem noP {n : Int} {E : List Ed} {l : List Int} (h : ¬ PathP n E l) : Sc.b false = Sc.b (pathB n E l) := by rw [pathB_no h]
theorem hasG_adj {n : Int} {E : List Ed} {a b : Int} (hR : RightP n E) : hasG n E a b = true ↔ adjE E a b := by
  unfold hasG
  rw [decide_eq_true hR, Bool.true_and, List.elem_iff, mem_nearL]
set_option maxHeartbeats 1000000 in
theorem Path_ok : SoundC Try.prog T 29 PathC := by
  refine sound_con (X := { Γ := [(42, RightC), (61, UnlikeC), (27, HasGC)], T := T, nt := 52 }) cr_none hmix hT (sound_cons RightG_ok (sound_cons Unlike_ok (sound_cons Has_ok sound_nil))) Try.func29 (by rfl) (by rfl) (by rfl) (by rfl) 3 ?_
  rintro ⟨⟨n, E⟩, l⟩ hl
  dsimp only at hl
  refine ⟨⟨Nat.le_of_ble_eq_true rfl, Nat.le_of_ble_eq_true rfl⟩, ?_⟩
  refine Call.by _ _ (RightC_at n E) ?_
  refine Pick.by (fun h1 => ?_) (fun h1 => ?_)
  · have h1 : ¬ RightP n E := by have h1 : (!decide (RightP n E)) = true := h1; simpa using h1
    refine Seg.by (by kernel_rfl) ?_
    refine ⟨rfl, ?_⟩
    show Sc.b false = Sc.b (pathB n E l)
    exact noP fun h => h1 h.1
  have h1 : RightP n E := by have h1 : (!decide (RightP n E)) = false := h1; simpa using h1
  refine Pick.by (fun h2 => ?_) (fun h2 => ?_)
  · have h2 : l = [] := by simpa [ints] using h2
    refine Seg.by (by kernel_rfl) ?_
    refine ⟨rfl, ?_⟩
    show Sc.b false = Sc.b (pathB n E l)
    exact noP fun h => h.2.1 h2
  have h2 : l ≠ [] := by simpa [ints] using h2
  have hpos : 0 < l.length := List.length_pos_iff.2 h2
  have hhd : l[0] = l.headD 0 := by cases l with | nil => exact absurd rfl h2 | cons a l => rfl
  refine Idx.by 0 rfl (by rw [ints_length]; exact hpos) ?_
  refine Look.by _ (ints_get (List.getElem?_eq_getElem hpos)) ?_
  refine Pick.by (fun h3 => ?_) (fun h3 => ?_)
  · have h3 : l[0] < 0 := of_decide_eq_true h3
    refine Seg.by (by kernel_rfl) ?_
    refine ⟨rfl, ?_⟩
    show Sc.b false = Sc.b (pathB n E l)
    exact noP fun h => by have := h.2.2.1; omega
  have h3 : ¬ l[0] < 0 := of_decide_eq_false h3
  refine Idx.by 0 rfl (by rw [ints_length]; exact hpos) ?_
  refine Look.by _ (ints_get (List.getElem?_eq_getElem hpos)) ?_
  refine Pick.by (fun h4 => ?_) (fun h4 => ?_)
  · have h4 : l[0] ≥ n := of_decide_eq_true h4
    refine Seg.by (by kernel_rfl) ?_
    refine ⟨rfl, ?_⟩
    show Sc.b false = Sc.b (pathB n E l)
    exact noP fun h => by have := h.2.2.1; omega
  have h4 : ¬ l[0] ≥ n := of_decide_eq_false h4
  refine Call.by _ _ (UnlikeC_at hl) ?_
  refine Seg.by (by kernel_rfl) ?_
  refine Pick.by (fun h5 => ?_) (fun h5 => ?_)
  · have h5 : ¬ l.Nodup := by have h5 : (!decide l.Nodup) = true := h5; simpa using h5
    refine ⟨rfl, ?_⟩
    show Sc.b false = Sc.b (pathB n E l)
    exact noP fun h => h5 h.2.2.2.1
  have h5 : l.Nodup := by have h5 : (!decide l.Nodup) = false := h5; simpa using h5
  have hE4 := h1.2.2.1
  refine Pick.T (inI64_of (by rw [ints_length]; show _ ≤ (l.length : Int) - 1; omega) (by rw [ints_length]; show (l.length : Int) - 1 ≤ _; omega)) ?_
  refine LoopP.intro (α := Nat) (fun k => k + 1 ≤ l.length ∧ ∀ i, i < k → adjE E (l.getD i 0) (l.getD (i + 1) 0)) (fun k => l.length - k) (fun k => [(1, .sl 2 none none), (2, .ptr 0 0), (35, .s (.i .i64 ((l.length : Int) - 1))), (36, .s (.i .i64 k))])
    (fun k => [(0, some (.blk [.s (.i .i64 n), .sl 1 none none])), (1, some (.flat false 2 (edges E))), (2, some (.flat false 1 (ints l)))]) 3 0 ⟨by omega, fun i h => by omega⟩ (by refine Weak.by [(0, some _), (1, some _), (2, some _)] (by ((repeat' first | exact rfl | exact trivial | apply And.intro) <;> (repeat' first | exact rfl | exact trivial | apply And.intro)); all_goals (exact sc_eq (by rw [ints_length]))) (by ((repeat' first | exact rfl | exact trivial | apply And.intro) <;> (repeat' first | exact rfl | exact trivial | apply And.intro)); all_goals (exact sc_eq (by rw [ints_length]))) (by rfl)) ?_
  rintro k ⟨hk, hst⟩
  refine Pick.by (fun hc => ?_) (fun hc => ?_)
  · have hlt : k + 1 < l.length := by have := of_decide_eq_true hc; omega
    refine Idx.by k rfl (by rw [ints_length]; omega) ?_
    refine Look.by _ (ints_get (List.getElem?_eq_getElem (by omega))) ?_
    refine Pick.T (inI64_of (by omega) (by omega)) ?_
    refine Idx.by (k + 1) (by omega) (by rw [ints_length]; omega) ?_
    refine Look.by _ (ints_get (List.getElem?_eq_getElem hlt)) ?_
    refine Call.by _ _ (HasGC_at _ _ (by omega)) ?_
    refine Seg.by (by kernel_rfl) ?_
    refine Pick.by (fun h6 => ?_) (fun h6 => ?_)
    · have h6 : hasG n E l[k] l[k + 1] = false := by have h6 : (!hasG n E l[k] l[k + 1]) = true := h6; simpa using h6
      refine ⟨rfl, ?_⟩
      show Sc.b false = Sc.b (pathB n E l)
      exact noP fun h => by
        have := h.2.2.2.2 k hlt
        rw [getD_at (by omega), getD_at hlt, ← hasG_adj h1, h6] at this
        cases this
    · have h6 : hasG n E l[k] l[k + 1] = true := by have h6 : (!hasG n E l[k] l[k + 1]) = false := h6; simpa using h6
      refine Pick.T (inI64_of (by omega) (by omega)) ?_
      refine Next.by (k + 1) ⟨by omega, fun i hi => ?_⟩ (by omega) (by refine Weak.by [(0, some _), (1, some _), (2, some _)] (by ((repeat' first | exact rfl | exact trivial | apply And.intro) <;> (repeat' first | exact rfl | exact trivial | apply And.intro))) (by ((repeat' first | exact rfl | exact trivial | apply And.intro) <;> (repeat' first | exact rfl | exact trivial | apply And.intro))) (by rfl))
      rcases Nat.lt_or_ge i k with h | h
      · exact hst i h
      · obtain rfl : i = k := by omega
        rw [getD_at (by omega), getD_at hlt, ← hasG_adj h1]
        exact h6
  · have hge : l.length = k + 1 := by have := of_decide_eq_false hc; omega
    refine ⟨rfl, ?_⟩
    show Sc.b true = Sc.b (pathB n E l)
    rw [pathB_iff.2 ⟨h1, h2, by omega, h5, fun i hi => hst i (by omega)⟩]
end Go.Sh

set_option linter.unusedVariables false
set_option linter.unusedSimpArgs false
namespace Go.Sh
open Go.Proofs
/-! ### walk.Apart -/
def fewL (L : List (List Int)) : Prop := L.length ≤ 100 ∧ ∀ l ∈ L, l.length ≤ 5000
theorem srt_two {v : Int} : ∀ {l : List Int}, l.Pairwise (· ≤ ·) → v ∈ l → ((l[l.countP (· < v) + 1]? = some v) ↔ l.count v ≠ 1)
  | [], _, h => by simp at h
  | a :: r, hs, hm => by
    obtain ⟨h1, h2⟩ := List.pairwise_cons.1 hs
    rcases Int.lt_trichotomy a v with h | h | h
    · have hm' : v ∈ r := by rcases List.mem_cons.1 hm with e | e; (· omega); exact e
      have ih := srt_two h2 hm'
      rw [List.countP_cons_of_pos (by simpa using h), List.getElem?_cons_succ, ih, List.count_cons_of_ne (by omega)]
    · subst h
      have h0 : r.countP (· < a) = 0 := List.countP_eq_zero.2 fun x hx => by have := h1 x hx; simp; omega
      rw [List.countP_cons_of_neg (by simp), h0, List.count_cons_self]
      cases r with
      | nil => simp
      | cons b r =>
        obtain ⟨h3, h4⟩ := List.pairwise_cons.1 h2
        have hb := h1 b (by simp)
        simp only [Nat.zero_add, List.getElem?_cons_succ, List.getElem?_cons_zero, Option.some.injEq]
        by_cases e : b = a
        · subst e; simp
        · have : (b :: r).count a = 0 := List.count_eq_zero.2 fun hx => by
            rcases List.mem_cons.1 hx with e2 | e2
            · exact e e2.symm
            · have := h3 a e2; omega
          rw [this]; simp [e]
    · exfalso
      rcases List.mem_cons.1 hm with e | e
      · omega
      · have := h1 v e; omega
def fewA (L : List (List Int)) : Prop := L.length ≤ 1000 ∧ (∀ l ∈ L, l.length ≤ 5000) ∧ L.flatten.length ≤ 500000
theorem few_app {L : List (List Int)} (h : fewL L) : fewA L := by
  refine ⟨by have := h.1; omega, h.2, ?_⟩
  have h1 := flatten_len (S := L) (m := 5000) h.2
  have h2 := Nat.mul_le_mul_right 5000 h.1
  omega
theorem take_flat (L : List (List Int)) (i : Nat) : (L.take i).flatten.length ≤ L.flatten.length := by
  conv => rhs; rw [← List.take_append_drop i L, List.flatten_append, List.length_append]
  omega
noncomputable def ApartC : Con := conP 1 (fun L : List (List Int) => fewA L) (fun L => [.one (.nest false 1 (rowsI L))]) (fun L => .one (.s (.b (apartB L))))
theorem ApartC_at {L : List (List Int)} (h : fewA L) : ApartC.F [.one (.nest false 1 (rowsI L))] = some (.one (.s (.b (apartB L))), []) :=
  conP_at (a := L) (fun x y _ _ h => by simp at h; rw [rowsI_inj h]) h
theorem noA {L : List (List Int)} (h : ¬ ApartP L) : Sc.b false = Sc.b (apartB L) := by rw [apartB_no h]
set_option maxHeartbeats 1000000 in
theorem Apart_ok : SoundC Try.prog T 28 ApartC := by
  refine sound_con (X := { Γ := [(60, SearchC)], T := T, nt := 65, ext := [59] }) (rowIn_ok Sort_row) hmix hT (sound_cons Search_ok sound_nil) Try.func28 (by rfl) (by rfl) (by rfl) (by rfl) 1 ?_
  rintro L ⟨hL, hLr, hLf⟩
  refine ⟨⟨Nat.le_of_ble_eq_true rfl, Nat.le_of_ble_eq_true rfl⟩, ?_⟩
  refine LoopP.intro (α := Nat) (fun i => i ≤ L.length) (fun i => L.length - i) (fun i => [(0, .sl 0 none none), (3, .sl 1 none none), (12, .sl 0 none none), (13, .s (.i .i64 L.length)), (14, .s (.i .i64 i))])
    (fun i => [(0, some (.nest false 1 (rowsI L) [] [])), (1, some (.flat true 1 (ints (L.take i).flatten)))]) 2 0 (by omega) (by refine Weak.by [(0, some _), (1, none)] (by ((repeat' first | exact rfl | exact trivial | apply And.intro) <;> (repeat' first | exact rfl | exact trivial | apply And.intro)); all_goals (exact sc_eq (by rw [rowsI_length]))) (by ((repeat' first | exact rfl | exact trivial | apply And.intro) <;> (repeat' first | exact rfl | exact trivial | apply And.intro)); all_goals (exact sc_eq (by rw [rowsI_length]))) (by rfl)) ?_
  rintro i hi
  have hfl : (L.take i).flatten.length ≤ 500000 := Nat.le_trans (take_flat L i) hLf
  refine Pick.by (fun hc => ?_) (fun hc => ?_)
  · have hlt : i < L.length := by have := of_decide_eq_true hc; omega
    have hSi : L[i]? = some L[i] := List.getElem?_eq_getElem hlt
    have hsl := hLr _ (List.getElem_mem hlt)
    refine Idx.by i rfl (by rw [rowsI_length]; exact hlt) ?_
    refine Pick.T (by simpa [rowsI_length] using hlt) ?_
    refine Look.by _ (rowsI_get hSi) ?_
    refine Pick.T (by simp [cut, ints_length] at hfl ⊢; omega) ?_
    refine Pick.T (inI64_of (by omega) (by omega)) ?_
    refine Next.by (i + 1) (by omega) (by omega) (by refine Weak.by [(0, some _), (1, some _)] (by ((repeat' first | exact rfl | exact trivial | apply And.intro) <;> (repeat' first | exact rfl | exact trivial | apply And.intro)); all_goals ((rw [List.take_succ_eq_append_getElem hlt, flat_snoc, ints_append]; rfl))) (by ((repeat' first | exact rfl | exact trivial | apply And.intro) <;> (repeat' first | exact rfl | exact trivial | apply And.intro)); all_goals ((rw [List.take_succ_eq_append_getElem hlt, flat_snoc, ints_append]; rfl))) (by rfl))
  have hge : L.length ≤ i := by have := of_decide_eq_false hc; omega
  rw [List.take_of_length_le hge] at hfl ⊢
  refine ⟨rfl, _, rfl, by omega, ?_⟩
  have hss := sortI_sorted L.flatten
  have hsp : (sortI L.flatten).Perm L.flatten := List.mergeSort_perm _ _
  have hsl := sortI_length L.flatten
  obtain ⟨M, hM⟩ : ∃ M, sortI L.flatten = M := ⟨_, rfl⟩
  rw [hM] at hss hsp hsl ⊢
  refine LoopP.intro (α := Nat) (fun i => i ≤ L.length ∧ ∀ r ∈ L.take i, ∀ v ∈ innerL r, L.flatten.count v = 1) (fun i => L.length - i) (fun i => [(3, .sl 1 none none), (24, .sl 0 none none), (25, .s (.i .i64 L.length)), (26, .s (.i .i64 i))])
    (fun i => [(0, some (.nest false 1 (rowsI L) [] [])), (1, some (.flat true 1 (ints M)))]) 2 0 ⟨by omega, by simp⟩ (by refine Weak.by [(0, some _), (1, some _)] (by ((repeat' first | exact rfl | exact trivial | apply And.intro) <;> (repeat' first | exact rfl | exact trivial | apply And.intro)); all_goals (exact sc_eq (by rw [rowsI_length]))) (by ((repeat' first | exact rfl | exact trivial | apply And.intro) <;> (repeat' first | exact rfl | exact trivial | apply And.intro)); all_goals (exact sc_eq (by rw [rowsI_length]))) (by rfl)) ?_
  rintro i ⟨hi, hap⟩
  refine Pick.by (fun hc => ?_) (fun hc => ?_)
  · have hlt : i < L.length := by have := of_decide_eq_true hc; omega
    have hrl := hLr _ (List.getElem_mem hlt)
    have hLi : L[i]? = some L[i] := List.getElem?_eq_getElem hlt
    have hmem : L[i] ∈ L := List.getElem_mem hlt
    obtain ⟨p, hp⟩ : ∃ p, L[i] = p := ⟨_, rfl⟩
    rw [hp] at hrl hLi hmem
    have hnext : (∀ v ∈ innerL p, L.flatten.count v = 1) → ∀ r ∈ L.take (i + 1), ∀ v ∈ innerL r, L.flatten.count v = 1 := fun h => all_take hlt hap (by rw [hp]; exact h)
    refine Idx.by i rfl (by rw [rowsI_length]; exact hlt) ?_
    refine Pick.T (by simpa [rowsI_length] using hlt) ?_
    refine Look.by _ (rowsI_get hLi) ?_
    refine Pick.by (fun h3 => ?_) (fun h3 => ?_)
    · have h3 : p.length < 3 := by have := of_decide_eq_true h3; rw [ints_length] at this; omega
      refine Pick.T (inI64_of (by omega) (by omega)) ?_
      refine Next.by (i + 1) ⟨by omega, hnext fun v hv => ?_⟩ (by omega) (by refine Weak.by [(0, some _), (1, some _)] (by ((repeat' first | exact rfl | exact trivial | apply And.intro) <;> (repeat' first | exact rfl | exact trivial | apply And.intro))) (by ((repeat' first | exact rfl | exact trivial | apply And.intro) <;> (repeat' first | exact rfl | exact trivial | apply And.intro))) (by rfl))
      obtain ⟨j, hj, _⟩ := mem_inner.1 hv
      omega
    have h3 : 3 ≤ p.length := by have := of_decide_eq_false h3; rw [ints_length] at this; omega
    refine Look.by _ (rowsI_get hLi) ?_
    refine Pick.T (inI64_of (by rw [ints_length]; omega) (by rw [ints_length]; omega)) ?_
    refine Look.by _ (rowsI_get hLi) ?_
    refine Rng.by 1 (p.length - 1) rfl (by rw [ints_length]; omega) (by omega) (by rw [ints_length]; omega) ?_
    refine Look.by _ (rowsI_get hLi) ?_
    refine LoopP.intro (α := Nat) (fun j => j ≤ p.length - 1 - 1 ∧ ∀ v ∈ (innerL p).take j, L.flatten.count v = 1) (fun j => p.length - 1 - 1 - j) (fun j => [(3, .sl 1 none none), (24, .sl 0 none none), (25, .s (.i .i64 L.length)), (26, .s (.i .i64 i)), (37, .sl 0 (some (i, 0)) (some (1, p.length - 1 - 1))), (38, .s (.i .i64 (p.length - 1 - 1 : Nat))), (39, .s (.i .i64 j))])
      (fun j => [(0, some (.nest false 1 (rowsI L) [] [])), (1, some (.flat true 1 (ints M)))]) 2 0 ⟨by omega, by simp⟩ (by refine Weak.by [(0, some _), (1, some _)] (by ((repeat' first | exact rfl | exact trivial | apply And.intro) <;> (repeat' first | exact rfl | exact trivial | apply And.intro)); all_goals (simp)) (by ((repeat' first | exact rfl | exact trivial | apply And.intro) <;> (repeat' first | exact rfl | exact trivial | apply And.intro)); all_goals (simp)) (by rfl)) ?_
    rintro j ⟨hj, hjp⟩
    refine Pick.by (fun hc2 => ?_) (fun hc2 => ?_)
    · have hjl : j < p.length - 1 - 1 := by have := of_decide_eq_true hc2; omega
      have hj1 : 1 + j < p.length := by omega
      refine Look.by _ (rowsI_get hLi) ?_
      refine Idx.by j rfl hjl ?_
      refine Look.by _ (rowsI_get hLi) ?_
      refine Look.by _ (ints_get (List.getElem?_eq_getElem hj1)) ?_
      have hil : j < (innerL p).length := by rw [innerL_length]; omega
      have hve : (innerL p)[j] = p[1 + j] := by rw [innerL_get (by omega)]; congr 1; omega
      have hvi : p[1 + j] ∈ innerL p := by rw [← hve]; exact List.getElem_mem hil
      obtain ⟨v, hv⟩ : ∃ v, p[1 + j] = v := ⟨_, rfl⟩
      rw [hv] at hve hvi ⊢
      have hvp : v ∈ p := by rw [← hv]; exact List.getElem_mem _
      have hvM : v ∈ M := hsp.mem_iff.2 (List.mem_flatten.2 ⟨p, hmem, hvp⟩)
      have htw := srt_two hss hvM
      have hcn : M.count v = L.flatten.count v := hsp.count_eq v
      rw [hcn] at htw
      have hcl : M.countP (· < v) ≤ M.length := List.countP_le_length
      refine Call.by _ _ (SearchC_at (x := v) ⟨hss, by omega⟩) ?_
      refine Pick.T (inI64_of (by omega) (by omega)) ?_
      have hgo : ¬ M[M.countP (· < v) + 1]? = some v → ∀ u ∈ (innerL p).take (j + 1), L.flatten.count u = 1 := fun h => all_take hil hjp (by rw [hve]; exact Decidable.not_not.1 fun k => h (htw.2 k))
      refine Pick.by (fun h6 => ?_) (fun h6 => ?_)
      · have h6 : M.countP (· < v) + 1 < M.length := by have := of_decide_eq_true h6; rw [ints_length] at this; omega
        refine Pick.T (inI64_of (by omega) (by omega)) ?_
        refine Idx.by (M.countP (· < v) + 1) (by omega) (by rw [ints_length]; exact h6) ?_
        refine Look.by _ (ints_get (List.getElem?_eq_getElem h6)) ?_
        refine Pick.by (fun h7 => ?_) (fun h7 => ?_)
        · have h7 : M[M.countP (· < v) + 1] = v := by simpa using h7
          refine ⟨rfl, ?_⟩
          show Sc.b false = Sc.b (apartB L)
          exact noA fun h => htw.1 (by rw [List.getElem?_eq_getElem h6, h7]) (h p hmem v hvi)
        · have h7 : ¬ M[M.countP (· < v) + 1] = v := by simpa using h7
          refine Pick.T (inI64_of (by omega) (by omega)) ?_
          refine Next.by (j + 1) ⟨by omega, hgo (by rw [List.getElem?_eq_getElem h6]; simpa using h7)⟩ (by omega) (by refine Weak.by [(0, some _), (1, some _)] (by ((repeat' first | exact rfl | exact trivial | apply And.intro) <;> (repeat' first | exact rfl | exact trivial | apply And.intro)); all_goals (simp)) (by ((repeat' first | exact rfl | exact trivial | apply And.intro) <;> (repeat' first | exact rfl | exact trivial | apply And.intro)); all_goals (simp)) (by rfl))
      · have h6 : ¬ M.countP (· < v) + 1 < M.length := by have := of_decide_eq_false h6; rw [ints_length] at this; omega
        refine Pick.T (inI64_of (by omega) (by omega)) ?_
        refine Next.by (j + 1) ⟨by omega, hgo (by rw [List.getElem?_eq_none (by omega)]; simp)⟩ (by omega) (by refine Weak.by [(0, some _), (1, some _)] (by ((repeat' first | exact rfl | exact trivial | apply And.intro) <;> (repeat' first | exact rfl | exact trivial | apply And.intro)); all_goals (simp)) (by ((repeat' first | exact rfl | exact trivial | apply And.intro) <;> (repeat' first | exact rfl | exact trivial | apply And.intro)); all_goals (simp)) (by rfl))
    · have hjg : p.length - 1 - 1 ≤ j := by have := of_decide_eq_false hc2; omega
      refine Pick.T (inI64_of (by omega) (by omega)) ?_
      refine Next.by (i + 1) ⟨by omega, hnext ?_⟩ (by omega) (by refine Weak.by [(0, some _), (1, some _)] (by ((repeat' first | exact rfl | exact trivial | apply And.intro) <;> (repeat' first | exact rfl | exact trivial | apply And.intro))) (by ((repeat' first | exact rfl | exact trivial | apply And.intro) <;> (repeat' first | exact rfl | exact trivial | apply And.intro))) (by rfl))
      rw [List.take_of_length_le (by rw [innerL_length]; omega)] at hjp
      exact hjp
  · have hge : L.length ≤ i := by have := of_decide_eq_false hc; omega
    rw [List.take_of_length_le hge] at hap
    refine ⟨rfl, ?_⟩
    show Sc.b true = Sc.b (apartB L)
    rw [apartB_iff.2 hap]
end Go.Sh

set_option linter.unusedVariables false
set_option linter.unusedSimpArgs false
namespace Go.Sh
open Go.Proofs
/-! ### topo.Check -/
noncomputable def SubC : Con := conP 2 (fun a : (Int × List Ed) × (Int × List Int × List (List Int)) => fewL a.2.2.2) (fun a => [grV a.1.1 a.1.2, sbV false a.2.1 a.2.2.1 a.2.2.2]) (fun a => .one (.s (.b (subB a.1.1 a.1.2 a.2.1 a.2.2.1 a.2.2.2))))
theorem SubC_at {n : Int} {E : List Ed} {k : Int} {Ts : List Int} {L : List (List Int)} (h : fewL L) : SubC.F [grV n E, sbV false k Ts L] = some (.one (.s (.b (subB n E k Ts L))), []) :=
  conP_at (a := ((n, E), (k, Ts, L))) (fun a b _ _ h => by
    obtain ⟨⟨n, E⟩, k, Ts, L⟩ := a
    obtain ⟨⟨n', E'⟩, k', Ts', L'⟩ := b
    simp at h
    obtain ⟨h1, h2⟩ := h
    obtain ⟨rfl, rfl⟩ := grV_inj h1
    obtain ⟨rfl, rfl, rfl⟩ := sbV_inj h2
    rfl) h
theorem noS {n : Int} {E : List Ed} {k : Int} {Ts : List Int} {L : List (List Int)} (h : ¬ SubP n E k Ts L) : Sc.b false = Sc.b (subB n E k Ts L) := by rw [subB_no h]
theorem prsT_len {k : Int} (h : k = 1 ∨ k = 2) : (prsT k).length = (if k = 1 then 6 else 3) := by rcases h with rfl | rfl <;> rfl
theorem prsT_in {k : Int} (h : k = 1 ∨ k = 2) {p : Ed} (hp : p ∈ prsT k) : (0 ≤ p.1 ∧ p.1 < (if k = 1 then 4 else 2)) ∧ 0 ≤ p.2 ∧ p.2 < (if k = 1 then 4 else 2) := by
  rcases h with rfl | rfl
  · revert p; decide
  · revert p; decide
def IsT (k : Int) (Ts : List Int) (L : List (List Int)) : Prop := (Ts.length : Int) = (if k = 1 then 4 else 2) ∧ L.length = (prsT k).length
theorem shape_iff {k : Int} {Ts : List Int} {L : List (List Int)} (h : k = 1 ∨ k = 2) : shapeP k Ts L ↔ IsT k Ts L := by
  unfold shapeP IsT
  rw [prsT_len h]
  rcases h with rfl | rfl <;> simp <;> omega
set_option maxHeartbeats 4000000 in
theorem Sub_ok : SoundC Try.prog T 31 SubC := by
  refine sound_con (X := { Γ := [(63, TopsC), (29, PathC), (28, ApartC)], T := T, nt := 98, ext := [62] }) (new_ok Try.pairs_call) hmix hT (sound_cons Tops_ok (sound_cons Path_ok (sound_cons Apart_ok sound_nil))) Try.func31 (by rfl) (by rfl) (by rfl) (by rfl) 5 ?_
  rintro ⟨⟨n, E⟩, k, Ts, L⟩ ⟨hL, hLr⟩
  dsimp only at hL hLr ⊢
  refine ⟨⟨Nat.le_of_ble_eq_true rfl, Nat.le_of_ble_eq_true rfl⟩, ?_⟩
  by_cases hk : k = 1 ∨ k = 2
  · have hpr : Try.prsR k = some (2, edges (prsT k)) := if_pos hk
    refine ⟨rfl, _, some (2, edges (prsT k)), rfl, congrArg some hpr, ?_⟩
    have hpl := prsT_len hk
    have hp6 : 0 < (prsT k).length ∧ (prsT k).length ≤ 6 := by rw [hpl]; split <;> omega
    refine Pick.T (by rw [edges_length]; simpa using hp6.1) ?_
    refine Call.by _ _ (TopsC_at k) ?_
    refine Pick.by (fun h1 => ?_) (fun h1 => ?_)
    · have h1 : ¬ (Ts.length : Int) = (if k = 1 then 4 else 2) := by simpa [ints_length] using h1
      refine Seg.by (by kernel_rfl) ?_
      refine ⟨rfl, ?_⟩
      show Sc.b false = Sc.b (subB n E k Ts L)
      exact noS fun h => h1 ((shape_iff hk).1 h.1).1
    have h1 : (Ts.length : Int) = (if k = 1 then 4 else 2) := by simpa [ints_length] using h1
    refine Seg.by (by kernel_rfl) ?_
    refine Pick.by (fun h2 => ?_) (fun h2 => ?_)
    · have h2 : ¬ L.length = (prsT k).length := by intro e; rw [rowsI_length, edges_length, e] at h2; simp at h2
      refine ⟨rfl, ?_⟩
      show Sc.b false = Sc.b (subB n E k Ts L)
      exact noS fun h => h2 ((shape_iff hk).1 h.1).2
    have h2 : L.length = (prsT k).length := by
      have h2 : ((L.length : Nat) : Int) = ((prsT k).length : Nat) := by simpa [rowsI_length, edges_length] using h2
      omega
    have hsh : shapeP k Ts L := (shape_iff hk).2 ⟨h1, h2⟩
    refine LoopP.intro (α := Nat) (fun i => i ≤ L.length ∧ ∀ j p, j < i → L[j]? = some p → fitP n E k Ts j p) (fun i => L.length - i) (fun i => [(2, .ptr 0 0), (3, .ptr 2 0), (5, .sl 5 none none), (33, .sl 4 none none), (34, .s (.i .i64 L.length)), (35, .s (.i .i64 i))])
      (fun i => [(0, some (.blk [.s (.i .i64 n), .sl 1 none none])), (1, some (.flat false 2 (edges E))), (2, some (.blk [.s (.i .i64 k), .sl 3 none none, .sl 4 none none])), (3, some (.flat false 1 (ints Ts))), (4, some (.nest false 1 (rowsI L) [] [])), (5, some (.flat true 2 (edges (prsT k))))]) 6 0 ⟨by omega, fun j p h => by omega⟩ (by refine Weak.by [(0, some _), (1, some _), (2, some _), (3, some _), (4, some _), (5, some _)] (by ((repeat' first | exact rfl | exact trivial | apply And.intro) <;> (repeat' first | exact rfl | exact trivial | apply And.intro)); all_goals (exact sc_eq (by rw [rowsI_length]))) (by ((repeat' first | exact rfl | exact trivial | apply And.intro) <;> (repeat' first | exact rfl | exact trivial | apply And.intro)); all_goals (exact sc_eq (by rw [rowsI_length]))) (by rfl)) ?_
    rintro i ⟨hi, hft⟩
    refine Pick.by (fun hc => ?_) (fun hc => ?_)
    · have hlt : i < L.length := by have := of_decide_eq_true hc; omega
      have hro : (rowsI L)[i]? = some (ints L[i]) := rowsI_get (List.getElem?_eq_getElem hlt)
      have hrl := hLr _ (List.getElem_mem hlt)
      obtain ⟨p, hp⟩ : ∃ p, L[i] = p := ⟨_, rfl⟩
      have hLi : L[i]? = some p := by rw [List.getElem?_eq_getElem hlt, hp]
      rw [hp] at hro hrl
      have hil : i < (prsT k).length := by omega
      obtain ⟨⟨qa, qb⟩, hq⟩ : ∃ q, (prsT k)[i] = q := ⟨_, rfl⟩
      have hqi := prsT_in hk (List.getElem_mem hil)
      rw [hq] at hqi
      dsimp only at hqi
      rw [← h1] at hqi
      have hqg : (prsT k).getD i (0, 0) = (qa, qb) := by rw [List.getD_eq_getElem?_getD, List.getElem?_eq_getElem hil, hq]; rfl
      have hqe : (edges (prsT k))[i]? = some [.i .i64 qa, .i .i64 qb] := edges_get (by rw [List.getElem?_eq_getElem hil, hq])
      have hta : Ts[qa.toNat]? = some (Ts.getD qa.toNat 0) := by rw [List.getD_eq_getElem?_getD, List.getElem?_eq_getElem (by omega)]; rfl
      have htb : Ts[qb.toNat]? = some (Ts.getD qb.toNat 0) := by rw [List.getD_eq_getElem?_getD, List.getElem?_eq_getElem (by omega)]; rfl
      refine Idx.by i rfl (by rw [rowsI_length]; exact hlt) ?_
      refine Pick.T (by simpa [rowsI_length] using hlt) ?_
      refine Idx.by i rfl (by rw [edges_length]; exact hil) ?_
      refine Idx.by 0 rfl (by decide) ?_
      refine Look.by _ hqe ?_
      refine Idx.by qa.toNat (by show qa = _; omega) (by rw [ints_length]; omega) ?_
      refine Look.by _ (ints_get hta) ?_
      refine Idx.by i rfl (by rw [edges_length]; exact hil) ?_
      refine Idx.by 1 rfl (by decide) ?_
      refine Look.by _ hqe ?_
      refine Idx.by qb.toNat (by show qb = _; omega) (by rw [ints_length]; omega) ?_
      refine Look.by _ (ints_get htb) ?_
      refine Seg.by (by kernel_rfl) ?_
      refine Look.by _ hro ?_
      refine Call.by _ _ (PathC_at (n := n) (E := E) (l := p) (by omega)) ?_
      refine Pick.by (fun h3 => ?_) (fun h3 => ?_)
      · have h3 : ¬ PathP n E p := by have h3 : (!pathB n E p) = true := h3; intro h; rw [pathB_iff.2 h] at h3; cases h3
        refine ⟨rfl, ?_⟩
        show Sc.b false = Sc.b (subB n E k Ts L)
        exact noS fun h => h3 (h.2.1 _ _ hLi).1
      have h3 : PathP n E p := by have h3 : (!pathB n E p) = false := h3; exact pathB_iff.1 (by simpa using h3)
      have hpl : 0 < p.length := List.length_pos_iff.2 h3.2.1
      have hp0 : p[0]? = some (p.headD 0) := by cases p with | nil => simp at hpl | cons a l => rfl
      have hpe : p[p.length - 1]? = some (p.getLastD 0) := by rw [List.getLastD_eq_getLast?, List.getLast?_eq_getElem?, List.getElem?_eq_getElem (by omega)]; rfl
      refine Look.by _ hro ?_
      refine Idx.by 0 rfl (by rw [ints_length]; exact hpl) ?_
      refine Look.by _ hro ?_
      refine Look.by _ (ints_get hp0) ?_
      refine Pick.by (fun h4 => ?_) (fun h4 => ?_)
      · have h4 : p.headD 0 ≠ Ts.getD qa.toNat 0 := by intro e; rw [e] at h4; simp at h4
        refine ⟨rfl, ?_⟩
        show Sc.b false = Sc.b (subB n E k Ts L)
        exact noS fun h => h4 (by have := (h.2.1 _ _ hLi).2.1; rw [hqg] at this; exact this)
      have h4 : p.headD 0 = Ts.getD qa.toNat 0 := by
        have h4 : (!(p.headD 0 == Ts.getD qa.toNat 0)) = false := h4
        simpa only [Bool.not_eq_false', beq_iff_eq] using h4
      refine Look.by _ hro ?_
      refine Pick.T (inI64_of (by rw [ints_length]; omega) (by rw [ints_length]; omega)) ?_
      refine Look.by _ hro ?_
      refine Idx.by (p.length - 1) (by rw [ints_length]; omega) (by rw [ints_length]; omega) ?_
      refine Look.by _ hro ?_
      refine Look.by _ (ints_get hpe) ?_
      refine Pick.by (fun h5 => ?_) (fun h5 => ?_)
      · have h5 : p.getLastD 0 ≠ Ts.getD qb.toNat 0 := by intro e; rw [e] at h5; simp at h5
        refine ⟨rfl, ?_⟩
        show Sc.b false = Sc.b (subB n E k Ts L)
        exact noS fun h => h5 (by have := (h.2.1 _ _ hLi).2.2.1; rw [hqg] at this; exact this)
      have h5 : p.getLastD 0 = Ts.getD qb.toNat 0 := by
        have h5 : (!(p.getLastD 0 == Ts.getD qb.toNat 0)) = false := h5
        simpa only [Bool.not_eq_false', beq_iff_eq] using h5
      refine Look.by _ hro ?_
      refine Pick.by (fun h6 => ?_) (fun h6 => ?_)
      · have h6 : p.length < 2 := by have := of_decide_eq_true h6; rw [ints_length] at this; omega
        refine ⟨rfl, ?_⟩
        show Sc.b false = Sc.b (subB n E k Ts L)
        exact noS fun h => (by have := (h.2.1 _ _ hLi).2.2.2; omega)
      have h6 : 2 ≤ p.length := by have := of_decide_eq_false h6; rw [ints_length] at this; omega
      have hfit : (k = 2 → 3 ≤ p.length) → ∀ j p, j < i + 1 → L[j]? = some p → fitP n E k Ts j p := fun h j p' hj hp' => by
        rcases Nat.lt_or_ge j i with hji | hji
        · exact hft j p' hji hp'
        · obtain rfl : j = i := by omega
          rw [hLi] at hp'; injection hp' with hp'; subst hp'
          refine ⟨h3, ?_, ?_, ?_⟩
          · rw [hqg]; exact h4
          · rw [hqg]; exact h5
          · rcases hk with rfl | rfl
            · omega
            · have := h rfl; omega
      refine Pick.by (fun h7 => ?_) (fun h7 => ?_)
      · have h7 : k = 2 := by simpa using h7
        refine Look.by _ hro ?_
        refine Pick.by (fun h8 => ?_) (fun h8 => ?_)
        · have h8 : p.length < 3 := by have := of_decide_eq_true h8; rw [ints_length] at this; omega
          refine ⟨rfl, ?_⟩
          show Sc.b false = Sc.b (subB n E k Ts L)
          exact noS fun h => (by have := (h.2.1 _ _ hLi).2.2.2; omega)
        have h8 : 3 ≤ p.length := by have := of_decide_eq_false h8; rw [ints_length] at this; omega
        refine Pick.T (inI64_of (by omega) (by omega)) ?_
        refine Next.by (i + 1) ⟨by omega, hfit fun _ => h8⟩ (by omega) (by refine Weak.by [(0, some _), (1, some _), (2, some _), (3, some _), (4, some _), (5, some _)] (by ((repeat' first | exact rfl | exact trivial | apply And.intro) <;> (repeat' first | exact rfl | exact trivial | apply And.intro))) (by ((repeat' first | exact rfl | exact trivial | apply And.intro) <;> (repeat' first | exact rfl | exact trivial | apply And.intro))) (by rfl))
      · have h7 : k ≠ 2 := by intro e; rw [e] at h7; simp at h7
        refine Pick.T (inI64_of (by omega) (by omega)) ?_
        refine Next.by (i + 1) ⟨by omega, hfit fun e => absurd e h7⟩ (by omega) (by refine Weak.by [(0, some _), (1, some _), (2, some _), (3, some _), (4, some _), (5, some _)] (by ((repeat' first | exact rfl | exact trivial | apply And.intro) <;> (repeat' first | exact rfl | exact trivial | apply And.intro))) (by ((repeat' first | exact rfl | exact trivial | apply And.intro) <;> (repeat' first | exact rfl | exact trivial | apply And.intro))) (by rfl))
    · have hge : L.length ≤ i := by have := of_decide_eq_false hc; omega
      refine Call.by _ _ (ApartC_at (few_app ⟨hL, hLr⟩)) ?_
      refine ⟨rfl, ?_⟩
      show Sc.b (apartB L) = Sc.b (subB n E k Ts L)
      have hfa : ∀ j p, L[j]? = some p → fitP n E k Ts j p := fun j p hj => hft j p (by have := (List.getElem?_eq_some_iff.1 hj).1; omega) hj
      congr 1
      rw [Bool.eq_iff_iff, apartB_iff, subB_iff]
      exact ⟨fun h => ⟨hsh, hfa, h⟩, fun h => h.2.2⟩
  · have hpr : Try.prsR k = none := if_neg hk
    refine ⟨rfl, _, none, rfl, congrArg some hpr, ?_⟩
    refine Seg.by (by kernel_rfl) ?_
    refine ⟨rfl, ?_⟩
    show Sc.b false = Sc.b (subB n E k Ts L)
    exact noS fun h => hk (by rcases h.1 with h | h; exact .inl h.1; exact .inr h.1)
end Go.Sh

set_option linter.unusedVariables false
set_option linter.unusedSimpArgs false
namespace Go.Sh
open Go.Proofs
/-! ### topo.Read -/
noncomputable def ReadC : Con := conP 1 (fun a : Int × List Ed => a.2.length ≤ 1000000) (fun a => [grV a.1 a.2]) (fun a => .tup [sbV true (readF a.1 a.2).1.1 (readF a.1 a.2).1.2.1 (readF a.1 a.2).1.2.2, .one (.s (.b (readF a.1 a.2).2))])
theorem ReadC_at {n : Int} {E : List Ed} (h : E.length ≤ 1000000) : ReadC.F [grV n E] = some (.tup [sbV true (readF n E).1.1 (readF n E).1.2.1 (readF n E).1.2.2, .one (.s (.b (readF n E).2))], []) :=
  conP_at (a := (n, E)) (fun x y _ _ h => by
    obtain ⟨n, E⟩ := x
    obtain ⟨n', E'⟩ := y
    simp at h
    obtain ⟨rfl, rfl⟩ := grV_inj h
    rfl) h
def nbK (n : Nat) (E : List Ed) (k : Nat) : List (List Int) := ((List.range k).map fun (v : Nat) => nearL E (v : Int)) ++ List.replicate (n - k) []
theorem nbK_len {n : Nat} {E : List Ed} {k : Nat} (h : k ≤ n) : (nbK n E k).length = n := by simp [nbK]; omega
theorem nbK_end (n : Nat) (E : List Ed) : nbK n E n = nbrs n E := by simp [nbK, nbrs]
theorem nbK_zero (n : Nat) (E : List Ed) : nbK n E 0 = List.replicate n [] := by simp [nbK]
theorem nbK_set {n : Nat} {E : List Ed} {k : Nat} (h : k < n) : (nbK n E k).set k (nearL E (k : Int)) = nbK n E (k + 1) := by
  apply List.ext_getElem?
  intro i
  unfold nbK
  rw [List.getElem?_set]
  have hl : (((List.range k).map fun (v : Nat) => nearL E (v : Int)) ++ List.replicate (n - k) []).length = n := by simp; omega
  by_cases h1 : k = i
  · subst h1
    rw [if_pos rfl, if_pos (by rw [hl]; exact h), List.getElem?_append_left (by simp), List.getElem?_map, List.getElem?_range (by omega)]; rfl
  · rw [if_neg h1]
    by_cases h2 : i < k
    · rw [List.getElem?_append_left (by simpa using h2), List.getElem?_append_left (by simp; omega), List.getElem?_map, List.getElem?_map, List.getElem?_range h2, List.getElem?_range (by omega)]
    · rw [List.getElem?_append_right (by simp; omega), List.getElem?_append_right (by simp; omega), List.getElem?_replicate, List.getElem?_replicate]
      simp
      by_cases h3 : i < n
      · rw [if_pos (by omega), if_pos (by omega)]
      · rw [if_neg (by omega), if_neg (by omega)]
theorem nb_get {n : Nat} {E : List Ed} {v : Nat} (h : v < n) : (rowsI (nbrs n E))[v]? = some (ints (nearL E (v : Int))) := by
  refine rowsI_get ?_
  unfold nbrs
  rw [List.getElem?_map, List.getElem?_range h]; rfl
theorem keepT_len (n : Int) (E : List Ed) (t : Int) (l : List Int) : (keepT n E t l).length ≤ l.length := by
  unfold keepT
  exact Nat.le_trans (List.length_filter_le _ _) (by simp)
theorem pathsT_snoc (n : Int) (E : List Ed) (T : List Int) (t : Int) : pathsT n E (T ++ [t]) = pathsT n E T ++ keepT n E t (nearL E t) := by simp [pathsT]
theorem pathsT_len {n : Int} {E : List Ed} : ∀ {T : List Int}, (∀ t ∈ T, (nearL E t).length = 3) → (pathsT n E T).length ≤ 3 * T.length
  | [], _ => by simp [pathsT]
  | t :: T, h => by
    have ih := pathsT_len (n := n) (T := T) fun x hx => h x (List.mem_cons_of_mem _ hx)
    have h1 := keepT_len n E t (nearL E t)
    have h2 := h t (by simp)
    unfold pathsT at ih ⊢
    rw [List.flatMap_cons, List.length_append, List.length_cons]
    omega
theorem keepT_row {n : Int} {E : List Ed} (hR : RightP n E) {t : Int} (ht : (nearL E t).length = 3) {l : List Int} (hl : ∀ x ∈ l, x ∈ nearL E t) {p : List Int} (hp : p ∈ keepT n E t l) : 2 ≤ p.length ∧ p.length ≤ n.toNat + 1 := by
  obtain ⟨⟨x, hx, rfl⟩, _⟩ := mem_keepT.1 hp
  obtain ⟨h1, _, _⟩ := pathT_is hR ht (hl x hx)
  exact ⟨h1.two, h1.len hR⟩
theorem pathsT_row {n : Int} {E : List Ed} (hR : RightP n E) {T : List Int} (hT : ∀ t ∈ T, (nearL E t).length = 3) {p : List Int} (hp : p ∈ pathsT n E T) : 2 ≤ p.length ∧ p.length ≤ n.toNat + 1 := by
  obtain ⟨t, ht, hp⟩ := List.mem_flatMap.1 hp
  exact keepT_row hR (hT t ht) (fun x hx => hx) hp
theorem usedT_le {m : Nat} : ∀ {L : List (List Int)}, (∀ p ∈ L, p.length ≤ m + 1) → usedT L ≤ L.length * m
  | [], _ => by simp [usedT]
  | p :: L, h => by
    have ih := usedT_le (m := m) (L := L) fun x hx => h x (List.mem_cons_of_mem _ hx)
    have h1 := h p (by simp)
    simp only [usedT, List.map_cons, List.sum_cons, List.length_cons] at ih ⊢
    rw [Nat.succ_mul]
    omega
theorem usedT_snoc (L : List (List Int)) (p : List Int) : usedT (L ++ [p]) = usedT L + (p.length - 1) := by simp [usedT]
set_option maxHeartbeats 4000000 in
theorem Read_ok : SoundC Try.prog T 35 ReadC := by
  refine sound_con (X := { Γ := [(42, RightC), (68, NearGC), (31, SubC)], T := T, nt := 149, ext := [69] }) (nestFn_ok SortT_row) hmix hT (sound_cons RightG_ok (sound_cons Near_ok (sound_cons Sub_ok sound_nil))) Try.func35 (by rfl) (by rfl) (by rfl) (by rfl) 2 ?_
  rintro ⟨n, E⟩ hl
  dsimp only at hl ⊢
  refine ⟨⟨Nat.le_of_ble_eq_true rfl, Nat.le_of_ble_eq_true rfl⟩, ?_⟩
  refine Call.by _ _ (RightC_at n E) ?_
  refine Pick.by (fun h1 => ?_) (fun h1 => ?_)
  · have h1 : ¬ RightP n E := by simpa using h1
    have hv := readF_no (n := n) (E := E) (fun h => h1 h.1)
    dsimp only
    rw [hv]
    exact ⟨rfl, rfl, ⟨rfl, ⟨rfl, rfl⟩, ⟨rfl, rfl⟩, trivial⟩, rfl, trivial⟩
  have h1 : RightP n E := by simpa using h1
  obtain ⟨hn0, hn1, hE4, hokE, hsrt⟩ := id h1
  refine Pick.T (by simp) ?_
  refine Idx.by n.toNat (by omega) (by omega) ?_
  refine LoopP.intro (α := Nat) (fun k => k ≤ n.toNat) (fun k => n.toNat - k) (fun k => [(1, .ptr 0 0), (2, .ptr 2 0), (4, .ptr 3 0), (5, .sl 4 none none), (24, .s (.i .i64 n.toNat)), (25, .s (.i .i64 k))])
    (fun k => [(0, some (.blk [.s (.i .i64 n), .sl 1 none none])), (1, some (.flat false 2 (edges E))), (2, some (.blk [.s (.i .i64 0), .nils, .nils])), (3, some (.blk [.s (.i .i64 0), .nils, .nils])), (4, some (.nest true 1 (rowsI (nbK n.toNat E k)) [] []))]) 5 0 (by omega) (by refine Weak.by [(0, some _), (1, some _), (2, some _), (3, some _), (4, some _)] (by ((repeat' first | exact rfl | exact trivial | apply And.intro) <;> (repeat' first | exact rfl | exact trivial | apply And.intro)); all_goals ((first | exact sc_eq (by rw [List.length_replicate]) | (rw [nbK_zero]; simp [rowsI, ints]; done)))) (by ((repeat' first | exact rfl | exact trivial | apply And.intro) <;> (repeat' first | exact rfl | exact trivial | apply And.intro)); all_goals ((first | exact sc_eq (by rw [List.length_replicate]) | (rw [nbK_zero]; simp [rowsI, ints]; done)))) (by rfl)) ?_
  rintro k hk
  have hkl : (rowsI (nbK n.toNat E k)).length = n.toNat := by rw [rowsI_length, nbK_len hk]
  refine Pick.by (fun hc => ?_) (fun hc => ?_)
  · have hlt : k < n.toNat := by have := of_decide_eq_true hc; omega
    refine Call.by _ _ (NearGC_at (n := n) (E := E) (k : Int) hl) ?_
    refine Idx.by k rfl (by rw [hkl]; exact hlt) ?_
    refine Pick.T (by rw [hkl]; simpa using hlt) ?_
    refine Pick.T (inI64_of (by omega) (by omega)) ?_
    have hng : nearG n E (k : Int) = nearL E k := if_pos h1
    refine Next.by (k + 1) (by omega) (by omega) (by refine Weak.by [(0, some _), (1, some _), (2, some _), (3, some _), (4, some _)] (by ((repeat' first | exact rfl | exact trivial | apply And.intro) <;> (repeat' first | exact rfl | exact trivial | apply And.intro)); all_goals ((rw [← nbK_set hlt, rowsI_set, hng]))) (by ((repeat' first | exact rfl | exact trivial | apply And.intro) <;> (repeat' first | exact rfl | exact trivial | apply And.intro)); all_goals ((rw [← nbK_set hlt, rowsI_set, hng]))) (by rfl))
  have hge : k = n.toNat := by have := of_decide_eq_false hc; omega
  subst hge
  rw [nbK_end] at hkl ⊢
  refine LoopP.intro (α := Nat) (fun k => k ≤ n.toNat ∧ ∀ v : Nat, v < k → degOk E v) (fun k => n.toNat - k) (fun k => [(1, .ptr 0 0), (2, .ptr 2 0), (4, .ptr 3 0), (5, .sl 4 none none), (35, .sl 4 none none), (36, .s (.i .i64 n.toNat)), (37, .s (.i .i64 k))])
    (fun k => [(0, some (.blk [.s (.i .i64 n), .sl 1 none none])), (1, some (.flat false 2 (edges E))), (2, some (.blk [.s (.i .i64 0), .nils, .nils])), (3, some (.blk [.s (.i .i64 0), .sl 5 none none, .nils])), (4, some (.nest true 1 (rowsI (nbrs n.toNat E)) [] [])), (5, some (.flat true 1 (ints (topsK E k))))]) 6 0 ⟨by omega, fun v h => by omega⟩ (by refine Weak.by [(0, some _), (1, some _), (2, some _), (3, some _), (4, some _), (5, none)] (by ((repeat' first | exact rfl | exact trivial | apply And.intro) <;> (repeat' first | exact rfl | exact trivial | apply And.intro)); all_goals ((first | exact sc_eq (by rw [hkl]) | done))) (by ((repeat' first | exact rfl | exact trivial | apply And.intro) <;> (repeat' first | exact rfl | exact trivial | apply And.intro)); all_goals ((first | exact sc_eq (by rw [hkl]) | done))) (by rfl)) ?_
  rintro k ⟨hk, hdg⟩
  have htl : (topsK E k).length ≤ k := by unfold topsK; rw [List.length_map]; exact Nat.le_trans (List.length_filter_le _ _) (by simp)
  refine Pick.by (fun hc => ?_) (fun hc => ?_)
  · have hlt : k < n.toNat := by have := of_decide_eq_true hc; omega
    have hro := nb_get (E := E) hlt
    have hnl := nearL_length E k
    have hnx : degOk E k → ∀ v : Nat, v < k + 1 → degOk E v := fun h v hv => by
      rcases Nat.lt_or_ge v k with h2 | h2
      · exact hdg v h2
      · obtain rfl : v = k := by omega
        exact h
    have hst := topsK_succ E k
    refine Idx.by k rfl (by rw [hkl]; exact hlt) ?_
    refine Pick.T (by rw [hkl]; simpa using hlt) ?_
    refine Look.by _ hro ?_
    refine Pick.by (fun h3 => ?_) (fun h3 => ?_)
    · have h3 : (nearL E (k : Int)).length = 0 := by rw [ints_length] at h3; have := beq_iff_eq.1 h3; omega
      rw [if_neg (by omega), List.append_nil] at hst
      refine Pick.T (inI64_of (by omega) (by omega)) ?_
      refine Next.by (k + 1) ⟨by omega, hnx (.inl h3)⟩ (by omega) (by refine Weak.by [(0, some _), (1, some _), (2, some _), (3, some _), (4, some _), (5, some _)] (by ((repeat' first | exact rfl | exact trivial | apply And.intro) <;> (repeat' first | exact rfl | exact trivial | apply And.intro)); all_goals ((rw [hst]))) (by ((repeat' first | exact rfl | exact trivial | apply And.intro) <;> (repeat' first | exact rfl | exact trivial | apply And.intro)); all_goals ((rw [hst]))) (by rfl))
    refine Pick.by (fun h4 => ?_) (fun h4 => ?_)
    · have h4 : (nearL E (k : Int)).length = 2 := by rw [ints_length] at h4; have := beq_iff_eq.1 h4; omega
      rw [if_neg (by omega), List.append_nil] at hst
      refine Pick.T (inI64_of (by omega) (by omega)) ?_
      refine Next.by (k + 1) ⟨by omega, hnx (.inr (.inl h4))⟩ (by omega) (by refine Weak.by [(0, some _), (1, some _), (2, some _), (3, some _), (4, some _), (5, some _)] (by ((repeat' first | exact rfl | exact trivial | apply And.intro) <;> (repeat' first | exact rfl | exact trivial | apply And.intro)); all_goals ((rw [hst]))) (by ((repeat' first | exact rfl | exact trivial | apply And.intro) <;> (repeat' first | exact rfl | exact trivial | apply And.intro)); all_goals ((rw [hst]))) (by rfl))
    refine Pick.by (fun h5 => ?_) (fun h5 => ?_)
    · have h5 : (nearL E (k : Int)).length = 3 := by rw [ints_length] at h5; have := beq_iff_eq.1 h5; omega
      rw [if_pos h5] at hst
      refine Pick.T (by simp [cut, ints_length] at htl ⊢; omega) ?_
      refine Pick.T (inI64_of (by omega) (by omega)) ?_
      refine Next.by (k + 1) ⟨by omega, hnx (.inr (.inr h5))⟩ (by omega) (by refine Weak.by [(0, some _), (1, some _), (2, some _), (3, some _), (4, some _), (5, some _)] (by ((repeat' first | exact rfl | exact trivial | apply And.intro) <;> (repeat' first | exact rfl | exact trivial | apply And.intro)); all_goals ((rw [hst, ints_snoc]; rfl))) (by ((repeat' first | exact rfl | exact trivial | apply And.intro) <;> (repeat' first | exact rfl | exact trivial | apply And.intro)); all_goals ((rw [hst, ints_snoc]; rfl))) (by rfl))
    · have hno : ¬ degOk E k := by
        rw [ints_length] at h3 h4 h5
        have h3 := beq_eq_false_iff_ne.1 h3
        have h4 := beq_eq_false_iff_ne.1 h4
        have h5 := beq_eq_false_iff_ne.1 h5
        unfold degOk
        omega
      have hv := readF_no (n := n) (E := E) (fun h => hno (h.2.1 k (by omega)))
      dsimp only
      rw [hv]
      exact ⟨rfl, rfl, ⟨rfl, ⟨rfl, rfl⟩, ⟨rfl, rfl⟩, trivial⟩, rfl, trivial⟩
  have hge : k = n.toNat := by have := of_decide_eq_false hc; omega
  subst hge
  have hdegs : degsOk n E := fun v hv => hdg v (by omega)
  have hTs3 : ∀ t ∈ topsK E n.toNat, 0 ≤ t ∧ t < n ∧ (nearL E t).length = 3 := fun t ht => by
    have := mem_topsK.1 ht
    exact ⟨this.1, by omega, this.2.2⟩
  have hTsn : (topsK E n.toNat).Nodup := (topsK_sorted E n.toNat).imp fun h => by omega
  obtain ⟨Ts, hTs⟩ : ∃ Ts, topsK E n.toNat = Ts := ⟨_, rfl⟩
  rw [hTs] at hTs3 hTsn htl ⊢
  have hTd : ∀ t ∈ Ts, (nearL E t).length = 3 := fun t ht => (hTs3 t ht).2.2
  refine Pick.by (fun h4 => ?_) (fun h4 => ?_)
  · have h4 : Ts.length = 4 := by rw [ints_length] at h4; have := beq_iff_eq.1 h4; omega
    have hkd : kindT Ts = 1 := if_pos h4
    refine LoopP.intro (α := Nat) (fun i => i ≤ Ts.length) (fun i => Ts.length - i) (fun i => [(1, .ptr 0 0), (2, .ptr 2 0), (4, .ptr 3 0), (5, .sl 4 none none), (9, .s (.i .i64 (usedT (pathsT n E (Ts.take i)) : Nat))), (68, .sl 5 none none), (69, .s (.i .i64 Ts.length)), (70, .s (.i .i64 i))])
      (fun i => [(0, some (.blk [.s (.i .i64 n), .sl 1 none none])), (1, some (.flat false 2 (edges E))), (2, some (.blk [.s (.i .i64 0), .nils, .nils])), (3, some (.blk [.s (.i .i64 1), .sl 5 none none, .sl 6 none none])), (4, some (.nest true 1 (rowsI (nbrs n.toNat E)) [] [])), (5, some (.flat true 1 (ints Ts))), (6, some (.nest true 1 (rowsI (pathsT n E (Ts.take i))) [] []))]) 7 0 (by omega) (by refine Weak.by [(0, some _), (1, some _), (2, some _), (3, some _), (4, some _), (5, some _), (6, none)] (by ((repeat' first | exact rfl | exact trivial | apply And.intro) <;> (repeat' first | exact rfl | exact trivial | apply And.intro)); all_goals ((first | exact sc_eq (by rw [ints_length]) | done))) (by ((repeat' first | exact rfl | exact trivial | apply And.intro) <;> (repeat' first | exact rfl | exact trivial | apply And.intro)); all_goals ((first | exact sc_eq (by rw [ints_length]) | done))) (by rfl)) ?_
    rintro i hi
    refine Pick.by (fun hc => ?_) (fun hc => ?_)
    · have hlt : i < Ts.length := by have := of_decide_eq_true hc; omega
      obtain ⟨t, ht⟩ : ∃ t, Ts[i] = t := ⟨_, rfl⟩
      have htm : t ∈ Ts := by rw [← ht]; exact List.getElem_mem hlt
      have hti : Ts[i]? = some t := by rw [List.getElem?_eq_getElem hlt, ht]
      obtain ⟨t0, t1, t2⟩ := hTs3 t htm
      have htn := nb_get (n := n.toNat) (E := E) (v := t.toNat) (by omega)
      rw [Int.toNat_of_nonneg t0] at htn
      refine Idx.by i rfl (by rw [ints_length]; exact hlt) ?_
      refine Look.by _ (ints_get hti) ?_
      refine Idx.by t.toNat (by show t = _; omega) (by rw [hkl]; omega) ?_
      refine Pick.T (by rw [hkl]; simp; omega) ?_
      refine Look.by _ htn ?_
      have hk0 : pathsT n E (Ts.take i) ++ keepT n E t ((nearL E t).take 0) = pathsT n E (Ts.take i) := by rw [List.take_zero]; simp [keepT]
      refine LoopP.intro (α := Nat) (fun j => j ≤ (nearL E t).length) (fun j => (nearL E t).length - j) (fun j => [(1, .ptr 0 0), (2, .ptr 2 0), (4, .ptr 3 0), (5, .sl 4 none none), (9, .s (.i .i64 (usedT (pathsT n E (Ts.take i) ++ keepT n E t ((nearL E t).take j)) : Nat))), (11, .s (.i .i64 t)), (68, .sl 5 none none), (69, .s (.i .i64 Ts.length)), (70, .s (.i .i64 i)), (77, .sl 4 (some (t.toNat, 0)) none), (78, .s (.i .i64 (nearL E t).length)), (79, .s (.i .i64 j))])
        (fun j => [(0, some (.blk [.s (.i .i64 n), .sl 1 none none])), (1, some (.flat false 2 (edges E))), (2, some (.blk [.s (.i .i64 0), .nils, .nils])), (3, some (.blk [.s (.i .i64 1), .sl 5 none none, .sl 6 none none])), (4, some (.nest true 1 (rowsI (nbrs n.toNat E)) [] [])), (5, some (.flat true 1 (ints Ts))), (6, some (.nest true 1 (rowsI (pathsT n E (Ts.take i) ++ keepT n E t ((nearL E t).take j))) [] []))]) 7 0 (by omega) (by refine Weak.by [(0, some _), (1, some _), (2, some _), (3, some _), (4, some _), (5, some _), (6, some _)] (by ((repeat' first | exact rfl | exact trivial | apply And.intro) <;> (repeat' first | exact rfl | exact trivial | apply And.intro)); all_goals ((first | exact sc_eq (by rw [ints_length]) | exact sc_eq (by rw [hk0]) | (rw [hk0]; done) | (simp; done)))) (by ((repeat' first | exact rfl | exact trivial | apply And.intro) <;> (repeat' first | exact rfl | exact trivial | apply And.intro)); all_goals ((first | exact sc_eq (by rw [ints_length]) | exact sc_eq (by rw [hk0]) | (rw [hk0]; done) | (simp; done)))) (by rfl)) ?_
      rintro j hj
      refine Pick.by (fun hc2 => ?_) (fun hc2 => ?_)
      · have hjl : j < (nearL E t).length := by have := of_decide_eq_true hc2; omega
        obtain ⟨x0, hx0⟩ : ∃ x, (nearL E t)[j] = x := ⟨_, rfl⟩
        have hxm : x0 ∈ nearL E t := by rw [← hx0]; exact List.getElem_mem hjl
        have hxg : (nearL E t)[j]? = some x0 := by rw [List.getElem?_eq_getElem hjl, hx0]
        refine Look.by _ htn ?_
        refine Idx.by j rfl (by rw [ints_length]; exact hjl) ?_
        refine Look.by _ htn ?_
        refine Look.by _ (ints_get hxg) ?_
        refine LoopP.intro (α := List Int) (fun p => FolT n E t p ∧ ∃ f, n.toNat + 2 ≤ f + p.length ∧ goT E f p = pathT n E t x0) (fun p => n.toNat + 2 - p.length) (fun p => [(1, .ptr 0 0), (2, .ptr 2 0), (4, .ptr 3 0), (5, .sl 4 none none), (9, .s (.i .i64 (usedT (pathsT n E (Ts.take i) ++ keepT n E t ((nearL E t).take j)) : Nat))), (11, .s (.i .i64 t)), (13, .s (.i .i64 (p.getLastD 0))), (14, .sl 7 none none), (68, .sl 5 none none), (69, .s (.i .i64 Ts.length)), (70, .s (.i .i64 i)), (77, .sl 4 (some (t.toNat, 0)) none), (78, .s (.i .i64 (nearL E t).length)), (79, .s (.i .i64 j))])
          (fun p => [(0, some (.blk [.s (.i .i64 n), .sl 1 none none])), (1, some (.flat false 2 (edges E))), (2, some (.blk [.s (.i .i64 0), .nils, .nils])), (3, some (.blk [.s (.i .i64 1), .sl 5 none none, .sl 6 none none])), (4, some (.nest true 1 (rowsI (nbrs n.toNat E)) [] [])), (5, some (.flat true 1 (ints Ts))), (6, some (.nest true 1 (rowsI (pathsT n E (Ts.take i) ++ keepT n E t ((nearL E t).take j))) [] [])), (7, some (.flat true 1 (ints p)))]) 8 [t, x0] ⟨FolT.start hxm, n.toNat, by simp, rfl⟩ (by refine Weak.by [(0, some _), (1, some _), (2, some _), (3, some _), (4, some _), (5, some _), (6, some _), (7, some _)] (by ((repeat' first | exact rfl | exact trivial | apply And.intro) <;> (repeat' first | exact rfl | exact trivial | apply And.intro)); all_goals ((first | (simp; done)))) (by ((repeat' first | exact rfl | exact trivial | apply And.intro) <;> (repeat' first | exact rfl | exact trivial | apply And.intro)); all_goals ((first | (simp; done)))) (by rfl)) ?_
        rintro p ⟨hF, f, hf, hg⟩
        have hp2 := hF.two
        have hpn := hF.len h1
        obtain ⟨xl, hxl⟩ : ∃ x, p.getLastD 0 = x := ⟨_, rfl⟩
        have hxr : 0 ≤ xl ∧ xl < n := by rw [← hxl, lastD_get (by omega)]; exact hF.inN h1 _ (by rw [getD_at (by omega)]; exact List.getElem_mem _)
        have hxt := nb_get (n := n.toNat) (E := E) (v := xl.toNat) (by omega)
        rw [Int.toNat_of_nonneg hxr.1] at hxt
        rw [hxl]
        refine Idx.by xl.toNat (by show xl = _; omega) (by rw [hkl]; omega) ?_
        refine Pick.T (by rw [hkl]; simp; omega) ?_
        refine Look.by _ hxt ?_
        refine Pick.by (fun h2 => ?_) (fun h2 => ?_)
        · have h2 : (nearL E xl).length = 2 := by rw [ints_length] at h2; have := beq_iff_eq.1 h2; omega
          obtain ⟨c, hcc⟩ : ∃ c, (nearL E xl).getD 0 0 = c := ⟨_, rfl⟩
          obtain ⟨d, hdd⟩ : ∃ d, (nearL E xl).getD 1 0 = d := ⟨_, rfl⟩
          obtain ⟨q, hqq⟩ : ∃ q, p.getD (p.length - 2) 0 = q := ⟨_, rfl⟩
          have hcg : (nearL E xl)[0]? = some c := by rw [getD_get (by omega), hcc]
          have hdg2 : (nearL E xl)[1]? = some d := by rw [getD_get (by omega), hdd]
          have hqg : p[p.length - 2]? = some q := by rw [getD_get (by omega), hqq]
          have hcr := (adj_in h1 (mem_nearL.1 (List.mem_of_getElem? hcg))).2
          have hdr := (adj_in h1 (mem_nearL.1 (List.mem_of_getElem? hdg2))).2
          have hqr := hF.inN h1 q (List.mem_of_getElem? hqg)
          have hnx : nxtT E p = c + d - q := by unfold nxtT; rw [hxl, hcc, hdd, hqq]
          refine Idx.by xl.toNat (by show xl = _; omega) (by rw [hkl]; omega) ?_
          refine Pick.T (by rw [hkl]; simp; omega) ?_
          refine Look.by _ hxt ?_
          refine Idx.by 0 rfl (by rw [ints_length]; omega) ?_
          refine Look.by _ hxt ?_
          refine Look.by _ (ints_get hcg) ?_
          refine Idx.by xl.toNat (by show xl = _; omega) (by rw [hkl]; omega) ?_
          refine Pick.T (by rw [hkl]; simp; omega) ?_
          refine Look.by _ hxt ?_
          refine Idx.by 1 rfl (by rw [ints_length]; omega) ?_
          refine Look.by _ hxt ?_
          refine Look.by _ (ints_get hdg2) ?_
          refine Pick.T (inI64_of (by omega) (by omega)) ?_
          refine Pick.T (inI64_of (by rw [ints_length]; omega) (by rw [ints_length]; omega)) ?_
          refine Idx.by (p.length - 2) (by rw [ints_length]; omega) (by rw [ints_length]; omega) ?_
          refine Look.by _ (ints_get hqg) ?_
          refine Pick.T (inI64_of (by omega) (by omega)) ?_
          refine Seg.by (by kernel_rfl) ?_
          refine Pick.T (by simp [cut, ints_length]; omega) ?_
          have h2' : (nearL E (p.getLastD 0)).length = 2 := by rw [hxl]; exact h2
          have hlen := hF.len2 h1 (by omega) h2'
          obtain ⟨f', rfl⟩ : ∃ f', f = f' + 1 := ⟨f - 1, by omega⟩
          rw [goT_step h2'] at hg
          have hla : (p ++ [nxtT E p]).getLastD 0 = c + d - q := by rw [List.getLastD_concat, hnx]
          refine Next.by (p ++ [nxtT E p]) ⟨hF.next h1 (by omega) h2', f', by simp; omega, hg⟩ (by simp; omega) (by refine Weak.by [(0, some _), (1, some _), (2, some _), (3, some _), (4, some _), (5, some _), (6, some _), (7, some _)] (by ((repeat' first | exact rfl | exact trivial | apply And.intro) <;> (repeat' first | exact rfl | exact trivial | apply And.intro)); all_goals ((first | exact sc_eq hla | (rw [hnx, ints_snoc]; rfl) | (simp; done)))) (by ((repeat' first | exact rfl | exact trivial | apply And.intro) <;> (repeat' first | exact rfl | exact trivial | apply And.intro)); all_goals ((first | exact sc_eq hla | (rw [hnx, ints_snoc]; rfl) | (simp; done)))) (by rfl))
        · have h2 : (nearL E xl).length ≠ 2 := by rw [ints_length] at h2; have := beq_eq_false_iff_ne.1 h2; omega
          have hpp : p = pathT n E t x0 := by rw [← hg, goT_stop (by rw [hxl]; exact h2)]
          have hstk : keepT n E t ((nearL E t).take (j + 1)) = keepT n E t ((nearL E t).take j) ++ (if t < xl then [p] else []) := by
            rw [List.take_succ_eq_append_getElem hjl, hx0, keepT_snoc, ← hpp, hxl]
          have hkl2 := keepT_len n E t ((nearL E t).take j)
          have htk : ((nearL E t).take j).length ≤ 3 := by rw [List.length_take]; omega
          have hpl := pathsT_len (n := n) (T := Ts.take i) fun y hy => hTd y (List.mem_of_mem_take hy)
          have hti3 : (Ts.take i).length ≤ 4 := by rw [List.length_take]; omega
          have hall : ∀ r ∈ pathsT n E (Ts.take i) ++ keepT n E t ((nearL E t).take j), r.length ≤ n.toNat + 1 := fun r hr => by
            rcases List.mem_append.1 hr with hr | hr
            · exact (pathsT_row h1 (fun y hy => hTd y (List.mem_of_mem_take hy)) hr).2
            · exact (keepT_row h1 t2 (fun y hy => List.mem_of_mem_take hy) hr).2
          have hul := usedT_le hall
          have hll : (pathsT n E (Ts.take i) ++ keepT n E t ((nearL E t).take j)).length ≤ 15 := by rw [List.length_append]; omega
          have hub : usedT (pathsT n E (Ts.take i) ++ keepT n E t ((nearL E t).take j)) ≤ 15000 := Nat.le_trans hul (Nat.le_trans (Nat.mul_le_mul hll (show n.toNat ≤ 1000 by omega)) (by decide))
          refine Pick.by (fun h3 => ?_) (fun h3 => ?_)
          · have h3 : ¬ t < xl := by have := of_decide_eq_true h3; omega
            rw [if_neg h3, List.append_nil] at hstk
            refine Pick.T (inI64_of (by omega) (by omega)) ?_
            refine Next.by (j + 1) (by omega) (by omega) (by refine Weak.by [(0, some _), (1, some _), (2, some _), (3, some _), (4, some _), (5, some _), (6, some _)] (by ((repeat' first | exact rfl | exact trivial | apply And.intro) <;> (repeat' first | exact rfl | exact trivial | apply And.intro)); all_goals ((first | exact sc_eq (by rw [hstk]) | (rw [hstk]; done) | (rw [hstk]; rfl) | (simp; done)))) (by ((repeat' first | exact rfl | exact trivial | apply And.intro) <;> (repeat' first | exact rfl | exact trivial | apply And.intro)); all_goals ((first | exact sc_eq (by rw [hstk]) | (rw [hstk]; done) | (rw [hstk]; rfl) | (simp; done)))) (by rfl))
          · have h3 : t < xl := by have := of_decide_eq_false h3; omega
            rw [if_pos h3] at hstk
            refine Pick.T (decide_eq_true (by rw [rowsI_length]; simp only [List.length_cons, List.length_nil]; omega)) ?_
            have hus : usedT (pathsT n E (Ts.take i) ++ (keepT n E t ((nearL E t).take j) ++ [p])) = usedT (pathsT n E (Ts.take i) ++ keepT n E t ((nearL E t).take j)) + (p.length - 1) := by rw [← List.append_assoc, usedT_snoc]
            have hil : ((ints p).length : Int) = p.length := by rw [ints_length]
            refine Pick.T (inI64_of (by rw [hil]; omega) (by rw [hil]; omega)) ?_
            refine Pick.T (inI64_of (by rw [hil]; omega) (by rw [hil]; omega)) ?_
            refine Pick.T (inI64_of (by omega) (by omega)) ?_
            refine Next.by (j + 1) (by omega) (by omega) (by refine Weak.by [(0, some _), (1, some _), (2, some _), (3, some _), (4, some _), (5, some _), (6, some _)] (by ((repeat' first | exact rfl | exact trivial | apply And.intro) <;> (repeat' first | exact rfl | exact trivial | apply And.intro)); all_goals ((first | exact sc_eq (by rw [hstk, hus, hil]; omega) | (rw [hstk, ← List.append_assoc, rowsI_snoc]; done) | (rw [hstk, ← List.append_assoc, rowsI_snoc]; rfl) | (simp; done)))) (by ((repeat' first | exact rfl | exact trivial | apply And.intro) <;> (repeat' first | exact rfl | exact trivial | apply And.intro)); all_goals ((first | exact sc_eq (by rw [hstk, hus, hil]; omega) | (rw [hstk, ← List.append_assoc, rowsI_snoc]; done) | (rw [hstk, ← List.append_assoc, rowsI_snoc]; rfl) | (simp; done)))) (by rfl))
      · have hjg : (nearL E t).length ≤ j := by have := of_decide_eq_false hc2; omega
        rw [List.take_of_length_le hjg]
        refine Pick.T (inI64_of (by omega) (by omega)) ?_
        have hstp : pathsT n E (Ts.take (i + 1)) = pathsT n E (Ts.take i) ++ keepT n E t (nearL E t) := by rw [List.take_succ_eq_append_getElem hlt, ht, pathsT_snoc]
        refine Next.by (i + 1) (by omega) (by omega) (by refine Weak.by [(0, some _), (1, some _), (2, some _), (3, some _), (4, some _), (5, some _), (6, some _)] (by ((repeat' first | exact rfl | exact trivial | apply And.intro) <;> (repeat' first | exact rfl | exact trivial | apply And.intro)); all_goals ((first | exact sc_eq (by rw [hstp]) | (rw [hstp]; done) | (rw [hstp]; rfl)))) (by ((repeat' first | exact rfl | exact trivial | apply And.intro) <;> (repeat' first | exact rfl | exact trivial | apply And.intro)); all_goals ((first | exact sc_eq (by rw [hstp]) | (rw [hstp]; done) | (rw [hstp]; rfl)))) (by rfl))
    · have hge : Ts.length ≤ i := by have := of_decide_eq_false hc; omega
      rw [List.take_of_length_le hge]
      have hpl := pathsT_len (n := n) hTd
      have hsn : sortNP goodT cmpT (rowsI (pathsT n E Ts)) := ⟨_, rfl, fun r hr => by have := pathsT_row h1 hTd hr; exact ⟨this.1, by omega⟩, paths_keys h1 hTd hTsn, by omega⟩
      have hsp := sortL_perm cmpT (pathsT n E Ts)
      have hfew : fewL (sortL cmpT (pathsT n E Ts)) := ⟨by rw [hsp.length_eq]; omega, fun r hr => by have := pathsT_row h1 hTd (hsp.mem_iff.1 hr); omega⟩
      refine ⟨rfl, rfl, _, _, rfl, hsn, ?_⟩
      rw [sortN_rows]
      refine Pick.by (fun h6 => ?_) (fun h6 => ?_)
      · have h6 : usedT (pathsT n E Ts) ≠ E.length := by intro e; rw [edges_length, e] at h6; simp at h6
        have hv := readF_no (n := n) (E := E) (fun h => h6 (by rw [← hTs]; exact h.2.2.2.1))
        dsimp only
        rw [hv]
        exact ⟨rfl, rfl, ⟨rfl, ⟨rfl, rfl⟩, ⟨rfl, rfl⟩, trivial⟩, rfl, trivial⟩
      have h6 : usedT (pathsT n E Ts) = E.length := by
        have h6 : (!((usedT (pathsT n E Ts) : Int) == ((edges E).length : Nat))) = false := h6
        rw [edges_length] at h6
        have : (usedT (pathsT n E Ts) : Int) = (E.length : Nat) := by simpa only [Bool.not_eq_false', beq_iff_eq] using h6
        omega
      refine Call.by _ _ (SubC_at (n := n) (E := E) (k := 1) (Ts := Ts) hfew) ?_
      refine Pick.by (fun h7 => ?_) (fun h7 => ?_)
      · have h7 : ¬ SubP n E 1 Ts (sortL cmpT (pathsT n E Ts)) := by
          have h7 : (!subB n E 1 Ts (sortL cmpT (pathsT n E Ts))) = true := h7
          intro h; rw [subB_iff.2 h] at h7; cases h7
        have hv := readF_no (n := n) (E := E) (fun h => h7 (by have := h.2.2.2.2; rw [hTs, hkd] at this; exact this))
        dsimp only
        rw [hv]
        exact ⟨rfl, rfl, ⟨rfl, ⟨rfl, rfl⟩, ⟨rfl, rfl⟩, trivial⟩, rfl, trivial⟩
      · have h7 : SubP n E 1 Ts (sortL cmpT (pathsT n E Ts)) := by
          have h7 : (!subB n E 1 Ts (sortL cmpT (pathsT n E Ts))) = false := h7
          exact subB_iff.1 (by simpa using h7)
        have hv := readF_yes (n := n) (E := E) ⟨h1, hdegs, by rw [hTs, hkd]; decide, by rw [hTs]; exact h6, by rw [hTs, hkd]; exact h7⟩
        rw [hTs, hkd] at hv
        dsimp only
        rw [hv]
        exact ⟨rfl, rfl, ⟨rfl, ⟨rfl, rfl⟩, ⟨rfl, rfl⟩, trivial⟩, rfl, trivial⟩
  have h4 : Ts.length ≠ 4 := by rw [ints_length] at h4; have := beq_eq_false_iff_ne.1 h4; omega
  refine Pick.by (fun h5 => ?_) (fun h5 => ?_)
  · have h5 : Ts.length = 2 := by rw [ints_length] at h5; have := beq_iff_eq.1 h5; omega
    have hkd : kindT Ts = 2 := by unfold kindT; rw [if_neg h4, if_pos h5]
    refine LoopP.intro (α := Nat) (fun i => i ≤ Ts.length) (fun i => Ts.length - i) (fun i => [(1, .ptr 0 0), (2, .ptr 2 0), (4, .ptr 3 0), (5, .sl 4 none none), (9, .s (.i .i64 (usedT (pathsT n E (Ts.take i)) : Nat))), (68, .sl 5 none none), (69, .s (.i .i64 Ts.length)), (70, .s (.i .i64 i))])
      (fun i => [(0, some (.blk [.s (.i .i64 n), .sl 1 none none])), (1, some (.flat false 2 (edges E))), (2, some (.blk [.s (.i .i64 0), .nils, .nils])), (3, some (.blk [.s (.i .i64 2), .sl 5 none none, .sl 6 none none])), (4, some (.nest true 1 (rowsI (nbrs n.toNat E)) [] [])), (5, some (.flat true 1 (ints Ts))), (6, some (.nest true 1 (rowsI (pathsT n E (Ts.take i))) [] []))]) 7 0 (by omega) (by refine Weak.by [(0, some _), (1, some _), (2, some _), (3, some _), (4, some _), (5, some _), (6, none)] (by ((repeat' first | exact rfl | exact trivial | apply And.intro) <;> (repeat' first | exact rfl | exact trivial | apply And.intro)); all_goals ((first | exact sc_eq (by rw [ints_length]) | done))) (by ((repeat' first | exact rfl | exact trivial | apply And.intro) <;> (repeat' first | exact rfl | exact trivial | apply And.intro)); all_goals ((first | exact sc_eq (by rw [ints_length]) | done))) (by rfl)) ?_
    rintro i hi
    refine Pick.by (fun hc => ?_) (fun hc => ?_)
    · have hlt : i < Ts.length := by have := of_decide_eq_true hc; omega
      obtain ⟨t, ht⟩ : ∃ t, Ts[i] = t := ⟨_, rfl⟩
      have htm : t ∈ Ts := by rw [← ht]; exact List.getElem_mem hlt
      have hti : Ts[i]? = some t := by rw [List.getElem?_eq_getElem hlt, ht]
      obtain ⟨t0, t1, t2⟩ := hTs3 t htm
      have htn := nb_get (n := n.toNat) (E := E) (v := t.toNat) (by omega)
      rw [Int.toNat_of_nonneg t0] at htn
      refine Idx.by i rfl (by rw [ints_length]; exact hlt) ?_
      refine Look.by _ (ints_get hti) ?_
      refine Idx.by t.toNat (by show t = _; omega) (by rw [hkl]; omega) ?_
      refine Pick.T (by rw [hkl]; simp; omega) ?_
      refine Look.by _ htn ?_
      have hk0 : pathsT n E (Ts.take i) ++ keepT n E t ((nearL E t).take 0) = pathsT n E (Ts.take i) := by rw [List.take_zero]; simp [keepT]
      refine LoopP.intro (α := Nat) (fun j => j ≤ (nearL E t).length) (fun j => (nearL E t).length - j) (fun j => [(1, .ptr 0 0), (2, .ptr 2 0), (4, .ptr 3 0), (5, .sl 4 none none), (9, .s (.i .i64 (usedT (pathsT n E (Ts.take i) ++ keepT n E t ((nearL E t).take j)) : Nat))), (11, .s (.i .i64 t)), (68, .sl 5 none none), (69, .s (.i .i64 Ts.length)), (70, .s (.i .i64 i)), (77, .sl 4 (some (t.toNat, 0)) none), (78, .s (.i .i64 (nearL E t).length)), (79, .s (.i .i64 j))])
        (fun j => [(0, some (.blk [.s (.i .i64 n), .sl 1 none none])), (1, some (.flat false 2 (edges E))), (2, some (.blk [.s (.i .i64 0), .nils, .nils])), (3, some (.blk [.s (.i .i64 2), .sl 5 none none, .sl 6 none none])), (4, some (.nest true 1 (rowsI (nbrs n.toNat E)) [] [])), (5, some (.flat true 1 (ints Ts))), (6, some (.nest true 1 (rowsI (pathsT n E (Ts.take i) ++ keepT n E t ((nearL E t).take j))) [] []))]) 7 0 (by omega) (by refine Weak.by [(0, some _), (1, some _), (2, some _), (3, some _), (4, some _), (5, some _), (6, some _)] (by ((repeat' first | exact rfl | exact trivial | apply And.intro) <;> (repeat' first | exact rfl | exact trivial | apply And.intro)); all_goals ((first | exact sc_eq (by rw [ints_length]) | exact sc_eq (by rw [hk0]) | (rw [hk0]; done) | (simp; done)))) (by ((repeat' first | exact rfl | exact trivial | apply And.intro) <;> (repeat' first | exact rfl | exact trivial | apply And.intro)); all_goals ((first | exact sc_eq (by rw [ints_length]) | exact sc_eq (by rw [hk0]) | (rw [hk0]; done) | (simp; done)))) (by rfl)) ?_
      rintro j hj
      refine Pick.by (fun hc2 => ?_) (fun hc2 => ?_)
      · have hjl : j < (nearL E t).length := by have := of_decide_eq_true hc2; omega
        obtain ⟨x0, hx0⟩ : ∃ x, (nearL E t)[j] = x := ⟨_, rfl⟩
        have hxm : x0 ∈ nearL E t := by rw [← hx0]; exact List.getElem_mem hjl
        have hxg : (nearL E t)[j]? = some x0 := by rw [List.getElem?_eq_getElem hjl, hx0]
        refine Look.by _ htn ?_
        refine Idx.by j rfl (by rw [ints_length]; exact hjl) ?_
        refine Look.by _ htn ?_
        refine Look.by _ (ints_get hxg) ?_
        refine LoopP.intro (α := List Int) (fun p => FolT n E t p ∧ ∃ f, n.toNat + 2 ≤ f + p.length ∧ goT E f p = pathT n E t x0) (fun p => n.toNat + 2 - p.length) (fun p => [(1, .ptr 0 0), (2, .ptr 2 0), (4, .ptr 3 0), (5, .sl 4 none none), (9, .s (.i .i64 (usedT (pathsT n E (Ts.take i) ++ keepT n E t ((nearL E t).take j)) : Nat))), (11, .s (.i .i64 t)), (13, .s (.i .i64 (p.getLastD 0))), (14, .sl 7 none none), (68, .sl 5 none none), (69, .s (.i .i64 Ts.length)), (70, .s (.i .i64 i)), (77, .sl 4 (some (t.toNat, 0)) none), (78, .s (.i .i64 (nearL E t).length)), (79, .s (.i .i64 j))])
          (fun p => [(0, some (.blk [.s (.i .i64 n), .sl 1 none none])), (1, some (.flat false 2 (edges E))), (2, some (.blk [.s (.i .i64 0), .nils, .nils])), (3, some (.blk [.s (.i .i64 2), .sl 5 none none, .sl 6 none none])), (4, some (.nest true 1 (rowsI (nbrs n.toNat E)) [] [])), (5, some (.flat true 1 (ints Ts))), (6, some (.nest true 1 (rowsI (pathsT n E (Ts.take i) ++ keepT n E t ((nearL E t).take j))) [] [])), (7, some (.flat true 1 (ints p)))]) 8 [t, x0] ⟨FolT.start hxm, n.toNat, by simp, rfl⟩ (by refine Weak.by [(0, some _), (1, some _), (2, some _), (3, some _), (4, some _), (5, some _), (6, some _), (7, some _)] (by ((repeat' first | exact rfl | exact trivial | apply And.intro) <;> (repeat' first | exact rfl | exact trivial | apply And.intro)); all_goals ((first | (simp; done)))) (by ((repeat' first | exact rfl | exact trivial | apply And.intro) <;> (repeat' first | exact rfl | exact trivial | apply And.intro)); all_goals ((first | (simp; done)))) (by rfl)) ?_
        rintro p ⟨hF, f, hf, hg⟩
        have hp2 := hF.two
        have hpn := hF.len h1
        obtain ⟨xl, hxl⟩ : ∃ x, p.getLastD 0 = x := ⟨_, rfl⟩
        have hxr : 0 ≤ xl ∧ xl < n := by rw [← hxl, lastD_get (by omega)]; exact hF.inN h1 _ (by rw [getD_at (by omega)]; exact List.getElem_mem _)
        have hxt := nb_get (n := n.toNat) (E := E) (v := xl.toNat) (by omega)
        rw [Int.toNat_of_nonneg hxr.1] at hxt
        rw [hxl]
        refine Idx.by xl.toNat (by show xl = _; omega) (by rw [hkl]; omega) ?_
        refine Pick.T (by rw [hkl]; simp; omega) ?_
        refine Look.by _ hxt ?_
        refine Pick.by (fun h2 => ?_) (fun h2 => ?_)
        · have h2 : (nearL E xl).length = 2 := by rw [ints_length] at h2; have := beq_iff_eq.1 h2; omega
          obtain ⟨c, hcc⟩ : ∃ c, (nearL E xl).getD 0 0 = c := ⟨_, rfl⟩
          obtain ⟨d, hdd⟩ : ∃ d, (nearL E xl).getD 1 0 = d := ⟨_, rfl⟩
          obtain ⟨q, hqq⟩ : ∃ q, p.getD (p.length - 2) 0 = q := ⟨_, rfl⟩
          have hcg : (nearL E xl)[0]? = some c := by rw [getD_get (by omega), hcc]
          have hdg2 : (nearL E xl)[1]? = some d := by rw [getD_get (by omega), hdd]
          have hqg : p[p.length - 2]? = some q := by rw [getD_get (by omega), hqq]
          have hcr := (adj_in h1 (mem_nearL.1 (List.mem_of_getElem? hcg))).2
          have hdr := (adj_in h1 (mem_nearL.1 (List.mem_of_getElem? hdg2))).2
          have hqr := hF.inN h1 q (List.mem_of_getElem? hqg)
          have hnx : nxtT E p = c + d - q := by unfold nxtT; rw [hxl, hcc, hdd, hqq]
          refine Idx.by xl.toNat (by show xl = _; omega) (by rw [hkl]; omega) ?_
          refine Pick.T (by rw [hkl]; simp; omega) ?_
          refine Look.by _ hxt ?_
          refine Idx.by 0 rfl (by rw [ints_length]; omega) ?_
          refine Look.by _ hxt ?_
          refine Look.by _ (ints_get hcg) ?_
          refine Idx.by xl.toNat (by show xl = _; omega) (by rw [hkl]; omega) ?_
          refine Pick.T (by rw [hkl]; simp; omega) ?_
          refine Look.by _ hxt ?_
          refine Idx.by 1 rfl (by rw [ints_length]; omega) ?_
          refine Look.by _ hxt ?_
          refine Look.by _ (ints_get hdg2) ?_
          refine Pick.T (inI64_of (by omega) (by omega)) ?_
          refine Pick.T (inI64_of (by rw [ints_length]; omega) (by rw [ints_length]; omega)) ?_
          refine Idx.by (p.length - 2) (by rw [ints_length]; omega) (by rw [ints_length]; omega) ?_
          refine Look.by _ (ints_get hqg) ?_
          refine Pick.T (inI64_of (by omega) (by omega)) ?_
          refine Seg.by (by kernel_rfl) ?_
          refine Pick.T (by simp [cut, ints_length]; omega) ?_
          have h2' : (nearL E (p.getLastD 0)).length = 2 := by rw [hxl]; exact h2
          have hlen := hF.len2 h1 (by omega) h2'
          obtain ⟨f', rfl⟩ : ∃ f', f = f' + 1 := ⟨f - 1, by omega⟩
          rw [goT_step h2'] at hg
          have hla : (p ++ [nxtT E p]).getLastD 0 = c + d - q := by rw [List.getLastD_concat, hnx]
          refine Next.by (p ++ [nxtT E p]) ⟨hF.next h1 (by omega) h2', f', by simp; omega, hg⟩ (by simp; omega) (by refine Weak.by [(0, some _), (1, some _), (2, some _), (3, some _), (4, some _), (5, some _), (6, some _), (7, some _)] (by ((repeat' first | exact rfl | exact trivial | apply And.intro) <;> (repeat' first | exact rfl | exact trivial | apply And.intro)); all_goals ((first | exact sc_eq hla | (rw [hnx, ints_snoc]; rfl) | (simp; done)))) (by ((repeat' first | exact rfl | exact trivial | apply And.intro) <;> (repeat' first | exact rfl | exact trivial | apply And.intro)); all_goals ((first | exact sc_eq hla | (rw [hnx, ints_snoc]; rfl) | (simp; done)))) (by rfl))
        · have h2 : (nearL E xl).length ≠ 2 := by rw [ints_length] at h2; have := beq_eq_false_iff_ne.1 h2; omega
          have hpp : p = pathT n E t x0 := by rw [← hg, goT_stop (by rw [hxl]; exact h2)]
          have hstk : keepT n E t ((nearL E t).take (j + 1)) = keepT n E t ((nearL E t).take j) ++ (if t < xl then [p] else []) := by
            rw [List.take_succ_eq_append_getElem hjl, hx0, keepT_snoc, ← hpp, hxl]
          have hkl2 := keepT_len n E t ((nearL E t).take j)
          have htk : ((nearL E t).take j).length ≤ 3 := by rw [List.length_take]; omega
          have hpl := pathsT_len (n := n) (T := Ts.take i) fun y hy => hTd y (List.mem_of_mem_take hy)
          have hti3 : (Ts.take i).length ≤ 4 := by rw [List.length_take]; omega
          have hall : ∀ r ∈ pathsT n E (Ts.take i) ++ keepT n E t ((nearL E t).take j), r.length ≤ n.toNat + 1 := fun r hr => by
            rcases List.mem_append.1 hr with hr | hr
            · exact (pathsT_row h1 (fun y hy => hTd y (List.mem_of_mem_take hy)) hr).2
            · exact (keepT_row h1 t2 (fun y hy => List.mem_of_mem_take hy) hr).2
          have hul := usedT_le hall
          have hll : (pathsT n E (Ts.take i) ++ keepT n E t ((nearL E t).take j)).length ≤ 15 := by rw [List.length_append]; omega
          have hub : usedT (pathsT n E (Ts.take i) ++ keepT n E t ((nearL E t).take j)) ≤ 15000 := Nat.le_trans hul (Nat.le_trans (Nat.mul_le_mul hll (show n.toNat ≤ 1000 by omega)) (by decide))
          refine Pick.by (fun h3 => ?_) (fun h3 => ?_)
          · have h3 : ¬ t < xl := by have := of_decide_eq_true h3; omega
            rw [if_neg h3, List.append_nil] at hstk
            refine Pick.T (inI64_of (by omega) (by omega)) ?_
            refine Next.by (j + 1) (by omega) (by omega) (by refine Weak.by [(0, some _), (1, some _), (2, some _), (3, some _), (4, some _), (5, some _), (6, some _)] (by ((repeat' first | exact rfl | exact trivial | apply And.intro) <;> (repeat' first | exact rfl | exact trivial | apply And.intro)); all_goals ((first | exact sc_eq (by rw [hstk]) | (rw [hstk]; done) | (rw [hstk]; rfl) | (simp; done)))) (by ((repeat' first | exact rfl | exact trivial | apply And.intro) <;> (repeat' first | exact rfl | exact trivial | apply And.intro)); all_goals ((first | exact sc_eq (by rw [hstk]) | (rw [hstk]; done) | (rw [hstk]; rfl) | (simp; done)))) (by rfl))
          · have h3 : t < xl := by have := of_decide_eq_false h3; omega
            rw [if_pos h3] at hstk
            refine Pick.T (decide_eq_true (by rw [rowsI_length]; simp only [List.length_cons, List.length_nil]; omega)) ?_
            have hus : usedT (pathsT n E (Ts.take i) ++ (keepT n E t ((nearL E t).take j) ++ [p])) = usedT (pathsT n E (Ts.take i) ++ keepT n E t ((nearL E t).take j)) + (p.length - 1) := by rw [← List.append_assoc, usedT_snoc]
            have hil : ((ints p).length : Int) = p.length := by rw [ints_length]
            refine Pick.T (inI64_of (by rw [hil]; omega) (by rw [hil]; omega)) ?_
            refine Pick.T (inI64_of (by rw [hil]; omega) (by rw [hil]; omega)) ?_
            refine Pick.T (inI64_of (by omega) (by omega)) ?_
            refine Next.by (j + 1) (by omega) (by omega) (by refine Weak.by [(0, some _), (1, some _), (2, some _), (3, some _), (4, some _), (5, some _), (6, some _)] (by ((repeat' first | exact rfl | exact trivial | apply And.intro) <;> (repeat' first | exact rfl | exact trivial | apply And.intro)); all_goals ((first | exact sc_eq (by rw [hstk, hus, hil]; omega) | (rw [hstk, ← List.append_assoc, rowsI_snoc]; done) | (rw [hstk, ← List.append_assoc, rowsI_snoc]; rfl) | (simp; done)))) (by ((repeat' first | exact rfl | exact trivial | apply And.intro) <;> (repeat' first | exact rfl | exact trivial | apply And.intro)); all_goals ((first | exact sc_eq (by rw [hstk, hus, hil]; omega) | (rw [hstk, ← List.append_assoc, rowsI_snoc]; done) | (rw [hstk, ← List.append_assoc, rowsI_snoc]; rfl) | (simp; done)))) (by rfl))
      · have hjg : (nearL E t).length ≤ j := by have := of_decide_eq_false hc2; omega
        rw [List.take_of_length_le hjg]
        refine Pick.T (inI64_of (by omega) (by omega)) ?_
        have hstp : pathsT n E (Ts.take (i + 1)) = pathsT n E (Ts.take i) ++ keepT n E t (nearL E t) := by rw [List.take_succ_eq_append_getElem hlt, ht, pathsT_snoc]
        refine Next.by (i + 1) (by omega) (by omega) (by refine Weak.by [(0, some _), (1, some _), (2, some _), (3, some _), (4, some _), (5, some _), (6, some _)] (by ((repeat' first | exact rfl | exact trivial | apply And.intro) <;> (repeat' first | exact rfl | exact trivial | apply And.intro)); all_goals ((first | exact sc_eq (by rw [hstp]) | (rw [hstp]; done) | (rw [hstp]; rfl)))) (by ((repeat' first | exact rfl | exact trivial | apply And.intro) <;> (repeat' first | exact rfl | exact trivial | apply And.intro)); all_goals ((first | exact sc_eq (by rw [hstp]) | (rw [hstp]; done) | (rw [hstp]; rfl)))) (by rfl))
    · have hge : Ts.length ≤ i := by have := of_decide_eq_false hc; omega
      rw [List.take_of_length_le hge]
      have hpl := pathsT_len (n := n) hTd
      have hsn : sortNP goodT cmpT (rowsI (pathsT n E Ts)) := ⟨_, rfl, fun r hr => by have := pathsT_row h1 hTd hr; exact ⟨this.1, by omega⟩, paths_keys h1 hTd hTsn, by omega⟩
      have hsp := sortL_perm cmpT (pathsT n E Ts)
      have hfew : fewL (sortL cmpT (pathsT n E Ts)) := ⟨by rw [hsp.length_eq]; omega, fun r hr => by have := pathsT_row h1 hTd (hsp.mem_iff.1 hr); omega⟩
      refine ⟨rfl, rfl, _, _, rfl, hsn, ?_⟩
      rw [sortN_rows]
      refine Pick.by (fun h6 => ?_) (fun h6 => ?_)
      · have h6 : usedT (pathsT n E Ts) ≠ E.length := by intro e; rw [edges_length, e] at h6; simp at h6
        have hv := readF_no (n := n) (E := E) (fun h => h6 (by rw [← hTs]; exact h.2.2.2.1))
        dsimp only
        rw [hv]
        exact ⟨rfl, rfl, ⟨rfl, ⟨rfl, rfl⟩, ⟨rfl, rfl⟩, trivial⟩, rfl, trivial⟩
      have h6 : usedT (pathsT n E Ts) = E.length := by
        have h6 : (!((usedT (pathsT n E Ts) : Int) == ((edges E).length : Nat))) = false := h6
        rw [edges_length] at h6
        have : (usedT (pathsT n E Ts) : Int) = (E.length : Nat) := by simpa only [Bool.not_eq_false', beq_iff_eq] using h6
        omega
      refine Call.by _ _ (SubC_at (n := n) (E := E) (k := 2) (Ts := Ts) hfew) ?_
      refine Pick.by (fun h7 => ?_) (fun h7 => ?_)
      · have h7 : ¬ SubP n E 2 Ts (sortL cmpT (pathsT n E Ts)) := by
          have h7 : (!subB n E 2 Ts (sortL cmpT (pathsT n E Ts))) = true := h7
          intro h; rw [subB_iff.2 h] at h7; cases h7
        have hv := readF_no (n := n) (E := E) (fun h => h7 (by have := h.2.2.2.2; rw [hTs, hkd] at this; exact this))
        dsimp only
        rw [hv]
        exact ⟨rfl, rfl, ⟨rfl, ⟨rfl, rfl⟩, ⟨rfl, rfl⟩, trivial⟩, rfl, trivial⟩
      · have h7 : SubP n E 2 Ts (sortL cmpT (pathsT n E Ts)) := by
          have h7 : (!subB n E 2 Ts (sortL cmpT (pathsT n E Ts))) = false := h7
          exact subB_iff.1 (by simpa using h7)
        have hv := readF_yes (n := n) (E := E) ⟨h1, hdegs, by rw [hTs, hkd]; decide, by rw [hTs]; exact h6, by rw [hTs, hkd]; exact h7⟩
        rw [hTs, hkd] at hv
        dsimp only
        rw [hv]
        exact ⟨rfl, rfl, ⟨rfl, ⟨rfl, rfl⟩, ⟨rfl, rfl⟩, trivial⟩, rfl, trivial⟩
  · have h5 : Ts.length ≠ 2 := by rw [ints_length] at h5; have := beq_eq_false_iff_ne.1 h5; omega
    have hv := readF_no (n := n) (E := E) (fun h => h.2.2.1 (by rw [hTs]; unfold kindT; rw [if_neg h4, if_neg h5]))
    dsimp only
    rw [hv]
    exact ⟨rfl, rfl, ⟨rfl, ⟨rfl, rfl⟩, ⟨rfl, rfl⟩, trivial⟩, rfl, trivial⟩
end Go.Sh

set_option linter.unusedVariables false
set_option linter.unusedSimpArgs false
namespace Go.Sh
open Go.Proofs
/-! ### carcanetlaw08.MinorMoves -/
def i64 (x : Int) : Prop := -9223372036854775808 ≤ x ∧ x ≤ 9223372036854775807
end Go.Sh

set_option linter.unusedVariables false
set_option linter.unusedSimpArgs false
namespace Go.Sh
/-! ### paths for edges, on lists: the added edges, the newest first, each with the vertex by which it was added -/
abbrev Add := Int × Int × Int
def keyP (a b : Int) (e : Add) : Prop := (a = e.1 ∧ b = e.2.1) ∨ (a = e.2.1 ∧ b = e.1)
instance (a b : Int) (e : Add) : Decidable (keyP a b e) := by unfold keyP; infer_instance
def inKeys (r : List Add) (a b : Int) : Prop := ∃ e ∈ r, keyP a b e
instance (r : List Add) (a b : Int) : Decidable (inKeys r a b) := by unfold inKeys; infer_instance
def sameP (a b c d : Int) : Prop := (a = c ∧ b = d) ∨ (a = d ∧ b = c)
/-! ### the map of those that were added -/
end Go.Sh

set_option linter.unusedVariables false
set_option linter.unusedSimpArgs false
namespace Go.Sh
/-! ### the added edges of steps that were done -/
/-! ### what an edge stands for -/
end Go.Sh

set_option linter.unusedVariables false
set_option linter.unusedSimpArgs false
namespace Go.Sh
/-! ### what is lifted, on lists -/
end Go.Sh

set_option linter.unusedVariables false
set_option linter.unusedSimpArgs false
namespace Go.Sh
open Go.Proofs
/-! ### a subdivision's model is a model -/
theorem headD_at {p : List Int} (h : 0 < p.length) : p.headD 0 = p.getD 0 0 := by cases p with | nil => simp at h | cons a l => rfl
theorem lastD_at {p : List Int} : p.getLastD 0 = p.getD (p.length - 1) 0 := by
  rw [List.getLastD_eq_getLast?, List.getLast?_eq_getElem?, List.getD_eq_getElem?_getD]
theorem getD_mem {p : List Int} {i : Nat} (h : i < p.length) : p.getD i 0 ∈ p := by rw [getD_at h]; exact List.getElem_mem h
section
variable {n : Int} {E : List Ed} {k : Int} {T : List Int} {L : List (List Int)}
/-- in how many places something stands -/
theorem cnt_at {L : List (List Int)} {v : Int} {i j : Nat} {p q : List Int} (hp : L[i]? = some p) (hq : L[j]? = some q) (hij : i ≠ j) (hv : v ∈ p) (hw : v ∈ q) : 2 ≤ L.flatten.count v := by
  induction L generalizing i j with
  | nil => simp at hp
  | cons x L ih =>
    rw [List.flatten_cons, List.count_append]
    cases i with
    | zero =>
      simp at hp; subst hp
      cases j with
      | zero => exact absurd rfl hij
      | succ j =>
        simp at hq
        have h1 : 0 < x.count v := List.count_pos_iff.2 hv
        have h2 : 0 < L.flatten.count v := List.count_pos_iff.2 (List.mem_flatten.2 ⟨q, List.mem_of_getElem? hq, hw⟩)
        omega
    | succ i =>
      simp at hp
      cases j with
      | zero =>
        simp at hq; subst hq
        have h1 : 0 < x.count v := List.count_pos_iff.2 hw
        have h2 : 0 < L.flatten.count v := List.count_pos_iff.2 (List.mem_flatten.2 ⟨p, List.mem_of_getElem? hp, hv⟩)
        omega
      | succ j =>
        simp at hq
        have := ih hp hq (by omega)
        omega
theorem ends_out {p : List Int} (hn : p.Nodup) {v : Int} (hv : v ∈ innerL p) : v ≠ p.headD 0 ∧ v ≠ p.getLastD 0 := by
  obtain ⟨i, hi, rfl⟩ := mem_inner.1 hv
  rw [headD_at (by omega), lastD_at, getD_at (by omega), getD_at (by omega)]
  constructor
  · intro e
    have := (List.getElem_inj hn).1 e
    omega
  · intro e
    have := (List.getElem_inj hn).1 e
    omega
/-- no inner one is an end of any path -/
theorem inner_end (h : SubP n E k T L) {i j : Nat} {p q : List Int} (hp : L[i]? = some p) (hq : L[j]? = some q) {v : Int} (hv : v ∈ innerL p) : v ≠ q.headD 0 ∧ v ≠ q.getLastD 0 := by
  obtain ⟨hs, hf, ha⟩ := h
  have hvp : v ∈ p := by obtain ⟨x, hx, rfl⟩ := mem_inner.1 hv; exact List.getElem_mem _
  by_cases hij : i = j
  · subst hij
    rw [hp] at hq; injection hq with hq; subst hq
    exact ends_out (hf _ _ hp).1.2.2.2.1 hv
  · have hc := ha p (List.mem_of_getElem? hp) v hv
    have hqn := (hf _ _ hq).1.2.1
    have hql : 0 < q.length := List.length_pos_iff.2 hqn
    constructor
    · intro e
      have := cnt_at hp hq hij hvp (by rw [e, headD_at hql]; exact getD_mem hql)
      omega
    · intro e
      have := cnt_at hp hq hij hvp (by rw [e, lastD_at]; exact getD_mem (by omega))
      omega
end
theorem adj_sym {E : List Ed} {x y : Int} (h : adjE E x y) : adjE E y x := h.elim .inr .inl
theorem path_ends {n : Int} {E : List Ed} {p : List Int} (h : PathP n E p) : (0 ≤ p.headD 0 ∧ p.headD 0 < n) ∧ (0 ≤ p.getLastD 0 ∧ p.getLastD 0 < n) := by
  have hl : 0 < p.length := List.length_pos_iff.2 h.2.1
  exact ⟨h.2.2.1, by rw [lastD_at]; exact path_in h _ (getD_mem (by omega))⟩
end Go.Sh

set_option linter.unusedVariables false
set_option linter.unusedSimpArgs false
namespace Go.Sh
/-! ### what is lifted: paths, apart, subdivisions -/
/-! ### a path of what is left, lifted -/
theorem inner_not {p : List Int} {i : Nat} (hi : i < p.length) (h : p.getD i 0 ∉ innerL p) : i = 0 ∨ i + 1 = p.length := by
  rcases Nat.eq_zero_or_pos i with h0 | h0
  · exact .inl h0
  · refine .inr ?_
    by_cases h1 : i + 1 = p.length
    · exact h1
    · exact absurd (mem_inner.2 ⟨i - 1, by omega, by rw [getD_at hi]; congr 1; omega⟩) h
/-- no step is one of two paths -/
theorem pairs_apart {n : Int} {E : List Ed} {k : Int} {T : List Int} {L : List (List Int)} (h : SubP n E k T L) {i j s t : Nat} {p q : List Int} (hp : L[i]? = some p) (hq : L[j]? = some q) (hij : i ≠ j) (hs : s + 1 < p.length) (ht : t + 1 < q.length) : ¬ sameP (p.getD s 0) (p.getD (s + 1) 0) (q.getD t 0) (q.getD (t + 1) 0) := by
  intro hS
  have hT := sub_tops h
  obtain ⟨hsh, hf, ha⟩ := id h
  have no1 : ∀ v, v ∈ p → v ∈ q → v ∉ innerL p := fun v h1 h2 h3 => by
    have := ha p (List.mem_of_getElem? hp) v h3
    have := cnt_at hp hq hij h1 h2
    omega
  have no2 : ∀ v, v ∈ p → v ∈ q → v ∉ innerL q := fun v h1 h2 h3 => by
    have := ha q (List.mem_of_getElem? hq) v h3
    have := cnt_at hp hq hij h1 h2
    omega
  have q0 := getD_mem (p := q) (i := t) (by omega)
  have q1 := getD_mem (p := q) (i := t + 1) ht
  have p0 := getD_mem (p := p) (i := s) (by omega)
  have p1 := getD_mem (p := p) (i := s + 1) hs
  have a1 : p.getD s 0 ∈ q := by rcases hS with ⟨k, _⟩ | ⟨k, _⟩ <;> rw [k] <;> assumption
  have a2 : p.getD (s + 1) 0 ∈ q := by rcases hS with ⟨_, k⟩ | ⟨_, k⟩ <;> rw [k] <;> assumption
  have b1 : q.getD t 0 ∈ p := by rcases hS with ⟨k, k'⟩ | ⟨k, k'⟩ <;> first | (rw [← k]; assumption) | (rw [← k']; assumption)
  have b2 : q.getD (t + 1) 0 ∈ p := by rcases hS with ⟨k, k'⟩ | ⟨k, k'⟩ <;> first | (rw [← k']; assumption) | (rw [← k]; assumption)
  have c1 := inner_not (by omega) (no1 _ p0 a1)
  have c2 := inner_not hs (no1 _ p1 a2)
  have c3 := inner_not (by omega) (no2 _ b1 q0)
  have c4 := inner_not ht (no2 _ b2 q1)
  have hs0 : s = 0 := by omega
  have ht0 : t = 0 := by omega
  have lp : p.length = 2 := by omega
  have lq : q.length = 2 := by omega
  subst hs0 ht0
  obtain ⟨_, f1, f2, f3⟩ := hf i p hp
  obtain ⟨_, g1, g2, g3⟩ := hf j q hq
  rw [headD_at (by omega)] at f1 g1
  rw [lastD_at, lp] at f2
  rw [lastD_at, lq] at g2
  have f2 : p.getD (0 + 1) 0 = _ := f2
  have g2 : q.getD (0 + 1) 0 = _ := g2
  rw [f1, f2, g1, g2] at hS
  have hi := (List.getElem?_eq_some_iff.1 hp).1
  have hj := (List.getElem?_eq_some_iff.1 hq).1
  rcases hsh with ⟨rfl, hT4, hL⟩ | ⟨rfl, hT2, hL⟩
  · match T, hT4, hT with
    | [a, b, c, d], _, hT =>
      simp only [List.nodup_cons, List.mem_cons, List.not_mem_nil, or_false, not_or, List.nodup_nil, not_false_eq_true, and_true] at hT
      obtain ⟨⟨n1, n2, n3⟩, ⟨n4, n5⟩, n6⟩ := hT
      have hi6 : i = 0 ∨ i = 1 ∨ i = 2 ∨ i = 3 ∨ i = 4 ∨ i = 5 := by omega
      have hj6 : j = 0 ∨ j = 1 ∨ j = 2 ∨ j = 3 ∨ j = 4 ∨ j = 5 := by omega
      unfold sameP at hS
      rcases hi6 with rfl | rfl | rfl | rfl | rfl | rfl <;> rcases hj6 with rfl | rfl | rfl | rfl | rfl | rfl <;> first | exact hij rfl | (simp [prsT] at hS; omega)
  · omega
/-! ### lifting, step by step -/
end Go.Sh

set_option linter.unusedVariables false
set_option linter.unusedSimpArgs false
namespace Go.Sh
open Go.Proofs Go.RowKit
/-! ### slices.Clone of numbers -/
attribute [local go_sem] Oper.semAt_some
end Go.Sh

set_option linter.unusedVariables false
set_option linter.unusedSimpArgs false
namespace Go.Sh
open Go.Proofs
/-! ### topo.Model -/
end Go.Sh

set_option linter.unusedVariables false
set_option linter.unusedSimpArgs false
namespace Go.Sh
open Go.Proofs Go.Sort Go.Shelf Go.RowKit
/-! ### topo.Edges -/
theorem segsR_length (p : List Int) : (segsR p).length = p.length - 1 := by simp [segsR]
end Go.Sh

set_option linter.unusedVariables false
set_option linter.unusedSimpArgs false
namespace Go.Sh
open Go.Proofs
/-! ### carcanetlaw09.small -/
end Go.Sh

set_option linter.unusedVariables false
set_option linter.unusedSimpArgs false
namespace Go.Sh
open Go.Proofs
/-! ### carcanetref11.find -/
end Go.Sh

set_option linter.unusedVariables false
set_option linter.unusedSimpArgs false
namespace Go.Sh
open Go.Proofs Go.Shelf Go.RowKit
/-! ### slices.Grow of nil, slices.Concat -/
end Go.Sh

set_option linter.unusedVariables false
set_option linter.unusedSimpArgs false
namespace Go.Sh
open Go.Proofs
/-! ### expander$2: what lies between two ends -/
end Go.Sh

set_option linter.unusedVariables false
set_option linter.unusedSimpArgs false
namespace Go.Sh
open Go.Proofs
/-! ### expand.Edge -/
end Go.Sh

set_option linter.unusedVariables false
set_option linter.unusedSimpArgs false
namespace Go.Sh
open Go.Proofs
/-! ### expand.Lift -/
end Go.Sh

set_option linter.unusedVariables false
set_option linter.unusedSimpArgs false
namespace Go.Sh
open Go.Proofs
/-! ### carcanetref11.paths -/
end Go.Sh

set_option linter.unusedVariables false
set_option linter.unusedSimpArgs false
namespace Go.Sh
open Go.Proofs
/-! ### carcanetref11.Edge, carcanetref11.Lift -/
end Go.Sh

set_option linter.unusedVariables false
set_option linter.unusedSimpArgs false
namespace Go.Sh
open Go.Proofs
/-! ### carcanetlaw11.small, ours -/
/-! ### carcanetref09.Same -/
/-! ### carcanetlaw11.shown -/
end Go.Sh

set_option linter.unusedVariables false
set_option linter.unusedSimpArgs false
namespace Go.Sh
open Go.Proofs
/-! ### ExpandTells, ExpandLifts, ExpandWrong, ExpandOwn -/
/-! #### what is lifted -/
end Go.Sh

set_option linter.unusedVariables false
set_option linter.unusedSimpArgs false
namespace Go.Sh
open Go.Proofs
/-! ### ExpandApart -/
end Go.Sh

set_option linter.unusedVariables false
set_option linter.unusedSimpArgs false
namespace Go.Sh
open Go.Proofs
/-! ### carcanetlaw09.shown -/
instance (E : List Ed) (a b : Int) : Decidable (adjE E a b) := by unfold adjE; exact inferInstance
end Go.Sh

set_option linter.unusedVariables false
set_option linter.unusedSimpArgs false
namespace Go.Sh
open Go.Proofs
/-! ### the edges of what is read are the graph's -/
theorem edN_eq {a b c d : Int} (h : edN (a, b) = edN (c, d)) : (a = c ∧ b = d) ∨ (a = d ∧ b = c) := by
  unfold edN mnI mxI at h
  dsimp only at h
  injection h with h1 h2
  split at h1 <;> split at h1 <;> split at h2 <;> split at h2 <;> omega
theorem mem_segsR {p : List Int} {x : Ed} : x ∈ segsR p ↔ ∃ i, i + 1 < p.length ∧ x = edN (p.getD i 0, p.getD (i + 1) 0) := by
  unfold segsR
  rw [List.mem_map]
  constructor
  · rintro ⟨i, hi, rfl⟩
    rw [List.mem_range] at hi
    exact ⟨i, by omega, rfl⟩
  · rintro ⟨i, hi, rfl⟩
    exact ⟨i, by rw [List.mem_range]; omega, rfl⟩
theorem getD_inj {p : List Int} (hn : p.Nodup) {i j : Nat} (hi : i < p.length) (hj : j < p.length) (h : p.getD i 0 = p.getD j 0) : i = j := by
  rw [getD_at hi, getD_at hj] at h
  exact (List.getElem_inj hn).1 h
theorem segsR_nodup {p : List Int} (hn : p.Nodup) : (segsR p).Nodup := by
  unfold segsR
  rw [List.nodup_iff_pairwise_ne, List.pairwise_map]
  refine List.Pairwise.imp_of_mem ?_ (List.nodup_iff_pairwise_ne.1 List.nodup_range)
  intro i j hi hj hne e
  rw [List.mem_range] at hi hj
  rcases edN_eq e with ⟨h, _⟩ | ⟨h1, h2⟩
  · exact hne (getD_inj hn (by omega) (by omega) h)
  · have := getD_inj hn (by omega) (by omega) h1
    have := getD_inj hn (by omega) (by omega) h2
    omega
theorem seg_two {n : Int} {E : List Ed} {k : Int} {Ts : List Int} {L : List (List Int)} (h : SubP n E k Ts L) {i j : Nat} {p q : List Int} (hp : L[i]? = some p) (hq : L[j]? = some q) (hij : i ≠ j) {x : Ed} (hx : x ∈ segsR p) (hy : x ∈ segsR q) : p.length = 2 := by
  obtain ⟨a, ha, rfl⟩ := mem_segsR.1 hx
  obtain ⟨b, hb, e⟩ := mem_segsR.1 hy
  have hu : p.getD a 0 ∈ q ∧ p.getD (a + 1) 0 ∈ q := by
    rcases edN_eq e with ⟨h1, h2⟩ | ⟨h1, h2⟩
    · rw [h1, h2]; exact ⟨getD_mem (by omega), getD_mem hb⟩
    · rw [h1, h2]; exact ⟨getD_mem hb, getD_mem (by omega)⟩
  refine Decidable.byContradiction fun hne => ?_
  have hno : ∀ v, v ∈ innerL p → v ∈ q → False := fun v hv hvq => by
    have hvp : v ∈ p := by obtain ⟨z, hz, rfl⟩ := mem_inner.1 hv; exact List.getElem_mem _
    have := cnt_at hp hq hij hvp hvq
    have := h.2.2 p (List.mem_of_getElem? hp) v hv
    omega
  cases a with
  | zero =>
    refine hno _ (mem_inner.2 ⟨0, by omega, ?_⟩) hu.2
    rw [getD_at (by omega)]
  | succ a =>
    refine hno _ (mem_inner.2 ⟨a, by omega, ?_⟩) hu.1
    rw [getD_at (by omega)]
theorem prs_inj : ∀ i, i < 6 → ∀ j, j < 6 → (((prsT 1).getD i (0, 0)).1 = ((prsT 1).getD j (0, 0)).1 ∧ ((prsT 1).getD i (0, 0)).2 = ((prsT 1).getD j (0, 0)).2 → i = j) ∧ ¬ (((prsT 1).getD i (0, 0)).1 = ((prsT 1).getD j (0, 0)).2 ∧ ((prsT 1).getD i (0, 0)).2 = ((prsT 1).getD j (0, 0)).1) := by decide
theorem prs_lt : ∀ i, i < 6 → (0 ≤ ((prsT 1).getD i (0, 0)).1 ∧ ((prsT 1).getD i (0, 0)).1 < 4) ∧ 0 ≤ ((prsT 1).getD i (0, 0)).2 ∧ ((prsT 1).getD i (0, 0)).2 < 4 := by decide
theorem segs_apart {n : Int} {E : List Ed} {k : Int} {Ts : List Int} {L : List (List Int)} (h : SubP n E k Ts L) {i j : Nat} {p q : List Int} (hp : L[i]? = some p) (hq : L[j]? = some q) (hij : i ≠ j) {x : Ed} (hx : x ∈ segsR p) (hy : x ∈ segsR q) : False := by
  have hp2 := seg_two h hp hq hij hx hy
  have hq2 := seg_two h hq hp (Ne.symm hij) hy hx
  obtain ⟨P1, hd1, ls1, z1⟩ := h.2.1 i p hp
  obtain ⟨P2, hd2, ls2, z2⟩ := h.2.1 j q hq
  have hnd := sub_tops h
  rcases h.1 with ⟨rfl, hT, hL⟩ | ⟨rfl, hT, hL⟩
  · have hi : i < 6 := by rw [← hL]; exact (List.getElem?_eq_some_iff.1 hp).1
    have hj : j < 6 := by rw [← hL]; exact (List.getElem?_eq_some_iff.1 hq).1
    obtain ⟨a, ha, rfl⟩ := mem_segsR.1 hx
    obtain ⟨b, hb, e⟩ := mem_segsR.1 hy
    obtain rfl : a = 0 := by omega
    obtain rfl : b = 0 := by omega
    rw [headD_at (by omega)] at hd1 hd2
    rw [lastD_at, hp2] at ls1
    rw [lastD_at, hq2] at ls2
    have hd1' := hd1; have ls1' := ls1
    rw [hd1, ls1, hd2, ls2] at e
    have l1 := prs_lt i hi
    have l2 := prs_lt j hj
    obtain ⟨q1, q2⟩ := prs_inj i hi j hj
    rcases edN_eq e with ⟨e1, e2⟩ | ⟨e1, e2⟩
    · have := getD_inj hnd (by omega) (by omega) e1
      have := getD_inj hnd (by omega) (by omega) e2
      exact hij (q1 ⟨by omega, by omega⟩)
    · have := getD_inj hnd (by omega) (by omega) e1
      have := getD_inj hnd (by omega) (by omega) e2
      exact q2 ⟨by omega, by omega⟩
  · omega
theorem segs_nodup {n : Int} {E : List Ed} {k : Int} {Ts : List Int} {L : List (List Int)} (h : SubP n E k Ts L) : (segs L).Nodup := by
  unfold segs
  rw [List.nodup_iff_pairwise_ne, List.pairwise_flatMap]
  refine ⟨fun p hp => ?_, ?_⟩
  · obtain ⟨i, hi, rfl⟩ := List.mem_iff_getElem.1 hp
    exact List.nodup_iff_pairwise_ne.1 (segsR_nodup (h.2.1 i _ (List.getElem?_eq_getElem hi)).1.2.2.2.1)
  · rw [List.pairwise_iff_getElem]
    intro i j hi hj hij x hx y hy e
    subst e
    exact segs_apart h (List.getElem?_eq_getElem hi) (List.getElem?_eq_getElem hj) (by omega) hx hy
theorem adj_edN {n : Int} {E : List Ed} (hR : RightP n E) {a b : Int} (h : adjE E a b) : edN (a, b) ∈ E := by
  have hok : ∀ p ∈ E, p.1 < p.2 := fun p hp => (hR.2.2.2.1 p hp).2.1
  unfold edN mnI mxI
  dsimp only
  rcases h with h | h
  · have := hok _ h
    dsimp only at this
    rw [if_neg (by omega), if_pos (by omega)]
    exact h
  · have := hok _ h
    dsimp only at this
    rw [if_pos (by omega), if_neg (by omega)]
    exact h
theorem segs_sub {n : Int} {E : List Ed} {k : Int} {Ts : List Int} {L : List (List Int)} (h : SubP n E k Ts L) : ∀ x ∈ segs L, x ∈ E := fun x hx => by
  obtain ⟨p, hp, hxp⟩ := List.mem_flatMap.1 hx
  obtain ⟨i, hi, rfl⟩ := List.mem_iff_getElem.1 hp
  obtain ⟨hP, _⟩ := h.2.1 i _ (List.getElem?_eq_getElem hi)
  obtain ⟨a, ha, rfl⟩ := mem_segsR.1 hxp
  exact adj_edN hP.1 (hP.2.2.2.2 a ha)
theorem segs_len (L : List (List Int)) : (segs L).length = usedT L := by
  unfold segs usedT
  rw [List.length_flatMap]
  congr 1
  exact List.map_congr_left fun p _ => segsR_length p
theorem used_perm {L M : List (List Int)} (h : L.Perm M) : usedT L = usedT M := by
  unfold usedT
  induction h with
  | nil => rfl
  | cons x _ ih => simp only [List.map_cons, List.sum_cons, ih]
  | swap x y l => simp only [List.map_cons, List.sum_cons]; omega
  | trans _ _ h1 h2 => exact h1.trans h2
theorem ltE_nodup {E : List Ed} (h : E.Pairwise ltE) : E.Nodup := List.nodup_iff_pairwise_ne.2 (h.imp fun h => ltE_ne h)
end Go.Sh

set_option linter.unusedVariables false
set_option linter.unusedSimpArgs false
namespace Go.Sh
open Go.Proofs
/-! ### a subdivision that has all edges is the one that is read -/
theorem len_of_mem {l m : List Int} (hl : l.Nodup) (hm : m.Nodup) (h : ∀ x, x ∈ l ↔ x ∈ m) : l.length = m.length :=
  Nat.le_antisymm (nodup_len hl fun x hx => (h x).1 hx) (nodup_len hm fun x hx => (h x).2 hx)
/-- a path whose inner ones have no other neighbours -/
structure Trl (E : List Ed) (p : List Int) : Prop where
  two : 2 ≤ p.length
  nd : p.Nodup
  st : stepsE E p
  deg : ∀ i, 1 ≤ i → i + 1 < p.length → (nearL E (p.getD i 0)).length = 2
  last : (nearL E (p.getLastD 0)).length ≠ 2
theorem getD_take {p : List Int} {m i : Nat} (h : i < m) : (p.take m).getD i 0 = p.getD i 0 := by
  rw [List.getD_eq_getElem?_getD, List.getD_eq_getElem?_getD, List.getElem?_take, if_pos h]
theorem trl_go {n : Int} {E : List Ed} (hR : RightP n E) {p : List Int} (h : Trl E p) : ∀ {f m : Nat}, 2 ≤ m → m ≤ p.length → p.length ≤ f + m → goT E f (p.take m) = p := by
  intro f
  induction f with
  | zero =>
    intro m h2 hm hf
    rw [List.take_of_length_le (by omega)]; rfl
  | succ f ih =>
    intro m h2 hm hf
    by_cases he : m = p.length
    · rw [he, List.take_length]
      exact goT_stop h.last
    · have hml : (p.take m).length = m := by rw [List.length_take]; omega
      have hlast : (p.take m).getLastD 0 = p.getD (m - 1) 0 := by rw [lastD_at, hml, getD_take (by omega)]
      have hd := h.deg (m - 1) (by omega) (by omega)
      have hstep : nxtT E (p.take m) = p.getD m 0 := by
        unfold nxtT
        rw [hlast, hml, getD_take (by omega)]
        have s1 := h.st (m - 2) (by omega)
        rw [show m - 2 + 1 = m - 1 by omega] at s1
        have s2 := h.st (m - 1) (by omega)
        rw [show m - 1 + 1 = m by omega] at s2
        rcases (two_near hR hd (adj_sym s1)).2.2 _ s2 with e | e
        · have := getD_inj h.nd (by omega) (by omega) e
          omega
        · exact e.symm
      rw [goT_step (by rw [hlast]; exact hd), hstep]
      have : p.take m ++ [p.getD m 0] = p.take (m + 1) := by rw [List.take_succ_eq_append_getElem (by omega), getD_at (by omega)]
      rw [this]
      exact ih (by omega) (by omega) (by omega)
theorem trl_path {n : Int} {E : List Ed} (hR : RightP n E) {p : List Int} (h : Trl E p) (hl : p.length ≤ n.toNat + 2) : pathT n E (p.getD 0 0) (p.getD 1 0) = p := by
  have h2 := h.two
  have : [p.getD 0 0, p.getD 1 0] = p.take 2 := by
    match p, h2 with
    | a :: b :: r, _ => rfl
  unfold pathT
  rw [this]
  exact trl_go hR h (Nat.le_refl _) h2 (by omega)
theorem getD_rev {p : List Int} {i : Nat} (h : i < p.length) : p.reverse.getD i 0 = p.getD (p.length - 1 - i) 0 := by
  rw [List.getD_eq_getElem?_getD, List.getD_eq_getElem?_getD, List.getElem?_reverse h]
theorem steps_rev {E : List Ed} {p : List Int} (h : stepsE E p) : stepsE E p.reverse := fun i hi => by
  rw [List.length_reverse] at hi
  have := h (p.length - 1 - (i + 1)) (by omega)
  rw [getD_rev (by omega), getD_rev hi]
  rw [show p.length - 1 - (i + 1) + 1 = p.length - 1 - i by omega] at this
  exact adj_sym this
theorem last_rev {p : List Int} (h : 0 < p.length) : p.reverse.getLastD 0 = p.headD 0 := by
  rw [lastD_at, List.length_reverse, getD_rev (by omega), headD_at h]
  congr 1
  omega
section
variable {n : Int} {E : List Ed} {k : Int} {T : List Int} {L : List (List Int)}
theorem adj_paths (hR : RightP n E) (hE : ∀ x ∈ E, x ∈ segs L) {v w : Int} (ha : adjE E v w) : ∃ (i : Nat) (p : List Int) (s : Nat), L[i]? = some p ∧ s + 1 < p.length ∧ ((p.getD s 0 = v ∧ p.getD (s + 1) 0 = w) ∨ (p.getD s 0 = w ∧ p.getD (s + 1) 0 = v)) := by
  obtain ⟨p, hp, hx⟩ := List.mem_flatMap.1 (hE _ (adj_edN hR ha))
  obtain ⟨s, hs, he⟩ := mem_segsR.1 hx
  obtain ⟨i, hi, rfl⟩ := List.mem_iff_getElem.1 hp
  refine ⟨i, _, s, List.getElem?_eq_getElem hi, hs, ?_⟩
  rcases edN_eq he with ⟨h1, h2⟩ | ⟨h1, h2⟩
  · exact .inl ⟨h1.symm, h2.symm⟩
  · exact .inr ⟨h2.symm, h1.symm⟩
theorem fit_two (h : SubP n E k T L) {i : Nat} {p : List Int} (hp : L[i]? = some p) : 2 ≤ p.length := by
  have := (h.2.1 i p hp).2.2.2
  rcases h.1 with h | h <;> omega
theorem inner_idx {p : List Int} {s : Nat} (hs : s + 2 < p.length) : p.getD (s + 1) 0 ∈ innerL p := mem_inner.2 ⟨s, hs, getD_at (by omega)⟩
theorem inner_near (hR : RightP n E) (h : SubP n E k T L) (hE : ∀ x ∈ E, x ∈ segs L) {i s : Nat} {p : List Int} (hp : L[i]? = some p) (hs : s + 2 < p.length) : ∀ w, w ∈ nearL E (p.getD (s + 1) 0) ↔ w ∈ [p.getD s 0, p.getD (s + 2) 0] := by
  intro w
  obtain ⟨hP, _⟩ := h.2.1 i p hp
  rw [mem_nearL]
  simp only [List.mem_cons, List.not_mem_nil, or_false]
  constructor
  · intro ha
    obtain ⟨j, q, t, hq, ht, hc⟩ := adj_paths hR hE ha
    have hin := inner_idx hs
    have hc1 := h.2.2 p (List.mem_of_getElem? hp) _ hin
    have hvp : p.getD (s + 1) 0 ∈ p := getD_mem (by omega)
    have hvq : p.getD (s + 1) 0 ∈ q := by
      rcases hc with ⟨e, _⟩ | ⟨_, e⟩ <;> rw [← e] <;> exact getD_mem (by omega)
    have hij : i = j := Decidable.byContradiction fun hij => by
      have := cnt_at hp hq hij hvp hvq
      omega
    subst hij
    rw [hp] at hq
    injection hq with hq
    subst hq
    rcases hc with ⟨e1, e2⟩ | ⟨e1, e2⟩
    · have := getD_inj hP.2.2.2.1 (by omega) (by omega) e1
      subst this
      exact .inr e2.symm
    · have := getD_inj hP.2.2.2.1 (by omega) (by omega) e2
      have : t = s := by omega
      subst this
      exact .inl e1.symm
  · rintro (rfl | rfl)
    · exact adj_sym (hP.2.2.2.2 s (by omega))
    · exact hP.2.2.2.2 (s + 1) (by omega)
theorem inner_deg (hR : RightP n E) (h : SubP n E k T L) (hE : ∀ x ∈ E, x ∈ segs L) {i s : Nat} {p : List Int} (hp : L[i]? = some p) (hs : s + 2 < p.length) : (nearL E (p.getD (s + 1) 0)).length = 2 := by
  have := len_of_mem (near_nodup hR _) (m := [p.getD s 0, p.getD (s + 2) 0]) (by
    simp only [List.nodup_cons, List.mem_singleton, List.not_mem_nil, not_false_eq_true, List.nodup_nil, and_true]
    intro e
    have := getD_inj (h.2.1 i p hp).1.2.2.2.1 (by omega) (by omega) e
    omega) (inner_near hR h hE hp hs)
  exact this
def othT (p : List Int) (t : Int) : Int := if p.headD 0 = t then p.getD 1 0 else p.getD (p.length - 2) 0
def tipT (t : Int) (p : List Int) : Bool := p.headD 0 == t || p.getLastD 0 == t
theorem tipT_iff {t : Int} {p : List Int} : tipT t p = true ↔ p.headD 0 = t ∨ p.getLastD 0 = t := by simp [tipT]
theorem head_last (h : SubP n E k T L) {i : Nat} {p : List Int} (hp : L[i]? = some p) : p.getD 0 0 ≠ p.getD (p.length - 1) 0 := fun e => by
  have h2 := fit_two h hp
  have := getD_inj (h.2.1 i p hp).1.2.2.2.1 (by omega) (by omega) e
  omega
theorem tops_ends (h : SubP n E k T L) : (∀ t ∈ T, (L.filter (tipT t)).length = 3) ∧ (∀ p ∈ L, p.headD 0 ∈ T ∧ p.getLastD 0 ∈ T) ∧ (T.Pairwise (· < ·) → ∀ p ∈ L, p.headD 0 < p.getLastD 0) := by
  have hT := sub_tops h
  obtain ⟨hs, hf, _⟩ := h
  rcases hs with ⟨rfl, hT4, hL6⟩ | ⟨rfl, hT2, hL3⟩
  · match T, hT4, L, hL6 with
    | [a, b, c, d], _, [p0, p1, p2, p3, p4, p5], _ =>
      have f0 : PathP n E p0 ∧ p0.headD 0 = a ∧ p0.getLastD 0 = b ∧ (1 : Int) + 1 ≤ p0.length := hf 0 p0 rfl
      have f1 : PathP n E p1 ∧ p1.headD 0 = a ∧ p1.getLastD 0 = c ∧ (1 : Int) + 1 ≤ p1.length := hf 1 p1 rfl
      have f2 : PathP n E p2 ∧ p2.headD 0 = a ∧ p2.getLastD 0 = d ∧ (1 : Int) + 1 ≤ p2.length := hf 2 p2 rfl
      have f3 : PathP n E p3 ∧ p3.headD 0 = b ∧ p3.getLastD 0 = c ∧ (1 : Int) + 1 ≤ p3.length := hf 3 p3 rfl
      have f4 : PathP n E p4 ∧ p4.headD 0 = b ∧ p4.getLastD 0 = d ∧ (1 : Int) + 1 ≤ p4.length := hf 4 p4 rfl
      have f5 : PathP n E p5 ∧ p5.headD 0 = c ∧ p5.getLastD 0 = d ∧ (1 : Int) + 1 ≤ p5.length := hf 5 p5 rfl
      simp only [List.nodup_cons, List.mem_cons, List.not_mem_nil, or_false, not_or, List.nodup_nil, not_false_eq_true, and_true] at hT
      obtain ⟨⟨n1, n2, n3⟩, ⟨n4, n5⟩, n6⟩ := hT
      refine ⟨fun t ht => ?_, fun p hp => ?_, fun hS p hp => ?_⟩
      · simp only [List.mem_cons, List.not_mem_nil, or_false] at ht
        have q : ∀ {x y : Int}, x ≠ y → (x == y) = false ∧ (y == x) = false := fun h => ⟨by simpa using h, by simpa using h.symm⟩
        obtain ⟨r1, r1'⟩ := q n1
        obtain ⟨r2, r2'⟩ := q n2
        obtain ⟨r3, r3'⟩ := q n3
        obtain ⟨r4, r4'⟩ := q n4
        obtain ⟨r5, r5'⟩ := q n5
        obtain ⟨r6, r6'⟩ := q n6
        rcases ht with rfl | rfl | rfl | rfl <;> simp only [List.filter_cons, List.filter_nil, tipT, f0.2.1, f0.2.2.1, f1.2.1, f1.2.2.1, f2.2.1, f2.2.2.1, f3.2.1, f3.2.2.1, f4.2.1, f4.2.2.1, f5.2.1, f5.2.2.1, r1, r1', r2, r2', r3, r3', r4, r4', r5, r5', r6, r6', beq_self_eq_true, Bool.or_false, Bool.false_or, Bool.or_true, Bool.true_or, if_true, if_false, Bool.false_eq_true, List.length_cons, List.length_nil]
      · simp only [List.mem_cons, List.not_mem_nil, or_false] at hp
        rcases hp with rfl | rfl | rfl | rfl | rfl | rfl <;> first | (rw [f0.2.1, f0.2.2.1]; simp; done) | (rw [f1.2.1, f1.2.2.1]; simp; done) | (rw [f2.2.1, f2.2.2.1]; simp; done) | (rw [f3.2.1, f3.2.2.1]; simp; done) | (rw [f4.2.1, f4.2.2.1]; simp; done) | (rw [f5.2.1, f5.2.2.1]; simp; done)
      · simp only [List.pairwise_cons, List.mem_cons, List.not_mem_nil, or_false, forall_eq_or_imp, forall_eq] at hS
        simp only [List.mem_cons, List.not_mem_nil, or_false] at hp
        rcases hp with rfl | rfl | rfl | rfl | rfl | rfl <;> omega
  · match T, hT2, L, hL3 with
    | [a, b], _, [p0, p1, p2], _ =>
      have f0 : PathP n E p0 ∧ p0.headD 0 = a ∧ p0.getLastD 0 = b ∧ (2 : Int) + 1 ≤ p0.length := hf 0 p0 rfl
      have f1 : PathP n E p1 ∧ p1.headD 0 = a ∧ p1.getLastD 0 = b ∧ (2 : Int) + 1 ≤ p1.length := hf 1 p1 rfl
      have f2 : PathP n E p2 ∧ p2.headD 0 = a ∧ p2.getLastD 0 = b ∧ (2 : Int) + 1 ≤ p2.length := hf 2 p2 rfl
      simp only [List.nodup_cons, List.mem_cons, List.not_mem_nil, or_false, not_or, List.nodup_nil, not_false_eq_true, and_true] at hT
      refine ⟨fun t ht => ?_, fun p hp => ?_, fun hS p hp => ?_⟩
      · simp only [List.mem_cons, List.not_mem_nil, or_false] at ht
        rcases ht with rfl | rfl <;> simp only [List.filter_cons, List.filter_nil, tipT, f0.2.1, f0.2.2.1, f1.2.1, f1.2.2.1, f2.2.1, f2.2.2.1, beq_self_eq_true, Bool.or_true, Bool.true_or, if_true, List.length_cons, List.length_nil]
      · simp only [List.mem_cons, List.not_mem_nil, or_false] at hp
        rcases hp with rfl | rfl | rfl <;> first | (rw [f0.2.1, f0.2.2.1]; simp; done) | (rw [f1.2.1, f1.2.2.1]; simp; done) | (rw [f2.2.1, f2.2.2.1]; simp; done)
      · simp only [List.pairwise_cons, List.mem_cons, List.not_mem_nil, or_false, forall_eq] at hS
        simp only [List.mem_cons, List.not_mem_nil, or_false] at hp
        rcases hp with rfl | rfl | rfl <;> omega
theorem top_end (h : SubP n E k T L) {t : Int} (ht : t ∈ T) : ∃ p ∈ L, p.headD 0 = t ∨ p.getLastD 0 = t := by
  have := (tops_ends h).1 t ht
  obtain ⟨p, hp⟩ := List.exists_mem_of_length_pos (show 0 < (L.filter (tipT t)).length by omega)
  rw [List.mem_filter] at hp
  exact ⟨p, hp.1, tipT_iff.1 hp.2⟩
theorem top_inner (h : SubP n E k T L) {t : Int} (ht : t ∈ T) {i : Nat} {p : List Int} (hp : L[i]? = some p) : t ∉ innerL p := fun hv => by
  obtain ⟨q, hq, he⟩ := top_end h ht
  obtain ⟨j, hj, rfl⟩ := List.mem_iff_getElem.1 hq
  have := inner_end h hp (List.getElem?_eq_getElem hj) hv
  rcases he with e | e
  · exact this.1 e.symm
  · exact this.2 e.symm
theorem oth_seg (h : SubP n E k T L) {t : Int} {i : Nat} {p : List Int} (hp : L[i]? = some p) (he : tipT t p = true) : ∃ s, s + 1 < p.length ∧ sameP (p.getD s 0) (p.getD (s + 1) 0) t (othT p t) := by
  have h2 := fit_two h hp
  unfold othT
  by_cases e : p.headD 0 = t
  · rw [if_pos e]
    exact ⟨0, by omega, .inl ⟨by rw [← e, headD_at (by omega)], rfl⟩⟩
  · rw [if_neg e]
    have e := (tipT_iff.1 he).resolve_left e
    refine ⟨p.length - 2, by omega, .inr ⟨rfl, ?_⟩⟩
    rw [← e, lastD_at]
    congr 1; omega
theorem top_near (hR : RightP n E) (h : SubP n E k T L) (hE : ∀ x ∈ E, x ∈ segs L) {t : Int} (ht : t ∈ T) : ∀ w, w ∈ nearL E t ↔ w ∈ (L.filter (tipT t)).map fun p => othT p t := by
  intro w
  rw [mem_nearL, List.mem_map]
  constructor
  · intro ha
    obtain ⟨i, p, s, hp, hs, hc⟩ := adj_paths hR hE ha
    have hno := top_inner h ht hp
    rcases hc with ⟨e1, e2⟩ | ⟨e1, e2⟩
    · have := inner_not (p := p) (i := s) (by omega) (by rw [e1]; exact hno)
      have hs0 : s = 0 := by omega
      subst hs0
      have e0 : p.headD 0 = t := by rw [headD_at (by omega)]; exact e1
      exact ⟨p, List.mem_filter.2 ⟨List.mem_of_getElem? hp, tipT_iff.2 (.inl e0)⟩, by unfold othT; rw [if_pos e0]; exact e2⟩
    · have := inner_not (p := p) (i := s + 1) hs (by rw [e2]; exact hno)
      have hs0 : s + 2 = p.length := by omega
      have e0 : p.getLastD 0 = t := by rw [lastD_at, show p.length - 1 = s + 1 by omega]; exact e2
      have e3 : p.headD 0 ≠ t := fun e3 => head_last h hp (by rw [← headD_at (p := p) (by omega), ← lastD_at, e3, e0])
      exact ⟨p, List.mem_filter.2 ⟨List.mem_of_getElem? hp, tipT_iff.2 (.inr e0)⟩, by unfold othT; rw [if_neg e3, show p.length - 2 = s by omega]; exact e1⟩
  · rintro ⟨p, hp, rfl⟩
    obtain ⟨hp, he⟩ := List.mem_filter.1 hp
    obtain ⟨i, hi, rfl⟩ := List.mem_iff_getElem.1 hp
    have hpi := List.getElem?_eq_getElem hi
    obtain ⟨s, hs, hc⟩ := oth_seg h hpi he
    have := (h.2.1 i _ hpi).1.2.2.2.2 s hs
    rcases hc with ⟨e1, e2⟩ | ⟨e1, e2⟩
    · rw [e1, e2] at this; exact this
    · rw [e1, e2] at this; exact adj_sym this
theorem top_deg (hR : RightP n E) (h : SubP n E k T L) (hE : ∀ x ∈ E, x ∈ segs L) {t : Int} (ht : t ∈ T) : (nearL E t).length = 3 := by
  have := len_of_mem (near_nodup hR t) (m := (L.filter (tipT t)).map fun p => othT p t) ?_ (top_near hR h hE ht)
  · rw [this, List.length_map, (tops_ends h).1 t ht]
  · rw [List.nodup_iff_pairwise_ne, List.pairwise_map, List.pairwise_filter, List.pairwise_iff_getElem]
    intro i j hi hj hij h1 h2 e
    have p1 := List.getElem?_eq_getElem hi
    have p2 := List.getElem?_eq_getElem hj
    obtain ⟨s1, a1, b1⟩ := oth_seg h p1 h1
    obtain ⟨s2, a2, b2⟩ := oth_seg h p2 h2
    refine pairs_apart h p1 p2 (by omega) a1 a2 ?_
    rw [e] at b1
    unfold sameP at b1 b2 ⊢
    omega
theorem deg_kinds (hR : RightP n E) (h : SubP n E k T L) (hE : ∀ x ∈ E, x ∈ segs L) (v : Int) : (v ∈ T ∧ (nearL E v).length = 3) ∨ (v ∉ T ∧ ((nearL E v).length = 2 ∨ (nearL E v).length = 0)) := by
  by_cases hv : v ∈ T
  · exact .inl ⟨hv, top_deg hR h hE hv⟩
  refine .inr ⟨hv, ?_⟩
  by_cases h0 : nearL E v = []
  · right; rw [h0]; rfl
  left
  obtain ⟨w, hw⟩ := List.exists_mem_of_ne_nil _ h0
  obtain ⟨i, p, s, hp, hs, hc⟩ := adj_paths hR hE (mem_nearL.1 hw)
  obtain ⟨s', hs', e⟩ : ∃ s', s' < p.length ∧ p.getD s' 0 = v := by
    rcases hc with ⟨e, _⟩ | ⟨_, e⟩
    · exact ⟨s, by omega, e⟩
    · exact ⟨s + 1, hs, e⟩
  have hends := (tops_ends h).2.1 p (List.mem_of_getElem? hp)
  have n0 : s' ≠ 0 := fun e0 => hv (by rw [← e, e0, ← headD_at (by omega)]; exact hends.1)
  have n1 : s' + 1 ≠ p.length := fun e0 => hv (by rw [← e, show s' = p.length - 1 by omega, ← lastD_at]; exact hends.2)
  have := inner_deg hR h hE hp (s := s' - 1) (by omega)
  rw [show s' - 1 + 1 = s' by omega, e] at this
  exact this
theorem trl_of (hR : RightP n E) (h : SubP n E k T L) (hE : ∀ x ∈ E, x ∈ segs L) {p : List Int} (hp : p ∈ L) : Trl E p ∧ Trl E p.reverse ∧ p.length ≤ n.toNat := by
  obtain ⟨i, hi, rfl⟩ := List.mem_iff_getElem.1 hp
  have hpi := List.getElem?_eq_getElem hi
  obtain ⟨p, hpe⟩ : ∃ p, L[i] = p := ⟨_, rfl⟩
  rw [hpe] at hpi hp ⊢
  obtain ⟨hP, _⟩ := h.2.1 i p hpi
  have h2 := fit_two h hpi
  have hends := (tops_ends h).2.1 p hp
  have hd : ∀ i, 1 ≤ i → i + 1 < p.length → (nearL E (p.getD i 0)).length = 2 := fun i h1 h2 => by
    have := inner_deg hR h hE hpi (s := i - 1) (by omega)
    rwa [show i - 1 + 1 = i by omega] at this
  refine ⟨⟨h2, hP.2.2.2.1, hP.2.2.2.2, hd, by rw [top_deg hR h hE hends.2]; omega⟩, ⟨by simpa using h2, (List.reverse_perm p).nodup_iff.2 hP.2.2.2.1, steps_rev hP.2.2.2.2, fun i h1 h2 => ?_, by rw [last_rev (by omega), top_deg hR h hE hends.1]; omega⟩, range_len hP.2.2.2.1 (path_in hP)⟩
  rw [List.length_reverse] at h2
  rw [getD_rev (by omega)]
  exact hd _ (by omega) (by omega)
/-- The subdivision that has all edges is the one that is read. -/
theorem read_of (hR : RightP n E) (h : SubP n E k T L) (hE : ∀ x ∈ E, x ∈ segs L) (hT : T.Pairwise (· < ·)) (hL : L.Pairwise ltT) : ReadP n E ∧ readF n E = ((k, T, L), true) := by
  have hdk := deg_kinds hR h hE
  have hends := tops_ends h
  have htr : ∀ t ∈ T, 0 ≤ t ∧ t < n := fun t ht => by
    obtain ⟨p, hp, he⟩ := top_end h ht
    obtain ⟨i, hi, rfl⟩ := List.mem_iff_getElem.1 hp
    have := path_ends (h.2.1 i _ (List.getElem?_eq_getElem hi)).1
    rcases he with e | e <;> rw [← e]
    · exact this.1
    · exact this.2
  have htop : topsK E n.toNat = T := by
    refine sorted_eq (topsK_sorted _ _) hT fun x => ?_
    rw [mem_topsK]
    constructor
    · rintro ⟨_, _, h3⟩
      rcases hdk x with ⟨hx, _⟩ | ⟨_, hx⟩
      · exact hx
      · omega
    · intro hx
      have := htr x hx
      exact ⟨this.1, by omega, top_deg hR h hE hx⟩
  have hkind : kindT T = k := by
    unfold kindT
    rcases h.1 with ⟨rfl, h4, _⟩ | ⟨rfl, h4, _⟩ <;> rw [h4] <;> rfl
  have hmem : ∀ q, q ∈ pathsT n E T ↔ q ∈ L := fun q => by
    unfold pathsT
    rw [List.mem_flatMap]
    constructor
    · rintro ⟨t, ht, hq⟩
      obtain ⟨⟨x, hx, rfl⟩, hlt⟩ := mem_keepT.1 hq
      obtain ⟨p, hp, rfl⟩ := List.mem_map.1 ((top_near hR h hE ht x).1 hx)
      obtain ⟨hp, he⟩ := List.mem_filter.1 hp
      obtain ⟨t1, t2, hl⟩ := trl_of hR h hE hp
      have hp2 := t1.two
      by_cases e : p.headD 0 = t
      · have e1 : othT p t = p.getD 1 0 := by unfold othT; rw [if_pos e]
        have e2 : t = p.getD 0 0 := by rw [← e, headD_at (by omega)]
        rw [e1, e2, trl_path hR t1 (by omega)]
        exact hp
      · have e3 := (tipT_iff.1 he).resolve_left e
        have e1 : othT p t = p.reverse.getD 1 0 := by
          unfold othT
          rw [if_neg e, getD_rev (by omega)]
          congr 1
        have e2 : t = p.reverse.getD 0 0 := by
          rw [getD_rev (by omega), ← e3, lastD_at]
          rfl
        rw [e1, e2, trl_path hR t2 (by simp; omega), last_rev (by omega), ← e2, ← e3] at hlt
        have := hends.2.2 hT p hp
        omega
    · intro hq
      obtain ⟨t1, _, hl⟩ := trl_of hR h hE hq
      have h2 := t1.two
      have hh := hends.2.1 q hq
      have hlt := hends.2.2 hT q hq
      refine ⟨q.headD 0, hh.1, mem_keepT.2 ⟨⟨q.getD 1 0, ?_, ?_⟩, hlt⟩⟩
      · rw [mem_nearL, headD_at (by omega)]
        exact t1.st 0 (by omega)
      · rw [headD_at (by omega)]
        exact (trl_path hR t1 (by omega)).symm
  have hLn : L.Nodup := List.nodup_iff_pairwise_ne.2 (hL.imp fun {a b} hab e => by subst e; unfold ltT at hab; omega)
  have hPn : (pathsT n E T).Nodup := List.nodup_iff_pairwise_ne.2 ((paths_keys hR (fun t ht => top_deg hR h hE ht) (hT.imp fun hab => by omega)).imp fun {a b} hab e => by
    subst e
    rcases hab with k | k <;> (rw [ltT_t] at k; unfold ltT at k; omega))
  have hperm : (pathsT n E T).Perm L := (List.perm_ext_iff_of_nodup hPn hLn).2 hmem
  have hsort : sortL cmpT (pathsT n E T) = L := by
    refine (List.Perm.eq_of_pairwise (le := fun x y => ltOf cmpT y x = false) (fun a b ha hb h1 h2 => ?_) ?_ ?_ (hperm.symm.trans (sortL_perm cmpT _).symm)).symm
    · refine Decidable.byContradiction fun hne => ?_
      have hb : b ∈ L := hperm.mem_iff.1 ((sortL_perm cmpT _).mem_iff.1 hb)
      obtain ⟨i, hi, rfl⟩ := List.mem_iff_getElem.1 ha
      obtain ⟨j, hj, rfl⟩ := List.mem_iff_getElem.1 hb
      rw [ltT_f] at h1 h2
      have hpw := List.pairwise_iff_getElem.1 hL
      rcases Nat.lt_trichotomy i j with k | k | k
      · exact h2 (hpw i j hi hj k)
      · subst k; exact hne rfl
      · exact h1 (hpw j i hj hi k)
    · refine hL.imp fun {a b} hab => ?_
      rw [ltT_f]
      unfold ltT at hab ⊢
      omega
    · have := List.pairwise_mergeSort (le := fun x y => !(ltOf cmpT) y x) (fun a b c h1 h2 => by
        simp only [Bool.not_eq_true'] at h1 h2 ⊢
        exact swoT.ntrans _ _ _ h2 h1) (fun a b => by
        cases h1 : ltOf cmpT b a with
        | false => simp
        | true =>
          have : ltOf cmpT a b = false := by
            rw [ltT_t] at h1
            rw [ltT_f]
            unfold ltT at h1 ⊢
            omega
          simp [this]) (pathsT n E T)
      exact this.imp fun h => by simpa using h
  have hused : usedT (pathsT n E T) = E.length := by
    rw [used_perm hperm, ← segs_len]
    exact Nat.le_antisymm (nodup_lenG (segs_nodup h) (segs_sub h)) (nodup_lenG (ltE_nodup hR.2.2.2.2) hE)
  have hRP : ReadP n E := by
    refine ⟨hR, fun v hv => ?_, ?_, ?_, ?_⟩
    · unfold degOk
      rcases hdk (v : Nat) with ⟨_, k⟩ | ⟨_, k | k⟩
      · exact .inr (.inr k)
      · exact .inr (.inl k)
      · exact .inl k
    · rw [htop, hkind]
      rcases h.1 with ⟨rfl, _⟩ | ⟨rfl, _⟩ <;> omega
    · rw [htop]; exact hused
    · rw [htop, hkind, hsort]; exact h
  refine ⟨hRP, ?_⟩
  rw [readF_yes hRP, htop, hkind, hsort]
end
end Go.Sh

set_option linter.unusedVariables false
set_option linter.unusedSimpArgs false
namespace Go.Sh
open Go.Proofs
/-! ### ExpandTopo, ExpandRead -/
end Go.Sh

set_option linter.unusedVariables false
set_option linter.unusedSimpArgs false
namespace Go.Sh
open Go.Proofs
/-! ### thin.K4 -/
noncomputable def k4O (n : Int) (E : List Ed) : (Int × List Int × List (List Int)) × Bool := readF (restF n E).1 (restF n E).2
noncomputable def K4C : Con := conP 2 (fun a : Int × List Ed => a.2.length ≤ 1000000) (fun a => [grV a.1 a.2]) (fun a => .tup [sbV true (k4O a.1 a.2).1.1 (k4O a.1 a.2).1.2.1 (k4O a.1 a.2).1.2.2, .one (.s (.b (k4O a.1 a.2).2))])
theorem K4C_at {n : Int} {E : List Ed} (h : E.length ≤ 1000000) : K4C.F [grV n E] = some (.tup [sbV true (k4O n E).1.1 (k4O n E).1.2.1 (k4O n E).1.2.2, .one (.s (.b (k4O n E).2))], []) :=
  conP_at (a := (n, E)) (fun x y _ _ h => by
    obtain ⟨n, E⟩ := x
    obtain ⟨n', E'⟩ := y
    simp at h
    obtain ⟨rfl, rfl⟩ := grV_inj h
    rfl) h
theorem K4_ok : SoundC Try.prog T 38 K4C := by
  refine sound_con (X := { Γ := [(40, RestC), (35, ReadC)], T := T, nt := 9 }) cr_none hmix hT (sound_cons Rest_ok (sound_cons Read_ok sound_nil)) Try.func38 (by rfl) (by rfl) (by rfl) (by rfl) 3 ?_
  rintro ⟨n, E⟩ hE
  dsimp only at hE ⊢
  refine ⟨⟨Nat.le_of_ble_eq_true rfl, Nat.le_of_ble_eq_true rfl⟩, ?_⟩
  refine Call.by _ _ (RestC_at n E) ?_
  refine Call.by _ _ (ReadC_at (n := (restF n E).1) (E := (restF n E).2) (Nat.le_trans restF_len hE)) ?_
  refine ⟨rfl, ?_⟩
  (repeat' first | exact rfl | exact trivial | apply And.intro)
/-! ### carcanetlaw14.shown -/
def E14 : List Ed := [(0, 1), (0, 2), (0, 3), (0, 4), (1, 2), (1, 3), (1, 4), (2, 3)]
def F14 : List Ed := [(0, 2), (0, 3), (0, 4), (1, 2), (1, 3), (1, 4), (2, 3)]
def L14 : List (List Int) := [[0, 4, 1], [0, 2], [0, 3], [1, 2], [1, 3], [2, 3]]
theorem R14 : RightP 5 E14 := by unfold RightP E14 okE; decide
theorem RF14 : RightP 5 F14 := by unfold RightP F14 okE; decide
theorem nar_dec {n : Int} {E : List Ed} (hR : RightP n E) {b : Bool} (h : decide (leftF (runR n E).2.2 = []) = b) : narrowB n E = b := by
  unfold narrowB
  have : runO n E = ((runR n E).1, leftF (runR n E).2.2, edgesF (runR n E).2.1 (runR n E).2.2) := if_pos hR
  rw [this, decide_eq_true hR, Bool.true_and]
  exact h
theorem nar14 : narrowB 5 E14 = false := nar_dec R14 (by decide +kernel)
theorem rest14 : restK 5 [] E14 = F14 := by
  have hs : ∀ {l : List Ed}, l.Sublist E14 → RightP 5 l := fun h => right_sub R14 h
  unfold E14
  rw [restK_go (nar_dec (hs (by decide)) (by decide +kernel))]
  rw [restK_keep (nar_dec (hs (by decide)) (by decide +kernel))]
  rw [restK_keep (nar_dec (hs (by decide)) (by decide +kernel))]
  rw [restK_keep (nar_dec (hs (by decide)) (by decide +kernel))]
  rw [restK_keep (nar_dec (hs (by decide)) (by decide +kernel))]
  rw [restK_keep (nar_dec (hs (by decide)) (by decide +kernel))]
  rw [restK_keep (nar_dec (hs (by decide)) (by decide +kernel))]
  rw [restK_keep (nar_dec (hs (by decide)) (by decide +kernel))]
  rfl
theorem restF14 : restF 5 E14 = (5, F14) := by rw [restF_yes R14 nar14, rest14]
theorem path14 {p : List Int} (h : (p ≠ [] ∧ (0 ≤ p.headD 0 ∧ p.headD 0 < 5) ∧ p.Nodup) ∧ ∀ i, i < p.length → i + 1 < p.length → adjE F14 (p.getD i 0) (p.getD (i + 1) 0)) : PathP 5 F14 p :=
  ⟨RF14, h.1.1, h.1.2.1, h.1.2.2, fun i hi => h.2 i (by omega) hi⟩
theorem sub14 : SubP 5 F14 1 [0, 1, 2, 3] L14 := by
  refine ⟨.inl ⟨rfl, rfl, rfl⟩, fun i p hp => ?_, by unfold ApartP; decide⟩
  have hi : i < 6 := (List.getElem?_eq_some_iff.1 hp).1
  match i, hi, hp with
  | 0, _, hp => cases hp; exact ⟨path14 (by decide), by decide, by decide, by decide⟩
  | 1, _, hp => cases hp; exact ⟨path14 (by decide), by decide, by decide, by decide⟩
  | 2, _, hp => cases hp; exact ⟨path14 (by decide), by decide, by decide, by decide⟩
  | 3, _, hp => cases hp; exact ⟨path14 (by decide), by decide, by decide, by decide⟩
  | 4, _, hp => cases hp; exact ⟨path14 (by decide), by decide, by decide, by decide⟩
  | 5, _, hp => cases hp; exact ⟨path14 (by decide), by decide, by decide, by decide⟩
theorem k4O14 : k4O 5 E14 = ((1, [0, 1, 2, 3], L14), true) := by
  unfold k4O
  rw [restF14]
  exact (read_of RF14 sub14 (by decide) (by decide) (by
    unfold L14 ltT
    simp)).2
theorem read_few {n : Int} {E : List Ed} (h : kindT (topsK E n.toNat) = 0) : readF n E = ((0, [], []), false) := readF_no fun k => k.2.2.1 h
theorem k4O_no {n : Int} {E : List Ed} (h : narrowB n E = true) : k4O n E = ((0, [], []), false) := by
  unfold k4O
  rw [restF_narrow h]
  exact read_few (by decide)
theorem nar2 : narrowB 2 [(0, 1)] = true := nar_dec (by unfold RightP okE; decide) (by decide +kernel)
noncomputable def Shown14C : Con := conP 0 (fun _ : Unit => True) (fun _ => []) (fun _ => .one (.s (.b true)))
theorem Shown14C_at : Shown14C.F [] = some (.one (.s (.b true)), []) := conP_at (a := ()) (fun a b _ _ h => rfl) trivial
set_option maxHeartbeats 1000000 in
set_option maxRecDepth 20000 in
theorem Shown14_ok : SoundC Try.prog T 37 Shown14C := by
  refine sound_con (X := { Γ := [(38, K4C), (40, RestC)], T := T, nt := 75 }) cr_none hmix hT (sound_cons K4_ok (sound_cons Rest_ok sound_nil)) Try.func37 (by rfl) (by rfl) (by rfl) (by rfl) 0 ?_
  rintro ⟨⟩ -
  refine ⟨⟨Nat.le_of_ble_eq_true rfl, Nat.le_of_ble_eq_true rfl⟩, ?_⟩
  have h1 := K4C_at (n := 5) (E := E14) (by decide)
  rw [k4O14] at h1
  refine Call.by _ _ h1 ?_
  have h2 := RestC_at 5 E14
  rw [restF14] at h2
  refine Call.by _ _ h2 ?_
  have h3 := K4C_at (n := 2) (E := [(0, 1)]) (by decide)
  rw [k4O_no nar2] at h3
  refine Call.by _ _ h3 ?_
  refine Idx.by 0 rfl (by decide) ?_
  refine Look.by (ints [0, 4, 1]) rfl ?_
  refine Idx.by 0 rfl (by decide) ?_
  refine Look.by (ints [0, 4, 1]) rfl ?_
  refine Idx.by 1 rfl (by decide) ?_
  refine Look.by (ints [0, 4, 1]) rfl ?_
  refine Look.by [Sc.i .i64 4] rfl ?_
  exact ⟨rfl, rfl⟩
/-! ### ThinLeast -/
def colE (c : Nat → Nat) (e : Ed) : Nat := min (c e.1.toNat) (c e.2.toNat) * 4 + max (c e.1.toNat) (c e.2.toNat)
theorem colE_ed (c : Nat → Nat) (x y : Nat) : colE c (edN ((x : Int), (y : Int))) = min (c x) (c y) * 4 + max (c x) (c y) := by
  unfold edN mnI mxI colE
  dsimp only
  by_cases k : (y : Int) < x
  · rw [if_pos k, if_neg (by omega)]
    simp only [Int.toNat_natCast]
    omega
  · rw [if_neg k]
    by_cases k2 : (y : Int) > x
    · rw [if_pos k2]; simp only [Int.toNat_natCast]
    · rw [if_neg k2]
      have : x = y := by omega
      subst this
      simp only [Int.toNat_natCast]
theorem least_edges {n : Int} {E : List Ed} (hR : RightP n E) (h : narrowB n E = false) : 6 ≤ E.length := by
  obtain ⟨c, hc⟩ : K4 (nbrs n.toNat E) := Classical.byContradiction fun k => by rw [(narrow_K4 hR).2 k] at h; cases h
  have hm : ∀ i j, i < j → j < 4 → ∃ e ∈ E, colE c e = i * 4 + j := fun i j hij hj => by
    obtain ⟨x, y, _, _, k, ex, ey⟩ := hc.meet i j hij hj
    refine ⟨_, adj_edN hR ((nbrs_adj hR x y).1 k), ?_⟩
    rw [colE_ed, ex, ey]
    omega
  obtain ⟨e1, m1, c1⟩ := hm 0 1 (by omega) (by omega)
  obtain ⟨e2, m2, c2⟩ := hm 0 2 (by omega) (by omega)
  obtain ⟨e3, m3, c3⟩ := hm 0 3 (by omega) (by omega)
  obtain ⟨e4, m4, c4⟩ := hm 1 2 (by omega) (by omega)
  obtain ⟨e5, m5, c5⟩ := hm 1 3 (by omega) (by omega)
  obtain ⟨e6, m6, c6⟩ := hm 2 3 (by omega) (by omega)
  have hn : ([e1, e2, e3, e4, e5, e6].map (colE c)).Nodup := by
    simp only [List.map_cons, List.map_nil, c1, c2, c3, c4, c5, c6]
    decide
  have hn2 : [e1, e2, e3, e4, e5, e6].Nodup := by
    rw [List.nodup_iff_pairwise_ne, List.pairwise_map] at hn
    exact List.nodup_iff_pairwise_ne.2 (hn.imp fun h e => h (by rw [e]))
  have := nodup_lenG hn2 (m := E) fun x hx => by
    simp only [List.mem_cons, List.not_mem_nil, or_false] at hx
    rcases hx with rfl | rfl | rfl | rfl | rfl | rfl <;> assumption
  simpa using this
end Go.Sh

set_option linter.unusedVariables false
set_option linter.unusedSimpArgs false
namespace Go.Sh
open Go.Proofs
/-! ### a subdivision that has all edges, its tops in any order, is read -/
section
variable {n : Int} {E : List Ed}
def WayP (n : Int) (E : List Ed) (m : Nat) (p : List Int) (x y : Int) : Prop := PathP n E p ∧ p.headD 0 = x ∧ p.getLastD 0 = y ∧ m ≤ p.length
theorem sub3 {a b : Int} {p0 p1 p2 : List Int} : SubP n E 2 [a, b] [p0, p1, p2] ↔ (WayP n E 3 p0 a b ∧ WayP n E 3 p1 a b ∧ WayP n E 3 p2 a b) ∧ ApartP [p0, p1, p2] := by
  have up : ∀ {p : List Int} {x y : Int}, (PathP n E p ∧ p.headD 0 = x ∧ p.getLastD 0 = y ∧ (2 : Int) + 1 ≤ p.length) ↔ WayP n E 3 p x y := fun {p x y} =>
    ⟨fun ⟨h1, h2, h3, h4⟩ => ⟨h1, h2, h3, by omega⟩, fun ⟨h1, h2, h3, h4⟩ => ⟨h1, h2, h3, by omega⟩⟩
  constructor
  · rintro ⟨_, hf, ha⟩
    exact ⟨⟨up.1 (hf 0 p0 rfl), up.1 (hf 1 p1 rfl), up.1 (hf 2 p2 rfl)⟩, ha⟩
  · rintro ⟨⟨h0, h1, h2⟩, ha⟩
    refine ⟨.inr ⟨rfl, rfl, rfl⟩, fun i p hp => ?_, ha⟩
    match i, hp with
    | 0, hp => injection hp with hp; subst hp; exact up.2 h0
    | 1, hp => injection hp with hp; subst hp; exact up.2 h1
    | 2, hp => injection hp with hp; subst hp; exact up.2 h2
    | i + 3, hp => simp at hp
end
end Go.Sh

set_option linter.unusedVariables false
set_option linter.unusedSimpArgs false
namespace Go.Sh
open Go.Proofs
/-! ### where a graph is not narrow there is a subdivision of the complete graph of four -/
end Go.Sh

set_option linter.unusedVariables false
set_option linter.unusedSimpArgs false
namespace Go.Sh
open Go.Proofs
/-! ### what can't be spared is a subdivision, and is read as it -/
end Go.Sh

set_option linter.unusedVariables false
set_option linter.unusedSimpArgs false
namespace Go.Sh
open Go.Proofs
/-! ### ThinIs -/
end Go.Sh

set_option linter.unusedVariables false
set_option linter.unusedSimpArgs false
namespace Go.Sh
open Go.Proofs
/-! ### ThinAgain: all numbers are moved by three -/
def shE (e : Ed) : Ed := (e.1 + 3, e.2 + 3)
theorem sh_adj {E : List Ed} {x y : Int} : adjE (E.map shE) x y ↔ adjE E (x - 3) (y - 3) := by
  have one : ∀ {x y : Int}, (x, y) ∈ E.map shE ↔ (x - 3, y - 3) ∈ E := fun {x y} => by
    rw [List.mem_map]
    constructor
    · rintro ⟨⟨a, b⟩, h, e⟩
      unfold shE at e
      injection e with e1 e2
      dsimp only at e1 e2
      rw [show x - 3 = a by omega, show y - 3 = b by omega]; exact h
    · intro h
      exact ⟨_, h, by unfold shE; dsimp only; rw [Int.sub_add_cancel, Int.sub_add_cancel]⟩
  unfold adjE
  rw [one, one]
theorem sh_right {n : Int} {E : List Ed} (hR : RightP n E) (hn : n ≤ 900) : RightP (n + 3) (E.map shE) := by
  obtain ⟨h1, h2, h3, h4, h5⟩ := hR
  refine ⟨by omega, by omega, by simpa using h3, fun p hp => ?_, ?_⟩
  · obtain ⟨q, hq, rfl⟩ := List.mem_map.1 hp
    have := h4 q hq
    unfold okE at this ⊢
    unfold shE
    dsimp only
    omega
  · rw [List.pairwise_map]
    refine h5.imp fun h => ?_
    unfold ltE at h ⊢
    unfold shE
    dsimp only
    omega
theorem K4_sh {n : Int} {E : List Ed} (hR : RightP n E) (hR' : RightP (n + 3) (E.map shE)) : K4 (nbrs (n + 3).toNat (E.map shE)) ↔ K4 (nbrs n.toNat E) := by
  have h0 := hR.1
  have hadj : ∀ x y : Nat, adjN (nbrs (n + 3).toNat (E.map shE)) x y ↔ 3 ≤ x ∧ 3 ≤ y ∧ adjN (nbrs n.toNat E) (x - 3) (y - 3) := fun x y => by
    rw [nbrs_adj hR', nbrs_adj hR, sh_adj]
    constructor
    · intro h
      have := adj_in hR h
      refine ⟨by omega, by omega, ?_⟩
      rw [show ((x - 3 : Nat) : Int) = (x : Int) - 3 by omega, show ((y - 3 : Nat) : Int) = (y : Int) - 3 by omega]
      exact h
    · rintro ⟨hx, hy, h⟩
      rw [show ((x - 3 : Nat) : Int) = (x : Int) - 3 by omega, show ((y - 3 : Nat) : Int) = (y : Int) - 3 by omega] at h
      exact h
  have hlen : (n + 3).toNat = n.toNat + 3 := by omega
  constructor
  · rintro ⟨c, hc⟩
    rw [nbrs_length, hlen] at hc
    refine ⟨fun x => c (x + 3), ?_⟩
    rw [nbrs_length]
    have hmeet : ∀ i j, i < j → j < 4 → ∃ x y, x < n.toNat ∧ y < n.toNat ∧ adjN (nbrs n.toNat E) x y ∧ c (x + 3) = i ∧ c (y + 3) = j := fun i j hij hj => by
      obtain ⟨x, y, hx, hy, k, ex, ey⟩ := hc.meet i j hij hj
      rw [List.mem_range] at hx hy
      obtain ⟨k1, k2, k3⟩ := (hadj x y).1 (by rw [← hlen] at k; exact k)
      exact ⟨x - 3, y - 3, by omega, by omega, k3, by rw [show x - 3 + 3 = x by omega]; exact ex, by rw [show y - 3 + 3 = y by omega]; exact ey⟩
    refine ⟨fun i hi => ?_, fun i hi P ⟨x, hx, ex, hP⟩ hcl y hy ey => ?_, fun i j hij hj => ?_⟩
    · rcases Nat.lt_or_ge i 3 with h | h
      · obtain ⟨x, y, hx, hy, _, ex, _⟩ := hmeet i 3 h (by omega)
        exact ⟨x, List.mem_range.2 hx, ex⟩
      · obtain ⟨x, y, hx, hy, _, _, ey⟩ := hmeet 0 i (by omega) hi
        exact ⟨y, List.mem_range.2 hy, ey⟩
    · rw [List.mem_range] at hx hy
      have := hc.conn i hi (fun z => z < 3 ∨ P (z - 3)) ⟨x + 3, List.mem_range.2 (by omega), ex, .inr (by rw [show x + 3 - 3 = x by omega]; exact hP)⟩ (fun a b ha hb ea eb k hPa => by
        obtain ⟨k1, k2, k3⟩ := (hadj a b).1 (by rw [← hlen] at k; exact k)
        rw [List.mem_range] at ha hb
        rcases hPa with h | h
        · omega
        · exact .inr (hcl (a - 3) (b - 3) (List.mem_range.2 (by omega)) (List.mem_range.2 (by omega)) (by rw [show a - 3 + 3 = a by omega]; exact ea) (by rw [show b - 3 + 3 = b by omega]; exact eb) k3 h)) (y + 3) (List.mem_range.2 (by omega)) ey
      rcases this with h | h
      · omega
      · rwa [show y + 3 - 3 = y by omega] at h
    · obtain ⟨x, y, hx, hy, k, ex, ey⟩ := hmeet i j hij hj
      exact ⟨x, y, List.mem_range.2 hx, List.mem_range.2 hy, k, ex, ey⟩
  · rintro ⟨c, hc⟩
    rw [nbrs_length] at hc
    have hup : ∀ x, (if x + 3 < 3 then 4 else c (x + 3 - 3)) = c x := fun x => by rw [if_neg (by omega), show x + 3 - 3 = x by omega]
    refine ⟨fun x => if x < 3 then 4 else c (x - 3), ?_⟩
    rw [nbrs_length, hlen]
    refine ⟨fun i hi => ?_, fun i hi P ⟨x, hx, ex, hP⟩ hcl y hy ey => ?_, fun i j hij hj => ?_⟩
    · obtain ⟨x, hx, ex⟩ := hc.some i hi
      rw [List.mem_range] at hx
      exact ⟨x + 3, List.mem_range.2 (by omega), by rw [hup]; exact ex⟩
    · rw [List.mem_range] at hx hy
      have big : ∀ {z : Nat}, (if z < 3 then 4 else c (z - 3)) = i → 3 ≤ z ∧ c (z - 3) = i := fun {z} h => by
        by_cases hz : z < 3
        · rw [if_pos hz] at h; omega
        · rw [if_neg hz] at h; exact ⟨by omega, h⟩
      obtain ⟨x3, ex⟩ := big ex
      obtain ⟨y3, ey⟩ := big ey
      have := hc.conn i hi (fun z => P (z + 3)) ⟨x - 3, List.mem_range.2 (by omega), ex, by rw [show x - 3 + 3 = x by omega]; exact hP⟩ (fun a b ha hb ea eb k hPa => by
        rw [List.mem_range] at ha hb
        refine hcl (a + 3) (b + 3) (List.mem_range.2 (by omega)) (List.mem_range.2 (by omega)) (by rw [hup]; exact ea) (by rw [hup]; exact eb) ?_ hPa
        have := (hadj (a + 3) (b + 3)).2 ⟨by omega, by omega, by rw [show a + 3 - 3 = a by omega, show b + 3 - 3 = b by omega]; exact k⟩
        rw [hlen] at this
        exact this) (y - 3) (List.mem_range.2 (by omega)) ey
      rwa [show y - 3 + 3 = y by omega] at this
    · obtain ⟨x, y, hx, hy, k, ex, ey⟩ := hc.meet i j hij hj
      rw [List.mem_range] at hx hy
      refine ⟨x + 3, y + 3, List.mem_range.2 (by omega), List.mem_range.2 (by omega), ?_, by rw [hup]; exact ex, by rw [hup]; exact ey⟩
      have := (hadj (x + 3) (y + 3)).2 ⟨by omega, by omega, by rw [show x + 3 - 3 = x by omega, show y + 3 - 3 = y by omega]; exact k⟩
      rw [hlen] at this
      exact this
theorem narrow_sh {n : Int} {E : List Ed} (hR : RightP n E) (hn : n ≤ 900) : narrowB (n + 3) (E.map shE) = narrowB n E := by
  have hR' := sh_right hR hn
  rw [Bool.eq_iff_iff, narrow_K4 hR', narrow_K4 hR, K4_sh hR hR']
theorem restK_sh {n : Int} {E : List Ed} (hR : RightP n E) (hn : n ≤ 900) : ∀ {r K : List Ed}, (K ++ r).Sublist E → restK (n + 3) (K.map shE) (r.map shE) = (restK n K r).map shE := by
  intro r
  induction r with
  | nil => intro K _; rfl
  | cons x r ih =>
    intro K hs
    have hs2 : (K ++ r).Sublist (K ++ x :: r) := (List.Sublist.refl K).append (List.sublist_cons_self x r)
    have hsE := hs2.trans hs
    have hnr : narrowB (n + 3) (K.map shE ++ r.map shE) = narrowB n (K ++ r) := by
      rw [← List.map_append]
      exact narrow_sh (right_sub hR hsE) hn
    rw [List.map_cons]
    cases hc : narrowB n (K ++ r) with
    | false =>
      rw [restK_go hc, restK_go (by rw [hnr, hc])]
      exact ih hsE
    | true =>
      rw [restK_keep hc, restK_keep (by rw [hnr, hc])]
      have := ih (K := K ++ [x]) (by simpa using hs)
      rw [List.map_append] at this
      exact this
/-- what stands ahead is spared -/
theorem restK_ahead {n : Int} {E : List Ed} (hR : RightP n E) (hw : narrowB n E = false) : ∀ {H : List Ed}, RightP n (H ++ E) → restK n [] (H ++ E) = restK n [] E := by
  intro H
  induction H with
  | nil => intro _; rfl
  | cons x H ih =>
    intro hRH
    have hs : (H ++ E).Sublist (x :: H ++ E) := List.sublist_cons_self x (H ++ E)
    have hR2 := right_sub hRH hs
    have hw2 : narrowB n ([] ++ (H ++ E)) = false := by
      rw [List.nil_append]
      cases hc : narrowB n (H ++ E) with
      | false => rfl
      | true =>
        have := narrow_wo hR2 hR (fun p hp => List.mem_append_right _ hp) hc
        rw [hw] at this; cases this
    rw [List.cons_append, restK_go hw2]
    exact ih hR2
theorem normE_right {n : Int} {l : List Ed} (hR : RightP n l) : normF n l = ((n, l), 0) := by
  have hok := hR.2.2.2.1
  have he : normE l = l := by
    refine sortedE_eq (normE_sorted l) hR.2.2.2.2 fun x => ?_
    rw [mem_normE]
    constructor
    · rintro ⟨p, hp, _, rfl⟩
      have := hok p hp
      unfold okE at this
      rw [show edN p = p by unfold edN mnI mxI; rw [if_neg (by omega), if_pos (by omega)]]
      exact hp
    · intro hx
      have := hok x hx
      unfold okE at this
      exact ⟨x, hx, by omega, by unfold edN mnI mxI; rw [if_neg (by omega), if_pos (by omega)]⟩
  have h1 := hR.1
  have h2 := hR.2.1
  have h3 := hR.2.2.1
  unfold normF
  rw [if_neg (by omega), if_neg (by omega), if_pos (fun p hp => by
    have := hok p hp
    unfold okE at this
    unfold inR
    omega), he, if_neg (by omega)]
theorem right_few {n : Int} {E : List Ed} (hR : RightP n E) (hn : n ≤ 60) : E.length ≤ 3600 := by
  have h0 := hR.1
  have h1 := nodup_lenG (edge_nodup hR) (m := (List.range n.toNat).flatMap fun (x : Nat) => (List.range n.toNat).map fun (y : Nat) => ((x : Int), (y : Int))) fun e he => by
    have := hR.2.2.2.1 e he
    unfold okE at this
    refine List.mem_flatMap.2 ⟨e.1.toNat, List.mem_range.2 (by omega), List.mem_map.2 ⟨e.2.toNat, List.mem_range.2 (by omega), ?_⟩⟩
    exact Prod.ext (by dsimp only; omega) (by dsimp only; omega)
  have h2 : ((List.range n.toNat).flatMap fun (x : Nat) => (List.range n.toNat).map fun (y : Nat) => ((x : Int), (y : Int))).length = n.toNat * n.toNat := by
    have hs : ∀ (k : Nat) (l : List Nat), (l.map fun _ => k).sum = l.length * k := fun k l => by
      induction l with
      | nil => simp
      | cons a l ih => rw [List.map_cons, List.sum_cons, ih, List.length_cons, Nat.succ_mul]; omega
    rw [List.length_flatMap]
    simp only [List.length_map, List.length_range]
    rw [hs, List.length_range]
  rw [h2] at h1
  exact Nat.le_trans h1 (Nat.mul_le_mul (show n.toNat ≤ 60 by omega) (show n.toNat ≤ 60 by omega))
end Go.Sh

set_option linter.unusedVariables false
set_option linter.unusedSimpArgs false
namespace Go.Sh
open Go.Proofs
/-! ### ThinAgain: the walk -/
def hangE (m a b c : Int) (j : Nat) : Ed := ((j : Int), 3 + (low (if j = 0 then a else if j = 1 then b else c)).tmod m)
def hangL (m a b c : Int) (i : Nat) : List Ed := (List.range i).map (hangE m a b c)
theorem hangL_succ (m a b c : Int) (i : Nat) : hangL m a b c (i + 1) = hangL m a b c i ++ [hangE m a b c i] := by simp [hangL, List.range_succ]
noncomputable def AgainF := conF (fun _ : (Int × List Ed) × (Int × Int × Int) => True) (fun a => [grV a.1.1 a.1.2, .agg [.s (.i .i64 a.2.1), .s (.i .i64 a.2.2.1), .s (.i .i64 a.2.2.2)]]) (fun _ => .one (.s (.b true)))
set_option maxHeartbeats 2000000 in
theorem Again_ok : SoundP Try.prog 12 AgainF := by
  refine con_pure (X := { Γ := [(37, Shown14C), (16, OfC), (40, RestC), (34, NormC), (41, SameGC)], T := T, nt := 140 }) cr_none hmix hT (sound_cons Shown14_ok (sound_cons Of_ok (sound_cons Rest_ok (sound_cons Norm3_ok (sound_cons SameG_ok sound_nil))))) Try.func12 (by rfl) (by rfl) (by rfl) 6 ?_
  rintro ⟨⟨n, E⟩, a, b, c⟩ -
  dsimp only
  refine ⟨⟨Nat.le_of_ble_eq_true rfl, Nat.le_of_ble_eq_true rfl⟩, ?_⟩
  refine Call.by _ _ Shown14C_at ?_
  refine Call.by _ _ (OfC_at n E (most := 12) (by omega)) ?_
  have hR := any_right (n := n) (l := E) (most := 12) (by omega) (by omega)
  have hr := anyN_range (n := n) (most := 12) (by omega)
  obtain ⟨m, hm⟩ : ∃ m, anyN n 12 = m := ⟨_, rfl⟩
  obtain ⟨F, hF⟩ : ∃ F, anyE n E 12 = F := ⟨_, rfl⟩
  rw [hm] at hr
  rw [hm, hF] at hR ⊢
  have hF3 := hR.2.2.1
  have hRC := RestC_at m F
  have hRA := RestC_at (restF m F).1 (restF m F).2
  rw [restF_again] at hRA
  by_cases hn : narrowB m F = true
  · rw [restF_narrow hn] at hRC hRA
    refine Call.by _ _ hRC ?_
    refine Call.by _ _ hRA ?_
    exact ⟨rfl, rfl⟩
  have hn : narrowB m F = false := by simpa using hn
  have hL := rest_least hR hn
  rw [restF_yes hR hn] at hRC hRA
  obtain ⟨D, hD⟩ : ∃ D, restK m [] F = D := ⟨_, rfl⟩
  rw [hD] at hL hRC hRA
  dsimp only at hRC hRA
  have hRD := right_sub hR hL.sub
  have hDl := hRD.2.2.1
  have h6 := least_edges hRD hL.wide
  have hm2 : 2 ≤ m := by
    have := hRD.2.2.2.1 _ (List.getElem_mem (show 0 < D.length by omega))
    unfold okE at this
    omega
  refine Call.by _ _ hRC ?_
  refine Call.by _ _ hRA ?_
  refine Pick.F (beq_eq_false_iff_ne.2 (by rw [edges_length]; omega)) ?_
  have la := tmod_range (low_range a).1 (show 0 < m by omega)
  have lb := tmod_range (low_range b).1 (show 0 < m by omega)
  have lc := tmod_range (low_range c).1 (show 0 < m by omega)
  have qa : inI64 (3 + (low a).tmod m) = true := inI64_of (by omega) (by omega)
  have qb : inI64 (3 + (low b).tmod m) = true := inI64_of (by omega) (by omega)
  have qc : inI64 (3 + (low c).tmod m) = true := inI64_of (by omega) (by omega)
  refine LoopP.intro (α := Nat) (fun i => i ≤ 3) (fun i => 3 - i) (fun i => [(3, .ptr 0 0), (5, .s (.b true)), (6, .ptr 1 0), (7, .ptr 3 0), (8, .ptr 5 0), (9, .sl 7 none none), (10, .s (.i .i64 i))])
    (fun i => [(0, some (.blk [.s (.i .i64 a), .s (.i .i64 b), .s (.i .i64 c)])), (1, some (.blk [.s (.i .i64 m), .sl 2 none none])), (2, some (.flat true 2 (edges F))), (3, some (.blk [.s (.i .i64 m), .sl 4 none none])), (4, some (.flat true 2 (edges D))), (5, some (.blk [.s (.i .i64 m), .sl 6 none none])), (6, some (.flat true 2 (edges D))), (7, some (.flat true 2 (edges (hangL m a b c i))))]) 8 0 (by omega) (by refine Weak.by [(0, some _), (1, some _), (2, some _), (3, some _), (4, some _), (5, some _), (6, some _), (7, none)] (by ((repeat' first | exact rfl | exact trivial | apply And.intro) <;> (repeat' first | exact rfl | exact trivial | apply And.intro))) (by ((repeat' first | exact rfl | exact trivial | apply And.intro) <;> (repeat' first | exact rfl | exact trivial | apply And.intro))) (by rfl)) ?_
  rintro i hi
  refine Pick.by (fun hc => ?_) (fun hc => ?_)
  · have hlt : i < 3 := by have := of_decide_eq_true hc; omega
    obtain rfl | rfl | rfl : i = 0 ∨ i = 1 ∨ i = 2 := by omega
    · refine Idx.by 0 rfl (by decide) ?_
      refine Pick.F (beq_eq_false_iff_ne.2 (by omega)) ?_
      refine Pick.T qa ?_
      refine Seg.by (by kernel_rfl) ?_
      refine Pick.T (inI64_of (by omega) (by omega)) ?_
      refine Next.by (0 + 1) (by omega) (by omega) (by refine Weak.by [(0, some _), (1, some _), (2, some _), (3, some _), (4, some _), (5, some _), (6, some _), (7, some _)] (by ((repeat' first | exact rfl | exact trivial | apply And.intro) <;> (repeat' first | exact rfl | exact trivial | apply And.intro)); all_goals (first | (rw [hangL_succ, edges_snoc]; rfl))) (by ((repeat' first | exact rfl | exact trivial | apply And.intro) <;> (repeat' first | exact rfl | exact trivial | apply And.intro)); all_goals (first | (rw [hangL_succ, edges_snoc]; rfl))) (by rfl))
    · refine Idx.by 1 rfl (by decide) ?_
      refine Pick.F (beq_eq_false_iff_ne.2 (by omega)) ?_
      refine Pick.T qb ?_
      refine Seg.by (by kernel_rfl) ?_
      refine Pick.T (inI64_of (by omega) (by omega)) ?_
      refine Next.by (1 + 1) (by omega) (by omega) (by refine Weak.by [(0, some _), (1, some _), (2, some _), (3, some _), (4, some _), (5, some _), (6, some _), (7, some _)] (by ((repeat' first | exact rfl | exact trivial | apply And.intro) <;> (repeat' first | exact rfl | exact trivial | apply And.intro)); all_goals (first | (rw [hangL_succ, edges_snoc]; rfl))) (by ((repeat' first | exact rfl | exact trivial | apply And.intro) <;> (repeat' first | exact rfl | exact trivial | apply And.intro)); all_goals (first | (rw [hangL_succ, edges_snoc]; rfl))) (by rfl))
    · refine Idx.by 2 rfl (by decide) ?_
      refine Pick.F (beq_eq_false_iff_ne.2 (by omega)) ?_
      refine Pick.T qc ?_
      refine Seg.by (by kernel_rfl) ?_
      refine Pick.T (inI64_of (by omega) (by omega)) ?_
      refine Next.by (2 + 1) (by omega) (by omega) (by refine Weak.by [(0, some _), (1, some _), (2, some _), (3, some _), (4, some _), (5, some _), (6, some _), (7, some _)] (by ((repeat' first | exact rfl | exact trivial | apply And.intro) <;> (repeat' first | exact rfl | exact trivial | apply And.intro)); all_goals (first | (rw [hangL_succ, edges_snoc]; rfl))) (by ((repeat' first | exact rfl | exact trivial | apply And.intro) <;> (repeat' first | exact rfl | exact trivial | apply And.intro)); all_goals (first | (rw [hangL_succ, edges_snoc]; rfl))) (by rfl))
  have hi3 : i = 3 := by have := of_decide_eq_false hc; omega
  subst hi3
  have hHl : (hangL m a b c 3).length = 3 := rfl
  obtain ⟨H, hH⟩ : ∃ H, hangL m a b c 3 = H := ⟨_, rfl⟩
  have hRF3 := sh_right hR (by omega)
  have hRH : RightP (m + 3) (H ++ F.map shE) := by
    obtain ⟨q1, q2, q3, q4, q5⟩ := hRF3
    rw [← hH]
    have hok : ∀ p ∈ hangL m a b c 3, okE (m + 3) p ∧ p.1 < 3 := fun p hp => by
      have : p = hangE m a b c 0 ∨ p = hangE m a b c 1 ∨ p = hangE m a b c 2 := by simpa [hangL, List.range_succ] using hp
      unfold okE
      rcases this with rfl | rfl | rfl
      · show (0 ≤ (0 : Int) ∧ (0 : Int) < 3 + (low a).tmod m ∧ 3 + (low a).tmod m < m + 3) ∧ (0 : Int) < 3; omega
      · show (0 ≤ (1 : Int) ∧ (1 : Int) < 3 + (low b).tmod m ∧ 3 + (low b).tmod m < m + 3) ∧ (1 : Int) < 3; omega
      · show (0 ≤ (2 : Int) ∧ (2 : Int) < 3 + (low c).tmod m ∧ 3 + (low c).tmod m < m + 3) ∧ (2 : Int) < 3; omega
    refine ⟨by omega, by omega, by rw [List.length_append, List.length_map, hHl]; have := right_few hR (by omega); omega, fun p hp => ?_, ?_⟩
    · rcases List.mem_append.1 hp with hp | hp
      · exact (hok p hp).1
      · exact q4 p hp
    · rw [List.pairwise_append]
      refine ⟨?_, q5, fun x hx y hy => ?_⟩
      · show [hangE m a b c 0, hangE m a b c 1, hangE m a b c 2].Pairwise ltE
        unfold hangE ltE
        simp
      · have h1 := (hok x hx).2
        obtain ⟨z, hz, rfl⟩ := List.mem_map.1 hy
        have := hR.2.2.2.1 z hz
        unfold okE at this
        unfold ltE shE
        dsimp only
        omega
  rw [hH] at hHl ⊢
  refine LoopP.intro (α := Nat) (fun i => i ≤ F.length) (fun i => F.length - i) (fun i => [(5, .s (.b true)), (6, .ptr 1 0), (7, .ptr 3 0), (8, .ptr 5 0), (9, .sl 7 none none), (11, .s (.i .i64 i))])
    (fun i => [(1, some (.blk [.s (.i .i64 m), .sl 2 none none])), (2, some (.flat true 2 (edges F))), (3, some (.blk [.s (.i .i64 m), .sl 4 none none])), (4, some (.flat true 2 (edges D))), (5, some (.blk [.s (.i .i64 m), .sl 6 none none])), (6, some (.flat true 2 (edges D))), (7, some (.flat true 2 (edges (H ++ (F.take i).map shE))))]) 8 0 (by omega) (by refine Weak.by [(1, some _), (2, some _), (3, some _), (4, some _), (5, some _), (6, some _), (7, some _)] (by ((repeat' first | exact rfl | exact trivial | apply And.intro) <;> (repeat' first | exact rfl | exact trivial | apply And.intro)); all_goals ((rw [List.take_zero, List.map_nil, List.append_nil]))) (by ((repeat' first | exact rfl | exact trivial | apply And.intro) <;> (repeat' first | exact rfl | exact trivial | apply And.intro)); all_goals ((rw [List.take_zero, List.map_nil, List.append_nil]))) (by rfl)) ?_
  rintro i hi
  refine Pick.by (fun hc => ?_) (fun hc => ?_)
  · have hlt : i < F.length := by have := of_decide_eq_true hc; rw [edges_length] at this; omega
    obtain ⟨e, he⟩ : ∃ e, F[i] = e := ⟨_, rfl⟩
    have hget : F[i]? = some e := by rw [List.getElem?_eq_getElem hlt, he]
    have hok := hR.2.2.2.1 e (by rw [← he]; exact List.getElem_mem hlt)
    unfold okE at hok
    refine Idx.by i rfl (by rw [edges_length]; exact hlt) ?_
    refine Look.by _ (edges_get hget) ?_
    refine Pick.T (inI64_of (by omega) (by omega)) ?_
    refine Idx.by i rfl (by rw [edges_length]; exact hlt) ?_
    refine Look.by _ (edges_get hget) ?_
    refine Pick.T (inI64_of (by omega) (by omega)) ?_
    have hFi : (H ++ (F.take i).map shE).length ≤ 4003 := by rw [List.length_append, List.length_map, List.length_take]; omega
    refine Pick.T (decide_eq_true (by rw [edges_length]; exact Nat.le_trans (Nat.add_le_add_right hFi _) (by show 4003 + 1 ≤ _; omega))) ?_
    refine Seg.by (by kernel_rfl) ?_
    refine Pick.T (inI64_of (by omega) (by omega)) ?_
    refine Next.by (i + 1) (by omega) (by omega) (by refine Weak.by [(1, some _), (2, some _), (3, some _), (4, some _), (5, some _), (6, some _), (7, some _)] (by ((repeat' first | exact rfl | exact trivial | apply And.intro) <;> (repeat' first | exact rfl | exact trivial | apply And.intro)); all_goals ((rw [List.take_succ_eq_append_getElem hlt, he, List.map_append, ← List.append_assoc, List.map_cons, List.map_nil, edges_snoc]; rfl))) (by ((repeat' first | exact rfl | exact trivial | apply And.intro) <;> (repeat' first | exact rfl | exact trivial | apply And.intro)); all_goals ((rw [List.take_succ_eq_append_getElem hlt, he, List.map_append, ← List.append_assoc, List.map_cons, List.map_nil, edges_snoc]; rfl))) (by rfl))
  have hil : i = F.length := by have := of_decide_eq_false hc; rw [edges_length] at this; omega
  subst hil
  rw [List.take_length]
  have hwl : narrowB (m + 3) (H ++ F.map shE) = false := by
    cases hq : narrowB (m + 3) (H ++ F.map shE) with
    | false => rfl
    | true =>
      have := narrow_wo hRH hRF3 (fun p hp => List.mem_append_right _ hp) hq
      rw [narrow_sh hR (by omega), hn] at this
      cases this
  have hRl := hRH.2.2.1
  refine Pick.T (inI64_of (by omega) (by omega)) ?_
  have hNC := NormC_at (n := m + 3) (l := H ++ F.map shE) (by omega)
  rw [normE_right hRH] at hNC
  refine Call.by _ _ hNC ?_
  have hRW := RestC_at (m + 3) (H ++ F.map shE)
  rw [restF_yes hRH hwl, restK_ahead hRF3 (by rw [narrow_sh hR (by omega), hn]) hRH] at hRW
  have hrs := restK_sh hR (by omega) (K := []) (r := F) (by simp)
  rw [hD] at hrs
  rw [show restK (m + 3) [] (F.map shE) = D.map shE from hrs] at hRW
  refine Call.by _ _ hRW ?_
  have hne : ((((edges (D.map shE)).length : Nat) : Int) != (((edges D).length : Nat) : Int)) = false := by rw [edges_length, edges_length, List.length_map]; simp
  refine Pick.F hne ?_
  refine LoopP.intro (α := Nat) (fun i => i ≤ D.length) (fun i => D.length - i) (fun i => [(5, .s (.b true)), (7, .ptr 0 0), (8, .ptr 2 0), (14, .ptr 4 0), (15, .s (.i .i64 i))])
    (fun i => [(0, some (.blk [.s (.i .i64 m), .sl 1 none none])), (1, some (.flat true 2 (edges D))), (2, some (.blk [.s (.i .i64 m), .sl 3 none none])), (3, some (.flat true 2 (edges D))), (4, some (.blk [.s (.i .i64 (m + 3)), .sl 5 none none])), (5, some (.flat true 2 (edges (D.map shE))))]) 6 0 (by omega) (by refine Weak.by [(0, some _), (1, some _), (2, some _), (3, some _), (4, some _), (5, some _)] (by ((repeat' first | exact rfl | exact trivial | apply And.intro) <;> (repeat' first | exact rfl | exact trivial | apply And.intro))) (by ((repeat' first | exact rfl | exact trivial | apply And.intro) <;> (repeat' first | exact rfl | exact trivial | apply And.intro))) (by rfl)) ?_
  rintro i hi
  refine Pick.by (fun hc => ?_) (fun hc => ?_)
  · have hlt : i < D.length := by have := of_decide_eq_true hc; rw [edges_length, List.length_map] at this; omega
    obtain ⟨e, he⟩ : ∃ e, D[i] = e := ⟨_, rfl⟩
    have hget : D[i]? = some e := by rw [List.getElem?_eq_getElem hlt, he]
    have hget2 : (D.map shE)[i]? = some (shE e) := by rw [List.getElem?_map, hget]; rfl
    have hok := hRD.2.2.2.1 e (by rw [← he]; exact List.getElem_mem hlt)
    unfold okE at hok
    refine Idx.by i rfl (by rw [edges_length, List.length_map]; exact hlt) ?_
    refine Look.by _ (edges_get hget2) ?_
    refine Idx.by i rfl (by rw [edges_length]; exact hlt) ?_
    refine Look.by _ (edges_get hget) ?_
    refine Pick.T (inI64_of (by omega) (by omega)) ?_
    refine Pick.F (by show (e.1 + 3 != e.1 + 3) = false; simp) ?_
    refine Idx.by i rfl (by rw [edges_length, List.length_map]; exact hlt) ?_
    refine Look.by _ (edges_get hget2) ?_
    refine Idx.by i rfl (by rw [edges_length]; exact hlt) ?_
    refine Look.by _ (edges_get hget) ?_
    refine Pick.T (inI64_of (by omega) (by omega)) ?_
    refine Seg.by (by kernel_rfl) ?_
    refine Pick.F (by show (e.2 + 3 != e.2 + 3) = false; simp) ?_
    refine Pick.T (inI64_of (by omega) (by omega)) ?_
    refine Next.by (i + 1) (by omega) (by omega) (by refine Weak.by [(0, some _), (1, some _), (2, some _), (3, some _), (4, some _), (5, some _)] (by ((repeat' first | exact rfl | exact trivial | apply And.intro) <;> (repeat' first | exact rfl | exact trivial | apply And.intro))) (by ((repeat' first | exact rfl | exact trivial | apply And.intro) <;> (repeat' first | exact rfl | exact trivial | apply And.intro))) (by rfl))
  have hS := SameGC_at (n := m) (n' := m) (l := D) (m := D) (by omega)
  rw [decide_eq_true rfl] at hS
  refine Call.by _ _ hS ?_
  exact ⟨rfl, rfl⟩
end Go.Sh

set_option linter.unusedVariables false
set_option linter.unusedSimpArgs false
namespace Go.Sh
open Go.Proofs
/-! ### what is handed in, as data -/
theorem VTy.struct {T : Tab} {t : Nat} {ti : TI} {fs : List (Nat × Nat)} {v : V} (ht : lk T t = some ti) (hk : ti.kind = .struct fs) (h : VTy T t v) : ∃ cs, v = .agg cs ∧ All2 (fun (f : Nat × Nat) c => CTy T f.2 c) fs cs := by
  unfold VTy at h
  rw [ht] at h
  simp only at h
  rw [hk] at h
  exact h
theorem VTy.cell {T : Tab} {t : Nat} {ti : TI} {v : V} (ht : lk T t = some ti) (hk : ∀ fs, ti.kind ≠ .struct fs ∧ ∀ n e, ti.kind ≠ .array n e) (h : VTy T t v) : ∃ c, v = .one c ∧ CTy T t c := by
  unfold VTy at h
  rw [ht] at h
  simp only at h
  cases hq : ti.kind with
  | struct fs => exact absurd hq (hk fs).1
  | array n e => exact absurd hq ((hk []).2 n e)
  | _ => rw [hq] at h; exact h
theorem VTy.array {T : Tab} {t : Nat} {ti : TI} {n e : Nat} {v : V} (ht : lk T t = some ti) (hk : ti.kind = .array n e) (h : VTy T t v) : ∃ cs, v = .agg cs ∧ cs.length = n ∧ ∀ c ∈ cs, CTy T e c := by
  unfold VTy at h
  rw [ht] at h
  simp only at h
  rw [hk] at h
  exact h
theorem ScTy.int {T : Tab} {t : Nat} {ti : TI} {k : IntKind} {x : Sc} (ht : lk T t = some ti) (hk : ti.kind = .int k) (h : ScTy T t x) : ∃ n, x = .i k n ∧ (Lit.int k n).wf = true := by
  unfold ScTy at h
  rw [ht] at h
  simp only at h
  rw [hk] at h
  cases x with
  | i k' n => obtain ⟨rfl, h⟩ := h; exact ⟨n, rfl, h⟩
  | b _ => exact h.elim
theorem CTy.sc {T : Tab} {t : Nat} {c : C} (hs : sliceE T t = none) (h : CTy T t c) : ∃ x, c = .s x ∧ ScTy T t x := by
  unfold CTy at h
  rw [hs] at h
  exact h
theorem CTy.flat {T : Tab} {t e : Nat} {c : C} (hs : sliceE T t = some e) (hs2 : sliceE T e = none) (h : CTy T t c) : ∃ rows, c = .flat false (sizeT T e) rows ∧ FlatTy T e rows := by
  unfold CTy at h
  rw [hs] at h
  simp only at h
  rw [hs2] at h
  exact h
theorem CTy.nest {T : Tab} {t e e2 : Nat} {c : C} (hs : sliceE T t = some e) (hs2 : sliceE T e = some e2) (h : CTy T t c) : ∃ rows, c = .nest false (sizeT T e2) rows ∧ rows.length ≤ maxLen ∧ ∀ fl ∈ rows, FlatTy T e2 fl := by
  unfold CTy at h
  rw [hs] at h
  simp only at h
  rw [hs2] at h
  exact h
theorem i64_wf {n : Int} (h : (Lit.int .i64 n).wf = true) : i64 n := by
  simp [Lit.wf, IntKind.min, IntKind.max, IntKind.signed, IntKind.bits] at h
  exact h
theorem list_ex {α β : Type} {P : α → β → Prop} : ∀ {l : List α}, (∀ x ∈ l, ∃ y, P x y) → ∃ m : List β, All2 P l m := by
  intro l
  induction l with
  | nil => intro _; exact ⟨[], All2.nil⟩
  | cons x l ih =>
    intro h
    obtain ⟨y, hy⟩ := h x (by simp)
    obtain ⟨m, hm⟩ := ih fun x hx => h x (by simp [hx])
    exact ⟨y :: m, All2.cons' hy hm⟩
theorem All2.map_eq {α β : Type} {f : β → α} {l : List α} {m : List β} (h : All2 (fun x y => x = f y) l m) : l = m.map f := by
  apply List.ext_getElem?
  intro i
  rw [List.getElem?_map]
  by_cases hi : i < l.length
  · have him : i < m.length := by rw [← h.1]; exact hi
    rw [List.getElem?_eq_getElem hi, List.getElem?_eq_getElem him, Option.map_some, h.2 i _ _ (List.getElem?_eq_getElem hi) (List.getElem?_eq_getElem him)]
  · rw [List.getElem?_eq_none (by omega), List.getElem?_eq_none (by rw [← h.1]; omega)]; rfl
theorem All2.mem {α β : Type} {R : α → β → Prop} {l : List α} {m : List β} (h : All2 R l m) {y : β} (hy : y ∈ m) : ∃ x ∈ l, R x y := by
  obtain ⟨i, hi⟩ := List.mem_iff_getElem?.1 hy
  have hl := (List.getElem?_eq_some_iff.1 hi).1
  rw [← h.1] at hl
  exact ⟨_, List.getElem_mem hl, h.2 i _ y (List.getElem?_eq_getElem hl) hi⟩
/-! #### at this program's types -/
theorem row_int {row : Row} (h : RowTy T 3 row) : ∃ n, row = [.i .i64 n] ∧ i64 n := by
  obtain ⟨x, rfl, hx⟩ := h
  obtain ⟨n, rfl, hw⟩ := ScTy.int (t := 3) rfl rfl hx
  exact ⟨n, rfl, i64_wf hw⟩
theorem ints_of {fl : Flat} (h : FlatTy T 3 fl) : ∃ l : List Int, fl = ints l ∧ l.length ≤ maxLen ∧ ∀ x ∈ l, i64 x := by
  obtain ⟨m, hm⟩ := list_ex (P := fun row n => row = [Sc.i .i64 n] ∧ i64 n) fun row hr => row_int (h.2 row hr)
  refine ⟨m, All2.map_eq (f := fun n => [Sc.i .i64 n]) (hm.imp fun _ _ _ k => k.1), by rw [← hm.1]; exact h.1, fun x hx => ?_⟩
  obtain ⟨_, _, k⟩ := hm.mem hx
  exact k.2
theorem All2.two {α β : Type} {R : α → β → Prop} {a b : α} {m : List β} (h : All2 R [a, b] m) : ∃ x y, m = [x, y] ∧ R a x ∧ R b y := by
  obtain ⟨h1, h2⟩ := h
  match m, h1, h2 with
  | [x, y], _, h2 => exact ⟨x, y, rfl, h2 0 a x rfl rfl, h2 1 b y rfl rfl⟩
theorem All2.one {α β : Type} {R : α → β → Prop} {a : α} {m : List β} (h : All2 R [a] m) : ∃ x, m = [x] ∧ R a x := by
  obtain ⟨h1, h2⟩ := h
  match m, h1, h2 with
  | [x], _, h2 => exact ⟨x, rfl, h2 0 a x rfl rfl⟩
theorem All2.three {α β : Type} {R : α → β → Prop} {a b c : α} {m : List β} (h : All2 R [a, b, c] m) : ∃ x y z, m = [x, y, z] ∧ R a x ∧ R b y ∧ R c z := by
  obtain ⟨h1, h2⟩ := h
  match m, h1, h2 with
  | [x, y, z], _, h2 => exact ⟨x, y, z, rfl, h2 0 a x rfl rfl, h2 1 b y rfl rfl, h2 2 c z rfl rfl⟩
theorem row_edge {row : Row} (h : RowTy T 59 row) : ∃ p : Ed, row = [.i .i64 p.1, .i .i64 p.2] ∧ i64 p.1 ∧ i64 p.2 := by
  obtain ⟨_, h⟩ := h
  obtain ⟨x, y, rfl, hx, hy⟩ := All2.two h
  obtain ⟨n, rfl, hn⟩ := ScTy.int (t := 3) rfl rfl hx
  obtain ⟨m, rfl, hm⟩ := ScTy.int (t := 3) rfl rfl hy
  exact ⟨(n, m), rfl, i64_wf hn, i64_wf hm⟩
theorem edges_of {fl : Flat} (h : FlatTy T 59 fl) : ∃ E : List Ed, fl = edges E ∧ E.length ≤ maxLen ∧ ∀ p ∈ E, i64 p.1 ∧ i64 p.2 := by
  obtain ⟨m, hm⟩ := list_ex (P := fun row (p : Ed) => row = [Sc.i .i64 p.1, Sc.i .i64 p.2] ∧ i64 p.1 ∧ i64 p.2) fun row hr => row_edge (h.2 row hr)
  refine ⟨m, All2.map_eq (f := fun p : Ed => [Sc.i .i64 p.1, Sc.i .i64 p.2]) (hm.imp fun _ _ _ k => k.1), by rw [← hm.1]; exact h.1, fun x hx => ?_⟩
  obtain ⟨_, _, k⟩ := hm.mem hx
  exact k.2
theorem net_of {v : V} (h : VTy T 24 v) : ∃ n E, v = grV n E ∧ i64 n ∧ ∀ p ∈ E, i64 p.1 ∧ i64 p.2 := by
  obtain ⟨cs, rfl, hcs⟩ := VTy.struct (t := 24) rfl rfl h
  obtain ⟨x, y, rfl, hx, hy⟩ := All2.two hcs
  obtain ⟨z, rfl, hz⟩ := CTy.sc (t := 3) rfl hx
  obtain ⟨n, rfl, hw⟩ := ScTy.int (t := 3) rfl rfl hz
  obtain ⟨rows, rfl, hr⟩ := CTy.flat (t := 22) (e := 59) rfl rfl hy
  obtain ⟨E, rfl, _, hE⟩ := edges_of hr
  exact ⟨n, E, rfl, i64_wf hw, hE⟩
end Go.Sh

set_option linter.unusedVariables false
namespace Go.Sh
open Go.Proofs
theorem own : ownKnob Try.prog.godebug = none := by kernel_rfl
theorem laidOut : laidOutB Try.prog = true := by kernel_rfl
set_option maxRecDepth 100000 in
/-- A law whose function answers true, whatever comes. -/
theorem law_row {s : ChangeSpec} {f : FuncId} {fn : Func} {conds : List PathCond} {apart fresh handsOn : Bool} {ts : List TypeId} {F : List V → Option (V × List V)} (hf : Try.prog.funcs[f]? = some fn) (hin : Try.prog.inits.idxOf? f = none) (hv : s.vars = [])
    (hts : fn.params.toList = ts) (ha : ts.all (argB T) = true) (hr : ts.all (fun t => Try.prog.readableRec t && Nat.blt t Try.prog.types.size) = true) (hres : fn.resultTypes = #[4])
    (hsp : ∀ (H : Type) (ds : List (DataW H)), ds.length = ts.length → (s.fn H ds).results = [.lit (.bool true)] ∧ (s.fn H ds).args = ds ∧ (s.fn H ds).vars = [])
    (hS : SoundP Try.prog f F) (hF : LawV T ts F) (os : Os) (started : os.Started) (H : Type) (enc : TypeId × Value → H) (a : Assume)
    (hw : ∃ (w : World) (tape : Tape) (i : Input), w.os = os ∧ (w.forCall tape i).Shaped Try.checked.prog ∧ i.vars = [] ∧ Input.okWide Try.checked.prog (w.forCall tape i) .any w.heap.size f i ∧
      s.pre6 enc Try.checked.prog fn conds apart (w.forCall tape i).memory i.args ∧ a.holds Try.checked.prog (lone (Frame.enter Try.checked.prog f i.args .normal) [] (w.forCall tape i))) :
    ReturnsInHanded a Try.checked os f .any (s.pre6 enc Try.checked.prog fn conds apart) (s.post enc Try.checked.prog fn apart fresh handsOn false) := by
  refine returnsInHanded_of_change (C := Try.checked) own started hin hf hw ?_
  intro W base args ds gs before hval hW _ _
  refine law_contract (P := Try.prog) (conds := conds) hT laidOut hv hts ha (fun t ht => ?_) hres Try.underlying4 (hsp H) hS hF hval hW
  have := List.all_eq_true.1 hr t ht
  simp only [Bool.and_eq_true] at this
  exact ⟨this.1, Nat.le_of_ble_eq_true this.2⟩
end Go.Sh

set_option linter.unusedVariables false
namespace Go.Sh
open Go.Proofs
/-! ### more of what is handed in, as data -/
theorem ScTy.bool {T : Tab} {t : Nat} {ti : TI} {x : Sc} (ht : lk T t = some ti) (hk : ti.kind = .bool) (h : ScTy T t x) : ∃ b, x = .b b := by
  unfold ScTy at h
  rw [ht] at h
  simp only at h
  rw [hk] at h
  cases x with
  | i k' n => exact h.elim
  | b b => exact ⟨b, rfl⟩
theorem All2.four {α β : Type} {R : α → β → Prop} {a b c d : α} {m : List β} (h : All2 R [a, b, c, d] m) : ∃ x y z t, m = [x, y, z, t] ∧ R a x ∧ R b y ∧ R c z ∧ R d t := by
  obtain ⟨h1, h2⟩ := h
  match m, h1, h2 with
  | [x, y, z, t], _, h2 => exact ⟨x, y, z, t, rfl, h2 0 a x rfl rfl, h2 1 b y rfl rfl, h2 2 c z rfl rfl, h2 3 d t rfl rfl⟩
end Go.Sh

set_option linter.unusedVariables false
namespace Go.Sh
open Go.Proofs
/-! ### three numbers in an array, and four -/
theorem three_of {v : V} (h : VTy T 78 v) : ∃ a b c : Int, v = .agg [.s (.i .i64 a), .s (.i .i64 b), .s (.i .i64 c)] ∧ i64 a ∧ i64 b ∧ i64 c := by
  obtain ⟨cs, rfl, hl, hc⟩ := VTy.array (t := 78) (n := 3) (e := 3) rfl rfl h
  match cs, hl, hc with
  | [x, y, z], _, hc =>
    obtain ⟨p, rfl, hp⟩ := CTy.sc (t := 3) rfl (hc x (by simp))
    obtain ⟨a, rfl, ha⟩ := ScTy.int (t := 3) rfl rfl hp
    obtain ⟨q, rfl, hq⟩ := CTy.sc (t := 3) rfl (hc y (by simp))
    obtain ⟨b, rfl, hb⟩ := ScTy.int (t := 3) rfl rfl hq
    obtain ⟨r, rfl, hr⟩ := CTy.sc (t := 3) rfl (hc z (by simp))
    obtain ⟨c, rfl, hc2⟩ := ScTy.int (t := 3) rfl rfl hr
    exact ⟨a, b, c, rfl, i64_wf ha, i64_wf hb, i64_wf hc2⟩
end Go.Sh
