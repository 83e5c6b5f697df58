/- What the functions answer that the statement reaches. No condition. -/
import Derived.Test.YtcihmgopaadpfaaFn2
import Derived.Test.YtcihmgopaadpfaaRows
set_option linter.unusedVariables false
set_option linter.unusedSimpArgs false
namespace Go.Sh
/-! ### a vertex of two neighbours goes: models stay, and come back -/
theorem MdL.mono {vs : List Nat} {A A' : Nat → Nat → Prop} {c : Nat → Nat} (h : MdL vs A c) (hs : ∀ x y, x ∈ vs → y ∈ vs → A x y → A' x y) : MdL vs A' c :=
  ⟨h.some, fun i hi P hP hcl => h.conn i hi P hP fun x y hx hy ex ey k => hcl x y hx hy ex ey (hs x y hx hy k), fun i j hij hj => by
    obtain ⟨x, y, hx, hy, k, e⟩ := h.meet i j hij hj
    exact ⟨x, y, hx, hy, hs x y hx hy k, e⟩⟩
/-- but for a vertex that is in no set -/
theorem MdL.off {vs vs' : List Nat} {A A' : Nat → Nat → Prop} {c : Nat → Nat} {v : Nat} (h : MdL vs A c) (hc : 4 ≤ c v) (hv : ∀ x, x ≠ v → (x ∈ vs ↔ x ∈ vs')) (hs : ∀ x y, x ≠ v → y ≠ v → A x y → A' x y) : MdL vs' A' c := by
  have ne : ∀ x i, i < 4 → c x = i → x ≠ v := fun x i hi e k => by rw [k] at e; omega
  refine ⟨fun i hi => ?_, fun i hi P hP hcl x hx ex => ?_, fun i j hij hj => ?_⟩
  · obtain ⟨x, hx, e⟩ := h.some i hi
    exact ⟨x, (hv x (ne x i hi e)).1 hx, e⟩
  · obtain ⟨y, hy, ey, hPy⟩ := hP
    exact h.conn i hi P ⟨y, (hv y (ne y i hi ey)).2 hy, ey, hPy⟩ (fun a b ha hb ea eb k => hcl a b ((hv a (ne a i hi ea)).1 ha) ((hv b (ne b i hi eb)).1 hb) ea eb (hs a b (ne a i hi ea) (ne b i hi eb) k)) x ((hv x (ne x i hi ex)).2 hx) ex
  · obtain ⟨x, y, hx, hy, k, ex, ey⟩ := h.meet i j hij hj
    have nx := ne x i (by omega) ex
    have ny := ne y j hj ey
    exact ⟨x, y, (hv x nx).1 hx, (hv y ny).1 hy, hs x y nx ny k, ex, ey⟩
open Classical in
theorem MdL.down {vs vs' : List Nat} {A : Nat → Nat → Prop} (hA : Sm A) {v w : Nat} (hv : v ∈ vs) (hw : w ∈ vs) (hvw : A v w) (hvs : ∀ x, x ∈ vs' ↔ x ∈ vs ∧ x ≠ v) {c : Nat → Nat} (h : MdL vs A c) (hc : c v = c w) : MdL vs' (ctr A v w) c := by
  have hne : w ≠ v := (hA.ne hvw).symm
  have hw' := (hvs w).2 ⟨hw, hne⟩
  refine ⟨fun i hi => ?_, fun i hi P hP hcl x hx ex => ?_, fun i j hij hj => ?_⟩
  · obtain ⟨x, hx, e⟩ := h.some i hi
    by_cases k : x = v
    · subst k; exact ⟨w, hw', by rw [← hc]; exact e⟩
    · exact ⟨x, (hvs x).2 ⟨hx, k⟩, e⟩
  · obtain ⟨hx0, hxv⟩ := (hvs x).1 hx
    obtain ⟨y, hy, ey, hPy⟩ := hP
    obtain ⟨hy0, hyv⟩ := (hvs y).1 hy
    have := h.conn i hi (fun z => if z = v then P w else P z) ⟨y, hy0, ey, by rw [if_neg hyv]; exact hPy⟩ (fun a b ha hb ea eb k hPa => by
      try dsimp only at hPa ⊢
      by_cases e1 : a = v
      · subst e1
        rw [if_pos rfl] at hPa
        have nb : b ≠ a := (hA.ne k).symm
        rw [if_neg nb]
        by_cases e2 : b = w
        · rw [e2]; exact hPa
        · exact hcl w b hw' ((hvs b).2 ⟨hb, nb⟩) (by rw [← hc]; exact ea) eb (.inr (.inl ⟨rfl, k, e2⟩)) hPa
      · rw [if_neg e1] at hPa
        have ha' := (hvs a).2 ⟨ha, e1⟩
        by_cases e2 : b = v
        · subst e2
          rw [if_pos rfl]
          by_cases e3 : a = w
          · rw [← e3]; exact hPa
          · exact hcl a w ha' hw' ea (by rw [← hc]; exact eb) (.inr (.inr ⟨rfl, hA.sym _ _ k, e3⟩)) hPa
        · rw [if_neg e2]
          exact hcl a b ha' ((hvs b).2 ⟨hb, e2⟩) ea eb (.inl k) hPa) x hx0 ex
    try dsimp only at this
    rw [if_neg hxv] at this
    exact this
  · obtain ⟨x, y, hx, hy, k, ex, ey⟩ := h.meet i j hij hj
    by_cases e1 : x = v
    · subst e1
      have ny : y ≠ x := (hA.ne k).symm
      have nw : y ≠ w := fun e => by rw [e] at ey; omega
      exact ⟨w, y, hw', (hvs y).2 ⟨hy, ny⟩, .inr (.inl ⟨rfl, k, nw⟩), by rw [← hc]; exact ex, ey⟩
    · by_cases e2 : y = v
      · subst e2
        have nw : x ≠ w := fun e => by rw [e] at ex; omega
        exact ⟨x, w, (hvs x).2 ⟨hx, e1⟩, hw', .inr (.inr ⟨rfl, hA.sym _ _ k, nw⟩), ex, by rw [← hc]; exact ey⟩
      · exact ⟨x, y, (hvs x).2 ⟨hx, e1⟩, (hvs y).2 ⟨hy, e2⟩, .inl k, ex, ey⟩
structure Red (A A' : Nat → Nat → Prop) (v a b : Nat) (Q : Prop) : Prop where
  nb : ∀ y, A v y → y = a ∨ y = b
  iff : ∀ x y, A' x y ↔ x ≠ v ∧ y ≠ v ∧ (A x y ∨ (Q ∧ ((x = a ∧ y = b) ∨ (x = b ∧ y = a))))
  q1 : Q → A v a ∧ A v b ∧ a ≠ b
  q2 : A v a → A v b → a ≠ b → A a b ∨ Q
theorem Red.swap {A A' : Nat → Nat → Prop} (hA : Sm A) {v a b : Nat} {Q : Prop} (h : Red A A' v a b Q) : Red A A' v b a Q :=
  ⟨fun y k => (h.nb y k).symm, fun x y => (h.iff x y).trans ⟨fun ⟨k1, k2, k3⟩ => ⟨k1, k2, k3.imp id fun ⟨q, k⟩ => ⟨q, k.symm⟩⟩, fun ⟨k1, k2, k3⟩ => ⟨k1, k2, k3.imp id fun ⟨q, k⟩ => ⟨q, k.symm⟩⟩⟩, fun q => ⟨(h.q1 q).2.1, (h.q1 q).1, (h.q1 q).2.2.symm⟩, fun k1 k2 k3 => (h.q2 k2 k1 k3.symm).imp (hA.sym _ _) id⟩
section
variable {vs : List Nat} {A A' : Nat → Nat → Prop} {v a b : Nat} {Q : Prop}
theorem erase_mem (hn : vs.Nodup) (v : Nat) : ∀ x, x ∈ vs.erase v ↔ x ∈ vs ∧ x ≠ v := fun x => by rw [hn.mem_erase_iff]; exact And.comm
theorem Red.back (hA : Sm A) (hn : vs.Nodup) (hv : v ∈ vs) (ha : a ∈ vs) (h : Red A A' v a b Q) {c : Nat → Nat} (hc : MdL vs A' c) : ∃ c, MdL vs A c := by
  have iso : 4 ≤ c v := by
    rcases Nat.lt_or_ge (c v) 4 with hlt | hge
    · exfalso
      have only : ∀ x, x ∈ vs → c x = c v → x = v := hc.conn (c v) hlt (fun x => x = v) ⟨v, hv, rfl, rfl⟩ fun x y _ _ _ _ k e => absurd e ((h.iff x y).1 k).1
      have two : ∀ i j, i < j → j < 4 → i ≠ c v ∧ j ≠ c v := fun i j hij hj => by
        obtain ⟨x, y, hx, hy, k, ex, ey⟩ := hc.meet i j hij hj
        obtain ⟨n1, n2, _⟩ := (h.iff x y).1 k
        exact ⟨fun e => n1 (only x hx (ex.trans e)), fun e => n2 (only y hy (ey.trans e))⟩
      have t1 := two 0 1 (by omega) (by omega)
      have t2 := two 2 3 (by omega) (by omega)
      omega
    · exact hge
  by_cases hQ : Q
  · obtain ⟨k1, k2, k3⟩ := h.q1 hQ
    have h1 : MdL (vs.erase v) (ctr A v a) c := hc.off iso (fun x hx => by rw [erase_mem hn]; exact ⟨fun k => ⟨k, hx⟩, fun k => k.1⟩) fun x y _ _ k => by
      obtain ⟨_, _, k | ⟨_, ⟨e1, e2⟩ | ⟨e1, e2⟩⟩⟩ := (h.iff x y).1 k
      · exact .inl k
      · exact .inr (.inl ⟨e1, by rw [e2]; exact k2, by rw [e2]; exact k3.symm⟩)
      · exact .inr (.inr ⟨e2, by rw [e1]; exact k2, by rw [e1]; exact k3.symm⟩)
    exact ⟨_, h1.lift hA hv ha k1 (erase_mem hn v)⟩
  · exact ⟨c, hc.mono fun x y _ _ k => by
      obtain ⟨_, _, k | ⟨q, _⟩⟩ := (h.iff x y).1 k
      · exact k
      · exact absurd q hQ⟩
theorem Red.go (hA : Sm A) (hn : vs.Nodup) (hv : v ∈ vs) (hin : ∀ x y, A x y → x ∈ vs) (h : Red A A' v a b Q) {c : Nat → Nat} (hc : MdL vs A c) : ∃ c, MdL vs A' c := by
  rcases Nat.lt_or_ge (c v) 4 with hlt | hge
  · have main : ∀ {a b : Nat}, Red A A' v a b Q → A v a → c v = c a → ∃ c, MdL vs A' c := by
      intro a b h kva hca
      have h1 := hc.down hA hv (hin _ _ (hA.sym _ _ kva)) kva (erase_mem hn v) hca
      have h2 : MdL (vs.erase v) A' c := h1.mono fun x y hx hy k => by
        obtain ⟨_, nx⟩ := (erase_mem hn v x).1 hx
        obtain ⟨_, ny⟩ := (erase_mem hn v y).1 hy
        rcases k with k | ⟨e1, k, n⟩ | ⟨e1, k, n⟩
        · exact (h.iff x y).2 ⟨nx, ny, .inl k⟩
        · subst e1
          rcases h.nb y k with e | e
          · exact absurd e n
          · subst e
            refine (h.iff x y).2 ⟨nx, ny, ?_⟩
            rcases h.q2 kva k n.symm with k2 | q
            · exact .inl k2
            · exact .inr ⟨q, .inl ⟨rfl, rfl⟩⟩
        · subst e1
          rcases h.nb x k with e | e
          · exact absurd e n
          · subst e
            refine (h.iff x y).2 ⟨nx, ny, ?_⟩
            rcases h.q2 kva k n.symm with k2 | q
            · exact .inl (hA.sym _ _ k2)
            · exact .inr ⟨q, .inr ⟨rfl, rfl⟩⟩
      exact ⟨_, h2.induced fun x hx => ((erase_mem hn v x).1 hx).1⟩
    by_cases hex : ∃ w, A v w ∧ c v = c w
    · obtain ⟨w, kw, ew⟩ := hex
      rcases h.nb w kw with e | e
      · subst e; exact main h kw ew
      · subst e; exact main (h.swap hA) kw ew
    · exfalso
      have only : ∀ x, x ∈ vs → c x = c v → x = v := hc.conn (c v) hlt (fun x => x = v) ⟨v, hv, rfl, rfl⟩ fun x y _ _ _ ey k e => by
        subst e; exact absurd ⟨y, k, ey.symm⟩ hex
      have nbr : ∀ j, j < 4 → j ≠ c v → ∃ y, A v y ∧ c y = j := fun j hj hne => by
        rcases Nat.lt_or_gt_of_ne hne with hlt2 | hgt
        · obtain ⟨x, y, hx, hy, k, ex, ey⟩ := hc.meet j (c v) hlt2 hlt
          rw [only y hy ey] at k
          exact ⟨x, hA.sym _ _ k, ex⟩
        · obtain ⟨x, y, hx, hy, k, ex, ey⟩ := hc.meet (c v) j hgt hj
          rw [only x hx ex] at k
          exact ⟨y, k, ey⟩
      have col : ∀ j, j < 4 → j ≠ c v → c a = j ∨ c b = j := fun j hj hne => by
        obtain ⟨y, k, e⟩ := nbr j hj hne
        rcases h.nb y k with e2 | e2
        · left; rw [← e2]; exact e
        · right; rw [← e2]; exact e
      by_cases e0 : c v = 0
      · have := col 1 (by omega) (by omega); have := col 2 (by omega) (by omega); have := col 3 (by omega) (by omega); omega
      by_cases e1 : c v = 1
      · have := col 0 (by omega) (by omega); have := col 2 (by omega) (by omega); have := col 3 (by omega) (by omega); omega
      by_cases e2 : c v = 2
      · have := col 0 (by omega) (by omega); have := col 1 (by omega) (by omega); have := col 3 (by omega) (by omega); omega
      · have := col 0 (by omega) (by omega); have := col 1 (by omega) (by omega); have := col 2 (by omega) (by omega); omega
  · exact ⟨c, hc.off hge (fun x _ => Iff.rfl) fun x y nx ny k => (h.iff x y).2 ⟨nx, ny, .inl k⟩⟩
end
/-! #### rows -/
def adjN (N : List (List Int)) (x y : Nat) : Prop := (y : Int) ∈ rowAt N x
def K4 (N : List (List Int)) : Prop := ∃ c, MdL (List.range N.length) (adjN N) c
theorem adjN_sm {N : List (List Int)} {G : List Bool} (h : Wf N G) : Sm (adjN N) := ⟨fun x y k => h.sym x y (by omega) (by omega) k, fun x k => h.irr x (by omega) k⟩
theorem adjN_in {N : List (List Int)} {G : List Bool} (h : Wf N G) (x y : Nat) (k : adjN N x y) : x ∈ List.range N.length := by
  have := (h.rows y).2 x (h.sym x y (by omega) (by omega) k)
  rw [List.mem_range]; omega
theorem step_red {N : List (List Int)} {G : List Bool} (h : Wf N G) {v : Nat} (hm : MayP N G v) : ∃ a b Q, a < N.length ∧ Red (adjN N) (adjN (doN N (stepF N v))) v a b Q := by
  obtain ⟨_, hc⟩ := step_two h hm rfl
  have hrow : ∀ x y : Nat, adjN (doN N (stepF N v)) x y ↔ (x : Int) ≠ v ∧ (((y : Int) ∈ rowAt N x ∧ (y : Int) ≠ v) ∨ ((stepF N v).2.2.2 = true ∧ (((x : Int) = (stepF N v).2.1 ∧ (y : Int) = (stepF N v).2.2.1) ∨ ((x : Int) = (stepF N v).2.2.1 ∧ (y : Int) = (stepF N v).2.1)))) := fun x y => (do_row h hm (by omega)).2 y
  have hv0 := hm.hi
  rcases hc with ⟨hl, _, _, hd⟩ | ⟨a, hl, _, _, hd⟩ | ⟨a, b, hl, hab, ea, eb, hd⟩
  · refine ⟨v, v, False, by omega, ⟨fun y k => ?_, fun x y => ?_, fun q => q.elim, fun k => ?_⟩⟩
    · unfold adjN at k; rw [hl] at k; simp at k
    · rw [hrow, hd]
      unfold adjN
      constructor
      · rintro ⟨n1, ⟨k, n2⟩ | ⟨e, _⟩⟩
        · exact ⟨by omega, by omega, .inl k⟩
        · cases e
      · rintro ⟨n1, n2, k | ⟨q, _⟩⟩
        · exact ⟨by omega, .inl ⟨k, by omega⟩⟩
        · exact q.elim
    · unfold adjN at k; rw [hl] at k; simp at k
  · have har := (h.rows v).2 a (by rw [hl]; simp)
    obtain ⟨a, rfl⟩ : ∃ c : Nat, a = c := ⟨a.toNat, by omega⟩
    refine ⟨a, a, False, by omega, ⟨fun y k => ?_, fun x y => ?_, fun q => q.elim, fun _ _ n => absurd rfl n⟩⟩
    · unfold adjN at k; rw [hl] at k; simp at k; omega
    · rw [hrow, hd]
      unfold adjN
      constructor
      · rintro ⟨n1, ⟨k, n2⟩ | ⟨e, _⟩⟩
        · exact ⟨by omega, by omega, .inl k⟩
        · cases e
      · rintro ⟨n1, n2, k | ⟨q, _⟩⟩
        · exact ⟨by omega, .inl ⟨k, by omega⟩⟩
        · exact q.elim
  · have har := (h.rows v).2 a (by rw [hl]; simp)
    have hbr := (h.rows v).2 b (by rw [hl]; simp)
    have hav : a ≠ v := fun e => h.irr v hm.lo (by rw [hl]; simp [e])
    have hbv : b ≠ v := fun e => h.irr v hm.lo (by rw [hl]; simp [e])
    obtain ⟨a, rfl⟩ : ∃ c : Nat, a = c := ⟨a.toNat, by omega⟩
    obtain ⟨b, rfl⟩ : ∃ c : Nat, b = c := ⟨b.toNat, by omega⟩
    refine ⟨a, b, (stepF N v).2.2.2 = true, by omega, ⟨fun y k => ?_, fun x y => ?_, fun q => ?_, fun _ _ _ => ?_⟩⟩
    · unfold adjN at k; rw [hl] at k; simp at k; omega
    · rw [hrow, ea, eb]
      unfold adjN
      constructor
      · rintro ⟨n1, ⟨k, n2⟩ | ⟨e, ⟨k1, k2⟩ | ⟨k1, k2⟩⟩⟩
        · exact ⟨by omega, by omega, .inl k⟩
        · exact ⟨by omega, by omega, .inr ⟨e, .inl ⟨by omega, by omega⟩⟩⟩
        · exact ⟨by omega, by omega, .inr ⟨e, .inr ⟨by omega, by omega⟩⟩⟩
      · rintro ⟨n1, n2, k | ⟨e, ⟨k1, k2⟩ | ⟨k1, k2⟩⟩⟩
        · exact ⟨by omega, .inl ⟨k, by omega⟩⟩
        · exact ⟨by omega, .inr ⟨e, .inl ⟨by omega, by omega⟩⟩⟩
        · exact ⟨by omega, .inr ⟨e, .inr ⟨by omega, by omega⟩⟩⟩
    · unfold adjN
      rw [hl]
      exact ⟨by simp, by simp, by omega⟩
    · unfold adjN
      rw [hd]
      cases he : (rowAt N a).elem (b : Int) with
      | true => left; simpa using he
      | false => right; rfl
theorem K4_step {N : List (List Int)} {G : List Bool} (h : Wf N G) {v : Int} (hm : MayP N G v) : K4 (doN N (stepF N v)) ↔ K4 N := by
  have h0 := hm.lo
  have h1 := hm.hi
  obtain ⟨v, rfl⟩ : ∃ c : Nat, v = c := ⟨v.toNat, by omega⟩
  obtain ⟨a, b, Q, ha, hr⟩ := step_red h hm
  have hv : v ∈ List.range N.length := List.mem_range.2 (by omega)
  unfold K4
  rw [doN_length]
  exact ⟨fun ⟨c, hc⟩ => hr.back (adjN_sm h) List.nodup_range hv (List.mem_range.2 ha) hc, fun ⟨c, hc⟩ => hr.go (adjN_sm h) List.nodup_range hv (adjN_in h) hc⟩
theorem K4_run {f : Nat} : ∀ {N : List (List Int)} {G : List Bool}, Wf N G → (K4 (runS f N G).2.1 ↔ K4 N) := by
  induction f with
  | zero => intro N G _; exact Iff.rfl
  | succ f ih =>
    intro N G h
    cases hm : firstMay N G with
    | none => rw [runS_end hm]
    | some v =>
      rw [runS_go hm]
      have hp := mayB_iff.1 (firstMay_may hm)
      exact (ih (do_wf h hp)).trans (K4_step h hp)
end Go.Sh

set_option linter.unusedVariables false
set_option linter.unusedSimpArgs false
namespace Go.Sh
/-! ### graphs as rows of bits: what one comes to by deletions and contractions -/
def up1 (v i : Nat) : Nat := if i < v then i else i + 1
def lessX (x v : Nat) : Nat := (x &&& (2 ^ v - 1)) ||| ((x >>> (v + 1)) <<< v)
theorem lessX_bit (x v i : Nat) : (lessX x v).testBit i = x.testBit (up1 v i) := by
  unfold lessX up1
  rw [Nat.testBit_or, Nat.testBit_and, Nat.testBit_two_pow_sub_one, Nat.testBit_shiftLeft, Nat.testBit_shiftRight]
  by_cases h : i < v
  · rw [if_pos h]
    have : ¬ i ≥ v := by omega
    simp [h, this]
  · rw [if_neg h]
    have : i ≥ v := by omega
    simp [h, this]
    congr 1
    omega
def lessL (r : List Nat) (v : Nat) : List Nat := (r.eraseIdx v).map (lessX · v)
def offX (x y : Nat) : Nat := x ^^^ (x &&& y)
def mergeX (r : List Nat) (a b i x : Nat) : Nat := if i = a then offX (r.getD a 0 ||| r.getD b 0) (2 ^ a ||| 2 ^ b) else if x.testBit b then x ||| 2 ^ a else x
def mergeL (r : List Nat) (a b : Nat) : List Nat := (List.range r.length).map fun i => mergeX r a b i (r.getD i 0)
def mergedL (r : List Nat) (a b : Nat) : List Nat := lessL (mergeL r a b) b
def bitL (r : List Nat) (a b : Nat) : Bool := (r.getD a 0).testBit b
theorem lessL_length {r : List Nat} {v : Nat} (h : v < r.length) : (lessL r v).length = r.length - 1 := by
  unfold lessL
  rw [List.length_map, List.length_eraseIdx_of_lt h]
theorem mergeL_length (r : List Nat) (a b : Nat) : (mergeL r a b).length = r.length := by simp [mergeL]
theorem mergedL_length {r : List Nat} {a b : Nat} (h : b < r.length) : (mergedL r a b).length = r.length - 1 := by
  unfold mergedL
  rw [lessL_length (by rw [mergeL_length]; exact h), mergeL_length]
theorem up1_ne (v i : Nat) : up1 v i ≠ v := by unfold up1; split <;> omega
theorem up1_lt {v i n : Nat} (h : i < n - 1) : up1 v i < n := by unfold up1; split <;> omega
def dn1 (v i : Nat) : Nat := if i < v then i else i - 1
theorem up_dn {v i : Nat} (h : i ≠ v) : up1 v (dn1 v i) = i := by
  unfold up1 dn1
  by_cases h1 : i < v
  · rw [if_pos h1, if_pos h1]
  · rw [if_neg h1, if_neg (by omega)]; omega
theorem dn_lt {v i n : Nat} (h : i ≠ v) (hv : v < n) (hi : i < n) : dn1 v i < n - 1 := by unfold dn1; split <;> omega
theorem up_inj {v i j : Nat} (h : up1 v i = up1 v j) : i = j := by unfold up1 at h; split at h <;> split at h <;> omega
theorem lessL_getD (r : List Nat) (v i : Nat) : (lessL r v).getD i 0 = lessX (r.getD (up1 v i) 0) v := by
  have z : lessX 0 v = 0 := by simp [lessX]
  unfold lessL up1
  rw [List.getD_eq_getElem?_getD, List.getElem?_map, List.getElem?_eraseIdx, List.getD_eq_getElem?_getD]
  split
  · cases r[i]? with
    | none => simp [z]
    | some x => simp
  · cases r[i + 1]? with
    | none => simp [z]
    | some x => simp
theorem bit_less (r : List Nat) (v i j : Nat) : bitL (lessL r v) i j = bitL r (up1 v i) (up1 v j) := by
  unfold bitL
  rw [lessL_getD, lessX_bit]
/-- rows of bits of a graph -/
structure Sq (r : List Nat) : Prop where
  bnd : ∀ a b, bitL r a b = true → b < r.length
  sym : ∀ a b, bitL r a b = true → bitL r b a = true
  irr : ∀ a, bitL r a a = false
theorem Sq.lt {r : List Nat} (h : Sq r) {a b : Nat} (hb : bitL r a b = true) : a < r.length := h.bnd _ _ (h.sym _ _ hb)
theorem off_bit (x y j : Nat) : (offX x y).testBit j = (x.testBit j && !y.testBit j) := by
  unfold offX
  rw [Nat.testBit_xor, Nat.testBit_and]
  cases x.testBit j <;> cases y.testBit j <;> rfl
theorem off2_bit (x a b j : Nat) : (offX x (2 ^ a ||| 2 ^ b)).testBit j = true ↔ x.testBit j = true ∧ j ≠ a ∧ j ≠ b := by
  rw [off_bit, Nat.testBit_or, Nat.testBit_two_pow, Nat.testBit_two_pow]
  simp only [Bool.and_eq_true, Bool.not_eq_true', Bool.or_eq_false_iff, decide_eq_false_iff_not]
  constructor
  · rintro ⟨h1, h2, h3⟩; exact ⟨h1, fun e => h2 e.symm, fun e => h3 e.symm⟩
  · rintro ⟨h1, h2, h3⟩; exact ⟨h1, fun e => h2 e.symm, fun e => h3 e.symm⟩
theorem mergeL_getD (r : List Nat) (a b i : Nat) (h : i < r.length) : (mergeL r a b).getD i 0 = mergeX r a b i (r.getD i 0) := by
  unfold mergeL
  rw [List.getD_eq_getElem?_getD, List.getElem?_map, List.getElem?_range h]; rfl
theorem getD_out {r : List Nat} {i : Nat} (h : ¬ i < r.length) : r.getD i 0 = 0 := by
  rw [List.getD_eq_getElem?_getD, List.getElem?_eq_none (by omega)]; rfl
theorem bit_merge {r : List Nat} {a b i j : Nat} (h : i < r.length) : bitL (mergeL r a b) i j = true ↔ (i = a ∧ (bitL r a j = true ∨ bitL r b j = true) ∧ j ≠ a ∧ j ≠ b) ∨ (i ≠ a ∧ (bitL r i j = true ∨ (bitL r i b = true ∧ j = a))) := by
  unfold bitL
  rw [mergeL_getD _ _ _ _ h]
  unfold mergeX
  by_cases ha : i = a
  · rw [if_pos ha, off2_bit, Nat.testBit_or]
    simp [ha]
  · rw [if_neg ha]
    split
    · rename_i hb
      rw [Nat.testBit_or, Nat.testBit_two_pow]
      simp only [Bool.or_eq_true, decide_eq_true_eq, ha, false_and, false_or, not_false_eq_true, true_and, hb, ne_eq]
      constructor
      · rintro (h | h)
        · exact .inl h
        · exact .inr h.symm
      · rintro (h | h)
        · exact .inl h
        · exact .inr h.symm
    · rename_i hb
      constructor
      · intro h2; exact .inr ⟨ha, .inl h2⟩
      · rintro (⟨h2, _⟩ | ⟨_, h2 | ⟨h2, _⟩⟩)
        · exact absurd h2 ha
        · exact h2
        · exact absurd h2 hb
/-- neighbours, when b has become a -/
def mAdj (r : List Nat) (a b x y : Nat) : Prop := (x = a ∧ (bitL r a y = true ∨ bitL r b y = true) ∧ y ≠ a ∧ y ≠ b) ∨ (x ≠ a ∧ (bitL r x y = true ∨ (bitL r x b = true ∧ y = a)))
theorem bit_merged {r : List Nat} {a b i j : Nat} (h : i < r.length - 1) : bitL (mergedL r a b) i j = true ↔ mAdj r a b (up1 b i) (up1 b j) := by
  unfold mergedL
  rw [bit_less, bit_merge (up1_lt h)]; rfl
theorem bit_len {r : List Nat} {a b : Nat} (h : bitL r a b = true) : a < r.length := by
  apply Classical.byContradiction
  intro hn
  unfold bitL at h
  rw [getD_out hn] at h
  simp at h
theorem Sq.less {r : List Nat} (h : Sq r) {v : Nat} (hv : v < r.length) : Sq (lessL r v) := by
  refine ⟨fun a b hb => ?_, fun a b hb => ?_, fun a => ?_⟩
  · rw [bit_less] at hb
    have := h.bnd _ _ hb
    rw [lessL_length hv]
    unfold up1 at this
    split at this <;> omega
  · rw [bit_less] at hb ⊢; exact h.sym _ _ hb
  · rw [bit_less]; exact h.irr _
theorem Sq.merged {r : List Nat} (h : Sq r) {a b : Nat} (ha : a < b) (hb : b < r.length) : Sq (mergedL r a b) := by
  have hl := mergedL_length (a := a) hb
  have key : ∀ i j, bitL (mergedL r a b) i j = true → i < r.length - 1 ∧ mAdj r a b (up1 b i) (up1 b j) := fun i j hij => by
    have hi := bit_len hij
    rw [hl] at hi
    exact ⟨hi, (bit_merged hi).1 hij⟩
  have sm : ∀ x y, x ≠ b → y ≠ b → mAdj r a b x y → mAdj r a b y x := fun x y hx hy hm => by
    rcases hm with ⟨rfl, h1, h2, h3⟩ | ⟨h1, h2⟩
    · refine .inr ⟨h2, ?_⟩
      rcases h1 with h1 | h1
      · exact .inl (h.sym _ _ h1)
      · exact .inr ⟨h.sym _ _ h1, rfl⟩
    · by_cases e : y = a
      · subst e
        refine .inl ⟨rfl, ?_, h1, hx⟩
        rcases h2 with h2 | ⟨h2, _⟩
        · exact .inl (h.sym _ _ h2)
        · exact .inr (h.sym _ _ h2)
      · refine .inr ⟨e, .inl ?_⟩
        rcases h2 with h2 | ⟨_, h2⟩
        · exact h.sym _ _ h2
        · exact absurd h2 e
  have bd : ∀ i j, mAdj r a b (up1 b i) (up1 b j) → j < r.length - 1 := fun i j hm => by
    have : up1 b j < r.length := by
      rcases hm with ⟨_, h1 | h1, _⟩ | ⟨_, h1 | ⟨_, h1⟩⟩
      · exact h.bnd _ _ h1
      · exact h.bnd _ _ h1
      · exact h.bnd _ _ h1
      · omega
    unfold up1 at this
    split at this <;> omega
  refine ⟨fun i j hij => ?_, fun i j hij => ?_, fun i => ?_⟩
  · rw [hl]; exact bd _ _ (key _ _ hij).2
  · obtain ⟨hi, hm⟩ := key _ _ hij
    exact (bit_merged (bd _ _ hm)).2 (sm _ _ (up1_ne _ _) (up1_ne _ _) hm)
  · cases hc : bitL (mergedL r a b) i i with
    | false => rfl
    | true =>
      obtain ⟨hi, hm⟩ := key _ _ hc
      rcases hm with ⟨h1, _, h2, _⟩ | ⟨h1, h2 | ⟨_, h2⟩⟩
      · exact absurd h1 h2
      · rw [h.irr] at h2; cases h2
      · exact absurd h2 h1
/-- a model, as colours of the vertices: each colour below m is there, hangs together, and those of the pattern's pairs touch -/
structure Mod (r : List Nat) (m : Nat) (pat : List (Nat × Nat)) (c : Nat → Nat) : Prop where
  some : ∀ i, i < m → ∃ x, x < r.length ∧ c x = i
  conn : ∀ i, i < m → ∀ P : Nat → Prop, (∃ x, x < r.length ∧ c x = i ∧ P x) → (∀ x y, c x = i → c y = i → bitL r x y = true → P x → P y) → ∀ x, x < r.length → c x = i → P x
  meet : ∀ q ∈ pat, ∃ x y, bitL r x y = true ∧ c x = q.1 ∧ c y = q.2
theorem Mod.less {r : List Nat} {m : Nat} {pat : List (Nat × Nat)} {c : Nat → Nat} (h : Mod r m pat c) (hp : ∀ q ∈ pat, q.1 < m ∧ q.2 < m ∧ q.1 ≠ q.2) {v : Nat} (hv : v < r.length) (hc : m ≤ c v) : Mod (lessL r v) m pat fun i => c (up1 v i) := by
  have hl := lessL_length hv
  refine ⟨fun i hi => ?_, fun i hi P hP hcl x hx hcx => ?_, fun q hq => ?_⟩
  · obtain ⟨x, h1, h2⟩ := h.some i hi
    have hx : x ≠ v := fun e => by subst e; omega
    exact ⟨dn1 v x, by rw [hl]; exact dn_lt hx hv h1, by rw [up_dn hx]; exact h2⟩
  · have := h.conn i hi (fun x => ∃ y, up1 v y = x ∧ P y) ?_ ?_ (up1 v x) (by rw [hl] at hx; exact up1_lt hx) hcx
    · obtain ⟨y, h1, h2⟩ := this
      rw [← up_inj h1]; exact h2
    · obtain ⟨x, h1, h2, h3⟩ := hP
      exact ⟨up1 v x, by rw [hl] at h1; exact up1_lt h1, h2, x, rfl, h3⟩
    · rintro x y cx cy hb ⟨x', rfl, hPx⟩
      have hy : y ≠ v := fun e => by subst e; omega
      refine ⟨dn1 v y, up_dn hy, hcl x' _ cx (by rw [up_dn hy]; exact cy) ?_ hPx⟩
      rw [bit_less, up_dn hy]; exact hb
  · obtain ⟨x, y, h1, h2, h3⟩ := h.meet q hq
    have hx : x ≠ v := fun e => by subst e; have := hp q hq; omega
    have hy : y ≠ v := fun e => by subst e; have := hp q hq; omega
    exact ⟨dn1 v x, dn1 v y, by rw [bit_less, up_dn hx, up_dn hy]; exact h1, by rw [up_dn hx]; exact h2, by rw [up_dn hy]; exact h3⟩
/-- where a vertex goes, when b becomes a -/
def toM (a b x : Nat) : Nat := if x = b then a else dn1 b x
theorem Mod.merged {r : List Nat} {m : Nat} {pat : List (Nat × Nat)} {c : Nat → Nat} (hs : Sq r) (h : Mod r m pat c) (hp : ∀ q ∈ pat, q.1 < m ∧ q.2 < m ∧ q.1 ≠ q.2) {a b : Nat} (ha : a < b) (hb : b < r.length) (hc : c a = c b) : Mod (mergedL r a b) m pat fun i => c (up1 b i) := by
  have hl := mergedL_length (a := a) hb
  have up_a : up1 b a = a := by unfold up1; rw [if_pos ha]
  have cT : ∀ x, c (up1 b (toM a b x)) = c x := fun x => by
    unfold toM
    split
    · rename_i e; rw [up_a, e, hc]
    · rename_i e; rw [up_dn e]
  have lT : ∀ x, x < r.length → toM a b x < r.length - 1 := fun x hx => by
    unfold toM
    split
    · omega
    · rename_i e; exact dn_lt e hb hx
  have uT : ∀ x, toM a b (up1 b x) = x := fun x => by
    unfold toM
    rw [if_neg (up1_ne _ _)]
    exact up_inj (up_dn (up1_ne _ _))
  have bT : ∀ x y, bitL r x y = true → toM a b x = toM a b y ∨ bitL (mergedL r a b) (toM a b x) (toM a b y) = true := fun x y hxy => by
    by_cases e : toM a b x = toM a b y
    · exact .inl e
    refine .inr ((bit_merged (lT x (hs.lt hxy))).2 ?_)
    by_cases hx : x = b
    · subst hx
      have ex : up1 x (toM a x x) = a := by unfold toM; rw [if_pos rfl, up_a]
      have hy : y ≠ x := fun h => e (by rw [h])
      have ey : up1 x (toM a x y) = y := by unfold toM; rw [if_neg hy, up_dn hy]
      rw [ex, ey]
      refine .inl ⟨rfl, .inr hxy, fun h => e ?_, hy⟩
      have : up1 x (toM a x x) = up1 x (toM a x y) := by rw [ex, ey, h]
      exact up_inj this
    · have ex : up1 b (toM a b x) = x := by unfold toM; rw [if_neg hx, up_dn hx]
      by_cases hy : y = b
      · subst hy
        have ey : up1 y (toM a y y) = a := by unfold toM; rw [if_pos rfl, up_a]
        rw [ex, ey]
        refine .inr ⟨fun h => e ?_, .inr ⟨hxy, rfl⟩⟩
        have : up1 y (toM a y x) = up1 y (toM a y y) := by rw [ex, ey, h]
        exact up_inj this
      · have ey : up1 b (toM a b y) = y := by unfold toM; rw [if_neg hy, up_dn hy]
        rw [ex, ey]
        by_cases hxa : x = a
        · subst hxa
          refine .inl ⟨rfl, .inl hxy, fun h => ?_, hy⟩
          rw [h, hs.irr] at hxy; cases hxy
        · exact .inr ⟨hxa, .inl hxy⟩
  refine ⟨fun i hi => ?_, fun i hi P hP hcl x hx hcx => ?_, fun q hq => ?_⟩
  · obtain ⟨x, h1, h2⟩ := h.some i hi
    exact ⟨toM a b x, by rw [hl]; exact lT x h1, by rw [cT]; exact h2⟩
  · have := h.conn i hi (fun x => P (toM a b x)) ?_ ?_ (up1 b x) (by rw [hl] at hx; exact up1_lt hx) hcx
    · rwa [uT] at this
    · obtain ⟨x, h1, h2, h3⟩ := hP
      exact ⟨up1 b x, by rw [hl] at h1; exact up1_lt h1, h2, by rw [uT]; exact h3⟩
    · intro x y cx cy hxy hPx
      rcases bT x y hxy with e | e
      · rw [← e]; exact hPx
      · exact hcl _ _ (by rw [cT]; exact cx) (by rw [cT]; exact cy) e hPx
  · obtain ⟨x, y, h1, h2, h3⟩ := h.meet q hq
    rcases bT x y h1 with e | e
    · exfalso
      have := cT x
      rw [e, cT, h2, h3] at this
      exact (hp q hq).2.2 this.symm
    · exact ⟨_, _, e, by rw [cT]; exact h2, by rw [cT]; exact h3⟩
/-! #### rows of a graph -/
theorem adjE_range {n : Int} {E : List Ed} (h : ∀ x ∈ E, okE n x) {a b : Int} (ha : adjE E a b) : 0 ≤ a ∧ a < n ∧ 0 ≤ b ∧ b < n ∧ a ≠ b := by
  rcases ha with ha | ha
  · obtain ⟨h1, h2, h3⟩ := h _ ha
    dsimp only at h1 h2 h3; omega
  · obtain ⟨h1, h2, h3⟩ := h _ ha
    dsimp only at h1 h2 h3; omega
end Go.Sh

set_option linter.unusedVariables false
set_option linter.unusedSimpArgs false
namespace Go.Sh
/-! ### narrow: there is no model of the complete graph of four -/
theorem Core.K4 {N : List (List Int)} {G : List Bool} (h : Core N G) : K4 N ↔ leftF G ≠ [] := by
  constructor
  · rintro ⟨c, hc⟩ e
    obtain ⟨x, y, hx, hy, k, _⟩ := hc.meet 0 1 (by omega) (by omega)
    rw [List.mem_range] at hx
    have : (x : Int) ∈ leftF G := mem_leftF.2 ⟨by omega, by rw [h.wf.len]; omega, by
      cases hg : goneAt G (x : Int) with
      | false => rfl
      | true => unfold adjN at k; rw [h.wf.gone x (by omega) hg] at k; simp at k⟩
    rw [e] at this; simp at this
  · intro hne
    let vs := (List.range N.length).filter fun (x : Nat) => !goneAt G (x : Int)
    have hvs : ∀ x, x ∈ vs ↔ x < N.length ∧ goneAt G (x : Int) = false := fun x => by
      rw [List.mem_filter, List.mem_range]; simp
    have h0 : vs ≠ [] := by
      obtain ⟨v, hv⟩ := List.exists_mem_of_ne_nil _ hne
      obtain ⟨a0, a1, a2⟩ := mem_leftF.1 hv
      intro e
      have : v.toNat ∈ vs := (hvs _).2 ⟨by rw [h.wf.len] at a1; omega, by rw [Int.toNat_of_nonneg a0]; exact a2⟩
      rw [e] at this; simp at this
    have hd : ∀ x, x ∈ vs → D3 vs (adjN N) x := fun x hx => by
      obtain ⟨x1, x2⟩ := (hvs x).1 hx
      have h3 := h.three (v := (x : Int)) (by omega) (by omega) x2
      have hs := (h.wf.rows (x : Int)).1
      have hin : ∀ y, y ∈ rowAt N x → y.toNat ∈ vs ∧ adjN N x y.toNat := fun y hy => by
        obtain ⟨y0, y1, y2⟩ := near_there h.wf (by omega) hy
        exact ⟨(hvs _).2 ⟨by omega, by rw [Int.toNat_of_nonneg y0]; exact y2⟩, by unfold adjN; rw [Int.toNat_of_nonneg y0]; exact hy⟩
      have hr0 := fun y hy => (near_there h.wf (show (0 : Int) ≤ x by omega) (x := y) hy).1
      match hrow : rowAt N x, h3 with
      | a :: b :: c :: l, _ =>
        rw [hrow] at hs hin hr0
        simp only [List.pairwise_cons] at hs
        have ab := hs.1 b (by simp)
        have ac := hs.1 c (by simp)
        have bc := hs.2.1 c (by simp)
        have a0 := hr0 a (by simp)
        obtain ⟨m1, k1⟩ := hin a (by simp)
        obtain ⟨m2, k2⟩ := hin b (by simp)
        obtain ⟨m3, k3⟩ := hin c (by simp)
        exact ⟨_, _, _, m1, m2, m3, by omega, by omega, by omega, k1, k2, k3⟩
      | [], h3 => simp at h3
      | [_], h3 => simp at h3
      | [_, _], h3 => simp at h3
    obtain ⟨c, hc⟩ := dirac (adjN_sm h.wf) (List.nodup_range.sublist List.filter_sublist) hd h0
    exact ⟨_, hc.induced fun x hx => List.mem_range.2 ((hvs x).1 hx).1⟩
theorem narrow_K4 {n : Int} {E : List Ed} (hR : RightP n E) : narrowB n E = true ↔ ¬ K4 (nbrs n.toNat E) := by
  obtain ⟨hC, _, _⟩ := core_run hR
  have h1 : K4 (runR n E).2.1 ↔ K4 (nbrs n.toNat E) := K4_run (begin_wf hR)
  have hrun : runO n E = ((runR n E).1, leftF (runR n E).2.2, edgesF (runR n E).2.1 (runR n E).2.2) := if_pos hR
  unfold narrowB
  rw [decide_eq_true hR, Bool.true_and, decide_eq_true_eq, hrun, ← h1, hC.K4]
  simp
/-! #### models of sets, and rows of bits -/
theorem nbrs_adj {n : Int} {E : List Ed} (hR : RightP n E) (x y : Nat) : adjN (nbrs n.toNat E) x y ↔ adjE E x y := by
  unfold adjN
  by_cases hx : (x : Int) < n.toNat
  · rw [nbrs_row (by omega) hx, mem_nearL]
  · rw [rowAt_out (by rw [nbrs_length]; omega)]
    constructor
    · intro h; simp at h
    · intro h
      have := adjE_range (fun p hp => hR.2.2.2.1 p hp) h
      omega
end Go.Sh

set_option linter.unusedVariables false
set_option linter.unusedSimpArgs false
namespace Go.Sh
/-! ### a run's bags are bags -/
theorem RunL.pos {n : Int} {L : List Stp} (h : RunL n L) {v : Int} (h0 : 0 ≤ v) (h1 : v < n) : posV L v < L.length ∧ (stepAt L (posV L v)).1 = v := by
  obtain ⟨s, hs, e⟩ := h.all v h0 h1
  obtain ⟨k, hk⟩ := List.getElem?_of_mem hs
  have hkl := (List.getElem?_eq_some_iff.1 hk).1
  have ht : stepAt L k = s := by have := stepAt_get hkl; rw [hk] at this; injection this with this; exact this.symm
  have := posV_at h hkl
  rw [ht, e] at this
  rw [this, ht]
  exact ⟨hkl, e⟩
end Go.Sh

set_option linter.unusedVariables false
set_option linter.unusedSimpArgs false
namespace Go.Sh
/-! ### a graph that has bags has no model of the complete graph of four -/
inductive Pth (U : List Int) (Q : Nat → Prop) : Nat → Nat → Prop
  | refl {i : Nat} (h : Q i) : Pth U Q i i
  | step {i k j : Nat} (h : Q i) (hu : upAt U i = k) (hk : i < k) (r : Pth U Q k j) : Pth U Q i j
theorem Pth.le {U : List Int} {Q : Nat → Prop} {i j : Nat} (h : Pth U Q i j) : i ≤ j := by
  induction h with
  | refl _ => exact Nat.le_refl _
  | step _ _ hk _ ih => omega
theorem Pth.head {U : List Int} {Q : Nat → Prop} {i j : Nat} (h : Pth U Q i j) : Q i := by
  cases h with
  | refl h => exact h
  | step h _ _ _ => exact h
theorem Pth.mono {U : List Int} {Q Q' : Nat → Prop} {i j : Nat} (h : Pth U Q i j) (hq : ∀ t, Q t → Q' t) : Pth U Q' i j := by
  induction h with
  | refl h => exact .refl (hq _ h)
  | step h hu hk _ ih => exact .step (hq _ h) hu hk ih
theorem Pth.trans {U : List Int} {Q : Nat → Prop} {i j k : Nat} (h : Pth U Q i j) (h2 : Pth U Q j k) : Pth U Q i k := by
  induction h with
  | refl _ => exact h2
  | step h hu hk _ ih => exact .step h hu hk (ih h2)
theorem Pth.meets {U : List Int} {Q Q' : Nat → Prop} {i j k : Nat} (h : Pth U Q i j) (h2 : Pth U Q' i k) (hjk : j ≤ k) : Pth U Q' j k := by
  induction h with
  | refl _ => exact h2
  | @step a b d ha hu hk r ih =>
    cases h2 with
    | refl _ => have := r.le; omega
    | @step _ b' _ hb hu' hk' r' =>
      obtain rfl : b = b' := by omega
      exact ih r' hjk
theorem exists_top {P : Nat → Prop} : ∀ b : Nat, (∃ k, P k) → (∀ k, P k → k < b) → ∃ k, P k ∧ ∀ j, P j → j ≤ k := by
  intro b
  induction b with
  | zero => rintro ⟨k, h⟩ hb; have := hb k h; omega
  | succ b ih =>
    intro he hb
    by_cases h : P b
    · exact ⟨b, h, fun j hj => by have := hb j hj; omega⟩
    · exact ih he fun k hk => by
        have := hb k hk
        rcases Nat.lt_or_ge k b with h1 | h1
        · exact h1
        · obtain rfl : k = b := by omega
          exact absurd hk h
theorem countP_two {p : Nat → Bool} {n i j : Nat} (h : (List.range n).countP p = 1) (hi : i < n) (hj : j < n) (pi : p i = true) (pj : p j = true) : i = j := by
  rw [List.countP_eq_length_filter] at h
  obtain ⟨a, ha⟩ := List.length_eq_one_iff.1 h
  have h1 : i ∈ (List.range n).filter p := List.mem_filter.2 ⟨List.mem_range.2 hi, pi⟩
  have h2 : j ∈ (List.range n).filter p := List.mem_filter.2 ⟨List.mem_range.2 hj, pj⟩
  rw [ha] at h1 h2
  simp at h1 h2
  omega
theorem countP_ex {p : Nat → Bool} {n : Nat} (h : (List.range n).countP p = 1) : ∃ i, i < n ∧ p i = true := by
  rw [List.countP_eq_length_filter] at h
  obtain ⟨a, ha⟩ := List.length_eq_one_iff.1 h
  have : a ∈ (List.range n).filter p := by rw [ha]; simp
  obtain ⟨h1, h2⟩ := List.mem_filter.1 this
  exact ⟨a, List.mem_range.1 h1, h2⟩
theorem bag_lt {S : List (List Int)} {i : Nat} {x : Int} (h : x ∈ bagAt S i) : i < S.length := by
  rcases Nat.lt_or_ge i S.length with k | k
  · exact k
  · unfold bagAt at h
    rw [List.getD_eq_getElem?_getD, List.getElem?_eq_none k] at h
    simp at h
theorem headB_mem {S : List (List Int)} {U : List Int} {i : Nat} {v : Int} (h : headB S U i v = true) : v ∈ bagAt S i := by
  unfold headB at h
  rw [Bool.and_eq_true] at h
  simpa using h.1
theorem bags_path {n : Int} {S : List (List Int)} {U : List Int} (hs : setsP n S U) {v : Int} (hc : cntH S U v = 1) {h : Nat} (hh : h < S.length ∧ headB S U h v = true) : ∀ d i : Nat, S.length - i ≤ d → v ∈ bagAt S i → Pth U (fun t => v ∈ bagAt S t) i h := by
  intro d
  induction d with
  | zero => intro i hd hv; have := bag_lt hv; omega
  | succ d ih =>
    intro i hd hv
    have hi := bag_lt hv
    cases hb : headB S U i v with
    | true =>
      have := countP_two hc hi hh.1 hb hh.2
      subst this
      exact .refl hv
    | false =>
      unfold headB at hb
      rw [show (bagAt S i).elem v = true by simpa using hv, Bool.true_and, Bool.or_eq_false_iff, decide_eq_false_iff_not] at hb
      obtain ⟨h1, h2⟩ := hb
      rcases (hs.2 i hi).2 with e | ⟨e1, e2⟩
      · omega
      · obtain ⟨k, hk⟩ : ∃ k : Nat, upAt U i = k := ⟨(upAt U i).toNat, by omega⟩
        rw [hk, Int.toNat_natCast] at h2
        have hvk : v ∈ bagAt S k := by simpa using h2
        exact .step hv hk (by omega) (ih k (by omega) hvk)
theorem bag_noK4 {n : Int} {E : List Ed} {S : List (List Int)} {U : List Int} (hB : BagP n E S U) : ¬ K4 (nbrs n.toNat E) := by
  rintro ⟨c, hm⟩
  obtain ⟨hR, hs, hcnt, hmet⟩ := hB
  rw [nbrs_length] at hm
  have hn0 := hR.1
  -- the top of each vertex
  have htop : ∀ x : Nat, ∃ h, x < n.toNat → (h < S.length ∧ headB S U h x = true) := fun x => by
    by_cases hx : x < n.toNat
    · obtain ⟨h, h1, h2⟩ := countP_ex (hcnt x (by omega))
      exact ⟨h, fun _ => ⟨h1, h2⟩⟩
    · exact ⟨0, fun h => absurd h hx⟩
  obtain ⟨hd, hhd⟩ : ∃ hd : Nat → Nat, ∀ x, x < n.toNat → (hd x < S.length ∧ headB S U (hd x) x = true) := ⟨fun x => Classical.choose (htop x), fun x => Classical.choose_spec (htop x)⟩
  have hpath : ∀ (x i : Nat), x < n.toNat → (x : Int) ∈ bagAt S i → Pth U (fun t => (x : Int) ∈ bagAt S t) i (hd x) := fun x i hx hi => bags_path hs (hcnt x (by omega)) (hhd x hx) _ i (Nat.le_refl _) hi
  have hboth : ∀ x y : Nat, adjN (nbrs n.toNat E) x y → ∃ b, (x : Int) ∈ bagAt S b ∧ (y : Int) ∈ bagAt S b := fun x y hA => by
    have hA := (nbrs_adj hR x y).1 hA
    have : ∀ p ∈ E, ∃ b, p.1 ∈ bagAt S b ∧ p.2 ∈ bagAt S b := fun p hp => by
      have h1 := hmet p hp
      unfold metB at h1
      rw [List.any_eq_true] at h1
      obtain ⟨l, hl, h2⟩ := h1
      rw [Bool.and_eq_true] at h2
      obtain ⟨b, hb⟩ := List.getElem?_of_mem hl
      have hbl := (List.getElem?_eq_some_iff.1 hb).1
      have := bagAt_get hbl
      rw [hb] at this
      injection this with this
      exact ⟨b, by rw [← this]; simpa using h2.1, by rw [← this]; simpa using h2.2⟩
    rcases hA with h | h
    · exact this _ h
    · obtain ⟨b, h1, h2⟩ := this _ h
      exact ⟨b, h2, h1⟩
  let CQ : Nat → Nat → Prop := fun i t => ∃ x : Nat, x < n.toNat ∧ c x = i ∧ (x : Int) ∈ bagAt S t
  -- the top of each colour
  have hH : ∀ i, ∃ H, i < 4 → (∃ x, x < n.toNat ∧ c x = i ∧ hd x = H) ∧ ∀ y, y < n.toNat → c y = i → hd y ≤ H := fun i => by
    by_cases hi : i < 4
    · obtain ⟨x, hx, hcx⟩ := hm.some i hi
      obtain ⟨H, ⟨y, h1, h2, h3⟩, h4⟩ := exists_top (P := fun k => ∃ x, x < n.toNat ∧ c x = i ∧ hd x = k) S.length ⟨_, x, List.mem_range.1 hx, hcx, rfl⟩ (fun k ⟨y, h1, _, h3⟩ => by rw [← h3]; exact (hhd y h1).1)
      exact ⟨H, fun _ => ⟨⟨y, h1, h2, h3⟩, fun z hz hcz => h4 _ ⟨z, hz, hcz, rfl⟩⟩⟩
    · exact ⟨0, fun h => absurd h hi⟩
  obtain ⟨H, hHs⟩ : ∃ H : Nat → Nat, ∀ i, i < 4 → (∃ x, x < n.toNat ∧ c x = i ∧ hd x = H i) ∧ ∀ y, y < n.toNat → c y = i → hd y ≤ H i := ⟨fun i => Classical.choose (hH i), fun i => Classical.choose_spec (hH i)⟩
  have hgood : ∀ i, i < 4 → ∀ x, x < n.toNat → c x = i → Pth U (CQ i) (hd x) (H i) := fun i hi x hx hcx => by
    obtain ⟨⟨x0, a1, a2, a3⟩, htp⟩ := hHs i hi
    refine hm.conn i hi (fun x => Pth U (CQ i) (hd x) (H i)) ⟨x0, List.mem_range.2 a1, a2, ?_⟩ (fun x y hx hy hcx hcy hA hP => ?_) x (List.mem_range.2 hx) hcx
    · rw [a3]
      exact .refl ⟨x0, a1, a2, by rw [← a3]; exact headB_mem (hhd x0 a1).2⟩
    · rw [List.mem_range] at hx hy
      obtain ⟨b, b1, b2⟩ := hboth x y hA
      have px := hpath x b hx b1
      have py := hpath y b hy b2
      have qx : ∀ t, (x : Int) ∈ bagAt S t → CQ i t := fun t ht => ⟨x, hx, hcx, ht⟩
      rcases Nat.le_total (hd y) (hd x) with h | h
      · exact ((py.meets px h).mono qx).trans hP
      · exact (px.meets py h).meets hP (htp y hy hcy)
  have hall : ∀ i, i < 4 → ∀ x b, x < n.toNat → c x = i → (x : Int) ∈ bagAt S b → Pth U (CQ i) b (H i) := fun i hi x b hx hcx hb =>
    ((hpath x b hx hb).mono fun t ht => ⟨x, hx, hcx, ht⟩).trans (hgood i hi x hx hcx)
  -- the colour whose top is lowest
  have hmin : ∃ i, i < 4 ∧ ∀ j, j < 4 → H i ≤ H j := by
    have : (H 0 ≤ H 1 ∧ H 0 ≤ H 2 ∧ H 0 ≤ H 3) ∨ (H 1 ≤ H 0 ∧ H 1 ≤ H 2 ∧ H 1 ≤ H 3) ∨ (H 2 ≤ H 0 ∧ H 2 ≤ H 1 ∧ H 2 ≤ H 3) ∨ (H 3 ≤ H 0 ∧ H 3 ≤ H 1 ∧ H 3 ≤ H 2) := by omega
    have four : ∀ j, j < 4 → j = 0 ∨ j = 1 ∨ j = 2 ∨ j = 3 := fun j h => by omega
    rcases this with h | h | h | h
    · exact ⟨0, by omega, fun j hj => by rcases four j hj with rfl | rfl | rfl | rfl <;> omega⟩
    · exact ⟨1, by omega, fun j hj => by rcases four j hj with rfl | rfl | rfl | rfl <;> omega⟩
    · exact ⟨2, by omega, fun j hj => by rcases four j hj with rfl | rfl | rfl | rfl <;> omega⟩
    · exact ⟨3, by omega, fun j hj => by rcases four j hj with rfl | rfl | rfl | rfl <;> omega⟩
  obtain ⟨i, hi, hlow⟩ := hmin
  have hin : ∀ j, j < 4 → CQ j (H i) := fun j hj => by
    by_cases e : j = i
    · subst e
      obtain ⟨⟨x0, a1, a2, a3⟩, _⟩ := hHs j hj
      exact ⟨x0, a1, a2, by rw [← a3]; exact headB_mem (hhd x0 a1).2⟩
    · obtain ⟨x, y, hx, hy, hcx, hcy, hA⟩ : ∃ x y, x < n.toNat ∧ y < n.toNat ∧ c x = i ∧ c y = j ∧ ((adjN (nbrs n.toNat E) x y) ∨ adjN (nbrs n.toNat E) y x) := by
        rcases Nat.lt_or_ge i j with h | h
        · obtain ⟨x, y, hx, hy, hA, h1, h2⟩ := hm.meet i j h hj
          exact ⟨x, y, List.mem_range.1 hx, List.mem_range.1 hy, h1, h2, .inl hA⟩
        · obtain ⟨y, x, hy, hx, hA, h1, h2⟩ := hm.meet j i (by omega) hi
          exact ⟨x, y, List.mem_range.1 hx, List.mem_range.1 hy, h2, h1, .inr hA⟩
      obtain ⟨b, b1, b2⟩ : ∃ b, (x : Int) ∈ bagAt S b ∧ (y : Int) ∈ bagAt S b := by
        rcases hA with h | h
        · exact hboth x y h
        · obtain ⟨b, h1, h2⟩ := hboth y x h
          exact ⟨b, h2, h1⟩
      exact ((hall i hi x b hx hcx b1).meets (hall j hj y b hy hcy b2) (hlow j hj)).head
  obtain ⟨x0, _, e0, m0⟩ := hin 0 (by omega)
  obtain ⟨x1, _, e1, m1⟩ := hin 1 (by omega)
  obtain ⟨x2, _, e2, m2⟩ := hin 2 (by omega)
  obtain ⟨x3, _, e3, m3⟩ := hin 3 (by omega)
  have hbl := bag_lt m0
  have h3 := (hs.2 _ hbl).1.1
  have hnd : ([(x0 : Int), x1, x2, x3] : List Int).Nodup := by
    have a : x0 ≠ x1 := fun e => by rw [e] at e0; omega
    have b : x0 ≠ x2 := fun e => by rw [e] at e0; omega
    have c' : x0 ≠ x3 := fun e => by rw [e] at e0; omega
    have d : x1 ≠ x2 := fun e => by rw [e] at e1; omega
    have f : x1 ≠ x3 := fun e => by rw [e] at e1; omega
    have g : x2 ≠ x3 := fun e => by rw [e] at e2; omega
    simp; omega
  have := nodup_lenG (m := bagAt S (H i)) hnd fun x hx => by
    simp at hx
    rcases hx with rfl | rfl | rfl | rfl <;> assumption
  simp at this
  omega
end Go.Sh

set_option linter.unusedVariables false
set_option linter.unusedSimpArgs false
namespace Go.Sh
open Go.Proofs
/-! ### bits, as numbers -/
theorem getD_lt {r : List Nat} {m : Nat} (h : ∀ x ∈ r, x < m) (hm : 0 < m) (i : Nat) : r.getD i 0 < m := by
  by_cases hi : i < r.length
  · rw [List.getD_eq_getElem?_getD, List.getElem?_eq_getElem hi]; exact h _ (List.getElem_mem hi)
  · rw [getD_out hi]; exact hm
/-- small rows of bits -/
def Byt (r : List Nat) : Prop := r.length ≤ 8 ∧ ∀ x ∈ r, x < 256
theorem lessX_lt {x v : Nat} (h : x < 256) : lessX x v < 256 := by
  apply Nat.lt_pow_two_of_testBit (n := 8)
  intro i hi
  rw [lessX_bit]
  exact Nat.testBit_lt_two_pow (Nat.lt_of_lt_of_le (show x < 2 ^ 8 by omega) (Nat.pow_le_pow_right (by omega) (by unfold up1; split <;> omega)))
theorem mergeX_lt {r : List Nat} (h : Byt r) {a b i x : Nat} (ha : a < 8) (hx : x < 256) : mergeX r a b i x < 256 := by
  have h1 := getD_lt h.2 (by omega) a
  have h2 := getD_lt h.2 (by omega) b
  unfold mergeX
  split
  · apply Nat.lt_pow_two_of_testBit (n := 8)
    intro i hi
    rw [off_bit, Nat.testBit_lt_two_pow (Nat.lt_of_lt_of_le (Nat.or_lt_two_pow (n := 8) h1 h2) (Nat.pow_le_pow_right (by omega) hi))]
    rfl
  · split
    · exact Nat.or_lt_two_pow (n := 8) hx (Nat.pow_lt_pow_right (by omega) ha)
    · exact hx
theorem Byt.less {r : List Nat} (h : Byt r) {v : Nat} (hv : v < r.length) : Byt (lessL r v) := by
  refine ⟨by have := lessL_length hv; have := h.1; omega, fun x hx => ?_⟩
  obtain ⟨y, hy, rfl⟩ := List.mem_map.1 hx
  exact lessX_lt (h.2 y (List.mem_of_mem_eraseIdx hy))
theorem Byt.merge {r : List Nat} (h : Byt r) {a b : Nat} (ha : a < r.length) : Byt (mergeL r a b) := by
  refine ⟨by rw [mergeL_length]; exact h.1, fun x hx => ?_⟩
  obtain ⟨i, hi, rfl⟩ := List.mem_map.1 hx
  exact mergeX_lt h (by have := h.1; omega) (getD_lt h.2 (by omega) i)
theorem Byt.merged {r : List Nat} (h : Byt r) {a b : Nat} (ha : a < r.length) (hb : b < r.length) : Byt (mergedL r a b) := (h.merge ha).less (by rw [mergeL_length]; exact hb)
/-! ### carcanetref08.less -/
/-! ### carcanetref08.merged -/
/-! ### carcanetref08.is -/
end Go.Sh

set_option linter.unusedVariables false
set_option linter.unusedSimpArgs false
namespace Go.Sh
open Go.Proofs
/-! ### carcanetref08.Rows -/
/-! ### carcanetref08.comes -/
end Go.Sh

set_option linter.unusedVariables false
set_option linter.unusedSimpArgs false
namespace Go.Sh
open Go.Proofs
/-! ### carcanetref08.Has -/
/-! ### carcanetlaw08.MinorTrue -/
/-! ### carcanetref08.Pattern -/
end Go.Sh

set_option linter.unusedVariables false
set_option linter.unusedSimpArgs false
namespace Go.Sh
open Go.Proofs
/-! ### carcanetlaw10.ReduceMinor -/
end Go.Sh

set_option linter.unusedVariables false
set_option linter.unusedSimpArgs false
namespace Go.Sh
open Go.Proofs
/-! ### carcanetlaw12.BagsHold, BagsSound, BagsNarrow -/
theorem bag_narrow {n : Int} {E : List Ed} {S : List (List Int)} {U : List Int} (hB : bagB n E S U = true) : narrowB n E = true :=
  (narrow_K4 (bagB_iff.1 hB).1).2 (bag_noK4 (bagB_iff.1 hB))
noncomputable def BNarF := conF (fun _ : (Int × List Ed) × Bg => True) (fun a => [grV a.1.1 a.1.2, bgV false a.2.1 a.2.2]) (fun _ => .one (.s (.b true)))
theorem BNar_ok : SoundP Try.prog 8 BNarF := by
  refine con_pure (X := { Γ := [(15, Shown12C), (16, OfC), (20, Small12C), (21, BChkC), (25, NarrowC)], T := T, nt := 22 }) cr_none hmix hT
    (sound_cons Shown12_ok (sound_cons Of_ok (sound_cons Small12_ok (sound_cons BChk_ok (sound_cons Narrow_ok sound_nil))))) Try.func8 (by rfl) (by rfl) (by rfl) 4 ?_
  rintro ⟨⟨n, E⟩, S, U⟩ -
  dsimp only
  refine ⟨⟨Nat.le_of_ble_eq_true rfl, Nat.le_of_ble_eq_true rfl⟩, ?_⟩
  refine Call.by _ _ Shown12C_at ?_
  refine Call.by _ _ (OfC_at n E (most := 20) (by omega)) ?_
  have hok := cutB_ok S U
  obtain ⟨m, hm⟩ : ∃ m, anyN n 20 = m := ⟨_, rfl⟩
  obtain ⟨F, hF⟩ : ∃ F, anyE n E 20 = F := ⟨_, rfl⟩
  rw [hm, hF]
  refine Call.by _ _ (Small12C_at S U) ?_
  refine Call.by _ _ (BChkC_at hok) ?_
  refine Pick.by (fun h1 => ?_) (fun h1 => ?_)
  · refine Seg.by (by kernel_rfl) ?_
    exact ⟨rfl, rfl⟩
  · have h1 : bagB m F (cutB S) (U.take 60) = true := by have h1 : (!bagB m F (cutB S) (U.take 60)) = false := h1; simpa using h1
    have hN := NarrowC_at m F
    rw [bag_narrow h1] at hN
    refine Call.by _ _ hN ?_
    refine Seg.by (by kernel_rfl) ?_
    exact ⟨rfl, rfl⟩
end Go.Sh

set_option linter.unusedVariables false
set_option linter.unusedSimpArgs false
namespace Go.Sh
open Go.Proofs
/-! ### carcanetlaw08.MinorMoves -/
def i64 (x : Int) : Prop := -9223372036854775808 ≤ x ∧ x ≤ 9223372036854775807
def rows64 (S : List (List Int)) : Prop := ∀ l ∈ S, ∀ x ∈ l, i64 x
def clI (x : Int) : Int := mnI x 4611686018427387904
def clP (j : Nat) (row : List Int) : List Int := (row.take j).map clI ++ row.drop j
theorem clP_all (row : List Int) (j : Nat) (h : row.length ≤ j) : clP j row = row.map clI := by
  unfold clP
  rw [List.take_of_length_le h, List.drop_eq_nil_of_le h, List.append_nil]
theorem clP_zero (row : List Int) : clP 0 row = row := by simp [clP]
def ClI (S : List (List Int)) (i j : Nat) (R : List (List Int)) : Prop := R.length = S.length ∧ ∀ r row, S[r]? = some row → R[r]? = some (if r < i then row.map clI else if r = i then clP j row else row)
theorem ClI.at {S R : List (List Int)} {i j : Nat} (h : ClI S i j R) {row : List Int} (hi : S[i]? = some row) : R[i]? = some (clP j row) := by
  have := h.2 i row hi
  rwa [if_neg (by omega), if_pos rfl] at this
theorem ClI.step {S R : List (List Int)} {i j : Nat} (h : ClI S i j R) {row : List Int} (hi : S[i]? = some row) : ClI S i (j + 1) (R.set i (clP (j + 1) row)) := by
  refine ⟨by rw [List.length_set]; exact h.1, fun r w hr => ?_⟩
  rw [List.getElem?_set]
  by_cases e : i = r
  · subst e
    rw [hi] at hr
    injection hr with hr
    subst hr
    rw [if_pos rfl, if_pos (by rw [h.1]; exact (List.getElem?_eq_some_iff.1 hi).1), if_neg (by omega), if_pos rfl]
  · rw [if_neg e, h.2 r w hr, if_neg (show ¬ r = i by omega), if_neg (show ¬ r = i by omega)]
theorem ClI.next {S R : List (List Int)} {i j : Nat} (h : ClI S i j R) {row : List Int} (hi : S[i]? = some row) (hj : row.length ≤ j) : ClI S (i + 1) 0 R := by
  refine ⟨h.1, fun r w hr => ?_⟩
  rw [h.2 r w hr]
  by_cases e : r < i
  · rw [if_pos e, if_pos (by omega)]
  · by_cases e2 : r = i
    · subst e2
      rw [hi] at hr
      injection hr with hr
      subst hr
      rw [if_neg e, if_pos rfl, if_pos (by omega), clP_all _ _ hj]
    · rw [if_neg e, if_neg e2, if_neg (by omega)]
      split
      · rw [clP_zero]
      · rfl
theorem ClI.done {S R : List (List Int)} {i : Nat} (h : ClI S i 0 R) (hi : S.length ≤ i) : R = S.map fun l => l.map clI := by
  apply List.ext_getElem?
  intro r
  by_cases hr : r < S.length
  · rw [h.2 r _ (List.getElem?_eq_getElem hr), if_pos (by omega)]
    simp [hr]
  · rw [List.getElem?_eq_none (by rw [h.1]; omega), List.getElem?_eq_none (by simp; omega)]
theorem ClI.zero (S : List (List Int)) : ClI S 0 0 S := ⟨rfl, fun r row h => by
  rw [if_neg (by omega), clP_zero]
  split <;> exact h⟩
end Go.Sh

set_option linter.unusedVariables false
set_option linter.unusedSimpArgs false
namespace Go.Sh
open Go.Proofs
/-! ### what is handed in, as data -/
theorem VTy.struct {T : Tab} {t : Nat} {ti : TI} {fs : List (Nat × Nat)} {v : V} (ht : lk T t = some ti) (hk : ti.kind = .struct fs) (h : VTy T t v) : ∃ cs, v = .agg cs ∧ All2 (fun (f : Nat × Nat) c => CTy T f.2 c) fs cs := by
  unfold VTy at h
  rw [ht] at h
  simp only at h
  rw [hk] at h
  exact h
theorem VTy.cell {T : Tab} {t : Nat} {ti : TI} {v : V} (ht : lk T t = some ti) (hk : ∀ fs, ti.kind ≠ .struct fs) (h : VTy T t v) : ∃ c, v = .one c ∧ CTy T t c := by
  unfold VTy at h
  rw [ht] at h
  simp only at h
  exact h
theorem ScTy.int {T : Tab} {t : Nat} {ti : TI} {k : IntKind} {x : Sc} (ht : lk T t = some ti) (hk : ti.kind = .int k) (h : ScTy T t x) : ∃ n, x = .i k n ∧ (Lit.int k n).wf = true := by
  unfold ScTy at h
  rw [ht] at h
  simp only at h
  rw [hk] at h
  cases x with
  | i k' n => obtain ⟨rfl, h⟩ := h; exact ⟨n, rfl, h⟩
  | b _ => exact h.elim
theorem CTy.sc {T : Tab} {t : Nat} {c : C} (hs : sliceE T t = none) (h : CTy T t c) : ∃ x, c = .s x ∧ ScTy T t x := by
  unfold CTy at h
  rw [hs] at h
  exact h
theorem CTy.flat {T : Tab} {t e : Nat} {c : C} (hs : sliceE T t = some e) (hs2 : sliceE T e = none) (h : CTy T t c) : ∃ rows, c = .flat false (sizeT T e) rows ∧ FlatTy T e rows := by
  unfold CTy at h
  rw [hs] at h
  simp only at h
  rw [hs2] at h
  exact h
theorem CTy.nest {T : Tab} {t e e2 : Nat} {c : C} (hs : sliceE T t = some e) (hs2 : sliceE T e = some e2) (h : CTy T t c) : ∃ rows, c = .nest false (sizeT T e2) rows ∧ rows.length ≤ maxLen ∧ ∀ fl ∈ rows, FlatTy T e2 fl := by
  unfold CTy at h
  rw [hs] at h
  simp only at h
  rw [hs2] at h
  exact h
theorem i64_wf {n : Int} (h : (Lit.int .i64 n).wf = true) : i64 n := by
  simp [Lit.wf, IntKind.min, IntKind.max, IntKind.signed, IntKind.bits] at h
  exact h
theorem list_ex {α β : Type} {P : α → β → Prop} : ∀ {l : List α}, (∀ x ∈ l, ∃ y, P x y) → ∃ m : List β, All2 P l m := by
  intro l
  induction l with
  | nil => intro _; exact ⟨[], All2.nil⟩
  | cons x l ih =>
    intro h
    obtain ⟨y, hy⟩ := h x (by simp)
    obtain ⟨m, hm⟩ := ih fun x hx => h x (by simp [hx])
    exact ⟨y :: m, All2.cons' hy hm⟩
theorem All2.map_eq {α β : Type} {f : β → α} {l : List α} {m : List β} (h : All2 (fun x y => x = f y) l m) : l = m.map f := by
  apply List.ext_getElem?
  intro i
  rw [List.getElem?_map]
  by_cases hi : i < l.length
  · have him : i < m.length := by rw [← h.1]; exact hi
    rw [List.getElem?_eq_getElem hi, List.getElem?_eq_getElem him, Option.map_some, h.2 i _ _ (List.getElem?_eq_getElem hi) (List.getElem?_eq_getElem him)]
  · rw [List.getElem?_eq_none (by omega), List.getElem?_eq_none (by rw [← h.1]; omega)]; rfl
theorem All2.mem {α β : Type} {R : α → β → Prop} {l : List α} {m : List β} (h : All2 R l m) {y : β} (hy : y ∈ m) : ∃ x ∈ l, R x y := by
  obtain ⟨i, hi⟩ := List.mem_iff_getElem?.1 hy
  have hl := (List.getElem?_eq_some_iff.1 hi).1
  rw [← h.1] at hl
  exact ⟨_, List.getElem_mem hl, h.2 i _ y (List.getElem?_eq_getElem hl) hi⟩
/-! #### at this program's types -/
theorem row_int {row : Row} (h : RowTy T 3 row) : ∃ n, row = [.i .i64 n] ∧ i64 n := by
  obtain ⟨x, rfl, hx⟩ := h
  obtain ⟨n, rfl, hw⟩ := ScTy.int (t := 3) rfl rfl hx
  exact ⟨n, rfl, i64_wf hw⟩
theorem ints_of {fl : Flat} (h : FlatTy T 3 fl) : ∃ l : List Int, fl = ints l ∧ l.length ≤ maxLen ∧ ∀ x ∈ l, i64 x := by
  obtain ⟨m, hm⟩ := list_ex (P := fun row n => row = [Sc.i .i64 n] ∧ i64 n) fun row hr => row_int (h.2 row hr)
  refine ⟨m, All2.map_eq (f := fun n => [Sc.i .i64 n]) (hm.imp fun _ _ _ k => k.1), by rw [← hm.1]; exact h.1, fun x hx => ?_⟩
  obtain ⟨_, _, k⟩ := hm.mem hx
  exact k.2
theorem rows_of {rows : List Flat} (h : ∀ fl ∈ rows, FlatTy T 3 fl) : ∃ S : List (List Int), rows = rowsI S ∧ rows64 S ∧ ∀ l ∈ S, l.length ≤ maxLen := by
  obtain ⟨m, hm⟩ := list_ex (P := fun (fl : Flat) l => fl = ints l ∧ l.length ≤ maxLen ∧ ∀ x ∈ l, i64 x) fun fl hf => ints_of (h fl hf)
  refine ⟨m, All2.map_eq (hm.imp fun _ _ _ k => k.1), fun l hl => ?_, fun l hl => ?_⟩
  · obtain ⟨_, _, k⟩ := hm.mem hl; exact k.2.2
  · obtain ⟨_, _, k⟩ := hm.mem hl; exact k.2.1
theorem All2.two {α β : Type} {R : α → β → Prop} {a b : α} {m : List β} (h : All2 R [a, b] m) : ∃ x y, m = [x, y] ∧ R a x ∧ R b y := by
  obtain ⟨h1, h2⟩ := h
  match m, h1, h2 with
  | [x, y], _, h2 => exact ⟨x, y, rfl, h2 0 a x rfl rfl, h2 1 b y rfl rfl⟩
theorem All2.one {α β : Type} {R : α → β → Prop} {a : α} {m : List β} (h : All2 R [a] m) : ∃ x, m = [x] ∧ R a x := by
  obtain ⟨h1, h2⟩ := h
  match m, h1, h2 with
  | [x], _, h2 => exact ⟨x, rfl, h2 0 a x rfl rfl⟩
theorem All2.three {α β : Type} {R : α → β → Prop} {a b c : α} {m : List β} (h : All2 R [a, b, c] m) : ∃ x y z, m = [x, y, z] ∧ R a x ∧ R b y ∧ R c z := by
  obtain ⟨h1, h2⟩ := h
  match m, h1, h2 with
  | [x, y, z], _, h2 => exact ⟨x, y, z, rfl, h2 0 a x rfl rfl, h2 1 b y rfl rfl, h2 2 c z rfl rfl⟩
theorem row_edge {row : Row} (h : RowTy T 60 row) : ∃ p : Ed, row = [.i .i64 p.1, .i .i64 p.2] ∧ i64 p.1 ∧ i64 p.2 := by
  obtain ⟨_, h⟩ := h
  obtain ⟨x, y, rfl, hx, hy⟩ := All2.two h
  obtain ⟨n, rfl, hn⟩ := ScTy.int (t := 3) rfl rfl hx
  obtain ⟨m, rfl, hm⟩ := ScTy.int (t := 3) rfl rfl hy
  exact ⟨(n, m), rfl, i64_wf hn, i64_wf hm⟩
theorem edges_of {fl : Flat} (h : FlatTy T 60 fl) : ∃ E : List Ed, fl = edges E ∧ E.length ≤ maxLen ∧ ∀ p ∈ E, i64 p.1 ∧ i64 p.2 := by
  obtain ⟨m, hm⟩ := list_ex (P := fun row (p : Ed) => row = [Sc.i .i64 p.1, Sc.i .i64 p.2] ∧ i64 p.1 ∧ i64 p.2) fun row hr => row_edge (h.2 row hr)
  refine ⟨m, All2.map_eq (f := fun p : Ed => [Sc.i .i64 p.1, Sc.i .i64 p.2]) (hm.imp fun _ _ _ k => k.1), by rw [← hm.1]; exact h.1, fun x hx => ?_⟩
  obtain ⟨_, _, k⟩ := hm.mem hx
  exact k.2
theorem net_of {v : V} (h : VTy T 24 v) : ∃ n E, v = grV n E ∧ i64 n ∧ ∀ p ∈ E, i64 p.1 ∧ i64 p.2 := by
  obtain ⟨cs, rfl, hcs⟩ := VTy.struct (t := 24) rfl rfl h
  obtain ⟨x, y, rfl, hx, hy⟩ := All2.two hcs
  obtain ⟨z, rfl, hz⟩ := CTy.sc (t := 3) rfl hx
  obtain ⟨n, rfl, hw⟩ := ScTy.int (t := 3) rfl rfl hz
  obtain ⟨rows, rfl, hr⟩ := CTy.flat (t := 22) (e := 60) rfl rfl hy
  obtain ⟨E, rfl, _, hE⟩ := edges_of hr
  exact ⟨n, E, rfl, i64_wf hw, hE⟩
end Go.Sh

set_option linter.unusedVariables false
namespace Go.Sh
open Go.Proofs
theorem own : ownKnob Try.prog.godebug = none := by kernel_rfl
theorem laidOut : laidOutB Try.prog = true := by kernel_rfl
set_option maxRecDepth 100000 in
/-- A law whose function answers true, whatever comes. -/
theorem law_row {s : ChangeSpec} {f : FuncId} {fn : Func} {conds : List PathCond} {apart fresh handsOn : Bool} {ts : List TypeId} {F : List V → Option (V × List V)} (hf : Try.prog.funcs[f]? = some fn) (hin : Try.prog.inits.idxOf? f = none) (hv : s.vars = [])
    (hts : fn.params.toList = ts) (ha : ts.all (argB T) = true) (hr : ts.all (fun t => Try.prog.readableRec t && Nat.blt t Try.prog.types.size) = true) (hres : fn.resultTypes = #[4])
    (hsp : ∀ (H : Type) (ds : List (DataW H)), ds.length = ts.length → (s.fn H ds).results = [.lit (.bool true)] ∧ (s.fn H ds).args = ds ∧ (s.fn H ds).vars = [])
    (hS : SoundP Try.prog f F) (hF : LawV T ts F) (os : Os) (started : os.Started) (H : Type) (enc : TypeId × Value → H) (a : Assume)
    (hw : ∃ (w : World) (tape : Tape) (i : Input), w.os = os ∧ (w.forCall tape i).Shaped Try.checked.prog ∧ i.vars = [] ∧ Input.okWide Try.checked.prog (w.forCall tape i) .any w.heap.size f i ∧
      s.pre6 enc Try.checked.prog fn conds apart (w.forCall tape i).memory i.args ∧ a.holds Try.checked.prog (lone (Frame.enter Try.checked.prog f i.args .normal) [] (w.forCall tape i))) :
    ReturnsInHanded a Try.checked os f .any (s.pre6 enc Try.checked.prog fn conds apart) (s.post enc Try.checked.prog fn apart fresh handsOn false) := by
  refine returnsInHanded_of_change (C := Try.checked) own started hin hf hw ?_
  intro W base args ds gs before hval hW _ _
  refine law_contract (P := Try.prog) (conds := conds) hT laidOut hv hts ha (fun t ht => ?_) hres Try.underlying4 (hsp H) hS hF hval hW
  have := List.all_eq_true.1 hr t ht
  simp only [Bool.and_eq_true] at this
  exact ⟨this.1, Nat.le_of_ble_eq_true this.2⟩
end Go.Sh

set_option linter.unusedVariables false
namespace Go.Sh
open Go.Proofs
/-! ### more of what is handed in, as data -/
theorem ScTy.bool {T : Tab} {t : Nat} {ti : TI} {x : Sc} (ht : lk T t = some ti) (hk : ti.kind = .bool) (h : ScTy T t x) : ∃ b, x = .b b := by
  unfold ScTy at h
  rw [ht] at h
  simp only at h
  rw [hk] at h
  cases x with
  | i k' n => exact h.elim
  | b b => exact ⟨b, rfl⟩
theorem All2.four {α β : Type} {R : α → β → Prop} {a b c d : α} {m : List β} (h : All2 R [a, b, c, d] m) : ∃ x y z t, m = [x, y, z, t] ∧ R a x ∧ R b y ∧ R c z ∧ R d t := by
  obtain ⟨h1, h2⟩ := h
  match m, h1, h2 with
  | [x, y, z, t], _, h2 => exact ⟨x, y, z, t, rfl, h2 0 a x rfl rfl, h2 1 b y rfl rfl, h2 2 c z rfl rfl, h2 3 d t rfl rfl⟩
end Go.Sh

set_option linter.unusedVariables false
namespace Go.Sh
open Go.Proofs
/-! ### more of what is handed in, as data: bags -/
theorem bags_of {v : V} (h : VTy T 35 v) : ∃ S U, v = bgV false S U := by
  obtain ⟨cs, rfl, hcs⟩ := VTy.struct (t := 35) rfl rfl h
  obtain ⟨x, y, rfl, hx, hy⟩ := All2.two hcs
  obtain ⟨rows, rfl, _, hr⟩ := CTy.nest (t := 28) (e := 29) (e2 := 3) rfl rfl hx
  obtain ⟨S, rfl, hS, _⟩ := rows_of hr
  obtain ⟨rows, rfl, hr⟩ := CTy.flat (t := 29) (e := 3) rfl rfl hy
  obtain ⟨U, rfl, _, _⟩ := ints_of hr
  exact ⟨S, U, rfl⟩
end Go.Sh
