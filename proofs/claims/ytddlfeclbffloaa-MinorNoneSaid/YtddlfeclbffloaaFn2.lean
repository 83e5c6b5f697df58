/- What the functions answer that the statement reaches. No condition. -/
import Derived.Test.YtddlfeclbffloaaFn1
set_option linter.unusedVariables false
set_option linter.unusedSimpArgs false
namespace Go.Sh
/-! ### few edges, few vertices -/
theorem nodup_lenG {α : Type} [DecidableEq α] {l : List α} : ∀ {m : List α}, l.Nodup → (∀ x ∈ l, x ∈ m) → l.length ≤ m.length := by
  induction l with
  | nil => intro m _ _; simp
  | cons x l ih =>
    intro m h s
    rw [List.nodup_cons] at h
    have hx := s x (by simp)
    have := ih (m := m.erase x) h.2 fun y hy => (List.mem_erase_of_ne (fun (e : y = x) => h.1 (by rw [← e]; exact hy))).2 (s y (by simp [hy]))
    rw [List.length_erase_of_mem hx] at this
    have := List.length_pos_of_mem hx
    simp; omega
theorem disj_at {S : List (List Int)} (h : S.flatten.Nodup) {i j : Nat} {a b : List Int} (ha : S[i]? = some a) (hb : S[j]? = some b) {v : Int} (va : v ∈ a) (vb : v ∈ b) : i = j := by
  rw [List.Nodup, List.pairwise_flatten] at h
  obtain ⟨hi, ea⟩ := List.getElem?_eq_some_iff.1 ha
  obtain ⟨hj, eb⟩ := List.getElem?_eq_some_iff.1 hb
  rcases Nat.lt_trichotomy i j with hlt | e | hlt
  · have := List.pairwise_iff_getElem.1 h.2 i j hi hj hlt
    rw [ea, eb] at this
    exact absurd rfl (this v va v vb)
  · exact e
  · have := List.pairwise_iff_getElem.1 h.2 j i hj hi hlt
    rw [ea, eb] at this
    exact absurd rfl (this v vb v va)
theorem mem_setAt {S : List (List Int)} {i : Int} {v : Int} (h : v ∈ setAt S i) : ∃ l, S[i.toNat]? = some l ∧ v ∈ l := by
  unfold setAt at h
  rw [List.getD_eq_getElem?_getD] at h
  cases hs : S[i.toNat]? with
  | none => rw [hs] at h; simp at h
  | some l => rw [hs] at h; exact ⟨l, rfl, h⟩
theorem setAt_disj {S : List (List Int)} (h : S.flatten.Nodup) {i j v : Int} (h0 : 0 ≤ i) (h1 : 0 ≤ j) (vi : v ∈ setAt S i) (vj : v ∈ setAt S j) : i = j := by
  obtain ⟨a, ha, va⟩ := mem_setAt vi
  obtain ⟨b, hb, vb⟩ := mem_setAt vj
  have := disj_at h ha hb va vb
  omega
theorem tch_inj {S : List (List Int)} (h : S.flatten.Nodup) {q r x : Ed} (q0 : 0 ≤ q.1) (q1 : q.1 < q.2) (r0 : 0 ≤ r.1) (r1 : r.1 < r.2) (hq : tch (setAt S q.1) (setAt S q.2) x = true) (hr : tch (setAt S r.1) (setAt S r.2) x = true) : q = r := by
  simp only [tch, Bool.or_eq_true, Bool.and_eq_true, List.elem_eq_mem, decide_eq_true_eq] at hq hr
  have d := @setAt_disj S h
  obtain ⟨a, b⟩ := q
  obtain ⟨c, e⟩ := r
  dsimp only at *
  rcases hq with ⟨h1, h2⟩ | ⟨h1, h2⟩ <;> rcases hr with ⟨h3, h4⟩ | ⟨h3, h4⟩
  · rw [d q0 r0 h1 h3, d (by omega) (by omega) h2 h4]
  · have := d q0 (by omega) h1 h3
    have := d (by omega) r0 h2 h4
    omega
  · have := d (by omega) r0 h1 h3
    have := d q0 (by omega) h2 h4
    omega
  · rw [d (by omega) (by omega) h1 h3, d q0 r0 h2 h4]
theorem pat_six {k : Int} (h : (patG k).1 ≠ 0) : (patG k).2.length = 6 ∧ (patG k).2.Nodup := by
  rcases patG_cases k with ⟨_, e⟩ | ⟨_, e⟩ | ⟨_, _, e⟩ <;> rw [e] at h ⊢
  · decide
  · decide
  · exact absurd rfl h
theorem chk_edges {n : Int} {E : List Ed} {k : Int} {S : List (List Int)} (h : CheckP n E k S) : 6 ≤ E.length := by
  obtain ⟨_, h2, _, _, h5, h6⟩ := h
  obtain ⟨h7, h8⟩ := pat_six h2
  obtain ⟨_, _, _, h9⟩ := patG_ok k
  have hx : ∀ q ∈ (patG k).2, ∃ x, x ∈ E ∧ tch (setAt S q.1) (setAt S q.2) x = true := fun q hq => List.any_eq_true.1 (h6 q hq)
  obtain ⟨g, hg⟩ : ∃ g : Ed → Ed, ∀ q ∈ (patG k).2, g q ∈ E ∧ tch (setAt S q.1) (setAt S q.2) (g q) = true := by
    classical
    refine ⟨fun q => if h : q ∈ (patG k).2 then Classical.choose (hx q h) else q, fun q hq => ?_⟩
    simp only [dif_pos hq]
    exact Classical.choose_spec (hx q hq)
  have hnd : ((patG k).2.map g).Nodup := by
    rw [List.Nodup, List.pairwise_map]
    refine List.Pairwise.imp_of_mem (fun {a b} ha hb hab e => ?_) h8
    have h1 := hg a ha
    have h2 := hg b hb
    rw [← e] at h2
    obtain ⟨a0, a1, _⟩ := h9 a ha
    obtain ⟨b0, b1, _⟩ := h9 b hb
    exact hab (tch_inj h5 a0 a1 b0 b1 h1.2 h2.2)
  have := nodup_lenG hnd fun x hx => by
    obtain ⟨q, hq, rfl⟩ := List.mem_map.1 hx
    exact (hg q hq).1
  rw [List.length_map, h7] at this
  exact this
theorem range_len {n : Int} {l : List Int} (h : l.Nodup) (hr : ∀ v ∈ l, 0 ≤ v ∧ v < n) : l.length ≤ n.toNat := by
  have := nodup_lenG (m := (List.range n.toNat).map fun (i : Nat) => (i : Int)) h fun v hv => by
    have := hr v hv
    exact List.mem_map.2 ⟨v.toNat, List.mem_range.2 (by omega), by omega⟩
  simpa using this
theorem chk_n {n : Int} {E : List Ed} {k : Int} {S : List (List Int)} (h : CheckP n E k S) : (patG k).1 ≤ n := by
  obtain ⟨⟨hn, _⟩, h2, h3, h4, h5, _⟩ := h
  have hne : ∀ l ∈ S, l ≠ [] := fun l hl => (h4 l hl).2.1
  have hnd : (S.map fun l => l.headD 0).Nodup := by
    rw [List.Nodup, List.pairwise_map]
    have h5' := h5
    rw [List.Nodup, List.pairwise_flatten] at h5'
    refine List.Pairwise.imp_of_mem (fun {a b} ha hb hab => ?_) h5'.2
    have ma : a.headD 0 ∈ a := by cases a with | nil => exact absurd rfl (hne _ ha) | cons x a => simp
    have mb : b.headD 0 ∈ b := by cases b with | nil => exact absurd rfl (hne _ hb) | cons x a => simp
    exact hab _ ma _ mb
  have := range_len (n := n) hnd fun v hv => by
    obtain ⟨l, hl, rfl⟩ := List.mem_map.1 hv
    have ml : l.headD 0 ∈ l := by cases l with | nil => exact absurd rfl (hne _ hl) | cons x a => simp
    exact (h4 l hl).2.2.2.1 _ ml
  rw [List.length_map] at this
  omega
theorem right_take {n : Int} {E : List Ed} (h : RightP n E) (m : Nat) : RightP n (E.take m) :=
  ⟨h.1, h.2.1, by have := h.2.2.1; rw [List.length_take]; omega, fun p hp => h.2.2.2.1 p (List.mem_of_mem_take hp), h.2.2.2.2.sublist (List.take_sublist m E)⟩
theorem right4 {E : List Ed} (h : RightP 4 E) : E.length ≤ 6 := by
  have := nodup_lenG (m := [(0, 1), (0, 2), (0, 3), (1, 2), (1, 3), (2, 3)]) (h.2.2.2.2.imp ltE_ne) fun x hx => by
    obtain ⟨h1, h2, h3⟩ := h.2.2.2.1 x hx
    obtain ⟨a, b⟩ := x
    dsimp only at h1 h2 h3
    simp only [List.mem_cons, Prod.mk.injEq, List.not_mem_nil, or_false]
    omega
  simpa using this
theorem chk_few {n : Int} {E : List Ed} {k : Int} {S : List (List Int)} : ¬ CheckP n (E.take 5) k S := fun h => by
  have := chk_edges h
  rw [List.length_take] at this
  omega
theorem cut_tiny (S : List (List Int)) : tiny (cutSets S) := by
  refine ⟨by simp [cutSets]; omega, fun l hl => ?_⟩
  obtain ⟨m, _, rfl⟩ := List.mem_map.1 hl
  simp; omega
theorem cut_small (S : List (List Int)) : small (cutSets S) := by
  refine ⟨by simp [cutSets]; omega, fun l hl => ?_⟩
  obtain ⟨m, _, rfl⟩ := List.mem_map.1 hl
  simp; omega
end Go.Sh
