/- A way of reckoning with this program: names in the place of addresses, contents as lists; and that what is so reckoned is what the program does. No condition. -/
import Derived.Test.YthdaaiafakijdaaGreatEn1
import Derived.Orders
set_option linter.unusedVariables false
set_option linter.unusedSimpArgs false
set_option linter.unusedSectionVars false
namespace Go.Sh
variable [Fwd]
def OutU (P : Program) (Mn : Nat -> Prop) (s : S) (g : G) (w : World) (fresh : Nat) (m : Sem Unit) (r : List Nat × SV × Ws) : Prop :=
 ∃ w' g', m.run P w = .ok () w' /\ r.2.1 = .bad /\ (∀ u, Did Mn s g w (InR fresh) r.2.1 r.2.2 u w' g') /\ ∀ n ∈ names3 r.2.1 ++ namesW r.2.2, Mn n \/ InR fresh n
section
variable {P : Program} {T : Tab} {Mn O0 : Nat -> Prop} {w0 : Base} {w : World} {nt : Nat} {s : S} {g : G} {a : Act} {fresh : Nat} {seen rd : List Nat} {r : List Nat × SV × Ws}
theorem setRow_same (b : Nat) (cs : Array Value) : (w.setRow b cs).os = w.os /\ Tp w (w.setRow b cs) /\ (w.setRow b cs).output = w.output /\ (w.setRow b cs).heap.size = w.heap.size := ⟨rfl, .rfl, rfl, by simp⟩
theorem Less.sameLen {s s' : S} {g g' : G} {n : Nat} (hl : lenSz s' n = lenSz s n) (hr : ∀ r ver L sz, RowAt s' n r ver L sz -> RowAt s n r ver L sz) (hv : ∀ ver, VerOk s n ver -> VerOk s' n ver)
  (h1 : g'.base n = g.base n) (h2 : g'.cap n = g.cap n) (h3 : ∀ i, g'.rbase n i = g.rbase n i) (h4 : ∀ i, g'.rcap n i = g.rcap n i) : Less s s' g g' n :=
 ⟨h1, h2, fun p hp => by rw [<- hl]; exact hp, fun r ver L sz _ h => ⟨hr r ver L sz h, h3 r, h4 r⟩, hv⟩
theorem G.same (g : G) (n : Nat) : ({ g with rbase := fun m => if m = n then g.rbase n else g.rbase m, rcap := fun m => if m = n then g.rcap n else g.rcap m, own := fun b => (g.own b).map id } : G) = g := by
 have h1 : (fun m => if m = n then g.rbase n else g.rbase m) = g.rbase := by funext m; by_cases h : m = n <;> simp [h]
 have h2 : (fun m => if m = n then g.rcap n else g.rcap m) = g.rcap := by funext m; by_cases h : m = n <;> simp [h]
 have h3 : (fun b => (g.own b).map id) = g.own := by funext b; simp
 show G.mk g.base g.cap _ _ _ = g
 rw [h1, h2, h3]
theorem did_keep (R : Rel Mn O0 w0 nt s g a w) {n : Nat} (hn : Mn n) {e' : Ent} (w' : World) (h1 : w'.os = w.os /\ Tp w w' /\ w'.output = w.output /\ w'.heap.size = w.heap.size)
  (hheap : ∀ b, b < w.heap.size -> (∀ m r, g.own b = some (m, r) -> m ≠ n) -> w'.heap[b]? = w.heap[b]?) (hless : Less s (s.putW [(n, some e')]) g g n)
  (he : (∀ m, Mn m -> Less s (s.putW [(n, some e')]) g g m) -> EntOk w' (s.putW [(n, some e')]) g n e') (u : Value) : Did Mn s g w (InR fresh) .bad [(n, some e')] u w' g := by
 have := did_set (fresh := fresh) R hn (e' := e') (g.rbase n) (g.rcap n) id [] (fun m hm => by simp at hm) (fun _ _ _ => rfl) (fun m r hm => by simp at hm) w' h1 hheap
  (fun g' hg' => by rw [hg', G.same]; exact hless) (fun g' hg' hl => by rw [hg', G.same] at hl ⊢; exact he hl) u
 rwa [G.same] at this
theorem at_put {n : Nat} {e : Option Ent} {ws : Ws} : (s.putW ((n, e) :: ws)).fe n = e := by simp [S.putW, S.setE]
theorem vals_one (xs : Row) : ∀ x ∈ xs.map Sc.val, x.oneCell' = true := by
 intro x hx
 obtain ⟨z, _, rfl⟩ := List.mem_map.1 hx
 cases z <;> rfl
theorem flat_store (hT : TabOk P T) (R : Rel Mn O0 w0 nt s g a w) {t : Nat} {ti : TI} (ht : lk T t = some ti) {n : Nat} (hn : Mn n) {key : Key} (hkey : key.1 = n) {A : Option Addr} {cap sz i j : Nat} {rows : Flat} {row xs : Row} {x : SV} {v : Value}
  (hF : FlatOk w g.own (some key) A cap sz rows) (hx : VR3 s g x v) (hxs : cellsOf x = xs.map SV.s) (hlen : (cellsOf x).length = ti.size) (hi : rows[i]? = some row) (hj : j + ti.size <= sz) {ad : Addr} (hA : A = some ad) (e' : Ent)
  (hless : Less s (s.putW [(n, some e')]) g g n)
  (he : ∀ w', FlatOk w' g.own (some key) A cap sz (rows.set i (splice row j xs)) -> (∀ b, b < w.heap.size -> g.own b ≠ some key -> w'.heap[b]? = w.heap[b]?) -> (∀ m, Mn m -> Less s (s.putW [(n, some e')]) g g m) -> EntOk w' (s.putW [(n, some e')]) g n e')
  (hroom : ∀ b k', g.own b = some key -> g.own b = some k' -> k' = key) :
  ∃ w', (Instr.storeAt t (.pointer (some (ad.add (i * sz + j)))) v).run P w = .ok () w' /\ ∃ g', ∀ u, Did Mn s g w (InR fresh) .bad [(n, some e')] u w' g' := by
 have hl : xs.length = ti.size := by rw [<- hlen, hxs, List.length_map]
 obtain ⟨b, off, arr, ty, rfl, ho, hh, hb, hW⟩ := hF.write hi (by rw [hl]; exact hj)
 injection hA with hA
 subst hA
 have hcl := sc_cells hx hxs
 have hcs : v.cells.size = ti.size := by rw [<- Array.length_toList, hcl, List.length_map, hl]
 refine ⟨w.setRow b (splice arr.toList (off + i * sz + j) (xs.map Sc.val)).toArray, ?_, g, fun u => did_keep R hn _ (setRow_same b _) (fun b' hb' hne => ?_) hless (fun hl' => ?_) u⟩
 ·rw [Addr.add_plain, <- Nat.add_assoc, <- hcl];exact run_storeVar hT ht hh hcs (by rw [<- hl]; exact hb) (by rw [hcl]; exact vals_one xs)
 ·refine setRow_other w b b' _ (fun e => ?_);subst e;obtain ⟨k1, k2⟩ := key;simp only at hkey;exact hne k1 k2 ho hkey
 ·exact he _ (hW g.own ho) (fun b' hb' hne => setRow_other w b b' _ (fun e => hne (e ▸ ho))) hl'
theorem ret_bad {ws : Ws} (h : runP s fresh (.ret .bad ws) seen rd = some r) (hs : Seen Mn seen) : r.2.1 = .bad /\ r.2.2 = ws /\ ∀ n ∈ names3 r.2.1 ++ namesW r.2.2, Mn n \/ InR fresh n := by
 obtain ⟨rfl, hn⟩ := ret_inv h hs
 exact ⟨rfl, rfl, hn⟩
theorem storeHead_inv {n sz i : Nat} {rows : List Flat} {holes log : List Nat} {fl : Flat} {ws : Ws} (hs : Seen Mn seen) (h : runP s fresh (storeHead n sz rows holes log i fl ws) seen rd = some r) :
  (∀ c ∈ holes, c = i) /\ r.2.1 = .bad /\ r.2.2 = (n, some (.nest true sz (rows.set i fl) [] (i :: log))) :: ws /\ ∀ n ∈ names3 r.2.1 ++ namesW r.2.2, Mn n \/ InR fresh n := by
 unfold storeHead at h
 split at h
 ·obtain ⟨h1, h2, h3⟩ := ret_bad h hs;exact ⟨fun c hc => by simp at hc, h1, h2, h3⟩
 ·obtain ⟨hc, h⟩ := test_inv' h;obtain ⟨h1, h2, h3⟩ := ret_bad h hs;exact ⟨fun c hc' => by simp at hc'; subst hc'; simpa using hc, h1, h2, h3⟩
 ·exact (qfq h).elim
open Classical in
noncomputable def mvKey (gone : List Nat) (n i : Nat) (k : Key) : Key := if k.1 ∈ gone /\ k.2 = none then (n, some i) else k
theorem head_core (hT : TabOk P T) (R : Rel Mn O0 w0 nt s g a w) {t : Nat} {ti : TI} (ht : lk T t = some ti) {n i sz : Nat} (hmn : Mn n) {rows : List Flat} {holes log : List Nat} (he : s.fe n = some (.nest true sz rows holes log))
  (hN : NestOk w g.own (some (n, none)) (fun i => some (n, some i)) (g.base n) (g.cap n) (g.rbase n) (g.rcap n) sz rows holes) {ad : Addr} (hA : g.base n = some ad) (hts : ti.size = 1) (hlt : i < rows.length) (hho : ∀ c ∈ holes, c = i)
  {Av : Option Addr} {cv : Nat} {fl : Flat} (gone : List Nat) (hg : ∀ m ∈ gone, Mn m /\ m ≠ n)
  (hnew : ∀ (w' : World) (own' : Nat -> Option Key), (∀ b m, b < w.heap.size -> m ∈ gone -> g.own b = some (m, none) -> own' b = some (n, some i) /\ w'.heap[b]? = w.heap[b]?) -> FlatOk w' own' (some (n, some i)) Av cv sz fl) :
  ∃ w' g', (Instr.storeAt t (.pointer (some (ad.add (i * 1 + 0)))) (.slice Av fl.length cv)).run P w = .ok () w' /\
   ∀ u, Did Mn s g w (InR fresh) .bad ((n, some (.nest true sz (rows.set i fl) [] (i :: log))) :: gone.map fun m => (m, none)) u w' g' := by
 rcases hN.room rfl with ⟨_, h0⟩ | ⟨b, off, arr, ty, hbase, hob, hh, hcap⟩
 ·rw [h0] at hlt; simp at hlt
 ·rw [hA] at hbase;injection hbase with hbase
  subst hbase;have hfit := hN.fits;have hpos : off + i < arr.size := by omega
  have hbl := lt_of_heap hh;have harr : ∀ q, (splice arr.toList (off + i) [Value.slice Av fl.length cv])[q]? = if q = off + i then some (.slice Av fl.length cv) else arr.toList[q]? := by
   intro q;rw [splice_get _ _ _ _ (by simp; omega)];by_cases hq : q = off + i
   ·subst hq; rw [if_pos (by simp), if_pos rfl]; simp
   ·rw [if_neg hq, if_neg (by simp; omega)]
  refine ⟨w.setRow b (splice arr.toList (off + i) [Value.slice Av fl.length cv]).toArray, _, ?_, fun u => did_set R hmn (fun k => if k = i then Av else g.rbase n k) (fun k => if k = i then cv else g.rcap n k) (mvKey gone n i) gone hg
   (fun m r hm => by simp [mvKey, hm]) (fun m r hm => ?_) _ (setRow_same b _) (fun b' hb' hne => ?_) (fun g' hg' => ?_) (fun g' hg' hl' => ?_) u⟩
  ·rw [Addr.add_plain];have := run_storeVar (w := w) hT ht (o := off + i) (v := .slice Av fl.length cv) hh (by simp [Value.cells, hts]) (by omega) (by simp [Value.cells, Value.oneCell']);simpa [Value.cells] using this
  ·simp only [mvKey];split
   ·exact .inl rfl
   ·exact .inr hm
  ·exact setRow_other w b b' _ (fun e => by subst e; exact hne n none hob rfl)
  ·have e1 : g'.base n = g.base n := by rw [hg']
   refine ⟨e1, by rw [hg'], fun p hp => ?_, fun r ver L sz' hv hr => ?_, fun ver hv => ?_⟩
   ·simp only [lenSz, at_put] at hp;simp only [lenSz, he];simpa using hp
   ·obtain ⟨q1, q2, q3, q4, fl', he', k1, k2, k3, k4⟩ := hr;rw [at_put] at he';injection he' with he'
    injection he' with z1 z2 z3 z4 z5
    subst z1 z2 z3 z4 z5;have hvl := hv _ _ _ _ _ he;have hlen : (i :: log).length - ver = (log.length - ver) + 1 := by simp; omega
    rw [hlen, List.take_succ_cons] at k2;have hri : i ≠ r := k2 i (by simp);rw [qNq hri] at k3;refine ⟨⟨_, _, _, _, fl', he, fun hx => hri (hho r hx).symm, fun c hc => k2 c (List.mem_cons_of_mem _ hc), k3, k4⟩, ?_, ?_⟩
    ·rw [hg']; simp [Ne.symm hri]
    ·rw [hg']; simp [Ne.symm hri]
   ·intro q1 q2 q3 q4 q5 he';rw [at_put] at he';injection he' with he'
    injection he' with z1 z2 z3 z4 z5
    subst z5;have := hv _ _ _ _ _ he;simp; omega
  ·have hown : ∀ b', g'.own b' = (g.own b').map (mvKey gone n i) := by rw [hg']; intro b'; rfl
   have hkeep : ∀ b' k, g.own b' = some (n, k) -> g'.own b' = some (n, k) := fun b' k hk => by
    rw [hown, hk];simp only [Option.map_some, mvKey];rw [if_neg];rintro ⟨h1, _⟩;exact (hg _ h1).2 rfl
   have e1 : g'.base n = some ⟨b, off, none⟩ := by rw [hg']; exact hA
   have e2 : g'.cap n = g.cap n := by rw [hg']
   have e3 : g'.rbase n = fun k => if k = i then Av else g.rbase n k := by rw [hg']; simp
   have e4 : g'.rcap n = fun k => if k = i then cv else g.rcap n k := by rw [hg']; simp
   show NestOk _ g'.own (some (n, none)) (fun i => some (n, some i)) (g'.base n) (g'.cap n) (g'.rbase n) (g'.rcap n) sz (rows.set i fl) []
   rw [e1, e2, e3, e4];have hsame : ∀ b', b' ≠ b -> (w.setRow b (splice arr.toList (off + i) [Value.slice Av fl.length cv]).toArray).heap[b']? = w.heap[b']? := fun b' h => setRow_other w b b' _ h
   refine ⟨by simpa using hN.fits, hN.pos, fun k fl' hk => ?_, fun k fl' hk _ => ?_, fun _ => .inr ⟨b, off, _, ty, rfl, hkeep b none hob, setRow_heap_at hh, ?_⟩⟩
   ·by_cases hki : k = i
    ·subst hki;rw [List.getElem?_set_self hlt] at hk;injection hk with hk
     subst hk;refine ⟨_, .slice Av fl.length cv, rfl, hkeep b none hob, ?_, fun _ => by simp⟩;rw [Addr.add_plain, cells_at (setRow_heap_at hh), List.getElem?_toArray, harr, if_pos rfl]
    ·rw [qNq (Ne.symm hki)] at hk;obtain ⟨a', z, hA', ho', hc', hz⟩ := hN.head k fl' hk;rw [hA] at hA';injection hA' with hA'
     subst hA';refine ⟨_, z, rfl, hkeep b none hob, ?_, fun _ => by simp only [if_neg hki]; exact hz (fun hx => hki (hho k hx))⟩;rw [Addr.add_plain, cells_at hh, <- Array.getElem?_toList] at hc';rw [Addr.add_plain, cells_at (setRow_heap_at hh), List.getElem?_toArray, harr, if_neg (by omega)];exact hc'
   ·by_cases hki : k = i
    ·subst hki;rw [List.getElem?_set_self hlt] at hk;injection hk with hk
     subst hk;simp only [if_true];refine hnew _ _ (fun b' m hb' hm ho => ⟨?_, hsame b' (fun e => ?_)⟩)
     ·rw [hown, ho];simp only [Option.map_some, mvKey];simp [hm]
     ·subst e;rw [hob] at ho;injection ho with ho
      injection ho with ho _
      exact (hg m hm).2 ho.symm
    ·rw [qNq (Ne.symm hki)] at hk;simp only [if_neg hki];refine (hN.row k fl' hk (fun hx => hki (hho k hx))).mono (fun _ => rfl) (fun b' hb' ho => ⟨hkeep b' _ ho, hsame b' (fun e => ?_)⟩);subst e;rw [hob] at ho;simp at ho
   ·simp only [List.size_toArray];rw [splice_length _ _ _ (by simp; omega), Array.length_toList];exact hcap
theorem head_store (hT : TabOk P T) (R : Rel Mn O0 w0 nt s g a w) {t : Nat} {ti : TI} (ht : lk T t = some ti) {n i sz : Nat} (hmn : Mn n) {rows : List Flat} {holes log : List Nat} (he : s.fe n = some (.nest true sz rows holes log))
  (hN : NestOk w g.own (some (n, none)) (fun i => some (n, some i)) (g.base n) (g.cap n) (g.rbase n) (g.rcap n) sz rows holes) {ad : Addr} (hA : g.base n = some ad) (hts : ti.size = 1) (hlt : i < rows.length) {x : SV} {v : Value} (hx : VR3 s g x v) (hs : Seen Mn seen)
  (h : runP s fresh (headVal n sz rows holes log i x) seen rd = some r) : OutU P Mn s g w fresh (Instr.storeAt t (.pointer (some (ad.add (i * 1 + 0)))) v) r := by
 unfold headVal at h
 split at h
 ·obtain ⟨hho, e1, e2, hn⟩ := storeHead_inv hs h;have hv : v = .slice none 0 0 := hx;subst hv;obtain ⟨w', g', hrun, hd⟩ := head_core (fresh := fresh) hT R ht hmn he hN hA hts hlt hho (Av := none) (cv := 0) (fl := []) [] (fun m hm => by simp at hm)
   (fun w' own' _ => ⟨by simp, hN.pos, fun i row h => by simp at h, fun i row j x h => by simp at h, fun _ => .inl ⟨rfl, rfl⟩⟩)
  exact ⟨w', g', hrun, e1, fun u => by rw [e1, e2]; exact hd u, hn⟩
 ·rename_i m
  cases hmnn : Nat.beq m n with
  | true => rw [hmnn] at h; exact (qfq h).elim
  | false =>
   rw [hmnn] at h;simp only [cond_false] at h;have hne : m ≠ n := Nat.ne_of_beq_eq_false hmnn;obtain ⟨e, seen2, rd2, hem, hok, hmm, _, hs2, h3⟩ := ent_inv R h hs;obtain ⟨sz'', fl, rfl⟩ : ∃ sz'' fl, e = .flat true sz'' fl := by
    cases e with
    | flat own sz' fl => cases own with
     | true => exact ⟨sz', fl, rfl⟩
     | false => exact (qfq h3).elim
    | _ => exact (qfq h3).elim
   simp only at h3;obtain ⟨hss, h4⟩ := bif_inv h3;have hss := qBq hss;subst hss;obtain ⟨hho, e1, e2, hn⟩ := storeHead_inv hs2 h4;obtain ⟨A, len, cap, rfl, hsub⟩ := hx;obtain ⟨rfl, rfl, rfl⟩ := hsub fl.length sz'' (by simp [lenSz, hem]);have hF : FlatOk w g.own (some (m, none)) (g.base m) (g.cap m) sz'' fl := hok;obtain ⟨w', g', hrun, hd⟩ := head_core (fresh := fresh) hT R ht hmn he hN hA hts hlt hho (Av := g.base m) (cv := g.cap m) (fl := fl) [m] (fun m' hm => by simp at hm; subst hm; exact ⟨hmm, hne⟩)
    (fun w' own' hq => hF.mono (fun _ => rfl) (fun b hb ho => hq b m hb (by simp) ho))
   exact ⟨w', g', hrun, e1, fun u => by rw [e1, e2]; exact hd u, hn⟩
 ·exact (qfq h).elim
theorem frz_store (hT : TabOk P T) (R : Rel Mn O0 w0 nt s g a w) {t : Nat} {ti : TI} (ht : lk T t = some ti) {n i sz : Nat} (hmn : Mn n) {rows : List Flat} (he : s.fe n = some (.fnest true sz rows))
  (hN : NestOk w g.own (some (n, none)) (fun _ => none) (g.base n) (g.cap n) (g.rbase n) (g.rcap n) sz rows []) {ad : Addr} (hA : g.base n = some ad) (hts : ti.size = 1) (hlt : i < rows.length) {x : SV} {v : Value} (hx : VR3 s g x v) (hs : Seen Mn seen)
  (h : runP s fresh (frzVal n sz rows i x) seen rd = some r) : OutU P Mn s g w fresh (Instr.storeAt t (.pointer (some (ad.add (i * 1 + 0)))) v) r := by
 unfold frzVal at h
 split at h
 ·rename_i m;obtain ⟨e, seen2, rd2, hem, hok, hmm, _, hs2, h3⟩ := ent_inv R h hs;obtain ⟨sz'', fl, rfl⟩ : ∃ sz'' fl, e = .flat false sz'' fl := by
   cases e with
   | flat own sz' fl => cases own with
    | false => exact ⟨sz', fl, rfl⟩
    | true => exact (qfq h3).elim
   | _ => exact (qfq h3).elim
  simp only at h3;obtain ⟨hss, h4⟩ := bif_inv h3;have hss := qBq hss;subst hss;obtain ⟨e1, e2, hn⟩ := ret_bad h4 hs2;obtain ⟨A, len, cap, rfl, hsub⟩ := hx;obtain ⟨rfl, rfl, rfl⟩ := hsub fl.length sz'' (by simp [lenSz, hem]);have hF : FlatOk w g.own none (g.base m) (g.cap m) sz'' fl := hok;rcases hN.room rfl with ⟨_, h0⟩ | ⟨b, off, arr, ty, hbase, hob, hh, hcap⟩
  ·rw [h0] at hlt; simp at hlt
  rw [hA] at hbase;injection hbase with hbase
  subst hbase;have hfit := hN.fits;have hpos : off + i < arr.size := by omega
  have hbl := lt_of_heap hh;have harr : ∀ q, (splice arr.toList (off + i) [Value.slice (g.base m) fl.length (g.cap m)])[q]? = if q = off + i then some (.slice (g.base m) fl.length (g.cap m)) else arr.toList[q]? := by
   intro q;rw [splice_get _ _ _ _ (by simp; omega)];by_cases hq : q = off + i
   ·subst hq; rw [if_pos (by simp), if_pos rfl]; simp
   ·rw [if_neg hq, if_neg (by simp; omega)]
  have hsame : ∀ b', b' ≠ b -> (w.setRow b (splice arr.toList (off + i) [Value.slice (g.base m) fl.length (g.cap m)]).toArray).heap[b']? = w.heap[b']? := fun b' h => setRow_other w b b' _ h
  have hrun := run_storeVar (w := w) hT ht (o := off + i) (v := .slice (g.base m) fl.length (g.cap m)) hh (by simp [Value.cells, hts]) (by omega) (by simp [Value.cells, Value.oneCell']);have did := fun u => did_set (fresh := fresh) (e' := .fnest true sz'' (rows.set i fl)) R hmn (fun k => if k = i then g.base m else g.rbase n k) (fun k => if k = i then g.cap m else g.rcap n k) id [] (fun m hm => by simp at hm) (fun _ _ _ => rfl) (fun m r hm => by simp at hm)
   (w.setRow b (splice arr.toList (off + i) [Value.slice (g.base m) fl.length (g.cap m)]).toArray) (setRow_same b _) (fun b' hb' hne => setRow_other w b b' _ (fun e => by subst e; exact hne n none hob rfl)) (fun g' hg' => by
    refine ⟨by rw [hg'], by rw [hg'], fun p hp => ?_, fun r ver L sz' hv hr => ?_, fun ver hv => ?_⟩
    ·simp only [List.map_nil, lenSz, at_put] at hp;simp only [lenSz, he];simpa using hp
    ·obtain ⟨_, _, _, _, _, he', _⟩ := hr;simp only [List.map_nil] at he';rw [at_put] at he';simp at he'
    ·intro q1 q2 q3 q4 q5 he';simp only [List.map_nil] at he';rw [at_put] at he';simp at he') (fun g' hg' hl' => by
    have hown : g'.own = g.own := by rw [hg']; simp
    have e1 : g'.base n = some ⟨b, off, none⟩ := by rw [hg']; exact hA
    have e2 : g'.cap n = g.cap n := by rw [hg']
    have e3 : g'.rbase n = fun k => if k = i then g.base m else g.rbase n k := by rw [hg']; simp
    have e4 : g'.rcap n = fun k => if k = i then g.cap m else g.rcap n k := by rw [hg']; simp
    show NestOk _ g'.own (some (n, none)) (fun _ => none) (g'.base n) (g'.cap n) (g'.rbase n) (g'.rcap n) sz'' (rows.set i fl) []
    rw [e1, e2, e3, e4, hown];refine ⟨by simpa using hN.fits, hN.pos, fun k fl' hk => ?_, fun k fl' hk _ => ?_, fun _ => .inr ⟨b, off, _, ty, rfl, hob, setRow_heap_at hh, ?_⟩⟩
    ·by_cases hki : k = i
     ·subst hki;rw [List.getElem?_set_self hlt] at hk;injection hk with hk
      subst hk;refine ⟨_, .slice (g.base m) fl.length (g.cap m), rfl, hob, ?_, fun _ => by simp⟩;rw [Addr.add_plain, cells_at (setRow_heap_at hh), List.getElem?_toArray, harr, if_pos rfl]
     ·rw [qNq (Ne.symm hki)] at hk;obtain ⟨a', z, hA', ho', hc', hz⟩ := hN.head k fl' hk;rw [hA] at hA';injection hA' with hA'
      subst hA';refine ⟨_, z, rfl, hob, ?_, fun _ => by simp only [if_neg hki]; exact hz (by simp)⟩;rw [Addr.add_plain, cells_at hh, <- Array.getElem?_toList] at hc';rw [Addr.add_plain, cells_at (setRow_heap_at hh), List.getElem?_toArray, harr, if_neg (by omega)];exact hc'
    ·have none_ne : ∀ b', g.own b' = none -> b' ≠ b := fun b' ho e => by subst e; rw [hob] at ho; simp at ho
     by_cases hki : k = i
     ·subst hki;rw [List.getElem?_set_self hlt] at hk;injection hk with hk
      subst hk;simp only [if_true];exact hF.mono id (fun b' hb' ho => ⟨ho, hsame b' (none_ne b' ho)⟩)
     ·rw [qNq (Ne.symm hki)] at hk;simp only [if_neg hki];exact (hN.row k fl' hk (by simp)).mono id (fun b' hb' ho => ⟨ho, hsame b' (none_ne b' ho)⟩)
    ·simp only [List.size_toArray];rw [splice_length _ _ _ (by simp; omega), Array.length_toList];exact hcap) u
  refine ⟨_, _, ?_, e1, fun u => by rw [e1, e2]; exact did u, hn⟩;rw [Addr.add_plain];simpa [Value.cells] using hrun
 ·exact (qfq h).elim
theorem store0_sim (hT : TabOk P T) (R : Rel Mn O0 w0 nt s g a w) (hs : Seen Mn seen) {t : Nat} {ti : TI} (ht : lk T t = some ti) {y x : SV} {u v : Value} (hy : VR3 s g y u) (hx : VR3 s g x v) (hxn : Seen Mn (names3 x))
  (h : runP s fresh (storeP0 ti y x) seen rd = some r) : OutU P Mn s g w fresh (Instr.storeAt t u v) r := by
 have tk := hT t ti ht
 unfold storeP0 at h
 cases y with
 | ptr n off =>
  simp only at h;obtain ⟨e, seen', rd', he, hok, hmn, _, hs', h1⟩ := ent_inv R h hs
  clear h
  cases e with
  | blk cs =>
   simp only at h1;obtain ⟨hb1, h2⟩ := bif_inv h1;obtain ⟨hb2, h3⟩ := bif_inv h2
   clear h1 h2
   simp only [Bool.and_eq_true] at hb1;have hlen := qBq hb1.1;have hle := Nat.le_of_ble_eq_true hb2;obtain ⟨hr1, hr2⟩ := cellsOf_rel hx hb1.2;obtain ⟨b', hb', rfl⟩ := hy;obtain ⟨b, arr, ty, hb, ho, hh, hl, hi⟩ := hok;rw [hb] at hb';injection hb' with hb'
   injection hb' with hb'
   subst hb';have hcs : v.cells.size = ti.size := by rw [<- Array.length_toList, <- hr1.1, hlen]
   have hal : arr.size = cs.length := by rw [<- Array.length_toList, <- hl]
   obtain ⟨e1, e2, hn⟩ := ret_bad h3 hs';have hrun := run_storeVar (w := w) hT ht (o := off) hh hcs (by rw [hal]; exact hle) hr2;refine ⟨_, g, hrun, e1, fun u => ?_, hn⟩;rw [e1, e2];refine did_keep R hmn _ (setRow_same b _) (fun b' hb' hne => ?_) ?_ (fun hl' => ?_) u
   ·exact setRow_other w b b' _ (fun e => by subst e; exact hne n none ho rfl)
   ·refine ⟨rfl, rfl, fun p hp => ?_, fun r ver L sz _ hr => ?_, fun ver hv => ?_⟩
    ·simp only [lenSz] at hp;rw [at_put] at hp;simp at hp
    ·obtain ⟨_, _, _, _, _, he', _⟩ := hr;rw [at_put] at he';simp at he'
    ·intro q1 q2 q3 q4 q5 he';rw [at_put] at he';simp at he'
   ·refine ⟨b, _, ty, hb, ho, setRow_heap_at hh, ?_⟩;have hll : All2 (VR1 s g) (splice cs off (cellsOf x)) (splice arr.toList off v.cells.toList) := All2.splice ⟨hl, hi⟩ hr1 (by rw [hlen]; exact hle);refine hll.imp (fun z z' hz hvr => hvr.less (fun m hm => hl' m ?_))
    -- names of the new cells
    have : ∀ z ∈ splice cs off (cellsOf x), ∀ m ∈ names1 z, Mn m := by
     intro z hz m hm;obtain ⟨q, hq⟩ := List.getElem?_of_mem hz;rw [splice_get _ _ _ _ (by rw [hlen]; exact hle)] at hq;split at hq
     ·refine hxn m ?_;have := mem_namesL1 hq hm
      cases x with
      | agg l => exact this
      | tup l => simp [cellsOf, solid] at hb1
      | fn f l => simp [cellsOf, solid] at hb1
      | _ => simp only [cellsOf, namesL1, List.append_nil] at this; exact this
     ·exact (R.me n _ he).2 m (mem_namesL1 hq hm)
    exact this z hz m hm
  | flat own sz rows =>
   cases own with
   | false => exact (qfq h1).elim
   | true =>
    simp only at h1;obtain ⟨hg, h2⟩ := bif_inv h1;simp only [Bool.and_eq_true] at hg;obtain ⟨hgr, hsz, hoff⟩ := hg;have hsz := qBq hsz;have hoff := qBq hoff;subst hsz hoff;have hts := isGreat_size hgr;split at h2
    ·rename_i l;obtain ⟨hl, h3⟩ := test_inv' h2;simp only [Bool.and_eq_true, decide_eq_true_eq] at hl;obtain ⟨e1, e2, hn⟩ := ret_bad h3 hs';obtain ⟨cs, rfl, hcs⟩ := hx;have hF : FlatOk w g.own (some (n, none)) (g.base n) (g.cap n) 1 rows := hok;obtain ⟨b, hb, rfl⟩ := hy;rcases hF.room rfl with ⟨_, h0⟩ | ⟨b', off, arr, ty, hA, ho, hh, hcs2, hcap⟩
     ·rw [h0] at hl; simp at hl; omega
     ·rw [hb] at hA;injection hA with hA
      injection hA with hA1 hA2
      subst hA1 hA2;have hfit := hF.fits;have hcl : cs.size = ti.size := by rw [<- Array.length_toList, hcs, List.length_map]; exact hl.2
      have hrun := run_storeVar (w := w) hT ht (o := 0) (v := .agg cs) hh (by simpa [Value.cells] using hcl) (by omega) (by
       intro x hx;have hx : x ∈ cs.toList := by simpa [Value.cells] using hx
       rw [hcs] at hx;exact vals_one _ x hx)
      refine ⟨_, g, hrun, e1, fun u => ?_, hn⟩;rw [e1, e2];refine did_keep R hmn _ (setRow_same b _) (fun b' hb' hne => ?_) ?_ (fun hl' => ?_) u
      ·exact setRow_other w b b' _ (fun e => by subst e; exact hne n none ho rfl)
      ·refine Less.sameLen ?_ (fun r ver L sz hr => ?_) (fun ver hv => ?_) rfl rfl (fun _ => rfl) (fun _ => rfl)
       ·simp only [lenSz, at_put, he];simp [vecR_length]; omega
       ·obtain ⟨_, _, _, _, _, he', _⟩ := hr;rw [at_put] at he';simp at he'
       ·intro q1 q2 q3 q4 q5 he';rw [at_put] at he';simp at he'
      ·show FlatOk _ g.own (some (n, none)) (g.base n) (g.cap n) 1 (vecR l)
       rw [hb];have hsp : 0 + cs.toList.length <= arr.toList.length := by simp; omega
       refine flat_new _ ho (setRow_heap_at hh) (by rw [vecR_length]; omega) (by omega) (fun i row hi => ?_) (fun i row j x hi hj => ?_) ?_ hcap
       ·obtain ⟨x, _, rfl⟩ := vecR_inv hi; rfl
       ·obtain ⟨y, hy, rfl⟩ := vecR_inv hi;have : j = 0 := by
         cases j with
         | zero => rfl
         | succ j => simp at hj
        subst this;simp at hj;subst hj;have hil : i < cs.toList.length := by
         have := (qSq.1 hy).1;simp; omega
        rw [Nat.mul_one, Nat.add_zero, List.getElem?_toArray];simp only [Value.cells];rw [splice_get _ _ _ _ hsp, if_pos ⟨by omega, by omega⟩, Nat.sub_zero, hcs, List.getElem?_map, hy]; rfl
       ·simp only [List.size_toArray, Value.cells];rw [splice_length _ _ _ hsp, Array.length_toList];omega
    ·exact (qfq h2).elim
  | _ => exact (qfq h1).elim
 | ep n row sz i j =>
  cases row with
  | none =>
   simp only at h;obtain ⟨e, seen', rd', he, hok, hmn, _, hs', h1⟩ := ent_inv R h hs
   clear h
   obtain ⟨ad, hA, rfl⟩ := hy
   cases e with
   | flat own sz' rows =>
    cases own with
    | false => exact (qfq h1).elim
    | true =>
     simp only at h1;obtain ⟨hb1, h2⟩ := bif_inv h1;obtain ⟨hb2, h3⟩ := bif_inv h2;obtain ⟨xs, hxs, h4⟩ := scCells_inv h3;obtain ⟨row, hrow, h5⟩ := look_inv h4;obtain ⟨hb3, h6⟩ := bif_inv h5
     clear h1 h2 h3 h4 h5
     have hsz := qBq hb1;subst hsz;have hlen := qBq hb2;have hle := Nat.le_of_ble_eq_true hb3;obtain ⟨e1, e2, hn⟩ := ret_bad h6 hs';have hF : FlatOk w g.own (some (n, none)) (g.base n) (g.cap n) sz rows := hok;obtain ⟨w', hrun, g', hd⟩ := flat_store (fresh := fresh) hT R ht hmn (key := (n, none)) rfl hF hx hxs hlen hrow hle hA (.flat true sz (rows.set i (splice row j xs)))
      (by
       refine Less.sameLen ?_ (fun r ver L sz hr => ?_) (fun ver hv => ?_) rfl rfl (fun _ => rfl) (fun _ => rfl)
       ·simp only [lenSz, at_put, he]; simp
       ·obtain ⟨_, _, _, _, _, he', _⟩ := hr; rw [at_put] at he'; simp at he'
       ·intro q1 q2 q3 q4 q5 he'; rw [at_put] at he'; simp at he')
      (fun w' hW _ _ => hW) (fun b k' h1 h2 => by rw [h1] at h2; injection h2 with h2; exact h2.symm)
     exact ⟨w', g', hrun, e1, fun u => by rw [e1, e2]; exact hd u, hn⟩
   | nest own sz' rows holes log =>
    cases own with
    | false => exact (qfq h1).elim
    | true =>
     simp only at h1;have hN : NestOk w g.own (some (n, none)) (fun i => some (n, some i)) (g.base n) (g.cap n) (g.rbase n) (g.rcap n) sz' rows holes := hok;cases hk : ti.kind <;> rw [hk] at h1 <;> cases j <;> simp only at h1 <;> try exact (qfq h1).elim
     obtain ⟨hb1, h2⟩ := bif_inv h1;obtain ⟨hlt, h3⟩ := test_inv' h2
     clear h1 h2
     simp only [Bool.and_eq_true] at hb1;have hsz := qBq hb1.1;have hts := qBq hb1.2;subst hsz;have hlt : i < rows.length := by simpa using hlt
     exact head_store hT R ht hmn he hN hA hts hlt hx hs' h3
   | blk cs => exact (qfq h1).elim
   | map _ _ _ => exact (qfq h1).elim
   | rblk _ => exact (qfq h1).elim
   | was _ _ => exact (qfq h1).elim
   | rmap _ _ _ => exact (qfq h1).elim
   | fmap _ => exact (qfq h1).elim
   | fnb _ _ _ => exact (qfq h1).elim
   | fnest own sz' rows =>
    cases own with
    | false => exact (qfq h1).elim
    | true =>
     simp only at h1;have hN : NestOk w g.own (some (n, none)) (fun _ => none) (g.base n) (g.cap n) (g.rbase n) (g.rcap n) sz' rows [] := hok;cases hk : ti.kind <;> rw [hk] at h1 <;> cases j <;> simp only at h1 <;> try exact (qfq h1).elim
     obtain ⟨hb1, h2⟩ := bif_inv h1;obtain ⟨hlt, h3⟩ := test_inv' h2
     clear h1 h2
     simp only [Bool.and_eq_true] at hb1;have hsz := qBq hb1.1;have hts := qBq hb1.2;subst hsz;have hlt : i < rows.length := by simpa using hlt
     exact frz_store hT R ht hmn he hN hA hts hlt hx hs' h3
  | some rv =>
   obtain ⟨rr, ver⟩ := rv;simp only at h;obtain ⟨own', sz', rows, holes, log, fl, seen', rd', he, hown, hok, hmn, h1, h2, h3, hs', h4⟩ := rowOf_inv R h hs
   clear h
   have hown := hown rfl;subst hown;obtain ⟨hb1, h5⟩ := bif_inv h4;obtain ⟨hb2, h6⟩ := bif_inv h5;obtain ⟨xs, hxs, h7⟩ := scCells_inv h6;obtain ⟨row, hrow, h8⟩ := look_inv h7;obtain ⟨hb3, h9⟩ := bif_inv h8
   clear h4 h5 h6 h7 h8
   have hsz := qBq hb1;subst hsz;have hlen := qBq hb2;have hle := Nat.le_of_ble_eq_true hb3;obtain ⟨e1, e2, hn⟩ := ret_bad h9 hs';have hN : NestOk w g.own (some (n, none)) (fun i => some (n, some i)) (g.base n) (g.cap n) (g.rbase n) (g.rcap n) sz rows holes := hok;have hF := hN.row rr fl h3 h1;obtain ⟨_, hy⟩ := hy;obtain ⟨ad, hA, rfl⟩ := hy fl.length sz ⟨_, _, _, _, fl, he, h1, h2, h3, rfl⟩;have hrl : rr < rows.length := (qSq.1 h3).1;obtain ⟨w', hrun, g', hd⟩ := flat_store (fresh := fresh) hT R ht hmn (key := (n, some rr)) rfl hF hx hxs hlen hrow hle hA (.nest true sz (rows.set rr (fl.set i (splice row j xs))) holes log)
    (by
     refine Less.sameLen ?_ (fun r ver L sz hr => ?_) (fun ver hv => ?_) rfl rfl (fun _ => rfl) (fun _ => rfl)
     ·simp only [lenSz, at_put, he]; simp
     ·obtain ⟨q1, q2, q3, q4, fl', he', k1, k2, k3, k4⟩ := hr;rw [at_put] at he';injection he' with he'
      injection he' with z1 z2 z3 z4 z5
      subst z1 z2 z3 z4 z5;by_cases hrr : r = rr
      ·subst hrr;rw [List.getElem?_set_self hrl] at k3;injection k3 with k3
       exact ⟨_, _, _, _, fl, he, k1, k2, h3, by rw [<- k4, <- k3]; simp⟩
      ·rw [qNq (Ne.symm hrr)] at k3;exact ⟨_, _, _, _, fl', he, k1, k2, k3, k4⟩
     ·intro q1 q2 q3 q4 q5 he';rw [at_put] at he';injection he' with he'
      injection he' with z1 z2 z3 z4 z5
      subst z5;exact hv _ _ _ _ _ he)
    (fun w' hW hsame hl' => by
     show NestOk w' g.own (some (n, none)) (fun i => some (n, some i)) (g.base n) (g.cap n) (g.rbase n) (g.rcap n) sz (rows.set rr (fl.set i (splice row j xs))) holes
     have keepb : ∀ b k, g.own b = k -> k ≠ some (n, some rr) -> b < w.heap.size -> w'.heap[b]? = w.heap[b]? := fun b k hk hne hlt => hsame b hlt (by rw [hk]; exact hne)
     refine ⟨by simpa using hN.fits, hN.pos, fun k fl' hk => ?_, fun k fl' hk hnk => ?_, fun hs => ?_⟩
     ·obtain ⟨fl0, k1, k2⟩ : ∃ fl0, rows[k]? = some fl0 /\ fl0.length = fl'.length := by
       by_cases hrr : k = rr
       ·subst hrr; rw [List.getElem?_set_self hrl] at hk; injection hk with hk; exact ⟨fl, h3, by rw [<- hk]; simp⟩
       ·rw [qNq (Ne.symm hrr)] at hk; exact ⟨fl', hk, rfl⟩
      obtain ⟨a', z, hA', ho', hc', hz⟩ := hN.head k fl0 k1;have hlt := World.block_lt_of_cell? w _ hc';rw [Addr.add_block] at hlt;refine ⟨a', z, hA', ho', ?_, fun hnh => by rw [<- k2]; exact hz hnh⟩;rw [cell_of_block (w := w) (by rw [Addr.add_block]; exact keepb _ _ ho' (by simp) hlt)];exact hc'
     ·by_cases hrr : k = rr
      ·subst hrr; rw [List.getElem?_set_self hrl] at hk; injection hk with hk; subst hk; exact hW
      ·rw [qNq (Ne.symm hrr)] at hk;exact (hN.row k fl' hk hnk).mono (fun _ => rfl) (fun b hlt ho => ⟨ho, keepb b _ ho (by simp [hrr]) hlt⟩)
     ·rcases hN.room rfl with ⟨h5, h6⟩ | ⟨b, off, arr, ty, h5, h6, h7, h8⟩
      ·rw [h6] at hrl; simp at hrl
      ·exact .inr ⟨b, off, arr, ty, h5, h6, by rw [keepb b _ h6 (by simp) (lt_of_heap h7)]; exact h7, h8⟩
     ) (fun b k' h1 h2 => by rw [h1] at h2; injection h2 with h2; exact h2.symm)
   exact ⟨w', g', hrun, e1, fun u => by rw [e1, e2]; exact hd u, hn⟩
 | _ => exact (qfq h).elim
theorem storeFn_sim (hT : TabOk P T) (R : Rel Mn O0 w0 nt s g a w) (hs : Seen Mn seen) {t : Nat} {ti : TI} (ht : lk T t = some ti) {y : SV} {f : Nat} {l : List SV} {u v : Value} (hy : VR3 s g y u) (hx : VR3 s g (.fn f l) v) (hxn : Seen Mn (namesL1 l))
  (h : runP s fresh (storeFn ti y f l) seen rd = some r) : OutU P Mn s g w fresh (Instr.storeAt t u v) r := by
 unfold storeFn at h
 split at h
 ·rename_i n;obtain ⟨hb1, h2⟩ := bif_inv h
  clear h
  simp only [Bool.and_eq_true] at hb1;have hsz := qBq hb1.1;obtain ⟨e, seen', rd', he, hok, hmn, _, hs', h1⟩ := ent_inv R h2 hs;obtain ⟨z, rfl⟩ : ∃ z, e = .blk [z] := by
   cases e with
   | blk cs => match cs with
    | [z] => exact ⟨z, rfl⟩
    | [] => exact (qfq h1).elim
    | _ :: _ :: _ => exact (qfq h1).elim
   | _ => exact (qfq h1).elim
  simp only at h1;obtain ⟨cs, rfl, hcs⟩ := hx;obtain ⟨b', hb', rfl⟩ := hy;obtain ⟨b, arr, ty, hb, ho, hh, hl, hi⟩ := hok;rw [hb] at hb';injection hb' with hb'
  injection hb' with hb'
  subst hb';have hal : arr.size = 1 := by rw [<- Array.length_toList, <- hl]; rfl
  obtain ⟨e1, e2, hn⟩ := ret_bad h1 hs';have hrun := run_storeVar (w := w) hT ht (o := 0) (v := .func (.func f) #[] cs) hh (by simp [Value.cells, hsz]) (by rw [hal, hsz]; exact Nat.le_refl _) (fun x hx => by simp [Value.cells] at hx; subst hx; rfl);refine ⟨_, g, hrun, e1, fun u => ?_, hn⟩;rw [e1, e2];refine did_keep R hmn _ (setRow_same b _) (fun b' hb' hne => ?_) ?_ (fun hl' => ?_) u
  ·exact setRow_other w b b' _ (fun e => by subst e; exact hne n none ho rfl)
  ·refine ⟨rfl, rfl, fun p hp => ?_, fun r ver L sz _ hr => ?_, fun ver hv => ?_⟩
   ·simp only [lenSz] at hp;rw [at_put] at hp;simp at hp
   ·obtain ⟨_, _, _, _, _, he', _⟩ := hr;rw [at_put] at he';simp at he'
   ·intro q1 q2 q3 q4 q5 he';rw [at_put] at he';simp at he'
  ·refine ⟨b, _, ty, cs, hb, ho, setRow_heap_at hh, ?_, ?_⟩
   ·obtain ⟨q, hq⟩ : ∃ q, arr.toList = [q] := List.length_eq_one_iff.1 (by rw [Array.length_toList, hal]);simp [hq, Value.cells, splice]
   ·exact hcs.imp (fun z z' hz hvr => hvr.less (fun m hm => hl' m (by
     obtain ⟨q, hq⟩ := List.getElem?_of_mem hz;exact hxn m (mem_namesL1 hq hm))))
 ·exact (qfq h).elim
theorem store_sim (hT : TabOk P T) (R : Rel Mn O0 w0 nt s g a w) (hs : Seen Mn seen) {t : Nat} {ti : TI} (ht : lk T t = some ti) {y x : SV} {u v : Value} (hy : VR3 s g y u) (hx : VR3 s g x v) (hxn : Seen Mn (names3 x))
  (h : runP s fresh (storeP ti y x) seen rd = some r) : OutU P Mn s g w fresh (Instr.storeAt t u v) r := by
 unfold storeP at h
 split at h
 ·exact storeFn_sim hT R hs ht hy hx hxn h
 ·exact store0_sim hT R hs ht hy hx hxn h
end
end Go.Sh
namespace Go.Sh
variable [Fwd]
section
variable {P : Program} {T : Tab} {Mn O0 : Nat -> Prop} {w0 : Base} {w : World} {nt : Nat} {s : S} {g : G} {a : Act} {fresh : Nat} {seen rd : List Nat} {r : List Nat × SV × Ws}
def cellsR (rows : Flat) : List Value := rows.flatten.map Sc.val
theorem flat_get {rows : Flat} {sz : Nat} (he : ∀ (i : Nat) (row : Row), rows[i]? = some row -> row.length = sz) : ∀ (i j : Nat) (row : Row), rows[i]? = some row -> j < sz -> rows.flatten[i * sz + j]? = row[j]? := by
 induction rows with
 | nil => intro i j row h; simp at h
 | cons x q ih =>
  intro i j row h hj;have hx : x.length = sz := he 0 x rfl
  cases i with
  | zero => simp at h; subst h; simp only [List.flatten_cons, Nat.zero_mul, Nat.zero_add]; rw [qLq (by omega)]
  | succ i =>
   simp only [List.flatten_cons];rw [qRq (by rw [hx, Nat.add_mul]; omega)];rw [<- ih (fun i row h => he (i + 1) row (by simpa using h)) i j row (by simpa using h) hj]
   congr 1
   rw [hx, Nat.add_mul]; omega
theorem flat_len {rows : Flat} {sz : Nat} (he : ∀ (i : Nat) (row : Row), rows[i]? = some row -> row.length = sz) : rows.flatten.length = rows.length * sz := by
 induction rows with
 | nil => simp
 | cons x q ih =>
  have hx : x.length = sz := he 0 x rfl;simp only [List.flatten_cons, List.length_append, List.length_cons, hx, ih (fun i row h => he (i + 1) row (by simpa using h)), Nat.add_mul];omega
theorem cellsR_len {rows : Flat} {sz : Nat} (he : ∀ (i : Nat) (row : Row), rows[i]? = some row -> row.length = sz) : (cellsR rows).length = rows.length * sz := by rw [cellsR, List.length_map, flat_len he]
theorem cellsR_get {rows : Flat} {sz : Nat} (he : ∀ (i : Nat) (row : Row), rows[i]? = some row -> row.length = sz) {i j : Nat} {row : Row} {x : Sc} (hi : rows[i]? = some row) (hx : row[j]? = some x) : (cellsR rows)[i * sz + j]? = some x.val := by
 have hj : j < sz := by rw [<- he i row hi]; exact (qSq.1 hx).1
 rw [cellsR, List.getElem?_map, flat_get he i j row hi hj, hx]; rfl
theorem cellsR_one (rows : Flat) : ∀ v ∈ cellsR rows, v.oneCell' = true := vals_one _
theorem FlatOk.loads {own : Nat -> Option Key} {key : Option Key} {A : Option Addr} {cap sz n c : Nat} {rows : Flat} (h : FlatOk w own key A cap sz rows) (hn : n = rows.length) : (Builtin.firstCells sz n (.slice A n c)).run P w = .ok (cellsR rows).toArray w := by
 subst hn
 cases A with
 | none =>
  have : rows = [] := by
   cases rows with
   | nil => rfl
   | cons x q =>
    have hx := h.even 0 x rfl;have hp := h.pos;obtain ⟨a, ha, _⟩ := h.cell 0 x 0 (x[0]'(by omega)) rfl (qEq (by omega));simp at ha
  subst this
  rfl
 | some ad =>
  have := run_loadCells_list (P := P) w ad (cellsR rows) (fun k v hk => by
   have hlen := cellsR_len h.even;have hkl : k < rows.length * sz := by rw [<- hlen]; exact (qSq.1 hk).1
   have hp := h.pos;have hq : k / sz < rows.length := Nat.div_lt_of_lt_mul (by rw [Nat.mul_comm]; exact hkl);have hrow : rows[k / sz]? = some rows[k / sz] := qEq hq;have hr := h.even _ _ hrow;have hm : k % sz < rows[k / sz].length := by rw [hr]; exact Nat.mod_lt _ hp
   have hx : rows[k / sz][k % sz]? = some (rows[k / sz][k % sz]) := qEq hm;have hsplit : k / sz * sz + k % sz = k := by rw [Nat.mul_comm]; exact Nat.div_add_mod k sz
   obtain ⟨a', ha', _, hc⟩ := h.cell _ _ _ _ hrow hx;injection ha' with ha'
   subst ha';rw [hsplit] at hc;have hg := cellsR_get h.even hrow hx;rw [hsplit, hk] at hg;injection hg with hg
   rw [hg]; exact hc)
  rw [cellsR_len h.even] at this;simpa [Builtin.firstCells] using this
theorem next_le (n c : Nat) (h : c < n) : Builtin.nextslicecap n c <= 2 * n + 1000 := by
 have hg : ∀ (k c : Nat), c <= 2 * n + 1000 -> Builtin.growBy n k c <= 2 * n + 1000 := by
  intro k
  induction k with
  | zero => intro c h; exact h
  | succ k ih =>
   intro c h;simp only [Builtin.growBy];split
   ·exact h
   ·rename_i hc;exact ih _ (by omega)
 unfold Builtin.nextslicecap
 split
 ·omega
 ·split
  ·omega
  ·exact hg 4 c (by omega)
theorem run_append_fits (hT : TabOk P T) {t e : Nat} {ti ei : TI} (ht : lk T t = some ti) (hk : ti.kind = .slice e) (he : lk T e = some ei) (ty : TypeId) {A Ax : Option Addr} {len cap n cx : Nat} {news : List Value} (hn : len + n <= cap) (hnew : (Builtin.firstCells ei.size n (.slice Ax n cx)).run P w = .ok news.toArray w) {w' : World}
  (hst : (match A with | some a => storeCells (a.add (len * ei.size)) news | none => pure ()).run P w = .ok () w') :
  (Builtin.append_ #[t, t] ty #[.slice A len cap, .slice Ax n cx]).run P w = .ok (.slice A (len + n) cap) w' := by
 have hu := (hT t ti ht).run_slice w hk
 have hsz := (hT e ei he).run_size w
 cases A with
 | none =>
  have hst : w = w' := by simpa using hst
  subst hst;simp [Builtin.append_, hu, hsz, Builtin.lenOf, hn, hnew]
 | some ad =>
  simp only at hst;simp [Builtin.append_, hu, hsz, Builtin.lenOf, hn, hnew, hst]
theorem zeroCells_eq (z : Array Value) (n : Nat) : (Builtin.zeroCells z n).size = n * z.size := by simp [Builtin.zeroCells]
theorem run_append_grows (hT : TabOk P T) {t e : Nat} {ti ei : TI} (ht : lk T t = some ti) (hk : ti.kind = .slice e) (he : lk T e = some ei) (ty : TypeId) {A Ax : Option Addr} {len cap n cx : Nat} {olds news : List Value} (hn : cap < len + n) (hroom : len + n <= 2147483648)
  (hold : (Builtin.firstCells ei.size len (.slice A len cap)).run P w.drew = .ok olds.toArray w.drew) (hnew : (Builtin.firstCells ei.size n (.slice Ax n cx)).run P w.drew = .ok news.toArray w.drew) :
  ∃ (c : Nat) (rest : Array Value), len + n <= c /\ c <= 9223372036854775807 /\ rest.size = (c - (len + n)) * ei.size /\
   (Builtin.append_ #[t, t] ty #[.slice A len cap, .slice Ax n cx]).run P w = .ok (.slice (some ⟨w.heap.size, 0, none⟩) (len + n) c) (w.drew.alloc (.cells (olds ++ news ++ rest.toList).toArray e)) := by
 have hu := (hT t ti ht).run_slice w hk
 have ek := hT e ei he
 have hsz := ek.run_size w
 obtain ⟨z, hz, hz1, _⟩ := ek.run_zero w.drew
 obtain ⟨i, z', hi, _, hb, _⟩ := ek.info
 have hinfo : ∀ w : World, (typeInfo e).run P w = .ok i w := fun w => by simp [typeInfo, hi]
 have hp := ek.pos
 have hnl := next_le (len + n) cap hn
 have hbig : ¬ (Builtin.nextslicecap (len + n) cap * i.bytes > 281474976710656) := by
  have : Builtin.nextslicecap (len + n) cap * i.bytes <= 4294968296 * 32768 := Nat.mul_le_mul (by omega) (by omega);omega
 have h63 : ¬ (((len + n : Nat) : Int) > IntKind.i64.max) := by
  have : IntKind.i64.max = 9223372036854775807 := by decide
  rw [this]; omega
 refine ⟨(Question.appendCap (len + n) cap e).cut (w.tape w.drawn (.appendCap (len + n) cap e)), Builtin.zeroCells z.cells (((Question.appendCap (len + n) cap e).cut (w.tape w.drawn (.appendCap (len + n) cap e))) - (len + n)), ?_, ?_, ?_, ?_⟩
 ·simp only [Question.cut]; omega
 ·simp only [Question.cut];have := Nat.mod_lt (w.tape w.drawn (.appendCap (len + n) cap e)) (show 0 < 2 ^ 63 - (len + n) by omega);omega
 ·rw [zeroCells_eq, hz1]
 ·have hd : w.drew.heap = w.heap := rfl;have hn' : ¬ (len + n <= cap) := by omega
  have hbig' : ¬ (Builtin.nextslicecap (len + n) cap * i.bytes > 2 ^ 48) := by
   have e : (2 : Nat) ^ 48 = 281474976710656 := by decide
   rw [e]; exact hbig
  have hb0 : i.bytes ≠ 0 := by omega
  have hforced : (Question.appendCap (len + n) cap e).forced = false := rfl;have hch : (choose (.appendCap (len + n) cap e)).run P w = .ok ((Question.appendCap (len + n) cap e).cut (w.tape w.drawn (.appendCap (len + n) cap e))) w.drew := by
   rw [run_choose, hforced]; rfl
  have hu' := (hT t ti ht).run_slice w.drew hk;have hsz' := ek.run_size w.drew;have key : ∀ (x y : Sem Value), ((if Builtin.nextslicecap (len + n) cap * i.bytes > 2 ^ 48 then x else y).run P w) = y.run P w := fun x y => by rw [if_neg hbig']
  simp [Builtin.append_, hu, hsz, Builtin.lenOf, hn', hinfo, hb0];rw [if_neg (by simpa using hbig')];simp [hforced, hinfo, hold, hnew, hz, newRow]
  congr 2
  apply Array.ext'
  simp
theorem FlatOk.nil {own : Nat -> Option Key} {key : Option Key} {sz : Nat} (h : 0 < sz) : FlatOk w own key none 0 sz [] :=
 ⟨by simp, h, fun i row h => by simp at h, fun i row j x h => by simp at h, fun _ => .inl ⟨rfl, rfl⟩⟩
theorem get_app {α : Type} {l m : List α} {i : Nat} {x : α} (h : (l ++ m)[i]? = some x) : (i < l.length /\ l[i]? = some x) \/ (l.length <= i /\ m[i - l.length]? = some x) := by
 rcases Nat.lt_or_ge i l.length with hi | hi
 ·exact .inl ⟨hi, by rwa [qLq hi] at h⟩
 ·exact .inr ⟨hi, by rwa [qRq hi] at h⟩
open Classical in
noncomputable def mvName (n m : Nat) (k : Key) : Key := if k = (n, none) then (m, none) else k
theorem append_core (hT : TabOk P T) {N : Nat -> Prop} (R : Rel Mn O0 w0 nt s g a w) {m : Nat} (hm : N m) (hnew : ¬ Mn m) {t e : Nat} {ti ei : TI} (ht : lk T t = some ti) (hk : ti.kind = .slice e) (he : lk T e = some ei) (ty : TypeId)
  {gone : List Nat} {n : Nat} (hg : (gone = [n] /\ Mn n) \/ gone = []) {A Ax : Option Addr} {cap cx : Nat} {k2 : Option Key} {rows1 rows2 : Flat} (hF1 : FlatOk w g.own (some (n, none)) A cap ei.size rows1) (hF2 : FlatOk w g.own k2 Ax cx ei.size rows2)
  (hnil : gone = [] -> A = none) (hroom : rows1.length + rows2.length <= 2147483648) :
  ∃ u w' g', (Builtin.append_ #[t, t] ty #[.slice A rows1.length cap, .slice Ax rows2.length cx]).run P w = .ok u w' /\
   Did Mn s g w N (.sl m none none) ((m, some (.flat true ei.size (rows1 ++ rows2))) :: gone.map fun n => (n, none)) u w' g' := by
 have hgm : ∀ x ∈ gone, Mn x := fun x hx => by
  rcases hg with ⟨rfl, h⟩ | rfl
  ·simp at hx; subst hx; exact h
  ·simp at hx
 have hev : ∀ (i : Nat) (row : Row), (rows1 ++ rows2)[i]? = some row -> row.length = ei.size := fun i row h => by
  rcases get_app h with ⟨_, h⟩ | ⟨_, h⟩
  ·exact hF1.even _ _ h
  ·exact hF2.even _ _ h
 have hsl : ∀ {w' : World} {g' : G} {A' : Option Addr} {c' : Nat}, g'.base m = A' -> g'.cap m = c' -> VR3 (s.putW ((m, some (.flat true ei.size (rows1 ++ rows2))) :: gone.map fun n => (n, none))) g' (.sl m none none) (.slice A' (rows1.length + rows2.length) c') := by
  intro w' g' A' c' h1 h2;refine VR3.one (v := .sl m none none) ⟨_, _, _, rfl, fun L sz hL => ?_⟩;simp [lenSz, S.putW, S.setE] at hL;rw [h1, h2, <- hL.1];exact SubOk.whole
 by_cases hfit : rows1.length + rows2.length <= cap
 ·-- there is room
  have hnews := hF2.loads (P := P) (c := cx) rfl;have hf : ∀ x r, x ∉ gone -> (fun k : Key => if gone = [] then k else mvName n m k) (x, r) = (x, r) := fun x r hx => by
   rcases hg with ⟨rfl, _⟩ | rfl
   ·simp at hx; simp [mvName, hx]
   ·simp
  have hf' : ∀ x r, x ∈ gone -> ((fun k : Key => if gone = [] then k else mvName n m k) (x, r)).1 = m \/ ((fun k : Key => if gone = [] then k else mvName n m k) (x, r)).1 ∈ gone := fun x r hx => by
   rcases hg with ⟨rfl, _⟩ | rfl
   ·simp at hx;subst hx;simp only [mvName, List.cons_ne_nil, if_false];split
    ·exact .inl rfl
    ·exact .inr (by simp)
   ·simp at hx
  have mk : ∀ (w' : World), (match A with | some a => storeCells (a.add (rows1.length * ei.size)) (cellsR rows2) | none => pure ()).run P w = .ok () w' -> (w'.os = w.os /\ Tp w w' /\ w'.output = w.output /\ w.heap.size <= w'.heap.size) -> w'.heap.size = w.heap.size ->
    (∀ b, b < w.heap.size -> (∀ n r, g.own b = some (n, r) -> n ∉ gone) -> w'.heap[b]? = w.heap[b]?) ->
    FlatOk w' (fun b => (g.own b).map (fun k : Key => if gone = [] then k else mvName n m k)) (some (m, none)) A cap ei.size (rows1 ++ rows2) ->
    ∃ u w' g', (Builtin.append_ #[t, t] ty #[.slice A rows1.length cap, .slice Ax rows2.length cx]).run P w = .ok u w' /\
     Did Mn s g w N (.sl m none none) ((m, some (.flat true ei.size (rows1 ++ rows2))) :: gone.map fun n => (n, none)) u w' g' := by
   intro w' hst hw hsz hheap hF;have hrun := run_append_fits (w := w) hT ht hk he ty hfit hnews hst;refine ⟨_, w', _, hrun, did_new R hm hnew A cap (fun _ => none) (fun _ => 0) (fun k : Key => if gone = [] then k else mvName n m k) gone hgm hf hf' _ (fun b _ => rfl) w' hw (fun b k hb hk => ?_) hheap (fun g' hg' hl => ?_) (fun g' hg' => hsl (w' := w') (by rw [hg']; simp [G.new]) (by rw [hg']; simp [G.new]))⟩
   ·cases ho : g.own b with
    | none => simp [ho] at hk
    | some k0 => have := R.bound b k0 ho; omega
   ·show FlatOk w' g'.own (some (m, none)) (g'.base m) (g'.cap m) ei.size (rows1 ++ rows2)
    rw [hg'];simpa [G.new] using hF
  rcases hF1.room rfl with ⟨h0, h1⟩ | ⟨b, off, arr, ty', hA, ho, hh, hcap⟩
  ·have h2 : rows2 = [] := by
    rw [h1] at hfit;simp at hfit;exact List.length_eq_zero_iff.1 (by omega)
   subst h0;refine mk w ?_ ⟨rfl, .rfl, rfl, Nat.le_refl _⟩ rfl (fun _ _ _ => rfl) ?_
   ·cases A <;> simp [h2, cellsR, storeCells]
   ·rw [h1, h2];exact ⟨by simp, hF1.pos, fun i row h => by simp at h, fun i row j x h => by simp at h, fun _ => .inl ⟨rfl, rfl⟩⟩
  ·subst hA;have hgn : gone = [n] := by
    rcases hg with ⟨h, _⟩ | h
    ·exact h
    ·have := hnil h; simp at this
   have hlen2 := cellsR_len hF2.even;have hbound : off + rows1.length * ei.size + (cellsR rows2).length <= arr.size := by
    rw [hlen2];have : (rows1.length + rows2.length) * ei.size <= cap * ei.size := Nat.mul_le_mul_right _ hfit;rw [Nat.add_mul] at this;omega
   refine mk (w.setRow b (splice arr.toList (off + rows1.length * ei.size) (cellsR rows2)).toArray) ?_ ⟨rfl, .rfl, rfl, by simp⟩ (by simp) (fun b' hb' hne => setRow_other w b b' _ (fun e => ?_)) ?_
   ·show (storeCells ((⟨b, off, none⟩ : Addr).add (rows1.length * ei.size)) (cellsR rows2)).run P w = _
    rw [Addr.add_plain];exact run_store_at hh hbound (cellsR_one rows2)
   ·subst e;exact hne n none ho (by rw [hgn]; simp)
   ·have hown : (fun b => (g.own b).map (fun k : Key => if gone = [] then k else mvName n m k)) b = some (m, none) := by
     simp [ho, hgn, mvName]
    refine ⟨by rw [List.length_append]; exact hfit, hF1.pos, hev, fun i row j x hi hj => ⟨_, rfl, hown, ?_⟩, fun _ => .inr ⟨b, off, _, ty', rfl, hown, setRow_heap_at hh, ?_⟩⟩
    ·rw [Addr.add_plain, cells_at (setRow_heap_at hh), List.getElem?_toArray, splice_get _ _ _ _ (by simpa using hbound)];have hjl : j < ei.size := by rw [<- hev i row hi]; exact (qSq.1 hj).1
     rcases get_app hi with ⟨h1, h2⟩ | ⟨h1, h2⟩
     ·have : (i + 1) * ei.size <= rows1.length * ei.size := Nat.mul_le_mul_right _ h1;rw [Nat.add_mul] at this;rw [if_neg (by omega)];obtain ⟨ad, hA, _, hc⟩ := hF1.cell i row j x h2 hj;injection hA with hA
      subst hA;rw [Addr.add_plain, cells_at hh, <- Array.getElem?_toList] at hc;exact hc
     ·have hc := cellsR_get hF2.even h2 hj;have hcl := (qSq.1 hc).1;have hi' : i = rows1.length + (i - rows1.length) := by omega
      have : i * ei.size = rows1.length * ei.size + (i - rows1.length) * ei.size := by
       conv => lhs; rw [hi']
       rw [Nat.add_mul]
      rw [if_pos ⟨by omega, by omega⟩];rw [show off + (i * ei.size + j) - (off + rows1.length * ei.size) = (i - rows1.length) * ei.size + j by omega];exact hc
    ·simp only [List.size_toArray];rw [splice_length _ _ _ (by simpa using hbound), Array.length_toList];exact hcap
 ·-- new memory
  have hd : ∀ {key : Option Key} {A : Option Addr} {c : Nat} {rows : Flat}, FlatOk w g.own key A c ei.size rows -> FlatOk w.drew g.own key A c ei.size rows := fun h => h.mono id (fun b _ ho => ⟨ho, rfl⟩)
  obtain ⟨c, rest, hc1, hcg, hc2, hrun⟩ := run_append_grows (w := w) (A := A) (Ax := Ax) (len := rows1.length) (cap := cap) (n := rows2.length) (cx := cx) (olds := cellsR rows1) (news := cellsR rows2) hT ht hk he ty (by omega) hroom ((hd hF1).loads (P := P) rfl) ((hd hF2).loads (P := P) (c := cx) rfl);refine ⟨_, _, _, hrun, did_alloc R hm hnew c (fun _ => none) (fun _ => 0) id gone hgm (fun _ _ _ => rfl) (fun x r hx => .inr hx) w.drew ⟨rfl, .drew, rfl, rfl⟩ (fun g' hg' hl _ hat => ?_) (fun g' hg' => hsl (w' := w) (by rw [hg']; simp [G.new]) (by rw [hg']; simp [G.new]))⟩;have hbase : g'.base m = some ⟨w.heap.size, 0, none⟩ := by rw [hg']; simp [G.new]
  have hcap : g'.cap m = c := by rw [hg']; simp [G.new]
  have hown : g'.own w.heap.size = some (m, none) := by rw [hg']; simp [G.new, ownNew]
  show FlatOk _ g'.own (some (m, none)) (g'.base m) (g'.cap m) ei.size (rows1 ++ rows2)
  rw [hbase, hcap];have hl1 := cellsR_len hF1.even;have hl2 := cellsR_len hF2.even;refine flat_new _ hown hat (by rw [List.length_append]; exact hc1) hF1.pos hev (fun i row j x hi hj => ?_) ?_ hcg
  ·have hjl : j < ei.size := by rw [<- hev i row hi]; exact (qSq.1 hj).1
   rw [List.getElem?_toArray];rcases get_app hi with ⟨h1, h2⟩ | ⟨h1, h2⟩
   ·have hc := cellsR_get hF1.even h2 hj;have hcl := (qSq.1 hc).1;rw [List.append_assoc, qLq hcl];exact hc
   ·have hc := cellsR_get hF2.even h2 hj;have hcl := (qSq.1 hc).1;have hi' : i = rows1.length + (i - rows1.length) := by omega
    have : i * ei.size = rows1.length * ei.size + (i - rows1.length) * ei.size := by
     conv => lhs; rw [hi']
     rw [Nat.add_mul]
    rw [List.append_assoc, qRq (by omega), qLq (by omega)];rw [show i * ei.size + j - (cellsR rows1).length = (i - rows1.length) * ei.size + j by omega];exact hc
  ·simp only [List.size_toArray, List.length_append, hl1, hl2, Array.length_toList, hc2];have : c = rows1.length + rows2.length + (c - (rows1.length + rows2.length)) := by omega
   conv => lhs; rw [this]
   rw [Nat.add_mul, Nat.add_mul];omega
end
end Go.Sh
namespace Go.Sh
variable [Fwd]
def OutR (P : Program) (Mn : Nat -> Prop) (O0 : Nat -> Prop) (w0 : Base) (nt : Nat) (s : S) (a : Act) (w : World) (fresh : Nat) (m : Sem Value) (r : List Nat × SV × Ws) : Prop :=
 ∃ u w' g', m.run P w = .ok u w' /\ ∀ d : Option Nat, (∀ t, d = some t -> t < nt) -> Rel (fun n => Mn n \/ InR fresh n) O0 w0 nt (s.put d r.2.1 r.2.2) g' (a.put d u) w'
section
variable {P : Program} {T : Tab} {Mn O0 : Nat -> Prop} {w0 : Base} {w : World} {nt : Nat} {s : S} {g : G} {a : Act} {fresh : Nat} {seen rd : List Nat} {r : List Nat × SV × Ws}
theorem Out.toR {m : Sem Value} (R : Rel Mn O0 w0 nt s g a w) (h : Out P Mn s g w fresh m r) : OutR P Mn O0 w0 nt s a w fresh m r := by
 obtain ⟨u, w', g', hm, hd, hn⟩ := h
 exact ⟨u, w', g', hm, fun d hd' => Did.rel R hd hd' (fun _ => rfl) hn⟩
theorem Rel.wider {Mn Mn' : Nat -> Prop} (R : Rel Mn O0 w0 nt s g a w) (h : ∀ n, Mn n -> Mn' n) : Rel Mn' O0 w0 nt s g a w :=
 { R with label := fun b n r hb => h n (R.label b n r hb), ms := fun t v hv n hn => h n (R.ms t v hv n hn), me := fun n e he => ⟨h n (R.me n e he).1, fun m hm => h m ((R.me n e he).2 m hm)⟩ }
theorem flatOf_inv (R : Rel Mn O0 w0 nt s g a w) (hs : Seen Mn seen) {sz : Nat} (hsz : 0 < sz) {v : SV} {u : Value} {k : Flat -> Prog} (hx : VR3 s g v u) (h : runP s fresh (flatOf sz v k) seen rd = some r) :
  ∃ key A c rows seen' rd', u = .slice A rows.length c /\ FlatOk w g.own key A c sz rows /\ Seen Mn seen' /\ runP s fresh (k rows) seen' rd' = some r := by
 unfold flatOf at h
 cases v with
 | nils =>
  have hu : u = .slice none 0 0 := hx;exact ⟨none, none, 0, [], seen, rd, hu, FlatOk.nil hsz, hs, h⟩
 | sl n row sub =>
  cases row with
  | none =>
   simp only at h;obtain ⟨e, seen', rd', he, hok, hmn, _, hs', h1⟩ := ent_inv R h hs
   cases e with
   | flat own sz' rows =>
    simp only at h1;obtain ⟨hb, h2⟩ := bif_inv h1;have hb := qBq hb;subst hb;obtain ⟨A, len, cap, rfl, hsub⟩ := hx;have hF : FlatOk w g.own (if own then some (n, none) else none) (g.base n) (g.cap n) sz rows := hok;obtain ⟨k1, k2⟩ := hF.sub (hsub rows.length sz (by simp [lenSz, he]));exact ⟨_, A, cap, _, seen', rd', by rw [k2], k1, hs', h2⟩
   | _ => exact (qfq h1).elim
  | some rv =>
   obtain ⟨rr, ver⟩ := rv;simp only at h;obtain ⟨own', sz', rows, holes, log, fl, seen', rd', he, _, hok, hmn, h1, h2, h3, hs', h4⟩ := rowOf_inv R h hs;obtain ⟨hb, h5⟩ := bif_inv h4;have hb := qBq hb;subst hb;obtain ⟨_, A, len, cap, rfl, hsub⟩ := hx;obtain ⟨k1, k2⟩ := (hok.row rr fl h3 h1).sub (hsub fl.length sz ⟨_, _, _, _, fl, he, h1, h2, h3, rfl⟩);exact ⟨_, A, cap, _, seen', rd', by rw [k2], k1, hs', h5⟩
 | _ => exact (qfq h).elim
theorem room_inv {L : Nat} {p : Prog} (h : runP s fresh (room L p) seen rd = some r) : L <= 2147483648 /\ runP s fresh p seen rd = some r := by
 obtain ⟨h1, h2⟩ := test_inv' h
 exact ⟨by simpa using h1, h2⟩
theorem split_row (R : Rel Mn O0 w0 nt s g a w) {N : Nat -> Prop} {m : Nat} (hm : N m) (hnew : ¬ Mn m) {n rr sz : Nat} {rows : List Flat} {holes log : List Nat} {fl : Flat} (he : s.fe n = some (.nest true sz rows holes log)) (h1 : rr ∉ holes) (h3 : rows[rr]? = some fl) :
  ∃ g', Did Mn s g w N .bad [(m, some (.flat true sz fl)), (n, some (.nest true sz rows (rr :: holes) (rr :: log)))] undef w g' /\ g'.base m = g.rbase n rr /\ g'.cap m = g.rcap n rr /\ ∃ f : Key -> Key, ∀ b, g'.own b = (g.own b).map f := by
 have hN : NestOk w g.own (some (n, none)) (fun i => some (n, some i)) (g.base n) (g.cap n) (g.rbase n) (g.rcap n) sz rows holes := R.ents n _ he
 have hmn := (R.me n _ he).1
 have hne : m ≠ n := fun e => hnew (e ▸ hmn)
 let f : Key -> Key := fun k => if k.1 = n /\ k.2 = some rr then (m, none) else k
 let g' : G := g.new m (g.rbase n rr) (g.rcap n rr) (fun _ => none) (fun _ => 0) (fun b => (g.own b).map f)
 have hat : ∀ k, Mn k -> k ≠ m := fun k hk e => hnew (e ▸ hk)
 have hfe : ∀ k, k ≠ m -> k ≠ n -> (s.putW [(m, some (.flat true sz fl)), (n, some (.nest true sz rows (rr :: holes) (rr :: log)))]).fe k = s.fe k := fun k k1 k2 => by
  simp [S.putW, S.setE, k1, k2]
 have hfn : (s.putW [(m, some (.flat true sz fl)), (n, some (.nest true sz rows (rr :: holes) (rr :: log)))]).fe n = some (.nest true sz rows (rr :: holes) (rr :: log)) := by
  simp [S.putW, S.setE, Ne.symm hne]
 have hfm : (s.putW [(m, some (.flat true sz fl)), (n, some (.nest true sz rows (rr :: holes) (rr :: log)))]).fe m = some (.flat true sz fl) := by
  simp [S.putW, S.setE]
 have gn : g'.base n = g.base n /\ g'.cap n = g.cap n /\ g'.rbase n = g.rbase n /\ g'.rcap n = g.rcap n := by simp [g', G.new, Ne.symm hne]
 have ownk : ∀ b k r, g.own b = some (k, r) -> ¬ (k = n /\ r = some rr) -> g'.own b = some (k, r) := fun b k r ho hc => by
  simp only [g', G.new, ho, Option.map_some, f];rw [if_neg hc]
 refine ⟨g', did_of R (fun k => k = n) (fun k hk hd => hfe k (hat k hk) hd) (fun k e hx => ?_) (fun k hk hd => ?_) (fun b k r hb ho hd => ⟨?_, rfl⟩) (fun b hb ho => ⟨by simp [g', G.new, ho], rfl⟩)
  ⟨rfl, .rfl, rfl, Nat.le_refl _⟩ (fun b k hk => ?_) (fun b k r hk => ?_) (fun k hk hd => ?_) (fun k e hx hd => ?_) (fun _ => trivial), by simp [g', G.new], by simp [g', G.new], f, fun b => rfl⟩
 ·by_cases hkm : k = m
  ·subst hkm; exact .inr hm
  ·by_cases hkn : k = n
   ·subst hkn; exact .inl hmn
   ·rw [hfe k hkm hkn] at hx; exact .inl (R.me k e hx).1
 ·have := hat k hk;simp [g', G.new, this]
 ·rw [ownk b k r ho (fun hc => hd hc.1), ho]
 ·cases ho : g.own b with
  | none => simp [g', G.new, ho] at hk
  | some k0 => exact R.bound b k0 ho
 ·cases ho : g.own b with
  | none => simp [g', G.new, ho] at hk
  | some k0 =>
   obtain ⟨k1, k2⟩ := k0;simp only [g', G.new, ho, Option.map_some, Option.some.injEq, f] at hk;split at hk
   ·injection hk with hk _; rw [<- hk]; exact .inr hm
   ·injection hk with hk _; rw [<- hk]; exact .inl (R.label b k1 k2 ho)
 ·subst hd;refine ⟨gn.1, gn.2.1, fun p hp => ?_, fun r ver L sz' hv hr => ?_, fun ver hv => ?_⟩
  ·simp only [lenSz, hfn] at hp;simp only [lenSz, he];exact hp
  ·obtain ⟨q1, q2, q3, q4, fl', he', k1, k2, k3, k4⟩ := hr;rw [hfn] at he';injection he' with he'
   injection he' with z1 z2 z3 z4 z5
   subst z1 z2 z3 z4 z5;have hvl := hv _ _ _ _ _ he;have hlen : (rr :: log).length - ver = (log.length - ver) + 1 := by simp; omega
   rw [hlen, List.take_succ_cons] at k2;refine ⟨⟨_, _, _, _, fl', he, fun hx => k1 (List.mem_cons_of_mem _ hx), fun c hc => k2 c (List.mem_cons_of_mem _ hc), k3, k4⟩, by rw [gn.2.2.1], by rw [gn.2.2.2]⟩
  ·intro q1 q2 q3 q4 q5 he';rw [hfn] at he';injection he' with he'
   injection he' with z1 z2 z3 z4 z5
   subst z5;have := hv _ _ _ _ _ he;simp; omega
 ·by_cases hkm : k = m
  ·subst hkm;rw [hfm] at hx;injection hx with hx
   subst hx;show FlatOk w g'.own (some (k, none)) (g'.base k) (g'.cap k) sz fl
   have e1 : g'.base k = g.rbase n rr := by simp [g', G.new]
   have e2 : g'.cap k = g.rcap n rr := by simp [g', G.new]
   rw [e1, e2];exact (hN.row rr fl h3 h1).mono (fun _ => rfl) (fun b hb ho => ⟨by simp [g', G.new, ho, f], rfl⟩)
  ·by_cases hkn : k = n
   ·subst hkn;rw [hfn] at hx;injection hx with hx
    subst hx;show NestOk w g'.own (some (k, none)) (fun i => some (k, some i)) (g'.base k) (g'.cap k) (g'.rbase k) (g'.rcap k) sz rows (rr :: holes)
    rw [gn.1, gn.2.1, gn.2.2.1, gn.2.2.2];refine ⟨hN.fits, hN.pos, fun i fl' hi => ?_, fun i fl' hi hni => ?_, fun _ => ?_⟩
    ·obtain ⟨ad, z, k1, k2, k3, k4⟩ := hN.head i fl' hi;exact ⟨ad, z, k1, ownk _ _ _ k2 (by simp), k3, fun hnh => k4 (fun hx => hnh (List.mem_cons_of_mem _ hx))⟩
    ·have hir : i ≠ rr := fun e => hni (by simp [e])
     exact (hN.row i fl' hi (fun hx => hni (List.mem_cons_of_mem _ hx))).mono (fun _ => rfl) (fun b hb ho => ⟨ownk _ _ _ ho (by simp [hir]), rfl⟩)
    ·rcases hN.room rfl with h | ⟨b, off, arr, ty, k1, k2, k3, k4⟩
     ·exact .inl h
     ·exact .inr ⟨b, off, arr, ty, k1, ownk _ _ _ k2 (by simp), k3, k4⟩
   ·rw [hfe k hkm hkn] at hx;exact absurd (hd (R.me k e hx).1) hkn
theorem putW_append (s : S) (x y : Ws) : s.putW (x ++ y) = (s.putW y).putW x := by
 induction x with
 | nil => rfl
 | cons p q ih => obtain ⟨n, e⟩ := p; simp only [List.cons_append, S.putW, ih]
theorem append_flat (hT : TabOk P T) (R : Rel Mn O0 w0 nt s g a w) (hs : Seen Mn seen) (hf : ∀ m, InR fresh m -> ¬ Mn m) {t e : Nat} {ti ei : TI} (ht : lk T t = some ti) (hk : ti.kind = .slice e) (he : lk T e = some ei) (ty : TypeId) {x y : SV} {u v : Value} (hx : VR3 s g x u) (hy : VR3 s g y v)
  (h : runP s fresh (appendFlat ei.size fresh x y) seen rd = some r) : OutR P Mn O0 w0 nt s a w fresh (Builtin.append_ #[t, t] ty #[u, v]) r := by
 have hpos := (hT e ei he).pos.2.2
 have hin : InR fresh fresh := ⟨Nat.le_refl _, by omega⟩
 unfold appendFlat at h
 obtain ⟨k2, Ax, cx, rows2, seen1, rd1, rfl, hF2, hs1, h1⟩ := flatOf_inv R hs hpos hy h
 clear h
 split at h1
 ·have hu : u = .slice none 0 0 := hx;subst hu;obtain ⟨hr, h2⟩ := room_inv h1;obtain ⟨rfl, hn⟩ := ret_inv h2 hs1;obtain ⟨u', w', g', hrun, hd⟩ := append_core (N := InR fresh) hT R hin (hf _ hin) ht hk he ty (gone := []) (n := fresh) (.inr rfl) (A := none) (cap := 0) (rows1 := []) (FlatOk.nil hpos) hF2 (fun _ => rfl) (by simpa using hr);exact Out.toR R ⟨u', w', g', hrun, hd, hn⟩
 ·rename_i n sub;obtain ⟨en, seen2, rd2, hen, hok, hmn, _, hs2, h2⟩ := ent_inv R h1 hs1;obtain ⟨sz', rows, rfl⟩ : ∃ sz' rows, en = .flat true sz' rows := by
   cases en with
   | flat own sz' fl => cases own with
    | true => exact ⟨sz', fl, rfl⟩
    | false => exact (qfq h2).elim
   | _ => exact (qfq h2).elim
  simp only at h2;obtain ⟨hb, h3⟩ := bif_inv h2;have hb := qBq hb;subst hb;obtain ⟨hr, h4⟩ := room_inv h3;obtain ⟨rfl, hn⟩ := ret_inv h4 hs2;obtain ⟨A, len, cap, rfl, hsub⟩ := hx;have hF : FlatOk w g.own (some (n, none)) (g.base n) (g.cap n) ei.size rows := hok;obtain ⟨k1, k2⟩ := hF.sub (hsub rows.length ei.size (by simp [lenSz, hen]));subst k2;have hcl : (cut sub rows).length <= rows.length := by cases sub <;> simp [cut]; omega
  obtain ⟨u', w', g', hrun, hd⟩ := append_core (N := InR fresh) hT R hin (hf _ hin) ht hk he ty (gone := [n]) (n := n) (.inl ⟨rfl, hmn⟩) k1 hF2 (fun h => by simp at h) (by omega);exact Out.toR R ⟨u', w', g', hrun, hd, hn⟩
 ·rename_i n rr ver sub;obtain ⟨own', sz', rows, holes, log, fl, seen2, rd2, hen, hown, hok, hmn, k1, k2', k3, hs2, h2⟩ := rowOf_inv R h1 hs1;have hown := hown rfl;subst hown;obtain ⟨hb, h3⟩ := bif_inv h2;have hb := qBq hb;subst hb;obtain ⟨hr, h4⟩ := room_inv h3;obtain ⟨rfl, hn⟩ := ret_inv h4 hs2;have hin1 : InR fresh (fresh + 1) := ⟨by omega, by omega⟩;obtain ⟨g1, hd1, e1, e2, f1, hf1⟩ := split_row (N := fun m => m = fresh + 1) R rfl (hf _ hin1) hen k1 k3;have R1 : Rel (fun m => Mn m \/ m = fresh + 1) O0 w0 nt (s.put none .bad [(fresh + 1, some (.flat true ei.size fl)), (n, some (.nest true ei.size rows (rr :: holes) (rr :: log)))]) g1 (a.put none undef) w :=
   Did.rel R hd1 (fun t h => by simp at h) (fun h => by simp at h) (fun m hm => by
    simp [names3, names2, names1, namesW, namesE] at hm;rcases hm with rfl | rfl
    ·exact .inr rfl
    ·exact .inl hmn)
  obtain ⟨_, A, len, cap, rfl, hsub⟩ := hx;have hsub := hsub fl.length ei.size ⟨_, _, _, _, fl, hen, k1, k2', k3, rfl⟩;rw [<- e1, <- e2] at hsub;have hF1 : FlatOk w g1.own (some (fresh + 1, none)) (g1.base (fresh + 1)) (g1.cap (fresh + 1)) ei.size fl := R1.ents (fresh + 1) (.flat true ei.size fl) (by simp [S.put, S.putW, S.setE]);obtain ⟨q1, q2⟩ := hF1.sub hsub;subst q2;have hcl : (cut sub fl).length <= fl.length := by cases sub <;> simp [cut]; omega
  -- the second operand's rows stand as they did
  have hF2' : FlatOk w g1.own (k2.map f1) Ax cx ei.size rows2 := hF2.mono (by cases k2 <;> simp) (fun b _ ho => ⟨by rw [hf1, ho], rfl⟩);have hnf : ¬ ((fun m => Mn m \/ m = fresh + 1) fresh) := fun h => h.elim (fun h => hf _ hin h) (fun h => by omega)
  obtain ⟨u', w', g', hrun, hd⟩ := append_core (N := fun m => m = fresh) hT R1 rfl hnf ht hk he ty (gone := [fresh + 1]) (n := fresh + 1) (.inl ⟨rfl, .inr rfl⟩) q1 hF2' (fun h => by simp at h) (by omega);refine ⟨u', w', g', hrun, fun d hd' => ?_⟩;have R2 := Did.rel R1 hd hd' (u' := u') (fun _ => rfl) (fun m hm => by
   simp [names3, names2, names1, namesW, namesE] at hm;rcases hm with rfl | rfl
   ·exact .inr rfl
   ·exact .inl (.inr rfl))
  have hS : (s.put none .bad [(fresh + 1, some (.flat true ei.size fl)), (n, some (.nest true ei.size rows (rr :: holes) (rr :: log)))]).put d (.sl fresh none none) ((fresh, some (.flat true ei.size (cut sub fl ++ rows2))) :: [fresh + 1].map fun n => (n, none)) =
    s.put d (.sl fresh none none) [(fresh, some (.flat true ei.size (cut sub fl ++ rows2))), (n, some (.nest true ei.size rows (rr :: holes) (rr :: log)))] := by
   have hnone : s.fe (fresh + 1) = none := by
    cases hq : s.fe (fresh + 1) with
    | none => rfl
    | some e => exact absurd (R.me _ e hq).1 (hf _ hin1)
   have hn1 : n ≠ fresh + 1 := fun e => hf _ hin1 (e ▸ hmn)
   refine S.ext' (fun t => ?_) (fun k => ?_)
   ·cases d <;> simp [S.put, S.putW, S.setE, S.setS]
   ·rw [put_fe, put_fe];simp only [S.put, S.putW, S.setE, List.map_cons, List.map_nil];by_cases q1 : k = fresh
    ·simp [q1]
    ·by_cases q2 : k = fresh + 1
     ·subst q2; simp [Ne.symm hn1, hnone]
     ·simp [q1, q2]
  rw [hS] at R2;exact R2.wider (fun m hm => by
   rcases hm with (h | rfl) | rfl
   ·exact .inl h
   ·exact .inr hin1
   ·exact .inr hin)
 ·exact (qfq h1).elim
theorem inR_self (f : Nat) : InR f f := ⟨Nat.le_refl _, by omega⟩
open Classical in
noncomputable def takeKey (n m : Nat) (k : Key) : Key := if k.1 = n then (m, k.2) else k
theorem slicePM_sim (hT : TabOk P T) (R : Rel Mn O0 w0 nt s g a w) (hs : Seen Mn seen) (hf : ∀ m, InR fresh m -> ¬ Mn m) {t : Nat} {x lo hi mx : SV} {u ul uh um : Value} (hx : VR3 s g x u) (hl : isBad lo = false -> VR3 s g lo ul) (hh : isBad hi = false -> VR3 s g hi uh) (hm : isBad mx = false -> VR3 s g mx um)
  (h : runP s fresh (slicePM T fresh t x lo hi mx) seen rd = some r) : Out P Mn s g w fresh (Instr.sliceAt t u (ofBad lo ul) (ofBad hi uh) (ofBad mx um)) r := by
 unfold slicePM at h
 split at h
 rotate_left
 ·exact slice_sim hT R hs hx hl hh hm h
 rename_i kc c n
 obtain ⟨e, seen1, rd1, he, hok, hmn, _, hs1, h1⟩ := ent_inv R h hs
 have old : ∀ {e : Ent}, e = e -> runP s fresh (sliceP T t (.sl n none none) .bad hi (.s (.i kc c))) seen1 rd1 = some r -> Out P Mn s g w fresh (Instr.sliceAt t u (ofBad .bad ul) (ofBad hi uh) (ofBad (.s (.i kc c)) um)) r := fun _ h1 => slice_sim hT R hs1 hx hl hh hm h1
 have hflat : (∃ sz rows, e = .flat true sz rows) \/ runP s fresh (sliceP T t (.sl n none none) .bad hi (.s (.i kc c))) seen1 rd1 = some r := by
  cases e with
  | flat own sz rows =>
   cases own with
   | true => exact .inl ⟨sz, rows, rfl⟩
   | false => exact .inr h1
  | _ => exact .inr h1
 rcases hflat with ⟨sz, rows, rfl⟩ | h1
 rotate_left
 ·exact old (e := .was 0 0) rfl h1
 simp only at h1
 cases ht : lk T t with
 | none => rw [ht] at h1; exact (qfq h1).elim
 | some ti =>
  rw [ht] at h1;simp only at h1;have tk := hT t ti ht;obtain ⟨e', kb, b, hk, rfl⟩ : ∃ e' kb b, ti.kind = .slice e' /\ hi = .s (.i kb b) := by
   cases hk : ti.kind with
   | slice e' =>
    rw [hk] at h1
    cases hi with
    | s z =>
     cases z with
     | i kb b => exact ⟨e', kb, b, rfl, rfl⟩
     | b _ => exact (qfq h1).elim
    | _ => exact (qfq h1).elim
   | _ => rw [hk] at h1; exact (qfq h1).elim
  rw [hk] at h1;simp only at h1;obtain ⟨hse, h2⟩ := bif_inv h1;obtain ⟨hcb, h3⟩ := test_inv' h2;obtain ⟨_, hb0, hbl, h4⟩ := rng_inv h3;have hcb : c = b := by simpa using hcb
  subst hcb;have hse := qBq hse;have hF : FlatOk w g.own (some (n, none)) (g.base n) (g.cap n) sz rows := hok;have hsz' := run_sizeT (w := w) hT (e := e') (by have := hF.pos; omega);have hu := tk.run_slice w hk;obtain ⟨A, len, cap, rfl, hsub⟩ := hx;obtain ⟨rfl, rfl, rfl⟩ := hsub rows.length sz (by simp [lenSz, he]);have hfit := hF.fits;obtain rfl : uh = .int kb c := hh rfl;obtain rfl : um = .int kc c := hm rfl;have hbs : (Instr.sliceBounds true rows.length (g.cap n) none (some (.int kb c)) (some (.int kc c))).run P w = .ok (0, c.toNat, c.toNat) w := by
   have k2 : (Instr.sliceBound (.int kb c) c.toNat .slice3B).run P w = .ok c.toNat w := run_sliceBound (by omega) (by omega);have k3 : (Instr.sliceBound (.int kc c) (g.cap n) .slice3Acap).run P w = .ok c.toNat w := run_sliceBound (by omega) (by omega);simp [Instr.sliceBounds, k2, k3]
  have hrun : (Instr.sliceAt t (.slice (g.base n) rows.length (g.cap n)) none (some (.int kb c)) (some (.int kc c))).run P w = .ok (.slice (g.base n) c.toNat c.toNat) w := by
   simp only [Instr.sliceAt, Instr.slice, Sem.run_bind, hu, Result.andThen_ok, hbs, hsz', Sem.run_pure, Nat.sub_zero]
   congr 2
   split
   ·rfl
   ·cases g.base n <;> simp [Addr.add_zero]
  obtain ⟨rfl, hn⟩ := ret_inv h4 hs1;have hlen : (rows.take c.toNat).length = c.toNat := by rw [List.length_take]; omega
  have hnf : n ≠ fresh := fun e => hf fresh (inR_self fresh) (e ▸ hmn)
  refine ⟨_, w, g.new fresh (g.base n) c.toNat (fun _ => none) (fun _ => 0) (fun b => (g.own b).map (takeKey n fresh)), hrun, ?_, hn⟩;refine did_new (N := InR fresh) R (inR_self fresh) (hf fresh (inR_self fresh)) (g.base n) c.toNat _ _ (takeKey n fresh) [n] (fun k hk => by simp at hk; subst hk; exact hmn) (fun k r hk => by
    simp at hk; unfold takeKey; rw [if_neg hk]) (fun k r hk => by simp at hk; subst hk; left; unfold takeKey; rw [if_pos rfl]) _ (fun b _ => rfl) w ⟨rfl, .rfl, rfl, Nat.le_refl _⟩ (fun b k hb hk => ?_) (fun b _ _ => rfl) (fun g' hg' _ => ?_) (fun g' hg' => ?_)
  ·have hk : (g.own b).map (takeKey n fresh) = some k := hk
   cases ho : g.own b with
   | none => rw [ho] at hk; simp at hk
   | some k' => have := R.bound b k' ho; omega
  ·subst hg';show FlatOk w (fun b => (g.own b).map (takeKey n fresh)) (some (fresh, none)) ((g.new fresh (g.base n) c.toNat _ _ _).base fresh) ((g.new fresh (g.base n) c.toNat _ _ _).cap fresh) sz (rows.take c.toNat)
   have e1 : ∀ rb rc o, (g.new fresh (g.base n) c.toNat rb rc o).base fresh = g.base n := fun rb rc o => by simp [G.new]
   have e2 : ∀ rb rc o, (g.new fresh (g.base n) c.toNat rb rc o).cap fresh = c.toNat := fun rb rc o => by simp [G.new]
   rw [e1, e2];have key : ∀ b, g.own b = some (n, none) -> (g.own b).map (takeKey n fresh) = some (fresh, none) := fun b ho => by rw [ho]; simp [takeKey]
   refine ⟨by omega, hF.pos, fun i row hi => hF.even i row (by rw [List.getElem?_take] at hi; split at hi <;> first | exact hi | simp at hi), fun i row j y hi hj => ?_, fun _ => ?_⟩
   ·rw [List.getElem?_take] at hi;split at hi
    ·obtain ⟨ad, k1, k2, k3⟩ := hF.cell i row j y hi hj;exact ⟨ad, k1, key _ k2, k3⟩
    ·simp at hi
   ·rcases hF.room rfl with ⟨k1, k2⟩ | ⟨b, off, arr, T', k1, k2, k3, k4, k5⟩
    ·left
     have : c.toNat = 0 := by rw [k2] at hbl; simp at hbl; omega
     exact ⟨this, by rw [k2]; simp⟩
    ·right
     refine ⟨b, off, arr, T', k1, key _ k2, k3, ?_, by omega⟩;have : c.toNat * sz <= g.cap n * sz := Nat.mul_le_mul_right _ (by omega);omega
  ·subst hg';refine ⟨g.base n, c.toNat, c.toNat, rfl, fun L sz' hl => ?_⟩;simp only [List.map_cons, List.map_nil, lenSz, S.putW, S.setE, if_true] at hl;injection hl with hl
   injection hl with q1 q2
   exact ⟨by simp [G.new], by omega, by simp [G.new]⟩
end
end Go.Sh
namespace Go.Sh
variable [Fwd]
section
variable {P : Program} {T : Tab} {Mn O0 : Nat -> Prop} {w0 : Base} {w : World} {nt : Nat} {s : S} {g : G} {a : Act} {fresh : Nat} {seen rd : List Nat} {r : List Nat × SV × Ws}
def hdrs (rb : Nat -> Option Addr) (rc : Nat -> Nat) : Nat -> List Flat -> List Value
 | _, [] => []
 | i, fl :: r => .slice (rb i) fl.length (rc i) :: hdrs rb rc (i + 1) r
theorem hdrs_len {rb : Nat -> Option Addr} {rc : Nat -> Nat} : ∀ (rows : List Flat) (i : Nat), (hdrs rb rc i rows).length = rows.length := by
 intro rows
 induction rows with
 | nil => intro i; rfl
 | cons x q ih => intro i; simp [hdrs, ih]
theorem hdrs_get {rb : Nat -> Option Addr} {rc : Nat -> Nat} : ∀ (rows : List Flat) (i j : Nat) (fl : Flat), rows[j]? = some fl -> (hdrs rb rc i rows)[j]? = some (.slice (rb (i + j)) fl.length (rc (i + j))) := by
 intro rows
 induction rows with
 | nil => intro i j fl h; simp at h
 | cons x q ih =>
  intro i j fl h
  cases j with
  | zero => simp at h; subst h; simp [hdrs]
  | succ j =>
   simp only [hdrs, List.getElem?_cons_succ];rw [ih (i + 1) j fl (by simpa using h), show i + 1 + j = i + (j + 1) by omega]
theorem hdrs_one {rb : Nat -> Option Addr} {rc : Nat -> Nat} : ∀ (rows : List Flat) (i : Nat), ∀ v ∈ hdrs rb rc i rows, v.oneCell' = true := by
 intro rows
 induction rows with
 | nil => intro i v h; simp [hdrs] at h
 | cons x q ih =>
  intro i v h;simp only [hdrs, List.mem_cons] at h;rcases h with rfl | h
  ·rfl
  ·exact ih _ v h
theorem NestOk.loads {own : Nat -> Option Key} {okey : Option Key} {rkey : Nat -> Option Key} {A : Option Addr} {cap sz n c : Nat} {rb : Nat -> Option Addr} {rc : Nat -> Nat} {rows : List Flat} (h : NestOk w own okey rkey A cap rb rc sz rows []) (hn : n = rows.length) :
  (Builtin.firstCells 1 n (.slice A n c)).run P w = .ok (hdrs rb rc 0 rows).toArray w := by
 subst hn
 cases A with
 | none =>
  have : rows = [] := by
   cases rows with
   | nil => rfl
   | cons x q =>
    obtain ⟨a, v, ha, _⟩ := h.head 0 x rfl;simp at ha
  subst this
  rfl
 | some ad =>
  have := run_loadCells_list (P := P) w ad (hdrs rb rc 0 rows) (fun k v hk => by
   have hkl : k < rows.length := by rw [<- hdrs_len (rb := rb) (rc := rc) rows 0]; exact (qSq.1 hk).1
   obtain ⟨a', v', ha', _, hc, hv⟩ := h.head k rows[k] (qEq hkl);injection ha' with ha'
   subst ha';have hg := hdrs_get (rb := rb) (rc := rc) rows 0 k rows[k] (qEq hkl);rw [Nat.zero_add, hk] at hg;injection hg with hg
   rw [hg, <- hv (by simp)]; exact hc)
  rw [hdrs_len] at this;simpa [Builtin.firstCells] using this
open Classical in
noncomputable def joinName (n k m L : Nat) (x : Key) : Key := if x.1 = n then (m, x.2) else if x.1 = k then (match x.2 with | none => (k, none) | some i => (m, some (L + i))) else x
theorem append_nest_core (hT : TabOk P T) {N : Nat -> Prop} (R : Rel Mn O0 w0 nt s g a w) {m : Nat} (hm : N m) (hnew : ¬ Mn m) {t e : Nat} {ti ei : TI} (ht : lk T t = some ti) (hk : ti.kind = .slice e) (he : lk T e = some ei) (ty : TypeId) (hsz1 : ei.size = 1)
  {n k sz : Nat} (hg : (n ≠ m /\ Mn n /\ n ≠ k) \/ n = m) (hMk : Mn k) {A Ax : Option Addr} {cap cx : Nat} {rb1 rb2 : Nat -> Option Addr} {rc1 rc2 : Nat -> Nat} {rows1 rows2 : List Flat}
  (hF1 : NestOk w g.own (some (n, none)) (fun i => some (n, some i)) A cap rb1 rc1 sz rows1 []) (hF2 : NestOk w g.own (some (k, none)) (fun i => some (k, some i)) Ax cx rb2 rc2 sz rows2 [])
  (hnil : n = m -> A = none /\ rows1 = []) (hroom : rows1.length + rows2.length <= 2147483648) :
  ∃ u w' g', (Builtin.append_ #[t, t] ty #[.slice A rows1.length cap, .slice Ax rows2.length cx]).run P w = .ok u w' /\
   Did Mn s g w N (.sl m none none) ((m, some (.nest true sz (rows1 ++ rows2) [] [])) :: (if n = m then [k] else [n, k]).map fun n => (n, none)) u w' g' := by
 have hkm : k ≠ m := fun e => hnew (e ▸ hMk)
 obtain ⟨gone, hgone⟩ : ∃ gone, gone = if n = m then [k] else [n, k] := ⟨_, rfl⟩
 rw [<- hgone]
 have hin : ∀ x, x ∈ gone ↔ x = k \/ (x = n /\ n ≠ m) := fun x => by
  rw [hgone];by_cases h : n = m
  ·simp [h]
  ·rw [if_neg h]; simp [h]; exact Or.comm
 have hgm : ∀ x ∈ gone, Mn x := fun x hx => by
  rcases (hin x).1 hx with rfl | ⟨rfl, h⟩
  ·exact hMk
  ·rcases hg with h' | h'
   ·exact h'.2.1
   ·exact absurd h' h
 let f : Key -> Key := joinName n k m rows1.length
 have hnk : n ≠ k := by
  rcases hg with h | h
  ·exact h.2.2
  ·rw [h]; exact fun e => hkm e.symm
 have hf : ∀ x r, x ∉ gone -> f (x, r) = (x, r) := fun x r hx => by
  simp only [f, joinName];have h1 : x ≠ k := fun e => hx ((hin x).2 (.inl e))
  by_cases h2 : x = n
  ·have : n = m := by
    rcases Classical.em (n = m) with h | h
    ·exact h
    ·exact absurd ((hin x).2 (.inr ⟨h2, h⟩)) hx
   rw [if_pos h2, h2, this]
  ·rw [if_neg h2, if_neg h1]
 have hf' : ∀ x r, x ∈ gone -> (f (x, r)).1 = m \/ (f (x, r)).1 ∈ gone := fun x r hx => by
  simp only [f, joinName];by_cases h2 : x = n
  ·rw [if_pos h2]; exact .inl rfl
  ·rw [if_neg h2];have h1 : x = k := by
    rcases (hin x).1 hx with h | ⟨h, _⟩
    ·exact h
    ·exact absurd h h2
   rw [if_pos h1]
   cases r with
   | none => exact .inr (by simpa [h1] using hx)
   | some i => exact .inl rfl
 let rb : Nat -> Option Addr := fun i => if i < rows1.length then rb1 i else rb2 (i - rows1.length)
 let rc : Nat -> Nat := fun i => if i < rows1.length then rc1 i else rc2 (i - rows1.length)
 have fn : ∀ r, f (n, r) = (m, r) := fun r => by simp [f, joinName]
 have fk : ∀ i, f (k, some i) = (m, some (rows1.length + i)) := fun i => by simp [f, joinName, Ne.symm hnk]
 -- the rows, wherever the heads lie
 have hrow : ∀ {w' : World} {own' : Nat -> Option Key}, (∀ b, b < w.heap.size -> own' b = (g.own b).map f) -> (∀ b i x, b < w.heap.size -> g.own b = some (x, some i) -> w'.heap[b]? = w.heap[b]?) ->
   ∀ (i : Nat) (fl : Flat), (rows1 ++ rows2)[i]? = some fl -> FlatOk w' own' (some (m, some i)) (rb i) (rc i) sz fl := by
  intro w' own' ho hh i fl hi;rcases get_app hi with ⟨h1, h2⟩ | ⟨h1, h2⟩
  ·have e1 : rb i = rb1 i := by simp [rb, h1]
   have e2 : rc i = rc1 i := by simp [rc, h1]
   rw [e1, e2];exact (hF1.row i fl h2 (by simp)).mono (fun _ => rfl) (fun b hb hob => ⟨by rw [ho b hb, hob]; simp [fn], hh b i n hb hob⟩)
  ·have e1 : rb i = rb2 (i - rows1.length) := by simp [rb, Nat.not_lt.2 h1]
   have e2 : rc i = rc2 (i - rows1.length) := by simp [rc, Nat.not_lt.2 h1]
   rw [e1, e2];exact (hF2.row _ fl h2 (by simp)).mono (fun _ => rfl) (fun b hb hob => ⟨by rw [ho b hb, hob]; simp [fk, show rows1.length + (i - rows1.length) = i by omega], hh b _ k hb hob⟩)
 have hsl : ∀ {g' : G} {A' : Option Addr} {c' : Nat}, g'.base m = A' -> g'.cap m = c' -> VR3 (s.putW ((m, some (.nest true sz (rows1 ++ rows2) [] [])) :: gone.map fun n => (n, none))) g' (.sl m none none) (.slice A' (rows1.length + rows2.length) c') := by
  intro g' A' c' h1 h2;refine VR3.one (v := .sl m none none) ⟨_, _, _, rfl, fun L sz' hL => ?_⟩;simp [lenSz, S.putW, S.setE] at hL;rw [h1, h2, <- hL.1];exact SubOk.whole
 by_cases hfit : rows1.length + rows2.length <= cap
 ·-- there is room
  have hnews := hF2.loads (P := P) (c := cx) rfl;have mk : ∀ (w' : World), (match A with | some a => storeCells (a.add (rows1.length * ei.size)) (hdrs rb2 rc2 0 rows2) | none => pure ()).run P w = .ok () w' -> (w'.os = w.os /\ Tp w w' /\ w'.output = w.output /\ w.heap.size <= w'.heap.size) -> w'.heap.size = w.heap.size ->
    (∀ b, b < w.heap.size -> g.own b ≠ some (n, none) -> w'.heap[b]? = w.heap[b]?) ->
    NestOk w' (fun b => (g.own b).map f) (some (m, none)) (fun i => some (m, some i)) A cap rb rc sz (rows1 ++ rows2) [] ->
    (n = m -> w' = w) ->
    ∃ u w' g', (Builtin.append_ #[t, t] ty #[.slice A rows1.length cap, .slice Ax rows2.length cx]).run P w = .ok u w' /\
     Did Mn s g w N (.sl m none none) ((m, some (.nest true sz (rows1 ++ rows2) [] [])) :: gone.map fun n => (n, none)) u w' g' := by
   intro w' hst hw hsz hheap hF hnm;rw [<- hsz1] at hnews;have hrun := run_append_fits (w := w) hT ht hk he ty hfit hnews hst;refine ⟨_, w', _, hrun, did_new R hm hnew A cap rb rc f gone hgm hf hf' _ (fun b _ => rfl) w' hw (fun b k hb hk => ?_) (fun b hb hne => ?_) (fun g' hg' hl => ?_) (fun g' hg' => hsl (by rw [hg']; simp [G.new]) (by rw [hg']; simp [G.new]))⟩
   ·cases ho : g.own b with
    | none => simp [ho] at hk
    | some k0 => have := R.bound b k0 ho; omega
   ·by_cases h : n = m
    ·rw [hnm h]
    ·exact hheap b hb (fun ho => hne n none ho ((hin n).2 (.inr ⟨rfl, h⟩)))
   ·show NestOk w' g'.own (some (m, none)) (fun i => some (m, some i)) (g'.base m) (g'.cap m) (g'.rbase m) (g'.rcap m) sz (rows1 ++ rows2) []
    rw [hg'];simpa [G.new] using hF
  rcases hF1.room rfl with ⟨h0, h1⟩ | ⟨b, off, arr, ty', hA, ho, hh, hcap⟩
  ·have h2 : rows2 = [] := by
    rw [h1] at hfit;simp at hfit;exact List.length_eq_zero_iff.1 (by omega)
   subst h0;refine mk w ?_ ⟨rfl, .rfl, rfl, Nat.le_refl _⟩ rfl (fun _ _ _ => rfl) ?_ (fun _ => rfl)
   ·cases A <;> simp [h2, hdrs, storeCells]
   ·rw [h1, h2];exact ⟨by simp, hF1.pos, fun i row h => by simp at h, fun i row h => by simp at h, fun _ => .inl ⟨rfl, rfl⟩⟩
  ·subst hA;have hlen2 := hdrs_len (rb := rb2) (rc := rc2) rows2 0;have hbound : off + rows1.length + (hdrs rb2 rc2 0 rows2).length <= arr.size := by rw [hlen2]; omega
   refine mk (w.setRow b (splice arr.toList (off + rows1.length) (hdrs rb2 rc2 0 rows2)).toArray) ?_ ⟨rfl, .rfl, rfl, by simp⟩ (by simp) (fun b' hb' hne => setRow_other w b b' _ (fun e => ?_)) ?_ (fun h => by
    have := (hnil h).1; simp at this)
   ·show (storeCells ((⟨b, off, none⟩ : Addr).add (rows1.length * ei.size)) (hdrs rb2 rc2 0 rows2)).run P w = _
    rw [Addr.add_plain, hsz1, Nat.mul_one];exact run_store_at hh hbound (hdrs_one rows2 0)
   ·subst e; exact hne ho
   ·have hown : (fun b => (g.own b).map f) b = some (m, none) := by simp [ho, fn]
    refine ⟨by rw [List.length_append]; exact hfit, hF1.pos, fun i fl hi => ?_, fun i fl hi _ => hrow (fun _ _ => rfl) (fun b' i' x hb' ho' => setRow_other w b b' _ (fun e => by subst e; rw [ho] at ho'; simp at ho')) i fl hi, fun _ => .inr ⟨b, off, _, ty', rfl, hown, setRow_heap_at hh, ?_⟩⟩
    ·have hil : i < (rows1 ++ rows2).length := (qSq.1 hi).1;rw [List.length_append] at hil;have hcell : (w.setRow b (splice arr.toList (off + rows1.length) (hdrs rb2 rc2 0 rows2)).toArray).cell? ((⟨b, off, none⟩ : Addr).add i) = some (.slice (rb i) fl.length (rc i)) := by
      rw [Addr.add_plain, cells_at (setRow_heap_at hh), List.getElem?_toArray, splice_get _ _ _ _ (by simpa using hbound)];rcases get_app hi with ⟨h1, h2⟩ | ⟨h1, h2⟩
      ·rw [if_neg (by omega)];obtain ⟨ad, v, hA, _, hc, hv⟩ := hF1.head i fl h2;injection hA with hA
       subst hA;rw [Addr.add_plain, cells_at hh, <- Array.getElem?_toList] at hc;rw [hc, hv (by simp)];simp [rb, rc, h1]
      ·rw [if_pos ⟨by omega, by rw [hlen2]; omega⟩];rw [show off + i - (off + rows1.length) = i - rows1.length by omega];rw [hdrs_get rows2 0 _ fl h2];simp [rb, rc, Nat.not_lt.2 h1]
     exact ⟨_, _, rfl, hown, hcell, fun _ => rfl⟩
    ·simp only [List.size_toArray];rw [splice_length _ _ _ (by simpa using hbound), Array.length_toList];exact hcap
 ·-- new memory
  have hd1 : NestOk w.drew g.own (some (n, none)) (fun i => some (n, some i)) A cap rb1 rc1 sz rows1 [] := hF1.mono id (fun b _ ho => ⟨ho, rfl⟩) (fun _ => id) (fun i b _ _ ho => ⟨ho, rfl⟩) (fun _ _ => ⟨rfl, rfl⟩);have hd2 : NestOk w.drew g.own (some (k, none)) (fun i => some (k, some i)) Ax cx rb2 rc2 sz rows2 [] := hF2.mono id (fun b _ ho => ⟨ho, rfl⟩) (fun _ => id) (fun i b _ _ ho => ⟨ho, rfl⟩) (fun _ _ => ⟨rfl, rfl⟩);have hl1 := hd1.loads (P := P) (c := cap) rfl;have hl2 := hd2.loads (P := P) (c := cx) rfl;rw [<- hsz1] at hl1 hl2;obtain ⟨c, rest, hc1, hcg, hc2, hrun⟩ := run_append_grows (w := w) (A := A) (Ax := Ax) (len := rows1.length) (cap := cap) (n := rows2.length) (cx := cx) hT ht hk he ty (by omega) hroom hl1 hl2;rw [hsz1, Nat.mul_one] at hc2;refine ⟨_, _, _, hrun, did_alloc R hm hnew c rb rc f gone hgm hf hf' w.drew ⟨rfl, .drew, rfl, rfl⟩ (fun g' hg' hl hheap hat => ?_) (fun g' hg' => hsl (by rw [hg']; simp [G.new]) (by rw [hg']; simp [G.new]))⟩;have hbase : g'.base m = some ⟨w.heap.size, 0, none⟩ := by rw [hg']; simp [G.new]
  have hcap : g'.cap m = c := by rw [hg']; simp [G.new]
  have hrb : g'.rbase m = rb := by rw [hg']; simp [G.new]
  have hrc : g'.rcap m = rc := by rw [hg']; simp [G.new]
  have hown : g'.own w.heap.size = some (m, none) := by rw [hg']; simp [G.new, ownNew]
  have hold : ∀ b, b < w.heap.size -> g'.own b = (g.own b).map f := fun b hb => by rw [hg']; simp [G.new, ownNew, show b ≠ w.heap.size by omega]
  show NestOk _ g'.own (some (m, none)) (fun i => some (m, some i)) (g'.base m) (g'.cap m) (g'.rbase m) (g'.rcap m) sz (rows1 ++ rows2) []
  rw [hbase, hcap, hrb, hrc];have k1 := hdrs_len (rb := rb1) (rc := rc1) rows1 0;have k2 := hdrs_len (rb := rb2) (rc := rc2) rows2 0;refine ⟨by rw [List.length_append]; exact hc1, hF1.pos, fun i fl hi => ?_, fun i fl hi _ => hrow hold (fun b i' x hb ho' => hheap b hb) i fl hi, fun _ => .inr ⟨_, _, _, _, rfl, hown, hat, ?_⟩⟩
  ·have hcell : (w.drew.alloc (.cells (hdrs rb1 rc1 0 rows1 ++ hdrs rb2 rc2 0 rows2 ++ rest.toList).toArray e)).cell? ((⟨w.heap.size, 0, none⟩ : Addr).add i) = some (.slice (rb i) fl.length (rc i)) := by
    rw [Addr.add_plain, cells_at hat, List.getElem?_toArray, Nat.zero_add, List.append_assoc];rcases get_app hi with ⟨h1, h2⟩ | ⟨h1, h2⟩
    ·rw [qLq (by omega), hdrs_get rows1 0 i fl h2];simp [rb, rc, h1]
    ·have := (qSq.1 h2).1;rw [qRq (by omega), qLq (by omega), k1, hdrs_get rows2 0 _ fl h2];simp [rb, rc, Nat.not_lt.2 h1]
   exact ⟨_, _, rfl, hown, hcell, fun _ => rfl⟩
  ·simp only [List.size_toArray, List.length_append, k1, k2, Array.length_toList, hc2];omega
theorem append_frz_core (hT : TabOk P T) {N : Nat -> Prop} (R : Rel Mn O0 w0 nt s g a w) {m : Nat} (hm : N m) (hnew : ¬ Mn m) {t e : Nat} {ti ei : TI} (ht : lk T t = some ti) (hk : ti.kind = .slice e) (he : lk T e = some ei) (ty : TypeId) (hsz1 : ei.size = 1)
  {n k sz : Nat} (hg : (n ≠ m /\ Mn n /\ n ≠ k) \/ n = m) (hMk : Mn k) {A Ax : Option Addr} {cap cx : Nat} {rb1 rb2 : Nat -> Option Addr} {rc1 rc2 : Nat -> Nat} {rows1 rows2 : List Flat}
  (hF1 : NestOk w g.own (some (n, none)) (fun _ => none) A cap rb1 rc1 sz rows1 []) (hF2 : NestOk w g.own (some (k, none)) (fun _ => none) Ax cx rb2 rc2 sz rows2 [])
  (hnil : n = m -> A = none /\ rows1 = []) (hroom : rows1.length + rows2.length <= 2147483648) :
  ∃ u w' g', (Builtin.append_ #[t, t] ty #[.slice A rows1.length cap, .slice Ax rows2.length cx]).run P w = .ok u w' /\
   Did Mn s g w N (.sl m none none) ((m, some (.fnest true sz (rows1 ++ rows2))) :: (if n = m then [k] else [n, k]).map fun n => (n, none)) u w' g' := by
 have hkm : k ≠ m := fun e => hnew (e ▸ hMk)
 obtain ⟨gone, hgone⟩ : ∃ gone, gone = if n = m then [k] else [n, k] := ⟨_, rfl⟩
 rw [<- hgone]
 have hin : ∀ x, x ∈ gone ↔ x = k \/ (x = n /\ n ≠ m) := fun x => by
  rw [hgone];by_cases h : n = m
  ·simp [h]
  ·rw [if_neg h]; simp [h]; exact Or.comm
 have hgm : ∀ x ∈ gone, Mn x := fun x hx => by
  rcases (hin x).1 hx with rfl | ⟨rfl, h⟩
  ·exact hMk
  ·rcases hg with h' | h'
   ·exact h'.2.1
   ·exact absurd h' h
 let f : Key -> Key := joinName n k m rows1.length
 have hnk : n ≠ k := by
  rcases hg with h | h
  ·exact h.2.2
  ·rw [h]; exact fun e => hkm e.symm
 have hf : ∀ x r, x ∉ gone -> f (x, r) = (x, r) := fun x r hx => by
  simp only [f, joinName];have h1 : x ≠ k := fun e => hx ((hin x).2 (.inl e))
  by_cases h2 : x = n
  ·have : n = m := by
    rcases Classical.em (n = m) with h | h
    ·exact h
    ·exact absurd ((hin x).2 (.inr ⟨h2, h⟩)) hx
   rw [if_pos h2, h2, this]
  ·rw [if_neg h2, if_neg h1]
 have hf' : ∀ x r, x ∈ gone -> (f (x, r)).1 = m \/ (f (x, r)).1 ∈ gone := fun x r hx => by
  simp only [f, joinName];by_cases h2 : x = n
  ·rw [if_pos h2]; exact .inl rfl
  ·rw [if_neg h2];have h1 : x = k := by
    rcases (hin x).1 hx with h | ⟨h, _⟩
    ·exact h
    ·exact absurd h h2
   rw [if_pos h1]
   cases r with
   | none => exact .inr (by simpa [h1] using hx)
   | some i => exact .inl rfl
 let rb : Nat -> Option Addr := fun i => if i < rows1.length then rb1 i else rb2 (i - rows1.length)
 let rc : Nat -> Nat := fun i => if i < rows1.length then rc1 i else rc2 (i - rows1.length)
 have fn : ∀ r, f (n, r) = (m, r) := fun r => by simp [f, joinName]
 -- the rows, wherever the heads lie
 have hrow : ∀ {w' : World} {own' : Nat -> Option Key}, (∀ b, b < w.heap.size -> own' b = (g.own b).map f) -> (∀ b, b < w.heap.size -> g.own b = none -> w'.heap[b]? = w.heap[b]?) ->
   ∀ (i : Nat) (fl : Flat), (rows1 ++ rows2)[i]? = some fl -> FlatOk w' own' none (rb i) (rc i) sz fl := by
  intro w' own' ho hh i fl hi;rcases get_app hi with ⟨h1, h2⟩ | ⟨h1, h2⟩
  ·have e1 : rb i = rb1 i := by simp [rb, h1]
   have e2 : rc i = rc1 i := by simp [rc, h1]
   rw [e1, e2];exact (hF1.row i fl h2 (by simp)).mono id (fun b hb hob => ⟨by rw [ho b hb, hob]; rfl, hh b hb hob⟩)
  ·have e1 : rb i = rb2 (i - rows1.length) := by simp [rb, Nat.not_lt.2 h1]
   have e2 : rc i = rc2 (i - rows1.length) := by simp [rc, Nat.not_lt.2 h1]
   rw [e1, e2];exact (hF2.row _ fl h2 (by simp)).mono id (fun b hb hob => ⟨by rw [ho b hb, hob]; rfl, hh b hb hob⟩)
 have hsl : ∀ {g' : G} {A' : Option Addr} {c' : Nat}, g'.base m = A' -> g'.cap m = c' -> VR3 (s.putW ((m, some (.fnest true sz (rows1 ++ rows2))) :: gone.map fun n => (n, none))) g' (.sl m none none) (.slice A' (rows1.length + rows2.length) c') := by
  intro g' A' c' h1 h2;refine VR3.one (v := .sl m none none) ⟨_, _, _, rfl, fun L sz' hL => ?_⟩;simp [lenSz, S.putW, S.setE] at hL;rw [h1, h2, <- hL.1];exact SubOk.whole
 by_cases hfit : rows1.length + rows2.length <= cap
 ·-- there is room
  have hnews := hF2.loads (P := P) (c := cx) rfl;have mk : ∀ (w' : World), (match A with | some a => storeCells (a.add (rows1.length * ei.size)) (hdrs rb2 rc2 0 rows2) | none => pure ()).run P w = .ok () w' -> (w'.os = w.os /\ Tp w w' /\ w'.output = w.output /\ w.heap.size <= w'.heap.size) -> w'.heap.size = w.heap.size ->
    (∀ b, b < w.heap.size -> g.own b ≠ some (n, none) -> w'.heap[b]? = w.heap[b]?) ->
    NestOk w' (fun b => (g.own b).map f) (some (m, none)) (fun _ => none) A cap rb rc sz (rows1 ++ rows2) [] ->
    (n = m -> w' = w) ->
    ∃ u w' g', (Builtin.append_ #[t, t] ty #[.slice A rows1.length cap, .slice Ax rows2.length cx]).run P w = .ok u w' /\
     Did Mn s g w N (.sl m none none) ((m, some (.fnest true sz (rows1 ++ rows2))) :: gone.map fun n => (n, none)) u w' g' := by
   intro w' hst hw hsz hheap hF hnm;rw [<- hsz1] at hnews;have hrun := run_append_fits (w := w) hT ht hk he ty hfit hnews hst;refine ⟨_, w', _, hrun, did_new R hm hnew A cap rb rc f gone hgm hf hf' _ (fun b _ => rfl) w' hw (fun b k hb hk => ?_) (fun b hb hne => ?_) (fun g' hg' hl => ?_) (fun g' hg' => hsl (by rw [hg']; simp [G.new]) (by rw [hg']; simp [G.new]))⟩
   ·cases ho : g.own b with
    | none => simp [ho] at hk
    | some k0 => have := R.bound b k0 ho; omega
   ·by_cases h : n = m
    ·rw [hnm h]
    ·exact hheap b hb (fun ho => hne n none ho ((hin n).2 (.inr ⟨rfl, h⟩)))
   ·show NestOk w' g'.own (some (m, none)) (fun _ => none) (g'.base m) (g'.cap m) (g'.rbase m) (g'.rcap m) sz (rows1 ++ rows2) []
    rw [hg'];simpa [G.new] using hF
  rcases hF1.room rfl with ⟨h0, h1⟩ | ⟨b, off, arr, ty', hA, ho, hh, hcap⟩
  ·have h2 : rows2 = [] := by
    rw [h1] at hfit;simp at hfit;exact List.length_eq_zero_iff.1 (by omega)
   subst h0;refine mk w ?_ ⟨rfl, .rfl, rfl, Nat.le_refl _⟩ rfl (fun _ _ _ => rfl) ?_ (fun _ => rfl)
   ·cases A <;> simp [h2, hdrs, storeCells]
   ·rw [h1, h2];exact ⟨by simp, hF1.pos, fun i row h => by simp at h, fun i row h => by simp at h, fun _ => .inl ⟨rfl, rfl⟩⟩
  ·subst hA;have hlen2 := hdrs_len (rb := rb2) (rc := rc2) rows2 0;have hbound : off + rows1.length + (hdrs rb2 rc2 0 rows2).length <= arr.size := by rw [hlen2]; omega
   refine mk (w.setRow b (splice arr.toList (off + rows1.length) (hdrs rb2 rc2 0 rows2)).toArray) ?_ ⟨rfl, .rfl, rfl, by simp⟩ (by simp) (fun b' hb' hne => setRow_other w b b' _ (fun e => ?_)) ?_ (fun h => by
    have := (hnil h).1; simp at this)
   ·show (storeCells ((⟨b, off, none⟩ : Addr).add (rows1.length * ei.size)) (hdrs rb2 rc2 0 rows2)).run P w = _
    rw [Addr.add_plain, hsz1, Nat.mul_one];exact run_store_at hh hbound (hdrs_one rows2 0)
   ·subst e; exact hne ho
   ·have hown : (fun b => (g.own b).map f) b = some (m, none) := by simp [ho, fn]
    refine ⟨by rw [List.length_append]; exact hfit, hF1.pos, fun i fl hi => ?_, fun i fl hi _ => hrow (fun _ _ => rfl) (fun b' hb' ho' => setRow_other w b b' _ (fun e => by subst e; rw [ho] at ho'; simp at ho')) i fl hi, fun _ => .inr ⟨b, off, _, ty', rfl, hown, setRow_heap_at hh, ?_⟩⟩
    ·have hil : i < (rows1 ++ rows2).length := (qSq.1 hi).1;rw [List.length_append] at hil;have hcell : (w.setRow b (splice arr.toList (off + rows1.length) (hdrs rb2 rc2 0 rows2)).toArray).cell? ((⟨b, off, none⟩ : Addr).add i) = some (.slice (rb i) fl.length (rc i)) := by
      rw [Addr.add_plain, cells_at (setRow_heap_at hh), List.getElem?_toArray, splice_get _ _ _ _ (by simpa using hbound)];rcases get_app hi with ⟨h1, h2⟩ | ⟨h1, h2⟩
      ·rw [if_neg (by omega)];obtain ⟨ad, v, hA, _, hc, hv⟩ := hF1.head i fl h2;injection hA with hA
       subst hA;rw [Addr.add_plain, cells_at hh, <- Array.getElem?_toList] at hc;rw [hc, hv (by simp)];simp [rb, rc, h1]
      ·rw [if_pos ⟨by omega, by rw [hlen2]; omega⟩];rw [show off + i - (off + rows1.length) = i - rows1.length by omega];rw [hdrs_get rows2 0 _ fl h2];simp [rb, rc, Nat.not_lt.2 h1]
     exact ⟨_, _, rfl, hown, hcell, fun _ => rfl⟩
    ·simp only [List.size_toArray];rw [splice_length _ _ _ (by simpa using hbound), Array.length_toList];exact hcap
 ·-- new memory
  have hd1 : NestOk w.drew g.own (some (n, none)) (fun _ => none) A cap rb1 rc1 sz rows1 [] := hF1.mono id (fun b _ ho => ⟨ho, rfl⟩) (fun _ => id) (fun i b _ _ ho => ⟨ho, rfl⟩) (fun _ _ => ⟨rfl, rfl⟩);have hd2 : NestOk w.drew g.own (some (k, none)) (fun _ => none) Ax cx rb2 rc2 sz rows2 [] := hF2.mono id (fun b _ ho => ⟨ho, rfl⟩) (fun _ => id) (fun i b _ _ ho => ⟨ho, rfl⟩) (fun _ _ => ⟨rfl, rfl⟩);have hl1 := hd1.loads (P := P) (c := cap) rfl;have hl2 := hd2.loads (P := P) (c := cx) rfl;rw [<- hsz1] at hl1 hl2;obtain ⟨c, rest, hc1, hcg, hc2, hrun⟩ := run_append_grows (w := w) (A := A) (Ax := Ax) (len := rows1.length) (cap := cap) (n := rows2.length) (cx := cx) hT ht hk he ty (by omega) hroom hl1 hl2;rw [hsz1, Nat.mul_one] at hc2;refine ⟨_, _, _, hrun, did_alloc R hm hnew c rb rc f gone hgm hf hf' w.drew ⟨rfl, .drew, rfl, rfl⟩ (fun g' hg' hl hheap hat => ?_) (fun g' hg' => hsl (by rw [hg']; simp [G.new]) (by rw [hg']; simp [G.new]))⟩;have hbase : g'.base m = some ⟨w.heap.size, 0, none⟩ := by rw [hg']; simp [G.new]
  have hcap : g'.cap m = c := by rw [hg']; simp [G.new]
  have hrb : g'.rbase m = rb := by rw [hg']; simp [G.new]
  have hrc : g'.rcap m = rc := by rw [hg']; simp [G.new]
  have hown : g'.own w.heap.size = some (m, none) := by rw [hg']; simp [G.new, ownNew]
  have hold : ∀ b, b < w.heap.size -> g'.own b = (g.own b).map f := fun b hb => by rw [hg']; simp [G.new, ownNew, show b ≠ w.heap.size by omega]
  show NestOk _ g'.own (some (m, none)) (fun _ => none) (g'.base m) (g'.cap m) (g'.rbase m) (g'.rcap m) sz (rows1 ++ rows2) []
  rw [hbase, hcap, hrb, hrc];have k1 := hdrs_len (rb := rb1) (rc := rc1) rows1 0;have k2 := hdrs_len (rb := rb2) (rc := rc2) rows2 0;refine ⟨by rw [List.length_append]; exact hc1, hF1.pos, fun i fl hi => ?_, fun i fl hi _ => hrow hold (fun b hb ho' => hheap b hb) i fl hi, fun _ => .inr ⟨_, _, _, _, rfl, hown, hat, ?_⟩⟩
  ·have hcell : (w.drew.alloc (.cells (hdrs rb1 rc1 0 rows1 ++ hdrs rb2 rc2 0 rows2 ++ rest.toList).toArray e)).cell? ((⟨w.heap.size, 0, none⟩ : Addr).add i) = some (.slice (rb i) fl.length (rc i)) := by
    rw [Addr.add_plain, cells_at hat, List.getElem?_toArray, Nat.zero_add, List.append_assoc];rcases get_app hi with ⟨h1, h2⟩ | ⟨h1, h2⟩
    ·rw [qLq (by omega), hdrs_get rows1 0 i fl h2];simp [rb, rc, h1]
    ·have := (qSq.1 h2).1;rw [qRq (by omega), qLq (by omega), k1, hdrs_get rows2 0 _ fl h2];simp [rb, rc, Nat.not_lt.2 h1]
   exact ⟨_, _, rfl, hown, hcell, fun _ => rfl⟩
  ·simp only [List.size_toArray, List.length_append, k1, k2, Array.length_toList, hc2];omega
end
end Go.Sh
namespace Go.Sh
variable [Fwd]
section
variable {P : Program} {T : Tab} {Mn O0 : Nat -> Prop} {w0 : Base} {w : World} {nt : Nat} {s : S} {g : G} {a : Act} {fresh : Nat} {seen rd : List Nat} {r : List Nat × SV × Ws}
theorem splice_nil {α : Type} : ∀ (l : List α) (n : Nat), splice l n [] = l := by
 intro l
 induction l with
 | nil => intro n; cases n <;> rfl
 | cons a r ih => intro n; cases n with
  | zero => rfl
  | succ n => simp [splice, ih]
theorem loOf_cut {sub : Option (Nat × Nat)} {rows : Flat} {A base : Option Addr} {len cap cap0 sz : Nat} (h : SubOk base cap0 rows.length sz sub A len cap) : len = (cut sub rows).length /\ loOf sub + len <= rows.length /\ (len = 0 \/ A = base.map (·.add (loOf sub * sz))) := by
 cases sub with
 | none =>
  obtain ⟨rfl, rfl, rfl⟩ := h;refine ⟨rfl, by simp [loOf], .inr ?_⟩
  cases A with
  | none => rfl
  | some ad => simp [loOf, Addr.add_zero]
 | some p =>
  obtain ⟨lo, l⟩ := p;obtain ⟨rfl, h1, h2, h3, h4⟩ := h;refine ⟨by simp [cut]; omega, by simpa [loOf] using h1, ?_⟩;rcases h4 with h4 | h4
  ·exact .inl (by omega)
  ·exact .inr (by simpa [loOf] using h4)
theorem FlatOk.lay {own : Nat -> Option Key} {k : Key} {A : Option Addr} {cap sz : Nat} {rows S : Flat} (h : FlatOk w own (some k) A cap sz rows) {lo : Nat} (hl : lo + S.length <= rows.length) (hS : 0 < S.length) (heS : ∀ (i : Nat) (row : Row), S[i]? = some row -> row.length = sz) :
  ∃ b off arr ty, A = some ⟨b, off, none⟩ /\ own b = some k /\ w.heap[b]? = some (.cells arr ty (0, 0)) /\ off + lo * sz + (cellsR S).length <= arr.size /\
   FlatOk (w.setRow b (splice arr.toList (off + lo * sz) (cellsR S)).toArray) own (some k) A cap sz (splice rows lo S) := by
 have hcl := cellsR_len heS
 rcases h.room rfl with ⟨_, h0⟩ | ⟨b, off, arr, ty, rfl, ho, hh, hsz⟩
 ·rw [h0] at hl;have : lo + S.length <= 0 := hl;omega
 ·have hfit := h.fits;have hb : off + lo * sz + (cellsR S).length <= arr.size := by
   rw [hcl];have : (lo + S.length) * sz <= cap * sz := Nat.mul_le_mul_right _ (by omega);rw [Nat.add_mul] at this;omega
  have hget := splice_get rows lo S;have hev : ∀ (i : Nat) (row : Row), (splice rows lo S)[i]? = some row -> row.length = sz := fun i row hi => by
   rw [hget i hl] at hi;split at hi
   ·exact heS _ _ hi
   ·exact h.even _ _ hi
  refine ⟨b, off, arr, ty, rfl, ho, hh, hb, ⟨by rw [splice_length _ _ _ hl]; exact h.fits, h.pos, hev, fun i row j x hi hj => ⟨_, rfl, ho, ?_⟩, fun _ => .inr ⟨b, off, _, ty, rfl, ho, setRow_heap_at hh, ?_⟩⟩⟩
  ·have hjl : j < sz := by rw [<- hev i row hi]; exact (qSq.1 hj).1
   rw [Addr.add_plain, cells_at (setRow_heap_at hh), List.getElem?_toArray, splice_get _ _ _ _ (by simpa using hb)];rw [hget i hl] at hi;by_cases hc : lo <= i /\ i < lo + S.length
   ·rw [if_pos hc] at hi;have hc2 := cellsR_get heS hi hj;have hc3 := (qSq.1 hc2).1;have hi' : i * sz = lo * sz + (i - lo) * sz := by rw [<- Nat.add_mul]; congr 1; omega
    rw [if_pos ⟨by omega, by omega⟩, show off + (i * sz + j) - (off + lo * sz) = (i - lo) * sz + j by omega];exact hc2
   ·rw [if_neg hc] at hi;rw [if_neg]
    ·obtain ⟨ad, hA, _, hcell⟩ := h.cell i row j x hi hj;injection hA with hA
     subst hA;rw [Addr.add_plain, cells_at hh, <- Array.getElem?_toList] at hcell;exact hcell
    ·rw [hcl];rintro ⟨k1, k2⟩;apply hc
     constructor
     ·rcases Nat.lt_or_ge i lo with hlt | hge
      ·have : (i + 1) * sz <= lo * sz := Nat.mul_le_mul_right _ hlt;rw [Nat.add_mul] at this; omega
      ·exact hge
     ·rcases Nat.lt_or_ge i (lo + S.length) with hlt | hge
      ·exact hlt
      ·have : (lo + S.length) * sz <= i * sz := Nat.mul_le_mul_right _ hge;rw [Nat.add_mul] at this; omega
  ·simp only [List.size_toArray];rw [splice_length _ _ _ (by simpa using hb), Array.length_toList];exact hsz
theorem FlatOk.take {own : Nat -> Option Key} {key : Option Key} {A : Option Addr} {cap sz : Nat} {rows : Flat} (h : FlatOk w own key A cap sz rows) {n : Nat} (hn : n <= rows.length) : FlatOk w own key A cap sz (rows.take n) := by
 have hlen : (rows.take n).length = n := by rw [List.length_take]; omega
 have hg : ∀ {i : Nat} {row : Row}, (rows.take n)[i]? = some row -> rows[i]? = some row := fun {i row} hi => by
  rw [List.getElem?_take] at hi;split at hi
  ·exact hi
  ·simp at hi
 refine ⟨by rw [hlen]; exact Nat.le_trans hn h.fits, h.pos, fun i row hi => h.even i row (hg hi), fun i row j x hi hj => h.cell i row j x (hg hi) hj, fun hk => ?_⟩
 rcases h.room hk with ⟨h1, h2⟩ | h1
 ·exact .inl ⟨h1, by rw [h2]; simp⟩
 ·exact .inr h1
theorem copy_sim (hT : TabOk P T) (R : Rel Mn O0 w0 nt s g a w) (hs : Seen Mn seen) {t : Nat} {ty : TypeId} {x y : SV} {u v : Value} (hx : VR3 s g x u) (hy : VR3 s g y v)
  (h : runP s fresh (copyP T t x y) seen rd = some r) : Out P Mn s g w fresh (Builtin.copy_ #[t, t] ty #[u, v]) r := by
 unfold copyP at h
 cases ht : lk T t with
 | none => rw [ht] at h; exact (qfq h).elim
 | some ti =>
  rw [ht] at h;simp only at h
  cases hk : ti.kind with
  | slice e =>
   rw [hk] at h;simp only at h
   cases he : lk T e with
   | none => rw [he] at h; exact (qfq h).elim
   | some ei =>
   rw [he] at h;simp only at h;have hpos := (hT e ei he).pos.2.2;obtain ⟨k2, Ax, cx, src, seen1, rd1, rfl, hF2, hs1, h1⟩ := flatOf_inv R hs hpos hy h
   clear h
   cases x with
   | sl n row sub =>
    cases row with
    | some _ => exact (qfq h1).elim
    | none =>
     simp only at h1;obtain ⟨en, seen2, rd2, hen, hok, hmn, _, hs2, h2⟩ := ent_inv R h1 hs1
     cases en with
     | flat own sz rows =>
      cases own with
      | false => exact (qfq h2).elim
      | true =>
       obtain ⟨hb, h3⟩ := bif_inv h2;have hb := qBq hb;subst hb;obtain ⟨_, h4⟩ := test_inv' h3;obtain ⟨rfl, hn⟩ := ret_inv h4 hs2;obtain ⟨A, len, cap, rfl, hsub⟩ := hx;have hF : FlatOk w g.own (some (n, none)) (g.base n) (g.cap n) ei.size rows := hok;obtain ⟨k3, k4, k5⟩ := loOf_cut (hsub rows.length ei.size (by simp [lenSz, hen]));have hu := (hT t ti ht).run_slice w hk;have hsz := (hT e ei he).run_size w;have hmin : Nat.min src.length len <= src.length := Nat.min_le_left _ _;have hld := (hF2.take hmin).loads (P := P) (n := Nat.min src.length len) (c := cx) (by rw [List.length_take]; exact (Nat.min_eq_left hmin).symm);have hfc : Builtin.firstCells ei.size (Nat.min src.length len) (.slice Ax src.length cx) = Builtin.firstCells ei.size (Nat.min src.length len) (.slice Ax (Nat.min src.length len) cx) := by
        cases Ax <;> rfl
       rw [<- hfc] at hld;have hSlen : (src.take len).length = Nat.min src.length len := by rw [List.length_take]; exact Nat.min_comm _ _
       have htk : src.take (Nat.min src.length len) = src.take len := by
        rw [List.take_eq_take_iff];show min (Nat.min src.length len) src.length = min len src.length
        have : Nat.min src.length len = min src.length len := rfl;omega
       rw [htk] at hld;rw [<- k3] at hn ⊢;have mk : ∀ (w' : World), (match A with | some a => storeCells a (cellsR (src.take len)) | none => pure ()).run P w = .ok () w' -> (w'.os = w.os /\ Tp w w' /\ w'.output = w.output /\ w'.heap.size = w.heap.size) ->
         (∀ b, b < w.heap.size -> g.own b ≠ some (n, none) -> w'.heap[b]? = w.heap[b]?) ->
         FlatOk w' g.own (some (n, none)) (g.base n) (g.cap n) ei.size (splice rows (loOf sub) (src.take len)) ->
         Out P Mn s g w fresh (Builtin.copy_ #[t, t] ty #[.slice A len cap, .slice Ax src.length cx]) (rd2, .s (.i .i64 (min src.length len : Nat)), [(n, some (.flat true ei.size (laid rows (loOf sub) len src)))]) := by
        intro w' hst hw hheap hFl;have hlen2 : (laid rows (loOf sub) len src).length = rows.length := by
         rw [laid, splice_length];rw [hSlen];have : Nat.min src.length len = min src.length len := rfl;omega
        have hless : Less s (s.putW [(n, some (.flat true ei.size (laid rows (loOf sub) len src)))]) g g n :=
         ⟨rfl, rfl, fun p hp => by
          simp only [lenSz, at_put] at hp;simp only [lenSz, hen];rw [hlen2] at hp; exact hp, fun r ver L sz' hv hr => by
          obtain ⟨q1, q2, q3, q4, fl', he', _⟩ := hr;rw [at_put] at he';simp at he', fun ver hv => by
          intro q1 q2 q3 q4 q5 he';rw [at_put] at he';simp at he'⟩
        have d := did_keep (fresh := fresh) R hmn (e' := .flat true ei.size (laid rows (loOf sub) len src)) w' hw (fun b hb hne => hheap b hb (fun ho => hne n none ho rfl)) hless (fun _ => hFl) (.int .i64 (min src.length len : Nat));refine ⟨.int .i64 (min src.length len : Nat), w', g, ?_, ⟨d.frm, d.own, d.bound, d.label, d.less, d.ents, rfl⟩, hn⟩
        cases A with
        | none =>
         simp only at hst;have hst : w = w' := by simpa using hst
         subst hst;simp [Builtin.copy_, hu, hsz, Builtin.lenOf, hld, goInt]
        | some ad =>
         simp only at hst;simp [Builtin.copy_, hu, hsz, Builtin.lenOf, hld, goInt, hst]
       rcases Nat.eq_zero_or_pos (src.take len).length with hz | hz
       ·have hnil : src.take len = [] := List.length_eq_zero_iff.1 hz;refine mk w ?_ ⟨rfl, .rfl, rfl, rfl⟩ (fun _ _ _ => rfl) ?_
        ·rw [hnil]; cases A <;> simp [cellsR, storeCells]
        ·rw [hnil, splice_nil]; exact hF
       ·have hle : loOf sub + (src.take len).length <= rows.length := by
         rw [hSlen];have : Nat.min src.length len = min src.length len := rfl;omega
        have heS : ∀ (i : Nat) (row : Row), (src.take len)[i]? = some row -> row.length = ei.size := fun i row hi => hF2.even i row (by
         rw [List.getElem?_take] at hi;split at hi
         ·exact hi
         ·simp at hi)
        obtain ⟨b, off, arr, ty', hbase, ho, hh, hbound, hlay⟩ := hF.lay hle hz heS;have hA : A = some ⟨b, off + loOf sub * ei.size, none⟩ := by
         rcases k5 with h0 | h0
         ·rw [h0] at hz; simp at hz
         ·rw [h0, hbase]; simp [Addr.add_plain]
        refine mk _ ?_ (setRow_same b _) (fun b' hb' hne => setRow_other w b b' _ (fun e => hne (e ▸ ho))) hlay;rw [hA];exact run_store_at hh hbound (cellsR_one _)
     | _ => exact (qfq h2).elim
   | _ => exact (qfq h1).elim
  | _ => rw [hk] at h; exact (qfq h).elim
theorem append_nest (hT : TabOk P T) (R : Rel Mn O0 w0 nt s g a w) (hs : Seen Mn seen) (hf : ∀ m, InR fresh m -> ¬ Mn m) {t e : Nat} {ti ei : TI} (ht : lk T t = some ti) (hk : ti.kind = .slice e) (he : lk T e = some ei) (h1 : ei.size = 1) (ty : TypeId) {sz : Nat} {x y : SV} {u v : Value} (hx : VR3 s g x u) (hy : VR3 s g y v)
  (h : runP s fresh (appendNest sz fresh x y) seen rd = some r) : OutR P Mn O0 w0 nt s a w fresh (Builtin.append_ #[t, t] ty #[u, v]) r := by
 have hin : InR fresh fresh := ⟨Nat.le_refl _, by omega⟩
 unfold appendNest at h
 split at h
 ·rename_i k;obtain ⟨ek, seen1, rd1, hek, hokk, hMk, _, hs1, h2⟩ := ent_inv R h hs
  cases ek with
  | nest own sz2 rows2 holes2 log2 =>
   cases own with
   | false => exact (qfq h2).elim
   | true =>
    cases holes2 with
    | cons _ _ => exact (qfq h2).elim
    | nil =>
     simp only at h2;obtain ⟨hb, h3⟩ := bif_inv h2;have hb := qBq hb;subst hb;obtain ⟨Ax, len2, cx, rfl, hsub2⟩ := hy;obtain ⟨rfl, rfl, rfl⟩ := hsub2 rows2.length 1 (by simp [lenSz, hek]);have hF2 : NestOk w g.own (some (k, none)) (fun i => some (k, some i)) (g.base k) (g.cap k) (g.rbase k) (g.rcap k) sz2 rows2 [] := hokk;split at h3
     ·have hu : u = .slice none 0 0 := hx;subst hu;obtain ⟨hr, h4⟩ := room_inv h3;obtain ⟨rfl, hn⟩ := ret_inv h4 hs1;obtain ⟨u', w', g', hrun, hd⟩ := append_nest_core (N := InR fresh) hT R hin (hf _ hin) ht hk he ty h1 (n := fresh) (k := k) (.inr rfl) hMk (A := none) (cap := 0) (rb1 := fun _ => none) (rc1 := fun _ => 0) (rows1 := [])
       ⟨by simp, hF2.pos, fun i row h => by simp at h, fun i row h => by simp at h, fun _ => .inl ⟨rfl, rfl⟩⟩ hF2 (fun _ => ⟨rfl, rfl⟩) (by simpa using hr)
      rw [if_pos rfl] at hd;exact Out.toR R ⟨u', w', g', hrun, hd, hn⟩
     ·rename_i n
      cases hnk : Nat.beq n k with
      | true => rw [hnk] at h3; exact (qfq h3).elim
      | false =>
       rw [hnk] at h3;simp only [cond_false] at h3;have hne : n ≠ k := fun e => by subst e; rw [Nat.beq_refl] at hnk; simp at hnk
       obtain ⟨en, seen2, rd2, hen, hokn, hMn, _, hs2, h4⟩ := ent_inv R h3 hs1
       cases en with
       | nest own sz1 rows1 holes1 log1 =>
        cases own with
        | false => exact (qfq h4).elim
        | true =>
         cases holes1 with
         | cons _ _ => exact (qfq h4).elim
         | nil =>
          simp only at h4;obtain ⟨hb, h5⟩ := bif_inv h4;have hb := qBq hb;subst hb;obtain ⟨hr, h6⟩ := room_inv h5;obtain ⟨rfl, hn⟩ := ret_inv h6 hs2;obtain ⟨A, len, cap, rfl, hsub⟩ := hx;obtain ⟨rfl, rfl, rfl⟩ := hsub rows1.length 1 (by simp [lenSz, hen]);have hF1 : NestOk w g.own (some (n, none)) (fun i => some (n, some i)) (g.base n) (g.cap n) (g.rbase n) (g.rcap n) sz1 rows1 [] := hokn;have hnf : n ≠ fresh := fun e => hf _ hin (e ▸ hMn)
          obtain ⟨u', w', g', hrun, hd⟩ := append_nest_core (N := InR fresh) hT R hin (hf _ hin) ht hk he ty h1 (n := n) (k := k) (.inl ⟨hnf, hMn, hne⟩) hMk hF1 hF2 (fun e => absurd e hnf) hr;rw [if_neg hnf] at hd;exact Out.toR R ⟨u', w', g', hrun, hd, hn⟩
       | _ => exact (qfq h4).elim
     ·exact (qfq h3).elim
  | fnest own sz2 rows2 =>
   cases own with
   | false => exact (qfq h2).elim
   | true =>
    simp only at h2;obtain ⟨hb, h3⟩ := bif_inv h2;have hb := qBq hb;subst hb;obtain ⟨Ax, len2, cx, rfl, hsub2⟩ := hy;obtain ⟨rfl, rfl, rfl⟩ := hsub2 rows2.length 1 (by simp [lenSz, hek]);have hF2 : NestOk w g.own (some (k, none)) (fun _ => none) (g.base k) (g.cap k) (g.rbase k) (g.rcap k) sz2 rows2 [] := hokk;split at h3
    ·have hu : u = .slice none 0 0 := hx;subst hu;obtain ⟨hr, h4⟩ := room_inv h3;obtain ⟨rfl, hn⟩ := ret_inv h4 hs1;obtain ⟨u', w', g', hrun, hd⟩ := append_frz_core (N := InR fresh) hT R hin (hf _ hin) ht hk he ty h1 (n := fresh) (k := k) (.inr rfl) hMk (A := none) (cap := 0) (rb1 := fun _ => none) (rc1 := fun _ => 0) (rows1 := [])
      ⟨by simp, hF2.pos, fun i row h => by simp at h, fun i row h => by simp at h, fun _ => .inl ⟨rfl, rfl⟩⟩ hF2 (fun _ => ⟨rfl, rfl⟩) (by simpa using hr)
     rw [if_pos rfl] at hd;exact Out.toR R ⟨u', w', g', hrun, hd, hn⟩
    ·rename_i n
     cases hnk : Nat.beq n k with
     | true => rw [hnk] at h3; exact (qfq h3).elim
     | false =>
      rw [hnk] at h3;simp only [cond_false] at h3;have hne : n ≠ k := fun e => by subst e; rw [Nat.beq_refl] at hnk; simp at hnk
      obtain ⟨en, seen2, rd2, hen, hokn, hMn, _, hs2, h4⟩ := ent_inv R h3 hs1
      cases en with
      | fnest own sz1 rows1 =>
       cases own with
       | false => exact (qfq h4).elim
       | true =>
        simp only at h4;obtain ⟨hb, h5⟩ := bif_inv h4;have hb := qBq hb;subst hb;obtain ⟨hr, h6⟩ := room_inv h5;obtain ⟨rfl, hn⟩ := ret_inv h6 hs2;obtain ⟨A, len, cap, rfl, hsub⟩ := hx;obtain ⟨rfl, rfl, rfl⟩ := hsub rows1.length 1 (by simp [lenSz, hen]);have hF1 : NestOk w g.own (some (n, none)) (fun _ => none) (g.base n) (g.cap n) (g.rbase n) (g.rcap n) sz1 rows1 [] := hokn;have hnf : n ≠ fresh := fun e => hf _ hin (e ▸ hMn)
        obtain ⟨u', w', g', hrun, hd⟩ := append_frz_core (N := InR fresh) hT R hin (hf _ hin) ht hk he ty h1 (n := n) (k := k) (.inl ⟨hnf, hMn, hne⟩) hMk hF1 hF2 (fun e => absurd e hnf) hr;rw [if_neg hnf] at hd;exact Out.toR R ⟨u', w', g', hrun, hd, hn⟩
      | _ => exact (qfq h4).elim
    ·exact (qfq h3).elim
  | _ => exact (qfq h2).elim
 ·exact (qfq h).elim
theorem zero_rows {zc : Array Value} {zr : Row} (h : zc.toList = zr.map Sc.val) (n : Nat) : (Builtin.zeroCells zc n).toList = cellsR (List.replicate n zr) := by
 have hsz : zc.size = zr.length := by rw [<- Array.length_toList, h, List.length_map]
 have h0 : (Builtin.zeroCells zc n).toList = (List.range (n * zr.length)).map fun i => zc[i % zr.length]! := by simp [Builtin.zeroCells, hsz]
 rw [h0]
 clear h0
 induction n with
 | zero => simp [cellsR]
 | succ n ih =>
  have hr : (List.replicate (n + 1) zr).flatten = (List.replicate n zr).flatten ++ zr := by rw [List.replicate_succ', List.flatten_append]; simp
  rw [cellsR, hr, List.map_append, Nat.add_mul, Nat.one_mul, List.range_add, List.map_append, ih, cellsR, List.map_map]
  congr 1
  rw [<- h];apply List.ext_getElem
  ·simp [hsz]
  ·intro i h1 h2;have hi : i < zr.length := by simpa using h1
   simp only [List.getElem_map, List.getElem_range, Function.comp];rw [Nat.mul_comm n, Nat.mul_add_mod, Nat.mod_eq_of_lt hi, getElem!_pos zc i (by omega)];simp
theorem clear_sim (hT : TabOk P T) (R : Rel Mn O0 w0 nt s g a w) (hs : Seen Mn seen) {t : Nat} {ty : TypeId} {x : SV} {u : Value} (hx : VR3 s g x u)
  (h : runP s fresh (clearP T t x) seen rd = some r) : Out P Mn s g w fresh (Builtin.clear_ #[t] ty #[u]) r := by
 unfold clearP at h
 cases ht : lk T t with
 | none => rw [ht] at h; exact (qfq h).elim
 | some ti =>
  rw [ht] at h;simp only at h
  cases hk : ti.kind with
  | slice e =>
   rw [hk] at h;simp only at h
   cases he : lk T e with
   | none => rw [he] at h; exact (qfq h).elim
   | some ei =>
   rw [he] at h;simp only at h
   cases hzr : zeroRow ei with
   | none => rw [hzr] at h; exact (qfq h).elim
   | some zr =>
   rw [hzr] at h;simp only at h;have hpos := (hT e ei he).pos.2.2;obtain ⟨z, hz, hz1, hz2, _⟩ := (hT e ei he).run_zero (w := w);have hzz := scOf_some hzr;have hzc : z.cells.toList = zr.map Sc.val := by
    apply List.ext_getElem
    ·rw [<- hz2.1, hzz]; simp
    ·intro i h1 h2;have hi : i < zr.length := by simpa using h2
     have := (hz2.2 i (.s zr[i]) _ (by rw [hzz]; simp [hi]) (qEq h1)).2;simpa using this
   have hzl : zr.length = ei.size := by rw [<- hz1, <- Array.length_toList, hzc, List.length_map]
   cases x with
   | sl n row sub =>
    cases row with
    | some _ => exact (qfq h).elim
    | none =>
     simp only at h;obtain ⟨en, seen2, rd2, hen, hok, hmn, _, hs2, h2⟩ := ent_inv R h hs
     cases en with
     | flat own sz rows =>
      cases own with
      | false => exact (qfq h2).elim
      | true =>
       obtain ⟨hb, h3⟩ := bif_inv h2;have hb := qBq hb;subst hb;obtain ⟨_, h4⟩ := test_inv' h3;obtain ⟨rfl, hn⟩ := ret_inv h4 hs2;obtain ⟨A, len, cap, rfl, hsub⟩ := hx;have hF : FlatOk w g.own (some (n, none)) (g.base n) (g.cap n) ei.size rows := hok;obtain ⟨k3, k4, k5⟩ := loOf_cut (hsub rows.length ei.size (by simp [lenSz, hen]));have hu := (hT t ti ht).run_slice w hk;rw [<- k3] at hn ⊢;have hSl : (List.replicate len zr).length = len := by simp
       have mk : ∀ (w' : World), (match A with | some a => storeCells a (cellsR (List.replicate len zr)) | none => pure ()).run P w = .ok () w' -> (w'.os = w.os /\ Tp w w' /\ w'.output = w.output /\ w'.heap.size = w.heap.size) ->
         (∀ b, b < w.heap.size -> g.own b ≠ some (n, none) -> w'.heap[b]? = w.heap[b]?) ->
         FlatOk w' g.own (some (n, none)) (g.base n) (g.cap n) ei.size (splice rows (loOf sub) (List.replicate len zr)) ->
         Out P Mn s g w fresh (Builtin.clear_ #[t] ty #[.slice A len cap]) (rd2, .tup [], [(n, some (.flat true ei.size (splice rows (loOf sub) (List.replicate len zr))))]) := by
        intro w' hst hw hheap hFl;have hlen2 : (splice rows (loOf sub) (List.replicate len zr)).length = rows.length := splice_length _ _ _ (by rw [hSl]; exact k4);have hless : Less s (s.putW [(n, some (.flat true ei.size (splice rows (loOf sub) (List.replicate len zr))))]) g g n :=
         ⟨rfl, rfl, fun p hp => by
          simp only [lenSz, at_put] at hp;simp only [lenSz, hen];rw [hlen2] at hp; exact hp, fun r ver L sz' hv hr => by
          obtain ⟨q1, q2, q3, q4, fl', he', _⟩ := hr;rw [at_put] at he';simp at he', fun ver hv => by
          intro q1 q2 q3 q4 q5 he';rw [at_put] at he';simp at he'⟩
        have d := did_keep (fresh := fresh) R hmn (e' := .flat true ei.size (splice rows (loOf sub) (List.replicate len zr))) w' hw (fun b hb hne => hheap b hb (fun ho => hne n none ho rfl)) hless (fun _ => hFl) (.tuple #[]);refine ⟨.tuple #[], w', g, ?_, ⟨d.frm, d.own, d.bound, d.label, d.less, d.ents, ⟨#[], rfl, rfl, fun i a b h => by simp at h⟩⟩, hn⟩
        cases A with
        | none =>
         simp only at hst;have hst : w = w' := by simpa using hst
         subst hst;simp [Builtin.clear_, hu]
        | some ad =>
         simp only at hst
         cases len with
         | zero =>
          have hst : w = w' := by simpa [cellsR, storeCells] using hst
          subst hst;simp [Builtin.clear_, hu]
         | succ len =>
          rw [<- zero_rows hzc] at hst;simp [Builtin.clear_, hu, hz, hst]
       rcases Nat.eq_zero_or_pos len with hz0 | hz0
       ·subst hz0;refine mk w ?_ ⟨rfl, .rfl, rfl, rfl⟩ (fun _ _ _ => rfl) ?_
        ·cases A <;> simp [cellsR, storeCells]
        ·rw [List.replicate_zero, splice_nil]; exact hF
       ·have heS : ∀ (i : Nat) (row : Row), (List.replicate len zr)[i]? = some row -> row.length = ei.size := fun i row hi => by
         rw [List.eq_of_mem_replicate (qMq hi)]; exact hzl
        obtain ⟨b, off, arr, ty', hbase, ho, hh, hbound, hlay⟩ := hF.lay (S := List.replicate len zr) (by rw [hSl]; exact k4) (by rw [hSl]; exact hz0) heS;have hA : A = some ⟨b, off + loOf sub * ei.size, none⟩ := by
         rcases k5 with h0 | h0
         ·omega
         ·rw [h0, hbase]; simp [Addr.add_plain]
        refine mk _ ?_ (setRow_same b _) (fun b' hb' hne => setRow_other w b b' _ (fun e => hne (e ▸ ho))) hlay;rw [hA];exact run_store_at hh hbound (cellsR_one _)
     | _ => exact (qfq h2).elim
   | _ => exact (qfq h).elim
  | _ => rw [hk] at h; exact (qfq h).elim
end
end Go.Sh
namespace Go.Sh
variable [Fwd]
open Go.Maps
theorem mapPut_len (l : List (List Int × Int)) (x : List Int) (v : Int) (h : x ∉ l.map (·.1)) : mapPut l x v = l ++ [(x, v)] := by
 induction l with
 | nil => rfl
 | cons p r ih =>
  obtain ⟨k, u⟩ := p;simp only [List.map_cons, List.mem_cons, not_or] at h;simp only [mapPut];rw [if_neg (fun e => h.1 e.symm), ih h.2]; rfl
theorem mapPut_at : ∀ (l : List (List Int × Int)) (x : List Int) (v u : Int) (j : Nat), (l.map (·.1)).Nodup -> l[j]? = some (x, u) -> mapPut l x v = l.set j (x, v) := by
 intro l
 induction l with
 | nil => intro x v u j _ h; simp at h
 | cons p r ih =>
  obtain ⟨k, w⟩ := p;intro x v u j hn h;simp only [List.map_cons, List.nodup_cons] at hn
  cases j with
  | zero => simp at h; obtain ⟨rfl, rfl⟩ := h; simp [mapPut]
  | succ j =>
   have h' : r[j]? = some (x, u) := by simpa using h
   have hne : k ≠ x := fun e => hn.1 (by rw [e]; exact List.mem_map.2 ⟨(x, u), qMq h', rfl⟩)
   simp only [mapPut, if_neg hne, List.set_cons_succ, ih x v u j hn.2 h']
theorem mapGet_none (l : List (List Int × Int)) (x : List Int) (h : x ∉ l.map (·.1)) : mapGet l x = 0 := by
 induction l with
 | nil => rfl
 | cons p r ih =>
  obtain ⟨k, u⟩ := p;simp only [List.map_cons, List.mem_cons, not_or] at h;simp only [mapGet];rw [if_neg (fun e => h.1 e.symm), ih h.2]
theorem mapGet_at : ∀ (l : List (List Int × Int)) (x : List Int) (u : Int) (j : Nat), (l.map (·.1)).Nodup -> l[j]? = some (x, u) -> mapGet l x = u := by
 intro l
 induction l with
 | nil => intro x u j _ h; simp at h
 | cons p r ih =>
  obtain ⟨k, w⟩ := p;intro x u j hn h;simp only [List.map_cons, List.nodup_cons] at hn
  cases j with
  | zero => simp at h; obtain ⟨rfl, rfl⟩ := h; simp [mapGet]
  | succ j =>
   have h' : r[j]? = some (x, u) := by simpa using h
   have hne : k ≠ x := fun e => hn.1 (by rw [e]; exact List.mem_map.2 ⟨(x, u), qMq h', rfl⟩)
   simp only [mapGet, if_neg hne];exact ih x u j hn.2 h'
theorem mapGet_put (l : List (List Int × Int)) (x y : List Int) (v : Int) : mapGet (mapPut l x v) y = if x = y then v else mapGet l y := by
 induction l with
 | nil => simp [mapPut, mapGet]
 | cons p r ih =>
  obtain ⟨k, u⟩ := p;simp only [mapPut];by_cases hk : k = x
  ·subst hk;simp only [if_pos, mapGet];split
   ·rfl
   ·rfl
  ·rw [if_neg hk];simp only [mapGet, ih];by_cases h1 : k = y
   ·subst h1; rw [if_pos rfl, if_neg (Ne.symm hk), if_pos rfl]
   ·rw [if_neg h1, if_neg h1]
theorem keyV_inj {ag : Bool} {nk : Nat} {x y : List Int} (h1 : ag = true \/ nk = 1) (hx : x.length = nk) (hy : y.length = nk) (h : keyV ag x = keyV ag y) : x = y := by
 cases ag with
 | true =>
  simp only [keyV, if_true, Value.agg.injEq] at h;have h := congrArg Array.toList h;simp only at h;exact (List.map_inj_right (fun a b h => by simpa using h)).1 h
 | false =>
  have : nk = 1 := by simpa using h1
  subst this;obtain ⟨a, rfl⟩ := List.length_eq_one_iff.1 hx;obtain ⟨b, rfl⟩ := List.length_eq_one_iff.1 hy;simp [keyV] at h;rw [h]
section
variable {P : Program} {T : Tab} {Mn O0 : Nat -> Prop} {w0 : Base} {w : World} {nt : Nat} {s : S} {g : G} {a : Act} {fresh : Nat} {seen rd : List Nat} {r : List Nat × SV × Ws}
theorem keyInts_inv {k : List Int -> Prog} : ∀ {l : List SV}, runP s fresh (keyInts l k) seen rd = some r -> ∃ x, l = x.map (fun n => SV.s (.i .i64 n)) /\ (∀ n ∈ x, IntKind.i64.wrap n = n) /\ runP s fresh (k x) seen rd = some r := by
 intro l
 induction l generalizing k with
 | nil => intro h; exact ⟨[], rfl, fun n hn => by simp at hn, h⟩
 | cons v l ih =>
  intro h;unfold keyInts at h;split at h
  ·rename_i heq; simp at heq
  ·rename_i n r' heq;injection heq with e1 e2
   subst e1; subst e2
   obtain ⟨h1, h2⟩ := test_inv' h;obtain ⟨x, rfl, h3, h4⟩ := ih h2;refine ⟨n :: x, rfl, fun m hm => ?_, h4⟩;rcases List.mem_cons.1 hm with rfl | hm
   ·have h1 := inI64_iff.1 h1;exact IntWalk.i64_in _ (by omega)
   ·exact h3 m hm
  ·exact (qfq h).elim
theorem key_val {key : SV} {x : List Int} {u : Value} {ag : Bool} {nk : Nat} (hx : VR3 s g key u) (hc : cellsOf key = x.map (fun n => SV.s (.i .i64 n))) (hag : isAggV key = ag) (hone : ag = true \/ nk = 1) (hl : x.length = nk) : u = keyV ag x := by
 cases ag with
 | true =>
  cases key with
  | agg l =>
   obtain ⟨cs, rfl, hcs⟩ := hx;have hc : l = x.map (fun n => SV.s (.i .i64 n)) := hc;subst hc;simp only [keyV, if_true, Value.agg.injEq];apply Array.ext'
   apply List.ext_getElem?
   intro i;have hlen := hcs.1;rw [List.length_map] at hlen;by_cases hi : i < x.length
   ·have := hcs.2 i (SV.s (.i .i64 x[i])) cs.toList[i] (by simp [hi]) (qEq (by omega));have : cs.toList[i] = .int .i64 x[i] := this;rw [qEq (by omega), this];simp [hi]
   ·rw [List.getElem?_eq_none (by omega), List.getElem?_eq_none (by simp; omega)]
  | _ => simp [isAggV] at hag
 | false =>
  have : nk = 1 := by simpa using hone
  subst this;obtain ⟨n, rfl⟩ := List.length_eq_one_iff.1 hl
  cases key with
  | agg l => simp [isAggV] at hag
  | s z =>
   simp [cellsOf] at hc;subst hc;exact hx
  | _ => simp [cellsOf] at hc
theorem mapAt_inv (hT : TabOk P T) (R : Rel Mn O0 w0 nt s g a w) (hs : Seen Mn seen) {up : Bool} {t : Nat} {m key : SV} {um uk : Value} {k : Nat -> Bool -> Nat -> List (List Int × Int) -> List Int -> Prog} (hm : VR3 s g m um) (hk : VR3 s g key uk)
  (h : runP s fresh (mapAt T up t m key k) seen rd = some r) : ∃ n b es clock ag nk l x kt e seen' rd', m = .mp n /\ um = .map (some b) /\ g.base n = some ⟨b, 0, none⟩ /\ (up = true -> g.own b = some (n, none)) /\ w.heap[b]? = some (.map es clock) /\ MapRel ag nk es l /\ Mn n /\ (up = true -> s.fe n = some (.map ag nk l)) /\
   uk = keyV ag x /\ x.length = nk /\ (∀ n ∈ x, IntKind.i64.wrap n = n) /\ P.underlying t = some (.map kt e) /\ Keyed P kt /\ (∀ w, (zeroValue e).run P w = .ok (.int .i64 0) w) /\
   (∀ l : List Int, l.length = nk -> (∀ x ∈ l, IntKind.i64.wrap x = x) -> ∃ kl, keyOf P kt (keyV ag l) = some kl) /\ Seen Mn seen' /\ runP s fresh (k n ag nk l x) seen' rd' = some r := by
 unfold mapAt at h
 cases ht : lk T t with
 | none => rw [ht] at h; exact (qfq h).elim
 | some ti =>
  rw [ht] at h;simp only at h
  cases hkd : ti.kind with
  | map kt e ag nk =>
   rw [hkd] at h;simp only at h;obtain ⟨q1, q2, q3, q4⟩ := (hT t ti ht).maps kt e ag nk hkd;obtain ⟨d, hd, hdk⟩ := (hT t ti ht).und;rw [hkd] at hdk;cases d <;> simp [KdOk] at hdk
   obtain ⟨rfl, rfl⟩ := hdk
   cases m with
   | mp n =>
    simp only at h;obtain ⟨en, s1, r1, hen, hok, hmn, _, hs1, h1⟩ := ent_inv R h hs;have core : ∀ {ag' : Bool} {nk' : Nat} {l : List (List Int × Int)}, (∃ b es clock, g.base n = some ⟨b, 0, none⟩ /\ (up = true -> g.own b = some (n, none)) /\ w.heap[b]? = some (.map es clock) /\ MapRel ag' nk' es l) -> (up = true -> s.fe n = some (.map ag' nk' l)) ->
      runP s fresh (bif (ag == ag') && (Nat.beq nk nk' && (isAggV key == ag && Nat.beq (cellsOf key).length nk)) then keyInts (cellsOf key) fun x => k n ag nk l x else .fail) s1 r1 = some r ->
      ∃ n' b es clock ag' nk' l x kt' e' seen' rd', SV.mp n = .mp n' /\ um = .map (some b) /\ g.base n' = some ⟨b, 0, none⟩ /\ (up = true -> g.own b = some (n', none)) /\ w.heap[b]? = some (.map es clock) /\ MapRel ag' nk' es l /\ Mn n' /\ (up = true -> s.fe n' = some (.map ag' nk' l)) /\
   uk = keyV ag' x /\ x.length = nk' /\ (∀ n ∈ x, IntKind.i64.wrap n = n) /\ P.underlying t = some (.map kt' e') /\ Keyed P kt' /\ (∀ w, (zeroValue e').run P w = .ok (.int .i64 0) w) /\
   (∀ l : List Int, l.length = nk' -> (∀ x ∈ l, IntKind.i64.wrap x = x) -> ∃ kl, keyOf P kt' (keyV ag' l) = some kl) /\ Seen Mn seen' /\ runP s fresh (k n' ag' nk' l x) seen' rd' = some r := by
     intro ag' nk' l hok hen h1;obtain ⟨hb, h2⟩ := bif_inv h1;simp only [Bool.and_eq_true, beq_iff_eq] at hb;obtain ⟨rfl, hnk, hag, hlen⟩ := hb;have hnk := qBq hnk;subst hnk;have hlen := qBq hlen;obtain ⟨x, hx, hw, h3⟩ := keyInts_inv h2;have hxl : x.length = nk := by rw [hx, List.length_map] at hlen; exact hlen
     obtain ⟨b, es, clock, hA, ho, hh, hr⟩ := hok;obtain ⟨b', hA', rfl⟩ := hm;rw [hA] at hA';injection hA' with hA'
     injection hA' with hA'
     subst hA';exact ⟨n, b, es, clock, ag, nk, l, x, _, _, s1, r1, rfl, rfl, hA, ho, hh, hr, hmn, hen, key_val hk hx hag q3 hxl, hxl, hw, hd, q1, q2, q4, hs1, h3⟩
    cases en with
    | map ag' nk' l =>
     simp only at h1;obtain ⟨b, es, clock, hA, ho, hh, hr⟩ := hok;exact core ⟨b, es, clock, hA, fun _ => ho, hh, hr⟩ (fun _ => hen) h1
    | rmap ag' nk' l =>
     simp only at h1
     cases up with
     | true => exact (qfq h1).elim
     | false =>
      obtain ⟨b, es, clock, hA, ho, hh, hr⟩ := hok;exact core ⟨b, es, clock, hA, fun h => by simp at h, hh, hr⟩ (fun h => by simp at h) h1
    | _ => exact (qfq h1).elim
   | _ => exact (qfq h).elim
  | _ => rw [hkd] at h; exact (qfq h).elim
theorem map_find {ag : Bool} {nk kt : Nat} {es : Array MapEntry} {l : List (List Int × Int)} {x : List Int} (K : Keyed P kt) (hr : MapRel ag nk es l) (hx : x.length = nk) (hw : ∀ n ∈ x, IntKind.i64.wrap n = n)
  (hk : ∀ l : List Int, l.length = nk -> (∀ x ∈ l, IntKind.i64.wrap x = x) -> ∃ kl, keyOf P kt (keyV ag l) = some kl) (w : World) :
  ((Instr.findKey kt (keyV ag x) es.toList).run P w = .ok none w /\ x ∉ l.map (·.1)) \/
  ∃ j u e, (Instr.findKey kt (keyV ag x) es.toList).run P w = .ok (some (j, .int .i64 u)) w /\ es[j]? = some e /\ e.key = keyV ag x /\ l[j]? = some (x, u) := by
 obtain ⟨kl, hkl⟩ := hk x hx hw
 have hes : ∀ e ∈ es.toList, ∃ p ∈ l, e.key = keyV ag p.1 := by
  intro e he;obtain ⟨i, hi⟩ := List.mem_iff_getElem?.1 he;have hil : i < l.length := by rw [<- hr.size]; have := (qSq.1 hi).1; simpa using this
  obtain ⟨e', h1, h2, _⟩ := hr.at_ i l[i] (qEq hil);have : e = e' := by
   rw [<- Array.getElem?_toList, hi] at h1;injection h1
  subst this;exact ⟨_, List.getElem_mem hil, h2⟩
 rcases K.find w hkl es.toList (fun e he => by
  obtain ⟨p, hp, hk'⟩ := hes e he;rw [hk'];exact hk p.1 (hr.wf p hp).1 (hr.wf p hp).2) with ⟨h1, h2⟩ | ⟨j, e, h1, h2, h3⟩
 ·refine .inl ⟨h1, fun hmem => ?_⟩;obtain ⟨p, hp, hpx⟩ := List.mem_map.1 hmem;obtain ⟨i, hi⟩ := List.mem_iff_getElem?.1 hp;obtain ⟨e', k1, k2, _⟩ := hr.at_ i p hi;exact h2 e' (qMq (by rw [Array.getElem?_toList]; exact k1)) (by rw [k2, hpx])
 ·have hj : es[j]? = some e := by rw [<- Array.getElem?_toList]; exact h2
  have hjl : j < l.length := by rw [<- hr.size]; exact (Array.getElem?_eq_some_iff.1 hj).1
  obtain ⟨e', k1, k2, k3⟩ := hr.at_ j l[j] (qEq hjl);rw [hj] at k1;injection k1 with k1
  subst k1;have hxe : l[j].1 = x := keyV_inj hr.one ((hr.wf _ (List.getElem_mem hjl)).1) hx (k2.symm.trans h3);refine .inr ⟨j, l[j].2, e, by rw [<- k3]; exact h1, hj, h3, ?_⟩;rw [qEq hjl, <- hxe]
theorem lookup_sim (hT : TabOk P T) (R : Rel Mn O0 w0 nt s g a w) (hs : Seen Mn seen) {t : Nat} {m key : SV} {um uk : Value} (hm : VR3 s g m um) (hk : VR3 s g key uk) (h : runP s fresh (lookupP T t m key) seen rd = some r) :
  Out P Mn s g w fresh (Instr.lookup t um uk false) r := by
 unfold lookupP at h
 obtain ⟨n, b, es, clock, ag, nk, l, x, kt, e, s1, r1, rfl, rfl, hA, ho, hh, hr, hmn, hen, rfl, hxl, hw, hu, K, hz, hkl, hs1, h1⟩ := mapAt_inv hT R hs hm hk h
 obtain ⟨kl, hkey⟩ := hkl x hxl hw
 refine out_sc R hs1 h1 ?_
 rcases map_find K hr hxl hw hkl w with ⟨h2, h3⟩ | ⟨j, u, e0, h2, h3, h4, h5⟩
 ·rw [mapGet_none l x h3];simp [Instr.lookup, run_underlying hu, MapKept.run_getObj_map hh, K.check w _ hkey, h2, hz, Result.andThen, Sc.val]
 ·rw [mapGet_at l x u j hr.keys h5];simp [Instr.lookup, run_underlying hu, MapKept.run_getObj_map hh, K.check w _ hkey, h2, Result.andThen, Sc.val]
theorem mapHas_iff (l : List (List Int × Int)) (x : List Int) : mapHas l x = true ↔ x ∈ l.map (·.1) := by
 induction l with
 | nil => simp [mapHas]
 | cons p r ih =>
  obtain ⟨k, u⟩ := p;simp only [mapHas, List.map_cons, List.mem_cons];by_cases h : k = x
  ·simp [h]
  ·simp [h, ih, Ne.symm h]
theorem lookup2_sim (hT : TabOk P T) (R : Rel Mn O0 w0 nt s g a w) (hs : Seen Mn seen) {t : Nat} {m key : SV} {um uk : Value} (hm : VR3 s g m um) (hk : VR3 s g key uk) (h : runP s fresh (lookup2P T t m key) seen rd = some r) :
  Out P Mn s g w fresh (Instr.lookup t um uk true) r := by
 unfold lookup2P at h
 obtain ⟨n, b, es, clock, ag, nk, l, x, kt, e, s1, r1, rfl, rfl, hA, ho, hh, hr, hmn, hen, rfl, hxl, hw, hu, K, hz, hkl, hs1, h1⟩ := mapAt_inv hT R hs hm hk h
 obtain ⟨kl, hkey⟩ := hkl x hxl hw
 have pair : ∀ (a b : Sc), VR3 s g (.tup [.s a, .s b]) (.tuple #[a.val, b.val]) := fun a b => ⟨_, rfl, rfl, fun i y z hy hz => by
  match i with
  | 0 => simp at hy hz; subst hy; subst hz; exact rfl
  | 1 => simp at hy hz; subst hy; subst hz; exact rfl
  | _ + 2 => simp at hy⟩
 refine out_pure R hs1 h1 ?_ (pair _ _)
 rcases map_find K hr hxl hw hkl w with ⟨h2, h3⟩ | ⟨j, u, e0, h2, h3, h4, h5⟩
 ·have hh0 : mapHas l x = false := by cases hc : mapHas l x with | false => rfl | true => exact absurd ((mapHas_iff l x).1 hc) h3
  rw [mapGet_none l x h3, hh0];simp [Instr.lookup, run_underlying hu, MapKept.run_getObj_map hh, K.check w _ hkey, h2, hz, Result.andThen, Sc.val]
 ·have hh1 : mapHas l x = true := (mapHas_iff l x).2 (List.mem_map.2 ⟨(x, u), qMq h5, rfl⟩);rw [mapGet_at l x u j hr.keys h5, hh1];simp [Instr.lookup, run_underlying hu, MapKept.run_getObj_map hh, K.check w _ hkey, h2, Result.andThen, Sc.val]
theorem makeMap_sim (hT : TabOk P T) (R : Rel Mn O0 w0 nt s g a w) (hs : Seen Mn seen) (hf : ∀ m, InR fresh m -> ¬ Mn m) {t : Nat} (h : runP s fresh (makeMapP T fresh t) seen rd = some r) : Out P Mn s g w fresh (Instr.makeMap t none) r := by
 unfold makeMapP at h
 have hin : InR fresh fresh := ⟨Nat.le_refl _, by omega⟩
 cases ht : lk T t with
 | none => rw [ht] at h; exact (qfq h).elim
 | some ti =>
  rw [ht] at h;simp only at h
  cases hkd : ti.kind with
  | map kt e ag nk =>
   rw [hkd] at h;simp only at h;obtain ⟨q1, q2, q3, q4⟩ := (hT t ti ht).maps kt e ag nk hkd;obtain ⟨rfl, hn⟩ := ret_inv h hs;have hat : (w.alloc (.map #[] 0)).heap[w.heap.size]? = some (.map #[] 0) := heap_alloc_at w _;refine ⟨.map (some w.heap.size), w.alloc (.map #[] 0), _, rfl, did_new (gone := []) R hin (hf _ hin) (some ⟨w.heap.size, 0, none⟩) 0 (fun _ => none) (fun _ => 0) id (fun _ h => by simp at h) (fun _ _ _ => rfl) (fun _ _ h => by simp at h)
    (ownNew g w.heap.size (fresh, none) id) (fun b hb => by simp [ownNew, show b ≠ w.heap.size by omega]) _ ⟨rfl, .rfl, rfl, by simp⟩ (fun b k hb hk => ?_) (fun b hb _ => heap_alloc_lt w _ hb) (fun g' hg' hl => ?_) (fun g' hg' => ?_), hn⟩
   ·by_cases hbe : b = w.heap.size
    ·subst hbe; simp [ownNew] at hk; exact ⟨by simp, by rw [<- hk]⟩
    ·simp only [ownNew, if_neg hbe] at hk
     cases ho : g.own b with
     | none => rw [ho] at hk; simp at hk
     | some k0 => have := R.bound b k0 ho; omega
   ·refine ⟨w.heap.size, #[], 0, by rw [hg']; simp [G.new], by rw [hg']; simp [G.new, ownNew], hat, ⟨rfl, by simp, fun p hp => by simp at hp, fun i p hp => by simp at hp, q3⟩⟩
   ·exact VR3.one (v := .mp fresh) ⟨w.heap.size, by rw [hg']; simp [G.new], rfl⟩
  | _ => rw [hkd] at h; exact (qfq h).elim
theorem mapUpdate_sim (hT : TabOk P T) (R : Rel Mn O0 w0 nt s g a w) (hs : Seen Mn seen) {t : Nat} {m key v : SV} {um uk uv : Value} (hm : VR3 s g m um) (hk : VR3 s g key uk) (hv : VR3 s g v uv) (h : runP s fresh (mapUpdateP T t m key v) seen rd = some r) :
  ∃ w' g', (Instr.mapUpdate t um uk uv).run P w = .ok () w' /\ r.2.1 = .bad /\ (∀ u, Did Mn s g w (InR fresh) r.2.1 r.2.2 u w' g') /\ ∀ n ∈ names3 r.2.1 ++ namesW r.2.2, Mn n \/ InR fresh n := by
 unfold mapUpdateP at h
 split at h
 ·rename_i y;have hv : uv = .int .i64 y := hv;subst hv;obtain ⟨n, b, es, clock, ag, nk, l, x, kt, e, s1, r1, rfl, rfl, hA, ho, hh, hr, hmn, hen, rfl, hxl, hw, hu, K, hz, hkl, hs1, h1⟩ := mapAt_inv hT R hs hm hk h;have ho := ho rfl;have hen := hen rfl;obtain ⟨kl, hkey⟩ := hkl x hxl hw;obtain ⟨rfl, hn⟩ := ret_inv h1 hs1;have hbl : b < w.heap.size := lt_of_heap hh;have mk : ∀ (es' : Array MapEntry) (clock' : Nat), (Instr.mapUpdate t (.map (some b)) (keyV ag x) (.int .i64 y)).run P w = .ok () { w with heap := w.heap.setIfInBounds b (.map es' clock') } -> MapRel ag nk es' (mapPut l x y) ->
    ∃ w' g', (Instr.mapUpdate t (.map (some b)) (keyV ag x) (.int .i64 y)).run P w = .ok () w' /\ ((r1, SV.bad, [(n, some (Ent.map ag nk (mapPut l x y)))]) : List Nat × SV × Ws).2.1 = .bad /\
     (∀ u, Did Mn s g w (InR fresh) .bad [(n, some (.map ag nk (mapPut l x y)))] u w' g') /\ ∀ k ∈ names3 .bad ++ namesW [(n, some (.map ag nk (mapPut l x y)))], Mn k \/ InR fresh k := by
   intro es' clock' hrun hrel;refine ⟨_, g, hrun, rfl, fun u => did_keep (fresh := fresh) (e' := .map ag nk (mapPut l x y)) R hmn { w with heap := w.heap.setIfInBounds b (.map es' clock') } ⟨rfl, .rfl, rfl, by simp⟩ (fun b' hb' hne => ?_) ⟨rfl, rfl, fun p hp => ?_, fun rr ver L sz hv hrr => ?_, fun ver hv => ?_⟩ (fun hl => ⟨b, es', clock', hA, ho, ?_, hrel⟩) u, hn⟩
   ·have : b ≠ b' := fun e => by subst e; exact hne n none ho rfl
    simp [Array.getElem?_setIfInBounds, this]
   ·simp [lenSz, S.putW, S.setE] at hp
   ·obtain ⟨_, _, _, _, _, he', _⟩ := hrr;rw [at_put] at he'; simp at he'
   ·intro q1 q2 q3 q4 q5 he';rw [at_put] at he'; simp at he'
   ·simp [Array.getElem?_setIfInBounds, hbl]
  rcases map_find K hr hxl hw hkl w with ⟨h2, h3⟩ | ⟨j, u, e0, h2, h3, h4, h5⟩
  ·refine mk (es.push ⟨keyV ag x, .int .i64 y, clock⟩) (clock + 1) ?_ ?_
   ·simp [Instr.mapUpdate, run_underlying hu, MapKept.run_getObj_map hh, K.check w false hkey, h2, MapKept.run_setObj_map _ hh, Result.andThen]
   ·rw [mapPut_len l x y h3];refine ⟨by simp [hr.size], ?_, fun p hp => ?_, fun i p hp => ?_, hr.one⟩
    ·rw [List.map_append];refine List.nodup_append.2 ⟨hr.keys, by simp, fun a ha b hb => ?_⟩;simp at hb;subst hb;exact fun e => h3 (e ▸ ha)
    ·rcases List.mem_append.1 hp with hp | hp
     ·exact hr.wf p hp
     ·simp at hp; subst hp; exact ⟨hxl, hw⟩
    ·rcases get_app hp with ⟨k1, k2⟩ | ⟨k1, k2⟩
     ·obtain ⟨e, q1, q2, q3⟩ := hr.at_ i p k2;exact ⟨e, by rw [Array.getElem?_push, if_neg (by rw [hr.size]; omega)]; exact q1, q2, q3⟩
     ·have hi : i - l.length = 0 := by
       have := (qSq.1 k2).1;simp at this; omega
      rw [hi] at k2;simp at k2;subst k2;have : i = es.size := by rw [hr.size]; omega
      exact ⟨⟨keyV ag x, .int .i64 y, clock⟩, by rw [this]; simp, rfl, rfl⟩
  ·have hrun : (Instr.mapUpdate t (.map (some b)) (keyV ag x) (.int .i64 y)).run P w = .ok () { w with heap := w.heap.setIfInBounds b (.map (es.modify j fun e => { e with key := keyV ag x, val := .int .i64 y }) clock) } := by
    have hst := K.stays w hkey;have hkj : ((es[j]?).map (·.key)).getD (keyV ag x) = keyV ag x := by rw [h3]; exact h4
    simp [Instr.mapUpdate, run_underlying hu, MapKept.run_getObj_map hh, K.check w false hkey, h2, hkj, hst, MapKept.run_setObj_map _ hh, Result.andThen]
   refine mk _ _ hrun ?_;rw [mapPut_at l x y u j hr.keys h5];have hjl : j < l.length := (qSq.1 h5).1;have hkeys : (l.set j (x, y)).map (·.1) = l.map (·.1) := by
    rw [List.map_set];apply List.ext_getElem?
    intro i;by_cases hi : i = j
    ·subst hi;rw [List.getElem?_set_self (by simpa using hjl), List.getElem?_map, h5]; rfl
    ·rw [qNq (Ne.symm hi)]
   refine ⟨by simp [hr.size], by rw [hkeys]; exact hr.keys, fun p hp => ?_, fun i p hp => ?_, hr.one⟩
   ·rcases List.mem_or_eq_of_mem_set hp with hp | rfl
    ·exact hr.wf p hp
    ·exact ⟨hxl, hw⟩
   ·by_cases hi : i = j
    ·subst hi;rw [List.getElem?_set_self hjl] at hp;injection hp with hp
     subst hp;refine ⟨{ e0 with key := keyV ag x, val := .int .i64 y }, ?_, rfl, rfl⟩;rw [Array.getElem?_modify, if_pos rfl, h3]; rfl
    ·rw [qNq (Ne.symm hi)] at hp;obtain ⟨e, q1, q2, q3⟩ := hr.at_ i p hp;refine ⟨e, ?_, q2, q3⟩;rw [Array.getElem?_modify, if_neg (Ne.symm hi)]; exact q1
 ·exact (qfq h).elim
theorem fget_none (l : List (Int × Flat)) (x : Int) (h : x ∉ l.map (·.1)) : fget l x = [] := by
 induction l with
 | nil => rfl
 | cons p r ih =>
  obtain ⟨k, u⟩ := p;simp only [List.map_cons, List.mem_cons, not_or] at h;simp only [fget];rw [if_neg (Ne.symm h.1)];exact ih h.2
theorem fget_at (l : List (Int × Flat)) (x : Int) (u : Flat) (j : Nat) (hn : (l.map (·.1)).Nodup) (h : l[j]? = some (x, u)) : fget l x = u := by
 induction l generalizing j with
 | nil => simp at h
 | cons p r ih =>
  obtain ⟨k, u'⟩ := p;rw [List.map_cons, List.nodup_cons] at hn
  cases j with
  | zero => simp at h; obtain ⟨rfl, rfl⟩ := h; simp [fget]
  | succ j =>
   have h : r[j]? = some (x, u) := by simpa using h
   have : k ≠ x := fun e => hn.1 (List.mem_map.2 ⟨(x, u), qMq h, e.symm⟩)
   simp only [fget];rw [if_neg this];exact ih j hn.2 h
theorem fput_len (l : List (Int × Flat)) (x : Int) (y : Flat) (h : x ∉ l.map (·.1)) : fput l x y = l ++ [(x, y)] := by
 induction l with
 | nil => rfl
 | cons p r ih =>
  obtain ⟨k, u⟩ := p;simp only [List.map_cons, List.mem_cons, not_or] at h;simp only [fput];rw [if_neg (Ne.symm h.1), ih h.2]; rfl
theorem fput_at (l : List (Int × Flat)) (x : Int) (y u : Flat) (j : Nat) (hn : (l.map (·.1)).Nodup) (h : l[j]? = some (x, u)) : fput l x y = l.set j (x, y) := by
 induction l generalizing j with
 | nil => simp at h
 | cons p r ih =>
  obtain ⟨k, u'⟩ := p;rw [List.map_cons, List.nodup_cons] at hn
  cases j with
  | zero => simp at h; obtain ⟨rfl, rfl⟩ := h; simp [fput]
  | succ j =>
   have h : r[j]? = some (x, u) := by simpa using h
   have : k ≠ x := fun e => hn.1 (List.mem_map.2 ⟨(x, u), qMq h, e.symm⟩)
   simp only [fput];rw [if_neg this, ih j hn.2 h]; rfl
theorem isFmap_inv (hT : TabOk P T) {t : Nat} (h : isFmap T t = true) : ∃ k e, P.underlying t = some (.map k e) /\ Keyed P k /\ (∀ w, (zeroValue e).run P w = .ok (.slice none 0 0) w) /\ ∀ l : List Int, l.length = 1 -> (∀ x ∈ l, IntKind.i64.wrap x = x) -> ∃ kl, keyOf P k (keyV false l) = some kl := by
 unfold isFmap at h
 cases ht : lk T t with
 | none => rw [ht] at h; simp at h
 | some ti =>
  rw [ht] at h;simp only at h
  cases hkd : ti.kind with
  | fmap k e =>
   obtain ⟨q1, q2, q3⟩ := (hT t ti ht).fmaps k e hkd;obtain ⟨d, hd, hdk⟩ := (hT t ti ht).und;rw [hkd] at hdk;cases d <;> simp [KdOk] at hdk
   obtain ⟨rfl, rfl⟩ := hdk;exact ⟨_, _, hd, q1, q2, q3⟩
  | _ => rw [hkd] at h; simp at h
theorem fmapAt_inv (R : Rel Mn O0 w0 nt s g a w) (hs : Seen Mn seen) {m key : SV} {um uk : Value} {k : Nat -> List (Int × Flat) -> Int -> Prog} (hm : VR3 s g m um) (hk : VR3 s g key uk) (h : runP s fresh (fmapAt m key k) seen rd = some r) :
  ∃ n b es clock l x seen' rd', m = .mp n /\ um = .map (some b) /\ g.base n = some ⟨b, 0, none⟩ /\ g.own b = some (n, none) /\ w.heap[b]? = some (.map es clock) /\ FMapRel w g.own es l /\ Mn n /\ s.fe n = some (.fmap l) /\ uk = .int .i64 x /\ IntKind.i64.wrap x = x /\ Seen Mn seen' /\ runP s fresh (k n l x) seen' rd' = some r := by
 unfold fmapAt at h
 cases m with
 | mp n =>
  simp only at h;obtain ⟨en, s1, r1, hen, hok, hmn, _, hs1, h1⟩ := ent_inv R h hs
  cases en with
  | fmap l =>
   simp only at h1;split at h1
   ·rename_i x;obtain ⟨hx, h2⟩ := test_inv' h1;obtain ⟨b, es, clock, hA, ho, hh, hr⟩ := hok;obtain ⟨b', hA', rfl⟩ := hm;rw [hA] at hA';injection hA' with hA'
    injection hA' with hA'
    subst hA';have hx := inI64_iff.1 hx;exact ⟨n, b, es, clock, l, x, s1, r1, rfl, rfl, hA, ho, hh, hr, hmn, hen, hk, IntWalk.i64_in _ (by omega), hs1, h2⟩
   ·exact (qfq h1).elim
  | _ => exact (qfq h1).elim
 | _ => exact (qfq h).elim
theorem fmap_find {own : Nat -> Option Key} {kt : Nat} {es : Array MapEntry} {l : List (Int × Flat)} {x : Int} (K : Keyed P kt) (hr : FMapRel w own es l) (hw : IntKind.i64.wrap x = x)
  (hk : ∀ l : List Int, l.length = 1 -> (∀ x ∈ l, IntKind.i64.wrap x = x) -> ∃ kl, keyOf P kt (keyV false l) = some kl) :
  ((Instr.findKey kt (.int .i64 x) es.toList).run P w = .ok none w /\ x ∉ l.map (·.1)) \/
  ∃ j u e A cap, (Instr.findKey kt (.int .i64 x) es.toList).run P w = .ok (some (j, .slice A u.length cap)) w /\ es[j]? = some e /\ e.key = .int .i64 x /\ l[j]? = some (x, u) /\ FlatOk w own none A cap 1 u := by
 have hk1 : ∀ y, IntKind.i64.wrap y = y -> ∃ kl, keyOf P kt (.int .i64 y) = some kl := fun y hy => hk [y] rfl (fun z hz => by simp at hz; subst hz; exact hy)
 obtain ⟨kl, hkl⟩ := hk1 x hw
 have hes : ∀ e ∈ es.toList, ∃ p ∈ l, e.key = .int .i64 p.1 := by
  intro e he;obtain ⟨i, hi⟩ := List.mem_iff_getElem?.1 he;have hil : i < l.length := by rw [<- hr.size]; have := (qSq.1 hi).1; simpa using this
  obtain ⟨e', _, _, h1, h2, _⟩ := hr.at_ i l[i] (qEq hil);have : e = e' := by
   rw [<- Array.getElem?_toList, hi] at h1;injection h1
  subst this;exact ⟨_, List.getElem_mem hil, h2⟩
 rcases K.find w hkl es.toList (fun e he => by
  obtain ⟨p, hp, hk'⟩ := hes e he;rw [hk'];exact hk1 p.1 (hr.wf p hp)) with ⟨h1, h2⟩ | ⟨j, e, h1, h2, h3⟩
 ·refine .inl ⟨h1, fun hmem => ?_⟩;obtain ⟨p, hp, hpx⟩ := List.mem_map.1 hmem;obtain ⟨i, hi⟩ := List.mem_iff_getElem?.1 hp;obtain ⟨e', _, _, k1, k2, _⟩ := hr.at_ i p hi;exact h2 e' (qMq (by rw [Array.getElem?_toList]; exact k1)) (by rw [k2, hpx])
 ·have hj : es[j]? = some e := by rw [<- Array.getElem?_toList]; exact h2
  have hjl : j < l.length := by rw [<- hr.size]; exact (Array.getElem?_eq_some_iff.1 hj).1
  obtain ⟨e', A, cap, k1, k2, k3, k4⟩ := hr.at_ j l[j] (qEq hjl);rw [hj] at k1;injection k1 with k1
  subst k1;have hxe : l[j].1 = x := by rw [k2] at h3; injection h3
  refine .inr ⟨j, l[j].2, e, A, cap, by rw [<- k3]; exact h1, hj, h3, ?_, k4⟩;rw [qEq hjl, <- hxe]
theorem flookup_sim (hT : TabOk P T) (R : Rel Mn O0 w0 nt s g a w) (hs : Seen Mn seen) (hf : ∀ m, InR fresh m -> ¬ Mn m) {t : Nat} (ht : isFmap T t = true) {m key : SV} {um uk : Value} (hm : VR3 s g m um) (hk : VR3 s g key uk) (h : runP s fresh (flookupP fresh m key) seen rd = some r) :
  Out P Mn s g w fresh (Instr.lookup t um uk false) r := by
 have hin : InR fresh fresh := ⟨Nat.le_refl _, by omega⟩
 unfold flookupP at h
 obtain ⟨kt, e, hu, K, hz, hkl⟩ := isFmap_inv hT ht
 obtain ⟨n, b, es, clock, l, x, s1, r1, rfl, rfl, hA, ho, hh, hr, hmn, hen, rfl, hw, hs1, h1⟩ := fmapAt_inv R hs hm hk h
 obtain ⟨kl, hkey⟩ := hkl [x] rfl (fun z hz => by simp at hz; subst hz; exact hw)
 have hkey : keyOf P kt (.int .i64 x) = some kl := hkey
 obtain ⟨rfl, hn⟩ := ret_inv h1 hs1
 have go : ∀ (A : Option Addr) (cap : Nat), FlatOk w g.own none A cap 1 (fget l x) -> (Instr.lookup t (.map (some b)) (.int .i64 x) false).run P w = .ok (.slice A (fget l x).length cap) w ->
   ∃ u w' g', (Instr.lookup t (.map (some b)) (.int .i64 x) false).run P w = .ok u w' /\ Did Mn s g w (InR fresh) (.sl fresh none none) [(fresh, some (.flat false 1 (fget l x)))] u w' g' := by
  intro A cap hF hrun;refine ⟨_, _, _, hrun, did_new (gone := []) R hin (hf _ hin) A cap (fun _ => none) (fun _ => 0) id (fun _ h => by simp at h) (fun _ _ _ => rfl) (fun _ _ h => by simp at h)
    g.own (fun b hb => by simp) _ ⟨rfl, .rfl, rfl, Nat.le_refl _⟩ (fun b k hb hk => absurd (R.bound b k hk) (by omega)) (fun b hb _ => rfl) (fun g' hg' hl => ?_) (fun g' hg' => VR3.one (v := .sl fresh none none) ⟨_, _, _, rfl, fun L sz hL => ?_⟩)⟩
  ·show FlatOk w g'.own none (g'.base fresh) (g'.cap fresh) 1 (fget l x)
   rw [hg'];simp only [G.new, if_true];exact hF
  ·simp [lenSz, S.putW, S.setE] at hL;rw [hg', <- hL.1];simp only [G.new, if_true];exact ⟨rfl, rfl, rfl⟩
 rcases fmap_find K hr hw hkl with ⟨h2, h3⟩ | ⟨j, u, e0, A, cap, h2, h3, h4, h5, h6⟩
 ·have hg0 := fget_none l x h3;obtain ⟨u, w', g', q1, q2⟩ := go none 0 (by rw [hg0]; exact FlatOk.nil Nat.one_pos) (by rw [hg0]; simp [Instr.lookup, run_underlying hu, MapKept.run_getObj_map hh, K.check w _ hkey, h2, hz, Result.andThen]);exact ⟨u, w', g', q1, q2, hn⟩
 ·have hg0 := fget_at l x u j hr.keys h5;obtain ⟨u', w', g', q1, q2⟩ := go A cap (by rw [hg0]; exact h6) (by rw [hg0]; simp [Instr.lookup, run_underlying hu, MapKept.run_getObj_map hh, K.check w _ hkey, h2, Result.andThen]);exact ⟨u', w', g', q1, q2, hn⟩
theorem fmake_sim (hT : TabOk P T) (R : Rel Mn O0 w0 nt s g a w) (hs : Seen Mn seen) (hf : ∀ m, InR fresh m -> ¬ Mn m) {t : Nat} (ht : isFmap T t = true) (h : runP s fresh (fmakeP fresh) seen rd = some r) : Out P Mn s g w fresh (Instr.makeMap t none) r := by
 unfold fmakeP at h
 have hin : InR fresh fresh := ⟨Nat.le_refl _, by omega⟩
 obtain ⟨rfl, hn⟩ := ret_inv h hs
 have hat : (w.alloc (.map #[] 0)).heap[w.heap.size]? = some (.map #[] 0) := heap_alloc_at w _
 refine ⟨.map (some w.heap.size), w.alloc (.map #[] 0), _, rfl, did_new (gone := []) R hin (hf _ hin) (some ⟨w.heap.size, 0, none⟩) 0 (fun _ => none) (fun _ => 0) id (fun _ h => by simp at h) (fun _ _ _ => rfl) (fun _ _ h => by simp at h)
  (ownNew g w.heap.size (fresh, none) id) (fun b hb => by simp [ownNew, show b ≠ w.heap.size by omega]) _ ⟨rfl, .rfl, rfl, by simp⟩ (fun b k hb hk => ?_) (fun b hb _ => heap_alloc_lt w _ hb) (fun g' hg' hl => ?_) (fun g' hg' => ?_), hn⟩
 ·by_cases hbe : b = w.heap.size
  ·subst hbe; simp [ownNew] at hk; exact ⟨by simp, by rw [<- hk]⟩
  ·simp only [ownNew, if_neg hbe] at hk
   cases ho : g.own b with
   | none => rw [ho] at hk; simp at hk
   | some k0 => have := R.bound b k0 ho; omega
 ·exact ⟨w.heap.size, #[], 0, by rw [hg']; simp [G.new], by rw [hg']; simp [G.new, ownNew], hat, ⟨rfl, by simp, fun p hp => by simp at hp, fun i p hp => by simp at hp⟩⟩
 ·exact VR3.one (v := .mp fresh) ⟨w.heap.size, by rw [hg']; simp [G.new], rfl⟩
theorem fupd_core (hT : TabOk P T) (R : Rel Mn O0 w0 nt s g a w) {t : Nat} (ht : isFmap T t = true) {n b : Nat} {es : Array MapEntry} {clock : Nat} {l : List (Int × Flat)} {x : Int} (hA : g.base n = some ⟨b, 0, none⟩) (ho : g.own b = some (n, none)) (hh : w.heap[b]? = some (.map es clock)) (hr : FMapRel w g.own es l) (hmn : Mn n) (hen : s.fe n = some (.fmap l)) (hw : IntKind.i64.wrap x = x)
  {A : Option Addr} {cap : Nat} {y : Flat} (hy : FlatOk w g.own none A cap 1 y) :
  ∃ w' g', (Instr.mapUpdate t (.map (some b)) (.int .i64 x) (.slice A y.length cap)).run P w = .ok () w' /\ ∀ u, Did Mn s g w (InR fresh) .bad [(n, some (.fmap (fput l x y)))] u w' g' := by
 obtain ⟨kt, e, hu, K, hz, hkl⟩ := isFmap_inv hT ht
 obtain ⟨kl, hkey⟩ := hkl [x] rfl (fun z hz => by simp at hz; subst hz; exact hw)
 have hkey : keyOf P kt (.int .i64 x) = some kl := hkey
 have hbl : b < w.heap.size := lt_of_heap hh
 have keep : ∀ (es' : Array MapEntry) (clock' : Nat) (b' : Nat), b' < w.heap.size -> g.own b' = none -> g.own b' = none /\ (w.heap.setIfInBounds b (.map es' clock'))[b']? = w.heap[b']? := fun es' clock' b' hb' hn => by
  have : b ≠ b' := fun e => by subst e; rw [ho] at hn; simp at hn
  exact ⟨hn, by simp [Array.getElem?_setIfInBounds, this]⟩
 have mk : ∀ (es' : Array MapEntry) (clock' : Nat), (Instr.mapUpdate t (.map (some b)) (.int .i64 x) (.slice A y.length cap)).run P w = .ok () { w with heap := w.heap.setIfInBounds b (.map es' clock') } -> FMapRel w g.own es' (fput l x y) ->
   ∃ w' g', (Instr.mapUpdate t (.map (some b)) (.int .i64 x) (.slice A y.length cap)).run P w = .ok () w' /\ ∀ u, Did Mn s g w (InR fresh) .bad [(n, some (.fmap (fput l x y)))] u w' g' := by
  intro es' clock' hrun hrel;refine ⟨_, g, hrun, fun u => did_keep (fresh := fresh) (e' := .fmap (fput l x y)) R hmn { w with heap := w.heap.setIfInBounds b (.map es' clock') } ⟨rfl, .rfl, rfl, by simp⟩ (fun b' hb' hne => ?_) ⟨rfl, rfl, fun p hp => ?_, fun rr ver L sz hv hrr => ?_, fun ver hv => ?_⟩ (fun hl => ⟨b, es', clock', hA, ho, ?_, hrel.mono (keep es' clock')⟩) u⟩
  ·have : b ≠ b' := fun e => by subst e; exact hne n none ho rfl
   simp [Array.getElem?_setIfInBounds, this]
  ·simp [lenSz, S.putW, S.setE] at hp
  ·obtain ⟨_, _, _, _, _, he', _⟩ := hrr;rw [at_put] at he'; simp at he'
  ·intro q1 q2 q3 q4 q5 he';rw [at_put] at he'; simp at he'
  ·simp [Array.getElem?_setIfInBounds, hbl]
 rcases fmap_find K hr hw hkl with ⟨h2, h3⟩ | ⟨j, u, e0, A', cap', h2, h3, h4, h5, h6⟩
 ·refine mk (es.push ⟨.int .i64 x, .slice A y.length cap, clock⟩) (clock + 1) ?_ ?_
  ·simp [Instr.mapUpdate, run_underlying hu, MapKept.run_getObj_map hh, K.check w false hkey, h2, MapKept.run_setObj_map _ hh, Result.andThen]
  ·rw [fput_len l x y h3];refine ⟨by simp [hr.size], ?_, fun p hp => ?_, fun i p hp => ?_⟩
   ·rw [List.map_append];refine List.nodup_append.2 ⟨hr.keys, by simp, fun a ha b hb => ?_⟩;simp at hb;subst hb;exact fun e => h3 (e ▸ ha)
   ·rcases List.mem_append.1 hp with hp | hp
    ·exact hr.wf p hp
    ·simp at hp; subst hp; exact hw
   ·rcases get_app hp with ⟨k1, k2⟩ | ⟨k1, k2⟩
    ·obtain ⟨e, q0, q0', q1, q2, q3, q4⟩ := hr.at_ i p k2;exact ⟨e, q0, q0', by rw [Array.getElem?_push, if_neg (by rw [hr.size]; omega)]; exact q1, q2, q3, q4⟩
    ·have hi : i - l.length = 0 := by
      have := (qSq.1 k2).1;simp at this; omega
     rw [hi] at k2;simp at k2;subst k2;have : i = es.size := by rw [hr.size]; omega
     exact ⟨⟨.int .i64 x, .slice A y.length cap, clock⟩, A, cap, by rw [this]; simp, rfl, rfl, hy⟩
 ·have hrun : (Instr.mapUpdate t (.map (some b)) (.int .i64 x) (.slice A y.length cap)).run P w = .ok () { w with heap := w.heap.setIfInBounds b (.map (es.modify j fun e => { e with key := .int .i64 x, val := .slice A y.length cap }) clock) } := by
   have hst := K.stays w hkey;have hkj : ((es[j]?).map (·.key)).getD (.int .i64 x) = .int .i64 x := by rw [h3]; exact h4
   simp [Instr.mapUpdate, run_underlying hu, MapKept.run_getObj_map hh, K.check w false hkey, h2, hkj, hst, MapKept.run_setObj_map _ hh, Result.andThen]
  refine mk _ _ hrun ?_;rw [fput_at l x y u j hr.keys h5];have hjl : j < l.length := (qSq.1 h5).1;have hkeys : (l.set j (x, y)).map (·.1) = l.map (·.1) := by
   rw [List.map_set];apply List.ext_getElem?
   intro i;by_cases hi : i = j
   ·subst hi;rw [List.getElem?_set_self (by simpa using hjl), List.getElem?_map, h5]; rfl
   ·rw [qNq (Ne.symm hi)]
  refine ⟨by simp [hr.size], by rw [hkeys]; exact hr.keys, fun p hp => ?_, fun i p hp => ?_⟩
  ·rcases List.mem_or_eq_of_mem_set hp with hp | rfl
   ·exact hr.wf p hp
   ·exact hw
  ·by_cases hi : i = j
   ·subst hi;rw [List.getElem?_set_self hjl] at hp;injection hp with hp
    subst hp;refine ⟨{ e0 with key := .int .i64 x, val := .slice A y.length cap }, A, cap, ?_, rfl, rfl, hy⟩;rw [Array.getElem?_modify, if_pos rfl, h3]; rfl
   ·rw [qNq (Ne.symm hi)] at hp;obtain ⟨e, q0, q0', q1, q2, q3, q4⟩ := hr.at_ i p hp;refine ⟨e, q0, q0', ?_, q2, q3, q4⟩;rw [Array.getElem?_modify, if_neg (Ne.symm hi)]; exact q1
theorem fupdate_sim (hT : TabOk P T) (R : Rel Mn O0 w0 nt s g a w) (hs : Seen Mn seen) {t : Nat} (ht : isFmap T t = true) {m key v : SV} {um uk uv : Value} (hm : VR3 s g m um) (hk : VR3 s g key uk) (hv : VR3 s g v uv) (h : runP s fresh (fupdateP m key v) seen rd = some r) :
  ∃ w' g', (Instr.mapUpdate t um uk uv).run P w = .ok () w' /\ r.2.1 = .bad /\ (∀ u, Did Mn s g w (InR fresh) r.2.1 r.2.2 u w' g') /\ ∀ n ∈ names3 r.2.1 ++ namesW r.2.2, Mn n \/ InR fresh n := by
 unfold fupdateP at h
 split at h
 ·rename_i k;obtain ⟨n, b, es, clock, l, x, s1, r1, rfl, rfl, hA, ho, hh, hr, hmn, hen, rfl, hw, hs1, h1⟩ := fmapAt_inv R hs hm hk h;obtain ⟨e, s2, r2, hek, hok, hmk, _, hs2, h2⟩ := ent_inv R h1 hs1
  cases e with
  | flat own sz rows =>
   simp only at h2;obtain ⟨hss, h3⟩ := bif_inv h2;have hss := qBq hss;subst hss;obtain ⟨A, len, cap, rfl, hsub⟩ := hv;obtain ⟨rfl, rfl, rfl⟩ := hsub rows.length 1 (by simp [lenSz, hek])
   cases own with
   | false =>
    obtain ⟨rfl, hn⟩ := ret_inv h3 hs2;have hF : FlatOk w g.own none (g.base k) (g.cap k) 1 rows := hok;obtain ⟨w', g', q1, q2⟩ := fupd_core (fresh := fresh) hT R ht hA ho hh hr hmn hen hw hF;exact ⟨w', g', q1, rfl, q2, hn⟩
   | true =>
    obtain ⟨rfl, hn⟩ := ret_inv h3 hs2;obtain ⟨g1, R1, hl1, ho1⟩ := freeze R hek;have hne : n ≠ k := fun e => by subst e; rw [hen] at hek; simp at hek
    have hen1 : (s.putW [(k, some (.flat false 1 rows))]).fe n = some (.fmap l) := by simp [S.putW, S.setE, hne, hen]
    have hF : FlatOk w g1.own none (g.base k) (g.cap k) 1 rows := by
     have := R1.ents k (.flat false 1 rows) (by simp [S.putW, S.setE]);unfold EntOk at this
     rwa [(hl1 k).base, (hl1 k).cap] at this
    obtain ⟨b', es', clock', k1, k2, k3, k4⟩ := R1.ents n (.fmap l) hen1;rw [(hl1 n).base, hA] at k1;injection k1 with k1
    injection k1 with k1
    subst k1;rw [hh] at k3;injection k3 with k3
    injection k3 with k3 k3'
    subst k3; subst k3'
    obtain ⟨w', g', q1, q2⟩ := fupd_core (fresh := fresh) hT R1 ht (by rw [(hl1 n).base]; exact hA) k2 hh k4 hmn hen1 hw hF;exact ⟨w', g', q1, rfl, fun u => (q2 u).behind hl1 ho1, hn⟩
  | _ => exact (qfq h2).elim
 ·exact (qfq h).elim
end
end Go.Sh
namespace Go.Sh
variable [Fwd]
structure Loc where
 A : Option Addr
 c : Nat
 rb : Nat -> Option Addr
 rc : Nat -> Nat
def CellAt (w : World) (lab : Nat -> Option Key) (q : Nat) (x : Loc) (c : C) (u : Value) : Prop :=
 match c with
 | .s z => u = z.val
 | .flat own sz rows => u = .slice x.A rows.length x.c /\ FlatOk w lab (if own then some (q, none) else none) x.A x.c sz rows
 | .nest own sz rows => u = .slice x.A rows.length x.c /\ NestOk w lab (if own then some (q, none) else none) (fun i => if own then some (q, some i) else none) x.A x.c x.rb x.rc sz rows []
 | .dead => True
 | .cap z => ∃ b arr T, x.A = some ⟨b, 0, none⟩ /\ u = .pointer (some ⟨b, 0, none⟩) /\ lab b = none /\ w.heap[b]? = some (.cells arr T (0, 0)) /\ arr.toList = [z.val]
def CellOk (w : World) (lab : Nat -> Option Key) (q : Nat) (c : C) (u : Value) : Prop := ∃ x, CellAt w lab q x c u
def CellsOk (w : World) (lab : Nat -> Option Key) (q : Nat) : List C -> List Value -> Prop
 | [], [] => True
 | c :: cs, u :: us => CellOk w lab q c u /\ CellsOk w lab (q + 1) cs us
 | _, _ => False
def V1Ok (w : World) (lab : Nat -> Option Key) (q : Nat) (v : V) (u : Value) : Prop :=
 match v with
 | .one c => CellOk w lab q c u
 | .agg l => ∃ cs, u = .agg cs /\ CellsOk w lab q l cs.toList
 | .clo f l => ∃ cs, u = .func (.func f) #[] cs /\ CellsOk w lab q l cs.toList
 | .tup _ => False
def width : V -> Nat
 | .agg l => l.length
 | .clo _ l => l.length
 | _ => 1
def V1sOk (w : World) (lab : Nat -> Option Key) (q : Nat) : List V -> List Value -> Prop
 | [], [] => True
 | v :: vs, u :: us => V1Ok w lab q v u /\ V1sOk w lab (q + width v) vs us
 | _, _ => False
def VOk (w : World) (lab : Nat -> Option Key) (q : Nat) (v : V) (u : Value) : Prop :=
 match v with
 | .tup l => ∃ us, u = .tuple us /\ V1sOk w lab q l us.toList
 | v => V1Ok w lab q v u
def noLab : Nat -> Option Key := fun _ => none
def SoundP (P : Program) (f : FuncId) (F : List V -> Option (V × List V)) : Prop :=
 ∀ vs r outs, F vs = some (r, outs) -> ∀ (w : World) (us : Array Value), V1sOk w noLab 0 vs us.toList ->
  Calls P f us w fun e w' => ∃ u lab, e = .returned u /\ Frm (fun _ => False) w w' /\ (∀ b k, lab b = some k -> w.heap.size <= b /\ b < w'.heap.size) /\ VOk w' lab 0 r u
section
variable {P : Program} {T : Tab} {Mn O0 : Nat -> Prop} {w0 : Base} {w : World} {nt : Nat} {s : S} {g : G} {a : Act} {fresh : Nat} {seen rd : List Nat} {r : List Nat × SV × Ws}
theorem NestOk.sub {own : Nat -> Option Key} {okey : Option Key} {rkey : Nat -> Option Key} {base : Option Addr} {cap0 : Nat} {rb : Nat -> Option Addr} {rc : Nat -> Nat} {sz : Nat} {rows : List Flat} (h : NestOk w own okey rkey base cap0 rb rc sz rows []) {sub : Option (Nat × Nat)} {A : Option Addr} {len cap : Nat} (hs : SubOk base cap0 rows.length 1 sub A len cap) :
  NestOk w noLab none (fun _ => none) A cap (fun i => rb (loOf sub + i)) (fun i => rc (loOf sub + i)) sz (cut sub rows) [] /\ len = (cut sub rows).length := by
 have get : ∀ {i : Nat} {fl : Flat}, (cut sub rows)[i]? = some fl -> rows[loOf sub + i]? = some fl := by
  intro i fl h
  cases sub with
  | none => simpa [cut, loOf] using h
  | some p =>
   simp only [cut, List.getElem?_take, List.getElem?_drop] at h;split at h
   ·exact h
   ·simp at h
 have lenE : len = (cut sub rows).length /\ len <= cap := by
  cases sub with
  | none => obtain ⟨_, rfl, rfl⟩ := hs; exact ⟨rfl, h.fits⟩
  | some p => obtain ⟨rfl, h1, h2, _⟩ := hs; exact ⟨by simp [cut]; omega, h2⟩
 refine ⟨⟨by rw [<- lenE.1]; exact lenE.2, h.pos, fun i fl hi => ?_, fun i fl hi _ => (h.row _ fl (get hi) (by simp)).mono (by simp) (fun b _ _ => ⟨rfl, rfl⟩), fun h => by simp at h⟩, lenE.1⟩
 obtain ⟨ad, z, hA, _, hc, hz⟩ := h.head _ fl (get hi)
 have hil : i < len := by rw [lenE.1]; exact (qSq.1 hi).1
 cases sub with
 | none =>
  obtain ⟨rfl, _, _⟩ := hs;exact ⟨ad, z, hA, rfl, by simpa [loOf] using hc, fun _ => by simpa [loOf] using hz (by simp)⟩
 | some p =>
  obtain ⟨lo, l⟩ := p;obtain ⟨rfl, h1, h2, h3, h4⟩ := hs;rcases h4 with h4 | h4
  ·omega
  ·subst hA;exact ⟨_, z, h4, rfl, by rw [Addr.add_add]; simpa [loOf] using hc, fun _ => hz (by simp)⟩
theorem FlatOk.ro {own : Nat -> Option Key} {key : Option Key} {A : Option Addr} {cap sz : Nat} {rows : Flat} (h : FlatOk w own key A cap sz rows) : FlatOk w noLab none A cap sz rows := h.mono (by simp) (fun b _ _ => ⟨rfl, rfl⟩)
theorem roC_inv (R : Rel Mn O0 w0 nt s g a w) (hs : Seen Mn seen) {t q : Nat} {v : SV} {u : Value} {k : C -> Prog} (hx : VR3 s g v u) (h : runP s fresh (roC T t v k) seen rd = some r) :
  ∃ c seen' rd', CellOk w noLab q c u /\ Seen Mn seen' /\ runP s fresh (k c) seen' rd' = some r := by
 unfold roC at h
 cases v with
 | s x => exact ⟨.s x, _, _, ⟨⟨none, 0, fun _ => none, fun _ => 0⟩, hx⟩, hs, h⟩
 | nils =>
  have hu : u = .slice none 0 0 := hx;subst hu;simp only at h
  cases ht : lk T t with
  | none => rw [ht] at h; exact (qfq h).elim
  | some ti =>
   rw [ht] at h;simp only at h;cases hk : ti.kind <;> rw [hk] at h <;> simp only at h <;> try exact (qfq h).elim
   rename_i e
   cases hi : innerSz T e with
   | none =>
    rw [hi] at h;obtain ⟨hp, h1⟩ := bif_inv h;have hp : 0 < sizeT T e := by simpa [Nat.blt_eq] using hp
    exact ⟨.flat false (sizeT T e) [], _, _, ⟨⟨none, 0, fun _ => none, fun _ => 0⟩, rfl, FlatOk.nil hp⟩, hs, h1⟩
   | some sz =>
    rw [hi] at h;obtain ⟨hp, h1⟩ := bif_inv h;have hp : 0 < sz := by simpa [Nat.blt_eq] using hp
    exact ⟨.nest false sz [], _, _, ⟨⟨none, 0, fun _ => none, fun _ => 0⟩, rfl, ⟨by simp, hp, fun i fl h => by simp at h, fun i fl h => by simp at h, fun _ => .inl ⟨rfl, rfl⟩⟩⟩, hs, h1⟩
 | sl n row sub =>
  cases row with
  | none =>
   simp only at h;obtain ⟨e, seen', rd', he, hok, hmn, _, hs', h1⟩ := ent_inv R h hs;obtain ⟨A, len, cap, rfl, hsub⟩ := hx
   cases e with
   | flat own sz rows =>
    have hF : FlatOk w g.own (if own then some (n, none) else none) (g.base n) (g.cap n) sz rows := hok;obtain ⟨k1, k2⟩ := hF.sub (hsub rows.length sz (by simp [lenSz, he]));exact ⟨.flat false sz (cut sub rows), _, _, ⟨⟨A, cap, fun _ => none, fun _ => 0⟩, by rw [k2], k1.ro⟩, hs', h1⟩
   | nest own sz rows holes log =>
    cases holes with
    | cons _ _ => exact (qfq h1).elim
    | nil =>
     have hN : NestOk w g.own (if own then some (n, none) else none) (fun i => if own then some (n, some i) else none) (g.base n) (g.cap n) (g.rbase n) (g.rcap n) sz rows [] := hok;obtain ⟨k1, k2⟩ := hN.sub (hsub rows.length 1 (by simp [lenSz, he]));exact ⟨.nest false sz (cut sub rows), _, _, ⟨⟨A, cap, _, _⟩, by rw [k2], k1⟩, hs', h1⟩
   | blk cs => exact (qfq h1).elim
   | map _ _ _ => exact (qfq h1).elim
   | rblk _ => exact (qfq h1).elim
   | was _ _ => exact (qfq h1).elim
   | rmap _ _ _ => exact (qfq h1).elim
   | fmap _ => exact (qfq h1).elim
   | fnb _ _ _ => exact (qfq h1).elim
   | fnest own sz rows =>
    have hN : NestOk w g.own (if own then some (n, none) else none) (fun _ => none) (g.base n) (g.cap n) (g.rbase n) (g.rcap n) sz rows [] := hok;obtain ⟨k1, k2⟩ := hN.sub (hsub rows.length 1 (by simp [lenSz, he]));exact ⟨.nest false sz (cut sub rows), _, _, ⟨⟨A, cap, _, _⟩, by rw [k2], k1⟩, hs', h1⟩
  | some rv =>
   obtain ⟨rr, ver⟩ := rv;simp only at h;obtain ⟨own', sz, rows, holes, log, fl, seen', rd', he, _, hok, hmn, h1, h2, h3, hs', h4⟩ := rowOf_inv R h hs;obtain ⟨_, A, len, cap, rfl, hsub⟩ := hx;obtain ⟨k1, k2⟩ := (hok.row rr fl h3 h1).sub (hsub fl.length sz ⟨_, _, _, _, fl, he, h1, h2, h3, rfl⟩);exact ⟨.flat false sz (cut sub fl), _, _, ⟨⟨A, cap, fun _ => none, fun _ => 0⟩, by rw [k2], k1.ro⟩, hs', h4⟩
 | _ => exact (qfq h).elim
theorem roCs_inv (R : Rel Mn O0 w0 nt s g a w) : ∀ {ts : List Nat} {vs : List SV} {us : List Value} {q : Nat} {seen rd : List Nat} {k : List C -> Prog}, Seen Mn seen -> All2 (VR1 s g) vs us -> runP s fresh (roCs T ts vs k) seen rd = some r ->
  ∃ cs seen' rd', CellsOk w noLab q cs us /\ Seen Mn seen' /\ runP s fresh (k cs) seen' rd' = some r := by
 intro ts
 induction ts with
 | nil =>
  intro vs us q seen rd k hs hv h
  cases vs with
  | nil => cases us with
   | nil => exact ⟨[], _, _, trivial, hs, h⟩
   | cons _ _ => have := hv.1; simp at this
  | cons _ _ => exact (qfq h).elim
 | cons t ts ih =>
  intro vs us q seen rd k hs hv h
  cases vs with
  | nil => exact (qfq h).elim
  | cons v vs =>
   cases us with
   | nil => have := hv.1; simp at this
   | cons u us =>
    simp only [roCs] at h;obtain ⟨c, seen1, rd1, h1, h2, h3⟩ := roC_inv (q := q) R hs (VR3.one (hv.2 0 v u rfl rfl)) h;obtain ⟨cs, seen2, rd2, h4, h5, h6⟩ := ih (q := q + 1) h2 ⟨by have := hv.1; simpa using this, fun i x y hx hy => hv.2 (i + 1) x y (by simpa using hx) (by simpa using hy)⟩ h3;exact ⟨c :: cs, seen2, rd2, ⟨h1, h4⟩, h5, h6⟩
theorem roCap_inv (R : Rel Mn O0 w0 nt s g a w) (hs : Seen Mn seen) {q : Nat} {v : SV} {u : Value} {k : C -> Prog} (hx : VR1 s g v u) (h : runP s fresh (roCap v k) seen rd = some r) :
  ∃ c seen' rd', CellOk w noLab q c u /\ Seen Mn seen' /\ runP s fresh (k c) seen' rd' = some r := by
 unfold roCap at h
 split at h
 ·rename_i n;obtain ⟨b, hb, rfl⟩ := hx;obtain ⟨e, seen', rd', he, hok, hmn, _, hs', h1⟩ := ent_inv R h hs;have fin : ∀ {z : Sc} {b' : Nat} {arr : Array Value} {T : TypeId}, g.base n = some ⟨b', 0, none⟩ -> w.heap[b']? = some (.cells arr T (0, 0)) -> All2 (VR1 s g) [SV.s z] arr.toList -> CellOk w noLab q (.cap z) (.pointer (some ⟨b, 0, none⟩)) := by
   intro z b' arr T h1 h2 h3;rw [hb] at h1;injection h1 with h1
   injection h1 with h1
   subst h1;obtain ⟨x, hx⟩ : ∃ x, arr.toList = [x] := List.length_eq_one_iff.1 (by have := h3.1; simpa using this.symm);refine ⟨⟨some ⟨b, 0, none⟩, 0, fun _ => none, fun _ => 0⟩, b, arr, T, rfl, rfl, rfl, h2, ?_⟩;have := h3.2 0 (SV.s z) x rfl (by rw [hx]; rfl);rw [hx, this]
  cases e with
  | blk cs =>
   split at h1
   ·rename_i z heq;injection heq with heq
    subst heq;obtain ⟨b', arr, T, k1, _, k2, k3⟩ := hok;exact ⟨_, seen', rd', fin k1 k2 k3, hs', h1⟩
   ·rename_i heq; simp at heq
   ·exact (qfq h1).elim
  | rblk cs =>
   split at h1
   ·rename_i heq; simp at heq
   ·rename_i z heq;injection heq with heq
    subst heq;obtain ⟨b', arr, T, k1, _, k2, k3⟩ := hok;exact ⟨_, seen', rd', fin k1 k2 k3, hs', h1⟩
   ·exact (qfq h1).elim
  | _ => exact (qfq h1).elim
 ·exact (qfq h).elim
theorem roCaps_inv (R : Rel Mn O0 w0 nt s g a w) : ∀ {vs : List SV} {us : List Value} {q : Nat} {seen rd : List Nat} {k : List C -> Prog}, Seen Mn seen -> All2 (VR1 s g) vs us -> runP s fresh (roCaps vs k) seen rd = some r ->
  ∃ cs seen' rd', CellsOk w noLab q cs us /\ Seen Mn seen' /\ runP s fresh (k cs) seen' rd' = some r := by
 intro vs
 induction vs with
 | nil =>
  intro us q seen rd k hs hv h
  cases us with
  | nil => exact ⟨[], _, _, trivial, hs, h⟩
  | cons _ _ => have := hv.1; simp at this
 | cons v vs ih =>
  intro us q seen rd k hs hv h
  cases us with
  | nil => have := hv.1; simp at this
  | cons u us =>
   simp only [roCaps] at h;obtain ⟨c, seen1, rd1, h1, h2, h3⟩ := roCap_inv (q := q) R hs (hv.2 0 v u rfl rfl) h;obtain ⟨cs, seen2, rd2, h4, h5, h6⟩ := ih (q := q + 1) h2 ⟨by have := hv.1; simpa using this, fun i x y hx hy => hv.2 (i + 1) x y (by simpa using hx) (by simpa using hy)⟩ h3;exact ⟨c :: cs, seen2, rd2, ⟨h1, h4⟩, h5, h6⟩
theorem CellsOk.length {lab : Nat -> Option Key} : ∀ {cs : List C} {us : List Value} {q : Nat}, CellsOk w lab q cs us -> cs.length = us.length := by
 intro cs
 induction cs with
 | nil => intro us q h; cases us with
  | nil => rfl
  | cons _ _ => exact h.elim
 | cons c cs ih => intro us q h; cases us with
  | nil => exact h.elim
  | cons u us => simp [ih h.2]
theorem roVs_inv (R : Rel Mn O0 w0 nt s g a w) : ∀ {ts : List Nat} {vs : List SV} {us : List Value} {q : Nat} {seen rd : List Nat} {k : List V -> Prog}, Seen Mn seen -> All2 (VR3 s g) vs us -> runP s fresh (roVs T ts vs k) seen rd = some r ->
  ∃ cs seen' rd', V1sOk w noLab q cs us /\ Seen Mn seen' /\ runP s fresh (k cs) seen' rd' = some r := by
 intro ts
 induction ts with
 | nil =>
  intro vs us q seen rd k hs hv h
  cases vs with
  | nil => cases us with
   | nil => exact ⟨[], _, _, trivial, hs, h⟩
   | cons _ _ => have := hv.1; simp at this
  | cons _ _ => exact (qfq h).elim
 | cons t ts ih =>
  intro vs us q seen rd k hs hv h
  cases vs with
  | nil => exact (qfq h).elim
  | cons v vs =>
   cases us with
   | nil => have := hv.1; simp at this
   | cons u us =>
    simp only [roVs] at h;have hv0 := hv.2 0 v u rfl rfl;have hrest : All2 (VR3 s g) vs us := ⟨by have := hv.1; simpa using this, fun i x y hx hy => hv.2 (i + 1) x y (by simpa using hx) (by simpa using hy)⟩;have one : ∀ {k' : V -> Prog}, runP s fresh (roC T t v fun c => k' (.one c)) seen rd = some r -> ∃ x seen' rd', V1Ok w noLab q x u /\ Seen Mn seen' /\ runP s fresh (k' x) seen' rd' = some r := by
     intro k' h;obtain ⟨c, seen1, rd1, h1, h2, h3⟩ := roC_inv (q := q) R hs hv0 h;exact ⟨.one c, seen1, rd1, h1, h2, h3⟩
    have key : ∃ x seen' rd', V1Ok w noLab q x u /\ Seen Mn seen' /\ runP s fresh (roVs T ts vs fun xs => k (x :: xs)) seen' rd' = some r := by
     unfold roV at h
     cases v with
     | agg l =>
      simp only at h
      cases ht : lk T t with
      | none => rw [ht] at h; exact (qfq h).elim
      | some ti =>
       rw [ht] at h;obtain ⟨cs, rfl, hcs⟩ := hv0;obtain ⟨ds, seen1, rd1, h1, h2, h3⟩ := roCs_inv (q := q) R hs hcs h;exact ⟨.agg ds, seen1, rd1, ⟨_, rfl, h1⟩, h2, h3⟩
     | fn f l =>
      obtain ⟨cs, rfl, hcs⟩ := hv0;obtain ⟨ds, seen1, rd1, h1, h2, h3⟩ := roCaps_inv (q := q) R hs hcs h;exact ⟨.clo f ds, seen1, rd1, ⟨_, rfl, h1⟩, h2, h3⟩
     | _ => exact one h
    obtain ⟨x, seen1, rd1, h1, h2, h3⟩ := key;obtain ⟨cs, seen2, rd2, h4, h5, h6⟩ := ih (q := q + width x) h2 hrest h3;exact ⟨x :: cs, seen2, rd2, ⟨h1, h4⟩, h5, h6⟩
end
end Go.Sh
namespace Go.Sh
variable [Fwd]
def svC (fresh : Nat) : C -> SV
 | .s x => .s x
 | .flat _ _ _ | .nest _ _ _ => .sl fresh none none
 | .dead => .bad
 | .cap _ => .ptr fresh 0
def wsC (fresh : Nat) : C -> Ws
 | .flat own sz rows => [(fresh, some (.flat own sz rows))]
 | .nest own sz rows => [(fresh, some (.nest own sz rows [] []))]
 | .cap x => [(fresh, some (.rblk [.s x]))]
 | _ => []
def svCs (fresh : Nat) : List C -> List SV
 | [] => []
 | c :: cs => svC fresh c :: svCs (fresh + 1) cs
def wsCs (fresh : Nat) : List C -> Ws
 | [] => []
 | c :: cs => wsC fresh c ++ wsCs (fresh + 1) cs
def svV1 (fresh : Nat) : V -> SV
 | .one c => svC fresh c
 | .agg l => .agg (svCs fresh l)
 | .clo f l => .fn f (svCs fresh l)
 | .tup _ => .bad
def wsV1 (fresh : Nat) : V -> Ws
 | .one c => wsC fresh c
 | .agg l => wsCs fresh l
 | .clo _ l => wsCs fresh l
 | .tup _ => []
def isV1 : V -> Bool
 | .one _ | .agg _ | .clo _ _ => true
 | .tup _ => false
def svVs (fresh : Nat) : List V -> List SV
 | [] => []
 | v :: vs => svV1 fresh v :: svVs (fresh + width v) vs
def wsVs (fresh : Nat) : List V -> Ws
 | [] => []
 | v :: vs => wsV1 fresh v ++ wsVs (fresh + width v) vs
def svV (fresh : Nat) : V -> SV
 | .tup l => .tup (svVs fresh l)
 | v => svV1 fresh v
def wsV (fresh : Nat) : V -> Ws
 | .tup l => wsVs fresh l
 | v => wsV1 fresh v
theorem newC_eq (fresh : Nat) (c : C) (k : SV -> Ws -> Nat -> Prog) : newC fresh c k = k (svC fresh c) (wsC fresh c) (fresh + 1) := by cases c <;> rfl
theorem newCs_eq (cs : List C) : ∀ (fresh : Nat) (k : List SV -> Ws -> Nat -> Prog), newCs fresh cs k = k (svCs fresh cs) (wsCs fresh cs) (fresh + cs.length) := by
 induction cs with
 | nil => intro fresh k; rfl
 | cons c cs ih => intro fresh k; simp only [newCs, newC_eq, ih, svCs, wsCs, List.length_cons]; rw [show fresh + 1 + cs.length = fresh + (cs.length + 1) by omega]
theorem newV1_eq (v : V) (fresh : Nat) (k : SV -> Ws -> Nat -> Prog) (h : isV1 v = true) : newV1 fresh v k = k (svV1 fresh v) (wsV1 fresh v) (fresh + width v) := by
 cases v with
 | one c => simp only [newV1, newC_eq]; rfl
 | agg l => simp only [newV1, newCs_eq]; rfl
 | clo f l => simp only [newV1, newCs_eq]; rfl
 | _ => simp [isV1] at h
theorem newVs_eq (vs : List V) : ∀ (fresh : Nat) (k : List SV -> Ws -> Nat -> Prog), vs.all isV1 = true -> ∃ f, newVs fresh vs k = k (svVs fresh vs) (wsVs fresh vs) f := by
 induction vs with
 | nil => intro fresh k _; exact ⟨fresh, rfl⟩
 | cons v vs ih =>
  intro fresh k h;simp only [List.all_cons, Bool.and_eq_true] at h;obtain ⟨f, hf⟩ := ih (fresh + width v) (fun vs' ws' f' => k (svV1 fresh v :: vs') (wsV1 fresh v ++ ws') f') h.2;exact ⟨f, by simp only [newVs, newV1_eq v _ _ h.1]; rw [hf]; rfl⟩
theorem ownV1_is {v : V} (h : ownV1 v = true) : isV1 v = true := by cases v <;> simp [ownV1, isV1] at h ⊢
theorem newV_eq (v : V) (fresh : Nat) (k : SV -> Ws -> Nat -> Prog) (h : ownV v = true) : ∃ f, newV fresh v k = k (svV fresh v) (wsV fresh v) f := by
 cases v with
 | tup l =>
  have h' : l.all isV1 = true := by
   simp only [ownV, List.all_eq_true] at h ⊢;exact fun v hv => ownV1_is (h v hv)
  obtain ⟨f, hf⟩ := newVs_eq l fresh (fun vs ws f => k (.tup vs) ws f) h';exact ⟨f, hf⟩
 | one c => exact ⟨_, newV1_eq (.one c) fresh k rfl⟩
 | agg l => exact ⟨_, newV1_eq (.agg l) fresh k rfl⟩
 | clo f l => simp [ownV, ownV1] at h
def CellsAt (w : World) (lab : Nat -> Option Key) (L : Nat -> Loc) (q : Nat) : List C -> List Value -> Prop
 | [], [] => True
 | c :: cs, u :: us => CellAt w lab q (L q) c u /\ CellsAt w lab L (q + 1) cs us
 | _, _ => False
def V1At (w : World) (lab : Nat -> Option Key) (L : Nat -> Loc) (q : Nat) (v : V) (u : Value) : Prop :=
 match v with
 | .one c => CellAt w lab q (L q) c u
 | .agg l => ∃ cs, u = .agg cs /\ CellsAt w lab L q l cs.toList
 | .clo f l => ∃ cs, u = .func (.func f) #[] cs /\ CellsAt w lab L q l cs.toList
 | .tup _ => False
def V1sAt (w : World) (lab : Nat -> Option Key) (L : Nat -> Loc) (q : Nat) : List V -> List Value -> Prop
 | [], [] => True
 | v :: vs, u :: us => V1At w lab L q v u /\ V1sAt w lab L (q + width v) vs us
 | _, _ => False
def VAt (w : World) (lab : Nat -> Option Key) (L : Nat -> Loc) (q : Nat) (v : V) (u : Value) : Prop :=
 match v with
 | .tup l => ∃ us, u = .tuple us /\ V1sAt w lab L q l us.toList
 | v => V1At w lab L q v u
section
variable {w : World} {lab : Nat -> Option Key}
theorem CellsAt.congr {L L' : Nat -> Loc} : ∀ {cs : List C} {us : List Value} {q : Nat}, CellsAt w lab L q cs us -> (∀ i, q <= i -> i < q + cs.length -> L' i = L i) -> CellsAt w lab L' q cs us := by
 intro cs
 induction cs with
 | nil => intro us q h _; cases us with
  | nil => exact trivial
  | cons _ _ => exact h.elim
 | cons c cs ih =>
  intro us q h hL
  cases us with
  | nil => exact h.elim
  | cons u us => exact ⟨by rw [hL q (Nat.le_refl _) (by simp)]; exact h.1, ih h.2 (fun i h1 h2 => hL i (by omega) (by simp; omega))⟩
theorem CellsOk.at_ : ∀ {cs : List C} {us : List Value} {q : Nat}, CellsOk w lab q cs us -> ∃ L, CellsAt w lab L q cs us := by
 intro cs
 induction cs with
 | nil => intro us q h; cases us with
  | nil => exact ⟨fun _ => ⟨none, 0, fun _ => none, fun _ => 0⟩, trivial⟩
  | cons _ _ => exact h.elim
 | cons c cs ih =>
  intro us q h
  cases us with
  | nil => exact h.elim
  | cons u us =>
   obtain ⟨⟨x, hx⟩, h2⟩ := h;obtain ⟨L, hL⟩ := ih h2;exact ⟨fun i => if i = q then x else L i, by simpa [CellsAt] using ⟨hx, hL.congr (fun i h1 h2 => by simp; omega)⟩⟩
theorem V1Ok.at_ {v : V} {u : Value} {q : Nat} (h : V1Ok w lab q v u) : ∃ L, V1At w lab L q v u := by
 cases v with
 | one c => obtain ⟨x, hx⟩ := h; exact ⟨fun _ => x, hx⟩
 | agg l => obtain ⟨cs, hu, h⟩ := h; obtain ⟨L, hL⟩ := h.at_; exact ⟨L, cs, hu, hL⟩
 | clo f l => obtain ⟨cs, hu, h⟩ := h; obtain ⟨L, hL⟩ := h.at_; exact ⟨L, cs, hu, hL⟩
 | _ => exact h.elim
theorem V1At.congr {L L' : Nat -> Loc} {v : V} {u : Value} {q : Nat} (h : V1At w lab L q v u) (hL : ∀ i, q <= i -> i < q + width v -> L' i = L i) : V1At w lab L' q v u := by
 cases v with
 | one c => simp only [V1At]; rw [hL q (Nat.le_refl _) (by simp [width])]; exact h
 | agg l => obtain ⟨cs, hu, h⟩ := h; exact ⟨cs, hu, h.congr hL⟩
 | clo f l => obtain ⟨cs, hu, h⟩ := h; exact ⟨cs, hu, h.congr hL⟩
 | _ => exact h.elim
theorem V1sAt.congr {L L' : Nat -> Loc} : ∀ {vs : List V} {us : List Value} {q : Nat}, V1sAt w lab L q vs us -> (∀ i, q <= i -> L' i = L i) -> V1sAt w lab L' q vs us := by
 intro vs
 induction vs with
 | nil => intro us q h _; cases us with
  | nil => exact trivial
  | cons _ _ => exact h.elim
 | cons v vs ih =>
  intro us q h hL
  cases us with
  | nil => exact h.elim
  | cons u us => exact ⟨h.1.congr (fun i h1 _ => hL i h1), ih h.2 (fun i h1 => hL i (by omega))⟩
theorem V1sOk.at_ : ∀ {vs : List V} {us : List Value} {q : Nat}, V1sOk w lab q vs us -> ∃ L, V1sAt w lab L q vs us := by
 intro vs
 induction vs with
 | nil => intro us q h; cases us with
  | nil => exact ⟨fun _ => ⟨none, 0, fun _ => none, fun _ => 0⟩, trivial⟩
  | cons _ _ => exact h.elim
 | cons v vs ih =>
  intro us q h
  cases us with
  | nil => exact h.elim
  | cons u us =>
   obtain ⟨L1, h1⟩ := h.1.at_;obtain ⟨L2, h2⟩ := ih h.2;refine ⟨fun i => if i < q + width v then L1 i else L2 i, h1.congr (fun i _ h => by simp [h]), h2.congr (fun i h => by simp; omega)⟩
theorem VOk.at_ {v : V} {u : Value} {q : Nat} (h : VOk w lab q v u) : ∃ L, VAt w lab L q v u := by
 cases v with
 | tup l => obtain ⟨us, hu, h⟩ := h; obtain ⟨L, hL⟩ := h.at_; exact ⟨L, us, hu, hL⟩
 | one c => exact V1Ok.at_ (v := .one c) h
 | agg l => exact V1Ok.at_ (v := .agg l) h
 | clo f l => exact V1Ok.at_ (v := .clo f l) h
end
def entOf (c : C) : Option Ent := match c with | .flat own sz rows => some (.flat own sz rows) | .nest own sz rows => some (.nest own sz rows [] []) | .cap x => some (.rblk [.s x]) | _ => none
theorem wsCs_mem {cs : List C} : ∀ {fresh n : Nat} {e : Option Ent}, (n, e) ∈ wsCs fresh cs -> ∃ j c, cs[j]? = some c /\ n = fresh + j /\ e = entOf c /\ e.isSome = true := by
 induction cs with
 | nil => intro fresh n e h; simp [wsCs] at h
 | cons c cs ih =>
  intro fresh n e h;simp only [wsCs, List.mem_append] at h;rcases h with h | h
  ·refine ⟨0, c, rfl, ?_⟩;cases c <;> simp [wsC] at h <;> (obtain ⟨rfl, rfl⟩ := h; exact ⟨rfl, rfl, rfl⟩)
  ·obtain ⟨j, c', h1, h2, h3⟩ := ih h;exact ⟨j + 1, c', by simpa using h1, by omega, h3⟩
theorem wsV1_eq {v : V} (h : isV1 v = true) (fresh : Nat) : wsV1 fresh v = wsCs fresh (flatC v) := by
 cases v <;> simp [isV1] at h <;> simp [wsV1, flatC, wsCs]
theorem wsCs_app {cs ds : List C} : ∀ {fresh : Nat}, wsCs fresh (cs ++ ds) = wsCs fresh cs ++ wsCs (fresh + cs.length) ds := by
 induction cs with
 | nil => intro fresh; simp [wsCs]
 | cons c cs ih => intro fresh; simp only [List.cons_append, wsCs, ih, List.append_assoc, List.length_cons]; rw [show fresh + 1 + cs.length = fresh + (cs.length + 1) by omega]
theorem width_flat {v : V} (h : isV1 v = true) : (flatC v).length = width v := by cases v <;> simp [isV1] at h <;> rfl
theorem wsVs_eq {vs : List V} : ∀ {fresh : Nat}, vs.all isV1 = true -> wsVs fresh vs = wsCs fresh (vs.flatMap flatC) := by
 induction vs with
 | nil => intro fresh _; rfl
 | cons v vs ih =>
  intro fresh h;simp only [List.all_cons, Bool.and_eq_true] at h;simp only [wsVs, List.flatMap_cons, wsCs_app, wsV1_eq h.1, ih h.2, width_flat h.1]
theorem wsV_eq {v : V} (h : ownV v = true) (fresh : Nat) : wsV fresh v = wsCs fresh (flatV v) := by
 cases v with
 | tup l =>
  have h' : l.all isV1 = true := by
   simp only [ownV, List.all_eq_true] at h ⊢;exact fun v hv => ownV1_is (h v hv)
  exact wsVs_eq h'
 | one c => exact wsV1_eq (v := .one c) rfl fresh
 | agg l => exact wsV1_eq (v := .agg l) rfl fresh
 | clo f l => simp [ownV, ownV1] at h
section
variable {w : World} {lab : Nat -> Option Key} {L : Nat -> Loc}
theorem CellsAt.get : ∀ {cs : List C} {us : List Value} {q : Nat}, CellsAt w lab L q cs us -> ∀ {j : Nat} {c : C}, cs[j]? = some c -> ∃ u, us[j]? = some u /\ CellAt w lab (q + j) (L (q + j)) c u := by
 intro cs
 induction cs with
 | nil => intro us q _ j c h; simp at h
 | cons c cs ih =>
  intro us q h j c' hj
  cases us with
  | nil => exact h.elim
  | cons u us =>
   cases j with
   | zero => simp at hj; subst hj; exact ⟨u, rfl, h.1⟩
   | succ j =>
    obtain ⟨u', h1, h2⟩ := ih h.2 (by simpa using hj);exact ⟨u', by simpa using h1, by rw [show q + (j + 1) = q + 1 + j by omega]; exact h2⟩
theorem V1At.get {v : V} {u : Value} {q : Nat} (h : V1At w lab L q v u) {j : Nat} {c : C} (hj : (flatC v)[j]? = some c) : ∃ u, CellAt w lab (q + j) (L (q + j)) c u := by
 cases v with
 | one c' => simp only [flatC] at hj; cases j with
  | zero => simp at hj; subst hj; exact ⟨u, h⟩
  | succ j => simp at hj
 | agg l => obtain ⟨cs, _, h⟩ := h; obtain ⟨u', _, h2⟩ := h.get hj; exact ⟨u', h2⟩
 | clo f l => obtain ⟨cs, _, h⟩ := h; obtain ⟨u', _, h2⟩ := h.get hj; exact ⟨u', h2⟩
 | _ => exact h.elim
theorem V1sAt.get : ∀ {vs : List V} {us : List Value} {q : Nat}, V1sAt w lab L q vs us -> ∀ {j : Nat} {c : C}, (vs.flatMap flatC)[j]? = some c -> ∃ u, CellAt w lab (q + j) (L (q + j)) c u := by
 intro vs
 induction vs with
 | nil => intro us q _ j c h; simp at h
 | cons v vs ih =>
  intro us q h j c hj
  cases us with
  | nil => exact h.elim
  | cons u us =>
   simp only [List.flatMap_cons] at hj;have hv : isV1 v = true := by cases v <;> first | rfl | exact h.1.elim
   rcases get_app hj with ⟨_, h1⟩ | ⟨h1, h2⟩
   ·exact h.1.get h1
   ·obtain ⟨u', h3⟩ := ih h.2 h2;rw [width_flat hv] at h1 h3;exact ⟨u', by rw [show q + width v + (j - width v) = q + j by omega] at h3; exact h3⟩
theorem VAt.get {v : V} {u : Value} {q : Nat} (h : VAt w lab L q v u) {j : Nat} {c : C} (hj : (flatV v)[j]? = some c) : ∃ u, CellAt w lab (q + j) (L (q + j)) c u := by
 cases v with
 | tup l => obtain ⟨us, _, h⟩ := h; exact h.get hj
 | one c' => exact V1At.get (v := .one c') h hj
 | agg l => exact V1At.get (v := .agg l) h hj
 | clo f l => exact V1At.get (v := .clo f l) h hj
end
end Go.Sh
namespace Go.Sh
variable [Fwd]
theorem putW_not {s : S} {n : Nat} : ∀ {ws : Ws}, (∀ e, (n, e) ∉ ws) -> (s.putW ws).fe n = s.fe n := by
 intro ws
 induction ws with
 | nil => intro _; rfl
 | cons p q ih =>
  obtain ⟨m, e⟩ := p;intro h;simp only [S.putW, S.setE];rw [if_neg (fun hm => h e (by simp [hm])), ih (fun e' he => h e' (List.mem_cons_of_mem _ he))]
theorem wsCs_at {s : S} {cs : List C} : ∀ {fresh j : Nat} {c : C}, cs[j]? = some c -> (entOf c).isSome = true -> (s.putW (wsCs fresh cs)).fe (fresh + j) = entOf c := by
 induction cs with
 | nil => intro fresh j c h; simp at h
 | cons d cs ih =>
  intro fresh j c h he;simp only [wsCs]
  cases j with
  | zero =>
   simp at h;subst h;cases d <;> simp [entOf] at he <;> simp [wsC, S.putW, S.setE, entOf]
  | succ j =>
   have h0 := ih (fresh := fresh + 1) (by simpa using h) he;rw [show fresh + (j + 1) = fresh + 1 + j by omega];rw [putW_append];rw [putW_not, h0];intro e hm;cases d <;> simp [wsC] at hm <;> omega
section
variable {P : Program} {T : Tab} {Mn O0 : Nat -> Prop} {w0 : Base} {w w' : World} {nt : Nat} {s : S} {g g' : G} {a : Act} {fresh : Nat} {seen rd : List Nat} {r : List Nat × SV × Ws} {lab : Nat -> Option Key} {L : Nat -> Loc}
theorem cell_VR {cs : List C} {j : Nat} {c : C} {u : Value} (hc : cs[j]? = some c) (hb : g'.base (fresh + j) = (L j).A) (hcap : g'.cap (fresh + j) = (L j).c) (h : CellAt w' lab j (L j) c u) : VR1 (s.putW (wsCs fresh cs)) g' (svC (fresh + j) c) u := by
 cases c with
 | s x => exact h
 | flat own sz rows =>
  obtain ⟨rfl, _⟩ := h;refine ⟨_, _, _, rfl, fun L' sz' hL => ?_⟩;have := wsCs_at (s := s) (fresh := fresh) hc rfl;simp only [lenSz, this, entOf, Option.some.injEq, Prod.mk.injEq] at hL;rw [hb, hcap, <- hL.1];exact SubOk.whole
 | nest own sz rows =>
  obtain ⟨rfl, _⟩ := h;refine ⟨_, _, _, rfl, fun L' sz' hL => ?_⟩;have := wsCs_at (s := s) (fresh := fresh) hc rfl;simp only [lenSz, this, entOf, Option.some.injEq, Prod.mk.injEq] at hL;rw [hb, hcap, <- hL.1];exact SubOk.whole
 | dead => trivial
 | cap z =>
  obtain ⟨b, arr, ty, h1, h2, _⟩ := h;exact ⟨b, hb.trans h1, h2⟩
theorem svCs_get {cs : List C} : ∀ {fresh i : Nat} {x : SV}, (svCs fresh cs)[i]? = some x -> ∃ c, cs[i]? = some c /\ x = svC (fresh + i) c := by
 induction cs with
 | nil => intro fresh i x h; simp [svCs] at h
 | cons c cs ih =>
  intro fresh i x h
  cases i with
  | zero => simp [svCs] at h; exact ⟨c, rfl, h.symm⟩
  | succ i =>
   obtain ⟨c', h1, h2⟩ := ih (fresh := fresh + 1) (by simpa [svCs] using h);exact ⟨c', by simpa using h1, by rw [h2]; congr 1; omega⟩
theorem svCs_length {cs : List C} : ∀ {fresh : Nat}, (svCs fresh cs).length = cs.length := by
 induction cs with
 | nil => intro _; rfl
 | cons c cs ih => intro fresh; simp [svCs, ih]
theorem CellsAt.length : ∀ {cs : List C} {us : List Value} {q : Nat}, CellsAt w' lab L q cs us -> cs.length = us.length := by
 intro cs
 induction cs with
 | nil => intro us q h; cases us with
  | nil => rfl
  | cons _ _ => exact h.elim
 | cons c cs ih => intro us q h; cases us with
  | nil => exact h.elim
  | cons u us => simp [ih h.2]
theorem cells_VR {all l : List C} {us : List Value} {q : Nat} (hq : ∀ (i : Nat) (c : C), l[i]? = some c -> all[q + i]? = some c) (hg : ∀ j, j < all.length -> g'.base (fresh + j) = (L j).A /\ g'.cap (fresh + j) = (L j).c) (h : CellsAt w' lab L q l us) :
  All2 (VR1 (s.putW (wsCs fresh all)) g') (svCs (fresh + q) l) us := by
 refine ⟨by rw [svCs_length]; exact h.length, fun i x u hx hu => ?_⟩
 obtain ⟨c, hc, rfl⟩ := svCs_get hx
 obtain ⟨u', hu', hcell⟩ := h.get hc
 rw [hu] at hu'
 injection hu' with hu'
 subst hu'
 have hall := hq i c hc
 obtain ⟨h1, h2⟩ := hg (q + i) (qSq.1 hall).1
 rw [Nat.add_assoc]
 exact cell_VR hall h1 h2 hcell
theorem v1_VR {all : List C} {v : V} {u : Value} {q : Nat} (hq : ∀ (i : Nat) (c : C), (flatC v)[i]? = some c -> all[q + i]? = some c) (hg : ∀ j, j < all.length -> g'.base (fresh + j) = (L j).A /\ g'.cap (fresh + j) = (L j).c) (h : V1At w' lab L q v u) :
  VR2 (s.putW (wsCs fresh all)) g' (svV1 (fresh + q) v) u := by
 cases v with
 | one c =>
  have hall := hq 0 c rfl;obtain ⟨h1, h2⟩ := hg q (by have := (qSq.1 hall).1; omega);have := cell_VR (s := s) (fresh := fresh) hall h1 h2 h;simp only [svV1];cases c <;> exact this
 | agg l =>
  obtain ⟨cs, rfl, h⟩ := h;exact ⟨cs, rfl, cells_VR hq hg h⟩
 | clo f l =>
  obtain ⟨cs, rfl, h⟩ := h;exact ⟨cs, rfl, cells_VR hq hg h⟩
 | _ => exact h.elim
theorem v1s_VR {all : List C} : ∀ {vs : List V} {us : List Value} {q : Nat}, (∀ (i : Nat) (c : C), (vs.flatMap flatC)[i]? = some c -> all[q + i]? = some c) -> (∀ j, j < all.length -> g'.base (fresh + j) = (L j).A /\ g'.cap (fresh + j) = (L j).c) -> V1sAt w' lab L q vs us ->
  All2 (VR2 (s.putW (wsCs fresh all)) g') (svVs (fresh + q) vs) us := by
 intro vs
 induction vs with
 | nil => intro us q _ _ h; cases us with
  | nil => exact All2.nil
  | cons _ _ => exact h.elim
 | cons v vs ih =>
  intro us q hq hg h
  cases us with
  | nil => exact h.elim
  | cons u us =>
   have hv : isV1 v = true := by cases v <;> first | rfl | exact h.1.elim
   have h1 := v1_VR (s := s) (fresh := fresh) (v := v) (fun i c hc => hq i c (by simp only [List.flatMap_cons]; rw [qLq (qSq.1 hc).1]; exact hc)) hg h.1;have h2 := ih (q := q + width v) (fun i c hc => by
    have := hq (width v + i) c (by simp only [List.flatMap_cons]; rw [qRq (by rw [width_flat hv]; omega), width_flat hv]; rw [show width v + i - width v = i by omega]; exact hc)
    rwa [Nat.add_assoc]) hg h.2
   rw [<- Nat.add_assoc] at h2;refine ⟨by simp only [svVs, List.length_cons]; rw [h2.1], fun i x y hx hy => ?_⟩
   cases i with
   | zero => simp [svVs] at hx hy; subst hx hy; exact h1
   | succ i => exact h2.2 i x y (by simpa [svVs] using hx) (by simpa using hy)
theorem v_VR {v : V} {u : Value} (ho : ownV v = true) (hg : ∀ j, j < (flatV v).length -> g'.base (fresh + j) = (L j).A /\ g'.cap (fresh + j) = (L j).c) (h : VAt w' lab L 0 v u) : VR3 (s.putW (wsV fresh v)) g' (svV fresh v) u := by
 rw [wsV_eq ho]
 cases v with
 | tup l =>
  obtain ⟨us, rfl, h⟩ := h;exact ⟨us, rfl, v1s_VR (q := 0) (fun i c hc => by rw [Nat.zero_add]; exact hc) hg h⟩
 | one c =>
  have := v1_VR (s := s) (fresh := fresh) (g' := g') (v := .one c) (q := 0) (fun i c hc => by rw [Nat.zero_add]; exact hc) hg h;rw [Nat.add_zero] at this;simp only [svV, svV1] at this ⊢;cases c <;> exact this
 | agg l =>
  have := v1_VR (s := s) (fresh := fresh) (g' := g') (v := .agg l) (q := 0) (fun i c hc => by rw [Nat.zero_add]; exact hc) hg h;rw [Nat.add_zero] at this;exact this
 | clo f l => simp [ownV, ownV1] at ho
theorem ownV_all {v : V} (h : ownV v = true) : ∀ c ∈ flatV v, ownC c = true := by
 have h1 : ∀ v : V, ownV1 v = true -> ∀ c ∈ flatC v, ownC c = true := by
  intro v h c hc;cases v <;> simp [ownV1, flatC] at h hc
  ·subst hc; exact h
  ·exact h c hc
 cases v with
 | tup l =>
  intro c hc;simp only [flatV, List.mem_flatMap] at hc;obtain ⟨x, hx, hc⟩ := hc;simp only [ownV, List.all_eq_true] at h;exact h1 x (h x hx) c hc
 | one c => exact h1 (.one c) h
 | agg l => exact h1 (.agg l) h
 | clo f l => simp [ownV, ownV1] at h
open Classical in
theorem new_did (R : Rel Mn O0 w0 nt s g a w) (hf : ∀ m, InR fresh m -> ¬ Mn m) {res : V} (hb : (ownV res && Nat.ble (flatV res).length 16) = true) {u : Value} (hfrm : Frm (fun _ => False) w w') (hlab : ∀ b k, lab b = some k -> w.heap.size <= b /\ b < w'.heap.size) (hV : VOk w' lab 0 res u) :
  ∃ g', Did Mn s g w (InR fresh) (svV fresh res) (wsV fresh res) u w' g' := by
  simp only [Bool.and_eq_true] at hb;have hlen := Nat.le_of_ble_eq_true hb.2;obtain ⟨L, hL⟩ := hV.at_
  let g' : G :=
   { base := fun n => if InR fresh n then (L (n - fresh)).A else g.base n
     cap := fun n => if InR fresh n then (L (n - fresh)).c else g.cap n
     rbase := fun n => if InR fresh n then (L (n - fresh)).rb else g.rbase n
     rcap := fun n => if InR fresh n then (L (n - fresh)).rc else g.rcap n
     own := fun b => match lab b with | some (q, x) => if q < 16 then some (fresh + q, x) else none | none => g.own b }
  have hin : ∀ j, j < (flatV res).length -> InR fresh (fresh + j) := fun j hj => ⟨by omega, by omega⟩
  have hgj : ∀ j, j < (flatV res).length -> g'.base (fresh + j) = (L j).A /\ g'.cap (fresh + j) = (L j).c /\ g'.rbase (fresh + j) = (L j).rb /\ g'.rcap (fresh + j) = (L j).rc := fun j hj => by
   have := hin j hj;simp [g', this]
  have hnot : ∀ n, Mn n -> ¬ InR fresh n := fun n hn hi => hf n hi hn
  have hold : ∀ b, b < w.heap.size -> g'.own b = g.own b /\ w'.heap[b]? = w.heap[b]? := fun b hb => by
   refine ⟨?_, hfrm.block b hb (fun h => h)⟩
   cases hlb : lab b with
   | none => simp [g', hlb]
   | some k => have := (hlab b k hlb).1; omega
  have hmem : ∀ n e, (n, e) ∈ wsV fresh res -> ∃ j c, (flatV res)[j]? = some c /\ n = fresh + j /\ e = entOf c := fun n e hm => by
   rw [wsV_eq hb.1] at hm;obtain ⟨j, c, k1, k2, k3, _⟩ := wsCs_mem hm;exact ⟨j, c, k1, k2, k3⟩
  have D : Did Mn s g w (InR fresh) (svV fresh res) (wsV fresh res) u w' g' := by
   refine did_of R (fun _ => False) (fun n hn _ => putW_not (fun e hm => ?_)) (fun n e hx => ?_) (fun n hn _ => ?_) (fun b n r hb ho _ => hold b hb) (fun b hb ho => by rw [<- ho]; exact ⟨(hold b hb).1, (hold b hb).2⟩)
    ⟨hfrm.os, hfrm.tape, hfrm.output, hfrm.size⟩ (fun b k hk => ?_) (fun b n r hk => ?_) (fun n _ h => h.elim) (fun n e hx hd => ?_) (fun _ => v_VR hb.1 (fun j hj => ⟨(hgj j hj).1, (hgj j hj).2.1⟩) hL)
   ·obtain ⟨j, c, k1, rfl, _⟩ := hmem _ _ hm;exact hnot _ hn (hin j (qSq.1 k1).1)
   ·rcases putW_mem hx with h | h
    ·exact .inl (R.me n e h).1
    ·obtain ⟨j, c, k1, rfl, _⟩ := hmem _ _ h;exact .inr (hin j (qSq.1 k1).1)
   ·have := hnot n hn;simp [g', this]
   ·cases hlb : lab b with
    | none => simp only [g', hlb] at hk; exact Nat.lt_of_lt_of_le (R.bound b k hk) hfrm.size
    | some k' => exact (hlab b k' hlb).2
   ·cases hlb : lab b with
    | none => simp only [g', hlb] at hk; exact .inl (R.label b n r hk)
    | some k' =>
     obtain ⟨q, x⟩ := k';simp only [g', hlb] at hk;split at hk
     ·rename_i hq;injection hk with hk
      injection hk with hk _
      rw [<- hk];exact .inr ⟨by omega, by omega⟩
     ·simp at hk
   ·rcases putW_mem hx with h | h
    ·exact (hd (R.me n e h).1).elim
    ·obtain ⟨j, c, k1, rfl, k3⟩ := hmem _ _ h;have hj := (qSq.1 k1).1;obtain ⟨u', hc⟩ := hL.get k1;rw [Nat.zero_add] at hc;obtain ⟨e1, e2, e3, e4⟩ := hgj j hj;have hoc := ownV_all hb.1 c (qMq k1);have own' : ∀ b x, lab b = some (j, x) -> g'.own b = some (fresh + j, x) := fun b x hb => by
      simp only [g', hb]; rw [if_pos (by omega)]
     cases c with
     | s x => simp [entOf] at k3
     | dead => simp [entOf] at k3
     | cap z => simp [ownC] at hoc
     | flat own sz rows =>
      simp only [entOf, Option.some.injEq] at k3;subst k3;simp only [ownC] at hoc;subst hoc;obtain ⟨_, hF⟩ := hc;show FlatOk w' g'.own (some (fresh + j, none)) (g'.base (fresh + j)) (g'.cap (fresh + j)) sz rows
      rw [e1, e2];exact hF.mono (fun _ => rfl) (fun b _ ho => ⟨own' b _ ho, rfl⟩)
     | nest own sz rows =>
      simp only [entOf, Option.some.injEq] at k3;subst k3;simp only [ownC] at hoc;subst hoc;obtain ⟨_, hF⟩ := hc;show NestOk w' g'.own (some (fresh + j, none)) (fun i => some (fresh + j, some i)) (g'.base (fresh + j)) (g'.cap (fresh + j)) (g'.rbase (fresh + j)) (g'.rcap (fresh + j)) sz rows []
      rw [e1, e2, e3, e4];exact hF.mono (fun _ => rfl) (fun b _ ho => ⟨own' b _ ho, rfl⟩) (fun _ _ => rfl) (fun i b _ _ ho => ⟨own' b _ ho, rfl⟩) (fun _ _ => ⟨rfl, rfl⟩)
  exact ⟨g', D⟩
theorem pure_sim (R : Rel Mn O0 w0 nt s g a w) (hs : Seen Mn seen) (hf : ∀ m, InR fresh m -> ¬ Mn m) {f : FuncId} {con : Con} (hS : SoundP P f con.F) {ts : List Nat} {args : List SV} {us : Array Value} (hargs : All2 (VR3 s g) args us.toList)
  (h : runP s fresh (pureP T fresh con ts args) seen rd = some r) :
  Calls P f us w fun e w' => ∃ u g', e = .returned u /\ ∀ d : Option Nat, (∀ t, d = some t -> t < nt) -> Rel (fun n => Mn n \/ InR fresh n) O0 w0 nt (s.put d r.2.1 r.2.2) g' (a.put d u) w' := by
 unfold pureP at h
 obtain ⟨vs, seen1, rd1, hvs, hs1, h1⟩ := roVs_inv (q := 0) R hs hargs h
 clear h
 simp only [runP] at h1
 cases hF : con.F vs with
 | none => rw [hF] at h1; simp at h1
 | some p =>
  obtain ⟨res, outs⟩ := p;rw [hF] at h1;simp only at h1;obtain ⟨hb, h2⟩ := bif_inv h1
  clear h1
  have hb1 := hb;simp only [Bool.and_eq_true] at hb1;obtain ⟨f', hnew⟩ := newV_eq res fresh (fun v ws _ => Prog.ret v ws) hb1.1;rw [hnew] at h2;obtain ⟨rfl, hn⟩ := ret_inv h2 hs1;refine (hS vs res outs hF w us hvs).mono ?_;rintro e w' ⟨u, lab, rfl, hfrm, hlab, hV⟩;obtain ⟨g', D⟩ := new_did R hf hb hfrm hlab hV;exact ⟨u, g', rfl, fun d hd => D.rel R hd (fun _ => rfl) hn⟩
end
end Go.Sh
namespace Go.Sh
variable [Fwd]
noncomputable def callWith (T : Tab) (fresh : Nat) (con : Con) (ts : List Nat) (vs : List SV) : Prog := bif con.ro.all id && !con.rro then pureP T fresh con ts vs else (bif con.rro then turnP fresh con vs else bif isRec con.ro then recP fresh con vs else passP T fresh con ts vs)
def SoundC (P : Program) (T : Tab) (f : FuncId) (con : Con) : Prop :=
 (∃ fn, P.funcs[f]? = some fn /\ fn.name ≠ "runtime.NumGoroutine" /\ fn.body ≠ none) /\
 ∀ (Mn O0 : Nat -> Prop) (w0 : Base) (w : World) (nt : Nat) (s : S) (g : G) (a : Act) (fresh : Nat) (seen rd : List Nat) (r : List Nat × SV × Ws) (ts : List Nat) (vs : List SV) (us : Array Value),
  Rel Mn O0 w0 nt s g a w -> Seen Mn seen -> (∀ m, InR fresh m -> ¬ Mn m) -> All2 (VR3 s g) vs us.toList -> Seen Mn (vs.flatMap names3) -> runP s fresh (callWith T fresh con ts vs) seen rd = some r ->
  Calls P f us w fun e w' => ∃ u g', e = .returned u /\ ∀ d : Option Nat, (∀ t, d = some t -> t < nt) -> Rel (fun n => Mn n \/ InR fresh n) O0 w0 nt (s.put d r.2.1 r.2.2) g' (a.put d u) w'
def Sound (P : Program) (T : Tab) (Γ : List (Nat × Con)) : Prop := ∀ f con, lk Γ f = some con -> SoundC P T f con
section
variable {P : Program} {T : Tab} {Mn O0 : Nat -> Prop} {w0 : Base} {w : World} {nt : Nat} {s : S} {g : G} {a : Act} {fresh : Nat} {seen rd : List Nat} {r : List Nat × SV × Ws}
theorem opnds_inv (R : Rel Mn O0 w0 nt s g a w) : ∀ {os : List Operand} {seen rd : List Nat} {k : List SV -> Prog}, Seen Mn seen -> runP s fresh (opnds os k) seen rd = some r ->
  ∃ vs seen' rd', All2 (VR3 s g) vs (os.map a.eval) /\ Seen Mn (vs.flatMap names3) /\ Seen Mn seen' /\ runP s fresh (k vs) seen' rd' = some r := by
 intro os
 induction os with
 | nil => intro seen rd k hs h; exact ⟨[], _, _, ⟨rfl, fun i x y hx => by simp at hx⟩, fun n hn => by simp at hn, hs, h⟩
 | cons o os ih =>
  intro seen rd k hs h;simp only [opnds] at h;obtain ⟨v, s1, r1, hv, hn, hs1, h1⟩ := opnd_inv R h hs;obtain ⟨vs, s2, r2, hvs, hn2, hs2, h2⟩ := ih hs1 h1;refine ⟨v :: vs, s2, r2, ⟨by simp [hvs.1], fun i x y hx hy => ?_⟩, ?_, hs2, h2⟩
  ·cases i with
   | zero => simp at hx hy; subst hx; subst hy; exact hv
   | succ i => simp at hx hy; exact hvs.2 i x y hx (by simpa using hy)
  ·intro n hm; simp at hm; rcases hm with hm | hm
   ·exact hn n hm
   ·exact hn2 n (by simpa using hm)
theorem mnmx_inv (R : Rel Mn O0 w0 nt s g a w) (isMax : Bool) (kd : IntKind) : ∀ {os : List Operand} {c : Int} {seen rd : List Nat} {k : Int -> Prog}, Seen Mn seen -> runP s fresh (mnmx isMax c os k) seen rd = some r ->
  ∃ m seen' rd', ((os.map a.eval).foldlM (bif isMax then Builtin.max2 else Builtin.min2) (.int kd c)).run P w = .ok (.int kd m) w /\ Seen Mn seen' /\ runP s fresh (k m) seen' rd' = some r := by
 intro os
 induction os with
 | nil => intro c seen rd k hs h; exact ⟨c, _, _, by cases isMax <;> simp, hs, h⟩
 | cons o os ih =>
  intro c seen rd k hs h;simp only [mnmx] at h;obtain ⟨v, s1, r1, hv, hn, hs1, h1⟩ := opnd_inv R h hs
  cases v with
  | s x =>
   cases x with
   | i kd' d =>
    have hv : a.eval o = .int kd' d := hv;obtain ⟨m, s2, r2, hm, hs2, h2⟩ := ih hs1 h1;refine ⟨m, s2, r2, ?_, hs2, h2⟩;cases isMax
    ·simp only [cond_false] at hm ⊢;simp only [List.map_cons, List.foldlM_cons, hv, Builtin.min2, pure_bind];exact hm
    ·simp only [cond_true] at hm ⊢;simp only [List.map_cons, List.foldlM_cons, hv, Builtin.max2, pure_bind];exact hm
   | b c => exact (qfq h1).elim
  | _ => exact (qfq h1).elim
theorem op_sim (hT : TabOk P T) {Γ : List (Nat × Con)} (hΓ : Sound P T Γ) (R : Rel Mn O0 w0 nt s g a w) (hf : ∀ m, InR fresh m -> ¬ Mn m) {o : Oper} (hd : ∀ t, o.dst = some t -> t < nt)
  (h : runP s fresh (opP Γ T fresh o.op) [] rd = some r) {K : Act -> World -> Prop} {Q : Exit -> Act -> World -> Prop}
  (hK : ∀ g' a' w', Rel (fun n => Mn n \/ InR fresh n) O0 w0 nt (s.put o.dst r.2.1 r.2.2) g' a' w' -> K a' w') : o.wp P a w K Q := by
 have hs : Seen Mn [] := fun n hn => by simp at hn
 have fin : ∀ {m : Sem Value}, OutR P Mn O0 w0 nt s a w fresh m r -> (execOp a.eval o).run P w = (do let v <- m; pure (Next.value v)).run P w -> o.wp P a w K Q := by
  rintro m ⟨u, w', g', hm, hd'⟩ he;unfold Oper.wp;rw [he];simp only [Sem.run_bind, hm, Result.andThen_ok, Sem.run_pure, Oper.upon];exact hK _ _ _ (hd' _ hd)
 obtain ⟨dst, op, type, pos, after, guard⟩ := o
 simp only at h hd hK fin ⊢
 cases op with
 | move x =>
  simp only [opP] at h;obtain ⟨v, s1, r1, hv, hn, hs1, h1⟩ := opnd_inv R h hs;exact fin (Out.toR R (out_pure R hs1 (m := pure (a.eval x)) h1 (by simp) hv)) (by simp [execOp])
 | assign x =>
  simp only [opP] at h;unfold assignP at h;split at h
  ·exact fin (Out.toR R (out_pure R hs (u := a.eval (.const (.pointer none))) (m := pure (a.eval (.const (.pointer none)))) h (by simp) (by simp [VR3, VR2, VR1]))) (by simp [execOp])
  ·exact fin (Out.toR R (out_pure R hs (u := a.eval (.const .nilFunc)) (m := pure (a.eval (.const .nilFunc))) h (by simp) (by simp [VR3, VR2, VR1]))) (by simp [execOp])
  ·rename_i f;exact fin (Out.toR R (out_pure R hs (v := .fn f []) (u := a.eval (.func f)) (m := pure (a.eval (.func f))) h (by simp) ⟨#[], rfl, rfl, fun i x y hx => by simp at hx⟩)) (by simp [execOp])
  obtain ⟨v, s1, r1, hv, hn, hs1, h1⟩ := opnd_inv R h hs;exact fin (Out.toR R (out_pure R hs1 (m := pure (a.eval x)) h1 (by simp) hv)) (by simp [execOp])
 | pick c x y =>
  simp only [opP] at h;obtain ⟨v, s1, r1, hv, hn, hs1, h1⟩ := opnd_inv R h hs
  cases v with
  | s z =>
   cases z with
   | b cc =>
    have hv : a.eval c = .bool cc := hv;simp only at h1;rcases test_inv h1 with ⟨rfl, h1⟩ | ⟨rfl, h1⟩
    ·obtain ⟨v, s2, r2, hv2, hn, hs2, h2⟩ := opnd_inv R h1 hs1;exact fin (Out.toR R (out_pure R hs2 (m := pure (a.eval x)) h2 (by simp) hv2)) (by simp [execOp, hv, asBool])
    ·obtain ⟨v, s2, r2, hv2, hn, hs2, h2⟩ := opnd_inv R h1 hs1;exact fin (Out.toR R (out_pure R hs2 (m := pure (a.eval y)) h2 (by simp) hv2)) (by simp [execOp, hv, asBool])
   | i _ _ => exact (qfq h1).elim
  | _ => exact (qfq h1).elim
 | alloc t =>
  simp only [opP] at h
  cases ht : lk T t with
  | none => rw [ht] at h; exact (qfq h).elim
  | some ti => rw [ht] at h; exact fin (Out.toR R (allocP_sim hT R hs hf ht h)) (by simp [execOp])
 | box t x =>
  simp only [opP] at h;obtain ⟨v, s1, r1, hv, hn, hs1, h1⟩ := opnd_inv R h hs;exact fin (Out.toR R (box_sim R hs1 hf t hv hn h1)) (by simp [execOp])
 | build t parts => exact fin (Out.toR R (build_sim hT R hs h)) (by simp [execOp])
 | buildSlice t len parts => exact fin (Out.toR R (buildSlice_sim hT R hs hf h)) (by simp [execOp])
 | load t x =>
  simp only [opP] at h;obtain ⟨v, s1, r1, hv, hn, hs1, h1⟩ := opnd_inv R h hs
  cases ht : lk T t with
  | none => rw [ht] at h1; exact (qfq h1).elim
  | some ti => rw [ht] at h1; exact fin (Out.toR R (load_sim hT R hs1 hf ht hv hn h1)) (by simp [execOp])
 | store t x y =>
  simp only [opP] at h;obtain ⟨v, s1, r1, hv, hn, hs1, h1⟩ := opnd_inv R h hs;obtain ⟨v2, s2, r2, hv2, hn2, hs2, h2⟩ := opnd_inv R h1 hs1
  cases ht : lk T t with
  | none => rw [ht] at h2; exact (qfq h2).elim
  | some ti =>
   rw [ht] at h2;obtain ⟨w', g', hm, hb, hdid, hnn⟩ := store_sim hT R hs2 ht hv hv2 hn2 h2;unfold Oper.wp;simp only [execOp, Sem.run_bind, hm, Result.andThen_ok, Sem.run_pure, Oper.upon];exact hK _ _ _ (Did.rel R (hdid undef) hd (fun _ => rfl) hnn)
 | binOp bop t x y ty =>
  simp only [opP] at h;obtain ⟨v, s1, r1, hv, hn, hs1, h1⟩ := opnd_inv R h hs;obtain ⟨v2, s2, r2, hv2, hn2, hs2, h2⟩ := opnd_inv R h1 hs1;exact fin (Out.toR R (bin_sim hT R hs2 x y hv hv2 h2)) (by simp [execOp])
 | unOp uop t x =>
  simp only [opP] at h;obtain ⟨v, s1, r1, hv, hn, hs1, h1⟩ := opnd_inv R h hs;exact fin (Out.toR R (un_sim R hs1 hv h1)) (by simp [execOp])
 | makeSlice t l c =>
  simp only [opP] at h;obtain ⟨v, s1, r1, hv, hn, hs1, h1⟩ := opnd_inv R h hs;obtain ⟨v2, s2, r2, hv2, hn2, hs2, h2⟩ := opnd_inv R h1 hs1;exact fin (Out.toR R (makeSlice_sim hT R hs2 hf hv hv2 h2)) (by simp [execOp])
 | fieldAddr t x f =>
  simp only [opP] at h;obtain ⟨v, s1, r1, hv, hn, hs1, h1⟩ := opnd_inv R h hs;exact fin (Out.toR R (fieldAddr_sim hT R hs1 hv h1)) (by simp [execOp])
 | field t x f =>
  simp only [opP] at h;obtain ⟨v, s1, r1, hv, hn, hs1, h1⟩ := opnd_inv R h hs;exact fin (Out.toR R (field_sim hT R hs1 hv h1)) (by simp [execOp])
 | indexAddr t x i =>
  simp only [opP] at h;obtain ⟨v, s1, r1, hv, hn, hs1, h1⟩ := opnd_inv R h hs;obtain ⟨v2, s2, r2, hv2, hn2, hs2, h2⟩ := opnd_inv R h1 hs1;exact fin (Out.toR R (indexAddr_sim hT R hs2 hv hv2 h2)) (by simp [execOp])
 | extract x i =>
  simp only [opP] at h;obtain ⟨v, s1, r1, hv, hn, hs1, h1⟩ := opnd_inv R h hs
  cases v with
  | tup l => exact fin (Out.toR R (extract_sim R hs1 hv h1)) (by simp [execOp])
  | _ => exact (qfq h1).elim
 | slice t x lo hi mx =>
  simp only [opP] at h;obtain ⟨v, s1, r1, hv, hn, hs1, h1⟩ := opnd_inv R h hs;have opt : ∀ {o : Option Operand} {k : SV -> Prog} {seen rd : List Nat}, Seen Mn seen -> runP s fresh (optOpnd o .bad k) seen rd = some r -> ∃ v u seen' rd', (isBad v = false -> VR3 s g v u) /\ ofBad v u = o.map a.eval /\ Seen Mn seen' /\ runP s fresh (k v) seen' rd' = some r := by
   intro o k seen rd hs h
   cases o with
   | none => exact ⟨.bad, undef, _, _, fun h => by simp [isBad] at h, rfl, hs, h⟩
   | some x =>
    obtain ⟨v, s1, r1, hv, hn, hs1, h1⟩ := opnd_inv R h hs
    cases hb : isBad v with
    | true => rw [hb] at h1; exact (qfq h1).elim
    | false => rw [hb] at h1; exact ⟨v, a.eval x, _, _, fun _ => hv, by simp [ofBad, hb], hs1, h1⟩
  obtain ⟨vl, ul, s2, r2, hl, el, hs2, h2⟩ := opt hs1 h1;obtain ⟨vh, uh, s3, r3, hh, eh, hs3, h3⟩ := opt hs2 h2;obtain ⟨vm, um, s4, r4, hm, em, hs4, h4⟩ := opt hs3 h3;refine fin (Out.toR R (slicePM_sim hT R hs4 hf hv hl hh hm h4)) (by simp [execOp, el, eh, em])
 | convert src dst x =>
  simp only [opP] at h
  cases hs1' : lk T src with
  | none => rw [hs1'] at h; exact (qfq h).elim
  | some si =>
   cases ht : lk T dst with
   | none => rw [hs1', ht] at h; exact (qfq h).elim
   | some ti =>
    rw [hs1', ht] at h;simp only at h;obtain ⟨d1, hd1, hk1⟩ := (hT src si hs1').und;obtain ⟨d2, hd2, hk2⟩ := (hT dst ti ht).und;cases hsk : si.kind <;> rw [hsk] at h hk1 <;> cases htk : ti.kind <;> rw [htk] at h hk2 <;> first | exact (qfq h).elim | skip
    obtain ⟨v, s1, r1, hv, hn, hs1, h1⟩ := opnd_inv R h hs
    cases v with
    | s z =>
     cases z with
     | i kk n =>
      have hv : a.eval x = .int kk n := hv;obtain ⟨hw, h2⟩ := test_inv' h1;have hw := inK_iff.1 hw;cases d1 <;> simp [KdOk] at hk1
      cases d2 <;> simp [KdOk] at hk2
      subst hk1; subst hk2
      exact fin (m := convert src dst (a.eval x)) (Out.toR R (out_sc R hs1 h2 (by simp [convert, underlying, hd1, hd2, hv, Conv.intToInt, hw, Sc.val]))) (by simp [execOp])
     | b _ => exact (qfq h1).elim
    | _ => exact (qfq h1).elim
 | nilCheck x =>
  simp only [opP] at h;obtain ⟨v, s1, r1, hv, hn, hs1, h1⟩ := opnd_inv R h hs
  cases v with
  | ptr n o =>
   have hv0 := hv;obtain ⟨b, hb, he⟩ := hv;exact fin (Out.toR R (out_pure R hs1 (m := pure (a.eval x)) h1 (by simp) hv0)) (by simp [execOp, he])
  | ep n row sz i j =>
   have hv0 : VR3 s g (.ep n row sz i j) (a.eval x) := hv
   cases row with
   | none =>
    obtain ⟨b, hb, he⟩ := hv;exact fin (Out.toR R (out_pure R hs1 (m := pure (a.eval x)) h1 (by simp) hv0)) (by simp [execOp, he])
   | some rv =>
    obtain ⟨rr, ver⟩ := rv;obtain ⟨own', sz', rows, holes, log, fl, s2, r2, he, _, _, _, hh, hlg, hr, hs2, h2⟩ := rowOf_inv R h1 hs1;obtain ⟨_, hv⟩ := hv;obtain ⟨b, hb, he⟩ := hv fl.length sz' ⟨own', rows, holes, log, fl, he, hh, hlg, hr, rfl⟩;exact fin (Out.toR R (out_pure R hs2 (m := pure (a.eval x)) h2 (by simp) hv0)) (by simp [execOp, he])
  | _ => exact (qfq h1).elim
 | makeMap t rsv =>
  cases rsv with
  | none =>
   simp only [opP] at h
   cases hi : isFmap T t with
   | true => rw [hi] at h; exact fin (Out.toR R (fmake_sim hT R hs hf hi h)) (by simp [execOp])
   | false => rw [hi] at h; exact fin (Out.toR R (makeMap_sim hT R hs hf h)) (by simp [execOp])
  | some _ => exact (qfq h).elim
 | mapUpdate t m k v =>
  simp only [opP] at h;obtain ⟨v1, s1, r1, hv1, hn1, hs1, h1⟩ := opnd_inv R h hs;obtain ⟨v2, s2, r2, hv2, hn2, hs2, h2⟩ := opnd_inv R h1 hs1;obtain ⟨v3, s3, r3, hv3, hn3, hs3, h3⟩ := opnd_inv R h2 hs2;obtain ⟨w', g', hm, hb, hdid, hnn⟩ : ∃ w' g', (Instr.mapUpdate t (a.eval m) (a.eval k) (a.eval v)).run P w = .ok () w' /\ r.2.1 = .bad /\ (∀ u, Did Mn s g w (InR fresh) r.2.1 r.2.2 u w' g') /\ ∀ n ∈ names3 r.2.1 ++ namesW r.2.2, Mn n \/ InR fresh n := by
   cases hi : isFmap T t with
   | true => rw [hi] at h3; exact fupdate_sim hT R hs3 hi hv1 hv2 hv3 h3
   | false => rw [hi] at h3; exact mapUpdate_sim hT R hs3 hv1 hv2 hv3 h3
  unfold Oper.wp;simp only [execOp, Sem.run_bind, hm, Result.andThen_ok, Sem.run_pure, Oper.upon];exact hK _ _ _ (Did.rel R (hdid undef) hd (fun _ => rfl) hnn)
 | lookup t m k ok =>
  cases ok with
  | true =>
   simp only [opP] at h;obtain ⟨v1, s1, r1, hv1, hn1, hs1, h1⟩ := opnd_inv R h hs;obtain ⟨v2, s2, r2, hv2, hn2, hs2, h2⟩ := opnd_inv R h1 hs1;exact fin (Out.toR R (lookup2_sim hT R hs2 hv1 hv2 h2)) (by simp [execOp])
  | false =>
   simp only [opP] at h;obtain ⟨v1, s1, r1, hv1, hn1, hs1, h1⟩ := opnd_inv R h hs;obtain ⟨v2, s2, r2, hv2, hn2, hs2, h2⟩ := opnd_inv R h1 hs1
   cases hi : isFmap T t with
   | true => rw [hi] at h2; exact fin (Out.toR R (flookup_sim hT R hs2 hf hi hv1 hv2 h2)) (by simp [execOp])
   | false => rw [hi] at h2; exact fin (Out.toR R (lookup_sim hT R hs2 hv1 hv2 h2)) (by simp [execOp])
 | makeFunc fn first caps =>
  cases fn with
  | func f =>
   simp only [opP] at h
   cases hf0 : first.toList with
   | cons _ _ => rw [hf0] at h; exact (qfq h).elim
   | nil =>
    rw [hf0] at h;simp only at h;have hfe : first = #[] := by cases first; simp at hf0; subst hf0; rfl
    subst hfe;obtain ⟨vs, s1, r1, hv, hn, hs1, h1⟩ := opnds_inv R hs h
    cases hsol : vs.all solid with
    | false => rw [hsol] at h1; exact (qfq h1).elim
    | true =>
     rw [hsol] at h1;have hvr : VR3 s g (.fn f vs) (.func (.func f) #[] (caps.map a.eval)) := by
      refine ⟨_, rfl, by simpa using hv.1, fun i x y hx hy => ?_⟩;have h3 := hv.2 i x y hx (by simpa using hy);have hso := List.all_eq_true.1 hsol x (qMq hx);cases x <;> first | exact h3 | (simp [solid] at hso)
     exact fin (Out.toR R (out_pure R hs1 (m := pure (.func (.func f) #[] (caps.map a.eval))) h1 (by simp) hvr)) (by simp [execOp, Instr.makeFunc])
  | _ => exact (qfq h).elim
 | call c =>
  obtain ⟨callee, args, argTypes⟩ := c;simp only [opP] at h;split at h
  ·-- len
   rename_i x t hargs hts
   cases ht : lk T t with
   | none => rw [ht] at h; exact (qfq h).elim
   | some ti =>
    rw [ht] at h;simp only at h
    cases hk : ti.kind with
    | slice e =>
     rw [hk] at h;simp only at h;obtain ⟨v, s1, r1, hv, hn, hs1, h1⟩ := opnd_inv R h hs;have hu := (hT t ti ht).run_slice w hk;have hargs' : args = #[x] := by apply Array.ext'; simpa using hargs
     have hts' : argTypes = #[t] := by apply Array.ext'; simpa using hts
     subst hargs'; subst hts'
     cases v with
     | nils =>
      have hv : a.eval x = .slice none 0 0 := hv;exact fin (m := Builtin.len_ #[t] type #[a.eval x]) (Out.toR R (out_sc R hs1 h1 (by simp [Builtin.len_, hu, hv, goInt, Sc.val]))) (by simp [execOp, resolve, invoke, builtin])
     | sl n row sub =>
      have old : ∀ {rd1 : List Nat}, runP s fresh (lenP n row sub fun L _ _ => .ret (.s (.i .i64 L)) []) s1 rd1 = some r -> _ := fun h1 => fin (Out.toR R (len_sim (ty := type) hT R hs1 hu hv h1)) (by simp [execOp, resolve, invoke, builtin])
      cases row with
      | some rv => exact old h1
      | none =>
       cases sub with
       | some q => exact old h1
       | none =>
        obtain ⟨A, len, cap, hev, hsub⟩ := hv;obtain ⟨e, s2, r2, he, _, _, _, hs2, h2⟩ := ent_inv R h1 hs1;have go : ∀ {L sz : Nat}, lenSz s n = some (L, sz) -> runP s fresh (.ret (.s (.i .i64 L)) []) s2 r2 = some r -> _ := fun {L sz} hl h3 => by
         obtain ⟨_, e2, _⟩ := hsub _ _ hl;exact fin (m := Builtin.len_ #[t] type #[a.eval x]) (Out.toR R (out_sc R hs2 h3 (by simp [Builtin.len_, hu, hev, e2, goInt, Sc.val]))) (by simp [execOp, resolve, invoke, builtin])
        cases e with
        | flat own sz rows => exact go (L := rows.length) (sz := sz) (by simp [lenSz, he]) h2
        | nest own sz rows holes log => exact go (L := rows.length) (sz := 1) (by simp [lenSz, he]) h2
        | fnest own sz rows => exact go (L := rows.length) (sz := 1) (by simp [lenSz, he]) h2
        | was L sz => exact go (L := L) (sz := sz) (by simp [lenSz, he]) h2
        | _ => exact (qfq h2).elim
     | _ => exact (qfq h1).elim
    | _ => rw [hk] at h; exact (qfq h).elim
  ·-- append
   rename_i x y t t' hargs hts;obtain ⟨hb, h0⟩ := bif_inv h;have hb := qBq hb;subst hb;obtain ⟨v, s1, r1, hv, hn, hs1, h1⟩ := opnd_inv R h0 hs;obtain ⟨v2, s2, r2, hv2, hn2, hs2, h2⟩ := opnd_inv R h1 hs1;have hargs' : args = #[x, y] := by apply Array.ext'; simpa using hargs
   have hts' : argTypes = #[t, t] := by apply Array.ext'; simpa using hts
   subst hargs'; subst hts'
   unfold appendP at h2
   cases ht : lk T t with
   | none => rw [ht] at h2; exact (qfq h2).elim
   | some ti =>
    rw [ht] at h2;simp only at h2
    cases hk : ti.kind with
    | slice e =>
     rw [hk] at h2;simp only at h2
     cases he : lk T e with
     | none => rw [he] at h2; exact (qfq h2).elim
     | some ei =>
      rw [he] at h2;simp only at h2;have hflat : runP s fresh (appendFlat ei.size fresh v v2) s2 r2 = some r -> Oper.wp P ⟨dst, .call ⟨.builtin .append, #[x, y], #[t, t]⟩, type, pos, after, guard⟩ a w K Q := fun h3 =>
       fin (append_flat hT R hs2 hf ht hk he type hv hv2 h3) (by simp [execOp, resolve, invoke, builtin])
      cases hk2 : ei.kind with
      | slice e2 =>
       rw [hk2] at h2;simp only at h2;obtain ⟨hb, h3⟩ := bif_inv h2;exact fin (append_nest hT R hs2 hf ht hk he (qBq hb) type hv hv2 h3) (by simp [execOp, resolve, invoke, builtin])
      | _ => rw [hk2] at h2; exact hflat h2
    | _ => rw [hk] at h2; exact (qfq h2).elim
  ·-- copy
   rename_i x y t t' hargs hts;obtain ⟨hb, h0⟩ := bif_inv h;have hb := qBq hb;subst hb;obtain ⟨v, s1, r1, hv, hn, hs1, h1⟩ := opnd_inv R h0 hs;obtain ⟨v2, s2, r2, hv2, hn2, hs2, h2⟩ := opnd_inv R h1 hs1;have hargs' : args = #[x, y] := by apply Array.ext'; simpa using hargs
   have hts' : argTypes = #[t, t] := by apply Array.ext'; simpa using hts
   subst hargs'; subst hts'
   exact fin (Out.toR R (copy_sim (ty := type) hT R hs2 hv hv2 h2)) (by simp [execOp, resolve, invoke, builtin])
  ·-- clear
   rename_i x t hargs hts;obtain ⟨v, s1, r1, hv, hn, hs1, h1⟩ := opnd_inv R h hs;have hargs' : args = #[x] := by apply Array.ext'; simpa using hargs
   have hts' : argTypes = #[t] := by apply Array.ext'; simpa using hts
   subst hargs'; subst hts'
   exact fin (Out.toR R (clear_sim (ty := type) hT R hs1 hv h1)) (by simp [execOp, resolve, invoke, builtin])
  ·-- min
   rename_i x xs hargs;obtain ⟨v, s1, r1, hv, hn, hs1, h1⟩ := opnd_inv R h hs;have hargs : args.toList = x :: xs := hargs
   cases v with
   | s z =>
    cases z with
    | i kd n =>
     have hv : a.eval x = .int kd n := hv;obtain ⟨m, s2, r2, hm, hs2, h2⟩ := mnmx_inv R false kd hs1 h1;simp only [cond_false] at hm;refine fin (m := Builtin.min_ argTypes type (args.map a.eval)) (Out.toR R (out_sc R hs2 h2 ?_)) (by simp [execOp, resolve, invoke, builtin]);simp [Builtin.min_, hargs, hv, Sc.val]; exact hm
    | b _ => exact (qfq h1).elim
   | _ => exact (qfq h1).elim
  ·-- max
   rename_i x xs hargs;obtain ⟨v, s1, r1, hv, hn, hs1, h1⟩ := opnd_inv R h hs;have hargs : args.toList = x :: xs := hargs
   cases v with
   | s z =>
    cases z with
    | i kd n =>
     have hv : a.eval x = .int kd n := hv;obtain ⟨m, s2, r2, hm, hs2, h2⟩ := mnmx_inv R true kd hs1 h1;simp only [cond_true] at hm;refine fin (m := Builtin.max_ argTypes type (args.map a.eval)) (Out.toR R (out_sc R hs2 h2 ?_)) (by simp [execOp, resolve, invoke, builtin]);simp [Builtin.max_, hargs, hv, Sc.val]; exact hm
    | b _ => exact (qfq h1).elim
   | _ => exact (qfq h1).elim
  ·-- a function
   rename_i f
   cases hl : lk Γ f with
   | none => rw [hl] at h; exact (qfq h).elim
   | some con =>
    rw [hl] at h;simp only at h;obtain ⟨vs, s1, r1, hvs, hn, hs1, h1⟩ := opnds_inv R hs h;obtain ⟨⟨fn, hfn, hname, hbody⟩, hcall⟩ := hΓ f con hl;have hc := hcall Mn O0 w0 w nt s g a fresh s1 r1 r _ vs (args.map a.eval) R hs1 hf (by simpa using hvs) hn h1;unfold Oper.wp;have he : (execOp a.eval ⟨dst, .call ⟨.value (.func f), args, argTypes⟩, type, pos, after, guard⟩).run P w = .ok (.enter f (args.map a.eval)) w := by
     simp [execOp, resolve, invoke, Deferred.ofValue, callFunc, Act.eval, hfn, hname, hbody]
    rw [he];simp only [Oper.upon];refine Calls.mono hc ?_;rintro e w'' ⟨u, g', rfl, hR⟩;exact hK _ _ _ (hR _ hd)
  ·-- a closure
   rename_i t;obtain ⟨hb, h0⟩ := bif_inv h
   clear h
   obtain ⟨v, u, s0, r0, _, hu, hv, hn0, hs0, h1⟩ := slot_inv R h0 hs;rw [slotAt_lt (by simpa [Nat.blt_eq] using hb)] at hu
   cases v with
   | fn f caps =>
    simp only at h1
    cases hl : lk Γ f with
    | none => rw [hl] at h1; exact (qfq h1).elim
    | some con =>
     rw [hl] at h1;simp only at h1;obtain ⟨hrec, h2⟩ := bif_inv h1;obtain ⟨vs, s1, r1, hvs, hn, hs1, h3⟩ := opnds_inv R hs0 h2;obtain ⟨⟨fn, hfn, hname, hbody⟩, hcall⟩ := hΓ f con hl;obtain ⟨cs, hcu, hcs⟩ := hv;have hcw : callWith T fresh con [] (vs ++ caps) = recP fresh con (vs ++ caps) := by
      simp only [Bool.and_eq_true, Bool.not_eq_true'] at hrec;have hro : con.ro = [false, false] := by
       revert hrec
       cases con.ro with
       | nil => simp [isRec]
       | cons a l => cases l with
        | nil => cases a <;> simp [isRec]
        | cons b l => cases l with
         | nil => cases a <;> cases b <;> simp [isRec]
         | cons _ _ => cases a <;> cases b <;> simp [isRec]
      simp [callWith, hro, hrec.2, isRec]
     have hc := hcall Mn O0 w0 w nt s g a fresh s1 r1 r [] (vs ++ caps) (args.map a.eval ++ cs) R hs1 hf (by
      rw [Array.toList_append];have h1' : All2 (VR3 s g) vs (args.map a.eval).toList := by simpa using hvs
      refine ⟨by simp only [List.length_append, h1'.1, hcs.1], fun i x y hx hy => ?_⟩;have hl : vs.length = (args.map a.eval).toList.length := h1'.1;rcases Nat.lt_or_ge i vs.length with hi | hi
      ·rw [qLq hi] at hx;rw [qLq (by omega)] at hy;exact h1'.2 i x y hx hy
      ·rw [qRq hi] at hx;rw [qRq (by omega), <- hl] at hy;exact VR3.one (hcs.2 _ x y hx hy)) (by
      intro n hn';rw [List.flatMap_append, List.mem_append] at hn';rcases hn' with hn' | hn'
      ·exact hn n hn'
      ·refine hn0 n ?_;have : ∀ l : List SV, (∀ (i : Nat) (z : SV), l[i]? = some z -> ∃ z' : Value, VR1 s g z z') -> n ∈ l.flatMap names3 -> n ∈ namesL1 l := by
        intro l
        induction l with
        | nil => intro _ h; simp at h
        | cons z l ih =>
         intro hz h;simp only [List.flatMap_cons, List.mem_append] at h;simp only [namesL1, List.mem_append];rcases h with h | h
         ·obtain ⟨z', hz'⟩ := hz 0 z rfl
          left
          cases z <;> first | exact h | exact hz'.elim
         ·exact .inr (ih (fun i z h => hz (i + 1) z h) h)
       exact this caps (fun i z hz => by
        have hi : i < cs.toList.length := by rw [<- hcs.1]; exact (qSq.1 hz).1
        exact ⟨_, hcs.2 i z _ hz (qEq hi)⟩) hn') (by rw [hcw]; exact h3)
     unfold Oper.wp;have he : (execOp a.eval ⟨dst, .call ⟨.value (.tmp t), args, argTypes⟩, type, pos, after, guard⟩).run P w = .ok (.enter f (args.map a.eval ++ cs)) w := by
      obtain ⟨c, hc'⟩ := Option.ne_none_iff_exists'.1 hbody;simp [execOp, resolve, invoke, Deferred.ofValue, callFunc, Act.eval, Array.getD_eq_getD_getElem?, hu, hcu, hfn, hname, hc']
     rw [he];simp only [Oper.upon];refine Calls.mono hc ?_;rintro e w'' ⟨u, g', rfl, hR⟩;exact hK _ _ _ (hR _ hd)
   | _ => exact (qfq h1).elim
  ·exact (qfq h).elim
 | _ => exact (qfq h).elim
end
end Go.Sh
namespace Go.Sh
variable [Fwd]
section
variable {P : Program} {X : Cx} {Mn O0 : Nat -> Prop} {w0 : Base} {w : World} {nt : Nat} {s s1 : S} {g : G} {a : Act} {fresh nx i : Nat} {l : List Nat × List Nat}
theorem wanted_none {o : Oper} {y : Nat -> Option Bool} (h : o.guard = none) : Region.wanted o y = true := by simp [Region.wanted, h]
theorem wanted_some {o : Oper} {y : Nat -> Option Bool} {j : Nat} {want : Bool} (h : o.guard = some (j, want)) : Region.wanted o y = (y j == some want) := by simp [Region.wanted, h]
theorem opRun_sim (hT : TabOk P X.T) (hΓ : Sound P X.T X.Γ) (R : Rel Mn O0 w0 X.nt s g a w) (hf : ∀ m, InR (nx + 16 * i) m -> ¬ Mn m) {ops : Array Oper} (h : opRun X nx ops.toList i s = some (l, s1)) {K : Act -> World -> Prop} {Q : Exit -> Act -> World -> Prop}
  (hK : ∀ g' a' w', Rel (fun n => Mn n \/ InR (nx + 16 * i) n) O0 w0 X.nt s1 g' a' w' -> K a' w') : wpOp P ops Q i K a w := by
 unfold opRun at h
 unfold wpOp
 cases ho : ops[i]? with
 | none => have : ops.toList[i]? = none := by simpa using ho
           rw [this] at h; simp at h
 | some o =>
  have : ops.toList[i]? = some o := by simpa using ho
  rw [this] at h;simp only at h ⊢;have hgo : ∀ rd0, opGo X o (nx + 16 * i) s rd0 = some (l, s1) -> o.wp P a w K Q := by
   intro rd0 h;unfold opGo at h
   cases hr : runP s (nx + 16 * i) (opP X.Γ X.T (nx + 16 * i) o.op) [] rd0 with
   | none => rw [hr] at h; simp at h
   | some r =>
    obtain ⟨rd, v, ws⟩ := r;rw [hr] at h;simp only at h;split at h
    ·rename_i hd;simp only [Option.some.injEq, Prod.mk.injEq] at h;obtain ⟨_, rfl⟩ := h;exact op_sim hT hΓ R hf hd hr hK
    ·simp at h
  have hskip : ∀ rd0, opSkip X o s rd0 = some (l, s1) -> K (a.put o.dst undef) w := by
   intro rd0 h;unfold opSkip at h;split at h
   ·rename_i hd;simp only [Option.some.injEq, Prod.mk.injEq] at h;obtain ⟨_, rfl⟩ := h;exact hK g _ _ ((R.put_pure (v := .und) (u := undef) hd (fun n hn => by simp [names3, names2, names1] at hn) (fun _ => (rfl : undef = undef))).wider (fun n h => .inl h))
   ·simp at h
  cases hg : o.guard with
  | none =>
   rw [hg] at h;rw [if_pos (wanted_none hg)];exact .inl (hgo _ h)
  | some jw =>
   obtain ⟨j, want⟩ := jw;rw [hg] at h;simp only at h
   cases hd : dstOf ops.toList j with
   | none => rw [hd] at h; simp at h
   | some gs =>
    rw [hd] at h;simp only at h;have hdst : (ops[j]?).bind (·.dst) = some gs := by
     simp only [dstOf, nth_get] at hd;rw [<- Array.getElem?_toList]
     cases hq : ops.toList[j]? with
     | none => rw [hq] at hd; simp at hd
     | some q => rw [hq] at hd; simpa using hd
    rw [wanted_some hg]
    cases hv : fsT s gs with
    | none => rw [hv] at h; simp at h
    | some x =>
     rw [hv] at h;have hlt : gs < 1000000 := by
      rcases Nat.lt_or_ge gs 1000000 with h | h
      ·exact h
      ·unfold fsT at hv; rw [if_neg (Nat.not_lt.2 h)] at hv; simp at hv
     obtain ⟨u, hu, hr⟩ := R.slots gs x (by unfold fsT at hv; rw [if_pos hlt] at hv; exact hv);rw [slotAt_lt hlt] at hu
     cases x with
     | s c =>
      cases c with
      | i => simp at h
      | b c =>
       have hr : u = .bool c := hr;subst hr;have hy : yielded ops a.tmps j = some c := by simp [yielded, hdst, hu]
       simp only at h;rw [hy];split at h
       ·rename_i hc; subst hc; simp; exact .inl (hgo _ h)
       ·rename_i hc; rw [if_neg (by simpa using hc)]; exact hskip _ h
     | und =>
      have hr : u = undef := hr;subst hr;have hy : yielded ops a.tmps j = none := by simp [yielded, hdst, hu, undef]
      rw [hy];simp only at h;simp only [show ((none : Option Bool) == some want) = false from rfl, Bool.false_eq_true, if_false];exact hskip _ h
     | _ => simp at h
theorem toS_put (sl : Sl) (en : En) (d : Option Nat) (v : SV) (ws : Ws) : toS (match d with | some d => (d, v) :: sl | none => sl) (ws ++ en) = (toS sl en).put d v ws := by
 have hw : ∀ ws : Ws, (fun n => (lk (ws ++ en) n).join) = ((toS sl en).putW ws).fe := by
  intro ws
  induction ws with
  | nil => rfl
  | cons p q ih =>
   obtain ⟨n, e⟩ := p
   funext m
   simp only [List.cons_append, lk, S.putW, S.setE];by_cases hm : m = n
   ·subst hm; simp
   ·rw [if_neg hm]
    have : Nat.beq n m = false := by cases hb : Nat.beq n m with
     | false => rfl
     | true => exact absurd (qBq hb).symm hm
    rw [this, cond_false];exact congrFun ih m
 cases d with
 | none =>
  simp only [S.put];exact S.ext' (fun t => by rw [putW_fs]; rfl) (fun n => congrFun (hw ws) n)
 | some d =>
  simp only [S.put];refine S.ext' (fun t => ?_) (fun n => congrFun (hw ws) n);simp only [S.setS, putW_fs, toS, lk];by_cases ht : t = d
  ·subst ht; simp
  ·rw [if_neg ht]
   have : Nat.beq d t = false := by cases hb : Nat.beq d t with
    | false => rfl
    | true => exact absurd (qBq hb).symm ht
   rw [this]; rfl
theorem pushW_eq (ws : Ws) (en : En) (K : En -> Prop) : pushW ws en K -> K (ws ++ en) := by
 induction ws generalizing K with
 | nil => exact id
 | cons p q ih => obtain ⟨n, e⟩ := p; intro h; exact ih (fun en' => K ((n, e) :: en')) h
theorem toS_same {sl : Sl} {en : En} {t : Nat} {v : SV} (h : lk sl t = some v) : toS ((t, v) :: sl) en = toS sl en := by
 refine S.ext' (fun u => ?_) (fun _ => rfl)
 simp only [toS, lk]
 cases hb : Nat.beq t u with
 | false => rfl
 | true => have := qBq hb; subst this; simp [h]
theorem goP_run {o : Oper} {sl : Sl} {en : En} {rd0 : List Nat} {log : Log} {K : Sl -> En -> Log -> Prop} (h : goP X o fresh sl en rd0 log K) :
  ∃ l sl' en', opGo X o fresh (toS sl en) rd0 = some (l, toS sl' en') /\ K sl' en' (l :: log) := by
 unfold goP at h
 obtain ⟨rd', v, ws, hr, hq⟩ := wpP_run _ h
 unfold opGo
 rw [hr]
 simp only
 cases hd : o.dst with
 | none =>
  rw [hd] at hq;simp only at hq;have hq := pushW_eq _ _ _ hq;refine ⟨(rd', keysW ws), sl, ws ++ en, ?_, hq⟩;rw [if_pos (by intro t h; simp at h)];simp only [dk, List.nil_append, Option.some.injEq, Prod.mk.injEq, true_and];exact (toS_put sl en none v ws).symm
 | some d =>
  rw [hd] at hq;simp only at hq
  cases hb : Nat.blt d X.nt with
  | false => rw [hb] at hq; exact hq.elim
  | true =>
   rw [hb] at hq;have hq := pushW_eq _ _ _ hq;refine ⟨(rd', (2 * d) :: keysW ws), (d, v) :: sl, ws ++ en, ?_, hq⟩;rw [if_pos (by intro t h; injection h with h; subst h; simpa [Nat.blt_eq] using hb)];simp only [dk, List.cons_append, List.nil_append, Option.some.injEq, Prod.mk.injEq, true_and];exact (toS_put sl en (some d) v ws).symm
theorem skipP_run {o : Oper} {sl : Sl} {en : En} {rd0 : List Nat} {log : Log} {K : Sl -> En -> Log -> Prop} (h : skipP X o sl en rd0 log K) :
  ∃ l sl' en', opSkip X o (toS sl en) rd0 = some (l, toS sl' en') /\ K sl' en' (l :: log) := by
 unfold skipP at h
 unfold opSkip
 cases hd : o.dst with
 | none =>
  rw [hd] at h;refine ⟨(rd0, []), sl, en, ?_, h⟩;rw [if_pos (by intro t h; simp at h)]
  rfl
 | some d =>
  rw [hd] at h;simp only at h
  cases hb : Nat.blt d X.nt with
  | false => rw [hb] at h; exact h.elim
  | true =>
   rw [hb] at h;refine ⟨(rd0, [2 * d]), (d, .und) :: sl, en, ?_, h⟩;rw [if_pos (by intro t h; injection h with h; subst h; simpa [Nat.blt_eq] using hb)];simp only [dk, Option.some.injEq, Prod.mk.injEq, true_and];exact (toS_put sl en (some d) .und []).symm
theorem wpOps_runs {all : List Oper} {Q : Sl -> En -> Log -> Prop} {post : List Oper} : ∀ (l pre : List Oper) (sl : Sl) (en : En) (log : Log), all = pre ++ (l ++ post) -> wpOps X nx all l pre.length sl en log Q ->
  ∃ (L : Nat -> List Nat × List Nat) (sl' : Sl) (en' : En), Runs X nx all L (List.range' pre.length l.length) (toS sl en) (toS sl' en') /\ Q sl' en' (((List.range' pre.length l.length).map L).reverse ++ log) := by
 intro l
 induction l with
 | nil => intro pre sl en log _ h; exact ⟨fun _ => ([], []), sl, en, rfl, h⟩
 | cons o r ih =>
  intro pre sl en log hall h;have hat : all[pre.length]? = some o := by rw [hall]; simp
  have next : ∀ (sl1 : Sl) (en1 : En) (x : List Nat × List Nat), opRun X nx all pre.length (toS sl en) = some (x, toS sl1 en1) -> wpOps X nx all r (pre.length + 1) sl1 en1 (x :: log) Q ->
    ∃ (L : Nat -> List Nat × List Nat) (sl' : Sl) (en' : En), Runs X nx all L (List.range' pre.length (o :: r).length) (toS sl en) (toS sl' en') /\ Q sl' en' (((List.range' pre.length (o :: r).length).map L).reverse ++ log) := by
   intro sl1 en1 x hx hq;obtain ⟨L, sl', en', h1, h2⟩ := ih (pre ++ [o]) sl1 en1 (x :: log) (by simp [hall]) (by simpa using hq);simp only [List.length_append, List.length_cons, List.length_nil, Nat.zero_add] at h1 h2;have hne : ∀ y ∈ List.range' (pre.length + 1) r.length, (if y = pre.length then x else L y) = L y := fun y hy => by
    rw [if_neg]; have := (List.mem_range'_1.1 hy).1; omega
   refine ⟨fun y => if y = pre.length then x else L y, sl', en', ?_, ?_⟩
   ·simp only [List.length_cons, List.range'_succ];refine ⟨_, by simpa using hx, ?_⟩;have : ∀ (l : List Nat) (s s' : S), (∀ y ∈ l, (if y = pre.length then x else L y) = L y) -> Runs X nx all L l s s' -> Runs X nx all (fun y => if y = pre.length then x else L y) l s s' := by
     intro l
     induction l with
     | nil => intro s s' _ h; exact h
     | cons z zs ihz => intro s s' hh ⟨s1, k1, k2⟩; exact ⟨s1, by show opRun X nx all z s = some ((if z = pre.length then x else L z), s1); rw [hh z (by simp)]; exact k1, ihz _ _ (fun y hy => hh y (List.mem_cons_of_mem _ hy)) k2⟩
    exact this _ _ _ hne h1
   ·simp only [List.length_cons, List.range'_succ, List.map_cons, List.reverse_cons, List.append_assoc, List.singleton_append, if_true];rw [List.map_congr_left hne];exact h2
  unfold wpOps at h
  cases hg : o.guard with
  | none =>
   rw [hg] at h;obtain ⟨x, sl1, en1, h1, h2⟩ := goP_run h;exact next sl1 en1 x (by simp only [opRun, hat, hg]; exact h1) h2
  | some jw =>
   obtain ⟨j, want⟩ := jw;rw [hg] at h;simp only at h
   cases hd : dstOf all j with
   | none => rw [hd] at h; exact h.elim
   | some gs =>
    rw [hd] at h;simp only [lkT] at h
    cases hb : Nat.blt gs 1000000 with
    | false => rw [hb] at h; exact h.elim
    | true =>
    rw [hb] at h;have hlt : gs < 1000000 := by simpa [Nat.blt_eq] using hb
    simp only [cond_true] at h
    cases hv : lk sl gs with
    | none => rw [hv] at h; exact h.elim
    | some z =>
     rw [hv] at h
     cases z with
     | s c =>
      cases c with
      | i => exact h.elim
      | b c =>
       simp only [Pick] at h;cases c <;> cases want <;> simp only [cond_true, cond_false] at h
       ·obtain ⟨x, sl1, en1, h1, h2⟩ := goP_run h;rw [toS_same hv] at h1;exact next sl1 en1 x (by simp only [opRun, hat, hg, hd]; rw [show fsT (toS sl en) gs = _ from (if_pos hlt).trans hv]; simpa using h1) h2
       ·obtain ⟨x, sl1, en1, h1, h2⟩ := skipP_run h;rw [toS_same hv] at h1;exact next sl1 en1 x (by simp only [opRun, hat, hg, hd]; rw [show fsT (toS sl en) gs = _ from (if_pos hlt).trans hv]; simpa using h1) h2
       ·obtain ⟨x, sl1, en1, h1, h2⟩ := skipP_run h;rw [toS_same hv] at h1;exact next sl1 en1 x (by simp only [opRun, hat, hg, hd]; rw [show fsT (toS sl en) gs = _ from (if_pos hlt).trans hv]; simpa using h1) h2
       ·obtain ⟨x, sl1, en1, h1, h2⟩ := goP_run h;rw [toS_same hv] at h1;exact next sl1 en1 x (by simp only [opRun, hat, hg, hd]; rw [show fsT (toS sl en) gs = _ from (if_pos hlt).trans hv]; simpa using h1) h2
     | und =>
      simp only at h;obtain ⟨x, sl1, en1, h1, h2⟩ := skipP_run h;exact next sl1 en1 x (by simp only [opRun, hat, hg, hd]; rw [show fsT (toS sl en) gs = _ from (if_pos hlt).trans hv]; exact h1) h2
     | _ => exact h.elim
end
end Go.Sh
namespace Go.Sh
variable [Fwd]
def ancStep (acc : List Nat) (o : Oper) : Nat := o.after.toList.foldl (fun s e => bif Region.binds .any e then s ||| 2 ^ e.on ||| acc.getD e.on 0 else s) 0
theorem fold_bit (acc : List Nat) (k : Nat) : ∀ (l : List Edge) (s0 : Nat), (l.foldl (fun s e => bif Region.binds .any e then s ||| 2 ^ e.on ||| acc.getD e.on 0 else s) s0).testBit k = true ->
  s0.testBit k = true \/ ∃ e ∈ l, Region.binds .any e = true /\ (k = e.on \/ (acc.getD e.on 0).testBit k = true) := by
 intro l
 induction l with
 | nil => intro s0 h; exact .inl h
 | cons e l ih =>
  intro s0 h;simp only [List.foldl_cons] at h;rcases ih _ h with h | ⟨e', h1, h2⟩
  ·cases hb : Region.binds .any e with
   | false => rw [hb] at h; exact .inl h
   | true =>
    rw [hb] at h;simp only [cond_true, Nat.testBit_or, Bool.or_eq_true, Nat.testBit_two_pow] at h;rcases h with (h | h) | h
    ·exact .inl h
    ·exact .inr ⟨e, by simp, hb, .inl (by simpa using (of_decide_eq_true h).symm)⟩
    ·exact .inr ⟨e, by simp, hb, .inr h⟩
  ·exact .inr ⟨e', List.mem_cons_of_mem _ h1, h2⟩
theorem anc_pre : ∀ (l : List Oper) (acc : List Nat), ∃ m, anc l acc = acc ++ m := by
 intro l
 induction l with
 | nil => intro acc; exact ⟨[], by simp [anc]⟩
 | cons o r ih =>
  intro acc;simp only [anc];obtain ⟨m, hm⟩ := ih (acc ++ [ancStep acc o]);exact ⟨ancStep acc o :: m, by rw [show o.after.toList.foldl (fun s e => bif Region.binds .any e then s ||| 2 ^ e.on ||| acc.getD e.on 0 else s) 0 = ancStep acc o from rfl, hm]; simp⟩
theorem anc_at : ∀ (l : List Oper) (acc : List Nat) (t : Nat) (o : Oper), l[t]? = some o ->
  ∃ acc', acc'.length = acc.length + t /\ (∀ j, j < acc'.length -> (anc l acc).getD j 0 = acc'.getD j 0) /\ (anc l acc).getD (acc.length + t) 0 = ancStep acc' o := by
 intro l
 induction l with
 | nil => intro acc t o h; simp at h
 | cons x r ih =>
  intro acc t o h;have hstep : anc (x :: r) acc = anc r (acc ++ [ancStep acc x]) := rfl
  cases t with
  | zero =>
   simp at h;subst h;obtain ⟨m, hm⟩ := anc_pre r (acc ++ [ancStep acc x]);refine ⟨acc, by simp, fun j hj => ?_, ?_⟩
   ·rw [hstep, hm, qDq, qDq, List.append_assoc, qLq hj]
   ·rw [hstep, hm, qDq];simp
  | succ t =>
   obtain ⟨acc', h1, h2, h3⟩ := ih (acc ++ [ancStep acc x]) t o (by simpa using h);simp only [List.length_append, List.length_cons, List.length_nil, Nat.zero_add] at h1 h3;exact ⟨acc', by omega, by rw [hstep]; exact h2, by rw [hstep, show acc.length + (t + 1) = acc.length + 1 + t by omega]; exact h3⟩
structure Order (ops : List Oper) (lo hi : Nat) (L : Nat -> List Nat × List Nat) : Prop where
 back : ∀ i o, ops[i]? = some o -> ∀ e ∈ o.after.toList, Region.binds .any e = true -> e.on < i
 free : ∀ i k, i < hi -> lo <= k -> k < i -> ((anc ops []).getD i 0).testBit k = true \/ Free L k i
 bar : hi < ops.length -> ∀ i, (i < hi -> ((anc ops []).getD hi 0).testBit i = true) /\ (hi < i -> i < ops.length -> ((anc ops []).getD i 0).testBit hi = true)
theorem back_of {ops : List Oper} (h : okBack ops = true) : ∀ i o, ops[i]? = some o -> ∀ e ∈ o.after.toList, Region.binds .any e = true -> e.on < i := by
 intro i o ho e he hb
 unfold okBack at h
 simp only [List.all_eq_true, List.mem_range] at h
 have hi : i < ops.length := (qSq.1 ho).1
 have := h i hi
 rw [ho] at this
 simp only [List.all_eq_true] at this
 have := this e he
 rw [hb] at this
 simpa using this
theorem forceN_eq {α : Type} (n : Nat) (k : Nat -> α) : forceN n k = k n := by cases n <;> rfl
theorem forceL_eq {α : Type} : ∀ (l : List Nat) (k : List Nat -> α), forceL l k = k l := by
 intro l
 induction l with
 | nil => intro k; rfl
 | cons n r ih => intro k; simp only [forceL, forceN_eq, ih]
theorem forceG_eq {α : Type} : ∀ (l : List (List Nat × List Nat)) (k : List (List Nat × List Nat) -> α), forceG l k = k l := by
 intro l
 induction l with
 | nil => intro k; rfl
 | cons n r ih => intro k; obtain ⟨x, y⟩ := n; simp only [forceG, forceL_eq, ih]
theorem ancF_eq {α : Type} : ∀ (l : List Oper) (acc : List Nat) (k : List Nat -> α), ancF l acc k = k (anc l acc) := by
 intro l
 induction l with
 | nil => intro acc k; rfl
 | cons o r ih => intro acc k; simp only [ancF, forceN_eq, ih, anc]
theorem memF_false {x : Nat} : ∀ {b : List Nat}, memF x b = false -> x ∉ b := by
 intro b
 induction b with
 | nil => intro _ h; simp at h
 | cons y r ih =>
  intro h hx;simp only [memF, Bool.or_eq_false_iff] at h;rcases List.mem_cons.1 hx with e | e
  ·subst e; rw [Nat.beq_refl] at h; simp at h
  ·exact ih h.2 e
theorem meetsF_false {a b : List Nat} (h : meetsF a b = false) : Apart a b := by
 induction a with
 | nil => intro x hx; simp at hx
 | cons y r ih =>
  simp only [meetsF, Bool.or_eq_false_iff] at h;intro x hx hb;rcases List.mem_cons.1 hx with e | e
  ·subst e; exact memF_false h.1 hb
  ·exact ih h.2 x e hb
theorem chk1_at {a : Nat} {x : List Nat × List Nat} : ∀ {k : Nat} {l : List (List Nat × List Nat)}, chk1 a x k l = true -> ∀ (j : Nat) (y : List Nat × List Nat), l[j]? = some y -> a.testBit (k + j) = true \/ clashF y x = false := by
 intro k l
 induction l generalizing k with
 | nil => intro _ j y h; simp at h
 | cons z r ih =>
  intro h j y hy;simp only [chk1, Bool.and_eq_true, Bool.or_eq_true, Bool.not_eq_true'] at h
  cases j with
  | zero => simp at hy; subst hy; exact h.1
  | succ j => rw [show k + (j + 1) = k + 1 + j by omega]; exact ih h.2 j y (by simpa using hy)
theorem chkG_at {lo : Nat} : ∀ {an : List Nat} {prev l : List (List Nat × List Nat)}, chkG lo an prev l = true -> ∀ (i : Nat) (x : List Nat × List Nat), l[i]? = some x -> ∃ a, an[i]? = some a /\ chk1 a x lo (prev ++ l.take i) = true := by
 intro an prev l
 induction l generalizing an prev with
 | nil => intro _ i x h; simp at h
 | cons z r ih =>
  intro h i x hx
  cases an with
  | nil => simp [chkG] at h
  | cons a an =>
   simp only [chkG, Bool.and_eq_true] at h
   cases i with
   | zero => simp at hx; subst hx; exact ⟨a, rfl, by simpa using h.1⟩
   | succ i =>
    obtain ⟨a', h1, h2⟩ := ih h.2 i x (by simpa using hx);exact ⟨a', by simpa using h1, by simpa using h2⟩
theorem free_of {ops : List Oper} {L : Nat -> List Nat × List Nat} {lo n : Nat} (h : okSeg ops lo ((List.range' lo n).map L) = true) :
  ∀ i k, i < lo + n -> lo <= k -> k < i -> ((anc ops []).getD i 0).testBit k = true \/ Free L k i := by
 intro i k hi hlo hk
 unfold okSeg at h
 rw [ancF_eq, forceG_eq] at h
 obtain ⟨i', rfl⟩ : ∃ i', i = lo + i' := ⟨i - lo, by omega⟩
 obtain ⟨k', rfl⟩ : ∃ k', k = lo + k' := ⟨k - lo, by omega⟩
 have g1 : ((List.range' lo n).map L)[k']? = some (L (lo + k')) := by simp [List.getElem?_range' (show k' < n by omega)]
 have g2 : ((List.range' lo n).map L)[i']? = some (L (lo + i')) := by simp [List.getElem?_range' (show i' < n by omega)]
 obtain ⟨a, h1, h2⟩ := chkG_at h i' _ g2
 have h3 := chk1_at h2 k' (L (lo + k')) (by rw [List.nil_append, List.getElem?_take, if_pos (by omega)]; exact g1)
 rw [List.getElem?_drop] at h1
 have ha : (anc ops []).getD (lo + i') 0 = a := by simp [qDq, h1]
 rw [ha]
 refine h3.imp id (fun h => ?_)
 simp only [clashF, Bool.or_eq_false_iff] at h
 exact ⟨meetsF_false h.1.1, meetsF_false h.1.2, meetsF_false h.2⟩
theorem barG_at {p a : Nat} : ∀ {i : Nat} {l : List Nat}, barG p a i l = true -> ∀ (j b : Nat), l[j]? = some b -> (i + j < p -> a.testBit (i + j) = true) /\ (p < i + j -> b.testBit p = true) := by
 intro i l
 induction l generalizing i with
 | nil => intro _ j b h; simp at h
 | cons c r ih =>
  intro h j b hb;simp only [barG, Bool.and_eq_true] at h
  cases j with
  | zero =>
   simp at hb;subst hb;rw [Nat.add_zero];have h1 := h.1;constructor
   ·intro hi;rw [show Nat.blt i p = true by simpa [Nat.blt_eq] using hi] at h1;simpa using h1
   ·intro hi;have e1 : Nat.blt i p = false := by
     cases hb : Nat.blt i p with
     | false => rfl
     | true => have := (Nat.blt_eq ▸ hb : i < p); omega
    have e2 : Nat.beq i p = false := by
     cases hb : Nat.beq i p with
     | false => rfl
     | true => have := qBq hb; omega
    rw [e1, e2] at h1;simpa using h1
  | succ j => rw [show i + (j + 1) = i + 1 + j by omega]; exact ih h.2 j b (by simpa using hb)
theorem anc_len : ∀ (l : List Oper) (acc : List Nat), (anc l acc).length = acc.length + l.length := by
 intro l
 induction l with
 | nil => intro acc; rfl
 | cons o r ih => intro acc; simp only [anc, ih, List.length_append, List.length_cons, List.length_nil]; omega
theorem bar_of {ops : List Oper} {p : Nat} (h : isBar ops p = true) : p < ops.length -> ∀ i, (i < p -> ((anc ops []).getD p 0).testBit i = true) /\ (p < i -> i < ops.length -> ((anc ops []).getD i 0).testBit p = true) := by
 intro hp i
 unfold isBar at h
 rw [ancF_eq] at h
 have hl := anc_len ops []
 simp only [List.length_nil, Nat.zero_add] at hl
 constructor
 ·intro hi;have := (barG_at h i _ (qEq (by omega))).1;rw [Nat.zero_add] at this;exact this hi
 ·intro hi hlt;have hg : (anc ops [])[i]? = some ((anc ops [])[i]'(by omega)) := qEq (by omega);have := (barG_at h i _ hg).2;rw [Nat.zero_add] at this;rw [qDq, hg];exact this hi
theorem anc_back {ops : List Oper} (h : ∀ i o, ops[i]? = some o -> ∀ e ∈ o.after.toList, Region.binds .any e = true -> e.on < i) {i k : Nat} {o : Oper} (ho : ops[i]? = some o) (hb : ((anc ops []).getD i 0).testBit k = true) :
  ∃ e ∈ o.after.toList, Region.binds .any e = true /\ (k = e.on \/ ((Go.Sh.anc ops []).getD e.on 0).testBit k = true) := by
 obtain ⟨acc', h1, h2, h3⟩ := anc_at ops [] i o ho
 simp only [List.length_nil, Nat.zero_add] at h1 h3
 rw [h3] at hb
 rcases fold_bit acc' k _ _ hb with h' | ⟨e, he, hbe, hk⟩
 ·simp at h'
 ·refine ⟨e, he, hbe, hk.imp id (fun hk => ?_)⟩;rw [h2 e.on (by rw [h1]; exact h i o ho e he hbe)];exact hk
def rem (lo hi : Nat) (listed : Array Bool) : List Nat := (List.range' lo (hi - lo)).filter fun i => !listed.getD i true
theorem mem_rem {lo hi i : Nat} {listed : Array Bool} : i ∈ rem lo hi listed ↔ lo <= i /\ i < hi /\ listed.getD i true = false := by
 simp only [rem, List.mem_filter, List.mem_range'_1, Bool.not_eq_true']
 constructor
 ·rintro ⟨⟨h1, h2⟩, h3⟩; exact ⟨h1, by omega, h3⟩
 ·rintro ⟨h1, h2, h3⟩; exact ⟨⟨h1, by omega⟩, h3⟩
theorem range_split {lo hi i : Nat} (hl : lo <= i) (h : i < hi) : List.range' lo (hi - lo) = List.range' lo (i - lo) ++ i :: List.range' (i + 1) (hi - i - 1) := by
 apply List.ext_getElem
 ·simp; omega
 ·intro j h1 h2;simp only [List.getElem_range', List.getElem_append, List.length_range'];split
  ·rfl
  ·rename_i hj;rcases Nat.eq_or_lt_of_le (Nat.le_of_not_lt hj) with h | h
   ·subst h; simp only [Nat.sub_self, List.getElem_cons_zero]; omega
   ·obtain ⟨d, rfl⟩ : ∃ d, j = i - lo + 1 + d := ⟨j - (i - lo) - 1, by omega⟩;simp only [show i - lo + 1 + d - (i - lo) = d + 1 by omega, List.getElem_cons_succ, List.getElem_range'];omega
theorem getD_set {listed : Array Bool} {i j : Nat} {d : Bool} (h : i < listed.size) : (listed.setIfInBounds i true).getD j d = if j = i then true else listed.getD j d := by
 simp only [Array.getD_eq_getD_getElem?]
 by_cases hj : j = i
 ·subst hj; simp [h]
 ·rw [Array.getElem?_setIfInBounds_ne (fun e => hj e.symm), if_neg hj]
theorem rem_split {lo hi i : Nat} {listed : Array Bool} (hs : i < listed.size) (hl : lo <= i) (hi' : i < hi) (hu : listed.getD i true = false) :
  ∃ l r, rem lo hi listed = l ++ i :: r /\ rem lo hi (listed.setIfInBounds i true) = l ++ r /\ ∀ k ∈ l, lo <= k /\ k < i /\ listed.getD k true = false := by
 refine ⟨(List.range' lo (i - lo)).filter fun i => !listed.getD i true, (List.range' (i + 1) (hi - i - 1)).filter fun i => !listed.getD i true, ?_, ?_, ?_⟩
 ·rw [rem, range_split hl hi', List.filter_append, List.filter_cons, hu]; simp
 ·rw [rem, range_split hl hi', List.filter_append, List.filter_cons];rw [getD_set hs];simp only [if_true, Bool.not_true, Bool.false_eq_true, if_false]
  congr 1
  ·apply List.filter_congr
   intro x hx;rw [getD_set hs, if_neg (by have := (List.mem_range'_1.1 hx).2; omega)]
  ·apply List.filter_congr
   intro x hx;rw [getD_set hs, if_neg (by have := (List.mem_range'_1.1 hx).1; omega)]
 ·intro k hk;have := List.mem_filter.1 hk;have h1 := List.mem_range'_1.1 this.1;exact ⟨h1.1, by omega, by simpa using this.2⟩
theorem rem_less {n i : Nat} {listed : Array Bool} {fuel : Nat} (hs : listed.size = n) (hi : i < n) (hu : listed.getD i true = false) (hl : (rem 0 n listed).length <= fuel + 1) : (rem 0 n (listed.setIfInBounds i true)).length <= fuel := by
 obtain ⟨l, r, h1, h2, _⟩ := rem_split (lo := 0) (hi := n) (by omega) (Nat.zero_le _) hi hu
 rw [h1] at hl
 rw [h2]
 simp at hl ⊢
 omega
theorem getD_both {listed : Array Bool} {i : Nat} (h : i < listed.size) : listed.getD i true = listed.getD i false := by simp [Array.getD, h]
theorem ready_none {ops : Array Oper} (hb : ∀ i o, ops.toList[i]? = some o -> ∀ e ∈ o.after.toList, Region.binds .any e = true -> e.on < i) {listed : Array Bool} (hs : listed.size = ops.size) (hr : Region.ready .any ops listed = []) : rem 0 ops.size listed = [] := by
 have key : ∀ i, i < ops.size -> listed.getD i true = false -> False := by
  intro i
  induction i using Nat.strongRecOn with
  | _ i ih =>
   intro hi hu;have hnot : i ∉ Region.ready .any ops listed := by rw [hr]; simp
   apply hnot
   simp only [Region.ready, List.mem_filter, List.mem_range];refine ⟨hi, ?_⟩;rw [hu];have ho : ops[i]? = some ops[i] := by simp [hi]
   rw [ho];simp only [Bool.not_false, Bool.true_and, Option.map_some, Option.getD_some, Array.all_eq_true', Bool.or_eq_true, Bool.not_eq_true'];intro e he
   cases hbb : Region.binds .any e with
   | false => exact .inl rfl
   | true =>
    refine .inr ?_;have hlt := hb i ops[i] (by simp [hi]) e (by simpa using he) hbb
    cases hq : listed.getD e.on false with
    | true => rfl
    | false => exact (ih e.on hlt (by omega) (by rw [getD_both (by omega)]; exact hq)).elim
 rw [List.eq_nil_iff_forall_not_mem]
 intro i hi
 obtain ⟨_, h2, h3⟩ := mem_rem.1 hi
 exact key i h2 h3
theorem ready_inv {ops : Array Oper} (hb : ∀ i o, ops.toList[i]? = some o -> ∀ e ∈ o.after.toList, Region.binds .any e = true -> e.on < i) {listed : Array Bool}
  (hdown : ∀ i k, listed.getD i false = true -> ((anc ops.toList []).getD i 0).testBit k = true -> listed.getD k false = true) {i : Nat} (hi : i ∈ Region.ready .any ops listed) :
  i < ops.size /\ listed.getD i true = false /\ ∀ k, ((anc ops.toList []).getD i 0).testBit k = true -> listed.getD k false = true := by
 simp only [Region.ready, List.mem_filter, List.mem_range, Bool.and_eq_true, Bool.not_eq_true'] at hi
 obtain ⟨hin, hu, haft⟩ := hi
 have ho : ops[i]? = some ops[i] := by simp [hin]
 rw [ho] at haft
 simp only [Option.map_some, Option.getD_some, Array.all_eq_true', Bool.or_eq_true, Bool.not_eq_true'] at haft
 refine ⟨hin, hu, fun k hk => ?_⟩
 obtain ⟨e, he, hbb, hk'⟩ := anc_back hb (o := ops[i]) (by simp [hin]) hk
 have hon := (haft e (by simpa using he)).resolve_left (by rw [hbb]; simp)
 rcases hk' with rfl | hk'
 ·exact hon
 ·exact hdown _ _ hon hk'
theorem down_set {ops : List Oper} {listed : Array Bool} (hdown : ∀ i k, listed.getD i false = true -> ((anc ops []).getD i 0).testBit k = true -> listed.getD k false = true) {i : Nat} (hi : i < listed.size)
  (hanc : ∀ k, ((anc ops []).getD i 0).testBit k = true -> listed.getD k false = true) : ∀ x k, (listed.setIfInBounds i true).getD x false = true -> ((anc ops []).getD x 0).testBit k = true -> (listed.setIfInBounds i true).getD k false = true := by
 intro x k hx hk
 rw [getD_set hi] at hx ⊢
 by_cases hki : k = i
 ·rw [if_pos hki]
 ·rw [if_neg hki];by_cases hxi : x = i
  ·subst hxi; exact hanc k hk
  ·rw [if_neg hxi] at hx; exact hdown x k hx hk
section
variable {P : Program} {X : Cx} {O0 : Nat -> Prop} {w0 : Base} {w : World} {nt : Nat} {s s1 : S} {g : G} {a : Act} {nx : Nat}
def Mset (nx lo : Nat) (listed : Array Bool) (m : Nat) : Prop := m < nx \/ ∃ j, lo <= j /\ listed.getD j false = true /\ InR (nx + 16 * j) m
theorem any_seg (hT : TabOk P X.T) (hΓ : Sound P X.T X.Γ) {ops : Array Oper} {lo hi : Nat} (hhi : hi <= ops.size) {L : Nat -> List Nat × List Nat} (hord : Order ops.toList lo hi L) {s' : S} {Q : Exit -> Act -> World -> Prop}
  (hQ : ∀ fuel listed g a w, listed.size = ops.size -> (rem 0 ops.size listed).length <= fuel -> (∀ j, listed.getD j false = true ↔ j < hi) ->
   (∀ i k, listed.getD i false = true -> ((anc ops.toList []).getD i 0).testBit k = true -> listed.getD k false = true) ->
   Rel (fun n => n < nx + 16 * ops.size) O0 w0 X.nt s' g a w -> wpAny P .any ops Q fuel listed a w) : ∀ (fuel : Nat) (listed : Array Bool) (s : S) (g : G) (a : Act) (w : World), listed.size = ops.size -> (rem 0 ops.size listed).length <= fuel ->
   (∀ j, j < lo -> listed.getD j false = true) -> (∀ j, hi <= j -> listed.getD j false = false) ->
   (∀ i k, listed.getD i false = true -> ((anc ops.toList []).getD i 0).testBit k = true -> listed.getD k false = true) ->
   Runs X nx ops.toList L (rem lo hi listed) s s' -> Rel (Mset nx lo listed) O0 w0 X.nt s g a w -> wpAny P .any ops Q fuel listed a w := by
 intro fuel
 have done : ∀ (fuel : Nat) (listed : Array Bool) (s : S) (g : G) (a : Act) (w : World), listed.size = ops.size -> (rem 0 ops.size listed).length <= fuel ->
   (∀ j, j < lo -> listed.getD j false = true) -> (∀ j, hi <= j -> listed.getD j false = false) ->
   (∀ i k, listed.getD i false = true -> ((anc ops.toList []).getD i 0).testBit k = true -> listed.getD k false = true) ->
   rem lo hi listed = [] -> Runs X nx ops.toList L (rem lo hi listed) s s' -> Rel (Mset nx lo listed) O0 w0 X.nt s g a w -> wpAny P .any ops Q fuel listed a w := by
  intro fuel listed s g a w hs hl hA hB hdown hr hrun R;rw [hr] at hrun;have : s = s' := hrun;subst this;refine hQ fuel listed g a w hs hl (fun j => ⟨fun hj => ?_, fun hj => ?_⟩) hdown (R.wider (fun n hn => ?_))
  ·rcases Nat.lt_or_ge j hi with h | h
   ·exact h
   ·rw [hB j h] at hj; simp at hj
  ·rcases Nat.lt_or_ge j lo with h | h
   ·exact hA j h
   ·cases hq : listed.getD j false with
    | true => rfl
    | false =>
     have : j ∈ rem lo hi listed := mem_rem.2 ⟨h, hj, by rw [getD_both (by omega)]; exact hq⟩;rw [hr] at this; simp at this
  ·rcases hn with h | ⟨j, _, hj, h1, h2⟩
   ·omega
   ·have : j < listed.size := by
     rcases Nat.lt_or_ge j listed.size with h | h
     ·exact h
     ·simp [Array.getD, Nat.not_lt.2 h] at hj
    omega
 induction fuel with
 | zero =>
  intro listed s g a w hs hl hA hB hdown hrun R;have hr : rem 0 ops.size listed = [] := List.length_eq_zero_iff.1 (by omega);refine done 0 listed s g a w hs hl hA hB hdown ?_ hrun R;rw [List.eq_nil_iff_forall_not_mem];intro i hi;obtain ⟨h1, h2, h3⟩ := mem_rem.1 hi;have : i ∈ rem 0 ops.size listed := mem_rem.2 ⟨Nat.zero_le _, by omega, h3⟩;rw [hr] at this; simp at this
 | succ fuel ih =>
  intro listed s g a w hs hl hA hB hdown hrun R;by_cases hr0 : rem lo hi listed = []
  ·exact done _ listed s g a w hs hl hA hB hdown hr0 hrun R
  obtain ⟨k0, hk0⟩ := List.exists_mem_of_ne_nil _ hr0;obtain ⟨hk1, hk2, hk3⟩ := mem_rem.1 hk0;refine ⟨fun hr => ?_, fun i hir => ?_⟩
  ·exfalso
   have := ready_none hord.back hs hr;have h2 : k0 ∈ rem 0 ops.size listed := mem_rem.2 ⟨Nat.zero_le _, by omega, hk3⟩;rw [this] at h2; simp at h2
  obtain ⟨hin, hu, hanc⟩ := ready_inv hord.back hdown hir;have hilo : lo <= i := by
   rcases Nat.lt_or_ge i lo with h | h
   ·have := hA i h;rw [getD_both (by omega)] at hu;rw [hu] at this; simp at this
   ·exact h
  have hihi : i < hi := by
   rcases Nat.lt_or_ge i hi with h | h
   ·exact h
   ·exfalso
    have hlen : hi < ops.toList.length := by simp; omega
    rcases Nat.eq_or_lt_of_le h with h | h
    ·subst h;have := hanc k0 ((hord.bar hlen k0).1 hk2);rw [getD_both (by omega)] at hk3;rw [hk3] at this; simp at this
    ·have := hanc hi ((hord.bar hlen i).2 h (by simpa using hin));rw [hB hi (Nat.le_refl _)] at this; simp at this
  obtain ⟨l, r, hl1, hl2, hl3⟩ := rem_split (by omega) hilo hihi hu;rw [hl1] at hrun;obtain ⟨s1, h1, h2⟩ := hrun.first (fun k hk => by
   obtain ⟨hkl, hki, hku⟩ := hl3 k hk;rcases hord.free i k hihi hkl hki with h | h
   ·have := hanc k h;rw [getD_both (by omega)] at hku;rw [hku] at this; simp at this
   ·exact h)
  refine opRun_sim hT hΓ R (fun m hm hc => ?_) h1 (fun g' a' w' R' => ?_)
  ·rcases hc with h | ⟨j, hlj, hj, h⟩
   ·have := hm.1; omega
   ·have hji : j ≠ i := by
     rintro rfl;rw [getD_both (by omega)] at hu;rw [hu] at hj; simp at hj
    have h3 := hm.1; have h4 := hm.2; have h5 := h.1; have h6 := h.2
    omega
  ·refine ih (listed.setIfInBounds i true) s1 g' a' w' (by simp [hs]) (rem_less hs hin hu hl) (fun j hj => ?_) (fun j hj => ?_) (down_set hdown (by omega) hanc) (by rw [hl2]; exact h2) (R'.wider ?_)
   ·rw [getD_set (by omega), if_neg (by omega)]; exact hA j hj
   ·rw [getD_set (by omega), if_neg (by omega)]; exact hB j hj
   ·intro n hn;rcases hn with (h | ⟨j, hlj, hj, h⟩) | h
    ·exact .inl h
    ·refine .inr ⟨j, hlj, ?_, h⟩;rw [getD_set (by omega)];by_cases hji : j = i
     ·rw [if_pos hji]
     ·rw [if_neg hji]; exact hj
    ·refine .inr ⟨i, hilo, ?_, h⟩;rw [getD_set (by omega), if_pos rfl]
end
end Go.Sh
