/- A way of reckoning with this program: names in the place of addresses, contents as lists; and that what is so reckoned is what the program does. No condition. -/
import Derived.Orders
import Derived.Laws.Sem
import Derived.Laws.World
import Derived.Laws.Cells
import Derived.Laws.CopyRow
import Derived.Maps.Keyed
import Derived.IntWalk
import Derived.Laws.Small
set_option linter.unusedVariables false
set_option linter.unusedSimpArgs false
set_option linter.unusedSectionVars false
noncomputable section
namespace Go.Sh
abbrev qEq:=@List.getElem?_eq_getElem
abbrev qSq:=@List.getElem?_eq_some_iff
abbrev qDq:=@List.getD_eq_getElem?_getD
abbrev qBq:=@Nat.eq_of_beq_eq_true
abbrev qMq:=@List.mem_of_getElem?
abbrev qTq:=@List.take_succ_eq_append_getElem
abbrev qLq:=@List.getElem?_append_left
abbrev qRq:=@List.getElem?_append_right
abbrev qNq:=@List.getElem?_set_ne
inductive Sc
 | i (k : IntKind) (n : Int)
 | b (v : Bool)
def Sc.val : Sc -> Value
 | .i k n => .int k n
 | .b v => .bool v
abbrev Row := List Sc
abbrev Flat := List Row
inductive SV
 | s (x : Sc)
 | nils
 | ptr (n off : Nat)
 | ep (n : Nat) (row : Option (Nat × Nat)) (sz i j : Nat)
 | sl (n : Nat) (row : Option (Nat × Nat)) (sub : Option (Nat × Nat))
 | agg (l : List SV)
 | tup (l : List SV)
 | fn (f : Nat) (l : List SV)
 | mp (n : Nat)
 | vec (l : Row)
 | fc (f n : Nat)
 | und
 | bad
inductive Ent
 | blk (cs : List SV)
 | flat (own : Bool) (sz : Nat) (rows : Flat)
 | nest (own : Bool) (sz : Nat) (rows : List Flat) (holes log : List Nat)
 | map (ag : Bool) (nk : Nat) (l : List (List Int × Int))
 | rblk (cs : List SV)
 | was (L sz : Nat)
 | rmap (ag : Bool) (nk : Nat) (l : List (List Int × Int))
 | fnb (own : Bool) (f : Nat) (caps : List SV)
 | fnest (own : Bool) (sz : Nat) (rows : List Flat)
 | fmap (l : List (Int × Flat))
inductive C
 | s (x : Sc)
 | flat (own : Bool) (sz : Nat) (rows : Flat)
 | nest (own : Bool) (sz : Nat) (rows : List Flat)
 | dead
 | cap (x : Sc)
inductive V
 | one (c : C)
 | agg (l : List C)
 | clo (f : Nat) (l : List C)
 | tup (l : List V)
inductive Kd
 | int (k : IntKind)
 | bool
 | slice (e : Nat)
 | struct (fs : List (Nat × Nat))
 | array (n e : Nat)
 | ptr (e : Nat)
 | map (k e : Nat) (ag : Bool) (nk : Nat)
 | fmap (k e : Nat)
 | other
structure TI where
 kind : Kd
 size : Nat
 bytes : Nat
 zero : List SV
 eqs : Bool
 cells : List Nat
abbrev Tab := List (Nat × TI)
structure Con where
 ro : List Bool
 rro : Bool
 F : List V -> Option (V × List V)
abbrev Ws := List (Nat × Option Ent)
inductive Prog
 | ret (v : SV) (ws : Ws)
 | fail
 | slot (t : Nat) (k : SV -> Prog)
 | ent (n : Nat) (k : Ent -> Prog)
 | test (c : Bool) (t e : Prog)
 | idx (k : Int) (L : Nat) (p : Nat -> Prog)
 | rng (a b : Int) (L : Nat) (p : Nat -> Nat -> Prog)
 | look (l : Flat) (i : Nat) (k : Row -> Prog)
 | look2 (l : List Flat) (i : Nat) (k : Flat -> Prog)
 | call (F : List V -> Option (V × List V)) (vs : List V) (k : V -> List V -> Prog)
def lk {α : Type} : List (Nat × α) -> Nat -> Option α
 | [], _ => none
 | (a, v) :: r, t => bif Nat.beq a t then some v else lk r t
def nth {α : Type} : List α -> Nat -> Option α
 | [], _ => none
 | a :: _, 0 => some a
 | _ :: r, n + 1 => nth r n
def lkT {α : Type} (l : List (Nat × α)) (t : Nat) : Option α := bif Nat.blt t 1000000 then lk l t else none
def opnd (o : Operand) (k : SV -> Prog) : Prog :=
 match o with
 | .tmp t => bif Nat.blt t 1000000 then .slot t k else .fail
 | .const (.int kd n) => k (.s (.i kd n))
 | .const (.bool b) => k (.s (.b b))
 | .const (.slice none 0 0) => k .nils
 | _ => .fail
def TI.isAgg (t : TI) : Bool := match t.kind with | .struct _ | .array _ _ => true | _ => false
def notIn : List Nat -> Nat -> Prog -> Prog
 | [], _, p => p
 | c :: r, i, p => .test (c == i) .fail (notIn r i p)
def rowOf (n : Nat) (own : Bool) (r ver : Nat) (k : Nat -> List Flat -> List Nat -> List Nat -> Flat -> Prog) : Prog :=
 .ent n fun
  | .nest own' sz rows holes log => bif (own && !own') then .fail else (notIn holes r (notIn (log.take (log.length - ver)) r (.look2 rows r (k sz rows holes log))))
  | _ => .fail
def scCells : List SV -> (List Sc -> Prog) -> Prog
 | [], k => k []
 | .s x :: r, k => scCells r fun l => k (x :: l)
 | _ :: _, _ => .fail
def cellsOf : SV -> List SV
 | .agg l => l
 | v => [v]
def splice {α : Type} : List α -> Nat -> List α -> List α
 | l, 0, [] => l
 | _ :: r, 0, x :: s => x :: splice r 0 s
 | a :: r, n + 1, s => a :: splice r n s
 | [], _, _ => []
def takeN {α : Type} : Nat -> List α -> Option (List α)
 | 0, _ => some []
 | n + 1, a :: r => (takeN n r).map (a :: ·)
 | _ + 1, [] => none
def dropN {α : Type} : Nat -> List α -> List α
 | 0, l => l
 | n + 1, _ :: r => dropN n r
 | _ + 1, [] => []
def mapS : List Sc -> List SV
 | [] => []
 | x :: r => .s x :: mapS r
def rowVal (ti : TI) (row : Row) (j : Nat) : Prog :=
 bif ti.isAgg then match takeN ti.size (dropN j row) with
  | some l => .ret (.agg (mapS l)) []
  | none => .fail
 else match nth row j with
  | some x => .ret (.s x) []
  | none => .fail
def cellsVal (ti : TI) (cs : List SV) (off : Nat) : Prog :=
 bif ti.isAgg then match takeN ti.size (dropN off cs) with
  | some l => .ret (.agg l) []
  | none => .fail
 else match nth cs off with
  | some v => .ret v []
  | none => .fail
def vecR : Row -> Flat
 | [] => []
 | x :: r => [x] :: vecR r
def unvec : Flat -> Row
 | [] => []
 | [x] :: r => x :: unvec r
 | _ :: r => unvec r
def isGreat (ti : TI) : Bool := match ti.kind with | .array n _ => Nat.blt 16 n && (Nat.beq ti.size n && Nat.ble n 1000000) | _ => false
def loadP (fresh : Nat) (ti : TI) (v : SV) : Prog :=
 match v with
 | .ptr n off => .ent n fun
  | .blk cs => cellsVal ti cs off
  | .rblk cs => cellsVal ti cs off
  | .fnb _ f l => bif Nat.beq off 0 && !ti.isAgg then .ret (.fn f l) [] else .fail
  | .flat _ sz rows => bif isGreat ti && (Nat.beq sz 1 && Nat.beq off 0) then .test (decide (rows.length = ti.size)) (.ret (.vec (unvec rows)) []) .fail else .fail
  | _ => .fail
 | .ep n none sz i j => .ent n fun
  | .flat _ sz' rows => bif Nat.beq sz sz' then .look rows i fun row => rowVal ti row j else .fail
  | .nest _ _ rows holes log => match ti.kind, j with
   | .slice _, 0 => bif Nat.beq sz 1 then .test (decide (i < rows.length)) (notIn holes i (.ret (.sl n (some (i, log.length)) none) [])) .fail else .fail
   | _, _ => .fail
  | .fnest _ sz' rows => match ti.kind, j with
   | .slice _, 0 => bif Nat.beq sz 1 then .look2 rows i fun fl => .ret (.sl fresh none none) [(fresh, some (.flat false sz' fl))] else .fail
   | _, _ => .fail
  | _ => .fail
 | .ep n (some (r, ver)) sz i j => rowOf n false r ver fun sz' _ _ _ fl => bif Nat.beq sz sz' then .look fl i fun row => rowVal ti row j else .fail
 | _ => .fail
def storeHead (n sz : Nat) (rows : List Flat) (holes log : List Nat) (i : Nat) (fl : Flat) (ws : Ws) : Prog :=
 match holes with
 | [] => .ret .bad ((n, some (.nest true sz (rows.set i fl) [] (i :: log))) :: ws)
 | [c] => .test (c == i) (.ret .bad ((n, some (.nest true sz (rows.set i fl) [] (i :: log))) :: ws)) .fail
 | _ => .fail
def headVal (n sz : Nat) (rows : List Flat) (holes log : List Nat) (i : Nat) (x : SV) : Prog :=
 match x with
 | .nils => storeHead n sz rows holes log i [] []
 | .sl m none none => bif Nat.beq m n then .fail else .ent m fun
  | .flat true sz' fl => bif Nat.beq sz' sz then storeHead n sz rows holes log i fl [(m, none)] else .fail
  | _ => .fail
 | _ => .fail
def frzVal (n sz : Nat) (rows : List Flat) (i : Nat) (x : SV) : Prog :=
 match x with
 | .sl m none none => .ent m fun
  | .flat false sz' fl => bif Nat.beq sz' sz then .ret .bad [(n, some (.fnest true sz (rows.set i fl)))] else .fail
  | _ => .fail
 | _ => .fail
def solid : SV -> Bool
 | .s _ | .nils | .ptr _ _ | .sl _ _ _ | .mp _ | .fc _ _ => true
 | _ => false
def storeP0 (ti : TI) (v x : SV) : Prog :=
 match v with
 | .ptr n off => .ent n fun
  | .blk cs => bif Nat.beq (cellsOf x).length ti.size && (cellsOf x).all solid then bif Nat.ble (off + ti.size) cs.length then .ret .bad [(n, some (.blk (splice cs off (cellsOf x))))] else .fail else .fail
  | .flat true sz rows => bif isGreat ti && (Nat.beq sz 1 && Nat.beq off 0) then (match x with
   | .vec l => .test (decide (rows.length = ti.size) && decide (l.length = ti.size)) (.ret .bad [(n, some (.flat true 1 (vecR l)))]) .fail
   | _ => .fail) else .fail
  | _ => .fail
 | .ep n none sz i j => .ent n fun
  | .flat true sz' rows => bif Nat.beq sz sz' then bif Nat.beq (cellsOf x).length ti.size then scCells (cellsOf x) fun xs => .look rows i fun row => bif Nat.ble (j + ti.size) sz then
    .ret .bad [(n, some (.flat true sz (rows.set i (splice row j xs))))] else .fail else .fail else .fail
  | .nest true sz' rows holes log => match ti.kind, j with
   | .slice _, 0 => bif Nat.beq sz 1 && Nat.beq ti.size 1 then .test (decide (i < rows.length)) (headVal n sz' rows holes log i x) .fail else .fail
   | _, _ => .fail
  | .fnest true sz' rows => match ti.kind, j with
   | .slice _, 0 => bif Nat.beq sz 1 && Nat.beq ti.size 1 then .test (decide (i < rows.length)) (frzVal n sz' rows i x) .fail else .fail
   | _, _ => .fail
  | _ => .fail
 | .ep n (some (r, ver)) sz i j => rowOf n true r ver fun sz' rows holes log fl => bif Nat.beq sz sz' then bif Nat.beq (cellsOf x).length ti.size then scCells (cellsOf x) fun xs => .look fl i fun row =>
   bif Nat.ble (j + ti.size) sz then .ret .bad [(n, some (.nest true sz (rows.set r (fl.set i (splice row j xs))) holes log))] else .fail else .fail else .fail
 | _ => .fail
def storeFn (ti : TI) (v : SV) (f : Nat) (l : List SV) : Prog :=
 match v with
 | .ptr n 0 => bif Nat.beq ti.size 1 && l.all solid then .ent n fun
  | .blk [_] => .ret .bad [(n, some (.fnb true f l))]
  | _ => .fail
  else .fail
 | _ => .fail
def storeP (ti : TI) (v x : SV) : Prog := match x with
 | .fn f l => storeFn ti v f l
 | x => storeP0 ti v x
def loOf (sub : Option (Nat × Nat)) : Nat := match sub with | none => 0 | some p => p.1
def subK (sub : Option (Nat × Nat)) (L sz : Nat) (k : (L lo sz : Nat) -> Prog) : Prog := match sub with | none => k L 0 sz | some (lo, len) => k len lo sz
def lenP (n : Nat) (row sub : Option (Nat × Nat)) (k : (L lo sz : Nat) -> Prog) : Prog :=
 match row with
 | none => .ent n fun
  | .flat _ sz rows => subK sub rows.length sz k
  | .nest _ _ rows _ _ => subK sub rows.length 1 k
  | .fnest _ _ rows => subK sub rows.length 1 k
  | _ => .fail
 | some (r, ver) => rowOf n false r ver fun sz _ _ _ fl => subK sub fl.length sz k
def inI64 (a : Int) : Bool := @decide (-9223372036854775808 <= a /\ a <= 9223372036854775807) (Classical.propDecidable _)
theorem inI64_iff {a : Int} : inI64 a = true ↔ -9223372036854775808 <= a /\ a <= 9223372036854775807 := by
 unfold inI64
 exact @decide_eq_true_iff _ (Classical.propDecidable _)
def inK (k : IntKind) (a : Int) : Bool := @decide (k.wrap a = a) (Classical.propDecidable _)
theorem inK_iff {k : IntKind} {a : Int} : inK k a = true ↔ k.wrap a = a := by
 unfold inK
 exact @decide_eq_true_iff _ (Classical.propDecidable _)
def intP (k : IntKind) (a : Int) : Prog :=
 match k with
 | .i64 => .test (inI64 a) (.ret (.s (.i .i64 a)) []) .fail
 | k => .ret (.s (.i k (k.wrap a))) []
def eqCells : List SV -> List SV -> Option Bool
 | [], [] => some true
 | .s (.i k a) :: r, .s (.i k' b) :: s => bif decide (k = k') then (eqCells r s).map ((a == b) && ·) else none
 | .s (.b a) :: r, .s (.b b) :: s => (eqCells r s).map ((a == b) && ·)
 | _, _ => none
def eqRes (op : BinOp) (c : Bool) : Prog :=
 match op with
 | .eql => .ret (.s (.b c)) []
 | .neq => .ret (.s (.b (!c))) []
 | _ => .fail
def intBin (op : BinOp) (k : IntKind) (a b : Int) : Prog :=
 match op with
 | .add => intP k (a + b)
 | .sub => intP k (a - b)
 | .mul => intP k (a * b)
 | .quo => .test (b == 0) .fail (intP k (a.tdiv b))
 | .rem => .test (b == 0) .fail (.ret (.s (.i k (a.tmod b))) [])
 | .and => .ret (.s (.i k (k.wrap (BitVec.ofInt k.bits a &&& BitVec.ofInt k.bits b).toNat))) []
 | .or => .ret (.s (.i k (k.wrap (BitVec.ofInt k.bits a ||| BitVec.ofInt k.bits b).toNat))) []
 | .xor => .ret (.s (.i k (k.wrap (BitVec.ofInt k.bits a ^^^ BitVec.ofInt k.bits b).toNat))) []
 | .andNot => .ret (.s (.i k (k.wrap (BitVec.ofInt k.bits a &&& ~~~ BitVec.ofInt k.bits b).toNat))) []
 | .eql => .ret (.s (.b (a == b))) []
 | .neq => .ret (.s (.b (a != b))) []
 | .lss => .ret (.s (.b (decide (a < b)))) []
 | .leq => .ret (.s (.b (decide (a <= b)))) []
 | .gtr => .ret (.s (.b (decide (a > b)))) []
 | .geq => .ret (.s (.b (decide (a ≥ b)))) []
 | _ => .fail
def isShift : BinOp -> Bool
 | .shl | .shr => true
 | _ => false
def is64 : IntKind -> Bool
 | .i64 | .u64 => true
 | _ => false
def isU32 : IntKind -> Bool
 | .u32 => true
 | _ => false
def shiftBin (op : BinOp) (k : IntKind) (a b : Int) : Prog :=
 bif is64 k then match op with
 | .shl => .test (decide (0 <= b) && decide (b < 63)) (intP k (a * 2 ^ b.toNat)) .fail
 | .shr => .test (decide (0 <= b) && decide (b < 63)) (.ret (.s (.i k (a.fdiv (2 ^ b.toNat)))) []) .fail
 | _ => .fail
 else bif isU32 k then match op with
 | .shr => .test (decide (0 <= b) && decide (b < 32)) (.ret (.s (.i k (a.fdiv (2 ^ b.toNat)))) []) .fail
 | _ => .fail
 else .fail
def kin : List SV -> List SV -> Bool
 | [], [] => true
 | .s (.i k _) :: r, .s (.i k' _) :: s => decide (k = k') && kin r s
 | .s (.b _) :: r, .s (.b _) :: s => kin r s
 | _, _ => false
def binP (T : Tab) (t : Nat) (op : BinOp) (x y : SV) : Prog :=
 match x, y with
 | .s (.i k a), .s (.i k' b) => bif isShift op then shiftBin op k a b else bif decide (k = k') then intBin op k a b else .fail
 | .s (.b a), .s (.b b) => match lk T t with
  | some ti => match ti.kind with | .bool => eqRes op (a == b) | _ => .fail
  | none => .fail
 | .agg l, .agg m => match lk T t with
  | some ti => bif ti.eqs && kin l ti.zero then match eqCells l m with | some c => eqRes op c | none => .fail else .fail
  | none => .fail
 | .nils, .nils => match lk T t with
  | some ti => match ti.kind with | .slice _ => eqRes op true | _ => .fail
  | none => .fail
 | .sl n none none, .nils => match lk T t with
  | some ti => match ti.kind with
   | .slice _ => .ent n fun
    | .flat _ _ rows => .test (decide (0 < rows.length)) (eqRes op false) .fail
    | _ => .fail
   | _ => .fail
  | none => .fail
 | _, _ => .fail
def unP (op : UnOp) (x : SV) : Prog :=
 match op, x with
 | .not, .s (.b c) => .ret (.s (.b (!c))) []
 | .neg, .s (.i .i64 a) => intP .i64 (0 - a)
 | _, _ => .fail
def sizeT (T : Tab) (t : Nat) : Nat := match lk T t with | some ti => ti.size | none => 0
def innerSz (T : Tab) (t : Nat) : Option Nat := match lk T t with
 | some ti => match ti.kind with | .slice e => some (sizeT T e) | _ => none
 | none => none
def indexAddrP (T : Tab) (t : Nat) (x i : SV) : Prog :=
 match lk T t with
 | some ti => match ti.kind, x, i with
  | .slice e, .sl n row sub, .s (.i _ k) => lenP n row sub fun L lo sz => bif Nat.beq (sizeT T e) sz then .idx k L fun m =>
    match sub with | none => .ret (.ep n row sz m 0) [] | some _ => .ret (.ep n row sz (lo + m) 0) []
   else .fail
  | .array len e, .ptr n off, .s (.i _ k) => bif Nat.blt 16 len then (bif Nat.beq off 0 && Nat.beq (sizeT T e) 1 then .ent n fun
    | .flat _ sz _ => bif Nat.beq sz 1 then .idx k len fun m => .ret (.ep n none 1 m 0) [] else .fail
    | _ => .fail
    else .fail)
   else .idx k len fun m => bif Nat.ble 2 len && Nat.blt 0 (sizeT T e) then .ret (.ptr n (off + m * sizeT T e)) [] else .fail
  | .array len e, .ep n row sz i' j, .s (.i _ k) => .idx k len fun m => bif Nat.ble 2 len && Nat.blt 0 (sizeT T e) then (match row with | none => .ret (.ep n none sz i' (j + m * sizeT T e)) [] | some _ => .fail) else .fail
  | _, _, _ => .fail
 | none => .fail
def fieldAddrP (T : Tab) (t : Nat) (x : SV) (f : Nat) : Prog :=
 match lk T t with
 | some ti => match ti.kind with
  | .struct fs => match nth fs f with
   | some (d, _) => match x with
    | .ptr n off => .ret (.ptr n (off + d)) []
    | .ep n none sz i j => .ret (.ep n none sz i (j + d)) []
    | _ => .fail
   | none => .fail
  | _ => .fail
 | none => .fail
def fieldP (T : Tab) (t : Nat) (x : SV) (f : Nat) : Prog :=
 match lk T t, x with
 | some ti, .agg cs => match ti.kind with
  | .struct fs => match nth fs f with
   | some (d, ft) => match lk T ft with
    | some fi => bif fi.isAgg then match takeN fi.size (dropN d cs) with
      | some l => .ret (.agg l) []
      | none => .fail
     else match nth cs d with
      | some v => .ret v []
      | none => .fail
    | none => .fail
   | none => .fail
  | _ => .fail
 | _, _ => .fail
def bnd (v : SV) (d : Int) : Option Int := match v with | .s (.i _ a) => some a | .bad => some d | _ => none
def isBad : SV -> Bool
 | .bad => true
 | _ => false
def optOpnd (o : Option Operand) (d : SV) (k : SV -> Prog) : Prog := match o with | some x => opnd x (fun v => bif isBad v then .fail else k v) | none => k d
def subOf (sub : Option (Nat × Nat)) (base a b : Nat) : Option (Nat × Nat) := match sub with | none => some (a, b - a) | some _ => some (base + a, b - a)
def sliceP (T : Tab) (t : Nat) (x lo hi mx : SV) : Prog :=
 match lk T t with
 | some ti => match ti.kind, x with
  | .slice e, .sl n row sub => lenP n row sub fun L base sz => bif Nat.beq (sizeT T e) sz then
    match bnd lo 0, bnd hi L with
    | some a, some b => match mx with
     | .bad => .rng a b L fun a b => bif isBad lo && isBad hi then .ret (.sl n row sub) [] else .ret (.sl n row (subOf sub base a b)) []
     | .s (.i _ c) => bif isBad hi then .fail else .test (c == b) (.rng a b L fun a b => .ret (.sl n row (subOf sub base a b)) []) .fail
     | _ => .fail
    | _, _ => .fail
   else .fail
  | _, _ => .fail
 | none => .fail
def slicePM (T : Tab) (fresh t : Nat) (x lo hi mx : SV) : Prog :=
 match lo, mx, x with
 | .bad, .s (.i kc c), .sl n none none => .ent n fun
  | .flat true sz rows => match lk T t with
   | some ti => match ti.kind, hi with
    | .slice e, .s (.i _ b) => bif Nat.beq (sizeT T e) sz then .test (c == b) (.rng 0 b rows.length fun _ y => .ret (.sl fresh none none) [(fresh, some (.flat true sz (rows.take y))), (n, none)]) .fail else .fail
    | _, _ => .fail
   | none => .fail
  | _ => sliceP T t x lo hi mx
 | _, _, _ => sliceP T t x lo hi mx
def scOf : List SV -> Option Row
 | [] => some []
 | .s x :: r => (scOf r).map (x :: ·)
 | _ :: _ => none
def nilZ : List SV -> Bool
 | [.nils] => true
 | _ => false
def zeroRow (ti : TI) : Option Row := scOf ti.zero
def makeSliceP (T : Tab) (fresh t : Nat) (len cap : SV) : Prog :=
 match lk T t with
 | some ti => match ti.kind with
  | .slice e => match lk T e with
   | some ei => match len, cap with
    | .s (.i _ a), .s (.i _ b) => .test (a == b) (.idx a 4294967297 fun m =>
      match ei.kind with
      | .slice e2 => bif Nat.blt 0 (sizeT T e2) && nilZ ei.zero then .ret (.sl fresh none none) [(fresh, some (.nest true (sizeT T e2) (List.replicate m []) [] []))] else .fail
      | _ => match zeroRow ei with
       | some z => .ret (.sl fresh none none) [(fresh, some (.flat true ei.size (List.replicate m z)))]
       | none => .fail) .fail
    | _, _ => .fail
   | none => .fail
  | _ => .fail
 | none => .fail
def flatParts (sz : Nat) : Nat -> List (Nat × Operand) -> (Flat -> Prog) -> Prog
 | _, [], k => k []
 | i, (j, o) :: r, k => bif Nat.beq i j then opnd o fun v => bif Nat.beq (cellsOf v).length sz then scCells (cellsOf v) fun row => flatParts sz (i + 1) r fun rows => k (row :: rows) else .fail else .fail
def nestParts (sz : Nat) : Nat -> List (Nat × Operand) -> List Nat -> (List Flat -> Ws -> Prog) -> Prog
 | _, [], _, k => k [] []
 | i, (j, o) :: r, seen, k => bif Nat.beq i j then opnd o fun
   | .nils => nestParts sz (i + 1) r seen fun rows ws => k ([] :: rows) ws
   | .sl m none none => bif seen.elem m then .fail else .ent m fun
    | .flat true sz' fl => bif Nat.beq sz sz' then nestParts sz (i + 1) r (m :: seen) fun rows ws => k (fl :: rows) ((m, some (.was fl.length sz)) :: ws) else .fail
    | _ => .fail
   | _ => .fail
  else .fail
def cut (sub : Option (Nat × Nat)) {α : Type} (l : List α) : List α := match sub with | none => l | some (lo, len) => (l.drop lo).take len
def frzPart (sz fresh : Nat) (parts : List (Nat × Operand)) (els : Prog) : Prog :=
 match parts with
 | [(0, o), (1, o')] => opnd o fun
  | .sl m none sub => .ent m fun
   | .flat false sz1 fl => bif Nat.beq sz sz1 then opnd o' fun
    | .sl m' none sub' => .ent m' fun
     | .flat own sz2 fl' => bif Nat.beq sz sz2 then .ret (.sl fresh none none) ((fresh, some (.fnest true sz [cut sub fl, cut sub' fl'])) :: (bif own then [(m', some (.flat false sz fl'))] else [])) else .fail
     | _ => .fail
    | _ => .fail
    else .fail
   | _ => els
  | _ => els
 | [(0, o)] => opnd o fun
  | .sl m none none => .ent m fun
   | .flat false sz' fl => bif Nat.beq sz sz' then .ret (.sl fresh none none) [(fresh, some (.fnest true sz [fl]))] else .fail
   | _ => els
  | _ => els
 | _ => els
def buildSliceP (T : Tab) (fresh t len : Nat) (parts : List (Nat × Operand)) : Prog :=
 match lk T t with
 | some ti => match ti.kind with
  | .slice e => match lk T e with
   | some ei => bif Nat.beq parts.length len && Nat.ble (len * ei.size) 16777216 then match ei.kind with
    | .slice e2 => bif Nat.beq ei.size 1 && Nat.blt 0 (sizeT T e2) then frzPart (sizeT T e2) fresh parts (nestParts (sizeT T e2) 0 parts [] fun rows ws => .ret (.sl fresh none none) ((fresh, some (.nest true (sizeT T e2) rows [] [])) :: ws)) else .fail
    | _ => flatParts ei.size 0 parts fun rows => .ret (.sl fresh none none) [(fresh, some (.flat true ei.size rows))]
    else .fail
   | none => .fail
  | _ => .fail
 | none => .fail
def toCell : SV -> SV
 | .fn f [.ptr n 0] => .fc f n
 | v => v
def fillParts (fs : List (Nat × Nat)) (T : Tab) : List (Nat × Operand) -> List SV -> (List SV -> Prog) -> Prog
 | [], cs, k => k cs
 | (i, o) :: r, cs, k => match nth fs i with
  | some (d, ft) => opnd o fun v => bif Nat.beq (cellsOf (toCell v)).length (sizeT T ft) && (Nat.ble (d + sizeT T ft) cs.length && (cellsOf (toCell v)).all solid) then fillParts fs T r (splice cs d (cellsOf (toCell v))) k else .fail
  | none => .fail
def arrPlaces (e sz : Nat) : Nat -> Nat -> List (Nat × Nat)
 | _, 0 => []
 | i, n + 1 => (i * sz, e) :: arrPlaces e sz (i + 1) n
def buildP (T : Tab) (t : Nat) (parts : List (Nat × Operand)) : Prog :=
 match lk T t with
 | some ti => match ti.kind with
  | .struct fs => fillParts fs T parts ti.zero fun cs => .ret (.agg cs) []
  | .array n e => bif Nat.blt 0 (sizeT T e) then fillParts (arrPlaces e (sizeT T e) 0 n) T parts ti.zero fun cs => .ret (.agg cs) [] else .fail
  | _ => .fail
 | none => .fail
def flatOf (sz : Nat) (v : SV) (k : Flat -> Prog) : Prog :=
 match v with
 | .nils => k []
 | .sl n none sub => .ent n fun
  | .flat _ sz' rows => bif Nat.beq sz sz' then k (cut sub rows) else .fail
  | _ => .fail
 | .sl n (some (r, ver)) sub => rowOf n false r ver fun sz' _ _ _ fl => bif Nat.beq sz sz' then k (cut sub fl) else .fail
 | _ => .fail
def room (L : Nat) (p : Prog) : Prog := .test (decide (L <= 2147483648)) p .fail
def appendFlat (sz fresh : Nat) (x y : SV) : Prog :=
 flatOf sz y fun rows2 => match x with
  | .nils => room rows2.length (.ret (.sl fresh none none) [(fresh, some (.flat true sz rows2))])
  | .sl n none sub => .ent n fun
   | .flat true sz' rows => bif Nat.beq sz' sz then room (rows.length + rows2.length) (.ret (.sl fresh none none) [(fresh, some (.flat true sz (cut sub rows ++ rows2))), (n, none)]) else .fail
   | _ => .fail
  | .sl n (some (r, ver)) sub => rowOf n true r ver fun sz' rows holes log fl => bif Nat.beq sz' sz then room (fl.length + rows2.length)
    (.ret (.sl fresh none none) [(fresh, some (.flat true sz (cut sub fl ++ rows2))), (n, some (.nest true sz rows (r :: holes) (r :: log)))]) else .fail
  | _ => .fail
def appendNest (sz fresh : Nat) (x y : SV) : Prog :=
 match y with
 | .sl k none none => .ent k fun
  | .nest true sz2 rows2 [] _ => bif Nat.beq sz2 sz then (match x with
   | .nils => room rows2.length (.ret (.sl fresh none none) [(fresh, some (.nest true sz rows2 [] [])), (k, none)])
   | .sl n none none => bif Nat.beq n k then .fail else .ent n fun
    | .nest true sz1 rows1 [] _ => bif Nat.beq sz1 sz then room (rows1.length + rows2.length) (.ret (.sl fresh none none) [(fresh, some (.nest true sz (rows1 ++ rows2) [] [])), (n, none), (k, none)]) else .fail
    | _ => .fail
   | _ => .fail) else .fail
  | .fnest true sz2 rows2 => bif Nat.beq sz2 sz then (match x with
   | .nils => room rows2.length (.ret (.sl fresh none none) [(fresh, some (.fnest true sz rows2)), (k, none)])
   | .sl n none none => bif Nat.beq n k then .fail else .ent n fun
    | .fnest true sz1 rows1 => bif Nat.beq sz1 sz then room (rows1.length + rows2.length) (.ret (.sl fresh none none) [(fresh, some (.fnest true sz (rows1 ++ rows2))), (n, none), (k, none)]) else .fail
    | _ => .fail
   | _ => .fail) else .fail
  | _ => .fail
 | _ => .fail
def appendP (T : Tab) (fresh t : Nat) (x y : SV) : Prog :=
 match lk T t with
 | some ti => match ti.kind with
  | .slice e => match lk T e with
   | some ei => match ei.kind with
    | .slice e2 => bif Nat.beq ei.size 1 then appendNest (sizeT T e2) fresh x y else .fail
    | _ => appendFlat ei.size fresh x y
   | none => .fail
  | _ => .fail
 | none => .fail
def laid (rows : Flat) (lo len : Nat) (src : Flat) : Flat := splice rows lo (src.take len)
def copyP (T : Tab) (t : Nat) (x y : SV) : Prog :=
 match lk T t with
 | some ti => match ti.kind with
  | .slice e => match lk T e with
   | none => .fail
   | some ei => flatOf ei.size y fun src => match x with
    | .sl n none sub => .ent n fun
     | .flat true sz rows => bif Nat.beq sz ei.size then .test (decide (loOf sub + (cut sub rows).length <= rows.length))
      (.ret (.s (.i .i64 (min src.length (cut sub rows).length : Nat))) [(n, some (.flat true sz (laid rows (loOf sub) (cut sub rows).length src)))]) .fail else .fail
     | _ => .fail
    | _ => .fail
  | _ => .fail
 | none => .fail
def clearP (T : Tab) (t : Nat) (x : SV) : Prog :=
 match lk T t with
 | some ti => match ti.kind with
  | .slice e => match lk T e with
   | none => .fail
   | some ei => match zeroRow ei with
    | none => .fail
    | some zr => match x with
     | .sl n none sub => .ent n fun
      | .flat true sz rows => bif Nat.beq sz ei.size then .test (decide (loOf sub + (cut sub rows).length <= rows.length))
       (.ret (.tup []) [(n, some (.flat true sz (splice rows (loOf sub) (List.replicate (cut sub rows).length zr))))]) .fail else .fail
      | _ => .fail
     | _ => .fail
  | _ => .fail
 | none => .fail
def mnmx (isMax : Bool) : Int -> List Operand -> (Int -> Prog) -> Prog
 | a, [], k => k a
 | a, o :: r, k => opnd o fun | .s (.i _ c) => mnmx isMax (bif isMax then (if c > a then c else a) else (if c < a then c else a)) r k | _ => .fail
def mapGet : List (List Int × Int) -> List Int -> Int
 | [], _ => 0
 | (k, v) :: r, x => if k = x then v else mapGet r x
def mapPut : List (List Int × Int) -> List Int -> Int -> List (List Int × Int)
 | [], x, v => [(x, v)]
 | (k, u) :: r, x, v => if k = x then (k, v) :: r else (k, u) :: mapPut r x v
def keyInts : List SV -> (List Int -> Prog) -> Prog
 | [], k => k []
 | .s (.i .i64 n) :: r, k => .test (inI64 n) (keyInts r fun l => k (n :: l)) .fail
 | _ :: _, _ => .fail
def isAggV : SV -> Bool
 | .agg _ => true
 | _ => false
def mapHas : List (List Int × Int) -> List Int -> Bool
 | [], _ => false
 | (k, _) :: r, x => bif decide (k = x) then true else mapHas r x
def mapAt (T : Tab) (up : Bool) (t : Nat) (m key : SV) (k : (n : Nat) -> (ag : Bool) -> (nk : Nat) -> List (List Int × Int) -> List Int -> Prog) : Prog :=
 match lk T t with
 | some ti => match ti.kind with
  | .map _ _ ag nk => match m with
   | .mp n => .ent n fun
    | .map ag' nk' l => bif (ag == ag') && (Nat.beq nk nk' && (isAggV key == ag && Nat.beq (cellsOf key).length nk)) then keyInts (cellsOf key) fun x => k n ag nk l x else .fail
    | .rmap ag' nk' l => bif up then .fail else bif (ag == ag') && (Nat.beq nk nk' && (isAggV key == ag && Nat.beq (cellsOf key).length nk)) then keyInts (cellsOf key) fun x => k n ag nk l x else .fail
    | _ => .fail
   | _ => .fail
  | _ => .fail
 | none => .fail
def makeMapP (T : Tab) (fresh t : Nat) : Prog :=
 match lk T t with
 | some ti => match ti.kind with
  | .map _ _ ag nk => .ret (.mp fresh) [(fresh, some (.map ag nk []))]
  | _ => .fail
 | none => .fail
def mapUpdateP (T : Tab) (t : Nat) (m key v : SV) : Prog :=
 match v with
 | .s (.i .i64 x) => mapAt T true t m key fun n ag nk l ks => .ret .bad [(n, some (.map ag nk (mapPut l ks x)))]
 | _ => .fail
def lookupP (T : Tab) (t : Nat) (m key : SV) : Prog := mapAt T false t m key fun _ _ _ l ks => .ret (.s (.i .i64 (mapGet l ks))) []
def lookup2P (T : Tab) (t : Nat) (m key : SV) : Prog := mapAt T false t m key fun _ _ _ l ks => .ret (.tup [.s (.i .i64 (mapGet l ks)), .s (.b (mapHas l ks))]) []
def fget : List (Int × Flat) -> Int -> Flat
 | [], _ => []
 | (k, v) :: r, x => if k = x then v else fget r x
def fput : List (Int × Flat) -> Int -> Flat -> List (Int × Flat)
 | [], x, v => [(x, v)]
 | (k, u) :: r, x, v => if k = x then (k, v) :: r else (k, u) :: fput r x v
def isFmap (T : Tab) (t : Nat) : Bool := match lk T t with
 | some ti => match ti.kind with
  | .fmap _ _ => true
  | _ => false
 | none => false
def fmapAt (m key : SV) (k : (n : Nat) -> List (Int × Flat) -> Int -> Prog) : Prog :=
 match m with
 | .mp n => .ent n fun
  | .fmap l => match key with
   | .s (.i .i64 x) => .test (inI64 x) (k n l x) .fail
   | _ => .fail
  | _ => .fail
 | _ => .fail
def fmakeP (fresh : Nat) : Prog := .ret (.mp fresh) [(fresh, some (.fmap []))]
def flookupP (fresh : Nat) (m key : SV) : Prog := fmapAt m key fun _ l x => .ret (.sl fresh none none) [(fresh, some (.flat false 1 (fget l x)))]
def fupdateP (m key v : SV) : Prog :=
 match v with
 | .sl n none none => fmapAt m key fun n' l x => .ent n fun
  | .flat own sz rows => bif Nat.beq sz 1 then .ret .bad ((n', some (.fmap (fput l x rows))) :: (bif own then [(n, some (.flat false 1 rows))] else [])) else .fail
  | _ => .fail
 | _ => .fail
def newC (fresh : Nat) : C -> (SV -> Ws -> Nat -> Prog) -> Prog
 | .s x, k => k (.s x) [] (fresh + 1)
 | .flat own sz rows, k => k (.sl fresh none none) [(fresh, some (.flat own sz rows))] (fresh + 1)
 | .nest own sz rows, k => k (.sl fresh none none) [(fresh, some (.nest own sz rows [] []))] (fresh + 1)
 | .dead, k => k .bad [] (fresh + 1)
 | .cap x, k => k (.ptr fresh 0) [(fresh, some (.rblk [.s x]))] (fresh + 1)
def newCs (fresh : Nat) : List C -> (List SV -> Ws -> Nat -> Prog) -> Prog
 | [], k => k [] [] fresh
 | c :: cs, k => newC fresh c fun v ws f => newCs f cs fun vs ws' f' => k (v :: vs) (ws ++ ws') f'
def newV1 (fresh : Nat) : V -> (SV -> Ws -> Nat -> Prog) -> Prog
 | .one c, k => newC fresh c k
 | .agg l, k => newCs fresh l fun vs ws f => k (.agg vs) ws f
 | .clo f l, k => newCs fresh l fun vs ws n => k (.fn f vs) ws n
 | _, _ => .fail
def newVs (fresh : Nat) : List V -> (List SV -> Ws -> Nat -> Prog) -> Prog
 | [], k => k [] [] fresh
 | c :: cs, k => newV1 fresh c fun v ws f => newVs f cs fun vs ws' f' => k (v :: vs) (ws ++ ws') f'
def newV (fresh : Nat) : V -> (SV -> Ws -> Nat -> Prog) -> Prog
 | .tup l, k => newVs fresh l fun vs ws f => k (.tup vs) ws f
 | v, k => newV1 fresh v k
def opnds : List Operand -> (List SV -> Prog) -> Prog
 | [], k => k []
 | o :: r, k => opnd o fun v => opnds r fun vs => k (v :: vs)
def roC (T : Tab) (t : Nat) (v : SV) (k : C -> Prog) : Prog :=
 match v with
 | .s x => k (.s x)
 | .nils => match lk T t with
  | some ti => match ti.kind with
   | .slice e => match innerSz T e with
    | some sz => bif Nat.blt 0 sz then k (.nest false sz []) else .fail
    | none => bif Nat.blt 0 (sizeT T e) then k (.flat false (sizeT T e) []) else .fail
   | _ => .fail
  | none => .fail
 | .sl n none sub => .ent n fun
  | .flat _ sz rows => k (.flat false sz (cut sub rows))
  | .nest _ sz rows [] _ => k (.nest false sz (cut sub rows))
  | .fnest _ sz rows => k (.nest false sz (cut sub rows))
  | _ => .fail
 | .sl n (some (r, ver)) sub => rowOf n false r ver fun sz _ _ _ fl => k (.flat false sz (cut sub fl))
 | _ => .fail
def roCs (T : Tab) : List Nat -> List SV -> (List C -> Prog) -> Prog
 | [], [], k => k []
 | t :: ts, v :: vs, k => roC T t v fun c => roCs T ts vs fun cs => k (c :: cs)
 | _, _, _ => .fail
def roCap (v : SV) (k : C -> Prog) : Prog :=
 match v with
 | .ptr n 0 => .ent n fun
  | .blk [.s x] => k (.cap x)
  | .rblk [.s x] => k (.cap x)
  | _ => .fail
 | _ => .fail
def roCaps : List SV -> (List C -> Prog) -> Prog
 | [], k => k []
 | v :: vs, k => roCap v fun c => roCaps vs fun cs => k (c :: cs)
def roV (T : Tab) (t : Nat) (v : SV) (k : V -> Prog) : Prog :=
 match v with
 | .fn f l => roCaps l fun cs => k (.clo f cs)
 | .agg l => match lk T t with
  | some ti => roCs T ti.cells l fun cs => k (.agg cs)
  | none => .fail
 | v => roC T t v fun c => k (.one c)
def roVs (T : Tab) : List Nat -> List SV -> (List V -> Prog) -> Prog
 | [], [], k => k []
 | t :: ts, v :: vs, k => roV T t v fun x => roVs T ts vs fun xs => k (x :: xs)
 | _, _, _ => .fail
def flatC : V -> List C
 | .one c => [c]
 | .agg l => l
 | .clo _ l => l
 | .tup _ => []
def flatV : V -> List C
 | .tup l => l.flatMap flatC
 | v => flatC v
def ownC : C -> Bool
 | .s _ => true
 | .flat own _ _ | .nest own _ _ => own
 | .dead => false
 | .cap _ => false
def ownV1 : V -> Bool
 | .one c => ownC c
 | .agg l => l.all ownC
 | _ => false
def ownV : V -> Bool
 | .tup l => l.all ownV1
 | v => ownV1 v
def turnP (fresh : Nat) (con : Con) (args : List SV) : Prog :=
 match args with
 | [.sl n none none, .s x] => .ent n fun
  | .flat true sz rows => .call con.F [.one (.flat true sz rows), .one (.s x)] fun r _ => (match r with
   | .one (.flat true sz' rows') => bif Nat.beq sz' sz then .ret (.sl fresh none none) [(fresh, some (.flat true sz rows')), (n, none)] else .fail
   | _ => .fail)
  | _ => .fail
 | [.sl n none none, .s x, .s y] => .ent n fun
  | .flat true sz rows => .call con.F [.one (.flat true sz rows), .one (.s x), .one (.s y)] fun r _ => (match r with
   | .one (.flat true sz' rows') => bif Nat.beq sz' sz then .ret (.sl fresh none none) [(fresh, some (.flat true sz rows')), (n, none)] else .fail
   | _ => .fail)
  | _ => .fail
 | [.sl n (some (r, ver)) none, .s x] => rowOf n true r ver fun sz rows holes log fl => .call con.F [.one (.flat true sz fl), .one (.s x)] fun res _ => (match res with
   | .one (.flat true sz' rows') => bif Nat.beq sz' sz then .ret (.sl fresh none none) [(fresh, some (.flat true sz rows')), (n, some (.nest true sz rows (r :: holes) (r :: log)))] else .fail
   | _ => .fail)
 | _ => .fail
def pureP (T : Tab) (fresh : Nat) (con : Con) (ts : List Nat) (args : List SV) : Prog :=
 roVs T ts args fun vs => .call con.F vs fun r _ => bif ownV r && Nat.ble (flatV r).length 16 then newV fresh r fun v ws _ => .ret v ws else .fail
def encMap (l : List (List Int × Int)) : V := .one (.nest false 1 (l.map fun p => (p.2 :: p.1).map fun n => [Sc.i .i64 n]))
def isRec : List Bool -> Bool
 | [false, false] => true
 | _ => false
def cellM (n : Nat) (k : Nat -> Prog) : Prog := .ent n fun
 | .blk [.mp m] => k m
 | .rblk [.mp m] => k m
 | _ => .fail
def entM (m : Nat) (k : List (List Int × Int) -> Prog) : Prog := .ent m fun
 | .map ag nk l => bif ag && Nat.beq nk 2 then k l else .fail
 | .rmap ag nk l => bif ag && Nat.beq nk 2 then k l else .fail
 | _ => .fail
def recP (fresh : Nat) (con : Con) (args : List SV) : Prog :=
 match args with
 | [.s (.i .i64 x), .s (.i .i64 y), .ptr n1 0, .ptr n2 0] => cellM n1 fun m => entM m fun l => .ent n2 fun
  | .fnb _ f' [.ptr a1 0, .ptr a2 0] => bif Nat.beq a1 n1 && Nat.beq a2 n2 then .call con.F [encMap l, .one (.s (.i .i64 (f' : Int))), .one (.s (.i .i64 x)), .one (.s (.i .i64 y))] fun r _ => (match r with
   | .one (.flat true sz rows) => .ret (.sl fresh none none) [(fresh, some (.flat true sz rows))]
   | _ => .fail) else .fail
  | _ => .fail
 | _ => .fail
def wholeS : SV -> Bool
 | .sl _ none none => true
 | _ => false
def oneV : V -> Bool
 | .one _ => true
 | _ => false
def passP (T : Tab) (fresh : Nat) (con : Con) (ts : List Nat) (args : List SV) : Prog :=
 match args with
 | [.agg (v0 :: rest)] => bif rest.all wholeS then roVs T ts args fun vs => .call con.F vs fun r _ => bif (ownV r && Nat.ble (flatV r).length 16) && oneV r then newV fresh r fun v ws _ => .ret (.agg (v :: rest)) ws else .fail else .fail
 | _ => .fail
def allocP (fresh : Nat) (ti : TI) : Prog :=
 bif isGreat ti then (match ti.zero with
  | .s x :: _ => .ret (.ptr fresh 0) [(fresh, some (.flat true 1 (List.replicate ti.size [x])))]
  | _ => .fail)
 else .ret (.ptr fresh 0) [(fresh, some (.blk ti.zero))]
def boxP (fresh : Nat) (v : SV) : Prog := bif (cellsOf v).all solid then .ret (.ptr fresh 0) [(fresh, some (.blk (cellsOf v)))] else .fail
def assignP (x : Operand) : Prog := match x with
 | .const (.pointer none) => .ret .bad []
 | .const .nilFunc => .ret .bad []
 | .func f => .ret (.fn f []) []
 | x => opnd x fun v => .ret v []
def opP (Γ : List (Nat × Con)) (T : Tab) (fresh : Nat) (o : Op) : Prog :=
 match o with
 | .move x => opnd x fun v => .ret v []
 | .assign x => assignP x
 | .pick c a b => opnd c fun
  | .s (.b c) => .test c (opnd a fun v => .ret v []) (opnd b fun v => .ret v [])
  | _ => .fail
 | .alloc t => match lk T t with
  | some ti => allocP fresh ti
  | none => .fail
 | .box _ x => opnd x (boxP fresh)
 | .build t parts => buildP T t parts.toList
 | .buildSlice t len parts => buildSliceP T fresh t len parts.toList
 | .load t a => opnd a fun v => match lk T t with | some ti => loadP fresh ti v | none => .fail
 | .store t a x => opnd a fun v => opnd x fun y => match lk T t with | some ti => storeP ti v y | none => .fail
 | .binOp op t x y _ => opnd x fun a => opnd y fun b => binP T t op a b
 | .unOp op _ x => opnd x (unP op)
 | .makeSlice t l c => opnd l fun a => opnd c fun b => makeSliceP T fresh t a b
 | .slice t x lo hi mx => opnd x fun v => optOpnd lo .bad fun a => optOpnd hi .bad fun b => optOpnd mx .bad fun c => slicePM T fresh t v a b c
 | .fieldAddr t x f => opnd x fun v => fieldAddrP T t v f
 | .field t x f => opnd x fun v => fieldP T t v f
 | .indexAddr t x i => opnd x fun v => opnd i fun w => indexAddrP T t v w
 | .extract x i => opnd x fun | .tup l => (match nth l i with | some v => .ret v [] | none => .fail) | _ => .fail
 | .convert src dst x => match lk T src, lk T dst with
  | some si, some ti => match si.kind, ti.kind with
   | .int _, .int k => opnd x fun
    | .s (.i _ n) => .test (inK k n) (.ret (.s (.i k n)) []) .fail
    | _ => .fail
   | _, _ => .fail
  | _, _ => .fail
 | .nilCheck x => opnd x fun
  | .ptr n o => .ret (.ptr n o) []
  | .ep n none sz i j => .ret (.ep n none sz i j) []
  | .ep n (some (r, ver)) sz i j => rowOf n false r ver fun _ _ _ _ _ => .ret (.ep n (some (r, ver)) sz i j) []
  | _ => .fail
 | .makeMap t none => bif isFmap T t then fmakeP fresh else makeMapP T fresh t
 | .mapUpdate t m k v => opnd m fun a => opnd k fun b => opnd v fun c => bif isFmap T t then fupdateP a b c else mapUpdateP T t a b c
 | .lookup t m k false => opnd m fun a => opnd k fun b => bif isFmap T t then flookupP fresh a b else lookupP T t a b
 | .lookup t m k true => opnd m fun a => opnd k fun b => lookup2P T t a b
 | .makeFunc (.func f) first caps => match first.toList with
  | [] => opnds caps.toList fun vs => bif vs.all solid then .ret (.fn f vs) [] else .fail
  | _ => .fail
 | .call c => match c.callee, c.args.toList, c.argTypes.toList with
  | .builtin .len, [x], [t] => match lk T t with
   | some ti => match ti.kind with
    | .slice _ => opnd x fun
     | .nils => .ret (.s (.i .i64 0)) []
     | .sl n none none => .ent n fun
      | .flat _ _ rows => .ret (.s (.i .i64 rows.length)) []
      | .nest _ _ rows _ _ => .ret (.s (.i .i64 rows.length)) []
      | .fnest _ _ rows => .ret (.s (.i .i64 rows.length)) []
      | .was L _ => .ret (.s (.i .i64 L)) []
      | _ => .fail
     | .sl n row sub => lenP n row sub fun L _ _ => .ret (.s (.i .i64 L)) []
     | _ => .fail
    | _ => .fail
   | none => .fail
  | .builtin .append, [x, y], [t, t'] => bif Nat.beq t t' then opnd x fun a => opnd y fun b => appendP T fresh t a b else .fail
  | .builtin .copy, [x, y], [t, t'] => bif Nat.beq t t' then opnd x fun a => opnd y fun b => copyP T t a b else .fail
  | .builtin .clear, [x], [t] => opnd x fun v => clearP T t v
  | .builtin .min, x :: r, _ => opnd x fun | .s (.i k a) => mnmx false a r fun m => .ret (.s (.i k m)) [] | _ => .fail
  | .builtin .max, x :: r, _ => opnd x fun | .s (.i k a) => mnmx true a r fun m => .ret (.s (.i k m)) [] | _ => .fail
  | .value (.func f), as, ts => match lk Γ f with
   | some con => opnds as fun vs => bif con.ro.all id && !con.rro then pureP T fresh con ts vs else (bif con.rro then turnP fresh con vs else bif isRec con.ro then recP fresh con vs else passP T fresh con ts vs)
   | none => .fail
  | .value (.tmp t), as, _ => bif Nat.blt t 1000000 then .slot t fun
   | .fn f caps => (match lk Γ f with
    | some con => bif isRec con.ro && !con.rro then opnds as fun vs => recP fresh con (vs ++ caps) else .fail
    | none => .fail)
   | _ => .fail
   else .fail
  | _, _, _ => .fail
 | _ => .fail
def names1 : SV -> List Nat
 | .ptr n _ | .ep n _ _ _ _ | .sl n _ _ | .mp n | .fc _ n => [n]
 | _ => []
def namesL1 : List SV -> List Nat
 | [] => []
 | v :: r => names1 v ++ namesL1 r
def names2 : SV -> List Nat
 | .agg l | .fn _ l => namesL1 l
 | v => names1 v
def namesL2 : List SV -> List Nat
 | [] => []
 | v :: r => names2 v ++ namesL2 r
def names3 : SV -> List Nat
 | .tup l => namesL2 l
 | v => names2 v
def namesE : Ent -> List Nat
 | .blk cs | .rblk cs | .fnb _ _ cs => namesL1 cs
 | _ => []
def namesW : Ws -> List Nat
 | [] => []
 | (n, some e) :: r => n :: (namesE e ++ namesW r)
 | (n, none) :: r => n :: namesW r
def within (fresh : Nat) (seen : List Nat) : List Nat -> Bool
 | [] => true
 | n :: r => ((Nat.ble fresh n && Nat.blt n (fresh + 16)) || seen.elem n) && within fresh seen r
def keysW : Ws -> List Nat
 | [] => []
 | (n, _) :: r => (2 * n + 1) :: keysW r
abbrev Sl := List (Nat × SV)
abbrev En := List (Nat × Option Ent)
def Pick (c : Bool) (A B : Prop) : Prop := match c with | true => A | false => B
theorem Pick.by {c : Bool} {A B : Prop} (h : c = true -> A) (k : c = false -> B) : Pick c A B := by cases c <;> simp_all [Pick]
theorem Pick.T {c : Bool} {A B : Prop} (h : c = true) (k : A) : Pick c A B := by simp_all [Pick]
theorem Pick.F {c : Bool} {A B : Prop} (h : c = false) (k : B) : Pick c A B := by simp_all [Pick]
def wpP (sl : Sl) (en : En) (fresh : Nat) : Prog -> (seen rd : List Nat) -> (List Nat -> SV -> Ws -> Prop) -> Prop
 | .ret v ws, seen, rd, Q => bif within fresh seen (names3 v ++ namesW ws) then Q rd v ws else False
 | .fail, _, _, _ => False
 | .slot t k, seen, rd, Q => match lk sl t with | some v => wpP sl en fresh (k v) (names3 v ++ seen) ((2 * t) :: rd) Q | none => False
 | .ent n k, seen, rd, Q => match lk en n with | some (some e) => wpP sl en fresh (k e) (namesE e ++ seen) ((2 * n + 1) :: rd) Q | _ => False
 | .test c t e, seen, rd, Q => Pick c (wpP sl en fresh t seen rd Q) (wpP sl en fresh e seen rd Q)
 | .idx a L k, seen, rd, Q => ∃ m : Nat, a = m /\ m < L /\ wpP sl en fresh (k m) seen rd Q
 | .rng a b L k, seen, rd, Q => ∃ m n : Nat, a = m /\ b = n /\ m <= n /\ n <= L /\ wpP sl en fresh (k m n) seen rd Q
 | .look l i k, seen, rd, Q => ∃ x, l[i]? = some x /\ wpP sl en fresh (k x) seen rd Q
 | .look2 l i k, seen, rd, Q => ∃ x, l[i]? = some x /\ wpP sl en fresh (k x) seen rd Q
 | .call F vs k, seen, rd, Q => ∃ r outs, F vs = some (r, outs) /\ wpP sl en fresh (k r outs) seen rd Q
def pushW : Ws -> En -> (En -> Prop) -> Prop
 | [], en, K => K en
 | (n, e) :: r, en, K => pushW r en fun en' => K ((n, e) :: en')
abbrev Log := List (List Nat × List Nat)   -- of each operation: what it reads, what it writes
abbrev CallR := Nat -> List SV -> (SV -> Sl -> En -> Nat -> Prop) -> Sl -> En -> Nat -> Prop
structure Inl where
 code : Code
 res : List ResultVar
 nt : Nat
structure Cx where
 Γ : List (Nat × Con)
 T : Tab
 nt : Nat
 inl : List (Nat × Inl) := []
 ext : List Nat := []
 join : List Nat := []
 jc : List Nat := []
 pt : List Nat := []
 base : CallR := fun _ _ _ _ _ _ => False
def dstOf (ops : List Oper) (j : Nat) : Option Nat := match nth ops j with | some o => o.dst | none => none
def goP (X : Cx) (o : Oper) (fresh : Nat) (sl : Sl) (en : En) (rd0 : List Nat) (log : Log) (K : Sl -> En -> Log -> Prop) : Prop :=
 wpP sl en fresh (opP X.Γ X.T fresh o.op) [] rd0 fun rd v ws =>
  match o.dst with
  | some d => bif Nat.blt d X.nt then pushW ws en fun en' => K ((d, v) :: sl) en' ((rd, (2 * d) :: keysW ws) :: log) else False
  | none => pushW ws en fun en' => K sl en' ((rd, keysW ws) :: log)
def skipP (X : Cx) (o : Oper) (sl : Sl) (en : En) (rd : List Nat) (log : Log) (K : Sl -> En -> Log -> Prop) : Prop :=
 match o.dst with
 | some d => bif Nat.blt d X.nt then K ((d, .und) :: sl) en ((rd, [2 * d]) :: log) else False
 | none => K sl en ((rd, []) :: log)
def wpOps (X : Cx) (nx : Nat) (all : List Oper) : List Oper -> Nat -> Sl -> En -> Log -> (Sl -> En -> Log -> Prop) -> Prop
 | [], _, sl, en, log, Q => Q sl en log
 | o :: r, i, sl, en, log, Q =>
  match o.guard with
  | none => goP X o (nx + 16 * i) sl en [] log fun sl en log => wpOps X nx all r (i + 1) sl en log Q
  | some (j, want) => match dstOf all j with
   | none => False
   | some g => match lkT sl g with
    | some (.s (.b c)) => Pick c
     (bif want then goP X o (nx + 16 * i) ((g, .s (.b true)) :: sl) en [2 * g] log fun sl en log => wpOps X nx all r (i + 1) sl en log Q
      else skipP X o ((g, .s (.b true)) :: sl) en [2 * g] log fun sl en log => wpOps X nx all r (i + 1) sl en log Q)
     (bif want then skipP X o ((g, .s (.b false)) :: sl) en [2 * g] log fun sl en log => wpOps X nx all r (i + 1) sl en log Q
      else goP X o (nx + 16 * i) ((g, .s (.b false)) :: sl) en [2 * g] log fun sl en log => wpOps X nx all r (i + 1) sl en log Q)
    | some .und => skipP X o sl en [2 * g] log fun sl en log => wpOps X nx all r (i + 1) sl en log Q
    | _ => False
def anc : List Oper -> List Nat -> List Nat
 | [], acc => acc
 | o :: r, acc => anc r (acc ++ [o.after.toList.foldl (fun s e => bif Region.binds .any e then s ||| 2 ^ e.on ||| acc.getD e.on 0 else s) 0])
def meets (a b : List Nat) : Bool := a.any fun x => b.elem x
def forceN {α : Type} (n : Nat) (k : Nat -> α) : α := match n with | 0 => k 0 | m + 1 => k (m + 1)
def forceL {α : Type} : List Nat -> (List Nat -> α) -> α
 | [], k => k []
 | n :: r, k => forceN n fun n => forceL r fun r => k (n :: r)
def forceG {α : Type} : List (List Nat × List Nat) -> (List (List Nat × List Nat) -> α) -> α
 | [], k => k []
 | (x, y) :: r, k => forceL x fun x => forceL y fun y => forceG r fun r => k ((x, y) :: r)
def ancF {α : Type} : List Oper -> List Nat -> (List Nat -> α) -> α
 | [], acc, k => k acc
 | o :: r, acc, k => forceN (o.after.toList.foldl (fun s e => bif Region.binds .any e then s ||| 2 ^ e.on ||| acc.getD e.on 0 else s) 0) fun a => ancF r (acc ++ [a]) k
def memF (x : Nat) : List Nat -> Bool
 | [] => false
 | y :: r => Nat.beq x y || memF x r
def meetsF : List Nat -> List Nat -> Bool
 | [], _ => false
 | x :: r, b => memF x b || meetsF r b
def clashF (x y : List Nat × List Nat) : Bool := meetsF x.2 y.1 || meetsF x.2 y.2 || meetsF x.1 y.2
def chk1 (a : Nat) (x : List Nat × List Nat) : Nat -> List (List Nat × List Nat) -> Bool
 | _, [] => true
 | k, y :: r => (a.testBit k || !clashF y x) && chk1 a x (k + 1) r
def chkG (lo : Nat) : List Nat -> List (List Nat × List Nat) -> List (List Nat × List Nat) -> Bool
 | _, _, [] => true
 | [], _, _ :: _ => false
 | a :: an, prev, x :: r => chk1 a x lo prev && chkG lo an (prev ++ [x]) r
@[irreducible] def okSeg (ops : List Oper) (lo : Nat) (log : List (List Nat × List Nat)) : Bool :=
 ancF ops [] fun an => forceG log fun log => chkG lo (an.drop lo) [] log
def okBack (ops : List Oper) : Bool :=
 (List.range ops.length).all fun i => match ops[i]? with | some o => o.after.toList.all (fun e => !Region.binds .any e || decide (e.on < i)) | none => true
def barG (p : Nat) (a : Nat) : Nat -> List Nat -> Bool
 | _, [] => true
 | i, b :: r => (bif Nat.blt i p then a.testBit i else bif Nat.beq i p then true else b.testBit p) && barG p a (i + 1) r
@[irreducible] def isBar (ops : List Oper) (p : Nat) : Bool := ancF ops [] fun an => barG p (an.getD p 0) 0 an
def Drw (d : Bool) (A B : Prop) : Prop := match d with | true => A /\ B | false => B
def inlOp (X : Cx) (o : Oper) : Bool :=
 match o.op with
 | .call c => match c.callee with
  | .value (.tmp t) => !(memF t X.pt)
  | .value (.func f) => (lk X.inl f).isSome || X.ext.elem f
  | _ => false
 | _ => false
def segOf (X : Cx) : List Oper -> List Oper × List Oper
 | [] => ([], [])
 | o :: r => bif inlOp X o then ([], o :: r) else (o :: (segOf X r).1, (segOf X r).2)
def svOf (sl : Sl) : Operand -> Option SV
 | .tmp t => lkT sl t
 | .const (.int kd n) => some (.s (.i kd n))
 | .const (.bool b) => some (.s (.b b))
 | .const (.slice none 0 0) => some .nils
 | .func f => some (.fn f [])
 | _ => none
def svsOf (sl : Sl) : List Operand -> Option (List SV)
 | [] => some []
 | o :: r => match svOf sl o with
  | some v => match svsOf sl r with
   | some vs => some (v :: vs)
   | none => none
  | none => none
def calleeOf (sl : Sl) (c : Call) : Option (Nat × List SV) :=
 match c.callee with
 | .value (.func f) => some (f, [])
 | .value (.tmp t) => match lkT sl t with
  | some (.fn f caps) => some (f, caps)
  | _ => none
 | _ => none
def inlP (cr : CallR) (X : Cx) (o : Oper) (K : Sl -> En -> Nat -> Prop) (sl : Sl) (en : En) (nx : Nat) : Prop :=
 match o.op with
 | .call c => match calleeOf sl c, svsOf sl c.args.toList with
  | some (f, caps), some vs => cr f (vs ++ caps) (fun v sl' en' nx' => match o.dst with
   | some d => bif Nat.blt d X.nt then K ((d, v) :: sl') en' nx' else False
   | none => K sl' en' nx') sl en nx
  | _, _ => False
 | _ => False
def skipI (X : Cx) (o : Oper) (K : Sl -> En -> Nat -> Prop) (sl : Sl) (en : En) (nx : Nat) : Prop :=
 match o.dst with
 | some d => bif Nat.blt d X.nt then K ((d, .und) :: sl) en nx else False
 | none => K sl en nx
def inlG (cr : CallR) (X : Cx) (all : List Oper) (o : Oper) (K : Sl -> En -> Nat -> Prop) (sl : Sl) (en : En) (nx : Nat) : Prop :=
 match o.guard with
 | none => inlP cr X o K sl en nx
 | some (j, want) => match dstOf all j with
  | none => False
  | some g => match lkT sl g with
   | some (.s (.b c)) => Pick c
    (bif want then inlP cr X o K ((g, .s (.b true)) :: sl) en nx else skipI X o K ((g, .s (.b true)) :: sl) en nx)
    (bif want then skipI X o K ((g, .s (.b false)) :: sl) en nx else inlP cr X o K ((g, .s (.b false)) :: sl) en nx)
   | some .und => skipI X o K sl en nx
   | _ => False
def adv : List Oper -> Nat -> Nat
 | [], n => n
 | _ :: r, n => adv r (n + 16)
theorem adv_eq : ∀ (l : List Oper) (n : Nat), adv l n = n + 16 * l.length := by
 intro l
 induction l with
 | nil => intro n; rfl
 | cons o r ih => intro n; simp only [adv, ih, List.length_cons]; omega
def wpReg (cr : CallR) (X : Cx) (draw : Bool) (all : List Oper) (Q : Sl -> En -> Nat -> Prop) : Nat -> Nat -> List Oper -> Sl -> En -> Nat -> Prop
 | 0, _, _, _, _, _ => False
 | fuel + 1, i, l, sl, en, nx => match segOf X l with
  | (pre, []) => wpOps X nx all pre i sl en [] fun sl' en' log => Drw draw (okSeg all i log.reverse = true) (Q sl' en' (adv all nx))
  | (pre, c :: post) => wpOps X nx all pre i sl en [] fun sl' en' log => Drw draw (okSeg all i log.reverse = true /\ isBar all (i + pre.length) = true)
    (inlG cr X all c (fun sl2 en2 nx2 => wpReg cr X draw all Q fuel (i + pre.length + 1) post sl2 en2 nx2) sl' en' (adv all nx))
def renV (σ : List (Nat × Option Nat)) (en : En) : SV -> SV -> Prop
 | .s x, .s y => x = y
 | .nils, .nils => True
 | .ptr n o, .ptr m o' => lk σ n = some (some m) /\ o = o'
 | .sl n none sub, .nils => lk σ n = some none /\ sub = none
 | .sl n none sub, .sl m none sub' => lk σ n = some (some m) /\ sub = sub'
 | .sl n (some (i, fr)) sub, .sl m (some (j, ver)) sub' => lk σ n = some (some m) /\ sub = sub' /\ i = j /\ fr = 0 /\
   match lk en m with
   | some (some (.nest _ _ _ holes log)) => i ∉ holes /\ ∀ c ∈ log.take (log.length - ver), c ≠ i
   | _ => False
 | .mp n, .mp m => lk σ n = some (some m)
 | .fc f n, .fc f' m => f = f' /\ lk σ n = some (some m)
 | .und, .und => True
 | .bad, _ => True
 | _, _ => False
def renVs (σ : List (Nat × Option Nat)) (en : En) : List SV -> List SV -> Prop
 | [], [] => True
 | v :: vs, u :: us => renV σ en v u /\ renVs σ en vs us
 | _, _ => False
def renV2 (σ : List (Nat × Option Nat)) (en : En) : SV -> SV -> Prop
 | .agg l, .agg m => renVs σ en l m
 | .fn f l, .fn f' m => f = f' /\ renVs σ en l m
 | v, u => renV σ en v u
def renE (σ : List (Nat × Option Nat)) (en : En) : Ent -> Ent -> Prop
 | .blk l, .blk m => renVs σ en l m
 | .rblk l, .rblk m => renVs σ en l m
 | .flat own sz rows, .flat own' sz' rows' => own = own' /\ sz = sz' /\ rows = rows'
 | .map ag nk l, .map ag' nk' l' => ag = ag' /\ nk = nk' /\ l = l'
 | .rmap ag nk l, .rmap ag' nk' l' => ag = ag' /\ nk = nk' /\ l = l'
 | .fnb own f l, .fnb own' f' m => own = own' /\ f = f' /\ renVs σ en l m
 | .nest own sz rows holes log, .nest own' sz' rows' holes' _ => own = own' /\ sz = sz' /\ rows = rows' /\ holes = [] /\ holes' = [] /\ log = []
 | .fnest own sz rows, .fnest own' sz' rows' => own = own' /\ sz = sz' /\ rows = rows'
 | .fmap l, .fmap l' => l = l'
 | _, _ => False
def emptyE : Ent -> Prop
 | .flat _ sz rows => rows = [] /\ Nat.blt 0 sz = true
 | .nest _ sz rows holes log => rows = [] /\ holes = [] /\ log = [] /\ Nat.blt 0 sz = true
 | .fnest _ sz rows => rows = [] /\ Nat.blt 0 sz = true
 | _ => False
def weakS (σ : List (Nat × Option Nat)) (sl : Sl) (en : En) : Sl -> Prop
 | [] => True
 | (t, v) :: r => (match lk sl t with | some u => renV2 σ en v u | none => False) /\ weakS σ sl en r
def weakE (σ : List (Nat × Option Nat)) (en : En) : En -> Prop
 | [] => True
 | (n, some e) :: r => (match lk σ n with
   | some (some m) => match lk en m with | some (some f) => renE σ en e f | _ => False
   | some none => emptyE e
   | none => False) /\ weakE σ en r
 | (_, none) :: _ => False
def dup : List Nat -> Bool
 | [] => false
 | n :: r => r.elem n || dup r
def images : List (Nat × Option Nat) -> List Nat
 | [] => []
 | (_, some m) :: r => m :: images r
 | (_, none) :: r => images r
def firsts {α : Type} : List (Nat × α) -> List Nat
 | [] => []
 | (n, _) :: r => n :: firsts r
def tidy (σ : List (Nat × Option Nat)) (nx : Nat) (sl : Sl) (en : En) : Bool :=
 !dup (images σ) && !dup (firsts σ) && !dup (firsts sl) && !dup (firsts en) && (firsts σ).all (fun n => Nat.blt n nx) && (firsts en).all (fun n => (lk σ n).isSome) && en.all (fun e => match e.2 with | some e => (namesE e).all (fun n => (lk σ n).isSome) | none => false) && sl.all (fun e => (names2 e.2).all (fun n => (lk σ n).isSome))
def Weak0 (sl : Sl) (en : En) (sl' : Sl) (en' : En) (nx' : Nat) : Prop := ∃ σ, tidy σ nx' sl' en' = true /\ weakS σ sl en sl' /\ weakE σ en en'
def frz1 (n : Nat) (en : En) : En := match lk en n with
 | some (some (.flat _ sz rows)) => (n, some (.flat false sz rows)) :: en
 | some (some (.nest own sz rows [] _)) => (n, some (.fnest own sz rows)) :: en
 | _ => en
def frz : List Nat -> En -> En
 | [], en => en
 | n :: r, en => frz r (frz1 n en)
def Weak (sl : Sl) (en : En) (sl' : Sl) (en' : En) (nx' : Nat) : Prop := ∃ fz, Weak0 sl (frz fz en) sl' en' nx'
abbrev Post := Exit -> Sl -> En -> Nat -> Prop
@[irreducible] def LoopP (body : Post -> Sl -> En -> Nat -> Prop) (Q : Post) (sl : Sl) (en : En) : Prop :=
 ∃ (α : Type) (I : α -> Prop) (μ : α -> Nat) (A : α -> Sl) (B : α -> En) (nx : Nat) (a : α), I a /\ Weak sl en (A a) (B a) nx /\
  ∀ a, I a -> body (fun e sl en nx' => match e with | .normal => ∃ b, I b /\ μ b < μ a /\ Weak sl en (A b) (B b) nx | e => Q e sl en nx') (A a) (B a) nx
theorem LoopP.intro {body : Post -> Sl -> En -> Nat -> Prop} {Q : Post} {sl : Sl} {en : En} {α : Type} (I : α -> Prop) (μ : α -> Nat) (A : α -> Sl) (B : α -> En) (nx : Nat) (a : α) (hI : I a)
  (h : Weak sl en (A a) (B a) nx)
  (r : ∀ a, I a -> body (fun e sl en nx' => match e with | .normal => ∃ b, I b /\ μ b < μ a /\ Weak sl en (A b) (B b) nx | e => Q e sl en nx') (A a) (B a) nx) : LoopP body Q sl en := by
 unfold LoopP; exact ⟨α, I, μ, A, B, nx, a, hI, h, r⟩
@[irreducible] def JoinP (ex : Nat -> Bool) (body : Post -> Sl -> En -> Nat -> Prop) (Q : Post) (sl : Sl) (en : En) (nx : Nat) : Prop :=
 ∃ (α : Type) (I : α -> Prop) (A : α -> Sl) (B : α -> En) (nx2 : Nat),
  body (fun e sl en nx' => match e with | .normal => ∃ a, I a /\ Weak sl en (A a) (B a) nx2 | .exit i => bif ex i then (∃ a, I a /\ Weak sl en (A a) (B a) nx2) else Q (.exit i) sl en nx' | e => Q e sl en nx') sl en nx /\
  ∀ a, I a -> Q .normal (A a) (B a) nx2
theorem JoinP.intro {ex : Nat -> Bool} {body : Post -> Sl -> En -> Nat -> Prop} {Q : Post} {sl : Sl} {en : En} {nx : Nat} {α : Type} (I : α -> Prop) (A : α -> Sl) (B : α -> En) (nx2 : Nat)
  (h : body (fun e sl en nx' => match e with | .normal => ∃ a, I a /\ Weak sl en (A a) (B a) nx2 | .exit i => bif ex i then (∃ a, I a /\ Weak sl en (A a) (B a) nx2) else Q (.exit i) sl en nx' | e => Q e sl en nx') sl en nx)
  (k : ∀ a, I a -> Q .normal (A a) (B a) nx2) : JoinP ex body Q sl en nx := by
 unfold JoinP; exact ⟨α, I, A, B, nx2, h, k⟩
def condP (t : Nat) (x y : Post -> Sl -> En -> Nat -> Prop) (Q : Post) (sl : Sl) (en : En) (nx : Nat) : Prop := match lkT sl t with
 | some (.s (.b c)) => Pick c (x Q ((t, .s (.b true)) :: sl) en nx) (y Q ((t, .s (.b false)) :: sl) en nx)
 | _ => False
def wpC (cr : CallR) (X : Cx) : Code -> Post -> Sl -> En -> Nat -> Prop
 | .skip, Q, sl, en, nx => Q .normal sl en nx
 | .label _, Q, sl, en, nx => Q .normal sl en nx
 | .region _ ops draw, Q, sl, en, nx => bif !draw || okBack ops.toList then wpReg cr X draw ops.toList (fun sl' en' nx' => Q .normal sl' en' nx') (ops.toList.length + 1) 0 ops.toList sl en nx else False
 | .seq a b, Q, sl, en, nx => wpC cr X a (fun e sl en nx => match e with | .normal => wpC cr X b Q sl en nx | e => Q e sl en nx) sl en nx
 | .cond (.tmp t) x y, Q, sl, en, nx => bif X.jc.elem (X.nt * 1000 + t) then JoinP (fun _ => false) (condP t (wpC cr X x) (wpC cr X y)) Q sl en nx else condP t (wpC cr X x) (wpC cr X y) Q sl en nx
 | .cond (.const (.bool c)) x y, Q, sl, en, nx => bif c then wpC cr X x Q sl en nx else wpC cr X y Q sl en nx
 | .block id c, Q, sl, en, nx => bif X.join.elem (X.nt * 1000 + id) then JoinP (fun i => Nat.beq i id) (wpC cr X c) Q sl en nx else wpC cr X c (fun e sl en nx => match e with | .exit i => bif Nat.beq i id then Q .normal sl en nx else Q (.exit i) sl en nx | e => Q e sl en nx) sl en nx
 | .loop c, Q, sl, en, _ => LoopP (wpC cr X c) Q sl en
 | .scope c, Q, sl, en, nx => wpC cr X c (fun e sl en nx => match e with | .goto _ => False | e => Q e sl en nx) sl en nx
 | .exit id, Q, sl, en, nx => Q (.exit id) sl en nx
 | .ret, Q, sl, en, nx => Q .ret sl en nx
 | _, _, _, _, _ => False
def up : Sl -> Sl
 | [] => []
 | (t, v) :: r => (t + 1000000, v) :: up r
def down : Sl -> Sl
 | [] => []
 | (t, v) :: r => bif Nat.ble 1000000 t then (t - 1000000, v) :: down r else down r
def slIn : Nat -> List SV -> Sl
 | _, [] => []
 | i, v :: r => (i, v) :: slIn (i + 1) r
def resP (T : Tab) (sl : Sl) (en : En) : List ResultVar -> (List SV -> Prop) -> Prop
 | [], K => K []
 | .tmp t :: r, K => match lkT sl t with
  | some v => resP T sl en r fun vs => K (v :: vs)
  | none => False
 | .cell a t :: r, K => match lkT sl a with
  | some (.ptr n 0) => match lk T t with
   | some ti => match lk en n with
    | some (some (.blk cs)) => bif ti.isAgg then (bif Nat.beq cs.length ti.size then resP T sl en r fun vs => K (.agg cs :: vs) else False) else match cs with
     | [v] => resP T sl en r fun vs => K (v :: vs)
     | _ => False
    | some (some (.flat _ sz rows)) => bif isGreat ti && Nat.beq sz 1 then (rows.length = ti.size /\ resP T sl en r fun vs => K (.vec (unvec rows) :: vs)) else False
    | _ => False
   | none => False
  | _ => False
def isTup : SV -> Bool
 | .tup _ => true
 | _ => false
def packS (rs : List SV) (K : SV -> Prop) : Prop :=
 match rs with
 | [v] => K v
 | rs => bif rs.all (fun v => !isTup v) then K (.tup rs) else False
def endI (T : Tab) (res : List ResultVar) (K : SV -> Sl -> En -> Nat -> Prop) : Post := fun e sl en nx =>
 match e with
 | .normal | .ret => resP T sl en res fun rs => packS rs fun v => K v (down sl) en nx
 | _ => False
def callAt : Nat -> Cx -> CallR
 | 0, _ => fun _ _ _ _ _ _ => False
 | d + 1, X => fun f vs K sl en nx => match lk X.inl f with
  | some i => bif Nat.ble vs.length i.nt && vs.all (fun v => !isTup v) then wpC (callAt d X) { X with nt := i.nt } i.code (endI X.T i.res K) (slIn 0 vs ++ up sl) en nx else False
  | none => X.base f vs K sl en nx
end Go.Sh
end
namespace Go.Sh
structure S where
 fs : Nat -> Option SV
 fe : Nat -> Option Ent
@[ext] theorem S.ext' {a b : S} (h : ∀ t, a.fs t = b.fs t) (k : ∀ n, a.fe n = b.fe n) : a = b := by
 cases a; cases b; simp only [S.mk.injEq]; exact ⟨funext h, funext k⟩
def S.setS (s : S) (t : Nat) (v : SV) : S := ⟨fun u => if u = t then some v else s.fs u, s.fe⟩
def S.setE (s : S) (n : Nat) (e : Option Ent) : S := ⟨s.fs, fun m => if m = n then e else s.fe m⟩
def S.putW (s : S) : Ws -> S
 | [] => s
 | (n, e) :: r => (s.putW r).setE n e
def S.put (s : S) (d : Option Nat) (v : SV) (ws : Ws) : S := match d with | some d => (s.putW ws).setS d v | none => s.putW ws
def runP (s : S) (fresh : Nat) : Prog -> (seen rd : List Nat) -> Option (List Nat × SV × Ws)
 | .ret v ws, seen, rd => if within fresh seen (names3 v ++ namesW ws) = true then some (rd, v, ws) else none
 | .fail, _, _ => none
 | .slot t k, seen, rd => match s.fs t with | some v => runP s fresh (k v) (names3 v ++ seen) ((2 * t) :: rd) | none => none
 | .ent n k, seen, rd => match s.fe n with | some e => runP s fresh (k e) (namesE e ++ seen) ((2 * n + 1) :: rd) | none => none
 | .test c t e, seen, rd => if c = true then runP s fresh t seen rd else runP s fresh e seen rd
 | .idx a L k, seen, rd => if 0 <= a /\ a < L then runP s fresh (k a.toNat) seen rd else none
 | .rng a b L k, seen, rd => if 0 <= a /\ a <= b /\ b <= L then runP s fresh (k a.toNat b.toNat) seen rd else none
 | .look l i k, seen, rd => match l[i]? with | some x => runP s fresh (k x) seen rd | none => none
 | .look2 l i k, seen, rd => match l[i]? with | some x => runP s fresh (k x) seen rd | none => none
 | .call F vs k, seen, rd => match F vs with | some (r, outs) => runP s fresh (k r outs) seen rd | none => none
def toS (sl : Sl) (en : En) : S := ⟨lk sl, fun n => (lk en n).join⟩
theorem wpP_run {sl : Sl} {en : En} {fresh : Nat} (p : Prog) : ∀ {seen rd : List Nat} {Q : List Nat -> SV -> Ws -> Prop}, wpP sl en fresh p seen rd Q ->
  ∃ rd' v ws, runP (toS sl en) fresh p seen rd = some (rd', v, ws) /\ Q rd' v ws := by
 induction p with
 | ret v ws =>
  intro seen rd Q h;simp only [wpP] at h;cases hb : within fresh seen (names3 v ++ namesW ws) <;> rw [hb] at h <;> simp only [cond_false, cond_true] at h
  ·exact ⟨rd, v, ws, by simp [runP, hb], h⟩
 | fail => intro _ _ _ h; exact h.elim
 | slot t k ih =>
  intro seen rd Q h;simp only [wpP] at h
  cases hv : lk sl t with
  | none => rw [hv] at h; exact h.elim
  | some v => rw [hv] at h; obtain ⟨a, b, c, e, q⟩ := ih v h; exact ⟨a, b, c, by simp only [runP, toS, hv]; exact e, q⟩
 | ent n k ih =>
  intro seen rd Q h;simp only [wpP] at h
  cases hv : lk en n with
  | none => rw [hv] at h; exact h.elim
  | some v =>
   cases v with
   | none => rw [hv] at h; exact h.elim
   | some v => rw [hv] at h; obtain ⟨a, b, c, e, q⟩ := ih v h; exact ⟨a, b, c, by simp only [runP, toS, hv, Option.join_some]; exact e, q⟩
 | test c t e iht ihe =>
  intro seen rd Q h;simp only [wpP, Pick] at h
  cases c with
  | true => obtain ⟨a, b, c, e, q⟩ := iht h; exact ⟨a, b, c, by simp only [runP, if_true]; exact e, q⟩
  | false => obtain ⟨a, b, c, e, q⟩ := ihe h; exact ⟨a, b, c, by simp only [runP, Bool.false_eq_true, if_false]; exact e, q⟩
 | idx a L k ih =>
  intro seen rd Q h;obtain ⟨m, rfl, hm, h⟩ := h;obtain ⟨a, b, c, e, q⟩ := ih m h;exact ⟨a, b, c, by simp only [runP, Int.toNat_natCast]; rw [if_pos (by omega)]; exact e, q⟩
 | rng a b' L k ih =>
  intro seen rd Q h;obtain ⟨m, n, rfl, rfl, hm, hn, h⟩ := h;obtain ⟨a, b, c, e, q⟩ := ih m n h;exact ⟨a, b, c, by simp only [runP, Int.toNat_natCast]; rw [if_pos (by omega)]; exact e, q⟩
 | look l i k ih =>
  intro seen rd Q h;obtain ⟨x, hx, h⟩ := h;obtain ⟨a, b, c, e, q⟩ := ih x h;exact ⟨a, b, c, by simp only [runP, hx]; exact e, q⟩
 | look2 l i k ih =>
  intro seen rd Q h;obtain ⟨x, hx, h⟩ := h;obtain ⟨a, b, c, e, q⟩ := ih x h;exact ⟨a, b, c, by simp only [runP, hx]; exact e, q⟩
 | call F vs k ih =>
  intro seen rd Q h;obtain ⟨r, outs, hr, h⟩ := h;obtain ⟨a, b, c, e, q⟩ := ih r outs h;exact ⟨a, b, c, by simp only [runP, hr]; exact e, q⟩
def Agree (s s' : S) (ks : List Nat) : Prop := (∀ t, 2 * t ∈ ks -> s.fs t = s'.fs t) /\ ∀ n, 2 * n + 1 ∈ ks -> s.fe n = s'.fe n
theorem runP_grows {s : S} {fresh : Nat} (p : Prog) : ∀ {seen rd rd' : List Nat} {v : SV} {ws : Ws}, runP s fresh p seen rd = some (rd', v, ws) -> ∀ x ∈ rd, x ∈ rd' := by
 induction p with
 | ret v ws => intro seen rd rd' v' ws' h x hx; simp only [runP] at h; split at h <;> simp_all
 | fail => intro seen rd rd' v ws h; simp [runP] at h
 | slot t k ih => intro seen rd rd' v ws h x hx; simp only [runP] at h; split at h; · exact ih _ h x (List.mem_cons_of_mem _ hx)
                  ·simp at h
 | ent n k ih => intro seen rd rd' v ws h x hx; simp only [runP] at h; split at h; · exact ih _ h x (List.mem_cons_of_mem _ hx)
                 ·simp at h
 | test c t e iht ihe => intro seen rd rd' v ws h x hx; simp only [runP] at h; split at h; · exact iht h x hx
                         ·exact ihe h x hx
 | idx a L k ih => intro seen rd rd' v ws h x hx; simp only [runP] at h; split at h; · exact ih _ h x hx
                   ·simp at h
 | rng a b L k ih => intro seen rd rd' v ws h x hx; simp only [runP] at h; split at h; · exact ih _ _ h x hx
                     ·simp at h
 | look l i k ih => intro seen rd rd' v ws h x hx; simp only [runP] at h; split at h; · exact ih _ h x hx
                    ·simp at h
 | look2 l i k ih => intro seen rd rd' v ws h x hx; simp only [runP] at h; split at h; · exact ih _ h x hx
                     ·simp at h
 | call F vs k ih => intro seen rd rd' v ws h x hx; simp only [runP] at h; split at h; · exact ih _ _ h x hx
                     ·simp at h
theorem runP_local {s s' : S} {fresh : Nat} (p : Prog) : ∀ {seen rd rd' : List Nat} {v : SV} {ws : Ws}, runP s fresh p seen rd = some (rd', v, ws) -> Agree s s' rd' ->
  runP s' fresh p seen rd = some (rd', v, ws) := by
 induction p with
 | ret v ws => intro seen rd rd' v' ws' h _; exact h
 | fail => intro seen rd rd' v ws h; simp [runP] at h
 | slot t k ih =>
  intro seen rd rd' v ws h ha;simp only [runP] at h ⊢
  cases hv : s.fs t with
  | none => rw [hv] at h; simp at h
  | some u =>
   rw [hv] at h;have hm := runP_grows (k u) h (2 * t) (by simp);rw [<- ha.1 t hm, hv];exact ih u h ha
 | ent n k ih =>
  intro seen rd rd' v ws h ha;simp only [runP] at h ⊢
  cases hv : s.fe n with
  | none => rw [hv] at h; simp at h
  | some u =>
   rw [hv] at h;have hm := runP_grows (k u) h (2 * n + 1) (by simp);rw [<- ha.2 n hm, hv];exact ih u h ha
 | test c t e iht ihe => intro seen rd rd' v ws h ha; simp only [runP] at h ⊢; split at h <;> rename_i hc; · rw [if_pos hc]; exact iht h ha
                         ·rw [if_neg hc]; exact ihe h ha
 | idx a L k ih => intro seen rd rd' v ws h ha; simp only [runP] at h ⊢; split at h <;> rename_i hc; · rw [if_pos hc]; exact ih _ h ha
                   ·simp at h
 | rng a b L k ih => intro seen rd rd' v ws h ha; simp only [runP] at h ⊢; split at h <;> rename_i hc; · rw [if_pos hc]; exact ih _ _ h ha
                     ·simp at h
 | look l i k ih => intro seen rd rd' v ws h ha; simp only [runP] at h ⊢; split at h <;> rename_i hc; · exact ih _ h ha
                    ·simp at h
 | look2 l i k ih => intro seen rd rd' v ws h ha; simp only [runP] at h ⊢; split at h <;> rename_i hc; · exact ih _ h ha
                     ·simp at h
 | call F vs k ih => intro seen rd rd' v ws h ha; simp only [runP] at h ⊢; split at h <;> rename_i hc; · exact ih _ _ h ha
                     ·simp at h
def dk (d : Option Nat) : List Nat := match d with | some d => [2 * d] | none => []
def okDst (X : Cx) (d : Option Nat) : Prop := ∀ t, d = some t -> t < X.nt
instance (X : Cx) (d : Option Nat) : Decidable (okDst X d) := by
 unfold okDst
 cases d with
 | none => exact isTrue (fun _ h => by simp at h)
 | some t => exact decidable_of_iff (t < X.nt) ⟨fun h u e => by simp at e; omega, fun h => h t rfl⟩
noncomputable def opGo (X : Cx) (o : Oper) (fresh : Nat) (s : S) (rd0 : List Nat) : Option ((List Nat × List Nat) × S) :=
 match runP s fresh (opP X.Γ X.T fresh o.op) [] rd0 with
 | some (rd, v, ws) => if okDst X o.dst then some ((rd, dk o.dst ++ keysW ws), s.put o.dst v ws) else none
 | none => none
def opSkip (X : Cx) (o : Oper) (s : S) (rd0 : List Nat) : Option ((List Nat × List Nat) × S) :=
 if okDst X o.dst then some ((rd0, dk o.dst), s.put o.dst .und []) else none
def fsT (s : S) (t : Nat) : Option SV := if t < 1000000 then s.fs t else none
noncomputable def opRun (X : Cx) (nx : Nat) (all : List Oper) (i : Nat) (s : S) : Option ((List Nat × List Nat) × S) :=
 match all[i]? with
 | none => none
 | some o => match o.guard with
  | none => opGo X o (nx + 16 * i) s []
  | some (j, want) => match dstOf all j with
   | none => none
   | some g => match fsT s g with
    | some (.s (.b c)) => if c = want then opGo X o (nx + 16 * i) s [2 * g] else opSkip X o s [2 * g]
    | some .und => opSkip X o s [2 * g]
    | _ => none
theorem keys_fs {s : S} {d : Option Nat} {v : SV} {ws : Ws} {t : Nat} (h : 2 * t ∉ dk d ++ keysW ws) : (s.put d v ws).fs t = s.fs t := by
 have hw : ∀ ws : Ws, (s.putW ws).fs = s.fs := by
  intro ws
  induction ws with
  | nil => rfl
  | cons a r ih => obtain ⟨n, e⟩ := a; simp only [S.putW, S.setE]; exact ih
 cases d with
 | none => simp only [S.put]; rw [hw]
 | some d =>
  simp only [S.put, S.setS, hw];rw [if_neg];rintro rfl;simp [dk] at h
theorem keys_fe {s : S} {d : Option Nat} {v : SV} {ws : Ws} {n : Nat} (h : 2 * n + 1 ∉ dk d ++ keysW ws) : (s.put d v ws).fe n = s.fe n := by
 have hw : ∀ ws : Ws, 2 * n + 1 ∉ keysW ws -> (s.putW ws).fe n = s.fe n := by
  intro ws
  induction ws with
  | nil => intro _; rfl
  | cons a r ih =>
   obtain ⟨m, e⟩ := a;intro h;simp only [keysW, List.mem_cons, not_or] at h;simp only [S.putW, S.setE];rw [if_neg (by omega)];exact ih h.2
 have h2 : 2 * n + 1 ∉ keysW ws := fun k => h (List.mem_append_right _ k)
 cases d with
 | none => exact hw ws h2
 | some d => exact hw ws h2
theorem put_fs_at {s : S} {d : Option Nat} {v : SV} {ws : Ws} {t : Nat} (h : d = some t) : (s.put d v ws).fs t = some v := by
 subst h; simp [S.put, S.setS]
theorem put_fe_at {s s' : S} {d : Option Nat} {v : SV} {ws : Ws} {n : Nat} (h : 2 * n + 1 ∈ dk d ++ keysW ws) : (s.put d v ws).fe n = (s'.put d v ws).fe n := by
 have hw : ∀ ws : Ws, 2 * n + 1 ∈ keysW ws -> (s.putW ws).fe n = (s'.putW ws).fe n := by
  intro ws
  induction ws with
  | nil => intro h; simp [keysW] at h
  | cons a r ih =>
   obtain ⟨m, e⟩ := a;intro h;simp only [S.putW, S.setE];by_cases hm : n = m
   ·rw [if_pos hm, if_pos hm]
   ·rw [if_neg hm, if_neg hm];refine ih ?_;simp only [keysW, List.mem_cons] at h;rcases h with h | h
    ·exact absurd (by omega) hm
    ·exact h
 have h2 : 2 * n + 1 ∈ keysW ws := by
  rcases List.mem_append.1 h with h | h
  ·cases d with
   | none => simp [dk] at h
   | some d => simp [dk] at h; omega
  ·exact h
 cases d with
 | none => exact hw ws h2
 | some d => exact hw ws h2
theorem dk_odd {d : Option Nat} {ws : Ws} {t : Nat} (h : 2 * t ∈ dk d ++ keysW ws) : d = some t := by
 rcases List.mem_append.1 h with h | h
 ·cases d with
  | none => simp [dk] at h
  | some d => simp [dk] at h; simp; omega
 ·exfalso
  have hw : ∀ ws : Ws, 2 * t ∉ keysW ws := by
   intro ws
   induction ws with
   | nil => simp [keysW]
   | cons a r ih =>
    obtain ⟨m, e⟩ := a;simp only [keysW, List.mem_cons, not_or];exact ⟨by omega, ih⟩
  exact hw ws h
theorem opRun_local {X : Cx} {nx : Nat} {all : List Oper} {i : Nat} {s s' s1 : S} {l : List Nat × List Nat} (h : opRun X nx all i s = some (l, s1)) (ha : Agree s s' l.1) :
  ∃ d v ws, s1 = s.put d v ws /\ l.2 = dk d ++ keysW ws /\ opRun X nx all i s' = some (l, s'.put d v ws) := by
 unfold opRun at h ⊢
 cases ho : all[i]? with
 | none => rw [ho] at h; simp at h
 | some o =>
  rw [ho] at h;simp only at h ⊢;have hgo : ∀ rd0, opGo X o (nx + 16 * i) s rd0 = some (l, s1) -> (∀ x ∈ rd0, x ∈ l.1) /\ ∃ d v ws, s1 = s.put d v ws /\ l.2 = dk d ++ keysW ws /\ opGo X o (nx + 16 * i) s' rd0 = some (l, s'.put d v ws) := by
   intro rd0 h;unfold opGo at h ⊢
   cases hr : runP s (nx + 16 * i) (opP X.Γ X.T (nx + 16 * i) o.op) [] rd0 with
   | none => rw [hr] at h; simp at h
   | some r =>
    obtain ⟨rd, v, ws⟩ := r;rw [hr] at h;simp only at h;split at h
    ·rename_i hd;simp only [Option.some.injEq, Prod.mk.injEq] at h;obtain ⟨rfl, rfl⟩ := h;refine ⟨runP_grows _ hr, o.dst, v, ws, rfl, rfl, ?_⟩;rw [runP_local _ hr ha];simp only;rw [if_pos hd]
    ·simp at h
  have hskip : ∀ rd0, opSkip X o s rd0 = some (l, s1) -> (∀ x ∈ rd0, x ∈ l.1) /\ ∃ d v ws, s1 = s.put d v ws /\ l.2 = dk d ++ keysW ws /\ opSkip X o s' rd0 = some (l, s'.put d v ws) := by
   intro rd0 h;unfold opSkip at h ⊢;split at h
   ·rename_i hd;simp only [Option.some.injEq, Prod.mk.injEq] at h;obtain ⟨rfl, rfl⟩ := h;exact ⟨fun _ h => h, o.dst, .und, [], rfl, by simp [keysW], by rw [if_pos hd]⟩
   ·simp at h
  cases hg : o.guard with
  | none => rw [hg] at h; exact (hgo [] h).2
  | some jw =>
   obtain ⟨j, want⟩ := jw;rw [hg] at h;simp only at h ⊢
   cases hd : dstOf all j with
   | none => rw [hd] at h; simp at h
   | some g =>
    rw [hd] at h;simp only at h ⊢
    cases hv : fsT s g with
    | none => rw [hv] at h; simp at h
    | some x =>
     rw [hv] at h;have fin : 2 * g ∈ l.1 -> fsT s' g = some x := fun hx => by rw [<- hv]; unfold fsT; rw [ha.1 g hx]
     cases x <;> try (simp at h; done)
     ·rename_i c
      cases c with
      | i => simp at h
      | b c =>
       simp only at h;split at h
       ·rename_i hw;obtain ⟨hx, r⟩ := hgo _ h;rw [fin (hx _ (by simp))];simp only;rw [if_pos hw];exact r
       ·rename_i hw;obtain ⟨hx, r⟩ := hskip _ h;rw [fin (hx _ (by simp))];simp only;rw [if_neg hw];exact r
     ·simp only at h;obtain ⟨hx, r⟩ := hskip _ h;rw [fin (hx _ (by simp))];exact r
def Apart (a b : List Nat) : Prop := ∀ x, x ∈ a -> x ∈ b -> False
theorem opRun_swap {X : Cx} {nx : Nat} {all : List Oper} {i j : Nat} {s s1 s2 : S} {l m : List Nat × List Nat} (h : opRun X nx all i s = some (l, s1)) (k : opRun X nx all j s1 = some (m, s2))
  (a1 : Apart l.2 m.1) (a2 : Apart l.2 m.2) (a3 : Apart l.1 m.2) : ∃ s3, opRun X nx all j s = some (m, s3) /\ opRun X nx all i s3 = some (l, s2) := by
 obtain ⟨d, v, ws, rfl, hl, hrun⟩ := opRun_local (s' := s) h ⟨fun _ _ => rfl, fun _ _ => rfl⟩
 have ag : Agree (s.put d v ws) s m.1 := ⟨fun t ht => keys_fs (fun hx => a1 _ (hl ▸ hx) ht), fun n hn => keys_fe (fun hx => a1 _ (hl ▸ hx) hn)⟩
 obtain ⟨d', v', ws', rfl, hm, hrun'⟩ := opRun_local k ag
 have ag' : Agree s (s.put d' v' ws') l.1 := ⟨fun t ht => (keys_fs (fun hx => a3 _ ht (hm ▸ hx))).symm, fun n hn => (keys_fe (fun hx => a3 _ hn (hm ▸ hx))).symm⟩
 obtain ⟨d2, v2, ws2, he, hl2, hrun2⟩ := opRun_local h ag'
 refine ⟨_, hrun', ?_⟩
 rw [hrun2]
 simp only [Option.some.injEq, Prod.mk.injEq, true_and]
 -- the changes are the same
 refine S.ext' (fun t => ?_) (fun n => ?_)
 ·by_cases h1 : 2 * t ∈ dk d2 ++ keysW ws2
  ·have e1 := dk_odd h1;rw [put_fs_at e1];have : 2 * t ∉ dk d' ++ keysW ws' := fun hx => a2 _ (hl2 ▸ h1) (hm ▸ hx)
   rw [keys_fs this, he, put_fs_at e1]
  ·rw [keys_fs h1];by_cases h2 : 2 * t ∈ dk d' ++ keysW ws'
   ·rw [put_fs_at (dk_odd h2), put_fs_at (dk_odd h2)]
   ·rw [keys_fs h2, keys_fs h2, he, keys_fs h1]
 ·by_cases h1 : 2 * n + 1 ∈ dk d2 ++ keysW ws2
  ·have : 2 * n + 1 ∉ dk d' ++ keysW ws' := fun hx => a2 _ (hl2 ▸ h1) (hm ▸ hx)
   rw [keys_fe this, he];exact put_fe_at h1
  ·rw [keys_fe h1];by_cases h2 : 2 * n + 1 ∈ dk d' ++ keysW ws'
   ·exact put_fe_at h2
   ·rw [keys_fe h2, keys_fe h2, he, keys_fe h1]
def Runs (X : Cx) (nx : Nat) (all : List Oper) (L : Nat -> List Nat × List Nat) : List Nat -> S -> S -> Prop
 | [], s, s' => s = s'
 | i :: r, s, s' => ∃ s1, opRun X nx all i s = some (L i, s1) /\ Runs X nx all L r s1 s'
def Free (L : Nat -> List Nat × List Nat) (k i : Nat) : Prop := Apart (L k).2 (L i).1 /\ Apart (L k).2 (L i).2 /\ Apart (L k).1 (L i).2
theorem Runs.first {X : Cx} {nx : Nat} {all : List Oper} {L : Nat -> List Nat × List Nat} {i : Nat} {r : List Nat} : ∀ {l : List Nat} {s s' : S}, Runs X nx all L (l ++ i :: r) s s' ->
  (∀ k ∈ l, Free L k i) -> Runs X nx all L (i :: (l ++ r)) s s' := by
 intro l
 induction l with
 | nil => intro s s' h _; exact h
 | cons k l ih =>
  intro s s' h hf;obtain ⟨s1, h1, h2⟩ := h;obtain ⟨s2, h3, h4⟩ := ih h2 (fun x hx => hf x (List.mem_cons_of_mem _ hx));obtain ⟨f1, f2, f3⟩ := hf k (by simp);obtain ⟨s3, h5, h6⟩ := opRun_swap h1 h3 f1 f2 f3;exact ⟨s3, h5, s2, h6, h4⟩
end Go.Sh
namespace Go.Sh
theorem cell_of_block {w w' : World} {a : Addr} (h : w'.heap[a.block]? = w.heap[a.block]?) : w'.cell? a = w.cell? a := by simp [World.cell?, h]
theorem Addr.add_add (a : Addr) (x y : Nat) : (a.add x).add y = a.add (x + y) := by
 unfold Addr.add
 by_cases hx : x = 0
 ·subst hx; simp
 ·by_cases hy : y = 0
  ·subst hy; simp [hx]
  ·rw [if_neg hx, if_neg hy, if_neg (by omega)]; simp [Nat.add_assoc]
theorem Addr.add_plain (b o n : Nat) : (⟨b, o, none⟩ : Addr).add n = ⟨b, o + n, none⟩ := by
 unfold Addr.add; split
 ·subst_vars; rfl
 ·rfl
theorem Addr.add_block (a : Addr) (n : Nat) : (a.add n).block = a.block := by unfold Addr.add; split <;> rfl
theorem Addr.add_zero (a : Addr) : a.add 0 = a := by simp [Addr.add]
abbrev Key := Nat × Option Nat
structure G where
 base : Nat -> Option Addr
 cap : Nat -> Nat
 rbase : Nat -> Nat -> Option Addr
 rcap : Nat -> Nat -> Nat
 own : Nat -> Option Key
structure FlatOk (w : World) (own : Nat -> Option Key) (key : Option Key) (A : Option Addr) (cap sz : Nat) (rows : Flat) : Prop where
 fits : rows.length <= cap
 pos : 0 < sz
 even : ∀ (i : Nat) (row : Row), rows[i]? = some row -> row.length = sz
 cell : ∀ (i : Nat) (row : Row) (j : Nat) (x : Sc), rows[i]? = some row -> row[j]? = some x -> ∃ a, A = some a /\ own a.block = key /\ w.cell? (a.add (i * sz + j)) = some (Sc.val x)
 room : key.isSome = true -> (cap = 0 /\ rows = []) \/ ∃ b off arr T, A = some ⟨b, off, none⟩ /\ own b = key /\ w.heap[b]? = some (.cells arr T (0, 0)) /\ off + cap * sz <= arr.size /\ cap <= 9223372036854775807
theorem FlatOk.mono {w w' : World} {own own' : Nat -> Option Key} {key key' : Option Key} {A : Option Addr} {cap sz : Nat} {rows : Flat} (h : FlatOk w own key A cap sz rows)
  (hk : key'.isSome = true -> key.isSome = true) (hb : ∀ b, b < w.heap.size -> own b = key -> own' b = key' /\ w'.heap[b]? = w.heap[b]?) : FlatOk w' own' key' A cap sz rows := {
 fits := h.fits
 pos := h.pos
 even := h.even
 cell := fun i row j x hi hj => by
  obtain ⟨a, ha, ho, hc⟩ := h.cell i row j x hi hj;have hlt := World.block_lt_of_cell? w _ hc;rw [Addr.add_block] at hlt;obtain ⟨h1, h2⟩ := hb a.block hlt ho;exact ⟨a, ha, h1, by rw [cell_of_block (w := w) (by rw [Addr.add_block]; exact h2)]; exact hc⟩
 room := fun hs => by
  rcases h.room (hk hs) with h | ⟨b, off, arr, T, hA, ho, hh, hsz⟩
  ·exact .inl h
  ·have hlt : b < w.heap.size := by
    rcases Nat.lt_or_ge b w.heap.size with h | h
    ·exact h
    ·simp [Array.getElem?_eq_none h] at hh
   obtain ⟨h1, h2⟩ := hb b hlt ho;exact .inr ⟨b, off, arr, T, hA, h1, by rw [h2]; exact hh, hsz⟩ }
structure NestOk (w : World) (own : Nat -> Option Key) (okey : Option Key) (rkey : Nat -> Option Key) (A : Option Addr) (cap : Nat) (rb : Nat -> Option Addr) (rc : Nat -> Nat) (sz : Nat) (rows : List Flat) (holes : List Nat) : Prop where
 fits : rows.length <= cap
 pos : 0 < sz
 head : ∀ (i : Nat) (fl : Flat), rows[i]? = some fl -> ∃ a v, A = some a /\ own a.block = okey /\ w.cell? (a.add i) = some v /\ (i ∉ holes -> v = .slice (rb i) fl.length (rc i))
 row : ∀ (i : Nat) (fl : Flat), rows[i]? = some fl -> i ∉ holes -> FlatOk w own (rkey i) (rb i) (rc i) sz fl
 room : okey.isSome = true -> (cap = 0 /\ rows = []) \/ ∃ b off arr T, A = some ⟨b, off, none⟩ /\ own b = okey /\ w.heap[b]? = some (.cells arr T (0, 0)) /\ off + cap <= arr.size
theorem NestOk.mono {w w' : World} {own own' : Nat -> Option Key} {okey okey' : Option Key} {rkey rkey' : Nat -> Option Key} {A : Option Addr} {cap : Nat} {rb rb' : Nat -> Option Addr} {rc rc' : Nat -> Nat} {sz : Nat} {rows : List Flat} {holes : List Nat}
  (h : NestOk w own okey rkey A cap rb rc sz rows holes)
  (hk : okey'.isSome = true -> okey.isSome = true) (hb : ∀ b, b < w.heap.size -> own b = okey -> own' b = okey' /\ w'.heap[b]? = w.heap[b]?)
  (hk' : ∀ i, (rkey' i).isSome = true -> (rkey i).isSome = true) (hb' : ∀ i b, b < w.heap.size -> i ∉ holes -> own b = rkey i -> own' b = rkey' i /\ w'.heap[b]? = w.heap[b]?)
  (hr : ∀ i, i ∉ holes -> rb' i = rb i /\ rc' i = rc i) : NestOk w' own' okey' rkey' A cap rb' rc' sz rows holes := {
 fits := h.fits
 pos := h.pos
 head := fun i fl hi => by
  obtain ⟨a, v, hA, ho, hc, hv⟩ := h.head i fl hi;have hlt := World.block_lt_of_cell? w _ hc;rw [Addr.add_block] at hlt;obtain ⟨h1, h2⟩ := hb a.block hlt ho;refine ⟨a, v, hA, h1, by rw [cell_of_block (w := w) (by rw [Addr.add_block]; exact h2)]; exact hc, fun hn => ?_⟩;rw [(hr i hn).1, (hr i hn).2];exact hv hn
 row := fun i fl hi hn => by
  rw [(hr i hn).1, (hr i hn).2];exact (h.row i fl hi hn).mono (hk' i) (fun b hlt ho => hb' i b hlt hn ho)
 room := fun hs => by
  rcases h.room (hk hs) with h | ⟨b, off, arr, T, hA, ho, hh, hsz⟩
  ·exact .inl h
  ·have hlt : b < w.heap.size := by
    rcases Nat.lt_or_ge b w.heap.size with h | h
    ·exact h
    ·simp [Array.getElem?_eq_none h] at hh
   obtain ⟨h1, h2⟩ := hb b hlt ho;exact .inr ⟨b, off, arr, T, hA, h1, by rw [h2]; exact hh, hsz⟩ }
def lenSz (s : S) (n : Nat) : Option (Nat × Nat) := match s.fe n with
 | some (.flat _ sz rows) => some (rows.length, sz)
 | some (.nest _ _ rows _ _) => some (rows.length, 1)
 | some (.fnest _ _ rows) => some (rows.length, 1)
 | some (.was L sz) => some (L, sz)
 | _ => none
def RowAt (s : S) (n r ver L sz : Nat) : Prop := ∃ own rows holes log fl, s.fe n = some (.nest own sz rows holes log) /\ r ∉ holes /\ (∀ c ∈ log.take (log.length - ver), c ≠ r) /\ rows[r]? = some fl /\ fl.length = L
def VerOk (s : S) (n ver : Nat) : Prop := ∀ own sz rows holes log, s.fe n = some (.nest own sz rows holes log) -> ver <= log.length
def SubOk (base : Option Addr) (cap0 L sz : Nat) (sub : Option (Nat × Nat)) (A : Option Addr) (len cap : Nat) : Prop :=
 match sub with
 | none => A = base /\ len = L /\ cap = cap0
 | some (lo, l) => len = l /\ lo + l <= L /\ l <= cap /\ lo + cap <= cap0 /\ (cap = 0 \/ A = base.map (·.add (lo * sz)))
def VR1 (s : S) (g : G) (v : SV) (u : Value) : Prop :=
 match v with
 | .s x => u = x.val
 | .nils => u = .slice none 0 0
 | .ptr n off => ∃ b, g.base n = some ⟨b, 0, none⟩ /\ u = .pointer (some ⟨b, off, none⟩)
 | .ep n none sz i j => ∃ a, g.base n = some a /\ u = .pointer (some (a.add (i * sz + j)))
 | .ep n (some (r, ver)) sz i j => VerOk s n ver /\ ∀ L sz', RowAt s n r ver L sz' -> ∃ a, g.rbase n r = some a /\ u = .pointer (some (a.add (i * sz + j)))
 | .sl n none sub => ∃ A len cap, u = .slice A len cap /\ ∀ L sz, lenSz s n = some (L, sz) -> SubOk (g.base n) (g.cap n) L sz sub A len cap
 | .sl n (some (r, ver)) sub => VerOk s n ver /\ ∃ A len cap, u = .slice A len cap /\ ∀ L sz, RowAt s n r ver L sz -> SubOk (g.rbase n r) (g.rcap n r) L sz sub A len cap
 | .mp n => ∃ b, g.base n = some ⟨b, 0, none⟩ /\ u = .map (some b)
 | .fc f n => ∃ b, g.base n = some ⟨b, 0, none⟩ /\ u = .func (.func f) #[] #[.pointer (some ⟨b, 0, none⟩)]
 | .und => u = undef
 | .bad => True
 | .vec l => ∃ cs, u = .agg cs /\ cs.toList = l.map Sc.val
 | .agg _ | .tup _ | .fn _ _ => False
def All2 {α β : Type} (R : α -> β -> Prop) (l : List α) (m : List β) : Prop := l.length = m.length /\ ∀ (i : Nat) (a : α) (b : β), l[i]? = some a -> m[i]? = some b -> R a b
def VR2 (s : S) (g : G) (v : SV) (u : Value) : Prop :=
 match v with
 | .agg l => ∃ cs, u = .agg cs /\ All2 (VR1 s g) l cs.toList
 | .fn f l => ∃ cs, u = .func (.func f) #[] cs /\ All2 (VR1 s g) l cs.toList
 | v => VR1 s g v u
def VR3 (s : S) (g : G) (v : SV) (u : Value) : Prop :=
 match v with
 | .tup l => ∃ vs, u = .tuple vs /\ All2 (VR2 s g) l vs.toList
 | v => VR2 s g v u
structure Less (s s' : S) (g g' : G) (n : Nat) : Prop where
 base : g'.base n = g.base n
 cap : g'.cap n = g.cap n
 len : ∀ p, lenSz s' n = some p -> lenSz s n = some p
 row : ∀ r ver L sz, VerOk s n ver -> RowAt s' n r ver L sz -> RowAt s n r ver L sz /\ g'.rbase n r = g.rbase n r /\ g'.rcap n r = g.rcap n r
 ver : ∀ ver, VerOk s n ver -> VerOk s' n ver
theorem VR1.less {s s' : S} {g g' : G} {v : SV} {u : Value} (h : VR1 s g v u) (hl : ∀ n ∈ names1 v, Less s s' g g' n) : VR1 s' g' v u := by
 cases v with
 | s x => exact h
 | nils => exact h
 | ptr n off => obtain ⟨b, hb, hu⟩ := h; exact ⟨b, by rw [(hl n (by simp [names1])).base]; exact hb, hu⟩
 | ep n row sz i j =>
  have k := hl n (by simp [names1])
  cases row with
  | none => obtain ⟨a, ha, hu⟩ := h; exact ⟨a, by rw [k.base]; exact ha, hu⟩
  | some rv =>
   obtain ⟨r, ver⟩ := rv;obtain ⟨hv, h⟩ := h;refine ⟨k.ver _ hv, fun L sz' hr => ?_⟩;obtain ⟨h1, h2, _⟩ := k.row _ _ _ _ hv hr;rw [h2];exact h L sz' h1
 | sl n row sub =>
  have k := hl n (by simp [names1])
  cases row with
  | none => obtain ⟨A, len, cap, hu, hs⟩ := h; exact ⟨A, len, cap, hu, fun L sz he => by rw [k.base, k.cap]; exact hs L sz (k.len _ he)⟩
  | some rv =>
   obtain ⟨r, ver⟩ := rv;obtain ⟨hv, A, len, cap, hu, hs⟩ := h;refine ⟨k.ver _ hv, A, len, cap, hu, fun L sz hr => ?_⟩;obtain ⟨h1, h2, h3⟩ := k.row _ _ _ _ hv hr;rw [h2, h3];exact hs L sz h1
 | agg l => exact h
 | tup l => exact h
 | fn f l => exact h
 | mp n => obtain ⟨b, hb, hu⟩ := h; exact ⟨b, by rw [(hl n (by simp [names1])).base]; exact hb, hu⟩
 | fc f n => obtain ⟨b, hb, hu⟩ := h; exact ⟨b, by rw [(hl n (by simp [names1])).base]; exact hb, hu⟩
 | vec l => exact h
 | und => exact h
 | bad => trivial
theorem mem_namesL1 {l : List SV} {i n : Nat} {v : SV} (h : l[i]? = some v) (hn : n ∈ names1 v) : n ∈ namesL1 l := by
 induction l generalizing i with
 | nil => simp at h
 | cons a r ih =>
  cases i with
  | zero => simp at h; subst h; exact List.mem_append_left _ hn
  | succ i => exact List.mem_append_right _ (ih (by simpa using h))
theorem mem_namesL2 {l : List SV} {i n : Nat} {v : SV} (h : l[i]? = some v) (hn : n ∈ names2 v) : n ∈ namesL2 l := by
 induction l generalizing i with
 | nil => simp at h
 | cons a r ih =>
  cases i with
  | zero => simp at h; subst h; exact List.mem_append_left _ hn
  | succ i => exact List.mem_append_right _ (ih (by simpa using h))
theorem VR2.less {s s' : S} {g g' : G} {v : SV} {u : Value} (h : VR2 s g v u) (hl : ∀ n ∈ names2 v, Less s s' g g' n) : VR2 s' g' v u := by
 unfold VR2 at h ⊢
 split at h
 ·rename_i l;obtain ⟨cs, hu, hle, hi⟩ := h;exact ⟨cs, hu, hle, fun i a b ha hb => (hi i a b ha hb).less (fun n hn => hl n (mem_namesL1 ha hn))⟩
 ·rename_i f l;obtain ⟨cs, hu, hle, hi⟩ := h;exact ⟨cs, hu, hle, fun i a b ha hb => (hi i a b ha hb).less (fun n hn => hl n (mem_namesL1 ha hn))⟩
 ·rename_i hne hnf;refine h.less (fun n hn => hl n ?_);cases v <;> first | exact hn | exact absurd rfl (hne _) | exact absurd rfl (hnf _ _) | (simp [names1] at hn)
theorem VR3.less {s s' : S} {g g' : G} {v : SV} {u : Value} (h : VR3 s g v u) (hl : ∀ n ∈ names3 v, Less s s' g g' n) : VR3 s' g' v u := by
 unfold VR3 at h ⊢
 split at h
 ·rename_i l;obtain ⟨cs, hu, hle, hi⟩ := h;exact ⟨cs, hu, hle, fun i a b ha hb => (hi i a b ha hb).less (fun n hn => hl n (mem_namesL2 ha hn))⟩
 ·rename_i hne;refine h.less (fun n hn => hl n ?_);cases v <;> first | exact hn | exact absurd rfl (hne _)
def keyV (ag : Bool) (l : List Int) : Value := if ag then .agg (l.map (Value.int .i64)).toArray else .int .i64 (l.headD 0)
structure MapRel (ag : Bool) (nk : Nat) (es : Array MapEntry) (l : List (List Int × Int)) : Prop where
 size : es.size = l.length
 keys : (l.map (·.1)).Nodup
 wf : ∀ p ∈ l, p.1.length = nk /\ ∀ x ∈ p.1, IntKind.i64.wrap x = x
 at_ : ∀ (i : Nat) (p : List Int × Int), l[i]? = some p -> ∃ e, es[i]? = some e /\ e.key = keyV ag p.1 /\ e.val = .int .i64 p.2
 one : ag = true \/ nk = 1
structure FMapRel (w : World) (own : Nat -> Option Key) (es : Array MapEntry) (l : List (Int × Flat)) : Prop where
 size : es.size = l.length
 keys : (l.map (·.1)).Nodup
 wf : ∀ p ∈ l, IntKind.i64.wrap p.1 = p.1
 at_ : ∀ (i : Nat) (p : Int × Flat), l[i]? = some p -> ∃ e A cap, es[i]? = some e /\ e.key = .int .i64 p.1 /\ e.val = .slice A p.2.length cap /\ FlatOk w own none A cap 1 p.2
theorem FMapRel.mono {w w' : World} {own own' : Nat -> Option Key} {es : Array MapEntry} {l : List (Int × Flat)} (h : FMapRel w own es l) (hn : ∀ b, b < w.heap.size -> own b = none -> own' b = none /\ w'.heap[b]? = w.heap[b]?) : FMapRel w' own' es l :=
 ⟨h.size, h.keys, h.wf, fun i p hp => by obtain ⟨e, A, cap, h1, h2, h3, h4⟩ := h.at_ i p hp; exact ⟨e, A, cap, h1, h2, h3, h4.mono id hn⟩⟩
def EntOk (w : World) (s : S) (g : G) (n : Nat) (e : Ent) : Prop :=
 match e with
 | .blk cs => ∃ b arr T, g.base n = some ⟨b, 0, none⟩ /\ g.own b = some (n, none) /\ w.heap[b]? = some (.cells arr T (0, 0)) /\ All2 (VR1 s g) cs arr.toList
 | .flat own sz rows => FlatOk w g.own (if own then some (n, none) else none) (g.base n) (g.cap n) sz rows
 | .nest own sz rows holes _ => NestOk w g.own (if own then some (n, none) else none) (fun i => if own then some (n, some i) else none) (g.base n) (g.cap n) (g.rbase n) (g.rcap n) sz rows holes
 | .rblk cs => ∃ b arr T, g.base n = some ⟨b, 0, none⟩ /\ g.own b = none /\ w.heap[b]? = some (.cells arr T (0, 0)) /\ All2 (VR1 s g) cs arr.toList
 | .map ag nk l => ∃ b es clock, g.base n = some ⟨b, 0, none⟩ /\ g.own b = some (n, none) /\ w.heap[b]? = some (.map es clock) /\ MapRel ag nk es l
 | .was _ _ => True
 | .rmap ag nk l => ∃ b es clock, g.base n = some ⟨b, 0, none⟩ /\ g.own b = none /\ w.heap[b]? = some (.map es clock) /\ MapRel ag nk es l
 | .fnest own sz rows => NestOk w g.own (if own then some (n, none) else none) (fun _ => none) (g.base n) (g.cap n) (g.rbase n) (g.rcap n) sz rows []
 | .fmap l => ∃ b es clock, g.base n = some ⟨b, 0, none⟩ /\ g.own b = some (n, none) /\ w.heap[b]? = some (.map es clock) /\ FMapRel w g.own es l
 | .fnb own f l => ∃ b arr T cs, g.base n = some ⟨b, 0, none⟩ /\ g.own b = (if own then some (n, none) else none) /\ w.heap[b]? = some (.cells arr T (0, 0)) /\ arr.toList = [.func (.func f) #[] cs] /\ All2 (VR1 s g) l cs.toList
class Fwd where
 D : Prop
variable [Fwd]
def Tp (w w' : World) : Prop := w'.tape = w.tape /\ (Fwd.D -> w.drawn <= w'.drawn)
theorem Tp.rfl {w : World} : Tp w w := ⟨Eq.refl _, fun _ => Nat.le_refl _⟩
theorem Tp.trans {a b c : World} (k : Tp b c) (h : Tp a b) : Tp a c := ⟨k.1.trans h.1, fun d => Nat.le_trans (h.2 d) (k.2 d)⟩
theorem Tp.drew {w : World} : Tp w w.drew := ⟨Eq.refl _, fun _ => Nat.le_succ _⟩
structure Frm (O : Nat -> Prop) (w w' : World) : Prop where
 os : w'.os = w.os
 tape : Tp w w'
 output : w'.output = w.output
 size : w.heap.size <= w'.heap.size
 block : ∀ b, b < w.heap.size -> ¬ O b -> w'.heap[b]? = w.heap[b]?
theorem Frm.refl (O : Nat -> Prop) (w : World) : Frm O w w := ⟨rfl, .rfl, rfl, Nat.le_refl _, fun _ _ _ => rfl⟩
theorem Frm.trans {O O' : Nat -> Prop} {a b c : World} (h : Frm O a b) (k : Frm O' b c) (hO : ∀ x, x < a.heap.size -> O' x -> O x) : Frm O a c :=
 ⟨k.os.trans h.os, k.tape.trans h.tape, k.output.trans h.output, Nat.le_trans h.size k.size, fun x hx hn =>
  (k.block x (Nat.lt_of_lt_of_le hx h.size) (fun ho => hn (hO x hx ho))).trans (h.block x hx hn)⟩
structure Base where
 w : World
 gh : Nat -> Option Value
def slotAt (gh : Nat -> Option Value) (tmps : Array Value) (t : Nat) : Option Value := if t < 1000000 then tmps[t]? else gh (t - 1000000)
theorem slotAt_lt {gh : Nat -> Option Value} {tmps : Array Value} {t : Nat} (h : t < 1000000) : slotAt gh tmps t = tmps[t]? := by simp [slotAt, h]
structure Rel (Mn : Nat -> Prop) (O0 : Nat -> Prop) (w0 : Base) (nt : Nat) (s : S) (g : G) (a : Act) (w : World) : Prop where
 size : a.tmps.size = nt
 defers : a.defers = []
 small : nt <= 1000000
 slots : ∀ t v, s.fs t = some v -> ∃ u, slotAt w0.gh a.tmps t = some u /\ VR3 s g v u
 ents : ∀ n e, s.fe n = some e -> EntOk w s g n e
 bound : ∀ b k, g.own b = some k -> b < w.heap.size
 label : ∀ b n r, g.own b = some (n, r) -> Mn n
 ms : ∀ t v, s.fs t = some v -> ∀ n ∈ names3 v, Mn n
 me : ∀ n e, s.fe n = some e -> Mn n /\ ∀ m ∈ namesE e, Mn m
 frm : Frm O0 w0.w w
 ours : ∀ b k, g.own b = some k -> b < w0.w.heap.size -> O0 b
theorem EntOk.keep {w w' : World} {s s' : S} {g g' : G} {n : Nat} {e : Ent} (h : EntOk w s g n e)
  (hb : ∀ b r, b < w.heap.size -> g.own b = some (n, r) -> g'.own b = g.own b /\ w'.heap[b]? = w.heap[b]?)
  (hn : ∀ b, b < w.heap.size -> g.own b = none -> g'.own b = none /\ w'.heap[b]? = w.heap[b]?)
  (h1 : g'.base n = g.base n) (h2 : g'.cap n = g.cap n) (h3 : ∀ i, g'.rbase n i = g.rbase n i) (h4 : ∀ i, g'.rcap n i = g.rcap n i)
  (hl : ∀ m ∈ namesE e, Less s s' g g' m) : EntOk w' s' g' n e := by
 cases e with
 | was L sz => exact trivial
 | blk cs =>
  obtain ⟨b, arr, T, hA, ho, hh, hle, hi⟩ := h;have hlt : b < w.heap.size := by
   rcases Nat.lt_or_ge b w.heap.size with h | h
   ·exact h
   ·simp [Array.getElem?_eq_none h] at hh
  obtain ⟨k1, k2⟩ := hb b none hlt ho;exact ⟨b, arr, T, by rw [h1]; exact hA, by rw [k1]; exact ho, by rw [k2]; exact hh, hle, fun i a u ha hu => (hi i a u ha hu).less (fun m hm => hl m (mem_namesL1 ha hm))⟩
 | rblk cs =>
  obtain ⟨b, arr, T, hA, ho, hh, hle, hi⟩ := h;have hlt : b < w.heap.size := by
   rcases Nat.lt_or_ge b w.heap.size with h | h
   ·exact h
   ·simp [Array.getElem?_eq_none h] at hh
  obtain ⟨k1, k2⟩ := hn b hlt ho;exact ⟨b, arr, T, by rw [h1]; exact hA, k1, by rw [k2]; exact hh, hle, fun i a u ha hu => (hi i a u ha hu).less (fun m hm => hl m (mem_namesL1 ha hm))⟩
 | map ag nk l =>
  obtain ⟨b, es, clock, hA, ho, hh, hr⟩ := h;have hlt : b < w.heap.size := by
   rcases Nat.lt_or_ge b w.heap.size with h | h
   ·exact h
   ·simp [Array.getElem?_eq_none h] at hh
  obtain ⟨k1, k2⟩ := hb b none hlt ho;exact ⟨b, es, clock, by rw [h1]; exact hA, by rw [k1]; exact ho, by rw [k2]; exact hh, hr⟩
 | rmap ag nk l =>
  obtain ⟨b, es, clock, hA, ho, hh, hr⟩ := h;have hlt : b < w.heap.size := by
   rcases Nat.lt_or_ge b w.heap.size with h | h
   ·exact h
   ·simp [Array.getElem?_eq_none h] at hh
  obtain ⟨k1, k2⟩ := hn b hlt ho;exact ⟨b, es, clock, by rw [h1]; exact hA, k1, by rw [k2]; exact hh, hr⟩
 | fnb own f l =>
  obtain ⟨b, arr, T, cs, hA, ho, hh, ha, hle, hi⟩ := h;have hlt : b < w.heap.size := by
   rcases Nat.lt_or_ge b w.heap.size with h | h
   ·exact h
   ·simp [Array.getElem?_eq_none h] at hh
  have hk : g'.own b = (if own then some (n, none) else none) /\ w'.heap[b]? = w.heap[b]? := by
   cases own with
   | true => simp only [if_true] at ho ⊢; obtain ⟨k1, k2⟩ := hb b none hlt ho; exact ⟨by rw [k1]; exact ho, k2⟩
   | false => simp only [Bool.false_eq_true, if_false] at ho ⊢; exact hn b hlt ho
  exact ⟨b, arr, T, cs, by rw [h1]; exact hA, hk.1, by rw [hk.2]; exact hh, ha, hle, fun i a u ha hu => (hi i a u ha hu).less (fun m hm => hl m (mem_namesL1 ha hm))⟩
 | flat own sz rows =>
  unfold EntOk at h ⊢;rw [h1, h2];refine FlatOk.mono h id (fun b hlt ho => ?_)
  cases own with
  | true => simp only [if_true] at ho ⊢; obtain ⟨k1, k2⟩ := hb b none hlt ho; exact ⟨by rw [k1]; exact ho, k2⟩
  | false => simp only [Bool.false_eq_true, if_false] at ho ⊢; exact hn b hlt ho
 | nest own sz rows holes log =>
  unfold EntOk at h ⊢;rw [h1, h2];refine NestOk.mono h id (fun b hlt ho => ?_) (fun _ => id) (fun i b hlt _ ho => ?_) (fun i _ => ⟨h3 i, h4 i⟩)
  ·cases own with
   | true => simp only [if_true] at ho ⊢; obtain ⟨k1, k2⟩ := hb b none hlt ho; exact ⟨by rw [k1]; exact ho, k2⟩
   | false => simp only [Bool.false_eq_true, if_false] at ho ⊢; exact hn b hlt ho
  ·cases own with
   | true => simp only [if_true] at ho ⊢; obtain ⟨k1, k2⟩ := hb b (some i) hlt ho; exact ⟨by rw [k1]; exact ho, k2⟩
   | false => simp only [Bool.false_eq_true, if_false] at ho ⊢; exact hn b hlt ho
 | fmap l =>
  obtain ⟨b, es, clock, hA, ho, hh, hr⟩ := h;have hlt : b < w.heap.size := by
   rcases Nat.lt_or_ge b w.heap.size with h | h
   ·exact h
   ·simp [Array.getElem?_eq_none h] at hh
  obtain ⟨k1, k2⟩ := hb b none hlt ho;exact ⟨b, es, clock, by rw [h1]; exact hA, by rw [k1]; exact ho, by rw [k2]; exact hh, hr.mono hn⟩
 | fnest own sz rows =>
  unfold EntOk at h ⊢;rw [h1, h2];refine NestOk.mono h id (fun b hlt ho => ?_) (fun _ => id) (fun i b hlt _ ho => hn b hlt ho) (fun i _ => ⟨h3 i, h4 i⟩)
  cases own with
  | true => simp only [if_true] at ho ⊢; obtain ⟨k1, k2⟩ := hb b none hlt ho; exact ⟨by rw [k1]; exact ho, k2⟩
  | false => simp only [Bool.false_eq_true, if_false] at ho ⊢; exact hn b hlt ho
theorem Less.refl (s : S) (g : G) (n : Nat) : Less s s g g n := ⟨rfl, rfl, fun _ h => h, fun _ _ _ _ _ h => ⟨h, rfl, rfl⟩, fun _ h => h⟩
theorem Less.of {s s' : S} {g g' : G} {n : Nat} (h : s'.fe n = s.fe n \/ s'.fe n = none) (h1 : g'.base n = g.base n) (h2 : g'.cap n = g.cap n) (h3 : ∀ i, g'.rbase n i = g.rbase n i) (h4 : ∀ i, g'.rcap n i = g.rcap n i) :
  Less s s' g g' n := {
 base := h1
 cap := h2
 len := fun p hp => by
  rcases h with h | h
  ·simpa [lenSz, h] using hp
  ·simp [lenSz, h] at hp
 row := fun r ver L sz _ hr => by
  rcases h with h | h
  ·exact ⟨by simpa [RowAt, h] using hr, h3 r, h4 r⟩
  ·obtain ⟨_, _, _, _, _, he, _⟩ := hr; rw [h] at he; simp at he
 ver := fun ver hv => by
  rcases h with h | h
  ·intro a b c d e he; exact hv a b c d e (by rw [<- h]; exact he)
  ·intro a b c d e he; rw [h] at he; simp at he }
theorem put_tmps {a : Act} {d : Option Nat} {u : Value} {t : Nat} (h : d ≠ some t) : (a.put d u).tmps[t]? = a.tmps[t]? := by
 cases d with
 | none => rfl
 | some d => simp only [Act.put]; rw [Array.getElem?_setIfInBounds_ne (fun e => h (by rw [e]))]
theorem put_tmps_at {a : Act} {t : Nat} {u : Value} (h : t < a.tmps.size) : (a.put (some t) u).tmps[t]? = some u := by
 simp [Act.put, h]
theorem put_defers {a : Act} {d : Option Nat} {u : Value} : (a.put d u).defers = a.defers := by cases d <;> rfl
theorem put_size {a : Act} {d : Option Nat} {u : Value} : (a.put d u).tmps.size = a.tmps.size := by cases d <;> simp [Act.put]
theorem putW_fs {s : S} (ws : Ws) : (s.putW ws).fs = s.fs := by
 induction ws with
 | nil => rfl
 | cons a r ih => obtain ⟨n, e⟩ := a; simp only [S.putW, S.setE]; exact ih
theorem put_fs_other {s : S} {d : Option Nat} {v : SV} {ws : Ws} {t : Nat} (h : d ≠ some t) : (s.put d v ws).fs t = s.fs t := by
 cases d with
 | none => simp only [S.put]; rw [putW_fs]
 | some d => simp only [S.put, S.setS]; rw [if_neg (fun e => h (by rw [e])), putW_fs]
theorem put_fe {s : S} {d : Option Nat} {v : SV} {ws : Ws} : (s.put d v ws).fe = (s.putW ws).fe := by cases d <;> rfl
theorem Rel.put {Mn Mn' O0 : Nat -> Prop} {w0 : Base} {w w' : World} {nt : Nat} {s : S} {g g' : G} {a : Act} (R : Rel Mn O0 w0 nt s g a w) {d : Option Nat} {v : SV} {ws : Ws} {u : Value}
  (hd : ∀ t, d = some t -> t < nt) (hM : ∀ n, Mn n -> Mn' n) (hvm : ∀ n ∈ names3 v, Mn' n)
  (hem : ∀ n e, (s.putW ws).fe n = some e -> s.fe n = some e \/ (Mn' n /\ ∀ m ∈ namesE e, Mn' m))
  (hfr : Frm (fun b => ∃ k, g.own b = some k) w w')
  (hown : ∀ b k, b < w.heap.size -> g'.own b = some k -> ∃ k', g.own b = some k')
  (hbound : ∀ b k, g'.own b = some k -> b < w'.heap.size) (hlab : ∀ b n r, g'.own b = some (n, r) -> Mn' n)
  (hless : ∀ n, Mn n -> Less s (s.put d v ws) g g' n)
  (hents : ∀ n e, (s.putW ws).fe n = some e -> EntOk w' (s.put d v ws) g' n e)
  (hv : d.isSome = true -> VR3 (s.put d v ws) g' v u) : Rel Mn' O0 w0 nt (s.put d v ws) g' (a.put d u) w' := {
 size := by rw [put_size]; exact R.size
 defers := by rw [put_defers]; exact R.defers
 small := R.small
 slots := fun t x hx => by
  by_cases ht : d = some t
  ·subst ht;rw [put_fs_at rfl] at hx;injection hx with hx
   subst hx;have hlt := hd t rfl;exact ⟨u, by rw [slotAt_lt (by have := R.small; omega)]; exact put_tmps_at (by rw [R.size]; exact hlt), hv rfl⟩
  ·rw [put_fs_other ht] at hx;obtain ⟨y, hy, hr⟩ := R.slots t x hx;exact ⟨y, by unfold slotAt at hy ⊢; rw [put_tmps ht]; exact hy, hr.less (fun n hn => hless n (R.ms t x hx n hn))⟩
 ents := fun n e he => hents n e (by rw [<- put_fe (d := d) (v := v)]; exact he)
 bound := hbound
 label := hlab
 ms := fun t x hx n hn => by
  by_cases ht : d = some t
  ·subst ht;rw [put_fs_at rfl] at hx;injection hx with hx
   subst hx;exact hvm n hn
  ·rw [put_fs_other ht] at hx;exact hM n (R.ms t x hx n hn)
 me := fun n e he => by
  rcases hem n e (by rw [<- put_fe (d := d) (v := v)]; exact he) with h | h
  ·exact ⟨hM n (R.me n e h).1, fun m hm => hM m ((R.me n e h).2 m hm)⟩
  ·exact h
 frm := R.frm.trans hfr (fun x hx ⟨k, hk⟩ => R.ours x k hk hx)
 ours := fun b k hk hb => by
  obtain ⟨k', hk'⟩ := hown b k (Nat.lt_of_lt_of_le hb R.frm.size) hk;exact R.ours b k' hk' hb }
theorem Rel.put_pure {Mn O0 : Nat -> Prop} {w0 : Base} {w : World} {nt : Nat} {s : S} {g : G} {a : Act} (R : Rel Mn O0 w0 nt s g a w) {d : Option Nat} {v : SV} {u : Value}
  (hd : ∀ t, d = some t -> t < nt) (hvm : ∀ n ∈ names3 v, Mn n) (hv : d.isSome = true -> VR3 s g v u) : Rel Mn O0 w0 nt (s.put d v []) g (a.put d u) w := by
 have hl : ∀ n, Less s (s.put d v []) g g n := fun n => Less.of (.inl (by rw [put_fe]; rfl)) rfl rfl (fun _ => rfl) (fun _ => rfl)
 refine R.put hd (fun _ h => h) hvm (fun n e he => .inl he) (Frm.refl _ _) (fun b k _ hk => ⟨k, hk⟩) R.bound R.label (fun n _ => hl n) (fun n e he => ?_) (fun h => (hv h).less (fun n _ => hl n))
 exact (R.ents n e he).keep (fun _ _ _ h => ⟨rfl, rfl⟩) (fun _ _ h => ⟨h, rfl⟩) rfl rfl (fun _ => rfl) (fun _ => rfl) (fun m _ => hl m)
end Go.Sh
namespace Go.Sh
variable [Fwd]
def KdOk : Kd -> TypeDesc -> Prop
 | .int k, .int k' => k = k'
 | .bool, .bool => True
 | .slice e, .slice e' => e = e'
 | .struct fs, .struct fields => fields.toList.map (fun f => (f.offset, f.type)) = fs
 | .array n e, .array n' e' => n = n' /\ e = e'
 | .ptr e, .pointer e' => e = e'
 | .map k e _ _, .map k' e' => k = k' /\ e = e'
 | .fmap k e, .map k' e' => k = k' /\ e = e'
 | .other, .map _ _ => True
 | .other, .func _ _ _ => True
 | .other, .interface _ => True
 | .other, .tuple _ => True
 | _, _ => False
def ZOk (v : SV) (u : Value) : Prop := u.oneCell' = true /\ match v with
 | .s x => u = x.val
 | .nils => u = .slice none 0 0
 | .bad => True
 | _ => False
structure TOk (P : Program) (T : Tab) (t : Nat) (ti : TI) : Prop where
 info : ∃ i z, P.info? t = some i /\ i.size = ti.size /\ i.bytes = ti.bytes /\ i.zero = some z /\ z.cells.size = ti.size /\ All2 ZOk ti.zero z.cells.toList /\ (ti.isAgg = true -> z = .agg z.cells)
 und : ∃ d, P.underlying t = some d /\ KdOk ti.kind d
 pos : 0 < ti.bytes /\ ti.bytes <= 32768 /\ 0 < ti.size
 fields : ∀ fs, ti.kind = .struct fs -> ∀ d ft, (d, ft) ∈ fs -> ∃ fi, lk T ft = some fi
 eqs : ti.eqs = true -> ∀ (w : World) (l m : List SV) (xs ys : Array Value) (c : Bool) (x y : Operand), eqCells l m = some c -> kin l ti.zero = true -> All2 (fun v u => ∃ x, v = SV.s x /\ u = Sc.val x) l xs.toList -> All2 (fun v u => ∃ x, v = SV.s x /\ u = Sc.val x) m ys.toList ->
  (∀ op, (eqGuard op t x y (.agg xs) (.agg ys)).run P w = .ok () w) /\ (binOp .eql t (.agg xs) (.agg ys)).run P w = .ok (.bool c) w /\ (binOp .neq t (.agg xs) (.agg ys)).run P w = .ok (.bool (!c)) w
 great : isGreat ti = true -> ∀ x r, ti.zero = .s x :: r -> ti.zero = List.replicate ti.size (.s x)
 maps : ∀ k e ag nk, ti.kind = .map k e ag nk -> Go.Maps.Keyed P k /\ (∀ w, (zeroValue e).run P w = .ok (.int .i64 0) w) /\ (ag = true \/ nk = 1) /\ ∀ l : List Int, l.length = nk -> (∀ x ∈ l, IntKind.i64.wrap x = x) -> ∃ kl, keyOf P k (keyV ag l) = some kl
 fmaps : ∀ k e, ti.kind = .fmap k e -> Go.Maps.Keyed P k /\ (∀ w, (zeroValue e).run P w = .ok (.slice none 0 0) w) /\ ∀ l : List Int, l.length = 1 -> (∀ x ∈ l, IntKind.i64.wrap x = x) -> ∃ kl, keyOf P k (keyV false l) = some kl
def TabOk (P : Program) (T : Tab) : Prop := ∀ t ti, lk T t = some ti -> TOk P T t ti
section
variable {P : Program} {T : Tab} {t : Nat} {ti : TI} (h : TOk P T t ti) (w : World)
include h
theorem TOk.run_size : (sizeOf t).run P w = .ok ti.size w := by
 obtain ⟨i, z, hi, hs, _⟩ := h.info
 simp [sizeOf, typeInfo, hi, hs]
theorem TOk.run_zero : ∃ z, (zeroValue t).run P w = .ok z w /\ z.cells.size = ti.size /\ All2 ZOk ti.zero z.cells.toList /\ (ti.isAgg = true -> z = .agg z.cells) := by
 obtain ⟨i, z, hi, hs, hb, hz, h1, h2, h3⟩ := h.info
 exact ⟨z, by simp [zeroValue, typeInfo, hi, hz], h1, h2, h3⟩
theorem TOk.run_agg : (isAgg t).run P w = .ok ti.isAgg w := by
 obtain ⟨d, hd, hk⟩ := h.und
 unfold TI.isAgg
 cases hkd : ti.kind <;> rw [hkd] at hk <;> cases d <;> simp [KdOk] at hk <;> simp [isAgg, underlying, hd]
theorem TOk.run_und : ∃ d, (underlying t).run P w = .ok d w /\ KdOk ti.kind d := by
 obtain ⟨d, hd, hk⟩ := h.und
 exact ⟨d, by simp [underlying, hd], hk⟩
theorem TOk.run_slice {e : Nat} (hk : ti.kind = .slice e) : (underlying t).run P w = .ok (.slice e) w := by
 obtain ⟨d, hd, hk'⟩ := h.run_und w
 rw [hk] at hk'
 cases d <;> simp [KdOk] at hk'
 subst hk'; exact hd
theorem TOk.run_struct {fs : List (Nat × Nat)} (hk : ti.kind = .struct fs) : ∃ fields, (underlying t).run P w = .ok (.struct fields) w /\ fields.toList.map (fun f => (f.offset, f.type)) = fs := by
 obtain ⟨d, hd, hk'⟩ := h.run_und w
 rw [hk] at hk'
 cases d <;> simp [KdOk] at hk'
 exact ⟨_, hd, hk'⟩
theorem TOk.run_array {n e : Nat} (hk : ti.kind = .array n e) : (underlying t).run P w = .ok (.array n e) w := by
 obtain ⟨d, hd, hk'⟩ := h.run_und w
 rw [hk] at hk'
 cases d <;> simp [KdOk] at hk'
 obtain ⟨rfl, rfl⟩ := hk'; exact hd
end
def Seen (Mn : Nat -> Prop) (l : List Nat) : Prop := ∀ n ∈ l, Mn n
theorem Seen.app {Mn : Nat -> Prop} {l m : List Nat} (h : Seen Mn l) (k : Seen Mn m) : Seen Mn (l ++ m) := fun n hn => (List.mem_append.1 hn).elim (h n) (k n)
def InR (fresh m : Nat) : Prop := fresh <= m /\ m < fresh + 16
theorem within_spec {fresh : Nat} {seen : List Nat} : ∀ {l : List Nat}, within fresh seen l = true -> ∀ n ∈ l, n ∈ seen \/ InR fresh n := by
 intro l
 induction l with
 | nil => intro _ n hn; simp at hn
 | cons a r ih =>
  intro h n hn;simp only [within, Bool.and_eq_true, Bool.or_eq_true] at h;rcases List.mem_cons.1 hn with rfl | hn
  ·rcases h.1 with h | h
   ·exact .inr ⟨Nat.le_of_ble_eq_true h.1, by have := h.2; simp [Nat.blt] at this; omega⟩
   ·exact .inl (by simpa using h)
  ·exact ih h.2 n hn
section
variable {Mn O0 : Nat -> Prop} {w0 : Base} {w : World} {nt : Nat} {s : S} {g : G} {a : Act} {fresh : Nat} {seen rd : List Nat} {r : List Nat × SV × Ws}
theorem ret_inv {v : SV} {ws : Ws} (h : runP s fresh (.ret v ws) seen rd = some r) (hs : Seen Mn seen) :
  r = (rd, v, ws) /\ ∀ n ∈ names3 v ++ namesW ws, Mn n \/ InR fresh n := by
 simp only [runP] at h
 split at h
 ·rename_i hw;injection h with h
  exact ⟨h.symm, fun n hn => (within_spec hw n hn).imp (hs n) id⟩
 ·simp at h
theorem slot_inv {t : Nat} {k : SV -> Prog} (R : Rel Mn O0 w0 nt s g a w) (h : runP s fresh (.slot t k) seen rd = some r) (hs : Seen Mn seen) :
  ∃ v u seen' rd', s.fs t = some v /\ slotAt w0.gh a.tmps t = some u /\ VR3 s g v u /\ Seen Mn (names3 v) /\ Seen Mn seen' /\ runP s fresh (k v) seen' rd' = some r := by
 simp only [runP] at h
 cases hv : s.fs t with
 | none => rw [hv] at h; simp at h
 | some v =>
  rw [hv] at h;obtain ⟨u, hu, hr⟩ := R.slots t v hv;exact ⟨v, u, _, _, rfl, hu, hr, R.ms t v hv, Seen.app (R.ms t v hv) hs, h⟩
theorem ent_inv {n : Nat} {k : Ent -> Prog} (R : Rel Mn O0 w0 nt s g a w) (h : runP s fresh (.ent n k) seen rd = some r) (hs : Seen Mn seen) :
  ∃ e seen' rd', s.fe n = some e /\ EntOk w s g n e /\ Mn n /\ Seen Mn (namesE e) /\ Seen Mn seen' /\ runP s fresh (k e) seen' rd' = some r := by
 simp only [runP] at h
 cases hv : s.fe n with
 | none => rw [hv] at h; simp at h
 | some e =>
  rw [hv] at h;obtain ⟨h1, h2⟩ := R.me n e hv;exact ⟨e, _, _, rfl, R.ents n e hv, h1, h2, Seen.app h2 hs, h⟩
theorem opnd_inv {o : Operand} {k : SV -> Prog} (R : Rel Mn O0 w0 nt s g a w) (h : runP s fresh (opnd o k) seen rd = some r) (hs : Seen Mn seen) :
  ∃ v seen' rd', VR3 s g v (a.eval o) /\ Seen Mn (names3 v) /\ Seen Mn seen' /\ runP s fresh (k v) seen' rd' = some r := by
 unfold opnd at h
 split at h
 ·rename_i t
  cases hlt : Nat.blt t 1000000 with
  | false => rw [hlt] at h; simp [runP] at h
  | true =>
  rw [hlt] at h;obtain ⟨v, u, seen', rd', _, hu, hr, hn, hs', h'⟩ := slot_inv R h hs;rw [slotAt_lt (by simpa [Nat.blt_eq] using hlt)] at hu;refine ⟨v, seen', rd', ?_, hn, hs', h'⟩;have : a.eval (.tmp t) = u := by simp [Act.eval, Array.getD_eq_getD_getElem?, hu]
  rw [this]; exact hr
 ·rename_i kd n; exact ⟨.s (.i kd n), _, _, by simp [VR3, VR2, VR1, Act.eval, Sc.val], fun n hn => by simp [names3, names2, names1] at hn, hs, h⟩
 ·rename_i b; exact ⟨.s (.b b), _, _, by simp [VR3, VR2, VR1, Act.eval, Sc.val], fun n hn => by simp [names3, names2, names1] at hn, hs, h⟩
 ·exact ⟨.nils, _, _, by simp [VR3, VR2, VR1, Act.eval], fun n hn => by simp [names3, names2, names1] at hn, hs, h⟩
 ·simp [runP] at h
theorem test_inv {c : Bool} {p q : Prog} (h : runP s fresh (.test c p q) seen rd = some r) : (c = true /\ runP s fresh p seen rd = some r) \/ (c = false /\ runP s fresh q seen rd = some r) := by
 simp only [runP] at h
 cases c <;> simp at h <;> simp [h]
theorem qfq (h : runP s fresh .fail seen rd = some r) : False := by simp [runP] at h
theorem test_inv' {c : Bool} {p : Prog} (h : runP s fresh (.test c p .fail) seen rd = some r) : c = true /\ runP s fresh p seen rd = some r := by
 rcases test_inv h with h | h
 ·exact h
 ·exact (qfq h.2).elim
theorem notIn_inv {l : List Nat} {i : Nat} {p : Prog} (h : runP s fresh (notIn l i p) seen rd = some r) : (∀ c ∈ l, c ≠ i) /\ runP s fresh p seen rd = some r := by
 induction l with
 | nil => exact ⟨fun c hc => by simp at hc, h⟩
 | cons c l ih =>
  simp only [notIn] at h;rcases test_inv h with h | h
  ·exact (qfq h.2).elim
  ·obtain ⟨k1, k2⟩ := ih h.2;refine ⟨fun d hd => ?_, k2⟩;rcases List.mem_cons.1 hd with rfl | hd
   ·simpa using h.1
   ·exact k1 d hd
theorem idx_inv {i : Int} {L : Nat} {k : Nat -> Prog} (h : runP s fresh (.idx i L k) seen rd = some r) : 0 <= i /\ i < L /\ runP s fresh (k i.toNat) seen rd = some r := by
 simp only [runP] at h
 split at h
 ·rename_i hc; exact ⟨hc.1, hc.2, h⟩
 ·simp at h
theorem rng_inv {i j : Int} {L : Nat} {k : Nat -> Nat -> Prog} (h : runP s fresh (.rng i j L k) seen rd = some r) : 0 <= i /\ i <= j /\ j <= L /\ runP s fresh (k i.toNat j.toNat) seen rd = some r := by
 simp only [runP] at h
 split at h
 ·rename_i hc; exact ⟨hc.1, hc.2.1, hc.2.2, h⟩
 ·simp at h
theorem look_inv {l : Flat} {i : Nat} {k : Row -> Prog} (h : runP s fresh (.look l i k) seen rd = some r) : ∃ x, l[i]? = some x /\ runP s fresh (k x) seen rd = some r := by
 simp only [runP] at h
 split at h
 ·rename_i x hx; exact ⟨x, hx, h⟩
 ·simp at h
theorem look2_inv {l : List Flat} {i : Nat} {k : Flat -> Prog} (h : runP s fresh (.look2 l i k) seen rd = some r) : ∃ x, l[i]? = some x /\ runP s fresh (k x) seen rd = some r := by
 simp only [runP] at h
 split at h
 ·rename_i x hx; exact ⟨x, hx, h⟩
 ·simp at h
theorem rowOf_inv {n rr ver : Nat} {own : Bool} {k : Nat -> List Flat -> List Nat -> List Nat -> Flat -> Prog} (R : Rel Mn O0 w0 nt s g a w) (h : runP s fresh (rowOf n own rr ver k) seen rd = some r) (hs : Seen Mn seen) :
  ∃ own' sz rows holes log fl seen' rd', s.fe n = some (.nest own' sz rows holes log) /\ (own = true -> own' = true) /\ EntOk w s g n (.nest own' sz rows holes log) /\ Mn n /\ rr ∉ holes /\ (∀ c ∈ log.take (log.length - ver), c ≠ rr) /\ rows[rr]? = some fl /\ Seen Mn seen' /\
   runP s fresh (k sz rows holes log fl) seen' rd' = some r := by
 unfold rowOf at h
 obtain ⟨e, seen', rd', he, hok, hm, _, hs', h⟩ := ent_inv R h hs
 cases e with
 | nest own' sz rows holes log =>
  simp only at h
  cases hc : (own && !own') with
  | true => rw [hc] at h; exact (qfq h).elim
  | false =>
   rw [hc] at h;simp only [cond_false] at h;obtain ⟨h1, h⟩ := notIn_inv h;obtain ⟨h2, h⟩ := notIn_inv h;obtain ⟨fl, hfl, h⟩ := look2_inv h;exact ⟨own', sz, rows, holes, log, fl, _, _, he, by cases own <;> simp_all, hok, hm, fun hx => h1 _ hx rfl, h2, hfl, hs', h⟩
 | _ => exact (qfq h).elim
theorem bif_inv {c : Bool} {p : Prog} (h : runP s fresh (bif c then p else .fail) seen rd = some r) : c = true /\ runP s fresh p seen rd = some r := by
 cases c
 ·exact (qfq h).elim
 ·exact ⟨rfl, h⟩
end
theorem nth_get {α : Type} (l : List α) (i : Nat) : nth l i = l[i]? := by
 induction l generalizing i with
 | nil => simp [nth]
 | cons a r ih => cases i with
  | zero => simp [nth]
  | succ i => simp [nth, ih]
theorem dropN_eq {α : Type} (n : Nat) (l : List α) : dropN n l = l.drop n := by
 induction n generalizing l with
 | zero => cases l <;> rfl
 | succ n ih => cases l with
  | nil => rfl
  | cons a r => simp [dropN, ih]
theorem takeN_eq {α : Type} (n : Nat) (l m : List α) (h : takeN n l = some m) : m = l.take n /\ n <= l.length := by
 induction n generalizing l m with
 | zero => simp [takeN] at h; subst h; simp
 | succ n ih => cases l with
  | nil => simp [takeN] at h
  | cons a r =>
   simp only [takeN, Option.map_eq_some_iff] at h;obtain ⟨q, hq, rfl⟩ := h;obtain ⟨rfl, hl⟩ := ih r q hq;exact ⟨by simp, by simpa using hl⟩
theorem mapS_eq (l : List Sc) : mapS l = l.map .s := by induction l <;> simp_all [mapS]
theorem splice_get {α : Type} : ∀ (l : List α) (n : Nat) (s : List α) (i : Nat), n + s.length <= l.length -> (splice l n s)[i]? = if n <= i /\ i < n + s.length then s[i - n]? else l[i]? := by
 intro l
 induction l with
 | nil =>
  intro n s i h;simp at h;obtain ⟨rfl, rfl⟩ := h;simp [splice]
 | cons a r ih =>
  intro n s i h
  cases n with
  | zero =>
   cases s with
   | nil => simp [splice]
   | cons x s =>
    simp only [splice]
    cases i with
    | zero => simp
    | succ i =>
     have := ih 0 s i (by simp at h ⊢; omega);simp at this ⊢;rw [this]
  | succ n =>
   simp only [splice]
   cases i with
   | zero => simp
   | succ i =>
    have := ih n s i (by simp at h ⊢; omega);simp only [List.getElem?_cons_succ];rw [this];by_cases hi : n <= i /\ i < n + s.length
    ·rw [if_pos hi, if_pos (by omega)]; congr 1; omega
    ·rw [if_neg hi, if_neg (by omega)]
theorem splice_length {α : Type} : ∀ (l : List α) (n : Nat) (s : List α), n + s.length <= l.length -> (splice l n s).length = l.length := by
 intro l
 induction l with
 | nil => intro n s h; simp at h; obtain ⟨rfl, rfl⟩ := h; rfl
 | cons a r ih =>
  intro n s h
  cases n with
  | zero => cases s with
   | nil => rfl
   | cons x s => simp only [splice, List.length_cons]; rw [ih 0 s (by simp at h ⊢; omega)]
  | succ n => simp only [splice, List.length_cons]; rw [ih n s (by simp at h ⊢; omega)]
end Go.Sh
namespace Go.Sh
variable [Fwd]
theorem putW_mem {s : S} {n : Nat} {e : Ent} : ∀ {ws : Ws}, (s.putW ws).fe n = some e -> s.fe n = some e \/ (n, some e) ∈ ws := by
 intro ws
 induction ws with
 | nil => intro h; exact .inl h
 | cons a r ih =>
  obtain ⟨m, e'⟩ := a;intro h;simp only [S.putW, S.setE] at h;split at h
  ·rename_i hm; subst hm; subst h; exact .inr (by simp)
  ·exact (ih h).imp id (List.mem_cons_of_mem _)
theorem mem_namesW {n : Nat} {e : Option Ent} : ∀ {ws : Ws}, (n, e) ∈ ws -> n ∈ namesW ws /\ ∀ f, e = some f -> ∀ m ∈ namesE f, m ∈ namesW ws := by
 intro ws
 induction ws with
 | nil => intro h; simp at h
 | cons a r ih =>
  obtain ⟨k, e'⟩ := a;intro h;rcases List.mem_cons.1 h with h | h
  ·injection h with h1 h2
   subst h1; subst h2
   cases e with
   | none => exact ⟨by simp [namesW], fun f hf => by simp at hf⟩
   | some f => refine ⟨by simp [namesW], fun f' hf m hm => ?_⟩; injection hf with hf; subst hf; simp [namesW, hm]
  ·obtain ⟨h1, h2⟩ := ih h
   cases e' with
   | none => exact ⟨by simp [namesW, h1], fun f hf m hm => by simp [namesW, h2 f hf m hm]⟩
   | some f' => exact ⟨by simp [namesW, h1], fun f hf m hm => by simp [namesW, h2 f hf m hm]⟩
structure Did (Mn : Nat -> Prop) (s : S) (g : G) (w : World) (N : Nat -> Prop) (v : SV) (ws : Ws) (u : Value) (w' : World) (g' : G) : Prop where
 frm : Frm (fun b => ∃ k, g.own b = some k) w w'
 own : ∀ b k, b < w.heap.size -> g'.own b = some k -> ∃ k', g.own b = some k'
 bound : ∀ b k, g'.own b = some k -> b < w'.heap.size
 label : ∀ b n r, g'.own b = some (n, r) -> Mn n \/ N n
 less : ∀ n, Mn n -> Less s (s.putW ws) g g' n
 ents : ∀ n e, (s.putW ws).fe n = some e -> EntOk w' (s.putW ws) g' n e
 val : VR3 (s.putW ws) g' v u
section
variable {Mn O0 : Nat -> Prop} {w0 : Base} {w w' : World} {nt : Nat} {s : S} {g g' : G} {a : Act} {N : Nat -> Prop} {v : SV} {ws : Ws} {u : Value}
theorem Did.rel (R : Rel Mn O0 w0 nt s g a w) (D : Did Mn s g w N v ws u w' g') {d : Option Nat} {u' : Value} (hd : ∀ t, d = some t -> t < nt) (hu : d.isSome = true -> u' = u)
  (hn : ∀ n ∈ names3 v ++ namesW ws, Mn n \/ N n) : Rel (fun n => Mn n \/ N n) O0 w0 nt (s.put d v ws) g' (a.put d u') w' := by
 have hl : ∀ n, Less (s.putW ws) (s.put d v ws) g' g' n := fun n => Less.of (.inl (by rw [put_fe])) rfl rfl (fun _ => rfl) (fun _ => rfl)
 have tr : ∀ n, Less s (s.putW ws) g g' n -> Less s (s.put d v ws) g g' n := fun n h =>
  ⟨h.base, h.cap, fun p hp => h.len p ((hl n).len p hp), fun r ver L sz hv hr => h.row r ver L sz hv (by simpa [RowAt, put_fe] using hr), fun ver hv => by have := h.ver ver hv; simpa [VerOk, put_fe] using this⟩
 refine R.put hd (fun n h => .inl h) (fun n h => hn n (List.mem_append_left _ h)) (fun n e he => ?_) D.frm D.own D.bound D.label (fun n h => tr n (D.less n h)) (fun n e he => ?_) (fun h => ?_)
 ·rcases putW_mem he with h | h
  ·exact .inl h
  ·obtain ⟨h1, h2⟩ := mem_namesW h;exact .inr ⟨hn n (List.mem_append_right _ h1), fun m hm => hn m (List.mem_append_right _ (h2 e rfl m hm))⟩
 ·exact (D.ents n e he).keep (fun _ _ _ _ => ⟨rfl, rfl⟩) (fun _ _ h => ⟨h, rfl⟩) rfl rfl (fun _ => rfl) (fun _ => rfl) (fun m _ => hl m)
 ·rw [hu h]; exact D.val.less (fun n _ => hl n)
theorem Did.pure (R : Rel Mn O0 w0 nt s g a w) (hv : VR3 s g v u) : Did Mn s g w N v [] u w g := {
 frm := Frm.refl _ _
 own := fun b k _ h => ⟨k, h⟩
 bound := R.bound
 label := fun b n r h => .inl (R.label b n r h)
 less := fun n _ => Less.refl s g n
 ents := R.ents
 val := hv }
theorem did_of (R : Rel Mn O0 w0 nt s g a w) (D : Nat -> Prop)
  (hfe : ∀ n, Mn n -> ¬ D n -> (s.putW ws).fe n = s.fe n)
  (hold : ∀ n e, (s.putW ws).fe n = some e -> Mn n \/ N n)
  (hag : ∀ n, Mn n -> ¬ D n -> g'.base n = g.base n /\ g'.cap n = g.cap n /\ (∀ i, g'.rbase n i = g.rbase n i) /\ ∀ i, g'.rcap n i = g.rcap n i)
  (hblk : ∀ b n r, b < w.heap.size -> g.own b = some (n, r) -> ¬ D n -> g'.own b = g.own b /\ w'.heap[b]? = w.heap[b]?)
  (hnon : ∀ b, b < w.heap.size -> g.own b = none -> g'.own b = none /\ w'.heap[b]? = w.heap[b]?)
  (hw : w'.os = w.os /\ Tp w w' /\ w'.output = w.output /\ w.heap.size <= w'.heap.size)
  (hbound : ∀ b k, g'.own b = some k -> b < w'.heap.size) (hlab : ∀ b n r, g'.own b = some (n, r) -> Mn n \/ N n)
  (hlessD : ∀ n, Mn n -> D n -> Less s (s.putW ws) g g' n)
  (hentsD : ∀ n e, (s.putW ws).fe n = some e -> (Mn n -> D n) -> EntOk w' (s.putW ws) g' n e)
  (hv : (∀ n, Mn n -> Less s (s.putW ws) g g' n) -> VR3 (s.putW ws) g' v u) : Did Mn s g w N v ws u w' g' := by
 have hless : ∀ n, Mn n -> Less s (s.putW ws) g g' n := fun n hn => by
  by_cases hd : D n
  ·exact hlessD n hn hd
  ·obtain ⟨h1, h2, h3, h4⟩ := hag n hn hd;exact Less.of (.inl (hfe n hn hd)) h1 h2 h3 h4
 refine ⟨⟨hw.1, hw.2.1, hw.2.2.1, hw.2.2.2, fun b hb hn => ?_⟩, fun b k hb hk => ?_, hbound, hlab, hless, fun n e he => ?_, hv hless⟩
 ·cases ho : g.own b with
  | none => exact (hnon b hb ho).2
  | some k => exact absurd ⟨k, ho⟩ hn
 ·cases ho : g.own b with
  | none => rw [(hnon b hb ho).1] at hk; simp at hk
  | some k' => exact ⟨k', rfl⟩
 ·by_cases hm : Mn n
  ·by_cases hd : D n
   ·exact hentsD n e he (fun _ => hd)
   ·obtain ⟨h1, h2, h3, h4⟩ := hag n hm hd;have he' := he;rw [hfe n hm hd] at he';exact (R.ents n e he').keep (fun b r hb ho => hblk b n r hb ho hd) hnon h1 h2 h3 h4 (fun m hm' => hless m ((R.me n e he').2 m hm'))
  ·exact hentsD n e he (fun h => absurd h hm)
def G.new (g : G) (m : Nat) (A : Option Addr) (c : Nat) (rb : Nat -> Option Addr) (rc : Nat -> Nat) (own : Nat -> Option Key) : G := {
 base n := if n = m then A else g.base n
 cap n := if n = m then c else g.cap n
 rbase n := if n = m then rb else g.rbase n
 rcap n := if n = m then rc else g.rcap n
 own := own }
def ownNew (g : G) (b : Nat) (k : Key) (f : Key -> Key) : Nat -> Option Key := fun x => if x = b then some k else (g.own x).map f
theorem heap_alloc_lt (w : World) (o : Obj) {b : Nat} (h : b < w.heap.size) : (w.alloc o).heap[b]? = w.heap[b]? := by
 simp only [World.alloc]
 rw [Array.getElem?_push]
 rw [if_neg (by omega)]
theorem heap_alloc_at (w : World) (o : Obj) : (w.alloc o).heap[w.heap.size]? = some o := by
 show (w.heap.push o)[w.heap.size]? = some o
 simp
theorem gone_not {s : S} {gone : List Nat} {n : Nat} (h : n ∉ gone) : (s.putW (gone.map fun n => (n, none))).fe n = s.fe n := by
 induction gone with
 | nil => rfl
 | cons x r ih =>
  simp only [List.map_cons, S.putW, S.setE];rw [if_neg (fun e => h (by simp [e])), ih (fun y => h (List.mem_cons_of_mem _ y))]
theorem gone_mem {s : S} {gone : List Nat} {n : Nat} (h : n ∈ gone) : (s.putW (gone.map fun n => (n, none))).fe n = none := by
 induction gone with
 | nil => simp at h
 | cons x r ih =>
  simp only [List.map_cons, S.putW, S.setE];split
  ·rfl
  ·rename_i hx;exact ih (by simpa [hx] using h)
theorem gone_notG {s : S} {gone : List Nat} {gf : Nat -> Option Ent} {n : Nat} (h : n ∉ gone) : (s.putW (gone.map fun n => (n, gf n))).fe n = s.fe n := by
 induction gone with
 | nil => rfl
 | cons x r ih =>
  simp only [List.map_cons, S.putW, S.setE];rw [if_neg (fun e => h (by simp [e])), ih (fun y => h (List.mem_cons_of_mem _ y))]
theorem gone_memG {s : S} {gone : List Nat} {gf : Nat -> Option Ent} {n : Nat} (h : n ∈ gone) : (s.putW (gone.map fun n => (n, gf n))).fe n = gf n := by
 induction gone with
 | nil => simp at h
 | cons x r ih =>
  simp only [List.map_cons, S.putW, S.setE];split
  ·rename_i hx; rw [hx]
  ·rename_i hx;exact ih (by simpa [hx] using h)
theorem did_newG (R : Rel Mn O0 w0 nt s g a w) {m : Nat} (hm : N m) (hnew : ¬ Mn m) {e : Ent} (A : Option Addr) (c : Nat) (rb : Nat -> Option Addr) (rc : Nat -> Nat) (f : Key -> Key) (gone : List Nat) (hg : ∀ n ∈ gone, Mn n) (gf : Nat -> Option Ent) (hgf : ∀ n ∈ gone, gf n = none \/ ∃ L sz, gf n = some (.was L sz) /\ lenSz s n = some (L, sz))
  (hf : ∀ n r, n ∉ gone -> f (n, r) = (n, r)) (hf' : ∀ n r, n ∈ gone -> (f (n, r)).1 = m \/ (f (n, r)).1 ∈ gone) (own' : Nat -> Option Key) (hown : ∀ b, b < w.heap.size -> own' b = (g.own b).map f)
  (w' : World) (h1 : w'.os = w.os /\ Tp w w' /\ w'.output = w.output /\ w.heap.size <= w'.heap.size)
  (hnb : ∀ b k, w.heap.size <= b -> own' b = some k -> b < w'.heap.size /\ k.1 = m)
  (hheap : ∀ b, b < w.heap.size -> (∀ n r, g.own b = some (n, r) -> n ∉ gone) -> w'.heap[b]? = w.heap[b]?)
  (he : ∀ g', g' = g.new m A c rb rc own' -> (∀ n, Mn n -> Less s (s.putW ((m, some e) :: gone.map fun n => (n, gf n))) g g' n) ->
   EntOk w' (s.putW ((m, some e) :: gone.map fun n => (n, gf n))) g' m e)
  (hv : ∀ g', g' = g.new m A c rb rc own' -> VR3 (s.putW ((m, some e) :: gone.map fun n => (n, gf n))) g' v u) :
  Did Mn s g w N v ((m, some e) :: gone.map fun n => (n, gf n)) u w' (g.new m A c rb rc own') := by
 have hfe : ∀ n, n ≠ m -> n ∉ gone -> (s.putW ((m, some e) :: gone.map fun n => (n, gf n))).fe n = s.fe n := by
  intro n hn hg;simp only [S.putW, S.setE];rw [if_neg hn];exact gone_notG hg
 have hgo : ∀ n, n ≠ m -> n ∈ gone -> (s.putW ((m, some e) :: gone.map fun n => (n, gf n))).fe n = gf n := by
  intro n hn hg;simp only [S.putW, S.setE];rw [if_neg hn];exact gone_memG hg
 have hat : ∀ n, Mn n -> n ≠ m := fun n hn e => hnew (e ▸ hn)
 have hless : ∀ n, Mn n -> Less s (s.putW ((m, some e) :: gone.map fun n => (n, gf n))) g (g.new m A c rb rc own') n := fun k hk => by
  have hkm := hat k hk;by_cases hkg : k ∈ gone
  ·rcases hgf k hkg with hz | ⟨L, sz, hz, hL⟩
   ·exact Less.of (.inr ((hgo k hkm hkg).trans hz)) (by simp [G.new, hkm]) (by simp [G.new, hkm]) (fun _ => by simp [G.new, hkm]) (fun _ => by simp [G.new, hkm])
   ·have he := (hgo k hkm hkg).trans hz;refine ⟨by simp [G.new, hkm], by simp [G.new, hkm], fun p hp => ?_, fun r ver L' sz' _ hr => ?_, fun ver _ => ?_⟩
    ·simp only [lenSz, he] at hp; rw [hL]; exact hp
    ·obtain ⟨_, _, _, _, _, h, _⟩ := hr; rw [he] at h; simp at h
    ·intro q1 q2 q3 q4 q5 h; rw [he] at h; simp at h
  ·exact Less.of (.inl (hfe k hkm hkg)) (by simp [G.new, hkm]) (by simp [G.new, hkm]) (fun _ => by simp [G.new, hkm]) (fun _ => by simp [G.new, hkm])
 refine did_of R (fun n => n ∈ gone) (fun n hn hd => hfe n (hat n hn) hd) (fun n e' hx => ?_) (fun n hn _ => ?_) (fun b n r hb ho hd => ?_) (fun b hb ho => ?_)
  h1 (fun b k hk => ?_) (fun b n r hk => ?_) (fun n hn hd => hless n hn) (fun n e' hx hd => ?_) (fun _ => hv _ rfl)
 ·by_cases hn : n = m
  ·subst hn; exact .inr hm
  ·by_cases hgn : n ∈ gone
   ·exact .inl (hg n hgn)
   ·rw [hfe n hn hgn] at hx; exact .inl (R.me n e' hx).1
 ·have := hat n hn;simp [G.new, this]
 ·refine ⟨?_, hheap b hb (fun n' r' ho' => ?_)⟩
  ·simp only [G.new]; rw [hown b hb, ho]; simp [hf n r hd]
  ·rw [ho] at ho'; injection ho' with ho'; injection ho' with e1 _; rw [<- e1]; exact hd
 ·refine ⟨?_, hheap b hb (fun n' r' ho' => ?_)⟩
  ·simp only [G.new]; rw [hown b hb, ho]; rfl
  ·rw [ho] at ho'; simp at ho'
 ·simp only [G.new] at hk;rcases Nat.lt_or_ge b w.heap.size with hb | hb
  ·exact Nat.lt_of_lt_of_le hb h1.2.2.2
  ·exact (hnb b k hb hk).1
 ·simp only [G.new] at hk;rcases Nat.lt_or_ge b w.heap.size with hb | hb
  ·rw [hown b hb] at hk
   cases ho : g.own b with
   | none => rw [ho] at hk; simp at hk
   | some k0 =>
    obtain ⟨n0, r0⟩ := k0;rw [ho] at hk;simp only [Option.map_some, Option.some.injEq] at hk;by_cases hgn : n0 ∈ gone
    ·have := hf' n0 r0 hgn;rw [hk] at this;rcases this with h | h
     ·simp only at h; rw [h]; exact .inr hm
     ·exact .inl (hg _ h)
    ·rw [hf n0 r0 hgn] at hk;injection hk with h1 _
     rw [<- h1];exact .inl (R.label b n0 r0 ho)
  ·have := (hnb b _ hb hk).2;simp only at this;rw [this]; exact .inr hm
 ·by_cases hn : n = m
  ·subst hn;have hee : e' = e := by simp [S.putW, S.setE] at hx; exact hx.symm
   subst hee;exact he _ rfl hless
  ·by_cases hgn : n ∈ gone
   ·rw [hgo n hn hgn] at hx;rcases hgf n hgn with hz | ⟨L, sz, hz, _⟩
    ·rw [hz] at hx; simp at hx
    ·rw [hz] at hx; injection hx with hx; subst hx; exact trivial
   ·rw [hfe n hn hgn] at hx;exact absurd (hd (R.me n e' hx).1) hgn
theorem did_allocG (R : Rel Mn O0 w0 nt s g a w) {m : Nat} (hm : N m) (hnew : ¬ Mn m) {e : Ent} {arr : Array Value} {ty : TypeId} (c : Nat) (rb : Nat -> Option Addr) (rc : Nat -> Nat) (f : Key -> Key) (gone : List Nat) (hg : ∀ n ∈ gone, Mn n) (gf : Nat -> Option Ent) (hgf : ∀ n ∈ gone, gf n = none \/ ∃ L sz, gf n = some (.was L sz) /\ lenSz s n = some (L, sz))
  (hf : ∀ n r, n ∉ gone -> f (n, r) = (n, r)) (hf' : ∀ n r, n ∈ gone -> (f (n, r)).1 = m \/ (f (n, r)).1 ∈ gone)
  (w1 : World) (h1 : w1.os = w.os /\ Tp w w1 /\ w1.output = w.output /\ w1.heap = w.heap)
  (he : ∀ g', g' = g.new m (some ⟨w.heap.size, 0, none⟩) c rb rc (ownNew g w.heap.size (m, none) f) -> (∀ n, Mn n -> Less s (s.putW ((m, some e) :: gone.map fun n => (n, gf n))) g g' n) ->
   (∀ b, b < w.heap.size -> (w1.alloc (.cells arr ty)).heap[b]? = w.heap[b]?) -> (w1.alloc (.cells arr ty)).heap[w.heap.size]? = some (.cells arr ty (0, 0)) ->
   EntOk (w1.alloc (.cells arr ty)) (s.putW ((m, some e) :: gone.map fun n => (n, gf n))) g' m e)
  (hv : ∀ g', g' = g.new m (some ⟨w.heap.size, 0, none⟩) c rb rc (ownNew g w.heap.size (m, none) f) -> VR3 (s.putW ((m, some e) :: gone.map fun n => (n, gf n))) g' v u) :
  Did Mn s g w N v ((m, some e) :: gone.map fun n => (n, gf n)) u (w1.alloc (.cells arr ty)) (g.new m (some ⟨w.heap.size, 0, none⟩) c rb rc (ownNew g w.heap.size (m, none) f)) := by
 have hsz : (w1.alloc (.cells arr ty)).heap.size = w.heap.size + 1 := by simp [h1.2.2.2]
 have hheap : ∀ b, b < w.heap.size -> (w1.alloc (.cells arr ty)).heap[b]? = w.heap[b]? := fun b hb => by
  rw [heap_alloc_lt _ _ (by rw [h1.2.2.2]; exact hb), h1.2.2.2]
 have hat : (w1.alloc (.cells arr ty)).heap[w.heap.size]? = some (.cells arr ty (0, 0)) := by
  have := heap_alloc_at w1 (.cells arr ty); rwa [h1.2.2.2] at this
 refine did_newG R hm hnew _ c rb rc f gone hg gf hgf hf hf' _ (fun b hb => by simp [ownNew, show b ≠ w.heap.size by omega]) _ ⟨h1.1, h1.2.1, h1.2.2.1, by rw [hsz]; omega⟩ (fun b k hb hk => ?_) (fun b hb _ => hheap b hb)
  (fun g' hg' hl => he g' hg' hl hheap hat) hv
 by_cases hbe : b = w.heap.size
 ·subst hbe; simp [ownNew] at hk; exact ⟨by rw [hsz]; omega, by rw [<- hk]⟩
 ·simp only [ownNew, if_neg hbe] at hk
  cases ho : g.own b with
  | none => rw [ho] at hk; simp at hk
  | some k0 => have := R.bound b k0 ho; omega
theorem did_new (R : Rel Mn O0 w0 nt s g a w) {m : Nat} (hm : N m) (hnew : ¬ Mn m) {e : Ent} (A : Option Addr) (c : Nat) (rb : Nat -> Option Addr) (rc : Nat -> Nat) (f : Key -> Key) (gone : List Nat) (hg : ∀ n ∈ gone, Mn n)
  (hf : ∀ n r, n ∉ gone -> f (n, r) = (n, r)) (hf' : ∀ n r, n ∈ gone -> (f (n, r)).1 = m \/ (f (n, r)).1 ∈ gone) (own' : Nat -> Option Key) (hown : ∀ b, b < w.heap.size -> own' b = (g.own b).map f)
  (w' : World) (h1 : w'.os = w.os /\ Tp w w' /\ w'.output = w.output /\ w.heap.size <= w'.heap.size)
  (hnb : ∀ b k, w.heap.size <= b -> own' b = some k -> b < w'.heap.size /\ k.1 = m)
  (hheap : ∀ b, b < w.heap.size -> (∀ n r, g.own b = some (n, r) -> n ∉ gone) -> w'.heap[b]? = w.heap[b]?)
  (he : ∀ g', g' = g.new m A c rb rc own' -> (∀ n, Mn n -> Less s (s.putW ((m, some e) :: gone.map fun n => (n, none))) g g' n) ->
   EntOk w' (s.putW ((m, some e) :: gone.map fun n => (n, none))) g' m e)
  (hv : ∀ g', g' = g.new m A c rb rc own' -> VR3 (s.putW ((m, some e) :: gone.map fun n => (n, none))) g' v u) :
  Did Mn s g w N v ((m, some e) :: gone.map fun n => (n, none)) u w' (g.new m A c rb rc own') :=
 did_newG R hm hnew A c rb rc f gone hg (fun _ => none) (fun _ _ => .inl rfl) hf hf' own' hown w' h1 hnb hheap he hv
theorem did_alloc (R : Rel Mn O0 w0 nt s g a w) {m : Nat} (hm : N m) (hnew : ¬ Mn m) {e : Ent} {arr : Array Value} {ty : TypeId} (c : Nat) (rb : Nat -> Option Addr) (rc : Nat -> Nat) (f : Key -> Key) (gone : List Nat) (hg : ∀ n ∈ gone, Mn n)
  (hf : ∀ n r, n ∉ gone -> f (n, r) = (n, r)) (hf' : ∀ n r, n ∈ gone -> (f (n, r)).1 = m \/ (f (n, r)).1 ∈ gone)
  (w1 : World) (h1 : w1.os = w.os /\ Tp w w1 /\ w1.output = w.output /\ w1.heap = w.heap)
  (he : ∀ g', g' = g.new m (some ⟨w.heap.size, 0, none⟩) c rb rc (ownNew g w.heap.size (m, none) f) -> (∀ n, Mn n -> Less s (s.putW ((m, some e) :: gone.map fun n => (n, none))) g g' n) ->
   (∀ b, b < w.heap.size -> (w1.alloc (.cells arr ty)).heap[b]? = w.heap[b]?) -> (w1.alloc (.cells arr ty)).heap[w.heap.size]? = some (.cells arr ty (0, 0)) ->
   EntOk (w1.alloc (.cells arr ty)) (s.putW ((m, some e) :: gone.map fun n => (n, none))) g' m e)
  (hv : ∀ g', g' = g.new m (some ⟨w.heap.size, 0, none⟩) c rb rc (ownNew g w.heap.size (m, none) f) -> VR3 (s.putW ((m, some e) :: gone.map fun n => (n, none))) g' v u) :
  Did Mn s g w N v ((m, some e) :: gone.map fun n => (n, none)) u (w1.alloc (.cells arr ty)) (g.new m (some ⟨w.heap.size, 0, none⟩) c rb rc (ownNew g w.heap.size (m, none) f)) :=
 did_allocG R hm hnew c rb rc f gone hg (fun _ => none) (fun _ _ => .inl rfl) hf hf' w1 h1 he hv
end
section
variable {Mn O0 : Nat -> Prop} {w0 : Base} {w w' : World} {nt : Nat} {s s' : S} {g g' : G} {a : Act} {N : Nat -> Prop} {v : SV} {ws : Ws} {u : Value}
open Classical in
noncomputable def G.free (g : G) (D : Key -> Prop) : G := { g with own := fun b => match g.own b with
 | some k => if D k then none else some k
 | none => none }
theorem free_some {D : Key -> Prop} {b : Nat} {k : Key} (h : (g.free D).own b = some k) : g.own b = some k /\ ¬ D k := by
 simp only [G.free] at h
 cases ho : g.own b with
 | none => rw [ho] at h; simp at h
 | some k' =>
  rw [ho] at h;simp only at h;split at h
  ·simp at h
  ·rename_i hd; injection h with h; subst h; exact ⟨rfl, hd⟩
theorem free_kept {D : Key -> Prop} {b : Nat} {k : Key} (h : g.own b = some k) (hd : ¬ D k) : (g.free D).own b = some k := by simp [G.free, h, hd]
theorem free_gone {D : Key -> Prop} {b : Nat} {k : Key} (h : g.own b = some k) (hd : D k) : (g.free D).own b = none := by simp [G.free, h, hd]
theorem free_none {D : Key -> Prop} {b : Nat} (h : g.own b = none) : (g.free D).own b = none := by simp [G.free, h]
theorem Rel.turn (R : Rel Mn O0 w0 nt s g a w) {s' : S} {n : Nat} {e' : Ent} (D : Key -> Prop) (hD : ∀ m r, D (m, r) -> m = n) (hfs : s'.fs = s.fs) (hfe : ∀ m, m ≠ n -> s'.fe m = s.fe m) (hat : s'.fe n = some e') (hMn : Mn n) (hnm : ∀ m ∈ namesE e', Mn m)
  (hl : Less s s' g (g.free D) n) (he : EntOk w s' (g.free D) n e') : Rel Mn O0 w0 nt s' (g.free D) a w := by
 have hless : ∀ m, Less s s' g (g.free D) m := fun m => by
  by_cases hm : m = n
  ·subst hm; exact hl
  ·exact Less.of (.inl (hfe m hm)) rfl rfl (fun _ => rfl) (fun _ => rfl)
 refine ⟨R.size, R.defers, R.small, fun t v hv => ?_, fun m e hm => ?_, fun b k hk => R.bound b k (free_some hk).1, fun b m r hk => R.label b m r (free_some hk).1, fun t v hv => R.ms t v (by rw [<- hfs]; exact hv), fun m e hm => ?_, R.frm, fun b k hk hb => R.ours b k (free_some hk).1 hb⟩
 ·obtain ⟨u, hu, hx⟩ := R.slots t v (by rw [<- hfs]; exact hv);exact ⟨u, hu, hx.less (fun m _ => hless m)⟩
 ·by_cases hmn : m = n
  ·subst hmn;rw [hat] at hm; injection hm with hm; subst hm; exact he
  ·exact (R.ents m e (by rw [<- hfe m hmn]; exact hm)).keep (fun b r _ ho => ⟨by rw [ho, free_kept ho (fun hd => hmn (hD _ _ hd))], rfl⟩) (fun b _ ho => ⟨free_none ho, rfl⟩) rfl rfl (fun _ => rfl) (fun _ => rfl) (fun m _ => hless m)
 ·by_cases hmn : m = n
  ·subst hmn;rw [hat] at hm; injection hm with hm; subst hm; exact ⟨hMn, hnm⟩
  ·exact R.me m e (by rw [<- hfe m hmn]; exact hm)
theorem Less.trans {s1 s2 s3 : S} {g1 g2 g3 : G} {n : Nat} (h : Less s1 s2 g1 g2 n) (k : Less s2 s3 g2 g3 n) : Less s1 s3 g1 g3 n :=
 ⟨k.base.trans h.base, k.cap.trans h.cap, fun p hp => h.len p (k.len p hp), fun r ver L sz hv hr => by
  obtain ⟨q1, q2, q3⟩ := k.row r ver L sz (h.ver ver hv) hr;obtain ⟨q4, q5, q6⟩ := h.row r ver L sz hv q1;exact ⟨q4, q2.trans q5, q3.trans q6⟩, fun ver hv => k.ver ver (h.ver ver hv)⟩
theorem putW_app (s : S) (ws ws0 : Ws) : (s.putW ws0).putW ws = s.putW (ws ++ ws0) := by
 induction ws with
 | nil => rfl
 | cons p r ih => obtain ⟨n, e⟩ := p; simp only [List.cons_append, S.putW, ih]
theorem freeze (R : Rel Mn O0 w0 nt s g a w) {n sz : Nat} {own : Bool} {rows : Flat} (he : s.fe n = some (.flat own sz rows)) :
  ∃ g1, Rel Mn O0 w0 nt (s.putW [(n, some (.flat false sz rows))]) g1 a w /\ (∀ m, Less s (s.putW [(n, some (.flat false sz rows))]) g g1 m) /\ ∀ b k, g1.own b = some k -> g.own b = some k := by
 have h2 : ∀ m, m ≠ n -> (s.putW [(n, some (.flat false sz rows))]).fe m = s.fe m := fun m hm => by simp [S.putW, S.setE, hm]
 have h3 : (s.putW [(n, some (.flat false sz rows))]).fe n = some (.flat false sz rows) := by simp [S.putW, S.setE]
 have hl : Less s (s.putW [(n, some (.flat false sz rows))]) g (g.free fun k => k = (n, none)) n := by
  refine ⟨rfl, rfl, fun p hp => ?_, fun r ver L sz' _ hr => ?_, fun ver _ => ?_⟩
  ·simp only [lenSz, h3] at hp; simp only [lenSz, he]; exact hp
  ·obtain ⟨_, _, _, _, _, h, _⟩ := hr; rw [h3] at h; simp at h
  ·intro q1 q2 q3 q4 q5 h; rw [h3] at h; simp at h
 refine ⟨g.free fun k => k = (n, none), R.turn (n := n) (fun k => k = (n, none)) (fun m r h => by injection h) rfl h2 h3 (R.me n _ he).1 (fun m hm => by simp [namesE] at hm) hl ?_, fun m => ?_, fun b k hk => (free_some hk).1⟩
 ·have hF : FlatOk w g.own (if own then some (n, none) else none) (g.base n) (g.cap n) sz rows := R.ents n _ he;show FlatOk w _ none (g.base n) (g.cap n) sz rows
  refine hF.mono (by simp) (fun b _ ho => ⟨?_, rfl⟩)
  cases own with
  | true => exact free_gone ho rfl
  | false => exact free_none ho
 ·by_cases hm : m = n
  ·subst hm; exact hl
  ·exact Less.of (.inl (h2 m hm)) rfl rfl (fun _ => rfl) (fun _ => rfl)
theorem Did.behind {g1 : G} {ws0 : Ws} (hl : ∀ m, Less s (s.putW ws0) g g1 m) (ho : ∀ b k, g1.own b = some k -> g.own b = some k) (D : Did Mn (s.putW ws0) g1 w N v ws u w' g') : Did Mn s g w N v (ws ++ ws0) u w' g' := by
 have e := putW_app s ws ws0
 refine ⟨⟨D.frm.os, D.frm.tape, D.frm.output, D.frm.size, fun b hb hn => D.frm.block b hb fun ⟨k, hk⟩ => hn ⟨k, ho b k hk⟩⟩, fun b k hb hk => ?_, D.bound, D.label, fun n hn => ?_, fun n e' he' => ?_, ?_⟩
 ·obtain ⟨k', hk'⟩ := D.own b k hb hk;exact ⟨k', ho b k' hk'⟩
 ·rw [<- e]; exact (hl n).trans (D.less n hn)
 ·rw [<- e] at he' ⊢; exact D.ents n e' he'
 ·rw [<- e]; exact D.val
end
end Go.Sh
namespace Go.Sh
variable [Fwd]
theorem eqCells_some (l m : List SV) : ∀ c, eqCells l m = some c -> (∀ v ∈ l, ∃ x, v = SV.s x) /\ (∀ v ∈ m, ∃ x, v = SV.s x) := by
 have cons : ∀ {x y : Sc} {r s : List SV}, (∀ v ∈ r, ∃ x, v = SV.s x) /\ (∀ v ∈ s, ∃ x, v = SV.s x) -> (∀ v ∈ SV.s x :: r, ∃ x, v = SV.s x) /\ (∀ v ∈ SV.s y :: s, ∃ x, v = SV.s x) := by
  rintro x y r s ⟨i1, i2⟩;refine ⟨fun v hv => ?_, fun v hv => ?_⟩
  ·rcases List.mem_cons.1 hv with rfl | hv
   ·exact ⟨_, rfl⟩
   ·exact i1 v hv
  ·rcases List.mem_cons.1 hv with rfl | hv
   ·exact ⟨_, rfl⟩
   ·exact i2 v hv
 fun_induction eqCells l m with
 | case1 => simp
 | case2 k a r k' b s hk ih =>
  intro c h;simp only [Option.map_eq_some_iff] at h;obtain ⟨c', hc', _⟩ := h;exact cons (ih c' hc')
 | case3 => intro c h; simp at h
 | case4 a r b s ih =>
  intro c h;simp only [Option.map_eq_some_iff] at h;obtain ⟨c', hc', _⟩ := h;exact cons (ih c' hc')
 | case5 => intro c h; simp at h
def Out (P : Program) (Mn : Nat -> Prop) (s : S) (g : G) (w : World) (fresh : Nat) (m : Sem Value) (r : List Nat × SV × Ws) : Prop :=
 ∃ u w' g', m.run P w = .ok u w' /\ Did Mn s g w (InR fresh) r.2.1 r.2.2 u w' g' /\ ∀ n ∈ names3 r.2.1 ++ namesW r.2.2, Mn n \/ InR fresh n
section
variable {P : Program} {T : Tab} {Mn O0 : Nat -> Prop} {w0 : Base} {w : World} {nt : Nat} {s : S} {g : G} {a : Act} {fresh : Nat} {seen rd : List Nat} {r : List Nat × SV × Ws}
theorem out_pure (R : Rel Mn O0 w0 nt s g a w) (hs : Seen Mn seen) {v : SV} {u : Value} {m : Sem Value} (h : runP s fresh (.ret v []) seen rd = some r) (hm : m.run P w = .ok u w) (hv : VR3 s g v u) : Out P Mn s g w fresh m r := by
 obtain ⟨rfl, hn⟩ := ret_inv h hs
 exact ⟨u, w, g, hm, Did.pure R hv, hn⟩
theorem out_sc (R : Rel Mn O0 w0 nt s g a w) (hs : Seen Mn seen) {x : Sc} {m : Sem Value} (h : runP s fresh (.ret (.s x) []) seen rd = some r) (hm : m.run P w = .ok x.val w) : Out P Mn s g w fresh m r :=
 out_pure R hs h hm rfl
theorem VR3.one {v : SV} {u : Value} (h : VR1 s g v u) : VR3 s g v u := by
 cases v <;> first | exact h | exact h.elim
theorem VR3.ofAgg {l : List SV} {cs : Array Value} (h : All2 (VR1 s g) l cs.toList) : VR3 s g (.agg l) (.agg cs) := ⟨cs, rfl, h⟩
theorem VR1.cell {v : SV} {u : Value} (h : VR1 s g v u) (hb : solid v = true) : u.oneCell' = true := by
 cases v with
 | s x => cases x <;> (rw [h]; rfl)
 | nils => rw [h]; rfl
 | ptr n off => obtain ⟨_, _, rfl⟩ := h; rfl
 | sl n row sub =>
  cases row with
  | none => obtain ⟨_, _, _, rfl, _⟩ := h; rfl
  | some rv => obtain ⟨_, _, _, _, rfl, _⟩ := h; rfl
 | mp n => obtain ⟨_, _, rfl⟩ := h; rfl
 | fc f n => obtain ⟨_, _, rfl⟩ := h; rfl
 | _ => simp [solid] at hb
theorem cells_at {arr : Array Value} {b : Nat} {ty : TypeId} (h : w.heap[b]? = some (.cells arr ty (0, 0))) (i : Nat) : w.cell? ⟨b, i, none⟩ = arr[i]? := by
 simp [World.cell?, h]
theorem vecR_length (l : Row) : (vecR l).length = l.length := by
 induction l with
 | nil => rfl
 | cons x r ih => simp [vecR, ih]
theorem vecR_get {l : Row} {i : Nat} {x : Sc} (h : l[i]? = some x) : (vecR l)[i]? = some [x] := by
 induction l generalizing i with
 | nil => simp at h
 | cons y r ih =>
  cases i with
  | zero => simp at h; subst h; rfl
  | succ i => simpa [vecR] using ih (by simpa using h)
theorem vecR_inv {l : Row} {i : Nat} {row : Row} (h : (vecR l)[i]? = some row) : ∃ x, l[i]? = some x /\ row = [x] := by
 induction l generalizing i with
 | nil => simp [vecR] at h
 | cons y r ih =>
  cases i with
  | zero => simp [vecR] at h; subst h; exact ⟨y, rfl, rfl⟩
  | succ i => simpa using ih (by simpa [vecR] using h)
theorem unvec_map {rows : Flat} (h : ∀ (i : Nat) (row : Row), rows[i]? = some row -> row.length = 1) : vecR (unvec rows) = rows := by
 induction rows with
 | nil => rfl
 | cons row r ih =>
  have h0 := h 0 row rfl
  match row, h0 with
  | [x], _ =>
   simp only [unvec, vecR];rw [ih (fun i row hi => h (i + 1) row (by simpa using hi))]
theorem isGreat_agg {ti : TI} (h : isGreat ti = true) : ti.isAgg = true := by
 unfold isGreat at h
 unfold TI.isAgg
 split at h
 ·rename_i hk; rw [hk]
 ·cases h
theorem isGreat_size {ti : TI} (h : isGreat ti = true) : 16 < ti.size /\ ti.size <= 1000000 := by
 unfold isGreat at h
 split at h
 ·simp only [Bool.and_eq_true] at h;have h1 := qBq h.2.1;have h2 := Nat.le_of_ble_eq_true h.2.2;have h3 := h.1;simp only [Nat.blt_eq] at h3;omega
 ·cases h
theorem load_sim (hT : TabOk P T) (R : Rel Mn O0 w0 nt s g a w) (hs : Seen Mn seen) (hf : ∀ m, InR fresh m -> ¬ Mn m) {t : Nat} {ti : TI} (ht : lk T t = some ti) {v : SV} {u : Value} (hv : VR3 s g v u) (hvn : Seen Mn (names3 v))
  (h : runP s fresh (loadP fresh ti v) seen rd = some r) : Out P Mn s g w fresh (Instr.loadAt t u) r := by
 have tk := hT t ti ht
 unfold loadP at h
 cases v with
 | ptr n off =>
  simp only at h;obtain ⟨e, seen', rd', he, hok, hmn, _, hs', h⟩ := ent_inv R h hs;have key : ∀ (cs : List SV), runP s fresh (cellsVal ti cs off) seen' rd' = some r -> (∃ b arr T, g.base n = some ⟨b, 0, none⟩ /\ w.heap[b]? = some (.cells arr T (0, 0)) /\ All2 (VR1 s g) cs arr.toList) -> Out P Mn s g w fresh (Instr.loadAt t u) r := by
   intro cs h hok;unfold cellsVal at h;obtain ⟨b', hb', rfl⟩ := hv;obtain ⟨b, arr, ty, hb, hh, hl, hi⟩ := hok;rw [hb] at hb';injection hb' with hb'
   injection hb' with hb'
   subst hb'
   cases hagg : ti.isAgg with
   | true =>
    rw [hagg] at h;simp only [cond_true] at h
    cases hc : takeN ti.size (dropN off cs) with
    | none => rw [hc] at h; exact (qfq h).elim
    | some l =>
     rw [hc] at h;obtain ⟨rfl, hlen⟩ := takeN_eq _ _ _ hc;rw [dropN_eq] at hlen;simp only [List.length_drop] at hlen;refine out_pure R hs' (u := .agg ((arr.toList.drop off).take ti.size).toArray) h ?_ (VR3.ofAgg ⟨?_, fun i x y hx hy => ?_⟩)
     ·have hcl := run_loadCells_list (P := P) w ⟨b, off, none⟩ ((arr.toList.drop off).take ti.size) (fun j x hj => by
       rw [Addr.add_plain, cells_at hh];simp only [List.getElem?_take, List.getElem?_drop] at hj;split at hj
       ·simpa using hj
       ·simp at hj)
      have hlen' : ((arr.toList.drop off).take ti.size).length = ti.size := by
       simp only [List.length_take, List.length_drop];omega
      rw [hlen'] at hcl;simp [Instr.loadAt, Instr.sureAddr, loadVar, tk.run_agg w, hagg, tk.run_size w, hcl]
     ·simp [dropN_eq, hl]
     ·simp only [dropN_eq, List.getElem?_take, List.getElem?_drop] at hx hy;split at hx
      ·rename_i hlt;rw [if_pos hlt] at hy;exact hi _ _ _ hx hy
      ·simp at hx
   | false =>
    rw [hagg] at h;simp only [cond_false, nth_get] at h
    cases hc : cs[off]? with
    | none => rw [hc] at h; exact (qfq h).elim
    | some x =>
     rw [hc] at h;have hlt : off < arr.toList.length := by rw [<- hl]; exact (qSq.1 hc).1
     have hy : arr.toList[off]? = some (arr.toList[off]) := qEq hlt;have hr := hi off x _ hc hy;refine out_pure R hs' (u := arr.toList[off]) h ?_ (VR3.one hr);have hcell : w.cell? ⟨b, off, none⟩ = some (arr.toList[off]) := by rw [cells_at hh, <- hy]; simp
     simp [Instr.loadAt, Instr.sureAddr, loadVar, tk.run_agg w, hagg, hcell]
  cases e with
  | blk cs =>
   obtain ⟨b, arr, ty, hb, ho, hh, hl⟩ := hok;exact key cs h ⟨b, arr, ty, hb, hh, hl⟩
  | rblk cs =>
   obtain ⟨b, arr, ty, hb, ho, hh, hl⟩ := hok;exact key cs h ⟨b, arr, ty, hb, hh, hl⟩
  | flat own sz rows =>
   simp only at h;obtain ⟨h1, h2⟩ := bif_inv h
   clear h
   simp only [Bool.and_eq_true] at h1;obtain ⟨hg, hsz, hoff⟩ := h1;have hsz := qBq hsz;have hoff := qBq hoff;subst hsz hoff;obtain ⟨hl, h⟩ := test_inv' h2;have hl : rows.length = ti.size := by simpa using hl
   have hagg : ti.isAgg = true := isGreat_agg hg;obtain ⟨b, hb, rfl⟩ := hv;have hF : FlatOk w g.own (if own then some (n, none) else none) (g.base n) (g.cap n) 1 rows := hok;have hul := unvec_map hF.even;have hcl := run_loadCells_list (P := P) w ⟨b, 0, none⟩ ((unvec rows).map Sc.val) (fun j x hj => by
    rw [List.getElem?_map, Option.map_eq_some_iff] at hj;obtain ⟨y, hy, rfl⟩ := hj;have hr : rows[j]? = some [y] := by rw [<- hul, vecR_get hy]
    obtain ⟨a', ha', _, hc⟩ := hF.cell j [y] 0 y hr rfl;rw [hb] at ha';injection ha' with ha'
    subst ha';rw [Nat.mul_one, Nat.add_zero] at hc;exact hc)
   have hlen : ((unvec rows).map Sc.val).length = ti.size := by
    rw [List.length_map, <- hl]
    conv => rhs; rw [<- hul]
    rw [vecR_length]
   rw [hlen] at hcl;refine out_pure R hs' (u := .agg ((unvec rows).map Sc.val).toArray) h ?_ (VR3.one ⟨_, rfl, rfl⟩);simp [Instr.loadAt, Instr.sureAddr, loadVar, tk.run_agg w, hagg, tk.run_size w, hcl]
  | fnb own f l =>
   simp only at h;obtain ⟨h1, h2⟩ := bif_inv h
   clear h
   simp only [Bool.and_eq_true, Bool.not_eq_true'] at h1;have hoff := qBq h1.1;subst hoff;have hagg := h1.2;obtain ⟨b, hb, rfl⟩ := hv;obtain ⟨b', arr, ty, cs, hb', ho, hh, ha, hl⟩ := hok;rw [hb] at hb';injection hb' with hb'
   injection hb' with hb'
   subst hb';have hcell : w.cell? ⟨b, 0, none⟩ = some (.func (.func f) #[] cs) := by rw [cells_at hh, <- Array.getElem?_toList, ha]; simp
   refine out_pure R hs' (v := .fn f l) (u := .func (.func f) #[] cs) h2 ?_ ⟨cs, rfl, hl⟩;simp [Instr.loadAt, Instr.sureAddr, loadVar, tk.run_agg w, hagg, hcell]
  | _ => exact (qfq h).elim
 | ep n row sz i j =>
  have rowv : ∀ {seen' rd' : List Nat} {A : Option Addr} {cap : Nat} {key : Option Key} {rows : Flat} {row : Row} {ad : Addr}, Seen Mn seen' -> FlatOk w g.own key A cap sz rows -> A = some ad -> u = .pointer (some (ad.add (i * sz + j))) -> rows[i]? = some row ->
    runP s fresh (rowVal ti row j) seen' rd' = some r -> Out P Mn s g w fresh (Instr.loadAt t u) r := by
   intro seen' rd' A cap key rows row ad hs' hF hA hu hrow h;subst hu;unfold rowVal at h;have hcell : ∀ k x, row[k]? = some x -> w.cell? (ad.add (i * sz + k)) = some x.val := fun k x hx => by
    obtain ⟨a', ha', _, hc⟩ := hF.cell i row k x hrow hx;rw [hA] at ha';injection ha' with ha'
    subst ha';exact hc
   cases hagg : ti.isAgg with
   | true =>
    rw [hagg] at h;simp only [cond_true] at h
    cases hc : takeN ti.size (dropN j row) with
    | none => rw [hc] at h; exact (qfq h).elim
    | some l =>
     rw [hc] at h;obtain ⟨rfl, hlen⟩ := takeN_eq _ _ _ hc;rw [dropN_eq] at hlen;simp only [List.length_drop] at hlen;have hlen' : (((row.drop j).take ti.size).map Sc.val).length = ti.size := by
      simp only [List.length_map, List.length_take, List.length_drop]; omega
     refine out_pure R hs' (u := .agg (((row.drop j).take ti.size).map Sc.val).toArray) h ?_ (VR3.ofAgg ⟨?_, fun k x y hx hy => ?_⟩)
     ·have hcl := run_loadCells_list (P := P) w (ad.add (i * sz + j)) (((row.drop j).take ti.size).map Sc.val) (fun k x hk => by
       simp only [List.getElem?_map, List.getElem?_take, List.getElem?_drop, Option.map_eq_some_iff] at hk;obtain ⟨y, hy, rfl⟩ := hk;split at hy
       ·rw [Addr.add_add, Nat.add_assoc]; exact hcell _ _ hy
       ·simp at hy)
      rw [hlen'] at hcl;simp [Instr.loadAt, Instr.sureAddr, loadVar, tk.run_agg w, hagg, tk.run_size w, hcl]
     ·simp [mapS_eq, dropN_eq]
     ·simp only [mapS_eq, dropN_eq, List.getElem?_map, Option.map_eq_some_iff] at hx hy;obtain ⟨x', hx', rfl⟩ := hx;obtain ⟨y', hy', rfl⟩ := hy;rw [hx'] at hy';injection hy' with hy'
      subst hy'
      rfl
   | false =>
    rw [hagg] at h;simp only [cond_false, nth_get] at h
    cases hc : row[j]? with
    | none => rw [hc] at h; exact (qfq h).elim
    | some x =>
     rw [hc] at h;refine out_pure R hs' (u := x.val) h ?_ rfl;simp [Instr.loadAt, Instr.sureAddr, loadVar, tk.run_agg w, hagg, hcell j x hc]
  cases row with
  | none =>
   simp only at h;obtain ⟨e, seen', rd', he, hok, hmn, _, hs', h⟩ := ent_inv R h hs;obtain ⟨ad, hA, hu⟩ := hv
   cases e with
   | flat own sz' rows =>
    simp only at h;obtain ⟨hsz, h1⟩ := bif_inv h
    clear h
    obtain ⟨row, hrow, h⟩ := look_inv h1;have hsz := qBq hsz;subst hsz;exact rowv hs' hok hA hu hrow h
   | nest own sz' rows holes log =>
    simp only at h;cases hk : ti.kind <;> rw [hk] at h <;> cases j <;> simp only at h <;> try exact (qfq h).elim
    ·obtain ⟨hsz, h2⟩ := bif_inv h
     clear h
     obtain ⟨hlt, h3⟩ := test_inv' h2
     clear h2
     obtain ⟨hni, h5⟩ := notIn_inv h3
     clear h3
     have hsz := qBq hsz;subst hsz;have hlt : i < rows.length := by simpa using hlt
     have hfl : rows[i]? = some rows[i] := qEq hlt;obtain ⟨a', x, ha', ho', hc, hx⟩ := hok.head i _ hfl;rw [hA] at ha';injection ha' with ha'
     subst ha';have hnh : i ∉ holes := fun hx => hni _ hx rfl
     have hx := hx hnh;subst hx;refine out_pure R hs' (v := .sl n (some (i, log.length)) none) (u := .slice (g.rbase n i) rows[i].length (g.rcap n i)) h5 ?_ (VR3.one (v := .sl n (some (i, log.length)) none) ⟨fun _ _ _ _ log' he' => ?_, _, _, _, rfl, fun L sz hr => ?_⟩)
     ·have hagg : ti.isAgg = false := by unfold TI.isAgg; rw [hk]
      have hc' : w.cell? (ad.add i) = some (.slice (g.rbase n i) rows[i].length (g.rcap n i)) := hc;subst hu;simp [Instr.loadAt, Instr.sureAddr, loadVar, tk.run_agg w, hagg, hc']
     ·rw [he] at he';injection he' with he'
      injection he' with _ _ _ _ he'
      subst he';exact Nat.le_refl _
     ·obtain ⟨_, rows', _, _, fl, he', _, _, hfl', hL⟩ := hr;rw [he] at he';injection he' with he'
      injection he' with _ _ he' _ _
      subst he';rw [hfl] at hfl';injection hfl' with hfl'
      subst hfl';exact ⟨rfl, hL, rfl⟩
   | blk cs => exact (qfq h).elim
   | map _ _ _ => exact (qfq h).elim
   | rblk _ => exact (qfq h).elim
   | was _ _ => exact (qfq h).elim
   | rmap _ _ _ => exact (qfq h).elim
   | fmap _ => exact (qfq h).elim
   | fnb _ _ _ => exact (qfq h).elim
   | fnest own sz' rows =>
    simp only at h;cases hk : ti.kind <;> rw [hk] at h <;> cases j <;> simp only at h <;> try exact (qfq h).elim
    ·obtain ⟨hsz, h2⟩ := bif_inv h
     clear h
     obtain ⟨fl, hfl, h3⟩ := look2_inv h2;have hsz := qBq hsz;subst hsz;obtain ⟨a', x, ha', ho', hc, hx⟩ := hok.head i _ hfl;rw [hA] at ha';injection ha' with ha'
     subst ha';have hx := hx (by simp);subst hx;obtain ⟨rfl, hn⟩ := ret_inv h3 hs';have hin : InR fresh fresh := ⟨Nat.le_refl _, by omega⟩;refine ⟨.slice (g.rbase n i) fl.length (g.rcap n i), w, _, ?_, did_new R hin (hf _ hin) (e := .flat false sz' fl) (g.rbase n i) (g.rcap n i) (fun _ => none) (fun _ => 0) id [] (fun n hn => by simp at hn) (fun _ _ _ => rfl) (fun n r hn => by simp at hn) g.own (fun b _ => by simp) w ⟨rfl, .rfl, rfl, Nat.le_refl _⟩ (fun b k hb hk => absurd (R.bound b k hk) (by omega)) (fun b _ _ => rfl) (fun g' hg' hl => ?_) (fun g' hg' => VR3.one (v := .sl fresh none none) ⟨_, _, _, rfl, fun L sz hL => ?_⟩), hn⟩
     ·have hagg : ti.isAgg = false := by unfold TI.isAgg; rw [hk]
      have hc' : w.cell? (ad.add i) = some (.slice (g.rbase n i) fl.length (g.rcap n i)) := hc;subst hu;simp [Instr.loadAt, Instr.sureAddr, loadVar, tk.run_agg w, hagg, hc']
     ·show FlatOk w g'.own none (g'.base fresh) (g'.cap fresh) sz' fl
      have hbase : g'.base fresh = g.rbase n i := by rw [hg']; simp [G.new]
      have hcap : g'.cap fresh = g.rcap n i := by rw [hg']; simp [G.new]
      have hown : g'.own = g.own := by rw [hg']; simp [G.new]
      rw [hbase, hcap, hown];exact hok.row i fl hfl (by simp)
     ·have hbase : g'.base fresh = g.rbase n i := by rw [hg']; simp [G.new]
      have hcap : g'.cap fresh = g.rcap n i := by rw [hg']; simp [G.new]
      simp [lenSz, S.putW, S.setE] at hL;rw [hbase, hcap, <- hL.1];exact ⟨rfl, rfl, rfl⟩
  | some rv =>
   obtain ⟨rr, ver⟩ := rv;simp only at h;obtain ⟨own', sz', rows, holes, log, fl, seen', rd', he, _, hok, hmn, h1, h2, h3, hs', h⟩ := rowOf_inv R h hs;obtain ⟨hsz, h4⟩ := bif_inv h
   clear h
   obtain ⟨row, hrow, h⟩ := look_inv h4;have hsz := qBq hsz;subst hsz;obtain ⟨_, hv⟩ := hv;obtain ⟨ad, hA, hu⟩ := hv fl.length sz ⟨_, _, _, _, fl, he, h1, h2, h3, rfl⟩;exact rowv hs' (hok.row rr fl h3 h1) hA hu hrow h
 | _ => exact (qfq h).elim
theorem run_eqGuard_int (op : BinOp) (t : TypeId) (x y : Operand) (k k' : IntKind) (a b : Int) : (eqGuard op t x y (.int k a) (.int k' b)).run P w = .ok () w := by
 cases op <;> rfl
theorem run_eqGuard_bool (op : BinOp) (t : TypeId) (x y : Operand) (a b : Bool) : (eqGuard op t x y (.bool a) (.bool b)).run P w = .ok () w := by
 cases op <;> rfl
theorem run_eqGuard_slice (op : BinOp) (t : TypeId) (x y : Operand) (A B : Option Addr) (n m c d : Nat) : (eqGuard op t x y (.slice A n c) (.slice B m d)).run P w = .ok () w := by
 cases op <;> rfl
theorem run_eqs_slice {t e : TypeId} (h : P.underlying t = some (.slice e)) (A : Option Addr) (n c m d : Nat) :
  (binOp .eql t (.slice A n c) (.slice none m d)).run P w = .ok (.bool A.isNone) w /\ (binOp .neq t (.slice A n c) (.slice none m d)).run P w = .ok (.bool (!A.isNone)) w := by
 have q : ∀ k : Nat, (Op.equalIn (k + 1) t (.slice A n c) (.slice none m d)).run P w = .ok A.isNone w := fun k => by cases A <;> simp [Op.equalIn, run_underlying h]
 have q' : (Op.equal t (.slice A n c) (.slice none m d)).run P w = .ok A.isNone w := q 9999
 refine ⟨?_, ?_⟩
 ·simp only [binOp]; simp [q']
 ·simp only [binOp]; simp [q']
theorem intP_inv {k : IntKind} {c : Int} (h : runP s fresh (intP k c) seen rd = some r) : runP s fresh (.ret (.s (.i k (k.wrap c))) []) seen rd = some r := by
 unfold intP at h
 split at h
 ·obtain ⟨hc, h⟩ := test_inv' h;have : IntKind.i64.wrap c = c := by
   exact IntWalk.i64_in c (inI64_iff.1 hc)
  rw [this];exact h
 ·exact h
theorem intBin_sim (R : Rel Mn O0 w0 nt s g a w) (hs : Seen Mn seen) {op : BinOp} {k : IntKind} {x y : Int} (t : TypeId) (ho : isShift op = false) (h : runP s fresh (intBin op k x y) seen rd = some r) :
  Out P Mn s g w fresh (binOp op t (.int k x) (.int k y)) r := by
 unfold intBin at h
 cases op <;> simp only [isShift, Bool.true_eq_false, reduceCtorEq] at ho h <;> try exact (qfq h).elim
 case add => exact out_sc R hs (intP_inv h) (by simp [Sc.val, binOp, Op.intArith])
 case sub => exact out_sc R hs (intP_inv h) (by simp [Sc.val, binOp, Op.intArith])
 case mul => exact out_sc R hs (intP_inv h) (by simp [Sc.val, binOp, Op.intArith])
 case quo =>
  rcases test_inv h with h | h
  ·exact (qfq h.2).elim
  ·exact out_sc R hs (intP_inv h.2) (by have := h.1; simp at this; simp [Sc.val, binOp, Op.intDiv, this])
 case rem =>
  rcases test_inv h with h | h
  ·exact (qfq h.2).elim
  ·exact out_sc R hs h.2 (by have := h.1; simp at this; simp [Sc.val, binOp, Op.intDiv, this])
 case and => exact out_sc R hs h (by simp [Sc.val, binOp, Op.intBits])
 case or => exact out_sc R hs h (by simp [Sc.val, binOp, Op.intBits])
 case xor => exact out_sc R hs h (by simp [Sc.val, binOp, Op.intBits])
 case andNot => exact out_sc R hs h (by simp [Sc.val, binOp, Op.intBits])
 case eql => exact out_sc R hs h (by simp [Sc.val, binOp, Op.intCmp])
 case neq => exact out_sc R hs h (by simp [Sc.val, binOp, Op.intCmp])
 case lss => exact out_sc R hs h (by simp [Sc.val, binOp, Op.intCmp])
 case leq => exact out_sc R hs h (by simp [Sc.val, binOp, Op.intCmp])
 case gtr => exact out_sc R hs h (by simp [Sc.val, binOp, Op.intCmp])
 case geq => exact out_sc R hs h (by simp [Sc.val, binOp, Op.intCmp])
theorem eqRes_sim (R : Rel Mn O0 w0 nt s g a w) (hs : Seen Mn seen) {op : BinOp} {c : Bool} {t : TypeId} {u v : Value} (h : runP s fresh (eqRes op c) seen rd = some r)
  (h1 : op = .eql -> (binOp .eql t u v).run P w = .ok (.bool c) w) (h2 : op = .neq -> (binOp .neq t u v).run P w = .ok (.bool (!c)) w) : Out P Mn s g w fresh (binOp op t u v) r := by
 unfold eqRes at h
 cases op <;> simp only at h <;> try exact (qfq h).elim
 ·exact out_sc R hs h (h1 rfl)
 ·exact out_sc R hs h (h2 rfl)
theorem bin_sim (hT : TabOk P T) (R : Rel Mn O0 w0 nt s g a w) (hs : Seen Mn seen) {t : Nat} {op : BinOp} {x y : SV} {u v : Value} (ox oy : Operand) (hx : VR3 s g x u) (hy : VR3 s g y v)
  (h : runP s fresh (binP T t op x y) seen rd = some r) : Out P Mn s g w fresh (do eqGuard op t ox oy u v; binOp op t u v) r := by
 have guard : ∀ {m : Sem Value}, (eqGuard op t ox oy u v).run P w = .ok () w -> Out P Mn s g w fresh m r -> Out P Mn s g w fresh (do eqGuard op t ox oy u v; m) r := by
  rintro m hg ⟨u', w', g', hm, hd, hn⟩;exact ⟨u', w', g', by simp [hg, hm], hd, hn⟩
 unfold binP at h
 split at h
 ·rename_i k b k' c;subst hx hy;refine guard (run_eqGuard_int ..) ?_
  cases hsft : isShift op with
  | true =>
   rw [hsft] at h;simp only [cond_true] at h;unfold shiftBin at h
   cases h64 : is64 k with
   | false =>
    rw [h64] at h;simp only [cond_false] at h;obtain ⟨h32, h1⟩ := bif_inv h
    clear h
    cases op <;> simp only [isShift, Bool.false_eq_true, reduceCtorEq] at hsft h1
    ·exact (qfq h1).elim
    ·obtain ⟨hc, h⟩ := test_inv' h1;simp only [Bool.and_eq_true, decide_eq_true_eq] at hc;have hb : k.bits = 32 := by cases k <;> first | rfl | (simp [isU32] at h32)
     have hmin : ∀ c : Int, c < 32 -> min c.toNat k.bits = c.toNat := fun c hc => by omega
     refine out_sc R hs h ?_;simp [Sc.val, binOp, Op.shift, hmin _ hc.2];omega
   | true =>
   rw [h64] at h;simp only [cond_true] at h;have h1 := h
   clear h
   have hmin : ∀ c : Int, c < 63 -> min c.toNat k.bits = c.toNat := fun c hc => by
    have : k.bits = 64 := by cases k <;> first | rfl | (simp [is64] at h64)
    omega
   cases op <;> simp only [isShift, Bool.false_eq_true, reduceCtorEq] at hsft h1
   ·obtain ⟨hc, h⟩ := test_inv' h1;simp only [Bool.and_eq_true, decide_eq_true_eq] at hc;refine out_sc R hs (intP_inv h) ?_;simp [Sc.val, binOp, Op.shift, hmin _ hc.2];omega
   ·obtain ⟨hc, h⟩ := test_inv' h1;simp only [Bool.and_eq_true, decide_eq_true_eq] at hc;refine out_sc R hs h ?_;simp [Sc.val, binOp, Op.shift, hmin _ hc.2];omega
  | false =>
   rw [hsft] at h;simp only [cond_false] at h;obtain ⟨hk, h1⟩ := bif_inv h;have hk : k = k' := by simpa using hk
   subst hk;exact intBin_sim R hs t hsft h1
 ·rename_i b c;subst hx hy
  cases ht : lk T t with
  | none => rw [ht] at h; exact (qfq h).elim
  | some ti =>
   rw [ht] at h;simp only at h;obtain ⟨d, hd, hk⟩ := (hT t ti ht).und;cases hkd : ti.kind <;> rw [hkd] at h hk <;> simp only at h <;> try exact (qfq h).elim
   cases d <;> simp [KdOk] at hk
   exact guard (run_eqGuard_bool ..) (eqRes_sim R hs h (fun _ => run_eql_bool w t _ _ hd) (fun _ => run_neq_bool w t _ _ hd))
 ·rename_i l m
  cases ht : lk T t with
  | none => rw [ht] at h; exact (qfq h).elim
  | some ti =>
   rw [ht] at h;simp only at h;obtain ⟨hc, h'⟩ := bif_inv h
   clear h
   simp only [Bool.and_eq_true] at hc
   cases hq : eqCells l m with
   | none => rw [hq] at h'; exact (qfq h').elim
   | some c =>
    rw [hq] at h';obtain ⟨xs, rfl, hx1, hx2⟩ := hx;obtain ⟨ys, rfl, hy1, hy2⟩ := hy;obtain ⟨s1, s2⟩ := eqCells_some l m c hq;have q := (hT t ti ht).eqs hc.1 w l m xs ys c ox oy hq hc.2
     ⟨hx1, fun i v u hv hu => by obtain ⟨x, rfl⟩ := s1 v (qMq hv); exact ⟨x, rfl, hx2 i _ u hv hu⟩⟩
     ⟨hy1, fun i v u hv hu => by obtain ⟨x, rfl⟩ := s2 v (qMq hv); exact ⟨x, rfl, hy2 i _ u hv hu⟩⟩
    exact guard (q.1 op) (eqRes_sim R hs h' (fun _ => q.2.1) (fun _ => q.2.2))
 ·have hx : u = .slice none 0 0 := hx;have hy : v = .slice none 0 0 := hy;subst hx hy
  cases ht : lk T t with
  | none => rw [ht] at h; exact (qfq h).elim
  | some ti =>
   rw [ht] at h;simp only at h;obtain ⟨d, hd, hk⟩ := (hT t ti ht).und;cases hkd : ti.kind <;> rw [hkd] at h hk <;> simp only at h <;> try exact (qfq h).elim
   cases d <;> simp [KdOk] at hk
   exact guard (run_eqGuard_slice ..) (eqRes_sim R hs h (fun _ => (run_eqs_slice hd none 0 0 0 0).1) (fun _ => (run_eqs_slice hd none 0 0 0 0).2))
 ·rename_i n;have hy : v = .slice none 0 0 := hy;subst hy
  cases ht : lk T t with
  | none => rw [ht] at h; exact (qfq h).elim
  | some ti =>
   rw [ht] at h;simp only at h;obtain ⟨d, hd, hk⟩ := (hT t ti ht).und;cases hkd : ti.kind <;> rw [hkd] at h hk <;> simp only at h <;> try exact (qfq h).elim
   cases d <;> simp [KdOk] at hk
   obtain ⟨e, seen', rd', he, hok, hmn, _, hs', h'⟩ := ent_inv R h hs
   clear h
   obtain ⟨own, sz, rows, rfl⟩ : ∃ own sz rows, e = .flat own sz rows := by
    cases e with
    | flat own sz rows => exact ⟨own, sz, rows, rfl⟩
    | _ => exact (qfq h').elim
   simp only at h';obtain ⟨hlen, h2⟩ := test_inv' h'
   clear h'
   obtain ⟨A, len, cap, rfl, hsub⟩ := hx;have hsub := hsub _ _ (by simp [lenSz, he]; exact ⟨rfl, rfl⟩);obtain ⟨rfl, rfl, rfl⟩ := hsub;have hok : FlatOk _ _ _ _ _ _ _ := hok;have hlt : 0 < rows.length := by simpa using hlen
   have hr0 : rows[0]? = some rows[0] := qEq hlt;have hl0 := hok.even 0 _ hr0;have hpos := hok.pos;have hx0 : rows[0][0]? = some (rows[0][0]'(by omega)) := qEq (by omega);obtain ⟨ad, hA, _, _⟩ := hok.cell 0 _ 0 _ hr0 hx0;have q := run_eqs_slice (w := w) hd (some ad) rows.length (g.cap n) 0 0;rw [hA];exact guard (run_eqGuard_slice ..) (eqRes_sim R hs' h2 (fun _ => q.1) (fun _ => q.2))
 ·exact (qfq h).elim
end
end Go.Sh
namespace Go.Sh
variable [Fwd]
section
variable {P : Program} {T : Tab} {Mn O0 : Nat -> Prop} {w0 : Base} {w : World} {nt : Nat} {s : S} {g : G} {a : Act} {fresh : Nat} {seen rd : List Nat} {r : List Nat × SV × Ws}
theorem un_sim (R : Rel Mn O0 w0 nt s g a w) (hs : Seen Mn seen) {op : UnOp} {x : SV} {u : Value} (hx : VR3 s g x u) (h : runP s fresh (unP op x) seen rd = some r) : Out P Mn s g w fresh (Op.unary op u) r := by
 unfold unP at h
 split at h
 ·subst hx; exact out_sc R hs h (by simp [Sc.val, Op.unary])
 ·subst hx; exact out_sc R hs (intP_inv h) (by simp [Sc.val, Op.unary, Op.intArith])
 ·exact (qfq h).elim
theorem lenP_inv {n : Nat} {row sub : Option (Nat × Nat)} {u : Value} {k : Nat -> Nat -> Nat -> Prog} (R : Rel Mn O0 w0 nt s g a w) (hs : Seen Mn seen) (hx : VR3 s g (.sl n row sub) u) (h : runP s fresh (lenP n row sub k) seen rd = some r) :
  ∃ A len cap base cap0 L0 sz lo seen' rd', u = .slice A len cap /\ SubOk base cap0 L0 sz sub A len cap /\ len <= cap /\ 0 < sz /\ (0 < L0 -> ∃ ad, base = some ad) /\ lo = loOf sub /\
   (∀ i j ad, base = some ad -> VR1 s g (.ep n row sz i j) (.pointer (some (ad.add (i * sz + j))))) /\
   (∀ sub' A' len' cap', SubOk base cap0 L0 sz sub' A' len' cap' -> VR1 s g (.sl n row sub') (.slice A' len' cap')) /\ Seen Mn seen' /\ runP s fresh (k len lo sz) seen' rd' = some r := by
 have some0 : ∀ {key : Option Key} {A : Option Addr} {cap sz : Nat} {rows : Flat}, FlatOk w g.own key A cap sz rows -> 0 < rows.length -> ∃ ad, A = some ad := by
  intro key A cap sz rows hF hlt;have hr0 : rows[0]? = some rows[0] := qEq hlt;have hl0 := hF.even 0 _ hr0;have hpos := hF.pos;obtain ⟨ad, hA, _, _⟩ := hF.cell 0 _ 0 _ hr0 (qEq (by omega : 0 < rows[0].length));exact ⟨ad, hA⟩
 have fin : ∀ {base : Option Addr} {cap0 L0 sz : Nat} {A : Option Addr} {len cap : Nat} {seen' rd' : List Nat}, L0 <= cap0 -> SubOk base cap0 L0 sz sub A len cap ->
   runP s fresh (subK sub L0 sz k) seen' rd' = some r ->
   len <= cap /\ runP s fresh (k len (loOf sub) sz) seen' rd' = some r := by
  intro base cap0 L0 sz A len cap seen' rd' hle hsub hr
  cases sub with
  | none => obtain ⟨_, rfl, rfl⟩ := hsub; exact ⟨hle, hr⟩
  | some p => obtain ⟨lo, l⟩ := p; obtain ⟨rfl, _, h2, _⟩ := hsub; exact ⟨h2, hr⟩
 unfold lenP at h
 cases row with
 | none =>
  simp only at h;obtain ⟨e, seen', rd', he, hok, hmn, _, hs', h⟩ := ent_inv R h hs;obtain ⟨A, len, cap, rfl, hsub⟩ := hx
  cases e with
  | flat own sz rows =>
   simp only at h;have hF : FlatOk _ _ _ _ _ _ _ := hok;have hl : lenSz s n = some (rows.length, sz) := by simp [lenSz, he]
   have hsub := hsub _ _ hl;obtain ⟨h1, h2⟩ := fin hF.fits hsub h;exact ⟨A, len, cap, _, _, _, sz, _, seen', rd', rfl, hsub, h1, hF.pos, some0 hF, rfl, fun i j ad hb => ⟨ad, hb, rfl⟩, fun sub' A' len' cap' hq => ⟨_, _, _, rfl, fun L sz' hl' => by
    rw [hl] at hl'; injection hl' with hl'; injection hl' with h3 h4; subst h3; subst h4; exact hq⟩, hs', h2⟩
  | nest own sz rows holes log =>
   simp only at h;have hN : NestOk _ _ _ _ _ _ _ _ _ _ _ := hok;have hl : lenSz s n = some (rows.length, 1) := by simp [lenSz, he]
   have hsub := hsub _ _ hl;obtain ⟨h1, h2⟩ := fin hN.fits hsub h;refine ⟨A, len, cap, _, _, _, 1, _, seen', rd', rfl, hsub, h1, Nat.one_pos, fun hlt => ?_, rfl, fun i j ad hb => ⟨ad, hb, rfl⟩, fun sub' A' len' cap' hq => ⟨_, _, _, rfl, fun L sz' hl' => by
    rw [hl] at hl'; injection hl' with hl'; injection hl' with h3 h4; subst h3; subst h4; exact hq⟩, hs', h2⟩
   obtain ⟨ad, _, hA, _⟩ := hN.head 0 _ (qEq hlt);exact ⟨ad, hA⟩
  | fnest own sz rows =>
   simp only at h;have hN : NestOk _ _ _ _ _ _ _ _ _ _ _ := hok;have hl : lenSz s n = some (rows.length, 1) := by simp [lenSz, he]
   have hsub := hsub _ _ hl;obtain ⟨h1, h2⟩ := fin hN.fits hsub h;refine ⟨A, len, cap, _, _, _, 1, _, seen', rd', rfl, hsub, h1, Nat.one_pos, fun hlt => ?_, rfl, fun i j ad hb => ⟨ad, hb, rfl⟩, fun sub' A' len' cap' hq => ⟨_, _, _, rfl, fun L sz' hl' => by
    rw [hl] at hl'; injection hl' with hl'; injection hl' with h3 h4; subst h3; subst h4; exact hq⟩, hs', h2⟩
   obtain ⟨ad, _, hA, _⟩ := hN.head 0 _ (qEq hlt);exact ⟨ad, hA⟩
  | blk cs => exact (qfq h).elim
  | map _ _ _ => exact (qfq h).elim
  | rblk _ => exact (qfq h).elim
  | was _ _ => exact (qfq h).elim
  | rmap _ _ _ => exact (qfq h).elim
  | fmap _ => exact (qfq h).elim
  | fnb _ _ _ => exact (qfq h).elim
 | some rv =>
  obtain ⟨rr, ver⟩ := rv;simp only at h;obtain ⟨own', sz, rows, holes, log, fl, seen', rd', he, _, hok, hmn, h1, h2, h3, hs', h⟩ := rowOf_inv R h hs;obtain ⟨hver, A, len, cap, rfl, hsub⟩ := hx;have hF : FlatOk _ _ _ _ _ _ _ := hok.row rr fl h3 h1;have hr : RowAt s n rr ver fl.length sz := ⟨_, _, _, _, fl, he, h1, h2, h3, rfl⟩;have hsub := hsub _ _ hr;obtain ⟨k1, k2⟩ := fin hF.fits hsub h;have uniq : ∀ L sz', RowAt s n rr ver L sz' -> L = fl.length /\ sz' = sz := by
   rintro L sz' ⟨_, _, _, _, fl', he', _, _, h3', rfl⟩;rw [he] at he';injection he' with he'
   injection he' with _ e1 e2 _ _
   subst e1; subst e2
   rw [h3] at h3';injection h3' with h3'
   subst h3';exact ⟨rfl, rfl⟩
  exact ⟨A, len, cap, _, _, _, sz, _, seen', rd', rfl, hsub, k1, hF.pos, some0 hF, rfl, fun i j ad hb => ⟨hver, fun L sz' _ => ⟨ad, hb, rfl⟩⟩, fun sub' A' len' cap' hq => ⟨hver, _, _, _, rfl, fun L sz' hl' => by
    obtain ⟨rfl, rfl⟩ := uniq L sz' hl'; exact hq⟩, hs', k2⟩
theorem SubOk.at_ {base : Option Addr} {cap0 L0 sz : Nat} {sub : Option (Nat × Nat)} {A : Option Addr} {len cap : Nat} (h : SubOk base cap0 L0 sz sub A len cap) (hlc : len <= cap) (hb : 0 < L0 -> ∃ ad, base = some ad) (hl : 0 < len) :
  ∃ ad, base = some ad /\ A = some (ad.add (loOf sub * sz)) := by
 cases sub with
 | none =>
  obtain ⟨rfl, rfl, rfl⟩ := h;obtain ⟨ad, rfl⟩ := hb hl;exact ⟨ad, rfl, by simp [Addr.add_zero, loOf]⟩
 | some p =>
  obtain ⟨lo, l⟩ := p;obtain ⟨rfl, h1, h2, h3, h4⟩ := h;obtain ⟨ad, rfl⟩ := hb (by omega);refine ⟨ad, rfl, ?_⟩;rcases h4 with h4 | h4
  ·omega
  ·rw [h4]; simp [loOf]
theorem run_sizeT (hT : TabOk P T) {e : Nat} (h : 0 < sizeT T e) : (sizeOf e).run P w = .ok (sizeT T e) w := by
 unfold sizeT at h ⊢
 cases hl : lk T e with
 | none => rw [hl] at h; simp at h
 | some ei => simp only; exact (hT e ei hl).run_size w
theorem indexAddr_sim (hT : TabOk P T) (R : Rel Mn O0 w0 nt s g a w) (hs : Seen Mn seen) {t : Nat} {x i : SV} {u v : Value} (hx : VR3 s g x u) (hi : VR3 s g i v)
  (h : runP s fresh (indexAddrP T t x i) seen rd = some r) : Out P Mn s g w fresh (Instr.indexAt t u v) r := by
 unfold indexAddrP at h
 cases ht : lk T t with
 | none => rw [ht] at h; exact (qfq h).elim
 | some ti =>
  rw [ht] at h;simp only at h;have tk := hT t ti ht;split at h
  ·rename_i e n row sub kk k hk;subst hi;obtain ⟨A, len, cap, base, cap0, L0, sz, lo, seen', rd', rfl, hsub, hlc, hsz, hb, hlo, hep, _, hs', h⟩ := lenP_inv R hs hx h;obtain ⟨hse, h1⟩ := bif_inv h
   clear h
   have hse := qBq hse;obtain ⟨h0, hlt, h⟩ := idx_inv h1
   clear h1
   have hl : 0 < len := by omega
   obtain ⟨ad, hbase, hA⟩ := hsub.at_ hlc hb hl;have hrun : (Instr.indexAt t (.slice A len cap) (Sc.i kk k).val).run P w = .ok (.pointer (some (ad.add ((lo + k.toNat) * sz)))) w := by
    have hsz' := run_sizeT (w := w) hT (e := e) (by omega);have hu := tk.run_slice w hk;rw [hlo, hA];simp only [Instr.indexAt, Sc.val, asIntOf, Sem.run_bind, Sem.run_pure, Result.andThen_ok, hu];simp [h0, hlt, hsz', hse, Addr.add_add, Nat.add_mul]
   cases sub with
   | none =>
    simp only at h hlo;subst hlo;refine out_pure R hs' h hrun (VR3.one ?_);have := hep k.toNat 0 ad hbase;simpa [loOf] using this
   | some p =>
    obtain ⟨l1, l2⟩ := p;simp only at h;refine out_pure R hs' h hrun (VR3.one ?_);have := hep (lo + k.toNat) 0 ad hbase;simpa using this
  ·rename_i len e n off kk k hk;subst hi
   cases hgr : Nat.blt 16 len with
   | true =>
    rw [hgr] at h;simp only [cond_true] at h;obtain ⟨h2, h⟩ := bif_inv h;simp only [Bool.and_eq_true] at h2;have hoff := qBq h2.1;have hse := qBq h2.2;obtain ⟨e', seen', rd', he, hok, hmn, _, hs', h⟩ := ent_inv R h hs
    cases e' with
    | flat own sz rows =>
     simp only at h;obtain ⟨_, h4⟩ := bif_inv h
     clear h
     obtain ⟨h0, hlt, h3⟩ := idx_inv h4;obtain ⟨b, hb, rfl⟩ := hx;have hgr : 16 < len := by simpa [Nat.blt_eq] using hgr
     have hu := tk.run_array w hk;have hsz' := run_sizeT (w := w) hT (e := e) (by omega);subst hoff;refine out_pure R hs' h3 (u := .pointer (some ⟨b, 0 + k.toNat * sizeT T e, none⟩)) ?_ (VR3.one ⟨⟨b, 0, none⟩, hb, by rw [Addr.add_plain, hse]; rfl⟩);simp only [Instr.indexAt, Sc.val, asIntOf, Instr.sureAddr, Sem.run_bind, Sem.run_pure, Result.andThen_ok, hu];simp [h0, hlt, hsz', Addr.add_plain]
    | _ => exact (qfq h).elim
   | false =>
   rw [hgr] at h;simp only [cond_false] at h;obtain ⟨h0, hlt, h1⟩ := idx_inv h;obtain ⟨h2, h3⟩ := bif_inv h1
   clear h h1
   simp only [Bool.and_eq_true, Nat.blt_eq] at h2;have h4 : 2 <= len := Nat.le_of_ble_eq_true h2.1;obtain ⟨b, hb, rfl⟩ := hx;have hu := tk.run_array w hk;have hsz' := run_sizeT (w := w) hT h2.2;refine out_pure R hs h3 (u := .pointer (some ⟨b, off + k.toNat * sizeT T e, none⟩)) ?_ (VR3.one ⟨b, hb, rfl⟩);simp only [Instr.indexAt, Sc.val, asIntOf, Instr.sureAddr, Sem.run_bind, Sem.run_pure, Result.andThen_ok, hu];simp [h0, hlt, hsz', Addr.add_plain]
  ·rename_i len e n row sz i' j kk k hk;subst hi;obtain ⟨h0, hlt, h1⟩ := idx_inv h;obtain ⟨h2, h3⟩ := bif_inv h1
   clear h h1
   simp only [Bool.and_eq_true, Nat.blt_eq] at h2;have h4 : 2 <= len := Nat.le_of_ble_eq_true h2.1;have hu := tk.run_array w hk;have hsz' := run_sizeT (w := w) hT h2.2;have hrun : ∀ ad : Addr, (Instr.indexAt t (.pointer (some ad)) (Sc.i kk k).val).run P w = .ok (.pointer (some (ad.add (k.toNat * sizeT T e)))) w := fun ad => by
    simp only [Instr.indexAt, Sc.val, asIntOf, Instr.sureAddr, Sem.run_bind, Sem.run_pure, Result.andThen_ok, hu];simp [h0, hlt, hsz']
   cases row with
   | none =>
    obtain ⟨ad, hb, rfl⟩ := hx;exact out_pure R hs h3 (hrun _) (VR3.one ⟨ad, hb, by rw [Addr.add_add, Nat.add_assoc]⟩)
   | some rv => exact (qfq h3).elim
  ·exact (qfq h).elim
theorem field_of {fields : Array Field} {fs : List (Nat × Nat)} {f d ft : Nat} (h : fields.toList.map (fun f => (f.offset, f.type)) = fs) (hn : nth fs f = some (d, ft)) :
  ∃ fd, fields[f]? = some fd /\ fd.offset = d /\ fd.type = ft := by
 rw [nth_get, <- h, List.getElem?_map, Option.map_eq_some_iff] at hn
 obtain ⟨fd, hfd, he⟩ := hn
 injection he with h1 h2
 exact ⟨fd, by simpa using hfd, h1, h2⟩
theorem fieldAddr_sim (hT : TabOk P T) (R : Rel Mn O0 w0 nt s g a w) (hs : Seen Mn seen) {t f : Nat} {x : SV} {u : Value} (hx : VR3 s g x u)
  (h : runP s fresh (fieldAddrP T t x f) seen rd = some r) : Out P Mn s g w fresh (Instr.fieldAt t u f) r := by
 unfold fieldAddrP at h
 cases ht : lk T t with
 | none => rw [ht] at h; exact (qfq h).elim
 | some ti =>
  rw [ht] at h;simp only at h;have tk := hT t ti ht
  cases hk : ti.kind with
  | struct fs =>
   rw [hk] at h;simp only at h
   cases hn : nth fs f with
   | none => rw [hn] at h; exact (qfq h).elim
   | some p =>
    obtain ⟨d, ft⟩ := p;rw [hn] at h;simp only at h;obtain ⟨fields, hu, hmap⟩ := tk.run_struct w hk;obtain ⟨fd, hfd, rfl, rfl⟩ := field_of hmap hn;obtain ⟨fi, hfi⟩ := tk.fields fs hk _ _ (by rw [nth_get] at hn; exact qMq hn);have hsz := (hT _ fi hfi).run_size w;have hpos := (hT _ fi hfi).pos.2.2;have hrun : ∀ ad : Addr, (Instr.fieldAt t (.pointer (some ad)) f).run P w = .ok (.pointer (some (ad.add fd.offset))) w := fun ad => by
     simp only [Instr.fieldAt, Sem.run_bind, hu, Result.andThen_ok, hfd, Instr.sureAddr, Sem.run_pure, fieldPlace, hsz];simp [show ¬ fi.size = 0 by omega]
    split at h
    ·obtain ⟨b, hb, rfl⟩ := hx;exact out_pure R hs h (hrun _) (VR3.one ⟨b, hb, by rw [Addr.add_plain]⟩)
    ·obtain ⟨ad, hb, rfl⟩ := hx;exact out_pure R hs h (hrun _) (VR3.one ⟨ad, hb, by rw [Addr.add_add, Nat.add_assoc]⟩)
    ·exact (qfq h).elim
  | _ => rw [hk] at h; exact (qfq h).elim
theorem field_sim (hT : TabOk P T) (R : Rel Mn O0 w0 nt s g a w) (hs : Seen Mn seen) {t f : Nat} {x : SV} {u : Value} (hx : VR3 s g x u)
  (h : runP s fresh (fieldP T t x f) seen rd = some r) : Out P Mn s g w fresh (Instr.field t u f) r := by
 unfold fieldP at h
 split at h
 ·rename_i ti cs ht;have tk := hT t ti ht
  cases hk : ti.kind with
  | struct fs =>
   rw [hk] at h;simp only at h
   cases hn : nth fs f with
   | none => rw [hn] at h; exact (qfq h).elim
   | some p =>
    obtain ⟨d, ft⟩ := p;rw [hn] at h;simp only at h;obtain ⟨fields, hu, hmap⟩ := tk.run_struct w hk;obtain ⟨fd, hfd, rfl, rfl⟩ := field_of hmap hn
    cases hfi : lk T fd.type with
    | none => rw [hfi] at h; exact (qfq h).elim
    | some fi =>
     rw [hfi] at h;simp only at h;have fk := hT _ fi hfi;obtain ⟨arr, rfl, hl, hi⟩ := hx
     cases hagg : fi.isAgg with
     | true =>
      rw [hagg] at h;simp only [cond_true] at h
      cases hc : takeN fi.size (dropN fd.offset cs) with
      | none => rw [hc] at h; exact (qfq h).elim
      | some l =>
       rw [hc] at h;obtain ⟨rfl, hlen⟩ := takeN_eq _ _ _ hc;rw [dropN_eq] at hlen;refine out_pure R hs (u := .agg (arr.extract fd.offset (fd.offset + fi.size))) h ?_ (VR3.ofAgg ⟨?_, fun i x y hx hy => ?_⟩)
       ·simp only [Instr.field, Sem.run_bind, hu, Result.andThen_ok, hfd, asAgg, Sem.run_pure, part, fk.run_agg w, hagg, fk.run_size w, if_true]
       ·simp only [List.length_drop] at hlen;simp [dropN_eq, <- Array.length_toList, <- hl]
       ·simp only [dropN_eq, List.getElem?_take, List.getElem?_drop, Array.toList_extract, List.extract_eq_take_drop, Nat.add_sub_cancel_left] at hx hy;split at hx
        ·rename_i hlt;rw [if_pos hlt] at hy;exact hi _ _ _ hx hy
        ·simp at hx
     | false =>
      rw [hagg] at h;simp only [cond_false, nth_get] at h
      cases hc : cs[fd.offset]? with
      | none => rw [hc] at h; exact (qfq h).elim
      | some x =>
       rw [hc] at h;have hlt : fd.offset < arr.toList.length := by rw [<- hl]; exact (qSq.1 hc).1
       have hy : arr.toList[fd.offset]? = some (arr.toList[fd.offset]) := qEq hlt;refine out_pure R hs (u := arr.toList[fd.offset]) h ?_ (VR3.one (hi _ _ _ hc hy));have hy' : arr[fd.offset]? = some (arr.toList[fd.offset]) := by simp at hlt; simp [hlt]
       simp only [Instr.field, Sem.run_bind, hu, Result.andThen_ok, hfd, asAgg, Sem.run_pure, part, fk.run_agg w, hagg, Bool.false_eq_true, if_false, hy']
  | _ => rw [hk] at h; exact (qfq h).elim
 ·exact (qfq h).elim
theorem extract_sim (R : Rel Mn O0 w0 nt s g a w) (hs : Seen Mn seen) {i : Nat} {l : List SV} {u : Value} (hx : VR3 s g (.tup l) u)
  (h : runP s fresh (match nth l i with | some v => .ret v [] | none => .fail) seen rd = some r) : Out P Mn s g w fresh (Instr.extract u i) r := by
 obtain ⟨vs, rfl, hl, hi⟩ := hx
 rw [nth_get] at h
 cases hc : l[i]? with
 | none => rw [hc] at h; exact (qfq h).elim
 | some v =>
  rw [hc] at h;have hlt : i < vs.toList.length := by rw [<- hl]; exact (qSq.1 hc).1
  have hy : vs.toList[i]? = some (vs.toList[i]) := qEq hlt;have hv := hi _ _ _ hc hy;refine out_pure R hs (u := vs.toList[i]) h ?_ ?_
  ·have hy' : vs[i]? = some (vs.toList[i]) := by simp at hlt; simp [hlt]
   simp [Instr.extract, hy']
  ·cases v with
   | tup l => exact hv.elim
   | _ => exact hv
theorem len_sim (hT : TabOk P T) (R : Rel Mn O0 w0 nt s g a w) (hs : Seen Mn seen) {t e : Nat} {ty : TypeId} {n : Nat} {row sub : Option (Nat × Nat)} {u : Value} (hu : (underlying t).run P w = .ok (.slice e) w) (hx : VR3 s g (.sl n row sub) u)
  (h : runP s fresh (lenP n row sub fun L _ _ => .ret (.s (.i .i64 L)) []) seen rd = some r) : Out P Mn s g w fresh (Builtin.len_ #[t] ty #[u]) r := by
 obtain ⟨A, len, cap, base, cap0, L0, sz, lo, seen', rd', rfl, _, _, _, _, _, _, _, hs', h⟩ := lenP_inv R hs hx h
 exact out_sc R hs' h (by simp [Builtin.len_, hu, goInt, Sc.val])
theorem run_sliceBound {k : IntKind} {i : Int} {y : Nat} {code : BoundsCode} (h0 : 0 <= i) (h1 : i <= y) : (Instr.sliceBound (.int k i) y code).run P w = .ok i.toNat w := by
 simp [Instr.sliceBound, asIntOf, h0, h1]
def ofBad (v : SV) (u : Value) : Option Value := if isBad v then none else some u
theorem slice_sim (hT : TabOk P T) (R : Rel Mn O0 w0 nt s g a w) (hs : Seen Mn seen) {t : Nat} {x lo hi mx : SV} {u ul uh um : Value} (hx : VR3 s g x u) (hl : isBad lo = false -> VR3 s g lo ul) (hh : isBad hi = false -> VR3 s g hi uh) (hm : isBad mx = false -> VR3 s g mx um)
  (h : runP s fresh (sliceP T t x lo hi mx) seen rd = some r) : Out P Mn s g w fresh (Instr.sliceAt t u (ofBad lo ul) (ofBad hi uh) (ofBad mx um)) r := by
 unfold sliceP at h
 cases ht : lk T t with
 | none => rw [ht] at h; exact (qfq h).elim
 | some ti =>
  rw [ht] at h;simp only at h;have tk := hT t ti ht;split at h
  ·rename_i e n row sub hk;obtain ⟨A, len, cap, base, cap0, L0, sz, base0, seen', rd', rfl, hsub, hlc, hsz, hb, hlo0, _, hsl, hs', h1⟩ := lenP_inv R hs hx h
   clear h
   obtain ⟨hse, h2⟩ := bif_inv h1
   clear h1
   have hse := qBq hse;have hsz' := run_sizeT (w := w) hT (e := e) (by omega);have hu := tk.run_slice w hk
   cases hla : bnd lo 0 with
   | none => rw [hla] at h2; exact (qfq h2).elim
   | some x0 =>
    cases hha : bnd hi len with
    | none => rw [hla, hha] at h2; exact (qfq h2).elim
    | some y0 =>
     rw [hla, hha] at h2;simp only at h2
     -- the bounds as the machine has them
     have bl : (ofBad lo ul = none /\ x0 = 0) \/ (ofBad lo ul = some ul /\ ∀ (y : Nat) (code : BoundsCode), 0 <= x0 -> x0 <= y -> (Instr.sliceBound ul y code).run P w = .ok x0.toNat w) := by
      cases lo with
      | s z =>
       cases z with
       | i k i => simp only [bnd, Option.some.injEq] at hla; subst hla; have := hl rfl; subst this; exact .inr ⟨rfl, fun _ _ h0 h1 => run_sliceBound h0 h1⟩
       | b => simp [bnd] at hla
      | bad => simp only [bnd, Option.some.injEq] at hla; subst hla; exact .inl ⟨rfl, rfl⟩
      | _ => simp [bnd] at hla
     have bh : ∀ (y : Nat) (code : BoundsCode), 0 <= y0 -> y0 <= y -> isBad hi = false -> (ofBad hi uh) = some uh /\ (Instr.sliceBound uh y code).run P w = .ok y0.toNat w := by
      intro y code h0 h1 hb
      cases hi with
      | s z =>
       cases z with
       | i k i => simp only [bnd, Option.some.injEq] at hha; subst hha; have := hh rfl; subst this; exact ⟨rfl, run_sliceBound h0 h1⟩
       | b => simp [bnd] at hha
      | bad => simp [isBad] at hb
      | _ => simp [bnd] at hha
     have bh' : isBad hi = true -> ofBad hi uh = none /\ y0 = len := by
      intro hb
      cases hi with
      | bad => simp only [bnd, Option.some.injEq] at hha; exact ⟨rfl, hha.symm⟩
      | _ => simp [isBad] at hb
     -- what a part of a slice is
     have part : ∀ (x1 y1 m : Nat), x1 <= y1 -> y1 <= len -> y1 <= m -> m <= cap -> SubOk base cap0 L0 sz (subOf sub base0 x1 y1) (if m = x1 then A else A.map (·.add (x1 * sz))) (y1 - x1) (m - x1) := by
      intro x1 y1 m h1 h2 h3 h4;have hA : m = x1 \/ (if m = x1 then A else A.map (·.add (x1 * sz))) = base.map (·.add ((loOf sub + x1) * sz)) := by
       by_cases hmx : m = x1
       ·exact .inl hmx
       ·right
        rw [if_neg hmx]
        cases sub with
        | none => obtain ⟨rfl, _, _⟩ := hsub; simp [loOf]
        | some p =>
         obtain ⟨q1, q2⟩ := p;obtain ⟨rfl, k1, k2, k3, k4⟩ := hsub;rcases k4 with k4 | k4
         ·omega
         ·rw [k4]; cases base <;> simp [loOf, Addr.add_add, Nat.add_mul]
      cases sub with
      | none =>
       obtain ⟨rfl, rfl, rfl⟩ := hsub;refine ⟨rfl, by omega, by omega, by omega, ?_⟩;rcases hA with hA | hA
       ·left; omega
       ·right; rw [hA]; simp [loOf]
      | some p =>
       obtain ⟨q1, q2⟩ := p;obtain ⟨rfl, k1, k2, k3, k4⟩ := hsub;simp only [loOf] at hlo0 hA;subst hlo0;refine ⟨rfl, by omega, by omega, by omega, ?_⟩;rcases hA with hA | hA
       ·left; omega
       ·right; exact hA
     have fin : ∀ (x1 y1 m : Nat), (Instr.sliceBounds true len cap (ofBad lo ul) (ofBad hi uh) (ofBad mx um)).run P w = .ok (x1, y1, m) w ->
       (Instr.sliceAt t (.slice A len cap) (ofBad lo ul) (ofBad hi uh) (ofBad mx um)).run P w = .ok (.slice (if m = x1 then A else A.map (·.add (x1 * sz))) (y1 - x1) (m - x1)) w := by
      intro x1 y1 m hq;simp only [Instr.sliceAt, Instr.slice, Sem.run_bind, hu, Result.andThen_ok, hq, hsz', hse, Sem.run_pure]
     cases mx with
     | bad =>
      simp only at h2;obtain ⟨h0, h1, h3, h4⟩ := rng_inv h2
      clear h2
      have hbs : (Instr.sliceBounds true len cap (ofBad lo ul) (ofBad hi uh) (ofBad .bad um)).run P w = .ok (x0.toNat, y0.toNat, cap) w := by
       cases hbh : isBad hi with
       | true =>
        obtain ⟨k1, k2⟩ := bh' hbh;have e1 : ofBad .bad um = none := rfl;rw [k1, e1];rcases bl with ⟨e2, rfl⟩ | ⟨e2, e3⟩
        ·rw [e2]; simp [Instr.sliceBounds, k2]
        ·rw [e2]; simp [Instr.sliceBounds, k2, e3 len .sliceB h0 (by omega)]
       | false =>
        obtain ⟨k1, k2⟩ := bh cap .sliceAcap (by omega) (by omega) hbh;have e1 : ofBad .bad um = none := rfl;rw [k1, e1];rcases bl with ⟨e2, rfl⟩ | ⟨e2, e3⟩
        ·rw [e2]; simp [Instr.sliceBounds, k2]
        ·rw [e2]; simp [Instr.sliceBounds, k2, e3 y0.toNat .sliceB h0 (by omega)]
      have hrun := fin _ _ _ hbs
      cases hbb : (isBad lo && isBad hi) with
      | true =>
       rw [hbb] at h4;simp only [cond_true] at h4;simp only [Bool.and_eq_true] at hbb;obtain ⟨_, k2⟩ := bh' hbb.2;have k1 : x0 = 0 := by
        cases lo with
        | bad => simp only [bnd, Option.some.injEq] at hla; exact hla.symm
        | _ => simp [isBad] at hbb
       subst k1 k2;refine out_pure R hs' h4 hrun ?_;have : (if cap = (0 : Int).toNat then A else A.map (·.add ((0 : Int).toNat * sz))) = A := by
        split
        ·rfl
        ·cases A <;> simp [Addr.add_zero]
       rw [this];simpa using hx
      | false =>
       rw [hbb] at h4;simp only [cond_false] at h4;refine out_pure R hs' h4 hrun (VR3.one (hsl _ _ _ _ (part _ _ _ (by omega) (by omega) (by omega) (Nat.le_refl _))))
     | s z =>
      cases z with
      | b => exact (qfq h2).elim
      | i kc c =>
       simp only at h2
       cases hbh : isBad hi with
       | true => rw [hbh] at h2; exact (qfq h2).elim
       | false =>
        rw [hbh] at h2;simp only [cond_false] at h2;obtain ⟨hc, h5⟩ := test_inv' h2
        clear h2
        obtain ⟨h0, h1, h3, h4⟩ := rng_inv h5
        clear h5
        have hc : c = y0 := by simpa using hc
        subst hc;have hmm := hm rfl;subst hmm;obtain ⟨k1, k2⟩ := bh c.toNat .slice3B (by omega) (by omega) hbh;have hbs : (Instr.sliceBounds true len cap (ofBad lo ul) (ofBad hi uh) (ofBad (.s (.i kc c)) (Sc.val (.i kc c)))).run P w = .ok (x0.toNat, c.toNat, c.toNat) w := by
         rw [k1];have k3 : (Instr.sliceBound (Sc.val (.i kc c)) cap .slice3Acap).run P w = .ok c.toNat w := run_sliceBound (by omega) (by omega);have e1 : ofBad (.s (.i kc c)) (Sc.val (.i kc c)) = some (Sc.val (.i kc c)) := rfl;rw [e1];rcases bl with ⟨e2, rfl⟩ | ⟨e2, e3⟩
         ·rw [e2]; simp [Instr.sliceBounds, k2, k3]
         ·rw [e2]; simp [Instr.sliceBounds, k2, k3, e3 c.toNat .slice3C h0 (by omega)]
        exact out_pure R hs' h4 (fin _ _ _ hbs) (VR3.one (hsl _ _ _ _ (part _ _ _ (by omega) (by omega) (Nat.le_refl _) (by omega))))
     | _ => exact (qfq h2).elim
  ·exact (qfq h).elim
end
end Go.Sh
namespace Go.Sh
variable [Fwd]
section
variable {P : Program} {T : Tab} {Mn O0 : Nat -> Prop} {w0 : Base} {w : World} {nt : Nat} {s : S} {g : G} {a : Act} {fresh : Nat} {seen rd : List Nat} {r : List Nat × SV × Ws}
theorem cells_one {u : Value} (h : u.oneCell' = true) : u.cells = #[u] := by cases u <;> simp [Value.cells, Value.oneCell'] at h ⊢
theorem VR1_of {v : SV} {u : Value} (h : VR3 s g v u) (hs : solid v = true) : VR1 s g v u := by
 cases v <;> first | exact h | (simp [solid] at hs; done)
theorem cellsOf_rel {v : SV} {u : Value} (h : VR3 s g v u) (hs : (cellsOf v).all solid = true) : All2 (VR1 s g) (cellsOf v) u.cells.toList /\ ∀ x ∈ u.cells.toList, x.oneCell' = true := by
 cases v with
 | agg l =>
  obtain ⟨cs, rfl, hl, hi⟩ := h;refine ⟨⟨hl, hi⟩, fun x hx => ?_⟩;obtain ⟨i, hi'⟩ := List.getElem?_of_mem hx;have hlt : i < l.length := by rw [hl]; exact (qSq.1 hi').1
  exact (hi i _ x (qEq hlt) hi').cell (by simp only [cellsOf, List.all_eq_true] at hs; exact hs _ (List.getElem_mem hlt))
 | _ =>
  all_goals
   simp only [cellsOf, List.all_cons, List.all_nil, Bool.and_true] at hs
   first
    | (simp [solid] at hs; done)
    | skip
  all_goals
   have h0 := VR1_of h hs;have h1 := h0.cell hs;rw [cells_one h1];refine ⟨⟨rfl, fun i x y hx hy => ?_⟩, fun x hx => by simp at hx; subst hx; exact h1⟩
   cases i with
   | zero => simp [cellsOf] at hx hy; subst hx hy; exact h0
   | succ i => simp at hy
theorem All2.nil {α β : Type} {R : α -> β -> Prop} : All2 R [] [] := ⟨rfl, fun i a b h => by simp at h⟩
theorem All2.imp {α β : Type} {R R' : α -> β -> Prop} {l : List α} {m : List β} (h : All2 R l m) (k : ∀ a b, a ∈ l -> R a b -> R' a b) : All2 R' l m :=
 ⟨h.1, fun i a b ha hb => k a b (qMq ha) (h.2 i a b ha hb)⟩
theorem All2.splice {α β : Type} {R : α -> β -> Prop} {l : List α} {m : List β} {l' : List α} {m' : List β} {d : Nat} (h : All2 R l m) (h' : All2 R l' m') (hd : d + l'.length <= l.length) : All2 R (splice l d l') (splice m d m') := by
 have hd' : d + m'.length <= m.length := by rw [<- h.1, <- h'.1]; exact hd
 refine ⟨by rw [splice_length _ _ _ hd, splice_length _ _ _ hd']; exact h.1, fun i a b ha hb => ?_⟩
 rw [splice_get _ _ _ _ hd] at ha
 rw [splice_get _ _ _ _ hd', <- h'.1] at hb
 split at ha
 ·rename_i hc; rw [if_pos hc] at hb; exact h'.2 _ _ _ ha hb
 ·rename_i hc; rw [if_neg hc] at hb; exact h.2 _ _ _ ha hb
theorem zero_rel {l : List SV} {m : List Value} (h : All2 ZOk l m) : All2 (VR1 s g) l m := h.imp fun v u _ hz => by
 obtain ⟨h1, h2⟩ := hz
 cases v <;> simp only at h2 <;> first | exact h2 | exact h2.elim | trivial
theorem did_blk (R : Rel Mn O0 w0 nt s g a w) (hf : ∀ m, InR fresh m -> ¬ Mn m) {cs : List SV} {arr : Array Value} (ty : TypeId) (hcs : All2 (VR1 s g) cs arr.toList) (hn : ∀ n ∈ namesL1 cs, Mn n) :
  ∃ g', Did Mn s g w (InR fresh) (.ptr fresh 0) [(fresh, some (.blk cs))] (.pointer (some ⟨w.heap.size, 0, none⟩)) (w.alloc (.cells arr ty)) g' := by
 have hin : InR fresh fresh := ⟨Nat.le_refl _, by omega⟩
 refine ⟨_, did_alloc R hin (hf _ hin) (e := .blk cs) (arr := arr) (ty := ty) 0 (fun _ => none) (fun _ => 0) id [] (fun n hn => by simp at hn) (fun _ _ _ => rfl) (fun n r hn => by simp at hn) w ⟨rfl, .rfl, rfl, rfl⟩
  (fun g' hg' hl _ hat => ?_) (fun g' hg' => ⟨w.heap.size, by rw [hg']; simp [G.new], rfl⟩)⟩
 refine ⟨w.heap.size, arr, ty, by rw [hg']; simp [G.new], by rw [hg']; simp [G.new, ownNew], hat, hcs.1, fun i x y hx hy => (hcs.2 i x y hx hy).less (fun n hn' => hl n (hn n (mem_namesL1 hx hn')))⟩
theorem run_newVar (t : TypeId) (v : Value) : (newVar t v).run P w = .ok ⟨w.heap.size, 0, none⟩ (w.alloc (.cells v.cells t)) := by
 simp [newVar, newRow]
theorem box_sim (R : Rel Mn O0 w0 nt s g a w) (hs : Seen Mn seen) (hf : ∀ m, InR fresh m -> ¬ Mn m) {x : SV} {u : Value} (t : TypeId) (hx : VR3 s g x u) (hxn : Seen Mn (names3 x)) (h : runP s fresh (boxP fresh x) seen rd = some r) :
  Out P Mn s g w fresh (Instr.box t u) r := by
 unfold boxP at h
 obtain ⟨hsol, h⟩ := bif_inv h
 obtain ⟨rfl, hn⟩ := ret_inv h hs
 obtain ⟨h1, h2⟩ := cellsOf_rel hx hsol
 obtain ⟨g', hd⟩ := did_blk R hf t h1 (fun n hn => hxn n (by
  cases x with
  | agg l => exact hn
  | tup l => simp [cellsOf, solid] at hsol
  | fn f l => simp [cellsOf, solid] at hsol
  | _ => simp only [cellsOf, namesL1, List.append_nil] at hn; exact hn))
 exact ⟨_, _, g', by simp [Instr.box, run_newVar], hd, hn⟩
theorem alloc_sim (hT : TabOk P T) (R : Rel Mn O0 w0 nt s g a w) (hs : Seen Mn seen) (hf : ∀ m, InR fresh m -> ¬ Mn m) {t : Nat} {ti : TI} (ht : lk T t = some ti) (h : runP s fresh (.ret (.ptr fresh 0) [(fresh, some (.blk ti.zero))]) seen rd = some r) :
  Out P Mn s g w fresh (Instr.alloc t true (.tuple #[])) r := by
 obtain ⟨rfl, hn⟩ := ret_inv h hs
 obtain ⟨z, hz, h1, h2, h3⟩ := (hT t ti ht).run_zero w
 obtain ⟨g', hd⟩ := did_blk R hf t (zero_rel (s := s) (g := g) h2) (fun n hn => by
  exfalso
  have : ∀ l : List SV, (∀ v ∈ l, ∃ u, ZOk v u) -> namesL1 l = [] := by
   intro l
   induction l with
   | nil => intro _; rfl
   | cons x q ih =>
    intro hq;simp only [namesL1];rw [ih (fun v hv => hq v (List.mem_cons_of_mem _ hv))];obtain ⟨u, _, hu⟩ := hq x (by simp);cases x <;> simp only at hu <;> first | rfl | exact hu.elim
  rw [this ti.zero (fun v hv => by
   obtain ⟨i, hi⟩ := List.getElem?_of_mem hv;have hlt : i < z.cells.toList.length := by rw [<- h2.1]; exact (qSq.1 hi).1
   exact ⟨_, h2.2 i v _ hi (qEq hlt)⟩)] at hn
  simp at hn)
 exact ⟨_, _, g', by simp [Instr.alloc, hz, run_newVar], hd, hn⟩
theorem foldl_set : ∀ (l : List Value) (k d : Nat) (cells : Array Value), d + k + l.length <= cells.size ->
  ((l.zipIdx k).foldl (fun (cs : Array Value) (x : Value × Nat) => cs.setIfInBounds (d + x.2) x.1) cells).toList = splice cells.toList (d + k) l := by
 intro l
 induction l with
 | nil =>
  intro k d cells h;simp only [List.zipIdx_nil, List.foldl_nil];apply List.ext_getElem?
  intro i;rw [splice_get _ _ _ _ (by simpa using h)];rw [if_neg (by simp)]
 | cons v l ih =>
  intro k d cells h;simp only [List.length_cons] at h;simp only [List.zipIdx_cons, List.foldl_cons];rw [ih (k + 1) d _ (by simp; omega)];apply List.ext_getElem?
  intro i;rw [splice_get _ _ _ _ (by simp; omega), splice_get _ _ _ _ (by simp; omega)];simp only [Array.toList_setIfInBounds, List.length_cons];by_cases h1 : d + k <= i /\ i < d + k + (l.length + 1)
  ·rw [if_pos h1];by_cases h2 : i = d + k
   ·subst h2;rw [if_neg (by omega)];rw [List.getElem?_set_self (by simp; omega)];simp
   ·rw [if_pos (by omega)];have : i - (d + k) = (i - (d + (k + 1))) + 1 := by omega
    rw [this, List.getElem?_cons_succ]
  ·rw [if_neg h1, if_neg (by omega), qNq (by omega)]
theorem fill_cons (place : Nat -> Option (Nat × Nat)) (cells : Array Value) (i : Nat) (v : Value) (rest : List (Nat × Value)) {d n : Nat} (hp : place i = some (d, n)) (hn : v.cells.size = n) (hd : d + n <= cells.size) :
  ∃ cells' : Array Value, cells'.toList = splice cells.toList d v.cells.toList /\ Instr.fill place cells ((i, v) :: rest) = Instr.fill place cells' rest := by
 refine ⟨v.cells.zipIdx.foldl (fun cs (x : Value × Nat) => cs.setIfInBounds (d + x.2) x.1) cells, ?_, ?_⟩
 ·rw [<- Array.foldl_toList, Array.toList_zipIdx];have := foldl_set v.cells.toList 0 d cells (by simp; omega);simpa using this
 ·simp only [Instr.fill, hp];rw [if_neg (by simp; omega)]
theorem toCell_rel {v : SV} {u : Value} (h : VR3 s g v u) : VR3 s g (toCell v) u := by
 unfold toCell
 split
 ·obtain ⟨cs, rfl, hl⟩ := h
  match hc : cs.toList, hl with
  | [x], hl =>
   obtain ⟨b, hb, hx⟩ := (hl.2 0 _ x rfl rfl : VR1 s g (.ptr _ 0) x);have : cs = #[x] := by apply Array.ext'; simpa using hc
   subst this;exact ⟨b, hb, by rw [hx]⟩
  | [], hl => exact absurd hl.1 (by simp)
  | _ :: _ :: _, hl => exact absurd hl.1 (by simp)
 ·exact h
theorem fillParts_inv (R : Rel Mn O0 w0 nt s g a w) {fs : List (Nat × Nat)} {place : Nat -> Option (Nat × Nat)} (hpl : ∀ i d ft, nth fs i = some (d, ft) -> place i = some (d, sizeT T ft)) {k : List SV -> Prog} :
  ∀ {parts : List (Nat × Operand)} {cs : List SV} {cells : Array Value} {seen rd : List Nat}, Seen Mn seen -> All2 (VR1 s g) cs cells.toList -> (∀ x ∈ cells.toList, x.oneCell' = true) -> runP s fresh (fillParts fs T parts cs k) seen rd = some r ->
  ∃ cs' cells' seen' rd', Instr.fill place cells (parts.map fun x => (x.1, a.eval x.2)) = some cells' /\ All2 (VR1 s g) cs' cells'.toList /\ (∀ x ∈ cells'.toList, x.oneCell' = true) /\ Seen Mn seen' /\ runP s fresh (k cs') seen' rd' = some r := by
 intro parts
 induction parts with
 | nil => intro cs cells seen rd hs hc h1 h; exact ⟨cs, cells, seen, rd, rfl, hc, h1, hs, h⟩
 | cons p q ih =>
  obtain ⟨i, o⟩ := p;intro cs cells seen rd hs hc h1 h;simp only [fillParts] at h
  cases hn : nth fs i with
  | none => rw [hn] at h; exact (qfq h).elim
  | some df =>
   obtain ⟨d, ft⟩ := df;rw [hn] at h;simp only at h;obtain ⟨v, seen', rd', hv, hvn, hs', h2⟩ := opnd_inv R h hs;obtain ⟨hb, h3⟩ := bif_inv h2;simp only [Bool.and_eq_true] at hb;obtain ⟨hb1, hb2, hb3⟩ := hb;have hb1 := qBq hb1;have hb2 := Nat.le_of_ble_eq_true hb2;obtain ⟨hr1, hr2⟩ := cellsOf_rel (toCell_rel hv) hb3;have hsz : (a.eval o).cells.size = sizeT T ft := by rw [<- hb1, <- Array.length_toList, <- hr1.1]
   have hcl : cs.length = cells.size := by rw [<- Array.length_toList]; exact hc.1
   obtain ⟨cells', e1, e2⟩ := fill_cons place cells i (a.eval o) (q.map fun x => (x.1, a.eval x.2)) (hpl i d ft hn) hsz (by rw [<- hcl]; exact hb2);have hc' : All2 (VR1 s g) (splice cs d (cellsOf (toCell v))) cells'.toList := by rw [e1]; exact hc.splice hr1 (by rw [hb1]; exact hb2)
   have h1' : ∀ x ∈ cells'.toList, x.oneCell' = true := by
    intro x hx;rw [e1] at hx;obtain ⟨j, hj⟩ := List.getElem?_of_mem hx;rw [splice_get _ _ _ _ (by rw [Array.length_toList, Array.length_toList, hsz, <- hcl]; exact hb2)] at hj;split at hj
    ·exact hr2 x (qMq hj)
    ·exact h1 x (qMq hj)
   obtain ⟨cs', cells2, seen2, rd2, f1, f2, f3, f4, f5⟩ := ih hs' hc' h1' h3;exact ⟨cs', cells2, seen2, rd2, by simp only [List.map_cons]; rw [e2]; exact f1, f2, f3, f4, f5⟩
theorem run_mapM {α β : Type} {f : α -> Sem β} {p : α -> β} : ∀ (l : List α), (∀ x ∈ l, (f x).run P w = .ok (p x) w) -> (l.mapM f).run P w = .ok (l.map p) w := by
 intro l
 induction l with
 | nil => intro _; simp
 | cons x q ih =>
  intro h;simp only [List.mapM_cons, Sem.run_bind, h x (by simp), Result.andThen_ok, ih (fun y hy => h y (List.mem_cons_of_mem _ hy)), Sem.run_pure, List.map_cons]
theorem build_sim (hT : TabOk P T) (R : Rel Mn O0 w0 nt s g a w) (hs : Seen Mn seen) {t : Nat} {parts : Array (Nat × Operand)}
  (h : runP s fresh (buildP T t parts.toList) seen rd = some r) : Out P Mn s g w fresh (Instr.build t (parts.map fun (i, x) => (i, a.eval x))) r := by
 unfold buildP at h
 cases ht : lk T t with
 | none => rw [ht] at h; exact (qfq h).elim
 | some ti =>
  rw [ht] at h;simp only at h;have tk := hT t ti ht;obtain ⟨z, hz, h1, h2, h3⟩ := tk.run_zero w;have hz1 : ∀ x ∈ z.cells.toList, x.oneCell' = true := fun x hx => by
   obtain ⟨i, hi⟩ := List.getElem?_of_mem hx;have hlt : i < ti.zero.length := by rw [h2.1]; exact (qSq.1 hi).1
   exact (h2.2 i _ x (qEq hlt) hi).1
  have hparts : (parts.map fun (x : Nat × Operand) => (x.1, a.eval x.2)).toList = parts.toList.map fun x => (x.1, a.eval x.2) := by simp
  cases hk : ti.kind with
  | struct fs =>
   rw [hk] at h;simp only at h;obtain ⟨fields, hu, hmap⟩ := tk.run_struct w hk
   let places := fields.toList.map fun (f : Field) => (f.offset, sizeT T f.type)
   have hpl : (fields.mapM fun (f : Field) => do pure (f.offset, <- sizeOf f.type)).run P w = .ok places.toArray w := by
    have : fields = fields.toList.toArray := by simp
    rw [this, List.mapM_toArray];simp only [Sem.run_map];rw [run_mapM (p := fun f : Field => (f.offset, sizeT T f.type))]
    ·simp [places]
    ·intro f hf;obtain ⟨fi, hfi⟩ := tk.fields fs hk f.offset f.type (by rw [<- hmap]; exact List.mem_map.2 ⟨f, hf, rfl⟩);have := (hT _ fi hfi).run_size w;simp [this, sizeT, hfi]
   obtain ⟨cs', cells', seen', rd', f1, f2, f3, f4, f5⟩ := fillParts_inv (T := T) R (place := fun i => places.toArray[i]?) (fun i d ft hn => by
    rw [nth_get, <- hmap, List.getElem?_map, Option.map_eq_some_iff] at hn;obtain ⟨fd, hfd, he⟩ := hn;injection he with e1 e2
    simp only [places, List.getElem?_toArray, List.getElem?_map, hfd, Option.map_some, e1, e2]) hs (zero_rel h2) hz1 h
   refine out_pure R f4 (u := .agg cells') f5 ?_ (VR3.ofAgg f2);simp only [Instr.build, Sem.run_bind, hz, Result.andThen_ok, hu, hpl];rw [hparts, f1];simp
  | array n e =>
   rw [hk] at h;simp only at h;obtain ⟨hse, h'⟩ := bif_inv h
   clear h
   have hse : 0 < sizeT T e := by simpa [Nat.blt_eq] using hse
   ·have hu := tk.run_array w hk;have hsz := run_sizeT (w := w) hT hse;have hap : ∀ (n i0 i d ft : Nat), nth (arrPlaces e (sizeT T e) i0 n) i = some (d, ft) -> d = (i0 + i) * sizeT T e /\ ft = e := by
     intro n
     induction n with
     | zero => intro i0 i d ft h; simp [arrPlaces, nth] at h
     | succ n ih =>
      intro i0 i d ft h
      cases i with
      | zero => simp [arrPlaces, nth] at h; exact ⟨by rw [<- h.1]; simp, h.2.symm⟩
      | succ i =>
       obtain ⟨e1, e2⟩ := ih (i0 + 1) i d ft (by simpa [arrPlaces, nth] using h);exact ⟨by rw [e1]; congr 1; omega, e2⟩
    obtain ⟨cs', cells', seen', rd', f1, f2, f3, f4, f5⟩ := fillParts_inv (T := T) R (place := fun i => some (i * sizeT T e, sizeT T e)) (fun i d ft hn => by
     obtain ⟨e1, e2⟩ := hap n 0 i d ft hn;subst e2;simp [e1]) hs (zero_rel h2) hz1 h'
    refine out_pure R f4 (u := .agg cells') f5 ?_ (VR3.ofAgg f2);simp only [Instr.build, Sem.run_bind, hz, Result.andThen_ok, hu, hsz];rw [hparts, f1];simp
  | _ => rw [hk] at h; exact (qfq h).elim
end
end Go.Sh
namespace Go.Sh
variable [Fwd]
section
variable {P : Program} {T : Tab} {Mn O0 : Nat -> Prop} {w0 : Base} {w : World} {nt : Nat} {s : S} {g : G} {a : Act} {fresh : Nat} {seen rd : List Nat} {r : List Nat × SV × Ws}
theorem scOf_some {l : List SV} : ∀ {z : Row}, scOf l = some z -> l = z.map SV.s := by
 induction l with
 | nil => intro z h; simp [scOf] at h; subst h; rfl
 | cons v q ih =>
  intro z h;cases v <;> simp only [scOf] at h <;> try (simp at h; done)
  simp only [Option.map_eq_some_iff] at h;obtain ⟨z', hz', rfl⟩ := h;rw [ih hz']
  rfl
def zeros (zero : Array Value) (n : Nat) : Array Value := (Array.range n).map (zero[· % zero.size]!)
theorem zeros_size (zero : Array Value) (n : Nat) : (zeros zero n).size = n := by simp [zeros]
theorem zeros_get {zero : Array Value} {sz m i j : Nat} {u : Value} (hs : zero.size = sz) (hi : i < m) (hj : zero.toList[j]? = some u) : (zeros zero (m * sz))[i * sz + j]? = some u := by
 have hjl : j < zero.size := by simpa using (qSq.1 hj).1
 have hlt : i * sz + j < m * sz := by
  have : (i + 1) * sz <= m * sz := Nat.mul_le_mul_right _ hi;rw [Nat.add_mul] at this;omega
 have hmod : (i * sz + j) % zero.size = j := by
  rw [hs, Nat.mul_comm, Nat.mul_add_mod];exact Nat.mod_eq_of_lt (by omega)
 simp only [zeros, Array.getElem?_map]
 rw [Array.getElem?_range]
 rw [if_pos hlt]
 simp only [Option.map_some, hmod]
 have : zero[j]? = some u := by simp [hjl] at hj ⊢; exact hj
 rw [getElem!_pos zero j hjl]
 rw [Array.getElem?_eq_getElem hjl] at this
 exact this
theorem run_make (hT : TabOk P T) {t e : Nat} {ti ei : TI} (ht : lk T t = some ti) (hk : ti.kind = .slice e) (he : lk T e = some ei) {k k' : IntKind} {m : Nat} (hm : m < 4294967297) :
  ∃ z : Value, (zeroValue e).run P w = .ok z w /\ z.cells.size = ei.size /\ All2 ZOk ei.zero z.cells.toList /\
   (Instr.makeSlice t (.int k m) (.int k' m)).run P w = .ok (.slice (some ⟨w.heap.size, 0, none⟩) m m) (w.alloc (.cells (zeros z.cells (m * ei.size)) e)) := by
 have tk := hT t ti ht
 have ek := hT e ei he
 obtain ⟨z, hz, h1, h2, _⟩ := ek.run_zero w
 refine ⟨z, hz, h1, h2, ?_⟩
 have hu := tk.run_slice w hk
 obtain ⟨i, z', hi, hs, hb, _⟩ := ek.info
 have hinfo : (typeInfo e).run P w = .ok i w := by simp [typeInfo, hi]
 have hp := ek.pos
 have hsz := ek.run_size w
 have hwrap : IntKind.i64.wrap (m : Int) = m := IntWalk.i64_in _ (by omega)
 have hbm : i.bytes * m <= 65536 * 4294967296 := Nat.mul_le_mul (by omega) (by omega)
 have hlarge : ¬ ((i.bytes : Int) * (m : Int) > 281474976710656) := by
  have : ((i.bytes * m : Nat) : Int) <= ((65536 * 4294967296 : Nat) : Int) := by exact_mod_cast hbm
  simp at this;omega
 simp only [Instr.makeSlice, Sem.run_bind, hu, Result.andThen_ok, asInt, asIntOf, Sem.run_pure, hinfo, hwrap]
 have h0 : decide ((m : Int) < 0) = false := by simp
 have h1' : decide ((i.bytes : Int) * (m : Int) > 2 ^ 48) = false := by
  have e : (2 : Int) ^ 48 = 281474976710656 := by decide
  rw [e]; exact decide_eq_false hlarge
 have h2' : decide ((m : Int) > (m : Int)) = false := by simp
 rw [h0, h1', h2']
 simp only [Bool.or_self, Bool.false_eq_true, if_false, Sem.run_bind, run_askRoom, Result.andThen_ok, hsz, Int.toNat_natCast]
 by_cases hm0 : m * ei.size = 0
 ·rw [if_pos hm0];have e0 : Array.range 0 = #[] := rfl;simp [newRow, zeros, hm0, e0]
 ·rw [if_neg hm0];simp [hz, newRow, zeros]
theorem nilZ_spec {l : List SV} {c : Array Value} {n : Nat} (h : nilZ l = true) (hn : c.size = n) (hz : All2 ZOk l c.toList) : n = 1 /\ c = #[.slice none 0 0] := by
 unfold nilZ at h
 split at h
 ·have h1 := hz.1;simp at h1;refine ⟨by omega, ?_⟩;have h0 : c.toList[0]? = some (c.toList[0]'(by simp; omega)) := qEq _;have := (hz.2 0 .nils _ rfl h0).2;simp only at this;apply Array.ext'
  apply List.ext_getElem?
  intro i
  cases i with
  | zero => rw [h0, this]; rfl
  | succ i => simp; omega
 ·simp at h
theorem flat_new (w' : World) {own : Nat -> Option Key} {m : Nat} {b : Nat} {arr : Array Value} {ty : TypeId} {c sz : Nat} {rows : Flat} (ho : own b = some (m, none)) (hh : w'.heap[b]? = some (.cells arr ty (0, 0))) (hc : rows.length <= c) (hsz : 0 < sz) (he : ∀ (i : Nat) (row : Row), rows[i]? = some row -> row.length = sz)
  (hx : ∀ (i : Nat) (row : Row) (j : Nat) (x : Sc), rows[i]? = some row -> row[j]? = some x -> arr[i * sz + j]? = some (Sc.val x)) (hs : c * sz <= arr.size) (hg : c <= 9223372036854775807) : FlatOk w' own (some (m, none)) (some ⟨b, 0, none⟩) c sz rows := {
 fits := hc
 pos := hsz
 even := he
 cell := fun i row j x hi hj => ⟨_, rfl, ho, by rw [Addr.add_plain, cells_at hh, Nat.zero_add]; exact hx i row j x hi hj⟩
 room := fun _ => .inr ⟨b, 0, arr, ty, rfl, ho, hh, by simpa using hs, hg⟩ }
theorem SubOk.whole {base : Option Addr} {c L sz : Nat} : SubOk base c L sz none base L c := ⟨rfl, rfl, rfl⟩
theorem allocP_sim (hT : TabOk P T) (R : Rel Mn O0 w0 nt s g a w) (hs : Seen Mn seen) (hf : ∀ m, InR fresh m -> ¬ Mn m) {t : Nat} {ti : TI} (ht : lk T t = some ti) (h : runP s fresh (allocP fresh ti) seen rd = some r) :
  Out P Mn s g w fresh (Instr.alloc t true (.tuple #[])) r := by
 unfold allocP at h
 cases hg : isGreat ti with
 | false => rw [hg] at h; exact alloc_sim hT R hs hf ht h
 | true =>
  rw [hg] at h;simp only [cond_true] at h;split at h
  ·rename_i x r0 hz;have hin : InR fresh fresh := ⟨Nat.le_refl _, by omega⟩;obtain ⟨rfl, hn⟩ := ret_inv h hs;obtain ⟨z, hzv, h1, h2, h3⟩ := (hT t ti ht).run_zero w;have hzz := (hT t ti ht).great hg x r0 hz;have hsz := isGreat_size hg;refine ⟨_, _, _, by simp [Instr.alloc, hzv, run_newVar], did_alloc R hin (hf _ hin) (e := .flat true 1 (List.replicate ti.size [x])) (arr := z.cells) (ty := t) ti.size (fun _ => none) (fun _ => 0) id [] (fun n hn => by simp at hn) (fun _ _ _ => rfl) (fun n r hn => by simp at hn) w ⟨rfl, .rfl, rfl, rfl⟩
    (fun g' hg' hl _ hat => ?_) (fun g' hg' => ⟨w.heap.size, by rw [hg']; simp [G.new], rfl⟩), hn⟩
   have hbase : g'.base fresh = some ⟨w.heap.size, 0, none⟩ := by rw [hg']; simp [G.new]
   have hcap : g'.cap fresh = ti.size := by rw [hg']; simp [G.new]
   have hown : g'.own w.heap.size = some (fresh, none) := by rw [hg']; simp [G.new, ownNew]
   show FlatOk _ g'.own (some (fresh, none)) (g'.base fresh) (g'.cap fresh) 1 (List.replicate ti.size [x])
   rw [hbase, hcap];refine flat_new _ hown hat (by rw [List.length_replicate]; exact Nat.le_refl _) (by omega) (fun i row hi => ?_) (fun i rw' j y hi hj => ?_) (by omega) (by omega)
   ·rw [List.eq_of_mem_replicate (qMq hi)]; rfl
   ·have hil : i < ti.size := by have := (qSq.1 hi).1; rwa [List.length_replicate] at this
    rw [List.eq_of_mem_replicate (qMq hi)] at hj;have : j = 0 := by
     cases j with
     | zero => rfl
     | succ j => simp at hj
    subst this;simp at hj;subst hj;rw [Nat.mul_one, Nat.add_zero];have hj' : ti.zero[i]? = some (.s x) := by rw [hzz, List.getElem?_replicate, if_pos hil]
    have hjl : i < z.cells.toList.length := by rw [<- h2.1]; exact (qSq.1 hj').1
    have := (h2.2 i _ _ hj' (qEq hjl)).2;simp only at this;rw [<- Array.getElem?_toList, qEq hjl, this]
  ·exact (qfq h).elim
theorem makeSlice_sim (hT : TabOk P T) (R : Rel Mn O0 w0 nt s g a w) (hs : Seen Mn seen) (hf : ∀ m, InR fresh m -> ¬ Mn m) {t : Nat} {x y : SV} {u v : Value} (hx : VR3 s g x u) (hy : VR3 s g y v)
  (h : runP s fresh (makeSliceP T fresh t x y) seen rd = some r) : Out P Mn s g w fresh (Instr.makeSlice t u v) r := by
 have hin : InR fresh fresh := ⟨Nat.le_refl _, by omega⟩
 unfold makeSliceP at h
 cases ht : lk T t with
 | none => rw [ht] at h; exact (qfq h).elim
 | some ti =>
  rw [ht] at h;simp only at h
  cases hk : ti.kind with
  | slice e =>
   rw [hk] at h;simp only at h
   cases he : lk T e with
   | none => rw [he] at h; exact (qfq h).elim
   | some ei =>
    rw [he] at h;simp only at h;split at h
    ·rename_i k1 x k2 y;subst hx hy;obtain ⟨hxy, h2⟩ := test_inv' h
     clear h
     have hxy : x = y := by simpa using hxy
     subst hxy;obtain ⟨h0, hlt, h3⟩ := idx_inv h2
     clear h2
     obtain ⟨m, rfl⟩ : ∃ m : Nat, x = m := ⟨x.toNat, by omega⟩;simp only [Int.toNat_natCast] at h3;have ek := hT e ei he;obtain ⟨z, hz, h1, h2, hrun⟩ := run_make (w := w) (k := k1) (k' := k2) hT ht hk he (m := m) (by omega);have flat : ∀ {zr : Row}, zeroRow ei = some zr -> runP s fresh (.ret (.sl fresh none none) [(fresh, some (.flat true ei.size (List.replicate m zr)))]) seen rd = some r -> Out P Mn s g w fresh (Instr.makeSlice t (Sc.val (.i k1 m)) (Sc.val (.i k2 m))) r := by
      intro zr hzr h;obtain ⟨rfl, hn⟩ := ret_inv h hs;have hzz := scOf_some hzr;have hlen : zr.length = ei.size := by
       have := h2.1;rw [hzz] at this;simp at this;rw [this, h1]
      refine ⟨_, _, _, hrun, did_alloc R hin (hf _ hin) m (fun _ => none) (fun _ => 0) id [] (fun n hn => by simp at hn) (fun _ _ _ => rfl) (fun n r hn => by simp at hn) w ⟨rfl, .rfl, rfl, rfl⟩
       (fun g' hg' hl _ hat => ?_) (fun g' hg' => VR3.one (v := .sl fresh none none) ⟨_, _, _, rfl, fun L sz hL => ?_⟩), hn⟩
      ·have hbase : g'.base fresh = some ⟨w.heap.size, 0, none⟩ := by rw [hg']; simp [G.new]
       have hcap : g'.cap fresh = m := by rw [hg']; simp [G.new]
       have hown : g'.own w.heap.size = some (fresh, none) := by rw [hg']; simp [G.new, ownNew]
       show FlatOk _ g'.own (some (fresh, none)) (g'.base fresh) (g'.cap fresh) ei.size (List.replicate m zr)
       rw [hbase, hcap];refine flat_new _ hown hat (by simp) ek.pos.2.2 (fun i row hi => ?_) (fun i row j x hi hj => ?_) (by rw [zeros_size]; omega) (by omega)
       ·have := qMq hi;rw [List.eq_of_mem_replicate this]; exact hlen
       ·have hrow := List.eq_of_mem_replicate (qMq hi);subst hrow;have him : i < m := by have := (qSq.1 hi).1; simpa using this
        refine zeros_get h1 him ?_;have hj' : ei.zero[j]? = some (.s x) := by rw [hzz]; simp [hj]
        have hjl : j < z.cells.toList.length := by rw [<- h2.1]; exact (qSq.1 hj').1
        have := (h2.2 j _ _ hj' (qEq hjl)).2;simp only at this;rw [qEq hjl, this]
      ·have hbase : g'.base fresh = some ⟨w.heap.size, 0, none⟩ := by rw [hg']; simp [G.new]
       have hcap : g'.cap fresh = m := by rw [hg']; simp [G.new]
       simp [lenSz, S.putW, S.setE] at hL;rw [hbase, hcap, <- hL.1];exact SubOk.whole
     cases hek : ei.kind with
     | slice e2 =>
      rw [hek] at h3;simp only at h3;obtain ⟨hpos, h4⟩ := bif_inv h3;simp only [Bool.and_eq_true, Nat.blt_eq] at hpos;obtain ⟨hpos, hnil⟩ := hpos;obtain ⟨rfl, hn⟩ := ret_inv h4 hs;obtain ⟨d, hd, hkd⟩ := ek.und;obtain ⟨hsz1, hzc⟩ := nilZ_spec hnil h1 h2;refine ⟨_, _, _, hrun, did_alloc R hin (hf _ hin) m (fun _ => none) (fun _ => 0) id [] (fun n hn => by simp at hn) (fun _ _ _ => rfl) (fun n r hn => by simp at hn) w ⟨rfl, .rfl, rfl, rfl⟩
       (fun g' hg' hl _ hat => ?_) (fun g' hg' => VR3.one (v := .sl fresh none none) ⟨_, _, _, rfl, fun L sz hL => ?_⟩), hn⟩
      ·have hbase : g'.base fresh = some ⟨w.heap.size, 0, none⟩ := by rw [hg']; simp [G.new]
       have hcap : g'.cap fresh = m := by rw [hg']; simp [G.new]
       have hown : g'.own w.heap.size = some (fresh, none) := by rw [hg']; simp [G.new, ownNew]
       show NestOk _ g'.own (some (fresh, none)) (fun i => some (fresh, some i)) (g'.base fresh) (g'.cap fresh) (g'.rbase fresh) (g'.rcap fresh) (sizeT T e2) (List.replicate m []) []
       rw [hbase, hcap];have hrb : g'.rbase fresh = fun _ => none := by rw [hg']; simp [G.new]
       have hrc : g'.rcap fresh = fun _ => 0 := by rw [hg']; simp [G.new]
       rw [hrb, hrc];refine ⟨by simp, hpos, fun i fl hi => ?_, fun i fl hi _ => ?_, fun _ => .inr ⟨_, 0, _, _, rfl, hown, hat, by rw [zeros_size, hsz1]; omega⟩⟩
       ·have hfl := List.eq_of_mem_replicate (qMq hi);subst hfl;have him : i < m := by have := (qSq.1 hi).1; simpa using this
        refine ⟨_, .slice none 0 0, rfl, hown, ?_, fun _ => rfl⟩;rw [Addr.add_plain, cells_at hat, Nat.zero_add];have := zeros_get (zero := z.cells) (sz := 1) (m := m) (i := i) (j := 0) (u := .slice none 0 0) (by rw [hzc]; rfl) him (by rw [hzc]; rfl);rw [hsz1];simpa using this
       ·have hfl := List.eq_of_mem_replicate (qMq hi);subst hfl;exact ⟨by simp, hpos, fun i row h => by simp at h, fun i row j x h => by simp at h, fun _ => .inl ⟨rfl, rfl⟩⟩
      ·have hbase : g'.base fresh = some ⟨w.heap.size, 0, none⟩ := by rw [hg']; simp [G.new]
       have hcap : g'.cap fresh = m := by rw [hg']; simp [G.new]
       simp [lenSz, S.putW, S.setE] at hL;rw [hbase, hcap, <- hL.1];exact SubOk.whole
     | _ =>
      rw [hek] at h3;simp only at h3
      cases hzr : zeroRow ei with
      | none => rw [hzr] at h3; exact (qfq h3).elim
      | some zr => rw [hzr] at h3; exact flat hzr h3
    ·exact (qfq h).elim
  | _ => rw [hk] at h; exact (qfq h).elim
end
end Go.Sh
namespace Go.Sh
variable [Fwd]
section
variable {P : Program} {T : Tab} {Mn O0 : Nat -> Prop} {w0 : Base} {w : World} {nt : Nat} {s : S} {g : G} {a : Act} {fresh : Nat} {seen rd : List Nat} {r : List Nat × SV × Ws}
theorem scCells_inv {k : List Sc -> Prog} : ∀ {l : List SV}, runP s fresh (scCells l k) seen rd = some r -> ∃ z, l = z.map SV.s /\ runP s fresh (k z) seen rd = some r := by
 intro l
 induction l generalizing k with
 | nil => intro h; exact ⟨[], rfl, h⟩
 | cons v q ih =>
  intro h;cases v <;> simp only [scCells] at h <;> try exact (qfq h).elim
  obtain ⟨z, rfl, h'⟩ := ih h;exact ⟨_ :: z, rfl, h'⟩
theorem sc_cells {v : SV} {u : Value} {z : List Sc} (h : VR3 s g v u) (hz : cellsOf v = z.map SV.s) : u.cells.toList = z.map Sc.val := by
 have hsol : (cellsOf v).all solid = true := by rw [hz]; simp [solid]
 obtain ⟨h1, _⟩ := cellsOf_rel h hsol
 rw [hz] at h1
 apply List.ext_getElem?
 intro i
 by_cases hi : i < z.length
 ·have e1 : (z.map SV.s)[i]? = some (.s z[i]) := by simp [hi]
  have hl : i < u.cells.toList.length := by rw [<- h1.1]; simpa using hi
  have := h1.2 i _ _ e1 (qEq hl);have this : u.cells.toList[i] = Sc.val z[i] := this;rw [qEq hl, this];simp [hi]
 ·rw [List.getElem?_eq_none (by rw [<- h1.1]; simpa using hi), List.getElem?_eq_none (by simpa using hi)]
theorem flatParts_inv (R : Rel Mn O0 w0 nt s g a w) {sz : Nat} {k : Flat -> Prog} : ∀ {parts : List (Nat × Operand)} {i : Nat} {cells : Array Value} {seen rd : List Nat}, Seen Mn seen -> (i + parts.length) * sz <= cells.size ->
  runP s fresh (flatParts sz i parts k) seen rd = some r ->
  ∃ rows cells' seen' rd', Instr.fill (fun i => some (i * sz, sz)) cells (parts.map fun x => (x.1, a.eval x.2)) = some cells' /\ cells'.size = cells.size /\ rows.length = parts.length /\ (∀ (q : Nat) (row : Row), rows[q]? = some row -> row.length = sz) /\
   (∀ (q : Nat) (row : Row) (j : Nat) (x : Sc), rows[q]? = some row -> row[j]? = some x -> cells'.toList[(i + q) * sz + j]? = some (Sc.val x)) /\ (∀ p, p < i * sz -> cells'.toList[p]? = cells.toList[p]?) /\ Seen Mn seen' /\ runP s fresh (k rows) seen' rd' = some r := by
 intro parts
 induction parts generalizing k with
 | nil => intro i cells seen rd hs _ h; exact ⟨[], cells, seen, rd, rfl, rfl, rfl, fun q row h => by simp at h, fun q row j x h => by simp at h, fun _ _ => rfl, hs, h⟩
 | cons p q ih =>
  obtain ⟨j, o⟩ := p;intro i cells seen rd hs hsz h;simp only [flatParts] at h;obtain ⟨hij, h1⟩ := bif_inv h;have hij := qBq hij;subst hij;obtain ⟨v, seen1, rd1, hv, hvn, hs1, h2⟩ := opnd_inv R h1 hs;obtain ⟨hlen, h3⟩ := bif_inv h2;have hlen := qBq hlen;obtain ⟨z, hz, h4⟩ := scCells_inv h3;have hcl := sc_cells hv hz;have hsz1 : (a.eval o).cells.size = sz := by rw [<- Array.length_toList, hcl, List.length_map, <- hlen, hz, List.length_map]
  simp only [List.length_cons] at hsz;have hd : i * sz + sz <= cells.size := by
   have : (i + 1) * sz <= (i + (q.length + 1)) * sz := Nat.mul_le_mul_right _ (by omega);rw [Nat.add_mul, Nat.one_mul] at this;omega
  obtain ⟨c1, e1, e2⟩ := fill_cons (fun i => some (i * sz, sz)) cells i (a.eval o) (q.map fun x => (x.1, a.eval x.2)) rfl hsz1 hd;have hc1 : c1.size = cells.size := by
   rw [<- Array.length_toList, e1, splice_length _ _ _ (by simp [hsz1]; exact hd), Array.length_toList]
  obtain ⟨rows, cells', seen', rd', f1, f2, f3, f4, f5, f6, f7, f8⟩ := ih (i := i + 1) (cells := c1) hs1 (by rw [hc1, show i + 1 + q.length = i + (q.length + 1) by omega]; exact hsz) h4;refine ⟨z :: rows, cells', seen', rd', by simp only [List.map_cons]; rw [e2]; exact f1, by rw [f2, hc1], by simp [f3], fun n row hn => ?_, fun n row j x hn hj => ?_, fun p hp => ?_, f7, f8⟩
  ·cases n with
   | zero => simp at hn; subst hn; rw [<- hlen, hz, List.length_map]
   | succ n => exact f4 n row (by simpa using hn)
  ·cases n with
   | zero =>
    simp at hn;subst hn;have hjl : j < sz := by rw [<- hlen, hz, List.length_map]; exact (qSq.1 hj).1
    rw [Nat.add_zero, f6 _ (by rw [Nat.add_mul, Nat.one_mul]; omega), e1, splice_get _ _ _ _ (by simp [hsz1]; exact hd)];rw [if_pos ⟨by omega, by rw [Array.length_toList, hsz1]; omega⟩, hcl];simp [hj]
   | succ n =>
    have := f5 n row j x (by simpa using hn) hj;rw [show i + (n + 1) = i + 1 + n by omega];exact this
  ·rw [f6 p (by rw [Nat.add_mul]; omega), e1, splice_get _ _ _ _ (by simp [hsz1]; exact hd), if_neg (by omega)]
theorem run_build (hT : TabOk P T) {t e : Nat} {ti ei : TI} (ht : lk T t = some ti) (hk : ti.kind = .slice e) (he : lk T e = some ei) {len : Nat} {parts : Array (Nat × Value)} (hle : len * ei.size <= 16777216) :
  ∃ z : Value, z.cells.size = ei.size /\ All2 ZOk ei.zero z.cells.toList /\ ∀ cells', Instr.fill (fun i => some (i * ei.size, ei.size)) (if len * ei.size = 0 then #[] else zeros z.cells (len * ei.size)) parts.toList = some cells' ->
   (Instr.buildSlice t len parts).run P w = .ok (.slice (some ⟨w.heap.size, 0, none⟩) len len) (w.alloc (.cells cells' e)) := by
 have tk := hT t ti ht
 have ek := hT e ei he
 obtain ⟨z, hz, h1, h2, _⟩ := ek.run_zero w
 refine ⟨z, h1, h2, fun cells' hf => ?_⟩
 have hu := tk.run_slice w hk
 have hsz := ek.run_size w
 simp only [Instr.buildSlice, Sem.run_bind, hu, Result.andThen_ok, hsz]
 rw [if_neg (by omega)]
 by_cases h0 : len * ei.size = 0
 ·rw [if_pos h0] at hf;rw [if_pos h0];have e0 : Array.range (len * ei.size) = #[] := by rw [h0]; rfl
  simp only [Sem.run_bind, Sem.run_pure, Result.andThen_ok, e0, Array.map_empty, hf];simp [newRow]
 ·rw [if_neg h0] at hf;rw [if_neg h0];simp only [Sem.run_bind, hz, Sem.run_pure, Result.andThen_ok];have : (Array.range (len * ei.size)).map (fun x => z.cells[x % z.cells.size]!) = zeros z.cells (len * ei.size) := rfl;rw [this, hf];simp [newRow]
theorem parts_list (parts : Array (Nat × Operand)) (a : Act) : (parts.map fun (x : Nat × Operand) => (x.1, a.eval x.2)).toList = parts.toList.map fun x => (x.1, a.eval x.2) := by simp
def wasF (s : S) (m : Nat) : Option Ent := match s.fe m with
 | some (.flat _ sz fl) => some (.was fl.length sz)
 | _ => none
theorem wasF_ok (s : S) (m : Nat) : wasF s m = none \/ ∃ L sz, wasF s m = some (.was L sz) /\ lenSz s m = some (L, sz) := by
 unfold wasF
 split
 ·rename_i h; exact .inr ⟨_, _, rfl, by simp [lenSz, h]⟩
 ·exact .inl rfl
theorem nestParts_inv (R : Rel Mn O0 w0 nt s g a w) {sz : Nat} (hsz0 : 0 < sz) {k : List Flat -> Ws -> Prog} : ∀ {parts : List (Nat × Operand)} {i : Nat} {cells : Array Value} {sn seen rd : List Nat}, Seen Mn seen -> i + parts.length <= cells.size ->
  runP s fresh (nestParts sz i parts sn k) seen rd = some r ->
  ∃ (rows : List Flat) (src : List (Option Nat)) (cells' : Array Value) (seen' rd' : List Nat), Instr.fill (fun i => some (i * 1, 1)) cells (parts.map fun x => (x.1, a.eval x.2)) = some cells' /\ cells'.size = cells.size /\ rows.length = parts.length /\ src.length = parts.length /\
   (∀ (q : Nat) (fl : Flat), rows[q]? = some fl -> (src[q]? = some none /\ fl = [] /\ cells'.toList[i + q]? = some (.slice none 0 0)) \/
    ∃ m, src[q]? = some (some m) /\ Mn m /\ m ∉ sn /\ s.fe m = some (.flat true sz fl) /\ cells'.toList[i + q]? = some (.slice (g.base m) fl.length (g.cap m))) /\
   (src.filterMap id).Nodup /\ (∀ m ∈ src.filterMap id, m ∉ sn /\ Mn m) /\ (∀ p, p < i -> cells'.toList[p]? = cells.toList[p]?) /\ Seen Mn seen' /\ runP s fresh (k rows ((src.filterMap id).map fun m => (m, wasF s m))) seen' rd' = some r := by
 intro parts
 induction parts generalizing k with
 | nil => intro i cells sn seen rd hs _ h; exact ⟨[], [], cells, seen, rd, rfl, rfl, rfl, rfl, fun q fl h => by simp at h, by simp, fun m hm => by simp at hm, fun _ _ => rfl, hs, h⟩
 | cons p q ih =>
  obtain ⟨j, o⟩ := p;intro i cells sn seen rd hs hsz h;simp only [nestParts] at h;obtain ⟨hij, h1⟩ := bif_inv h;have hij := qBq hij;subst hij;obtain ⟨v, seen1, rd1, hv, hvn, hs1, h2⟩ := opnd_inv R h1 hs;simp only [List.length_cons] at hsz
  -- one part, whatever it is
  have one : ∀ {hd : Value} {fl : Flat} {sr : Option Nat} {sn' : List Nat} {seen2 rd2 : List Nat}, a.eval o = hd -> hd.oneCell' = true -> Seen Mn seen2 ->
    runP s fresh (nestParts sz (i + 1) q sn' (fun rows ws => k (fl :: rows) ((sr.toList.map fun m => (m, wasF s m)) ++ ws))) seen2 rd2 = some r -> (∀ x ∈ sn, x ∈ sn') -> (∀ m, sr = some m -> m ∈ sn' /\ m ∉ sn /\ Mn m) ->
    ((sr = none /\ fl = [] /\ hd = .slice none 0 0) \/ ∃ m, sr = some m /\ Mn m /\ m ∉ sn /\ s.fe m = some (.flat true sz fl) /\ hd = .slice (g.base m) fl.length (g.cap m)) ->
    ∃ (rows : List Flat) (src : List (Option Nat)) (cells' : Array Value) (seen' rd' : List Nat), Instr.fill (fun i => some (i * 1, 1)) cells (((i, o) :: q).map fun x => (x.1, a.eval x.2)) = some cells' /\ cells'.size = cells.size /\ rows.length = q.length + 1 /\ src.length = q.length + 1 /\
     (∀ (q : Nat) (fl : Flat), rows[q]? = some fl -> (src[q]? = some none /\ fl = [] /\ cells'.toList[i + q]? = some (.slice none 0 0)) \/
      ∃ m, src[q]? = some (some m) /\ Mn m /\ m ∉ sn /\ s.fe m = some (.flat true sz fl) /\ cells'.toList[i + q]? = some (.slice (g.base m) fl.length (g.cap m))) /\
     (src.filterMap id).Nodup /\ (∀ m ∈ src.filterMap id, m ∉ sn /\ Mn m) /\ (∀ p, p < i -> cells'.toList[p]? = cells.toList[p]?) /\ Seen Mn seen' /\ runP s fresh (k rows ((src.filterMap id).map fun m => (m, wasF s m))) seen' rd' = some r := by
   intro hd fl sr sn' seen2 rd2 hev h1c hs2 hr hsn hsr hcase;have hsz1 : hd.cells.size = 1 := by rw [cells_one h1c]; rfl
   obtain ⟨c1, e1, e2⟩ := fill_cons (fun i => some (i * 1, 1)) cells i hd (q.map fun x => (x.1, a.eval x.2)) rfl hsz1 (by omega);rw [cells_one h1c] at e1;have hb : i * 1 + [hd].length <= cells.toList.length := by simp; omega
   have hc1 : c1.size = cells.size := by rw [<- Array.length_toList, e1, splice_length _ _ _ hb, Array.length_toList]
   obtain ⟨rows, src, cells', seen', rd', f1, f2, f3, f3', f4, f5, f6, f7, f8, f9⟩ := ih (i := i + 1) (cells := c1) hs2 (by rw [hc1]; omega) hr;have h0 : cells'.toList[i]? = some hd := by
    rw [f7 i (by omega), e1, splice_get _ _ _ _ hb, if_pos (by simp)];simp
   refine ⟨fl :: rows, sr :: src, cells', seen', rd', ?_, by rw [f2, hc1], by simp [f3], by simp [f3'], fun n fl' hn => ?_, ?_, fun m hm => ?_, fun p hp => ?_, f8, ?_⟩
   ·simp only [List.map_cons, hev]; rw [e2]; exact f1
   ·cases n with
    | zero =>
     simp at hn;subst hn;rcases hcase with ⟨rfl, rfl, rfl⟩ | ⟨m, rfl, k1, k2, k3, rfl⟩
     ·exact .inl ⟨rfl, rfl, h0⟩
     ·exact .inr ⟨m, rfl, k1, k2, k3, h0⟩
    | succ n =>
     rw [show i + (n + 1) = i + 1 + n by omega];rcases f4 n fl' (by simpa using hn) with h | ⟨m, k1, k2, k3, k4, k5⟩
     ·exact .inl (by simpa using h)
     ·exact .inr ⟨m, by simpa using k1, k2, fun hx => k3 (hsn m hx), k4, k5⟩
   ·cases sr with
    | none => simpa using f5
    | some m =>
     simp only [List.filterMap_cons, id, List.nodup_cons];exact ⟨fun hm => (f6 m hm).1 (hsr m rfl).1, f5⟩
   ·cases sr with
    | none =>
     have := f6 m (by simpa using hm);exact ⟨fun hx => this.1 (hsn m hx), this.2⟩
    | some m' =>
     simp only [List.filterMap_cons, id, List.mem_cons] at hm;rcases hm with rfl | hm
     ·exact ⟨(hsr m rfl).2.1, (hsr m rfl).2.2⟩
     ·have := f6 m hm; exact ⟨fun hx => this.1 (hsn m hx), this.2⟩
   ·rw [f7 p (by omega), e1, splice_get _ _ _ _ hb, if_neg (by simp; omega)]
   ·cases sr with
    | none => simpa using f9
    | some m => simpa using f9
  cases v with
  | nils =>
   exact one (sr := none) (fl := []) hv rfl hs1 h2 (fun _ h => h) (fun m h => by simp at h) (.inl ⟨rfl, rfl, rfl⟩)
  | sl m row sub =>
   cases row with
   | some rv => exact (qfq h2).elim
   | none =>
    cases sub with
    | some p => exact (qfq h2).elim
    | none =>
     simp only at h2
     cases hsn : sn.elem m with
     | true => rw [hsn] at h2; exact (qfq h2).elim
     | false =>
      rw [hsn] at h2;simp only [cond_false] at h2;obtain ⟨e, seen2, rd2, he, hok, hmn, _, hs2, h3⟩ := ent_inv R h2 hs1;obtain ⟨sz', fl, rfl⟩ : ∃ sz' fl, e = .flat true sz' fl := by
       cases e with
       | flat own sz' fl => cases own with
        | true => exact ⟨sz', fl, rfl⟩
        | false => exact (qfq h3).elim
       | _ => exact (qfq h3).elim
      simp only at h3;obtain ⟨hss, h4⟩ := bif_inv h3;have hss := qBq hss;subst hss
      have hni : m ∉ sn := by intro hx; have : sn.elem m = true := by simpa using hx
                              rw [hsn] at this; simp at this
      obtain ⟨A, len, cap, hev, hsub⟩ := hv;obtain ⟨rfl, rfl, rfl⟩ := hsub fl.length sz (by simp [lenSz, he]);have hw : wasF s m = some (.was fl.length sz) := by simp [wasF, he]
      rw [<- hw] at h4;exact one (sr := some m) (fl := fl) hev rfl hs2 h4 (fun x hx => List.mem_cons_of_mem _ hx) (fun m' h => by injection h with h; subst h; exact ⟨by simp, hni, hmn⟩) (.inr ⟨m, rfl, hmn, hni, he, rfl⟩)
  | _ => exact (qfq h2).elim
theorem src_inj : ∀ {src : List (Option Nat)} {i j m : Nat}, (src.filterMap id).Nodup -> src[i]? = some (some m) -> src[j]? = some (some m) -> i = j := by
 intro src
 induction src with
 | nil => intro i j m _ h; simp at h
 | cons x q ih =>
  intro i j m hn hi hj;have mem : ∀ {k : Nat}, q[k]? = some (some m) -> m ∈ q.filterMap id := fun h => List.mem_filterMap.2 ⟨some m, qMq h, rfl⟩
  cases x with
  | none =>
   cases i with
   | zero => simp at hi
   | succ i => cases j with
    | zero => simp at hj
    | succ j => exact congrArg (· + 1) (ih (m := m) (by simpa using hn) (by simpa using hi) (by simpa using hj))
  | some y =>
   simp only [List.filterMap_cons, id, List.nodup_cons] at hn
   cases i with
   | zero => cases j with
    | zero => rfl
    | succ j => simp at hi; subst hi; exact absurd (mem (by simpa using hj)) hn.1
   | succ i => cases j with
    | zero => simp at hj; subst hj; exact absurd (mem (by simpa using hi)) hn.1
    | succ j => exact congrArg (· + 1) (ih (m := m) hn.2 (by simpa using hi) (by simpa using hj))
open Classical in
noncomputable def toRow (m : Nat) (src : List (Option Nat)) (off : Nat) (k : Key) : Key :=
 match k with
 | (n, none) => if h : ∃ q : Nat, src[q]? = some (some n) then (m, some (off + Classical.choose h)) else (n, none)
 | (n, some r) => (n, some r)
theorem toRow_at {m : Nat} {src : List (Option Nat)} {off q n : Nat} (hn : (src.filterMap id).Nodup) (h : src[q]? = some (some n)) : toRow m src off (n, none) = (m, some (off + q)) := by
 have he : ∃ q : Nat, src[q]? = some (some n) := ⟨q, h⟩
 simp only [toRow, dif_pos he]
 rw [src_inj hn (Classical.choose_spec he) h]
theorem toRow_not {m : Nat} {src : List (Option Nat)} {off n : Nat} {r : Option Nat} (h : n ∉ src.filterMap id) : toRow m src off (n, r) = (n, r) := by
 cases r with
 | some r => rfl
 | none =>
  simp only [toRow];rw [dif_neg];rintro ⟨q, hq⟩;exact h (List.mem_filterMap.2 ⟨some n, qMq hq, rfl⟩)
theorem toRow_fst {m : Nat} {src : List (Option Nat)} {off n : Nat} {r : Option Nat} : (toRow m src off (n, r)).1 = m \/ (toRow m src off (n, r)).1 = n := by
 cases r with
 | some r => exact .inr rfl
 | none => simp only [toRow]; split; · exact .inl rfl
           ·exact .inr rfl
theorem cut_get {sub : Option (Nat × Nat)} {rows : Flat} {i : Nat} {row : Row} (h : (cut sub rows)[i]? = some row) : rows[loOf sub + i]? = some row := by
 cases sub with
 | none => simpa [cut, loOf] using h
 | some p =>
  simp only [cut, List.getElem?_take, List.getElem?_drop] at h;split at h
  ·exact h
  ·simp at h
theorem FlatOk.sub {own : Nat -> Option Key} {key : Option Key} {base : Option Addr} {cap0 sz : Nat} {rows : Flat} (h : FlatOk w own key base cap0 sz rows) {sub : Option (Nat × Nat)} {A : Option Addr} {len cap : Nat} (hs : SubOk base cap0 rows.length sz sub A len cap) :
  FlatOk w own key A cap sz (cut sub rows) /\ len = (cut sub rows).length := by
 cases sub with
 | none => obtain ⟨rfl, rfl, rfl⟩ := hs; exact ⟨h, rfl⟩
 | some p =>
  obtain ⟨lo, l⟩ := p;obtain ⟨rfl, h1, h2, h3, h4⟩ := hs;have hlen : (cut (some (lo, len)) rows).length = len := by simp [cut]; omega
  refine ⟨⟨by rw [hlen]; exact h2, h.pos, fun i row hi => h.even _ row (cut_get hi), fun i row j x hi hj => ?_, fun hk => ?_⟩, hlen.symm⟩
  ·obtain ⟨ad, hA, ho, hc⟩ := h.cell _ row j x (cut_get hi) hj;have hil : i < len := by rw [<- hlen]; exact (qSq.1 hi).1
   rcases h4 with h4 | h4
   ·omega
   ·subst hA;refine ⟨_, h4, by rw [Addr.add_block]; exact ho, ?_⟩;rw [Addr.add_add];simp only [loOf] at hc;rw [show lo * sz + (i * sz + j) = (lo + i) * sz + j by rw [Nat.add_mul]; omega];exact hc
  ·rcases h4 with h4 | h4
   ·left
    refine ⟨h4, ?_⟩;have : (cut (some (lo, len)) rows).length = 0 := by omega
    exact List.length_eq_zero_iff.1 this
   ·rcases h.room hk with ⟨h5, h6⟩ | ⟨b, off, arr, ty, rfl, h6, h7, h8⟩
    ·left
     subst h6;exact ⟨by omega, by simp [cut]⟩
    ·right
     refine ⟨b, off + lo * sz, arr, ty, by rw [h4]; simp [Addr.add_plain], h6, h7, ?_⟩;have : (lo + cap) * sz <= cap0 * sz := Nat.mul_le_mul_right _ h3;rw [Nat.add_mul] at this;omega
theorem two_core (R : Rel Mn O0 w0 nt s g a w) (hf : ∀ m, InR fresh m -> ¬ Mn m) {sz : Nat} (hpos : 0 < sz) {A0 A1 : Option Addr} {c0 c1 : Nat} {r0 r1 : Flat} (h0 : FlatOk w g.own none A0 c0 sz r0) (h1 : FlatOk w g.own none A1 c1 sz r1) {m : Sem Value} {e : Nat} {cells : Array Value} (hcs : cells.size = 2)
  (hrun : ∀ cells', Instr.fill (fun i => some (i * 1, 1)) cells [(0, .slice A0 r0.length c0), (1, .slice A1 r1.length c1)] = some cells' -> m.run P w = .ok (.slice (some ⟨w.heap.size, 0, none⟩) 2 2) (w.alloc (.cells cells' e))) :
  ∃ u w' g', m.run P w = .ok u w' /\ Did Mn s g w (InR fresh) (.sl fresh none none) [(fresh, some (.fnest true sz [r0, r1]))] u w' g' := by
 have hin : InR fresh fresh := ⟨Nat.le_refl _, by omega⟩
 have hl0 : cells.toList.length = 2 := by rw [Array.length_toList, hcs]
 obtain ⟨d0, e0, e0'⟩ := fill_cons (fun i => some (i * 1, 1)) cells 0 (.slice A0 r0.length c0) [(1, .slice A1 r1.length c1)] rfl (by rw [cells_one rfl]; rfl) (by omega)
 rw [cells_one (show (Value.slice A0 r0.length c0).oneCell' = true from rfl)] at e0
 have hd0 : d0.toList.length = 2 := by rw [e0, splice_length _ _ _ (by rw [hl0]; simp), hl0]
 obtain ⟨d1, e1, e1'⟩ := fill_cons (fun i => some (i * 1, 1)) d0 1 (.slice A1 r1.length c1) [] rfl (by rw [cells_one rfl]; rfl) (by rw [<- Array.length_toList]; omega)
 rw [cells_one (show (Value.slice A1 r1.length c1).oneCell' = true from rfl)] at e1
 have hd1 : d1.toList.length = 2 := by rw [e1, splice_length _ _ _ (by rw [hd0]; simp), hd0]
 have hr := hrun d1 (by rw [e0', e1']; rfl)
 have g0 : d1.toList[0]? = some (.slice A0 r0.length c0) := by
  rw [e1, splice_get _ _ _ _ (by rw [hd0]; simp), if_neg (by simp), e0, splice_get _ _ _ _ (by rw [hl0]; simp), if_pos (by simp)]; simp
 have g1 : d1.toList[1]? = some (.slice A1 r1.length c1) := by
  rw [e1, splice_get _ _ _ _ (by rw [hd0]; simp), if_pos (by simp)]; simp
 have hsz : d1.size = 2 := by rw [<- Array.length_toList, hd1]
 refine ⟨_, _, _, hr, did_alloc R hin (hf _ hin) 2 (fun i => if i = 0 then A0 else A1) (fun i => if i = 0 then c0 else c1) id [] (fun n hn => by simp at hn) (fun _ _ _ => rfl) (fun n r hn => by simp at hn) w ⟨rfl, .rfl, rfl, rfl⟩
  (fun g' hg' hl hheap hat => ?_) (fun g' hg' => VR3.one (v := .sl fresh none none) ⟨_, _, _, rfl, fun L sz hL => ?_⟩)⟩
 ·have hbase : g'.base fresh = some ⟨w.heap.size, 0, none⟩ := by rw [hg']; simp [G.new]
  have hcap : g'.cap fresh = 2 := by rw [hg']; simp [G.new]
  have hown : g'.own w.heap.size = some (fresh, none) := by rw [hg']; simp [G.new, ownNew]
  have hrb : g'.rbase fresh = fun i => if i = 0 then A0 else A1 := by rw [hg']; simp [G.new]
  have hrc : g'.rcap fresh = fun i => if i = 0 then c0 else c1 := by rw [hg']; simp [G.new]
  have keep : ∀ b, b < w.heap.size -> g.own b = none -> g'.own b = none /\ (w.alloc (.cells d1 e)).heap[b]? = w.heap[b]? := fun b hb ho => by
   refine ⟨?_, hheap b hb⟩;rw [hg'];simp only [G.new, ownNew];rw [if_neg (by omega), ho]; rfl
  show NestOk _ g'.own (some (fresh, none)) (fun _ => none) (g'.base fresh) (g'.cap fresh) (g'.rbase fresh) (g'.rcap fresh) sz [r0, r1] []
  rw [hbase, hcap, hrb, hrc];refine ⟨by simp, hpos, fun i fl' hi => ?_, fun i fl' hi _ => ?_, fun _ => .inr ⟨_, 0, _, _, rfl, hown, hat, by rw [hsz]; omega⟩⟩
  ·match i, hi with
   | 0, hi => simp at hi; subst hi; exact ⟨_, _, rfl, hown, by rw [Addr.add_plain, cells_at hat, <- Array.getElem?_toList]; exact g0, fun _ => rfl⟩
   | 1, hi => simp at hi; subst hi; exact ⟨_, _, rfl, hown, by rw [Addr.add_plain, cells_at hat, <- Array.getElem?_toList]; exact g1, fun _ => rfl⟩
   | _ + 2, hi => simp at hi
  ·match i, hi with
   | 0, hi => simp at hi; subst hi; exact h0.mono id keep
   | 1, hi => simp at hi; subst hi; exact h1.mono id keep
   | _ + 2, hi => simp at hi
 ·have hbase : g'.base fresh = some ⟨w.heap.size, 0, none⟩ := by rw [hg']; simp [G.new]
  have hcap : g'.cap fresh = 2 := by rw [hg']; simp [G.new]
  simp [lenSz, S.putW, S.setE] at hL;rw [hbase, hcap, <- hL.1];exact SubOk.whole
theorem buildSlice_sim (hT : TabOk P T) (R : Rel Mn O0 w0 nt s g a w) (hs : Seen Mn seen) (hf : ∀ m, InR fresh m -> ¬ Mn m) {t len : Nat} {parts : Array (Nat × Operand)}
  (h : runP s fresh (buildSliceP T fresh t len parts.toList) seen rd = some r) : Out P Mn s g w fresh (Instr.buildSlice t len (parts.map fun (i, x) => (i, a.eval x))) r := by
 have hin : InR fresh fresh := ⟨Nat.le_refl _, by omega⟩
 unfold buildSliceP at h
 cases ht : lk T t with
 | none => rw [ht] at h; exact (qfq h).elim
 | some ti =>
  rw [ht] at h;simp only at h
  cases hk : ti.kind with
  | slice e =>
   rw [hk] at h;simp only at h
   cases he : lk T e with
   | none => rw [he] at h; exact (qfq h).elim
   | some ei =>
    rw [he] at h;simp only at h;obtain ⟨hb, h1⟩ := bif_inv h
    clear h
    simp only [Bool.and_eq_true] at hb;have hpl := qBq hb.1;have hle := Nat.le_of_ble_eq_true hb.2;obtain ⟨z, hz1, hz2, hrun⟩ := run_build (w := w) (parts := parts.map fun (x : Nat × Operand) => (x.1, a.eval x.2)) hT ht hk he hle;have hcs : (if len * ei.size = 0 then #[] else zeros z.cells (len * ei.size)).size = len * ei.size := by
     split
     ·rename_i h0; simp [h0]
     ·rw [zeros_size]
    have ek := hT e ei he;have flat : runP s fresh (flatParts ei.size 0 parts.toList fun rows => .ret (.sl fresh none none) [(fresh, some (.flat true ei.size rows))]) seen rd = some r -> Out P Mn s g w fresh (Instr.buildSlice t len (parts.map fun (x : Nat × Operand) => (x.1, a.eval x.2))) r := by
     intro h;obtain ⟨rows, cells', seen', rd', f1, f2, f3, f4, f5, f6, f7, f8⟩ := flatParts_inv R (cells := if len * ei.size = 0 then #[] else zeros z.cells (len * ei.size)) hs (by rw [hcs, hpl]; simp) h;have hr := hrun cells' (by rw [parts_list]; exact f1);obtain ⟨rfl, hn⟩ := ret_inv f8 f7;refine ⟨_, _, _, hr, did_alloc R hin (hf _ hin) len (fun _ => none) (fun _ => 0) id [] (fun n hn => by simp at hn) (fun _ _ _ => rfl) (fun n r hn => by simp at hn) w ⟨rfl, .rfl, rfl, rfl⟩
      (fun g' hg' hl _ hat => ?_) (fun g' hg' => VR3.one (v := .sl fresh none none) ⟨_, _, _, rfl, fun L sz hL => ?_⟩), hn⟩
     ·have hbase : g'.base fresh = some ⟨w.heap.size, 0, none⟩ := by rw [hg']; simp [G.new]
      have hcap : g'.cap fresh = len := by rw [hg']; simp [G.new]
      have hown : g'.own w.heap.size = some (fresh, none) := by rw [hg']; simp [G.new, ownNew]
      show FlatOk _ g'.own (some (fresh, none)) (g'.base fresh) (g'.cap fresh) ei.size rows
      rw [hbase, hcap];refine flat_new _ hown hat (by rw [f3, hpl]; omega) ek.pos.2.2 f4 (fun i row j x hi hj => ?_) (by rw [f2, hcs]; omega) (by have := Nat.le_mul_of_pos_right len ek.pos.2.2; omega);have := f5 i row j x hi hj;rw [Nat.zero_add] at this;rw [<- Array.getElem?_toList]; exact this
     ·have hbase : g'.base fresh = some ⟨w.heap.size, 0, none⟩ := by rw [hg']; simp [G.new]
      have hcap : g'.cap fresh = len := by rw [hg']; simp [G.new]
      simp [lenSz, S.putW, S.setE] at hL;rw [hbase, hcap, <- hL.1, f3, hpl];exact SubOk.whole
    cases hek : ei.kind with
    | slice e2 =>
     rw [hek] at h1;simp only at h1;obtain ⟨hb2, h2⟩ := bif_inv h1
     clear h1
     simp only [Bool.and_eq_true, Nat.blt_eq] at hb2;have hs1 := qBq hb2.1;have hpos := hb2.2;rw [hs1] at hrun hcs hle;have nest : ∀ {seen rd : List Nat}, Seen Mn seen -> runP s fresh (nestParts (sizeT T e2) 0 parts.toList [] fun rows ws => .ret (.sl fresh none none) ((fresh, some (.nest true (sizeT T e2) rows [] [])) :: ws)) seen rd = some r -> Out P Mn s g w fresh (Instr.buildSlice t len (parts.map fun (x : Nat × Operand) => (x.1, a.eval x.2))) r := by
      intro seen rd hs h2;obtain ⟨rows, src, cells', seen', rd', f1, f2, f3, f3', f4, f5, f6, f7, f8, f9⟩ := nestParts_inv R hpos (cells := if len * 1 = 0 then #[] else zeros z.cells (len * 1)) hs (by rw [hcs, hpl]; omega) h2;have hr := hrun cells' (by rw [parts_list]; exact f1);obtain ⟨rfl, hn⟩ := ret_inv f9 f8
      let rb : Nat -> Option Addr := fun i => match src[i]? with | some (some m) => g.base m | _ => none
      let rc : Nat -> Nat := fun i => match src[i]? with | some (some m) => g.cap m | _ => 0
      refine ⟨_, _, _, hr, did_allocG R hin (hf _ hin) len rb rc (toRow fresh src 0) (src.filterMap id) (fun n hn => (f6 n hn).2) (wasF s) (fun n _ => wasF_ok s n) (fun n r hn => toRow_not hn) (fun n r hn => ?_) w ⟨rfl, .rfl, rfl, rfl⟩
       (fun g' hg' hl hheap hat => ?_) (fun g' hg' => VR3.one (v := .sl fresh none none) ⟨_, _, _, rfl, fun L sz hL => ?_⟩), hn⟩
      ·rcases toRow_fst (m := fresh) (src := src) (off := 0) (n := n) (r := r) with h | h
       ·exact .inl h
       ·right; rw [h]; exact hn
      ·have hbase : g'.base fresh = some ⟨w.heap.size, 0, none⟩ := by rw [hg']; simp [G.new]
       have hcap : g'.cap fresh = len := by rw [hg']; simp [G.new]
       have hown : g'.own w.heap.size = some (fresh, none) := by rw [hg']; simp [G.new, ownNew]
       show NestOk _ g'.own (some (fresh, none)) (fun i => some (fresh, some i)) (g'.base fresh) (g'.cap fresh) (g'.rbase fresh) (g'.rcap fresh) (sizeT T e2) rows []
       rw [hbase, hcap];have hrb : g'.rbase fresh = rb := by rw [hg']; simp [G.new]
       have hrc : g'.rcap fresh = rc := by rw [hg']; simp [G.new]
       rw [hrb, hrc];refine ⟨by rw [f3, hpl]; omega, hpos, fun i fl hi => ?_, fun i fl hi _ => ?_, fun _ => .inr ⟨_, 0, _, _, rfl, hown, hat, by rw [f2, hcs]; omega⟩⟩
       ·have hcell : ∀ v, cells'.toList[0 + i]? = some v -> (w.alloc (.cells cells' e)).cell? ((⟨w.heap.size, 0, none⟩ : Addr).add i) = some v := fun v hv => by
         rw [Addr.add_plain, cells_at hat, <- Array.getElem?_toList]; exact hv
        rcases f4 i fl hi with ⟨k1, rfl, k2⟩ | ⟨m, k1, _, _, _, k2⟩
        ·exact ⟨_, _, rfl, hown, hcell _ k2, fun _ => by simp [rb, rc, k1]⟩
        ·exact ⟨_, _, rfl, hown, hcell _ k2, fun _ => by simp [rb, rc, k1]⟩
       ·rcases f4 i fl hi with ⟨k1, rfl, k2⟩ | ⟨m, k1, k3, _, k4, k2⟩
        ·have e1 : rb i = none := by simp [rb, k1]
         have e2' : rc i = 0 := by simp [rc, k1]
         rw [e1, e2'];exact ⟨by simp, hpos, fun i row h => by simp at h, fun i row j x h => by simp at h, fun _ => .inl ⟨rfl, rfl⟩⟩
        ·have e1 : rb i = g.base m := by simp [rb, k1]
         have e2' : rc i = g.cap m := by simp [rc, k1]
         rw [e1, e2'];have hF : FlatOk w g.own (some (m, none)) (g.base m) (g.cap m) (sizeT T e2) fl := R.ents m _ k4;refine hF.mono (fun _ => rfl) (fun b hb ho => ⟨?_, hheap b hb⟩);rw [hg'];simp only [G.new, ownNew];rw [if_neg (by omega), ho];simp only [Option.map_some];rw [toRow_at f5 k1, Nat.zero_add]
      ·have hbase : g'.base fresh = some ⟨w.heap.size, 0, none⟩ := by rw [hg']; simp [G.new]
       have hcap : g'.cap fresh = len := by rw [hg']; simp [G.new]
       simp [lenSz, S.putW, S.setE] at hL;rw [hbase, hcap, <- hL.1, f3, hpl];exact SubOk.whole
     unfold frzPart at h2;split at h2
     ·rename_i o o' hp;obtain ⟨v, seen1, rd1, hv, hvn, hs2, h3⟩ := opnd_inv R h2 hs;split at h3
      ·rename_i m sub;obtain ⟨e, seen2, rd2, hem, hok, hmn, _, hs3, h4⟩ := ent_inv R h3 hs2;split at h4
       ·rename_i sz1 fl _;obtain ⟨hss, h5⟩ := bif_inv h4;have hss := qBq hss;subst hss;obtain ⟨v', seen3, rd3, hv', hvn', hs4, h6⟩ := opnd_inv R h5 hs3;split at h6
        ·rename_i m' sub';obtain ⟨e', seen4, rd4, hem', hok', hmn', _, hs5, h7⟩ := ent_inv R h6 hs4;split at h7
         ·rename_i own sz2 fl' _;obtain ⟨hss, h8⟩ := bif_inv h7;have hss := qBq hss;subst hss;obtain ⟨A0, len0, c0, hev, hsub⟩ := hv;obtain ⟨A1, len1, c1, hev', hsub'⟩ := hv';have hsub := hsub fl.length (sizeT T e2) (by simp [lenSz, hem]);have hsub' := hsub' fl'.length (sizeT T e2) (by simp [lenSz, hem']);have hF : FlatOk w g.own none (g.base m) (g.cap m) (sizeT T e2) fl := R.ents m _ hem;obtain ⟨q0, k0⟩ := hF.sub hsub;have hlen : len = 2 := by rw [<- hpl, hp]; rfl
          subst hlen;have hk1 : len1 = (cut sub' fl').length := (FlatOk.sub (R.ents m' _ hem') hsub').2;have hcs2 : (if 2 * 1 = 0 then #[] else zeros z.cells (2 * 1)).size = 2 := hcs;have hrun2 : ∀ cells', Instr.fill (fun i => some (i * 1, 1)) (if 2 * 1 = 0 then #[] else zeros z.cells (2 * 1)) [(0, .slice A0 (cut sub fl).length c0), (1, .slice A1 (cut sub' fl').length c1)] = some cells' -> (Instr.buildSlice t 2 (parts.map fun (x : Nat × Operand) => (x.1, a.eval x.2))).run P w = .ok (.slice (some ⟨w.heap.size, 0, none⟩) 2 2) (w.alloc (.cells cells' e)) := fun cells' hc => by
           refine hrun cells' ?_;rw [parts_list, hp];simp only [List.map_cons, List.map_nil, hev, hev', k0, hk1];exact hc
          cases own with
          | false =>
           have hF' : FlatOk w g.own none (g.base m') (g.cap m') (sizeT T e2) fl' := R.ents m' _ hem';obtain ⟨rfl, hn⟩ := ret_inv h8 hs5;obtain ⟨u, w', g', k1, k2⟩ := two_core R hf hpos q0 (hF'.sub hsub').1 hcs2 hrun2;exact ⟨u, w', g', k1, k2, hn⟩
          | true =>
           obtain ⟨g1, R1, hl1, ho1⟩ := freeze R hem';have hne : m ≠ m' := fun h => by subst h; rw [hem] at hem'; simp at hem'
           have hF1 : FlatOk w g1.own none (g.base m) (g.cap m) (sizeT T e2) fl := by
            have := R1.ents m (.flat false (sizeT T e2) fl) (by simp [S.putW, S.setE, hne, hem]);unfold EntOk at this
            rwa [(hl1 m).base, (hl1 m).cap] at this
           have hF2 : FlatOk w g1.own none (g.base m') (g.cap m') (sizeT T e2) fl' := by
            have := R1.ents m' (.flat false (sizeT T e2) fl') (by simp [S.putW, S.setE]);unfold EntOk at this
            rwa [(hl1 m').base, (hl1 m').cap] at this
           obtain ⟨rfl, hn⟩ := ret_inv h8 hs5;obtain ⟨u, w', g', k1, k2⟩ := two_core R1 hf hpos (hF1.sub hsub).1 (hF2.sub hsub').1 hcs2 hrun2;exact ⟨u, w', g', k1, k2.behind hl1 ho1, hn⟩
         ·exact (qfq h7).elim
        ·exact (qfq h6).elim
       ·exact nest hs3 h4
      ·exact nest hs2 h3
     ·rename_i o hp;obtain ⟨v, seen1, rd1, hv, hvn, hs2, h3⟩ := opnd_inv R h2 hs;split at h3
      ·rename_i m;obtain ⟨e, seen2, rd2, hem, hok, hmn, _, hs3, h4⟩ := ent_inv R h3 hs2;split at h4
       ·rename_i sz' fl _;obtain ⟨hss, h5⟩ := bif_inv h4;have hss := qBq hss;subst hss;obtain ⟨A, len1, cap, hev, hsub⟩ := hv;obtain ⟨rfl, rfl, rfl⟩ := hsub fl.length (sizeT T e2) (by simp [lenSz, hem]);have hlen : len = 1 := by rw [<- hpl, hp]; rfl
        subst hlen;have hd1 : (Value.slice (g.base m) fl.length (g.cap m)).cells.size = 1 := by rw [cells_one rfl]; rfl
        obtain ⟨c1, e1, e2'⟩ := fill_cons (fun i => some (i * 1, 1)) (if 1 * 1 = 0 then #[] else zeros z.cells (1 * 1)) 0 (.slice (g.base m) fl.length (g.cap m)) [] rfl hd1 (by rw [hcs]; decide);rw [cells_one (show (Value.slice (g.base m) fl.length (g.cap m)).oneCell' = true from rfl)] at e1;have hb : 0 * 1 + [Value.slice (g.base m) fl.length (g.cap m)].length <= (if 1 * 1 = 0 then #[] else zeros z.cells (1 * 1)).toList.length := by have h9 := hcs; rw [<- Array.length_toList] at h9; rw [h9]; simp
        have hc1 : c1.size = 1 := by rw [<- Array.length_toList, e1, splice_length _ _ _ hb, Array.length_toList, hcs]
        have hr := hrun c1 (by rw [parts_list, hp]; simp only [List.map_cons, List.map_nil, hev]; exact e2');have h0 : c1.toList[0]? = some (.slice (g.base m) fl.length (g.cap m)) := by
         rw [e1, splice_get _ _ _ _ hb, if_pos (by simp)]; simp
        obtain ⟨rfl, hn⟩ := ret_inv h5 hs3;refine ⟨_, _, _, hr, did_alloc R hin (hf _ hin) 1 (fun _ => g.base m) (fun _ => g.cap m) id [] (fun n hn => by simp at hn) (fun _ _ _ => rfl) (fun n r hn => by simp at hn) w ⟨rfl, .rfl, rfl, rfl⟩
         (fun g' hg' hl hheap hat => ?_) (fun g' hg' => VR3.one (v := .sl fresh none none) ⟨_, _, _, rfl, fun L sz hL => ?_⟩), hn⟩
        ·have hbase : g'.base fresh = some ⟨w.heap.size, 0, none⟩ := by rw [hg']; simp [G.new]
         have hcap : g'.cap fresh = 1 := by rw [hg']; simp [G.new]
         have hown : g'.own w.heap.size = some (fresh, none) := by rw [hg']; simp [G.new, ownNew]
         have hrb : g'.rbase fresh = fun _ => g.base m := by rw [hg']; simp [G.new]
         have hrc : g'.rcap fresh = fun _ => g.cap m := by rw [hg']; simp [G.new]
         show NestOk _ g'.own (some (fresh, none)) (fun _ => none) (g'.base fresh) (g'.cap fresh) (g'.rbase fresh) (g'.rcap fresh) (sizeT T e2) [fl] []
         rw [hbase, hcap, hrb, hrc];refine ⟨by simp, hpos, fun i fl' hi => ?_, fun i fl' hi _ => ?_, fun _ => .inr ⟨_, 0, _, _, rfl, hown, hat, by rw [hc1]; omega⟩⟩
         ·obtain ⟨rfl, rfl⟩ : i = 0 /\ fl = fl' := by
           cases i with
           | zero => exact ⟨rfl, by simpa using hi⟩
           | succ i => simp at hi
          exact ⟨_, _, rfl, hown, by rw [Addr.add_plain, cells_at hat, <- Array.getElem?_toList]; exact h0, fun _ => rfl⟩
         ·obtain ⟨rfl, rfl⟩ : i = 0 /\ fl = fl' := by
           cases i with
           | zero => exact ⟨rfl, by simpa using hi⟩
           | succ i => simp at hi
          have hF : FlatOk w g.own none (g.base m) (g.cap m) (sizeT T e2) fl := R.ents m _ hem;refine hF.mono id (fun b hb ho => ⟨?_, hheap b hb⟩);rw [hg'];simp only [G.new, ownNew];rw [if_neg (by omega), ho]; rfl
        ·have hbase : g'.base fresh = some ⟨w.heap.size, 0, none⟩ := by rw [hg']; simp [G.new]
         have hcap : g'.cap fresh = 1 := by rw [hg']; simp [G.new]
         simp [lenSz, S.putW, S.setE] at hL;rw [hbase, hcap, <- hL.1];exact SubOk.whole
       ·exact nest hs3 h4
      ·exact nest hs2 h3
     ·exact nest hs h2
    | _ => rw [hek] at h1; exact flat h1
  | _ => rw [hk] at h; exact (qfq h).elim
end
end Go.Sh
namespace Go.Sh
variable [Fwd]
section
variable {P : Program} {T : Tab} {Mn O0 : Nat -> Prop} {w0 : Base} {w : World} {nt : Nat} {s : S} {g : G} {a : Act} {fresh : Nat} {seen rd : List Nat} {r : List Nat × SV × Ws}
theorem did_set (R : Rel Mn O0 w0 nt s g a w) {n : Nat} (hn : Mn n) {e' : Ent} (rb : Nat -> Option Addr) (rc : Nat -> Nat) (f : Key -> Key) (gone : List Nat) (hg : ∀ m ∈ gone, Mn m /\ m ≠ n)
  (hf : ∀ m r, m ∉ gone -> f (m, r) = (m, r)) (hf' : ∀ m r, m ∈ gone -> (f (m, r)).1 = n \/ (f (m, r)).1 ∈ gone) (w' : World)
  (h1 : w'.os = w.os /\ Tp w w' /\ w'.output = w.output /\ w'.heap.size = w.heap.size)
  (hheap : ∀ b, b < w.heap.size -> (∀ m r, g.own b = some (m, r) -> m ≠ n) -> w'.heap[b]? = w.heap[b]?)
  (hless : ∀ g', g' = ({ g with rbase := fun m => if m = n then rb else g.rbase m, rcap := fun m => if m = n then rc else g.rcap m, own := fun b => (g.own b).map f } : G) -> Less s (s.putW ((n, some e') :: gone.map fun m => (m, none))) g g' n)
  (he : ∀ g', g' = ({ g with rbase := fun m => if m = n then rb else g.rbase m, rcap := fun m => if m = n then rc else g.rcap m, own := fun b => (g.own b).map f } : G) -> (∀ m, Mn m -> Less s (s.putW ((n, some e') :: gone.map fun m => (m, none))) g g' m) ->
   EntOk w' (s.putW ((n, some e') :: gone.map fun m => (m, none))) g' n e') (u : Value) :
  Did Mn s g w (InR fresh) .bad ((n, some e') :: gone.map fun m => (m, none)) u w' { g with rbase := fun m => if m = n then rb else g.rbase m, rcap := fun m => if m = n then rc else g.rcap m, own := fun b => (g.own b).map f } := by
 have hfe : ∀ m, m ≠ n -> m ∉ gone -> (s.putW ((n, some e') :: gone.map fun m => (m, none))).fe m = s.fe m := by
  intro m hm hg;simp only [S.putW, S.setE];rw [if_neg hm];exact gone_not hg
 have hgo : ∀ m, m ∈ gone -> (s.putW ((n, some e') :: gone.map fun m => (m, none))).fe m = none := by
  intro m hm;simp only [S.putW, S.setE];rw [if_neg (hg m hm).2];exact gone_mem hm
 have hL : ∀ m, Mn m -> Less s (s.putW ((n, some e') :: gone.map fun m => (m, none))) g { g with rbase := fun m => if m = n then rb else g.rbase m, rcap := fun m => if m = n then rc else g.rcap m, own := fun b => (g.own b).map f } m := fun m hm => by
  by_cases hmn : m = n
  ·subst hmn; exact hless _ rfl
  ·by_cases hmg : m ∈ gone
   ·exact Less.of (.inr (hgo m hmg)) rfl rfl (fun _ => by simp [hmn]) (fun _ => by simp [hmn])
   ·exact Less.of (.inl (hfe m hmn hmg)) rfl rfl (fun _ => by simp [hmn]) (fun _ => by simp [hmn])
 refine did_of R (fun m => m = n \/ m ∈ gone) (fun m hm hd => hfe m (fun e => hd (.inl e)) (fun e => hd (.inr e))) (fun m e hx => ?_) (fun m hm hd => ?_) (fun b m r hb ho hd => ?_) (fun b hb ho => ?_)
  ⟨h1.1, h1.2.1, h1.2.2.1, by omega⟩ (fun b k hk => ?_) (fun b m r hk => ?_) (fun m hm hd => hL m hm) (fun m e hx hd => ?_) (fun _ => trivial)
 ·by_cases hmn : m = n
  ·subst hmn; exact .inl hn
  ·by_cases hmg : m ∈ gone
   ·exact .inl (hg m hmg).1
   ·rw [hfe m hmn hmg] at hx; exact .inl (R.me m e hx).1
 ·have hmn : m ≠ n := fun e => hd (.inl e)
  simp [hmn]
 ·refine ⟨by simp only [ho, Option.map_some]; rw [hf m r (fun e => hd (.inr e))], hheap b hb (fun m' r' ho' => ?_)⟩;rw [ho] at ho'; injection ho' with ho'; injection ho' with e1 _
  rw [<- e1]; exact fun e => hd (.inl e)
 ·exact ⟨by simp [ho], hheap b hb (fun m' r' ho' => by rw [ho] at ho'; simp at ho')⟩
 ·cases ho : g.own b with
  | none => simp [ho] at hk
  | some k0 => have := R.bound b k0 ho; omega
 ·cases ho : g.own b with
  | none => simp [ho] at hk
  | some k0 =>
   obtain ⟨m0, r0⟩ := k0;simp only [ho, Option.map_some, Option.some.injEq] at hk;by_cases hmg : m0 ∈ gone
   ·have := hf' m0 r0 hmg;rw [hk] at this;rcases this with h | h
    ·simp only at h; rw [h]; exact .inl hn
    ·exact .inl (hg _ h).1
   ·rw [hf m0 r0 hmg] at hk;injection hk with e1 _
    rw [<- e1]; exact .inl (R.label b m0 r0 ho)
 ·by_cases hmn : m = n
  ·subst hmn;have hee : e = e' := by simp [S.putW, S.setE] at hx; exact hx.symm
   subst hee;exact he _ rfl hL
  ·by_cases hmg : m ∈ gone
   ·rw [hgo m hmg] at hx; simp at hx
   ·rw [hfe m hmn hmg] at hx;exact absurd (hd (R.me m e hx).1) (by simp [hmn, hmg])
theorem take_splice {α : Type} (l vs : List α) (p : Nat) (h : p + vs.length <= l.length) : l.take p ++ vs ++ l.drop (p + vs.length) = splice l p vs := by
 apply List.ext_getElem?
 intro i
 rw [splice_get _ _ _ _ h]
 by_cases h1 : i < p
 ·rw [if_neg (by omega), List.append_assoc, qLq (by simp; omega)];rw [List.getElem?_take_of_lt h1]
 ·by_cases h2 : i < p + vs.length
  ·rw [if_pos ⟨by omega, h2⟩, List.append_assoc, qRq (by simp; omega), qLq (by simp; omega)]
   congr 1
   simp;omega
  ·rw [if_neg (by omega), List.append_assoc, qRq (by simp; omega), qRq (by simp; omega)];rw [List.getElem?_drop]
   congr 1
   simp;omega
theorem run_store_at {b o : Nat} {ty : TypeId} {arr : Array Value} {vs : List Value} (hh : w.heap[b]? = some (.cells arr ty (0, 0))) (hl : o + vs.length <= arr.size) (h1 : ∀ v ∈ vs, v.oneCell' = true) :
  (storeCells ⟨b, o, none⟩ vs).run P w = .ok () (w.setRow b (splice arr.toList o vs).toArray) := by
 have := run_storeCells_at (P := P) b o ty vs 0 arr w hh (by simpa using hl) h1
 rw [Nat.add_zero] at this
 rw [this, take_splice _ _ _ (by simpa using hl)]
theorem run_storeVar (hT : TabOk P T) {t : Nat} {ti : TI} (ht : lk T t = some ti) {b o : Nat} {ty : TypeId} {arr : Array Value} {v : Value} (hh : w.heap[b]? = some (.cells arr ty (0, 0))) (hc : v.cells.size = ti.size) (hl : o + ti.size <= arr.size) (h1 : ∀ x ∈ v.cells.toList, x.oneCell' = true) :
  (Instr.storeAt t (.pointer (some ⟨b, o, none⟩)) v).run P w = .ok () (w.setRow b (splice arr.toList o v.cells.toList).toArray) := by
 have hsz := (hT t ti ht).run_size w
 simp only [Instr.storeAt, Instr.sureAddr, storeVar, Sem.run_bind, Sem.run_pure, Result.andThen_ok, hsz]
 rw [if_neg (by simp [hc])]
 exact run_store_at hh (by rw [Array.length_toList, hc]; exact hl) h1
theorem setRow_heap_at {b : Nat} {ty : TypeId} {arr arr' : Array Value} (hh : w.heap[b]? = some (.cells arr ty (0, 0))) : (w.setRow b arr').heap[b]? = some (.cells arr' ty (0, 0)) := setRow_heap w b arr arr' ty (0, 0) hh
theorem lt_of_heap {b : Nat} {o : Obj} (h : w.heap[b]? = some o) : b < w.heap.size := by
 rcases Nat.lt_or_ge b w.heap.size with h' | h'
 ·exact h'
 ·simp [Array.getElem?_eq_none h'] at h
theorem pos_iff {sz i i' j j' n off : Nat} (hj : j + n <= sz) (hj' : j' < sz) : (off + i * sz + j <= off + i' * sz + j' /\ off + i' * sz + j' < off + i * sz + j + n) ↔ (i' = i /\ j <= j' /\ j' < j + n) := by
 constructor
 ·rintro ⟨h1, h2⟩;have : i' = i := by
   rcases Nat.lt_trichotomy i' i with h | h | h
   ·have : (i' + 1) * sz <= i * sz := Nat.mul_le_mul_right _ h;rw [Nat.add_mul] at this;omega
   ·exact h
   ·have : (i + 1) * sz <= i' * sz := Nat.mul_le_mul_right _ h;rw [Nat.add_mul] at this;omega
  subst this;omega
 ·rintro ⟨rfl, h1, h2⟩;omega
theorem FlatOk.write {own : Nat -> Option Key} {k : Key} {A : Option Addr} {cap sz : Nat} {rows : Flat} (h : FlatOk w own (some k) A cap sz rows) {i j : Nat} {row xs : Row} (hi : rows[i]? = some row) (hj : j + xs.length <= sz) :
  ∃ b off arr ty, A = some ⟨b, off, none⟩ /\ own b = some k /\ w.heap[b]? = some (.cells arr ty (0, 0)) /\ off + i * sz + j + xs.length <= arr.size /\
   ∀ own', own' b = some k -> FlatOk (w.setRow b (splice arr.toList (off + i * sz + j) (xs.map Sc.val)).toArray) own' (some k) A cap sz (rows.set i (splice row j xs)) := by
 have hil : i < rows.length := (qSq.1 hi).1
 rcases h.room rfl with ⟨_, h0⟩ | ⟨b, off, arr, ty, rfl, ho, hh, hsz⟩
 ·rw [h0] at hil; simp at hil
 ·have hfit := h.fits;have hb : off + i * sz + j + xs.length <= arr.size := by
   have : (i + 1) * sz <= cap * sz := Nat.mul_le_mul_right _ (by omega);rw [Nat.add_mul] at this;omega
  have hrow := h.even i row hi;refine ⟨b, off, arr, ty, rfl, ho, hh, hb, fun own' ho' => ⟨by simpa using h.fits, h.pos, fun i' row' hi' => ?_, fun i' row' j' x hi' hj' => ?_, fun _ => .inr ⟨b, off, _, ty, rfl, ho', setRow_heap_at hh, ?_⟩⟩⟩
  ·by_cases hii : i' = i
   ·subst hii;rw [List.getElem?_set_self hil] at hi';injection hi' with hi'
    rw [<- hi', splice_length _ _ _ (by rw [hrow]; exact hj)];exact hrow
   ·rw [qNq (Ne.symm hii)] at hi';exact h.even i' row' hi'
  ·refine ⟨_, rfl, ho', ?_⟩;rw [Addr.add_plain, cells_at (setRow_heap_at hh), List.getElem?_toArray, splice_get _ _ _ _ (by simpa using hb)];have hj'l : j' < sz := by
    have : row'.length = sz := by
     by_cases hii : i' = i
     ·subst hii;rw [List.getElem?_set_self hil] at hi';injection hi' with hi'
      rw [<- hi', splice_length _ _ _ (by rw [hrow]; exact hj)];exact hrow
     ·rw [qNq (Ne.symm hii)] at hi';exact h.even i' row' hi'
    rw [<- this]; exact (qSq.1 hj').1
   have hp := pos_iff (i := i) (i' := i') (j := j) (j' := j') (n := xs.length) (off := off) (sz := sz) hj hj'l;rw [<- Nat.add_assoc, List.length_map];by_cases hc : i' = i /\ j <= j' /\ j' < j + xs.length
   ·rw [if_pos (hp.2 hc)];obtain ⟨rfl, hc1, hc2⟩ := hc;rw [List.getElem?_set_self hil] at hi';injection hi' with hi'
    subst hi';rw [splice_get _ _ _ _ (by rw [hrow]; exact hj), if_pos ⟨hc1, hc2⟩] at hj';rw [show off + i' * sz + j' - (off + i' * sz + j) = j' - j by omega];simp [hj']
   ·rw [if_neg (fun hx => hc (hp.1 hx))];have old : ∀ row0, rows[i']? = some row0 -> row0[j']? = some x -> arr.toList[off + i' * sz + j']? = some (Sc.val x) := by
     intro row0 h1 h2;obtain ⟨ad, hA, _, hcell⟩ := h.cell i' row0 j' x h1 h2;injection hA with hA
     subst hA;rw [Addr.add_plain, cells_at hh, <- Nat.add_assoc, <- Array.getElem?_toList] at hcell;exact hcell
    by_cases hii : i' = i
    ·subst hii;rw [List.getElem?_set_self hil] at hi';injection hi' with hi'
     subst hi';rw [splice_get _ _ _ _ (by rw [hrow]; exact hj), if_neg (fun hx => hc ⟨rfl, hx⟩)] at hj';exact old row hi hj'
    ·rw [qNq (Ne.symm hii)] at hi';exact old row' hi' hj'
  ·simp only [List.size_toArray];rw [splice_length _ _ _ (by simpa using hb), Array.length_toList];exact hsz
end
end Go.Sh
