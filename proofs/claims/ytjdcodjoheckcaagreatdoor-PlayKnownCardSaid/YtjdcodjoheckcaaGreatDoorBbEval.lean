/-
  The abstract machine: values, heap, operations, code. Definitions alone: what it computes. Its tie to the model stands in the texts behind it.
  It is written for the kernel: by the recursors, at one type of results; what is handed on is whole.
-/
import Derived.Scope
import Derived.Orders
namespace Go.Bb

/-! ### Tries -/
inductive Path where
  | z
  | a (p : Path)
  | b (p : Path)

inductive T (α : Type) where
  | l
  | n (v : Option α) (a b : T α)

/-! ### Values -/
/-- of one cell -/
inductive SV where
  | bool (b : Bool)
  | int (k : IntKind) (n : Int)
  | flt (b : Nat)
  | cpx (re im : Nat)
  | pnil
  | ptr (id : Path) (off : Nat)
  | snil
  | sl (id : Path) (off len : Nat) (cap : Option Nat) (esz : Nat)
  | mnil
  | map (id : Path)
  | fn (f : Nat) (caps : List (Path × Nat))
  | fnil
  | str (l : List Nat)

inductive TV where
  | s (v : SV)
  | agg (l : List SV)

inductive AV where
  | s (v : SV)
  | agg (l : List SV)
  | tup (l : List TV)

inductive AO where
  | cells (t : T SV) (m : Nat)
  -- its entries, when each of them was born, the clock
  | map (kd : IntKind) (es : List (Int × AV)) (bs : List Nat) (clk : Nat)
  -- cells that are read alone
  | ro (t : T SV) (m : Nat)
  -- a range over a map
  | iter (m : Path) (since : Nat) (seen : List Nat) (last : Nat)
  -- a row that was just made, alone in its block, to be marked
  | lit (l : List SV)

structure AH where
  g : T AO
  next : Nat

/-- what a run comes to -/
abbrev R := Option (AV × AH)

abbrev Tm := T AV
abbrev Opd := Tm → AV
abbrev POp := Tm → (AV → R) → R
abbrev ROp := Tm → AH → (AV → R) → R
abbrev LOp := Tm → Path → (AO → AV → R) → R
abbrev EOp := Tm → AH → (AV → AH → R) → R

def undefA : AV := .tup []

noncomputable def selA {α : Type} (t : T α) : T α := T.rec (motive := fun _ => T α) .l (fun _ a _ _ _ => a) t
noncomputable def selB {α : Type} (t : T α) : T α := T.rec (motive := fun _ => T α) .l (fun _ _ b _ _ => b) t
noncomputable def selV {α : Type} (t : T α) : Option α := T.rec (motive := fun _ => Option α) none (fun v _ _ _ _ => v) t

noncomputable def T.get {α : Type} (p : Path) : T α → Option α :=
  Path.rec (motive := fun _ => T α → Option α) selV (fun _ ih t => ih (selA t)) (fun _ ih t => ih (selB t)) p

noncomputable def vOf (o : Option AV) : AV := Option.rec (motive := fun _ => AV) undefA (fun v => v) o

/-- the value of a slot -/
noncomputable def gs (p : Path) : Opd := fun tm => vOf (T.get p tm)

noncomputable def forceN (n : Nat) (k : Nat → R) : R := Nat.rec (motive := fun _ => R) (k 0) (fun m _ => k (Nat.succ m)) n

noncomputable def forceI (z : Int) (k : Int → R) : R :=
  Int.rec (motive := fun _ => R) (fun n => forceN n fun n => k (.ofNat n)) (fun n => forceN n fun n => k (.negSucc n)) z

/-- a path, handed on whole -/
noncomputable def toPathK (f : Nat) : Nat → (Path → R) → R :=
  Nat.rec (motive := fun _ => Nat → (Path → R) → R) (fun _ k => k .z)
    (fun _ ih i k => Nat.rec (motive := fun _ => R) (k .z) (fun m _ => forceN (Nat.div m 2) fun q =>
      Nat.rec (motive := fun _ => R) (ih q fun p => k (.a p)) (fun _ _ => ih q fun p => k (.b p)) (Nat.mod m 2)) i) f

noncomputable def pathK (i : Nat) (k : Path → R) : R := toPathK (Nat.succ i) i k

/-- Write at a path; the new trie is handed on when it is whole. -/
noncomputable def setV (p : Path) : T AV → AV → (T AV → R) → R :=
  Path.rec (motive := fun _ => T AV → AV → (T AV → R) → R)
    (fun t x k => T.rec (motive := fun _ => R) (k (.n (some x) .l .l)) (fun _ a b _ _ => k (.n (some x) a b)) t)
    (fun _ ih t x k => T.rec (motive := fun _ => R) (ih .l x fun a => k (.n none a .l)) (fun v a b _ _ => ih a x fun a => k (.n v a b)) t)
    (fun _ ih t x k => T.rec (motive := fun _ => R) (ih .l x fun b => k (.n none .l b)) (fun v a b _ _ => ih b x fun b => k (.n v a b)) t) p

noncomputable def setO (p : Path) : T AO → Option AO → (T AO → R) → R :=
  Path.rec (motive := fun _ => T AO → Option AO → (T AO → R) → R)
    (fun t x k => T.rec (motive := fun _ => R) (k (.n x .l .l)) (fun _ a b _ _ => k (.n x a b)) t)
    (fun _ ih t x k => T.rec (motive := fun _ => R) (ih .l x fun a => k (.n none a .l)) (fun v a b _ _ => ih a x fun a => k (.n v a b)) t)
    (fun _ ih t x k => T.rec (motive := fun _ => R) (ih .l x fun b => k (.n none .l b)) (fun v a b _ _ => ih b x fun b => k (.n v a b)) t) p

noncomputable def setS (p : Path) : T SV → SV → (T SV → R) → R :=
  Path.rec (motive := fun _ => T SV → SV → (T SV → R) → R)
    (fun t x k => T.rec (motive := fun _ => R) (k (.n (some x) .l .l)) (fun _ a b _ _ => k (.n (some x) a b)) t)
    (fun _ ih t x k => T.rec (motive := fun _ => R) (ih .l x fun a => k (.n none a .l)) (fun v a b _ _ => ih a x fun a => k (.n v a b)) t)
    (fun _ ih t x k => T.rec (motive := fun _ => R) (ih .l x fun b => k (.n none .l b)) (fun v a b _ _ => ih b x fun b => k (.n v a b)) t) p

/-- n times the same. -/
noncomputable def repK (x : SV) (f : Nat) : Nat → (T SV → R) → R :=
  Nat.rec (motive := fun _ => Nat → (T SV → R) → R) (fun _ k => k .l)
    (fun _ ih n k => Nat.rec (motive := fun _ => R) (k .l) (fun m _ =>
      forceN (Nat.div (Nat.succ m) 2) fun p => forceN (Nat.div m 2) fun q => ih p fun a => ih q fun b => k (.n (some x) a b)) n) f

noncomputable def ofListV (l : List AV) : Nat → T AV → (T AV → R) → R :=
  List.rec (motive := fun _ => Nat → T AV → (T AV → R) → R) (fun _ t k => k t)
    (fun v _ ih i t k => pathK i fun p => setV p t v fun t => forceN (Nat.succ i) fun i => ih i t k) l

noncomputable def ofListS (l : List SV) : Nat → T SV → (T SV → R) → R :=
  List.rec (motive := fun _ => Nat → T SV → (T SV → R) → R) (fun _ t k => k t)
    (fun v _ ih i t k => pathK i fun p => setS p t v fun t => forceN (Nat.succ i) fun i => ih i t k) l

/-! ### Lists -/
noncomputable def appS (l r : List SV) : List SV := List.rec (motive := fun _ => List SV) r (fun v _ ih => v :: ih) l
noncomputable def appV (l r : List AV) : List AV := List.rec (motive := fun _ => List AV) r (fun v _ ih => v :: ih) l
noncomputable def dropS (n : Nat) : List SV → List SV := Nat.rec (motive := fun _ => List SV → List SV) (fun l => l) (fun _ ih l => List.rec (motive := fun _ => List SV) [] (fun _ r _ => ih r) l) n
noncomputable def takeS (n : Nat) : List SV → List SV := Nat.rec (motive := fun _ => List SV → List SV) (fun _ => []) (fun _ ih l => List.rec (motive := fun _ => List SV) [] (fun v r _ => v :: ih r) l) n
noncomputable def nth {α : Type} (l : List α) (n : Nat) : Option α :=
  List.rec (motive := fun _ => Nat → Option α) (fun _ => none) (fun v _ ih n => Nat.rec (motive := fun _ => Option α) (some v) (fun m _ => ih m) n) l n
/-- a list, handed on whole -/
noncomputable def wholeS (l : List SV) : (List SV → R) → R := List.rec (motive := fun _ => (List SV → R) → R) (fun k => k []) (fun v _ ih k => ih fun l => k (v :: l)) l
noncomputable def wholeN (l : List Nat) : (List Nat → R) → R := List.rec (motive := fun _ => (List Nat → R) → R) (fun k => k []) (fun v _ ih k => forceN v fun v => ih fun l => k (v :: l)) l
noncomputable def xorB (a b : Bool) : Bool := Bool.rec (motive := fun _ => Bool) b (Bool.rec (motive := fun _ => Bool) true false b) a
noncomputable def eqB (a b : Bool) : Bool := Bool.rec (motive := fun _ => Bool) (Bool.rec (motive := fun _ => Bool) true false b) b a
def natsEq : List Nat → List Nat → Bool
  | [], [] => true
  | a :: l, b :: r => Nat.beq a b && natsEq l r
  | _, _ => false

/-! ### To look at a value -/
noncomputable def onAV (v : AV) (s : SV → R) (g : List SV → R) (t : List TV → R) : R := AV.rec (motive := fun _ => R) s g t v

/-- a value as it is, looked up -/
noncomputable def lookK (v : AV) (k : AV → R) : R := AV.rec (motive := fun _ => R) (fun s => k (.s s)) (fun l => k (.agg l)) (fun l => k (.tup l)) v

noncomputable def boolS (k : Bool → R) (v : SV) : R :=
  SV.rec (motive := fun _ => R) (fun b => k b) (fun _ _ => none) (fun _ => none) (fun _ _ => none) none (fun _ _ => none) none (fun _ _ _ _ _ => none) none (fun _ => none) (fun _ _ => none) none (fun _ => none) v
noncomputable def intS (k : IntKind → Int → R) (v : SV) : R :=
  SV.rec (motive := fun _ => R) (fun _ => none) (fun kd n => k kd n) (fun _ => none) (fun _ _ => none) none (fun _ _ => none) none (fun _ _ _ _ _ => none) none (fun _ => none) (fun _ _ => none) none (fun _ => none) v
noncomputable def fltS (k : Nat → R) (v : SV) : R :=
  SV.rec (motive := fun _ => R) (fun _ => none) (fun _ _ => none) (fun b => k b) (fun _ _ => none) none (fun _ _ => none) none (fun _ _ _ _ _ => none) none (fun _ => none) (fun _ _ => none) none (fun _ => none) v
noncomputable def cpxS (k : Nat → Nat → R) (v : SV) : R :=
  SV.rec (motive := fun _ => R) (fun _ => none) (fun _ _ => none) (fun _ => none) (fun a b => k a b) none (fun _ _ => none) none (fun _ _ _ _ _ => none) none (fun _ => none) (fun _ _ => none) none (fun _ => none) v
noncomputable def ptrS (k : Path → Nat → R) (v : SV) : R :=
  SV.rec (motive := fun _ => R) (fun _ => none) (fun _ _ => none) (fun _ => none) (fun _ _ => none) none (fun id off => k id off) none (fun _ _ _ _ _ => none) none (fun _ => none) (fun _ _ => none) none (fun _ => none) v
noncomputable def fnS (k : Nat → List (Path × Nat) → R) (v : SV) : R :=
  SV.rec (motive := fun _ => R) (fun _ => none) (fun _ _ => none) (fun _ => none) (fun _ _ => none) none (fun _ _ => none) none (fun _ _ _ _ _ => none) none (fun _ => none) (fun f l => k f l) none (fun _ => none) v
/-- a slice: none: n; some: k -/
noncomputable def slS (n : R) (k : Path → Nat → Nat → Option Nat → Nat → R) (v : SV) : R :=
  SV.rec (motive := fun _ => R) (fun _ => none) (fun _ _ => none) (fun _ => none) (fun _ _ => none) none (fun _ _ => none) n (fun id off len cap z => k id off len cap z) none (fun _ => none) (fun _ _ => none) none (fun _ => none) v
noncomputable def mapS (n : R) (k : Path → R) (v : SV) : R :=
  SV.rec (motive := fun _ => R) (fun _ => none) (fun _ _ => none) (fun _ => none) (fun _ _ => none) none (fun _ _ => none) none (fun _ _ _ _ _ => none) n (fun id => k id) (fun _ _ => none) none (fun _ => none) v

noncomputable def onS (v : AV) (k : SV → R) : R := onAV v k (fun _ => none) (fun _ => none)
noncomputable def onAgg (v : AV) (k : List SV → R) : R := onAV v (fun _ => none) k (fun _ => none)
noncomputable def onBool (v : AV) (k : Bool → R) : R := onS v (boolS k)
noncomputable def onInt (v : AV) (k : IntKind → Int → R) : R := onS v (intS k)
noncomputable def onFlt (v : AV) (k : Nat → R) : R := onS v (fltS k)
noncomputable def onCpx (v : AV) (k : Nat → Nat → R) : R := onS v (cpxS k)
noncomputable def onPtr (v : AV) (k : Path → Nat → R) : R := onS v (ptrS k)
noncomputable def onSl (v : AV) (n : R) (k : Path → Nat → Nat → Option Nat → Nat → R) : R := onS v (slS n k)
noncomputable def onMap (v : AV) (n : R) (k : Path → R) : R := onS v (mapS n k)
/-- a whole number that is not below nought -/
noncomputable def onNat (v : AV) (k : Nat → R) : R := onInt v fun _ z => Int.rec (motive := fun _ => R) k (fun _ => none) z
noncomputable def iteR (b : Bool) (t f : R) : R := Bool.rec (motive := fun _ => R) f t b
/-- the cells of a value -/
noncomputable def onCells (v : AV) (k : List SV → R) : R := onAV v (fun s => k [s]) k (fun _ => none)

/-! ### Whole numbers -/
noncomputable def lim (k : IntKind) : Nat := IntKind.rec (motive := fun _ => Nat) 128 32768 2147483648 9223372036854775808 256 65536 4294967296 18446744073709551616 k
noncomputable def fits (k : IntKind) (n : Nat) : Bool := Nat.ble (Nat.succ n) (lim k)
noncomputable def kindN (k : IntKind) : Nat := IntKind.rec (motive := fun _ => Nat) 0 1 2 3 4 5 6 7 k
noncomputable def sameK (k k' : IntKind) : Bool := Nat.beq (kindN k) (kindN k')

/-- a number of a kind, wrapped -/
noncomputable def retN (k : IntKind) (n : Nat) (ret : AV → R) : R := forceN n fun n => iteR (fits k n) (ret (.s (.int k (.ofNat n)))) (forceI (k.wrap (.ofNat n)) fun z => ret (.s (.int k z)))
noncomputable def retI (k : IntKind) (z : Int) (ret : AV → R) : R := Int.rec (motive := fun _ => R) (fun n => retN k n ret) (fun n => forceI (k.wrap (.negSucc n)) fun z => ret (.s (.int k z))) z
noncomputable def retB (b : Bool) (ret : AV → R) : R := Bool.rec (motive := fun _ => R) (ret (.s (.bool false))) (ret (.s (.bool true))) b
noncomputable def retF (b : Nat) (ret : AV → R) : R := forceN b fun b => ret (.s (.flt b))
noncomputable def retC (a b : Nat) (ret : AV → R) : R := forceN a fun a => forceN b fun b => ret (.s (.cpx a b))

noncomputable def addI (x y : Int) : Int := Int.rec (motive := fun _ => Int) (fun a => Int.rec (motive := fun _ => Int) (fun b => .ofNat (Nat.add a b)) (fun b => Int.add (.ofNat a) (.negSucc b)) y) (fun a => Int.add (.negSucc a) y) x
noncomputable def mulI (x y : Int) : Int := Int.rec (motive := fun _ => Int) (fun a => Int.rec (motive := fun _ => Int) (fun b => .ofNat (Nat.mul a b)) (fun b => Int.mul (.ofNat a) (.negSucc b)) y) (fun a => Int.mul (.negSucc a) y) x
noncomputable def subI (x y : Int) : Int := Int.rec (motive := fun _ => Int) (fun a => Int.rec (motive := fun _ => Int)
  (fun b => Bool.rec (motive := fun _ => Int) (Int.sub (.ofNat a) (.ofNat b)) (.ofNat (Nat.sub a b)) (Nat.ble b a)) (fun b => Int.sub (.ofNat a) (.negSucc b)) y) (fun a => Int.sub (.negSucc a) y) x
noncomputable def ltI (x y : Int) : Bool := Int.rec (motive := fun _ => Bool) (fun a => Int.rec (motive := fun _ => Bool) (fun b => Nat.ble (Nat.succ a) b) (fun _ => false) y)
  (fun a => Int.rec (motive := fun _ => Bool) (fun _ => true) (fun b => Nat.ble (Nat.succ b) a) y) x
noncomputable def eqI (x y : Int) : Bool := Int.rec (motive := fun _ => Bool) (fun a => Int.rec (motive := fun _ => Bool) (fun b => Nat.beq a b) (fun _ => false) y)
  (fun a => Int.rec (motive := fun _ => Bool) (fun _ => false) (fun b => Nat.beq a b) y) x
noncomputable def notB (b : Bool) : Bool := Bool.rec (motive := fun _ => Bool) true false b
noncomputable def andB (a b : Bool) : Bool := Bool.rec (motive := fun _ => Bool) false b a

/-- two whole numbers of one kind -/
noncomputable def int2 (x y : AV) (k : IntKind → Int → Int → R) : R := onInt x fun ka a => onInt y fun kb b => iteR (sameK ka kb) (k ka a b) none

noncomputable def vAdd (x y : Opd) : POp := fun tm ret => int2 (x tm) (y tm) fun k a b => retI k (addI a b) ret
noncomputable def vSub (x y : Opd) : POp := fun tm ret => int2 (x tm) (y tm) fun k a b => retI k (subI a b) ret
noncomputable def vMul (x y : Opd) : POp := fun tm ret => int2 (x tm) (y tm) fun k a b => retI k (mulI a b) ret
noncomputable def natDiv (a b : Int) (f : Nat → Nat → Nat) (g : Int → Int → Int) : Int :=
  Int.rec (motive := fun _ => Int) (fun m => Int.rec (motive := fun _ => Int) (fun n => .ofNat (f m n)) (fun n => g (.ofNat m) (.negSucc n)) b) (fun m => g (.negSucc m) b) a
noncomputable def vQuo (x y : Opd) : POp := fun tm ret => int2 (x tm) (y tm) fun k a b => iteR (eqI b 0) none (retI k (natDiv a b Nat.div Int.tdiv) ret)
noncomputable def vRem (x y : Opd) : POp := fun tm ret => int2 (x tm) (y tm) fun k a b => iteR (eqI b 0) none (forceI (natDiv a b Nat.mod Int.tmod) fun z => ret (.s (.int k z)))
noncomputable def vEqI (x y : Opd) : POp := fun tm ret => int2 (x tm) (y tm) fun _ a b => retB (eqI a b) ret
noncomputable def vNeI (x y : Opd) : POp := fun tm ret => int2 (x tm) (y tm) fun _ a b => retB (notB (eqI a b)) ret
noncomputable def vLt (x y : Opd) : POp := fun tm ret => int2 (x tm) (y tm) fun _ a b => retB (ltI a b) ret
noncomputable def vLe (x y : Opd) : POp := fun tm ret => int2 (x tm) (y tm) fun _ a b => retB (notB (ltI b a)) ret
noncomputable def vGt (x y : Opd) : POp := fun tm ret => int2 (x tm) (y tm) fun _ a b => retB (ltI b a) ret
noncomputable def vGe (x y : Opd) : POp := fun tm ret => int2 (x tm) (y tm) fun _ a b => retB (notB (ltI a b)) ret
noncomputable def nats2 (a b : Int) (k : Nat → Nat → R) : R := Int.rec (motive := fun _ => R) (fun m => Int.rec (motive := fun _ => R) (fun n => k m n) (fun _ => none) b) (fun _ => none) a
noncomputable def vBits (f : Nat → Nat → Nat) (x y : Opd) : POp := fun tm ret => int2 (x tm) (y tm) fun k a b => nats2 a b fun m n => iteR (andB (fits k m) (fits k n)) (retN k (f m n) ret) none
noncomputable def vAnd : Opd → Opd → POp := vBits Nat.land
noncomputable def vOr : Opd → Opd → POp := vBits Nat.lor
noncomputable def vXor : Opd → Opd → POp := vBits Nat.xor
noncomputable def vAndNot : Opd → Opd → POp := vBits fun a b => Nat.xor a (Nat.land a b)
noncomputable def vShl (x y : Opd) : POp := fun tm ret => onInt (x tm) fun k a => onInt (y tm) fun _ b => nats2 a b fun m n => iteR (Nat.ble n 64) (retN k (Nat.shiftLeft m (Nat.min n k.bits)) ret) none
noncomputable def vShr (x y : Opd) : POp := fun tm ret => onInt (x tm) fun k a => onInt (y tm) fun _ b => nats2 a b fun m n => iteR (Nat.ble n 64) (forceN (Nat.shiftRight m (Nat.min n k.bits)) fun s => ret (.s (.int k (.ofNat s)))) none

/-! ### Floating point -/
def arithF (op : BinOp) (x y : Nat) : Option Nat :=
  match op with
  | .add => FloatKind.f64.format.add x y
  | .sub => FloatKind.f64.format.sub x y
  | .mul => FloatKind.f64.format.mul x y
  | .quo => FloatKind.f64.format.div x y
  | _ => none
def cmpF (op : BinOp) (x y : Nat) : Bool :=
  let c := FloatKind.f64.format.order x y
  match op with
  | .eql => c == some .eq
  | .neq => c != some .eq
  | .lss => c == some .lt
  | .leq => c == some .lt || c == some .eq
  | .gtr => c == some .gt
  | _ => c == some .gt || c == some .eq
def extF (way : Ieee.Toward) (x : Nat) : Option Nat :=
  match FloatKind.f64.decode x with
  | .nan _ _ => none
  | d => some (FloatKind.f64.encode (d.integral way))
noncomputable def someN (o : Option Nat) (k : Nat → R) : R := Option.rec (motive := fun _ => R) none k o
noncomputable def vArF (op : BinOp) (x y : Opd) : POp := fun tm ret => onFlt (x tm) fun a => onFlt (y tm) fun b => someN (arithF op a b) fun r => retF r ret
noncomputable def vCmF (op : BinOp) (x y : Opd) : POp := fun tm ret => onFlt (x tm) fun a => onFlt (y tm) fun b => retB (cmpF op a b) ret
noncomputable def vArC (op : BinOp) (x y : Opd) : POp := fun tm ret => onCpx (x tm) fun a b => onCpx (y tm) fun c d => someN (arithF op a c) fun r => someN (arithF op b d) fun i => retC r i ret
noncomputable def vEqC (x y : Opd) : POp := fun tm ret => onCpx (x tm) fun a b => onCpx (y tm) fun c d => retB (andB (cmpF .eql a c) (cmpF .eql b d)) ret
noncomputable def vNeC (x y : Opd) : POp := fun tm ret => onCpx (x tm) fun a b => onCpx (y tm) fun c d => retB (notB (andB (cmpF .eql a c) (cmpF .eql b d))) ret
noncomputable def vMulC (x y : Opd) : POp := fun tm ret => onCpx (x tm) fun a b => onCpx (y tm) fun c d => someN (arithF .mul a c) fun p => someN (arithF .mul b d) fun q => someN (arithF .sub p q) fun r =>
  someN (arithF .mul a d) fun s => someN (arithF .mul b c) fun t => someN (arithF .add s t) fun i => retC r i ret
noncomputable def vCpx (x y : Opd) : POp := fun tm ret => onFlt (x tm) fun a => onFlt (y tm) fun b => ret (.s (.cpx a b))
noncomputable def vRe (x : Opd) : POp := fun tm ret => onCpx (x tm) fun a _ => ret (.s (.flt a))
noncomputable def vIm (x : Opd) : POp := fun tm ret => onCpx (x tm) fun _ b => ret (.s (.flt b))
noncomputable def vI2F (x : Opd) : POp := fun tm ret => onInt (x tm) fun _ n => retF (FloatKind.f64.nearest n) ret
noncomputable def vF2I (k : IntKind) (x : Opd) : POp := fun tm ret => onFlt (x tm) fun b => Option.rec (motive := fun _ => R) none
  (fun n => forceI n fun n => iteR (andB (notB (ltI n k.min)) (notB (ltI k.max n))) (ret (.s (.int k n))) none) ((FloatKind.f64.decode b).toInt .zero)
noncomputable def vExt (way : Ieee.Toward) (x : Opd) : POp := fun tm ret => onFlt (x tm) fun b => someN (extF way b) fun r => retF r ret
noncomputable def vNegF (x : Opd) : POp := fun tm ret => onFlt (x tm) fun b => retF (Op.negFloat .f64 b) ret
noncomputable def vNegC (x : Opd) : POp := fun tm ret => onCpx (x tm) fun a b => retC (Op.negFloat .f64 a) (Op.negFloat .f64 b) ret

/-! ### Others that look at operands alone -/
noncomputable def vMove (x : Opd) : POp := fun tm ret => lookK (x tm) ret
noncomputable def vPick (c a b : Opd) : POp := fun tm ret => onBool (c tm) fun t => Bool.rec (motive := fun _ => R) (lookK (b tm) ret) (lookK (a tm) ret) t
noncomputable def vNot (x : Opd) : POp := fun tm ret => onBool (x tm) fun b => retB (notB b) ret
noncomputable def vNegI (x : Opd) : POp := fun tm ret => onInt (x tm) fun k n => retI k (subI 0 n) ret
noncomputable def vI2I (k : IntKind) (x : Opd) : POp := fun tm ret => onInt (x tm) fun _ n => retI k n ret
noncomputable def vNil (x : Opd) : POp := fun tm ret => onS (x tm) fun v =>
  SV.rec (motive := fun _ => R) (fun _ => none) (fun _ _ => none) (fun _ => none) (fun _ _ => none) none (fun id off => ret (.s (.ptr id off))) none (fun _ _ _ _ _ => none) none (fun _ => none) (fun f l => ret (.s (.fn f l))) none (fun _ => none) v
noncomputable def capsK (l : List Opd) (tm : Tm) : (List (Path × Nat) → R) → R :=
  List.rec (motive := fun _ => (List (Path × Nat) → R) → R) (fun k => k []) (fun x _ ih k => onPtr (x tm) fun id off => ih fun r => k ((id, off) :: r)) l
noncomputable def vFn (f : Nat) (caps : List Opd) : POp := fun tm ret => capsK caps tm fun l => ret (.s (.fn f l))
/-- a function that is bound to its first argument -/
noncomputable def vBnd (f : Nat) (x : Opd) : POp := fun tm ret => onPtr (x tm) fun id off => ret (.s (.fn (Nat.add f 1000000) [(id, off)]))
noncomputable def vFld (off : Nat) (x : Opd) : POp := fun tm ret => onPtr (x tm) fun id o => forceN (Nat.add o off) fun o => ret (.s (.ptr id o))
noncomputable def partK (agg : Bool) (cs : List SV) (off size : Nat) (ret : AV → R) : R :=
  Bool.rec (motive := fun _ => R) (Option.rec (motive := fun _ => R) none (fun s => ret (.s s)) (nth cs off)) (wholeS (takeS size (dropS off cs)) fun cs => ret (.agg cs)) agg
noncomputable def vField (off size : Nat) (agg : Bool) (x : Opd) : POp := fun tm ret => onAgg (x tm) fun cs => partK agg cs off size ret
noncomputable def vIdxS (esz : Nat) (x i : Opd) : POp := fun tm ret => onSl (x tm) none fun id off len _ _ => onNat (i tm) fun n => iteR (Nat.ble (Nat.succ n) len) (forceN (Nat.add off (Nat.mul n esz)) fun o => ret (.s (.ptr id o))) none
noncomputable def vIdxA (len esz : Nat) (x i : Opd) : POp := fun tm ret => onPtr (x tm) fun id off => onNat (i tm) fun n => iteR (Nat.ble (Nat.succ n) len) (forceN (Nat.add off (Nat.mul n esz)) fun o => ret (.s (.ptr id o))) none
noncomputable def vIndex (len esz : Nat) (agg : Bool) (x i : Opd) : POp := fun tm ret => onAgg (x tm) fun cs => onNat (i tm) fun n => iteR (Nat.ble (Nat.succ n) len) (partK agg cs (Nat.mul n esz) esz ret) none
noncomputable def tvK (v : TV) (ret : AV → R) : R := TV.rec (motive := fun _ => R) (fun s => ret (.s s)) (fun l => ret (.agg l)) v
noncomputable def vExtract (x : Opd) (i : Nat) : POp := fun tm ret => onAV (x tm) (fun _ => none) (fun _ => none) fun l => Option.rec (motive := fun _ => R) none (fun v => tvK v ret) (nth l i)
noncomputable def vLen (x : Opd) : POp := fun tm ret => onSl (x tm) (ret (.s (.int .i64 (.ofNat 0)))) fun _ _ len _ _ => ret (.s (.int .i64 (.ofNat len)))
noncomputable def vCap (x : Opd) : POp := fun tm ret => onSl (x tm) (ret (.s (.int .i64 (.ofNat 0)))) fun _ _ _ cap _ => Option.rec (motive := fun _ => R) none (fun c => ret (.s (.int .i64 (.ofNat c)))) cap
noncomputable def minmaxK (mx : Bool) (ret : AV → R) (tm : Tm) (l : List Opd) : IntKind → Int → R :=
  List.rec (motive := fun _ => IntKind → Int → R) (fun k a => ret (.s (.int k a)))
    (fun y _ ih k a => onInt (y tm) fun _ b => Bool.rec (motive := fun _ => R) (ih k a) (ih k b) (Bool.rec (motive := fun _ => Bool) (ltI b a) (ltI a b) mx)) l
noncomputable def vMinMax (mx : Bool) (x : Opd) (l : List Opd) : POp := fun tm ret => onInt (x tm) fun k a => minmaxK mx ret tm l k a

/-- cells laid over others from a place on -/
noncomputable def overS (vs : List SV) (cs : List SV) : List SV :=
  List.rec (motive := fun _ => List SV → List SV) (fun cs => cs) (fun v _ ih cs => List.rec (motive := fun _ => List SV) [] (fun _ cs _ => v :: ih cs) cs) vs cs
noncomputable def overAt (off : Nat) (vs : List SV) : List SV → List SV :=
  Nat.rec (motive := fun _ => List SV → List SV) (overS vs) (fun _ ih cs => List.rec (motive := fun _ => List SV) [] (fun c cs _ => c :: ih cs) cs) off
noncomputable def lenS (l : List SV) : Nat := List.rec (motive := fun _ => Nat) 0 (fun _ _ ih => Nat.succ ih) l
noncomputable def fillK (tm : Tm) (ps : List (Nat × Nat × Opd)) : List SV → (List SV → R) → R :=
  List.rec (motive := fun _ => List SV → (List SV → R) → R) (fun cs k => k cs)
    (fun p _ ih cs k => onCells (p.2.2 tm) fun vs => iteR (andB (Nat.beq (lenS vs) p.2.1) (Nat.ble (Nat.add p.1 p.2.1) (lenS cs))) (wholeS (overAt p.1 vs cs) fun cs => ih cs k) none) ps
noncomputable def vBuild (zero : List SV) (ps : List (Nat × Nat × Opd)) : POp := fun tm ret => fillK tm ps zero fun cs => ret (.agg cs)

noncomputable def retSl (id : Path) (off len : Nat) (cap : Option Nat) (z : Nat) (ret : AV → R) : R := forceN off fun off => forceN len fun len => ret (.s (.sl id off len cap z))
noncomputable def bound (o : Option Opd) (d : Nat) (tm : Tm) (k : Nat → R) : R := Option.rec (motive := fun _ => R) (k d) (fun x => onNat (x tm) k) o
noncomputable def cutK (esz : Nat) (id : Path) (off len z h l : Nat) (ret : AV → R) (cap : Option Nat) : R :=
  Option.rec (motive := fun _ => R)
    (iteR (andB (andB (Nat.ble h len) (Nat.ble l h)) (Nat.beq z esz))
      (iteR (Nat.beq l 0) (retSl id off h none z ret) (iteR (Nat.ble (Nat.succ l) len) (retSl id (Nat.add off (Nat.mul l esz)) (Nat.sub h l) none z ret) none)) none)
    (fun c => iteR (andB (Nat.ble h c) (Nat.ble l h))
      (forceN (Nat.sub c l) fun m => iteR (Nat.beq c l) (retSl id off (Nat.sub h l) (some m) z ret) (retSl id (Nat.add off (Nat.mul l esz)) (Nat.sub h l) (some m) z ret)) none) cap
noncomputable def vSlice (esz : Nat) (x : Opd) (lo hi : Option Opd) : POp := fun tm ret => onSl (x tm)
  (bound hi 0 tm fun h => bound lo 0 tm fun l => iteR (andB (Nat.beq h 0) (Nat.beq l 0)) (ret (.s .snil)) none)
  fun id off len cap z => bound hi len tm fun h => bound lo 0 tm fun l => cutK esz id off len z h l ret cap

/-! ### Equality -/
/-- equal cells of whole numbers (true) and bools (false)? -/
noncomputable def flatEq : List Bool → List SV → List SV → Option Bool
  | [], [], [] => some true
  | true :: ks, .int k a :: l, .int k' b :: r => match sameK k k' with
    | true => match eqI a b with
      | true => flatEq ks l r
      | false => some false
    | false => none
  | false :: ks, .bool a :: l, .bool b :: r => match eqB a b with
    | true => flatEq ks l r
    | false => some false
  | _, _, _ => none
noncomputable def vEqB (neg : Bool) (x y : Opd) : POp := fun tm ret => onBool (x tm) fun a => onBool (y tm) fun b => retB (xorB neg (eqB a b)) ret
/-- which of the kinds that can be nil: 0 a nil, 1 not, of a pointer; 2, 3 of a slice; 4, 5 of a map; 6, 7 of a function -/
noncomputable def nilK (v : AV) (k : Nat → R) : R := onS v fun s =>
  SV.rec (motive := fun _ => R) (fun _ => none) (fun _ _ => none) (fun _ => none) (fun _ _ => none) (k 0) (fun _ _ => k 1) (k 2) (fun _ _ _ _ _ => k 3) (k 4) (fun _ => k 5) (fun _ _ => k 7) (k 6) (fun _ => none) s
/-- one of two is nil -/
noncomputable def vEqN (neg : Bool) (base : Nat) (x y : Opd) : POp := fun tm ret => nilK (x tm) fun a => nilK (y tm) fun b =>
  iteR (Nat.beq a base) (iteR (Nat.beq b base) (retB (notB neg) ret) (iteR (Nat.beq b (Nat.succ base)) (retB neg ret) none))
    (iteR (andB (Nat.beq a (Nat.succ base)) (Nat.beq b base)) (retB neg ret) none)
noncomputable def onStr (v : AV) (k : List Nat → R) : R := onS v fun s =>
  SV.rec (motive := fun _ => R) (fun _ => none) (fun _ _ => none) (fun _ => none) (fun _ _ => none) none (fun _ _ => none) none (fun _ _ _ _ _ => none) none (fun _ => none) (fun _ _ => none) none (fun l => k l) s
noncomputable def vEqStr (neg : Bool) (x y : Opd) : POp := fun tm ret => onStr (x tm) fun a => onStr (y tm) fun b => retB (xorB neg (natsEq a b)) ret
noncomputable def vEqFlat (neg : Bool) (ks : List Bool) (x y : Opd) : POp := fun tm ret => onAgg (x tm) fun a => onAgg (y tm) fun b =>
  iteR (andB (Nat.beq (lenS a) ks.length) (Nat.beq (lenS b) ks.length)) (Option.rec (motive := fun _ => R) none (fun c => retB (xorB neg c) ret) (flatEq ks a b)) none

/-! ### That read memory -/
noncomputable def objK (h : AH) (id : Path) (k : AO → R) : R := Option.rec (motive := fun _ => R) none k (T.get id h.g)
noncomputable def cellsK (h : AH) (id : Path) (k : T SV → Nat → R) : R := objK h id fun o => AO.rec (motive := fun _ => R) k (fun _ _ _ _ => none) k (fun _ _ _ _ => none) (fun _ => none) o
/-- to write them -/
noncomputable def cellsW (h : AH) (id : Path) (k : T SV → Nat → R) : R := objK h id fun o => AO.rec (motive := fun _ => R) k (fun _ _ _ _ => none) (fun _ _ => none) (fun _ _ _ _ => none) (fun _ => none) o
noncomputable def entsK (h : AH) (id : Path) (k : IntKind → List (Int × AV) → R) : R := objK h id fun o => AO.rec (motive := fun _ => R) (fun _ _ => none) (fun kd es _ _ => k kd es) (fun _ _ => none) (fun _ _ _ _ => none) (fun _ => none) o
noncomputable def mapK (h : AH) (id : Path) (k : IntKind → List (Int × AV) → List Nat → Nat → R) : R := objK h id fun o => AO.rec (motive := fun _ => R) (fun _ _ => none) k (fun _ _ => none) (fun _ _ _ _ => none) (fun _ => none) o
noncomputable def iterK (h : AH) (id : Path) (k : Path → Nat → List Nat → Nat → R) : R := objK h id fun o => AO.rec (motive := fun _ => R) (fun _ _ => none) (fun _ _ _ _ => none) (fun _ _ => none) k (fun _ => none) o
noncomputable def litK (h : AH) (id : Path) (k : List SV → R) : R := objK h id fun o => AO.rec (motive := fun _ => R) (fun _ _ => none) (fun _ _ _ _ => none) (fun _ _ => none) (fun _ _ _ _ => none) k o
noncomputable def cellK (t : T SV) (off : Nat) (k : SV → R) : R := pathK off fun p => Option.rec (motive := fun _ => R) none k (T.get p t)
noncomputable def rowK (t : T SV) (n : Nat) : Nat → (List SV → R) → R :=
  Nat.rec (motive := fun _ => Nat → (List SV → R) → R) (fun _ k => k []) (fun _ ih off k => cellK t off fun v => forceN (Nat.succ off) fun o => ih o fun l => k (v :: l)) n
/-- n cells from a place on -/
noncomputable def getK (h : AH) (id : Path) (off n : Nat) (k : List SV → R) : R := Nat.rec (motive := fun _ => R) (k []) (fun _ _ => cellsK h id fun t _ => rowK t n off k) n
noncomputable def rLoad1 (a : Opd) : ROp := fun tm h ret => onPtr (a tm) fun id off => cellsK h id fun t _ => cellK t off fun v => ret (.s v)
noncomputable def rLoadN (n : Nat) (a : Opd) : ROp := fun tm h ret => onPtr (a tm) fun id off => getK h id off n fun l => ret (.agg l)
noncomputable def findE (z : Int) (miss : R) (hit : AV → R) (es : List (Int × AV)) : R := List.rec (motive := fun _ => R) miss (fun e _ ih => iteR (eqI z e.1) (hit e.2) ih) es
noncomputable def okK (ok : Bool) (v : AV) (t : Bool) (ret : AV → R) : R :=
  Bool.rec (motive := fun _ => R) (ret v) (onAV v (fun s => ret (.tup [.s s, .s (.bool t)])) (fun l => ret (.tup [.agg l, .s (.bool t)])) (fun _ => none)) ok
noncomputable def rLookup (zero : AV) (ok : Bool) (m k : Opd) : ROp := fun tm h ret => onInt (k tm) fun kd z => onMap (m tm) (okK ok zero false ret) fun id => entsK h id fun kd' es => iteR (sameK kd kd') (findE z (okK ok zero false ret) (fun v => okK ok v true ret) es) none
noncomputable def rMlen (x : Opd) : ROp := fun tm h ret => onMap (x tm) (ret (.s (.int .i64 (.ofNat 0)))) fun id => entsK h id fun _ es => forceN es.length fun n => ret (.s (.int .i64 (.ofNat n)))
noncomputable def bytesK (l : List SV) : (List Nat → R) → R :=
  List.rec (motive := fun _ => (List Nat → R) → R) (fun k => k []) (fun v _ ih k => intS (fun kd z => iteR (Nat.beq (kindN kd) 4) (Int.rec (motive := fun _ => R) (fun n => iteR (Nat.ble n 255) (ih fun r => k (n :: r)) none) (fun _ => none) z) none) v) l
noncomputable def rB2S (x : Opd) : ROp := fun tm h ret => onSl (x tm) (ret (.s (.str []))) fun id off len _ _ => getK h id off len fun l => bytesK l fun b => ret (.s (.str b))

/-- a map of one entry -/
noncomputable def oneK (es : List (Int × AV)) (bs : List Nat) (k : Int → AV → Nat → R) : R :=
  List.rec (motive := fun _ => R) none (fun e es _ => List.rec (motive := fun _ => R) (List.rec (motive := fun _ => R) none (fun b bs _ => List.rec (motive := fun _ => R) (k e.1 e.2 b) (fun _ _ _ => none) bs) bs) (fun _ _ _ => none) es) es
/-- one alone -/
noncomputable def oneN (l : List Nat) (k : Nat → R) : R := List.rec (motive := fun _ => R) none (fun b bs _ => List.rec (motive := fun _ => R) (k b) (fun _ _ _ => none) bs) l
noncomputable def tv (v : AV) (k : TV → R) : R := onAV v (fun s => k (.s s)) (fun l => k (.agg l)) (fun _ => none)
/-- the entry at which a range stands, of a map that has no other -/
noncomputable def rEntry (x : Opd) : ROp := fun tm h ret => onPtr (x tm) fun id off => iteR (Nat.beq off 0) (iterK h id fun m _ seen last => mapK h m fun kd es bs clk =>
  oneN seen fun s => oneK es bs fun z v b => iteR (andB (Nat.beq s b) (Nat.beq clk last)) (tv v fun v => ret (.tup [.s (.int kd z), v])) none) none

/-! ### That make memory -/
noncomputable def lAlloc (zero : List SV) : LOp := fun _ id ret => ofListS zero 0 .l fun t => forceN (lenS zero) fun m => ret (.cells t m) (.s (.ptr id 0))
noncomputable def lBox (x : Opd) : LOp := fun tm id ret => onCells (x tm) fun cs => ofListS cs 0 .l fun t => forceN (lenS cs) fun m => ret (.cells t m) (.s (.ptr id 0))
noncomputable def timesS (zero : List SV) (n : Nat) : List SV := Nat.rec (motive := fun _ => List SV) [] (fun _ ih => appS zero ih) n
noncomputable def lRow (len esz : Nat) (zero : List SV) (ps : List (Nat × Nat × Opd)) : LOp := fun tm id ret =>
  wholeS (timesS zero len) fun z => fillK tm ps z fun cs => ofListS cs 0 .l fun t => forceN (lenS cs) fun m => ret (.cells t m) (.s (.sl id 0 len (some len) esz))
noncomputable def lLit (len esz : Nat) (zero : List SV) (ps : List (Nat × Nat × Opd)) : LOp := fun tm id ret =>
  wholeS (timesS zero len) fun z => fillK tm ps z fun cs => wholeS cs fun cs => ret (.lit cs) (.s (.sl id 0 len (some len) esz))
noncomputable def zerosK (zero : List SV) (n : Nat) (k : T SV → R) : R :=
  List.rec (motive := fun _ => R) (k .l) (fun v rest _ => List.rec (motive := fun _ => R) (repK v n n k) (fun _ _ _ => ofListS (timesS zero n) 0 .l k) rest) zero
noncomputable def okMake (l c bytes : Nat) : Bool := andB (andB (Nat.ble l c) (Nat.ble (Nat.mul c bytes) 140737488355328)) (Nat.ble (Nat.succ c) 9223372036854775808)
noncomputable def lMake (esz bytes : Nat) (zero : List SV) (len cap : Opd) : LOp := fun tm id ret => onNat (len tm) fun l => onNat (cap tm) fun c =>
  iteR (okMake l c bytes) (zerosK zero c fun t => forceN (Nat.mul c (lenS zero)) fun m => ret (.cells t m) (.s (.sl id 0 l (some c) esz))) none
noncomputable def lMap (kd : IntKind) : LOp := fun _ id ret => ret (.map kd [] [] 0) (.s (.map id))

/-! ### That write memory -/
noncomputable def onH (h : AH) (k : T AO → Nat → R) : R := AH.rec (motive := fun _ => R) k h
noncomputable def newK (h : AH) (o : AO) (k : Path → AH → R) : R := onH h fun g n => pathK n fun p => setO p g (some o) fun g => forceN (Nat.succ n) fun nx => k p ⟨g, nx⟩
noncomputable def putRow (l : List SV) : T SV → Nat → (T SV → R) → R :=
  List.rec (motive := fun _ => T SV → Nat → (T SV → R) → R) (fun t _ k => k t)
    (fun v _ ih t off k => pathK off fun p => Option.rec (motive := fun _ => R) none (fun _ => setS p t v fun t => forceN (Nat.succ off) fun o => ih t o k) (T.get p t)) l
noncomputable def storeK (h : AH) (id : Path) (off : Nat) (l : List SV) (k : AH → R) : R :=
  List.rec (motive := fun _ => R) (k h) (fun _ _ _ => cellsW h id fun t m => putRow l t off fun t => onH h fun g n => setO id g (some (.cells t m)) fun g => k ⟨g, n⟩) l
noncomputable def eStore (n : Nat) (a x : Opd) : EOp := fun tm h ret => onPtr (a tm) fun id off => onCells (x tm) fun l => iteR (Nat.beq (lenS l) n) (storeK h id off l fun h => ret undefA h) none
noncomputable def putE (z : Int) (v : AV) (es : List (Int × AV)) : (List (Int × AV) → R) → R :=
  List.rec (motive := fun _ => (List (Int × AV) → R) → R) (fun k => k [(z, v)]) (fun e es ih k => iteR (eqI z e.1) (k ((z, v) :: es)) (ih fun es => k (e :: es))) es
/-- the stamps and the clock, when an entry was put -/
noncomputable def bornK (es es' : List (Int × AV)) (bs : List Nat) (clk : Nat) (k : List Nat → Nat → R) : R :=
  iteR (Nat.beq es'.length es.length) (k bs clk) (wholeN (List.rec (motive := fun _ => List Nat) [clk] (fun b _ ih => b :: ih) bs) fun bs => forceN (Nat.succ clk) fun clk => k bs clk)
noncomputable def eMapPut (m kx v : Opd) : EOp := fun tm h ret => onInt (kx tm) fun k z => onMap (m tm) none fun id => mapK h id fun kd es bs clk => iteR (sameK k kd) (
  lookK (v tm) fun v => putE z v es fun es' => bornK es es' bs clk fun bs clk => onH h fun g n => setO id g (some (.map kd es' bs clk)) fun g => ret undefA ⟨g, n⟩) none
/-- the first step, or the last, of a range over a map of one entry or none -/
noncomputable def nextK (es : List (Int × AV)) (bs seen : List Nat) (since last : Nat) (over : R) (hit : Int → AV → Nat → R) : R :=
  List.rec (motive := fun _ => R)
    (List.rec (motive := fun _ => R) over (fun _ _ _ => oneK es bs fun z v b => iteR (Nat.ble (Nat.succ b) since) (hit z v b) none) es)
    (fun _ _ _ => oneN seen fun s => oneK es bs fun _ _ b => iteR (andB (Nat.beq s b) (Nat.ble (Nat.succ b) last)) over none) seen
/-- a row is marked as a constant's -/
noncomputable def eFreeze (x : Opd) : EOp := fun tm h ret => onSl (x tm) none fun id off len cap z => litK h id fun cs =>
  ofListS cs 0 .l fun t => forceN (lenS cs) fun m => onH h fun g n => setO id g (some (.cells t m)) fun g => ret (.s (.sl id off len cap z)) ⟨g, n⟩
noncomputable def eRange (x : Opd) : EOp := fun tm h ret => onMap (x tm) none fun id => mapK h id fun _ _ _ clk => newK h (.iter id clk [] clk) fun p h => ret (.s (.ptr p 0)) h
noncomputable def eNext (x : Opd) : EOp := fun tm h ret => onPtr (x tm) fun id off => iteR (Nat.beq off 0) (iterK h id fun m since seen last => mapK h m fun kd es bs clk =>
  nextK es bs seen since last (ret (.tup [.s (.bool false)]) h) fun z v b => onH h fun g n => setO id g (some (.iter m since [b] clk)) fun g => tv v fun v => ret (.tup [.s (.bool true), .s (.int kd z), v]) ⟨g, n⟩) none
noncomputable def okApp (z esz m bytes : Nat) : Bool := andB (andB (Nat.beq z esz) (andB (Nat.ble 1 esz) (Nat.ble 1 bytes))) (Nat.ble (Nat.mul m bytes) 35184372088832)
noncomputable def retNew (len esz : Nat) (t : T SV) (h : AH) (ret : AV → AH → R) : R := forceN len fun len => forceN (Nat.mul len esz) fun m => newK h (.cells t m) fun id h => ret (.s (.sl id 0 len none esz)) h
/-- in place, or anew: what it grew from is not looked at any more -/
noncomputable def growK (h : AH) (id : Path) (len n esz : Nat) (new : List SV) (ret : AV → AH → R) : R := cellsW h id fun t m =>
  forceN (Nat.mul len esz) fun o => iteR (Nat.ble m o) (ofListS new o t fun t => onH h fun g nx => setO id g none fun g => retNew (Nat.add len n) esz t ⟨g, nx⟩ ret) none
noncomputable def knownK (h : AH) (id : Path) (off len c n esz bytes : Nat) (new : List SV) (ret : AV → AH → R) : R :=
  iteR (Nat.ble (Nat.add len n) c) (forceN (Nat.add off (Nat.mul len esz)) fun o => storeK h id o new fun h => forceN (Nat.add len n) fun m => ret (.s (.sl id off m (some c) esz)) h)
    (iteR (Nat.ble (Nat.mul c bytes) 35184372088832) (getK h id off (Nat.mul len esz) fun old => ofListS (appS old new) 0 .l fun t => retNew (Nat.add len n) esz t h ret) none)
/-- n elements, whose cells are new, behind a slice -/
noncomputable def appendK (esz bytes : Nat) (h : AH) (s : AV) (n : Nat) (new : List SV) (ret : AV → AH → R) : R :=
  Nat.rec (motive := fun _ => R) (onSl s (ret (.s .snil) h) fun id off len cap z => Option.rec (motive := fun _ => R) (ret (.s (.sl id off len cap z)) h) (fun c => iteR (Nat.ble len c) (ret (.s (.sl id off len (some c) z)) h) none) cap)
    (fun _ _ => onSl s (iteR (okApp esz esz n bytes) (ofListS new 0 .l fun t => retNew n esz t h ret) none)
      fun id off len cap z => iteR (okApp z esz (Nat.add len n) bytes)
        (Option.rec (motive := fun _ => R) (iteR (Nat.beq off 0) (growK h id len n esz new ret) none) (fun c => knownK h id off len c n esz bytes new ret) cap) none) n
noncomputable def eAppend (esz bytes : Nat) (s x : Opd) : EOp := fun tm h ret => onSl (x tm) (appendK esz bytes h (s tm) 0 [] ret)
  fun id off len _ _ => getK h id off (Nat.mul len esz) fun l => appendK esz bytes h (s tm) len l ret
noncomputable def eAppendZ (esz bytes : Nat) (zero : List SV) (s x : Opd) : EOp := fun tm h ret => onNat (x tm) fun n => iteR (Nat.ble n 1048576) (wholeS (timesS zero n) fun l => appendK esz bytes h (s tm) n l ret) none
noncomputable def lenK (v : AV) (k : Nat → R) : R := onSl v (k 0) fun _ _ len _ _ => k len
noncomputable def eCopy (esz : Nat) (d s : Opd) : EOp := fun tm h ret => lenK (d tm) fun dn => lenK (s tm) fun sn =>
  forceN (Nat.min sn dn) fun n => onSl (s tm) (ret (.s (.int .i64 (.ofNat n))) h) fun id off _ _ _ => getK h id off (Nat.mul n esz) fun l =>
    onSl (d tm) (ret (.s (.int .i64 (.ofNat n))) h) fun id off _ _ _ => storeK h id off l fun h => ret (.s (.int .i64 (.ofNat n))) h
noncomputable def eClear (zero : List SV) (x : Opd) : EOp := fun tm h ret => onSl (x tm) (ret undefA h) fun id off len _ _ => wholeS (timesS zero len) fun l => storeK h id off l fun h => ret undefA h

/-! ### Code -/
inductive AStep where
  | pure (d : Path) (o : POp)
  | read (d : Path) (o : ROp)
  | alloc (d : Path) (o : LOp)
  | eff (d : Option Path) (o : EOp)
  | call (d : Option Path) (f : Nat) (args : List Opd)
  | callv (d : Option Path) (f : Opd) (args : List Opd)
  | bad (d : Option Path)

structure AOper where
  guard : Option (Path × Bool)
  step : AStep

/-- of a read in a region that draws its order: behind how many writing operations it comes at least, and at most -/
structure Mark where
  lo : Nat
  hi : Nat

structure DOper where
  place : Nat
  mark : Mark
  oper : AOper

inductive ACode where
  | skip
  | ops (l : List AOper)
  -- a region that draws its order: the operations in one order
  | draw (n : Nat) (l : List DOper)
  | seq (a b : ACode)
  | cond (c : Opd) (a b : ACode)
  | block (id : Nat) (b : ACode)
  | loop (b : ACode)
  | scope (b : ACode)
  | scopeIn (b rest : ACode)
  | label (l : Nat)
  | exit (id : Nat)
  | goto (l : Nat)
  | ret
  | bad

inductive AExit where
  | normal
  | exit (id : Nat)
  | goto (l : Nat)
  | ret

inductive ARes where
  | tmp (x : Opd)
  | cell (x : Opd) (n : Nat) (agg : Bool)

structure AFunc where
  nt : Nat
  body : ACode
  results : List ARes

abbrev CallT := Nat → List AV → AH → (AV → AH → R) → R
abbrev KT := AExit → Tm → AH → R
abbrev RunT := ACode → Tm → AH → KT → R

noncomputable def putK (d : Option Path) (v : AV) (tm : Tm) (k : Tm → R) : R := Option.rec (motive := fun _ => R) (k tm) (fun d => setV d tm v k) d

noncomputable def argsK (l : List Opd) (tm : Tm) : (List AV → R) → R :=
  List.rec (motive := fun _ => (List AV → R) → R) (fun k => k []) (fun x _ ih k => lookK (x tm) fun v => ih fun r => k (v :: r)) l

noncomputable def capArgs (l : List (Path × Nat)) : List AV := List.rec (motive := fun _ => List AV) [] (fun p _ ih => .s (.ptr p.1 p.2) :: ih) l

noncomputable def AStep.dst (s : AStep) : Option Path :=
  AStep.rec (motive := fun _ => Option Path) (fun d _ => some d) (fun d _ => some d) (fun d _ => some d) (fun d _ => d) (fun d _ _ => d) (fun d _ _ => d) (fun d => d) s

noncomputable def AStep.writes (s : AStep) : Bool :=
  AStep.rec (motive := fun _ => Bool) (fun _ _ => false) (fun _ _ => false) (fun _ _ => false) (fun _ _ => true) (fun _ _ _ => true) (fun _ _ _ => true) (fun _ => false) s

noncomputable def AStep.reads (s : AStep) : Bool :=
  AStep.rec (motive := fun _ => Bool) (fun _ _ => false) (fun _ _ => true) (fun _ _ => false) (fun _ _ => false) (fun _ _ _ => false) (fun _ _ _ => false) (fun _ => false) s

/-- one operation; in a region that draws its order new memory gets a number of its own -/
noncomputable def stepK (s : AStep) : CallT → Option Nat → Tm → AH → (Tm → AH → R) → R :=
  AStep.rec (motive := fun _ => CallT → Option Nat → Tm → AH → (Tm → AH → R) → R)
    (fun d o _ _ tm h k => o tm fun v => setV d tm v fun tm => k tm h)
    (fun d o _ _ tm h k => o tm h fun v => setV d tm v fun tm => k tm h)
    (fun d o _ id tm h k => onH h fun g n => Option.rec (motive := fun _ => R)
      (pathK n fun p => o tm p fun ob v => setO p g (some ob) fun g => forceN (Nat.succ n) fun nx => setV d tm v fun tm => k tm ⟨g, nx⟩)
      (fun i => pathK i fun p => o tm p fun ob v => setO p g (some ob) fun g => setV d tm v fun tm => k tm ⟨g, n⟩) id)
    (fun d o _ _ tm h k => o tm h fun v h => putK d v tm fun tm => k tm h)
    (fun d f args call _ tm h k => argsK args tm fun vs => call f vs h fun v h => putK d v tm fun tm => k tm h)
    (fun d f args call _ tm h k => onS (f tm) fun v => fnS (fun g caps => argsK args tm fun vs => iteR (Nat.ble 1000000 g)
      (forceN (Nat.sub g 1000000) fun g => call g (appV (capArgs caps) vs) h fun v h => putK d v tm fun tm => k tm h)
      (call g (appV vs (capArgs caps)) h fun v h => putK d v tm fun tm => k tm h)) v)
    (fun _ _ _ _ _ _ => none) s

noncomputable def guardK (g : Option (Path × Bool)) (tm : Tm) (yes no : R) : R :=
  Option.rec (motive := fun _ => R) yes (fun g => AV.rec (motive := fun _ => R)
    (fun v => SV.rec (motive := fun _ => R) (fun b => iteR (xorB b g.2) no yes) (fun _ _ => no) (fun _ => no) (fun _ _ => no) no (fun _ _ => no) no (fun _ _ _ _ _ => no) no (fun _ => no) (fun _ _ => no) no (fun _ => no) v)
    (fun _ => no) (fun _ => no) (gs g.1 tm)) g

noncomputable def operK (o : AOper) (call : CallT) (id : Option Nat) (tm : Tm) (h : AH) (k : Tm → AH → R) : R :=
  guardK o.guard tm (stepK o.step call id tm h k) (putK o.step.dst undefA tm fun tm => k tm h)

noncomputable def opsK (l : List AOper) (call : CallT) : Tm → AH → (Tm → AH → R) → R :=
  List.rec (motive := fun _ => Tm → AH → (Tm → AH → R) → R) (fun tm h k => k tm h) (fun o _ ih tm h k => operK o call none tm h fun tm h => ih tm h k) l

/-- the drawn region in its one order; the heaps behind each writing operation, the last first -/
noncomputable def drawK (l : List DOper) (call : CallT) (base : Nat) : Tm → AH → List AH → (Tm → AH → List AH → R) → R :=
  List.rec (motive := fun _ => Tm → AH → List AH → (Tm → AH → List AH → R) → R) (fun tm h hs k => k tm h hs)
    (fun x _ ih tm h hs k => forceN (Nat.add base x.place) fun i => operK x.oper call (some i) tm h fun tm h' => iteR x.oper.step.writes (ih tm h' (h' :: hs) k) (ih tm h' hs k)) l

def samePath : Path → Path → Bool
  | .z, .z => true
  | .a p, .a q => samePath p q
  | .b p, .b q => samePath p q
  | _, _ => false
def sameCaps : List (Path × Nat) → List (Path × Nat) → Bool
  | [], [] => true
  | (p, a) :: l, (q, b) :: r => samePath p q && Nat.beq a b && sameCaps l r
  | _, _ => false
noncomputable def sameS : SV → SV → Bool
  | .bool a, .bool b => eqB a b
  | .int k a, .int k' b => sameK k k' && eqI a b
  | .flt a, .flt b => Nat.beq a b
  | .cpx a b, .cpx c d => Nat.beq a c && Nat.beq b d
  | .pnil, .pnil => true
  | .snil, .snil => true
  | .mnil, .mnil => true
  | .fnil, .fnil => true
  | .ptr a b, .ptr c d => samePath a c && Nat.beq b d
  | .sl a b c d e, .sl a' b' c' d' e' => samePath a a' && Nat.beq b b' && Nat.beq c c' && Nat.beq e e' && (match d, d' with | none, none => true | some x, some y => Nat.beq x y | _, _ => false)
  | .map a, .map b => samePath a b
  | .str a, .str b => natsEq a b
  | .fn f l, .fn g r => Nat.beq f g && sameCaps l r
  | _, _ => false
noncomputable def sameL : List SV → List SV → Bool
  | [], [] => true
  | v :: l, u :: r => sameS v u && sameL l r
  | _, _ => false
noncomputable def sameV : AV → AV → Bool
  | .s a, .s b => sameS a b
  | .agg l, .agg r => sameL l r
  | _, _ => false

/-- is what a read brings the same in each heap in which it may come? -/
noncomputable def eachK (o : ROp) (tm : Tm) (v : AV) (hs : List AH) (k : R) : R :=
  List.rec (motive := fun _ => R) k (fun h _ ih => o tm h fun u => iteR (sameV u v) ih none) hs

noncomputable def checkK (tm : Tm) (hs : List AH) (l : List DOper) (k : R) : R :=
  List.rec (motive := fun _ => R) k (fun x _ ih =>
    AStep.rec (motive := fun _ => R) (fun _ _ => ih)
      (fun d o => iteR (Nat.beq x.mark.lo x.mark.hi) ih (guardK x.oper.guard tm (eachK o tm (gs d tm) ((hs.drop x.mark.lo).take (Nat.succ (Nat.sub x.mark.hi x.mark.lo))) ih) ih))
      (fun _ _ => ih) (fun _ _ => ih) (fun _ _ _ => ih) (fun _ _ _ => ih) (fun _ => ih) x.oper.step) l

def findL : ACode → Nat → Option ACode
  | .seq a b, l => match findL a l with
    | some rest => some (.seq rest b)
    | none => findL b l
  | .label l', l => if l' == l then some .skip else none
  | _, _ => none

noncomputable def resK (r : ARes) (tm : Tm) (h : AH) (k : AV → R) : R :=
  ARes.rec (motive := fun _ => R) (fun x => lookK (x tm) k) (fun x n agg => Bool.rec (motive := fun _ => R) (rLoad1 x tm h k) (rLoadN n x tm h k) agg) r

noncomputable def toTV (v : AV) (k : TV → R) : R := onAV v (fun s => k (.s s)) (fun l => k (.agg l)) (fun _ => none)

noncomputable def resultsK (l : List ARes) (tm : Tm) (h : AH) : (List TV → R) → R :=
  List.rec (motive := fun _ => (List TV → R) → R) (fun k => k []) (fun r _ ih k => resK r tm h fun v => toTV v fun v => ih fun l => k (v :: l)) l

noncomputable def resultK (l : List ARes) (tm : Tm) (h : AH) (k : AV → AH → R) : R :=
  List.rec (motive := fun _ => R) (k (.tup []) h) (fun r rest _ => List.rec (motive := fun _ => R) (resK r tm h fun v => k v h) (fun _ _ _ => resultsK l tm h fun vs => k (.tup vs) h) rest) l

noncomputable def doneK (rs : List ARes) (k : AV → AH → R) (e : AExit) : Tm → AH → R :=
  AExit.rec (motive := fun _ => Tm → AH → R) (fun tm h => resultK rs tm h k) (fun _ _ _ => none) (fun _ _ _ => none) (fun tm h => resultK rs tm h k) e

noncomputable def seqK (run : RunT) (b : ACode) (k : KT) (e : AExit) : Tm → AH → R :=
  AExit.rec (motive := fun _ => Tm → AH → R) (fun tm h => run b tm h k) (fun id => k (.exit id)) (fun l => k (.goto l)) (k .ret) e

noncomputable def blockK (id : Nat) (k : KT) (e : AExit) : Tm → AH → R :=
  AExit.rec (motive := fun _ => Tm → AH → R) (k .normal) (fun id' => Bool.rec (motive := fun _ => Tm → AH → R) (k (.exit id')) (k .normal) (Nat.beq id' id)) (fun l => k (.goto l)) (k .ret) e

noncomputable def scopeK (run : RunT) (b : ACode) (k : KT) (e : AExit) : Tm → AH → R :=
  AExit.rec (motive := fun _ => Tm → AH → R) (k .normal) (fun id => k (.exit id))
    (fun l => Option.rec (motive := fun _ => Tm → AH → R) (k (.goto l)) (fun rest tm h => run (.scopeIn b rest) tm h k) (findL b l)) (k .ret) e

abbrev SumT := Nat → Option (List AV → AH → (AV → AH → R) → R)

section
variable (prog : Nat → Option AFunc) (sums : SumT)

noncomputable def callK (run : RunT) : CallT := fun f args h k =>
  Option.rec (motive := fun _ => R)
    (Option.rec (motive := fun _ => R) none (fun fn => ofListV args 0 .l fun tm => run fn.body tm h (doneK fn.results k)) (prog f))
    (fun s => s args h k) (sums f)

noncomputable def FK (run : RunT) (c : ACode) : Tm → AH → KT → R :=
  ACode.rec (motive := fun _ => Tm → AH → KT → R)
    (fun tm h k => k .normal tm h)
    (fun l tm h k => opsK l (callK prog sums run) tm h (k .normal))
    (fun n l tm h k => onH h fun g b => forceN (Nat.add b n) fun nx => drawK l (callK prog sums run) b tm ⟨g, nx⟩ [⟨g, nx⟩] fun tm h' hs => checkK tm hs.reverse l (k .normal tm h'))
    (fun a b _ _ tm h k => run a tm h (seqK run b k))
    (fun c a b _ _ tm h k => onBool (c tm) fun t => Bool.rec (motive := fun _ => R) (run b tm h k) (run a tm h k) t)
    (fun id b _ tm h k => run b tm h (blockK id k))
    (fun b _ tm h k => run b tm h (seqK run (.loop b) k))
    (fun b _ tm h k => run b tm h (scopeK run b k))
    (fun b rest _ _ tm h k => run rest tm h (scopeK run b k))
    (fun _ tm h k => k .normal tm h)
    (fun id tm h k => k (.exit id) tm h)
    (fun l tm h k => k (.goto l) tm h)
    (fun tm h k => k .ret tm h)
    (fun _ _ _ => none) c

noncomputable def runK (n : Nat) : RunT := Nat.rec (motive := fun _ => RunT) (fun _ _ _ _ => none) (fun _ ih => FK prog sums ih) n

/-- a call by itself -/
noncomputable def callOf (n f : Nat) (args : List AV) (h : AH) : R := callK prog sums (runK prog sums n) f args h fun v h => some (v, h)
end

/-! ### From the model's code -/
/-- the path of a number, for the compiler -/
def tpF : Nat → Nat → Path
  | 0, _ => .z
  | f + 1, i => match i with
    | 0 => .z
    | m + 1 => match m % 2 with
      | 0 => .a (tpF f (m / 2))
      | _ => .b (tpF f (m / 2))

def tp (i : Nat) : Path := tpF (i + 1) i

noncomputable section
variable (P : Program)

def SV.ofValue : Value → Option SV
  | .bool b => some (.bool b)
  | .int k n => some (.int k n)
  | .float .f64 b => some (.flt b)
  | .complex .f64 a b => some (.cpx a b)
  | .pointer none => some .pnil
  | .slice none 0 0 => some .snil
  | .map none => some .mnil
  | .nilFunc => some .fnil
  | .string s => some (.str (s.data.toList.map UInt8.toNat))
  | _ => none

def SV.ofCells : List Value → Option (List SV)
  | [] => some []
  | v :: l => match SV.ofValue v, SV.ofCells l with
    | some a, some r => some (a :: r)
    | _, _ => none

def AV.ofConst : Value → Option AV
  | .agg cs => (SV.ofCells cs.toList).map .agg
  | v => (SV.ofValue v).map .s

/-- an operand that is always the same -/
def kv (v : AV) : Opd := fun _ => v

def opd : Operand → Option Opd
  | .tmp t => some (gs (tp t))
  | .const v => (AV.ofConst v).map kv
  | .func f => if f < 1000000 then some (kv (.s (.fn f []))) else none
  | .global _ => none

def opds (l : List Operand) : Option (List Opd) :=
  match l with
  | [] => some []
  | x :: l => match opd x, opds l with
    | some a, some r => some (a :: r)
    | _, _ => none

def optOpd : Option Operand → Option (Option Opd)
  | none => some none
  | some x => (opd x).map some

def sizeT (t : TypeId) : Option Nat := (P.info? t).map (·.size)
def bytesT (t : TypeId) : Option Nat := (P.info? t).map (·.bytes)
def zeroT (t : TypeId) : Option (List SV) :=
  match (P.info? t).bind (·.zero) with
  | some z => SV.ofCells z.cells.toList
  | none => none
def aggT (t : TypeId) : Option Bool :=
  match P.underlying t with
  | some (.struct _) | some (.array _ _) => some true
  | some _ => some false
  | none => none

/-- are a struct's fields whole numbers (true) or bools (false), or such structs, one behind the other? -/
def flatT : Nat → TypeId → Option (List Bool)
  | 0, _ => none
  | d + 1, t =>
    match P.underlying t with
    | some (.int _) => if sizeT P t == some 1 then some [true] else none
    | some .bool => if sizeT P t == some 1 then some [false] else none
    | some (.struct fs) =>
      match fs.toList.foldl (init := some []) fun acc f => match acc with
        | some ks => if f.name ≠ "_" ∧ f.offset = ks.length then (flatT d f.type).map (ks ++ ·) else none
        | none => none with
      | some ks => if P.stoodInHeld t = false ∧ sizeT P t = some ks.length then some ks else none
      | none => none
    | _ => none

def bad (_ : String) : AStep := .bad none

def purO (d : Option Path) (o : POp) : AStep :=
  match d with
  | some d => .pure d o
  | none => bad "no place"

def reaO (d : Option Path) (o : ROp) : AStep :=
  match d with
  | some d => .read d o
  | none => bad "no place"

def allO (d : Option Path) (o : LOp) : AStep :=
  match d with
  | some d => .alloc d o
  | none => bad "no place"

def binStep (op : BinOp) (t : TypeId) (x y : Opd) (d : Option Path) : AStep :=
  match P.underlying t, op with
  | some (.int _), .add => purO d (vAdd x y)
  | some (.int _), .sub => purO d (vSub x y)
  | some (.int _), .mul => purO d (vMul x y)
  | some (.int _), .quo => purO d (vQuo x y)
  | some (.int _), .rem => purO d (vRem x y)
  | some (.int _), .and => purO d (vAnd x y)
  | some (.int _), .or => purO d (vOr x y)
  | some (.int _), .xor => purO d (vXor x y)
  | some (.int _), .andNot => purO d (vAndNot x y)
  | some (.int _), .shl => purO d (vShl x y)
  | some (.int _), .shr => purO d (vShr x y)
  | some (.int _), .eql => purO d (vEqI x y)
  | some (.int _), .neq => purO d (vNeI x y)
  | some (.int _), .lss => purO d (vLt x y)
  | some (.int _), .leq => purO d (vLe x y)
  | some (.int _), .gtr => purO d (vGt x y)
  | some (.int _), .geq => purO d (vGe x y)
  | some (.float .f64), .add => purO d (vArF .add x y)
  | some (.float .f64), .sub => purO d (vArF .sub x y)
  | some (.float .f64), .mul => purO d (vArF .mul x y)
  | some (.float .f64), .quo => purO d (vArF .quo x y)
  | some (.float .f64), .eql => purO d (vCmF .eql x y)
  | some (.float .f64), .neq => purO d (vCmF .neq x y)
  | some (.float .f64), .lss => purO d (vCmF .lss x y)
  | some (.float .f64), .leq => purO d (vCmF .leq x y)
  | some (.float .f64), .gtr => purO d (vCmF .gtr x y)
  | some (.float .f64), .geq => purO d (vCmF .geq x y)
  | some (.complex .f64), .add => purO d (vArC .add x y)
  | some (.complex .f64), .sub => purO d (vArC .sub x y)
  | some (.complex .f64), .eql => purO d (vEqC x y)
  | some (.complex .f64), .neq => purO d (vNeC x y)
  | some .bool, .eql => purO d (vEqB false x y)
  | some .bool, .neq => purO d (vEqB true x y)
  | some (.pointer _), .eql => purO d (vEqN false 0 x y)
  | some (.pointer _), .neq => purO d (vEqN true 0 x y)
  | some (.slice _), .eql => purO d (vEqN false 2 x y)
  | some (.slice _), .neq => purO d (vEqN true 2 x y)
  | some (.map ..), .eql => purO d (vEqN false 4 x y)
  | some (.map ..), .neq => purO d (vEqN true 4 x y)
  | some (.func ..), .eql => purO d (vEqN false 6 x y)
  | some (.func ..), .neq => purO d (vEqN true 6 x y)
  | some .string, .eql => purO d (vEqStr false x y)
  | some .string, .neq => purO d (vEqStr true x y)
  | some (.struct _), .eql => if P.eqGuardType P.depth t then bad "==" else match flatT P 20 t with
    | some ks => purO d (vEqFlat false ks x y)
    | none => bad "=="
  | some (.struct _), .neq => if P.eqGuardType P.depth t then bad "!=" else match flatT P 20 t with
    | some ks => purO d (vEqFlat true ks x y)
    | none => bad "!="
  | some (.complex .f64), .mul => purO d (vMulC x y)
  | _, _ => bad "binOp"

def partsOf (place : Nat → Option (Nat × Nat)) : List (Nat × Operand) → Option (List (Nat × Nat × Opd))
  | [] => some []
  | (i, x) :: rest => match place i, opd x, partsOf place rest with
    | some (off, size), some x, some r => some ((off, size, x) :: r)
    | _, _, _ => none

def callStep (c : Call) (d : Option Path) : AStep :=
  match c.callee with
  | .value (.func f) => if 1000000 ≤ f then bad "number" else
    match P.funcs[f]? with
    | some fn =>
      if fn.body.isNone then
        match fn.name, opds c.args.toList with
        | "math.archFloor", some [x] => purO d (vExt .down x)
        | "math.archTrunc", some [x] => purO d (vExt .zero x)
        | _, _ => bad "a function without a body"
      else match opds c.args.toList with
        | some args => .call d f args
        | none => bad "args"
    | none => bad "no function"
  | .value f => match opd f, opds c.args.toList with
    | some f, some args => .callv d f args
    | _, _ => bad "callv"
  | .builtin b =>
    match b, opds c.args.toList, c.argTypes.toList with
    | .append, some [s, x], st :: xt :: _ => match P.underlying st, P.underlying xt with
      | some (.slice e), some (.slice _) => match sizeT P e, bytesT P e, zeroT P e with
        | some z, some y, some o => if o.length = z then .eff d (eAppend z y s x) else bad "append"
        | _, _, _ => bad "append"
      | some (.slice e), some (.int .i64) => match sizeT P e, bytesT P e, zeroT P e with
        | some z, some y, some o => if o.length = z then .eff d (eAppendZ z y o s x) else bad "append"
        | _, _, _ => bad "append"
      | _, _ => bad "append"
    | .len, some [x], t :: _ => match P.underlying t with
      | some (.slice _) => purO d (vLen x)
      | some (.map ..) => reaO d (rMlen x)
      | _ => bad "len"
    | .cap, some [x], t :: _ => match P.underlying t with
      | some (.slice _) => purO d (vCap x)
      | _ => bad "cap"
    | .copy, some [y, s], t :: u :: _ => match P.underlying t, P.underlying u with
      | some (.slice e), some (.slice _) => match sizeT P e with
        | some z => .eff d (eCopy z y s)
        | none => bad "copy"
      | _, _ => bad "copy"
    | .clear, some [x], t :: _ => match P.underlying t with
      | some (.slice e) => match zeroT P e with
        | some o => .eff d (eClear o x)
        | none => bad "clear"
      | _ => bad "clear"
    | .min, some (x :: xs), _ => purO d (vMinMax false x xs)
    | .max, some (x :: xs), _ => purO d (vMinMax true x xs)
    | .complex, some [x, y], _ => purO d (vCpx x y)
    | .real, some [x], _ => purO d (vRe x)
    | .imag, some [x], _ => purO d (vIm x)
    | _, _, _ => bad "builtin"
  | _ => bad "invoke"

def convStep (src dst : TypeId) (x : Opd) (d : Option Path) : AStep :=
  match P.underlying src, P.underlying dst with
  | some (.int _), some (.int k) => purO d (vI2I k x)
  | some (.int _), some (.float .f64) => purO d (vI2F x)
  | some (.float .f64), some (.int k) => purO d (vF2I k x)
  | some (.slice e), some .string => match P.underlying e with
    | some (.int .u8) => reaO d (rB2S x)
    | _ => bad "convert"
  | some (.slice _), some (.slice e) => match decide (src = dst), P.underlying e with
    | true, some (.int .u8) => .eff d (eFreeze x)
    | _, _ => bad "convert"
  | _, _ => bad "convert"

def stepOf (o : Op) (d : Option Path) : AStep :=
  match o with
  | .move x | .assign x => match opd x with
    | some x => purO d (vMove x)
    | none => bad "move"
  | .pick c a b => match opd c, opd a, opd b with
    | some c, some a, some b => purO d (vPick c a b)
    | _, _, _ => bad "pick"
  | .alloc t => match zeroT P t with
    | some z => allO d (lAlloc z)
    | none => bad "alloc"
  | .box _ x => match opd x with
    | some x => allO d (lBox x)
    | none => bad "box"
  | .build t parts => match P.underlying t, zeroT P t with
    | some (.struct fs), some z =>
      match partsOf (fun i => match fs[i]? with | some f => (sizeT P f.type).map (f.offset, ·) | none => none) parts.toList with
      | some ps => if fs.all (fun f => (sizeT P f.type).isSome) then purO d (vBuild z ps) else bad "build"
      | none => bad "build"
    | some (.array _ e), some z => match sizeT P e with
      | some s => match partsOf (fun i => some (i * s, s)) parts.toList with
        | some ps => purO d (vBuild z ps)
        | none => bad "build"
      | none => bad "build"
    | _, _ => bad "build"
  | .buildSlice t len parts => match P.underlying t with
    | some (.slice e) => match sizeT P e, zeroT P e with
      | some s, some z => match partsOf (fun i => some (i * s, s)) parts.toList with
        | some ps => if len * s ≤ 16777216 ∧ z.length = s then allO d (lRow len s z ps) else bad "buildSlice"
        | none => bad "buildSlice"
      | _, _ => bad "buildSlice"
    | _ => bad "buildSlice"
  | .load t a => match opd a, aggT P t, sizeT P t with
    | some a, some false, some _ => reaO d (rLoad1 a)
    | some a, some true, some n => reaO d (rLoadN n a)
    | _, _, _ => bad "load"
  | .store t a x => match opd a, opd x, sizeT P t with
    | some a, some x, some n => .eff d (eStore n a x)
    | _, _, _ => bad "store"
  | .nilCheck x => match opd x with
    | some x => purO d (vNil x)
    | none => bad "nilCheck"
  | .binOp op t x y _ => match opd x, opd y with
    | some x, some y => binStep P op t x y d
    | _, _ => bad "binOp operands"
  | .unOp op t x => match op, opd x, P.underlying t with
    | .not, some x, _ => purO d (vNot x)
    | .neg, some x, some (.int _) => purO d (vNegI x)
    | .neg, some x, some (.float .f64) => purO d (vNegF x)
    | .neg, some x, some (.complex .f64) => purO d (vNegC x)
    | _, _, _ => bad "unOp"
  | .convert src dst x => match opd x with
    | some x => convStep P src dst x d
    | none => bad "convert"
  | .makeFunc (.func f) first caps => match first.isEmpty, opds caps.toList with
    | true, some cs => if f < 1000000 then purO d (vFn f cs) else bad "makeFunc"
    | false, some [] => match first.toList with
      | [x] => match opd x with
        | some x => purO d (vBnd f x)
        | none => bad "makeFunc"
      | _ => bad "makeFunc"
    | _, _ => bad "makeFunc"
  | .makeMap t none => match P.underlying t with
    | some (.map kt _) => match P.underlying kt with
      | some (.int kd) => allO d (lMap kd)
      | _ => bad "makeMap"
    | _ => bad "makeMap"
  | .makeSlice t l c => match P.underlying t, opd l, opd c with
    | some (.slice e), some l, some c => match sizeT P e, bytesT P e, zeroT P e with
      | some s, some y, some z => if z.length = s then allO d (lMake s y z l c) else bad "makeSlice"
      | _, _, _ => bad "makeSlice"
    | _, _, _ => bad "makeSlice"
  | .slice t x lo hi none => match P.underlying t, opd x, optOpd lo, optOpd hi with
    | some (.slice e), some x, some lo, some hi => match sizeT P e with
      | some s => purO d (vSlice s x lo hi)
      | none => bad "slice"
    | _, _, _, _ => bad "slice"
  | .fieldAddr t x f => match P.underlying t, opd x with
    | some (.struct fs), some x => match fs[f]? with
      | some fd => match sizeT P fd.type with
        | some (_ + 1) => purO d (vFld fd.offset x)
        | _ => bad "fieldAddr"
      | none => bad "fieldAddr"
    | _, _ => bad "fieldAddr"
  | .field t x f => match P.underlying t, opd x with
    | some (.struct fs), some x => match fs[f]? with
      | some fd => match sizeT P fd.type, aggT P fd.type with
        | some s, some g => purO d (vField fd.offset s g x)
        | _, _ => bad "field"
      | none => bad "field"
    | _, _ => bad "field"
  | .indexAddr t x i => match P.underlying t, opd x, opd i with
    | some (.slice e), some x, some i => match sizeT P e with
      | some s => purO d (vIdxS s x i)
      | none => bad "indexAddr"
    | some (.array n e), some x, some i => match sizeT P e with
      | some s => purO d (vIdxA n s x i)
      | none => bad "indexAddr"
    | _, _, _ => bad "indexAddr"
  | .index t x i => match P.underlying t, opd x, opd i with
    | some (.array n e), some x, some i => match sizeT P e, aggT P e with
      | some s, some g => purO d (vIndex n s g x i)
      | _, _ => bad "index"
    | _, _, _ => bad "index"
  | .lookup t m k ok => match P.underlying t, opd m, opd k with
    | some (.map kt e), some m, some k => match P.underlying kt, (P.info? e).bind (·.zero) with
      | some (.int _), some z => match AV.ofConst z with
        | some z => reaO d (rLookup z ok m k)
        | none => bad "lookup"
      | _, _ => bad "lookup"
    | _, _, _ => bad "lookup"
  | .mapUpdate t m k v => match P.underlying t, opd m, opd k, opd v with
    | some (.map kt _), some m, some k, some v => match P.underlying kt with
      | some (.int _) => .eff d (eMapPut m k v)
      | _ => bad "mapUpdate"
    | _, _, _, _ => bad "mapUpdate"
  | .range t x => match P.underlying t, opd x with
    | some (.map ..), some x => .eff d (eRange x)
    | _, _ => bad "range"
  | .next x false => match opd x with
    | some x => .eff d (eNext x)
    | none => bad "next"
  | .entry x => match opd x with
    | some x => reaO d (rEntry x)
    | none => bad "entry"
  | .extract x i => match opd x with
    | some x => purO d (vExtract x i)
    | none => bad "extract"
  | .call c => callStep P c d
  | _ => bad "op"

def stepD (o : Op) (d : Option Path) : AStep :=
  match stepOf P o d with
  | .bad _ => .bad d
  | s => s

/-- a row that is marked behind it -/
def stepL (lit : Bool) (o : Op) (d : Option Path) : AStep :=
  match lit, o with
  | true, .buildSlice t len parts => match P.underlying t with
    | some (.slice e) => match sizeT P e, zeroT P e with
      | some s, some z => match partsOf (fun i => some (i * s, s)) parts.toList with
        | some ps => if len * s ≤ 16777216 ∧ z.length = s then (match d with | some d => .alloc d (lLit len s z ps) | none => .bad none) else .bad d
        | none => .bad d
      | _, _ => .bad d
    | _ => .bad d
  | _, o => stepD P o d

def litOf (ops : Array Oper) (o : Oper) : Bool := ops.any fun q => match q.op with
  | .convert a b (.tmp t) => decide (a = b) && o.dst == some t
  | _ => false

def operOf (ops : Array Oper) (o : Oper) : AOper :=
  match o.guard with
  | none => { guard := none, step := stepL P (litOf ops o) o.op (o.dst.map tp) }
  | some (j, w) => match (ops[j]?).bind (·.dst) with
    | some t => { guard := some (tp t, w), step := stepL P (litOf ops o) o.op (o.dst.map tp) }
    | none => { guard := none, step := .bad (o.dst.map tp) }

def bits (m : Nat) (n : Nat) : List Nat := (List.range n).filter fun i => m.testBit i

/-- the one order: ahead of each writing operation only what must stand ahead of it -/
def canon (bef : List Nat) (writes : List Nat) (n : Nat) : List Nat :=
  let go := writes.foldl (init := (([] : List Nat), (0 : Nat))) fun (acc, done) e =>
    let need := bef.getD e 0
    let new := (bits need n).filter fun i => !done.testBit i
    (acc ++ new ++ [e], done ||| need ||| 2 ^ e)
  go.1 ++ (bits (2 ^ n - 1) n).filter fun i => !go.2.testBit i

/-- what must stand ahead of each operation -/
def befores : List Oper → List Nat → List Nat
  | [], acc => acc
  | o :: l, acc => befores l (acc ++ [o.after.toList.foldl (fun s e => if Region.binds .any e then s ||| 2 ^ e.on ||| acc.getD e.on 0 else s) 0])

/-- which slot is written where -/
def writers : List Oper → Nat → List (Nat × Nat)
  | [], _ => []
  | o :: l, i => match o.dst with
    | some d => (d, i) :: writers l (i + 1)
    | none => writers l (i + 1)

def distinct : List (Nat × Nat) → Bool
  | [] => true
  | x :: l => (l.all fun y => !(Nat.beq y.1 x.1)) && distinct l

/-- is what an operation looks at written ahead of it, or behind it, wherever it is written? -/
def looksOk (ops : Array Oper) (bef : List Nat) (wr : List (Nat × Nat)) (i : Nat) (o : Oper) : Bool :=
  (o.looksAt ops).all fun t => wr.all fun y => !(Nat.beq y.1 t) || (bef.getD i 0).testBit y.2 || (bef.getD y.2 0).testBit i
/-- is it written ahead? -/
def looksAll (ops : Array Oper) (bef : List Nat) (wr : List (Nat × Nat)) (i : Nat) (o : Oper) : Bool :=
  (o.looksAt ops).all fun t => wr.all fun y => !(Nat.beq y.1 t) || (bef.getD i 0).testBit y.2

def behind (ws : List Nat) (b : Nat) : Nat → Bool
  | 0 => true
  | l + 1 => match ws[l]? with
    | some e => b.testBit e
    | none => false

/-- does the one order stand for all? -/
def chkD (ops : Array Oper) (bef ws : List Nat) (wr : List (Nat × Nat)) (n : Nat) : List DOper → Nat → Nat → Bool
  | [], done, k => Nat.beq done (2 ^ n - 1) && Nat.beq ws.length k
  | x :: l, done, k =>
    Nat.blt x.place n && !(done.testBit x.place) && Nat.beq (Nat.land (bef.getD x.place 0) done) (bef.getD x.place 0) &&
    (match ops[x.place]? with | some o => looksOk ops bef wr x.place o && (!x.oper.step.reads || Nat.beq x.mark.lo x.mark.hi || looksAll ops bef wr x.place o) | none => false) &&
    (match x.oper.step.writes with
      | true => Nat.beq (Nat.land done (bef.getD x.place 0)) done && (ws[k]? == some x.place) && chkD ops bef ws wr n l (done ||| 2 ^ x.place) (k + 1)
      | false => Nat.beq x.mark.hi k && Nat.ble x.mark.lo k && behind ws (bef.getD x.place 0) x.mark.lo && chkD ops bef ws wr n l (done ||| 2 ^ x.place) k)

def writesOf (aops : List AOper) (n : Nat) : List Nat := (List.range n).filter fun i => match aops[i]? with | some o => o.step.writes | none => false
def markOf (bef ws : List Nat) (i : Nat) : Mark :=
  { lo := (ws.filter fun e => (bef.getD i 0).testBit e).length
    hi := ws.length - (ws.filter fun e => (bef.getD e 0).testBit i).length }
def drawList (aops : List AOper) (bef ws : List Nat) (n : Nat) : List DOper := (canon bef ws n).filterMap fun i => (aops[i]?).map fun o => ⟨i, markOf bef ws i, o⟩

def drawOf2 (ops : Array Oper) (bef ws : List Nat) (wr : List (Nat × Nat)) (l : List DOper) : ACode :=
  match chkD ops bef ws wr ops.size l 0 0 && distinct wr with
  | true => .draw ops.size l
  | false => .bad

def drawOf (ops : Array Oper) : ACode :=
  let bef := befores ops.toList []
  let aops := ops.toList.map (operOf P ops)
  let ws := writesOf aops ops.size
  drawOf2 ops bef ws (writers ops.toList 0) (drawList aops bef ws ops.size)

def codeOf : Code → ACode
  | .skip => .skip
  | .region _ ops d => if d then drawOf P ops else .ops (ops.toList.map (operOf P ops))
  | .seq a b => .seq (codeOf a) (codeOf b)
  | .cond c a b => match opd c with
    | some c => .cond c (codeOf a) (codeOf b)
    | none => .bad
  | .block id b => .block id (codeOf b)
  | .loop b => .loop (codeOf b)
  | .scope b => .scope (codeOf b)
  | .label l => .label l
  | .exit id => .exit id
  | .goto l => .goto l
  | .ret => .ret
  | _ => .bad

def resOf : ResultVar → Option ARes
  | .tmp t => some (.tmp (gs (tp t)))
  | .cell t ty => match sizeT P ty, aggT P ty with
    | some n, some g => some (.cell (gs (tp t)) n g)
    | _, _ => none

def resultsOf : List ResultVar → Option (List ARes)
  | [] => some []
  | r :: rs => match resOf P r, resultsOf rs with
    | some a, some l => some (a :: l)
    | _, _ => none

/-- do all operations of a code write to slots below n? -/
def dstsOk (n : Nat) : Code → Bool
  | .region _ ops _ => ops.toList.all fun o => match o.dst with | some d => Nat.blt d n | none => true
  | .seq a b => dstsOk n a && dstsOk n b
  | .cond _ a b => dstsOk n a && dstsOk n b
  | .block _ b => dstsOk n b
  | .loop b => dstsOk n b
  | .scope b => dstsOk n b
  | _ => true

def funcOf (f : Func) : Option AFunc :=
  match f.body, resultsOf P f.results.toList with
  | some c, some rs => if dstsOk f.ntmps c ∧ f.name ≠ "runtime.NumGoroutine" then some { nt := f.ntmps, body := codeOf P c, results := rs } else none
  | _, _ => none
end

end Go.Bb
