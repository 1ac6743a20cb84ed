/- An abstract machine over the model's own code: values without capacities, an abstract heap, no draws. Written so that the kernel runs it: recursors, continuations, closures behind structures. -/
import Derived.Orders
noncomputable section
namespace Go.Am

inductive Pos where
  | xH
  | xO (p : Pos)
  | xI (p : Pos)
  deriving Inhabited

def Pos.succ (p : Pos) : Pos := Pos.rec (motive := fun _ => Pos) (.xO .xH) (fun p _ => .xI p) (fun _ s => .xO s) p
def Pos.succK (p : Pos) : (Pos → Bool) → Bool :=
  Pos.rec (motive := fun _ => (Pos → Bool) → Bool) (fun k => k (.xO .xH)) (fun p _ k => k (.xI p)) (fun _ ih k => ih fun q => k (.xO q)) p
def Pos.eq (p : Pos) : Pos → Bool :=
  Pos.rec (motive := fun _ => Pos → Bool)
    (fun q => Pos.rec (motive := fun _ => Bool) true (fun _ _ => false) (fun _ _ => false) q)
    (fun _ ih q => Pos.rec (motive := fun _ => Bool) false (fun q' _ => ih q') (fun _ _ => false) q)
    (fun _ ih q => Pos.rec (motive := fun _ => Bool) false (fun _ _ => false) (fun q' _ => ih q') q) p
/-- a number as a place, in so many digits at most -/
def posF (f : Nat) : Nat → Pos :=
  Nat.rec (motive := fun _ => Nat → Pos) (fun _ => .xH)
    (fun _ ih k => Bool.rec (motive := fun _ => Pos) (Bool.rec (motive := fun _ => Pos) (.xI (ih (k / 2))) (.xO (ih (k / 2))) (Nat.beq (k % 2) 0)) .xH (Nat.ble k 1)) f
def posOf (t : Nat) : Pos := posF 20 (t + 1)

inductive PT (α : Type) where
  | L
  | N (l : PT α) (v : Option α) (r : PT α)
  deriving Inhabited

def PT.getK {α : Type} (p : Pos) : PT α → (α → Bool) → Bool :=
  Pos.rec (motive := fun _ => PT α → (α → Bool) → Bool)
    (fun t k => PT.rec (motive := fun _ => Bool) false (fun _ v _ _ _ => Option.rec (motive := fun _ => Bool) false k v) t)
    (fun _ ih t k => PT.rec (motive := fun _ => Bool) false (fun l _ _ _ _ => ih l k) t)
    (fun _ ih t k => PT.rec (motive := fun _ => Bool) false (fun _ _ r _ _ => ih r k) t) p

def PT.setK {α : Type} (p : Pos) (x : Option α) : PT α → (PT α → Bool) → Bool :=
  Pos.rec (motive := fun _ => PT α → (PT α → Bool) → Bool)
    (fun t k => PT.rec (motive := fun _ => Bool) (k (.N .L x .L)) (fun l _ r _ _ => k (.N l x r)) t)
    (fun _ ih t k => PT.rec (motive := fun _ => Bool) (ih .L fun l' => k (.N l' none .L)) (fun l v r _ _ => ih l fun l' => k (.N l' v r)) t)
    (fun _ ih t k => PT.rec (motive := fun _ => Bool) (ih .L fun r' => k (.N .L none r')) (fun l v r _ _ => ih r fun r' => k (.N l v r')) t) p

/-- the same, with an answer where nothing is -/
def PT.lookK {α : Type} (none : Bool) (p : Pos) : PT α → (α → Bool) → Bool :=
  Pos.rec (motive := fun _ => PT α → (α → Bool) → Bool)
    (fun t k => PT.rec (motive := fun _ => Bool) none (fun _ v _ _ _ => Option.rec (motive := fun _ => Bool) none k v) t)
    (fun _ ih t k => PT.rec (motive := fun _ => Bool) none (fun l _ _ _ _ => ih l k) t)
    (fun _ ih t k => PT.rec (motive := fun _ => Bool) none (fun _ _ r _ _ => ih r k) t) p

/-- Abstract values: addresses are (identity, offset in cells); a slice's capacity is known or not. -/
inductive AV where
  | b (x : Bool)
  | i (k : IntKind) (n : Int)
  | s (l : List Nat)
  | nilp
  | ptr (id : Pos) (off : Nat)
  | nilsl
  | sl (id : Pos) (off len : Nat) (cap : Option Nat) (esz : Nat)
  | nilmp
  | mp (id : Pos)
  | nilfn
  | fn (f : Fn) (first captured : List AV)
  | nilif
  | ifc (t : TypeId) (v : AV)
  | agg (l : List AV)
  | tup (l : List AV)
  deriving Inhabited

inductive ABlk where
  | cells (elem : TypeId) (l : List AV)
  | mp (es : List (AV × AV))
  /-- cells that are only read -/
  | ro (elem : TypeId) (l : List AV)
  deriving Inhabited

abbrev Env := PT AV
abbrev Hp := PT ABlk

def undefA : AV := .tup []

/-! eliminators -/
def oK {α : Type} (x : Option α) (k : α → Bool) : Bool := Option.rec (motive := fun _ => Bool) false k x
def bK (x : Bool) (t f : Bool) : Bool := Bool.rec (motive := fun _ => Bool) f t x
/-- t where x holds, else no answer -/
def wK (x : Bool) (t : Bool) : Bool := Bool.rec (motive := fun _ => Bool) false t x

/-! forcing: the kernel then carries values, not what they came of -/
def fNat (n : Nat) (k : Nat → Bool) : Bool := Nat.rec (motive := fun _ => Bool) (k 0) (fun m _ => k (Nat.succ m)) n
def fInt (n : Int) (k : Int → Bool) : Bool := Int.rec (motive := fun _ => Bool) (fun m => fNat m fun m' => k (.ofNat m')) (fun m => fNat m fun m' => k (.negSucc m')) n
def fB (x : Bool) (k : AV → Bool) : Bool := Bool.rec (motive := fun _ => Bool) (k (.b false)) (k (.b true)) x

def ieq (a b : Int) : Bool :=
  Int.rec (motive := fun _ => Bool) (fun m => Int.rec (motive := fun _ => Bool) (fun n => Nat.beq m n) (fun _ => false) b)
    (fun m => Int.rec (motive := fun _ => Bool) (fun _ => false) (fun n => Nat.beq m n) b) a
def ile (a b : Int) : Bool :=
  Int.rec (motive := fun _ => Bool) (fun m => Int.rec (motive := fun _ => Bool) (fun n => Nat.ble m n) (fun _ => false) b)
    (fun m => Int.rec (motive := fun _ => Bool) (fun _ => true) (fun n => Nat.ble n m) b) a
def notB (x : Bool) : Bool := Bool.rec (motive := fun _ => Bool) true false x
def leq (a : List Nat) : List Nat → Bool :=
  List.rec (motive := fun _ => List Nat → Bool)
    (fun b => List.rec (motive := fun _ => Bool) true (fun _ _ _ => false) b)
    (fun x _ ih b => List.rec (motive := fun _ => Bool) false (fun y b' _ => wK (Nat.beq x y) (ih b')) b) a
def llt (a : List Nat) : List Nat → Bool :=
  List.rec (motive := fun _ => List Nat → Bool)
    (fun b => List.rec (motive := fun _ => Bool) false (fun _ _ _ => true) b)
    (fun x _ ih b => List.rec (motive := fun _ => Bool) false (fun y b' _ => bK (Nat.ble (x + 1) y) true (wK (Nat.beq x y) (ih b'))) b) a

def kindEq : IntKind → IntKind → Bool
  | .i8, .i8 | .i16, .i16 | .i32, .i32 | .i64, .i64 | .u8, .u8 | .u16, .u16 | .u32, .u32 | .u64, .u64 => true
  | _, _ => false

/-- the greatest number that fits, and how many below nought do -/
def topOf : IntKind → Nat
  | .i8 => 127 | .i16 => 32767 | .i32 => 2147483647 | .i64 => 9223372036854775807
  | .u8 => 255 | .u16 => 65535 | .u32 => 4294967295 | .u64 => 18446744073709551615
def lowOf : IntKind → Nat
  | .i8 => 128 | .i16 => 32768 | .i32 => 2147483648 | .i64 => 9223372036854775808
  | _ => 0
/-- the number itself where it fits surely, else by the model's own word -/
def wrapK (k : IntKind) (n : Int) (c : AV → Bool) : Bool :=
  Int.rec (motive := fun _ => Bool)
    (fun m => bK (Nat.ble m (topOf k)) (fNat m fun m' => c (.i k (.ofNat m'))) (fInt (IntKind.wrap k (.ofNat m)) fun r => c (.i k r)))
    (fun m => bK (Nat.ble (m + 1) (lowOf k)) (fNat m fun m' => c (.i k (.negSucc m'))) (fInt (IntKind.wrap k (.negSucc m)) fun r => c (.i k r))) n

/-! what a value is -/
section asK
variable (v : AV)
def asI (c : IntKind → Int → Bool) : Bool := AV.casesOn (motive_1 := fun _ => Bool) v (fun _ => false) c (fun _ => false) false (fun _ _ => false) false (fun _ _ _ _ _ => false) false (fun _ => false) false (fun _ _ _ => false) false (fun _ _ => false) (fun _ => false) (fun _ => false)
def asB (c : Bool → Bool) : Bool := AV.casesOn (motive_1 := fun _ => Bool) v c (fun _ _ => false) (fun _ => false) false (fun _ _ => false) false (fun _ _ _ _ _ => false) false (fun _ => false) false (fun _ _ _ => false) false (fun _ _ => false) (fun _ => false) (fun _ => false)
def asS (c : List Nat → Bool) : Bool := AV.casesOn (motive_1 := fun _ => Bool) v (fun _ => false) (fun _ _ => false) c false (fun _ _ => false) false (fun _ _ _ _ _ => false) false (fun _ => false) false (fun _ _ _ => false) false (fun _ _ => false) (fun _ => false) (fun _ => false)
def asP (c : Pos → Nat → Bool) : Bool := AV.casesOn (motive_1 := fun _ => Bool) v (fun _ => false) (fun _ _ => false) (fun _ => false) false c false (fun _ _ _ _ _ => false) false (fun _ => false) false (fun _ _ _ => false) false (fun _ _ => false) (fun _ => false) (fun _ => false)
def asSl (nil : Bool) (c : Pos → Nat → Nat → Option Nat → Nat → Bool) : Bool := AV.casesOn (motive_1 := fun _ => Bool) v (fun _ => false) (fun _ _ => false) (fun _ => false) false (fun _ _ => false) nil c false (fun _ => false) false (fun _ _ _ => false) false (fun _ _ => false) (fun _ => false) (fun _ => false)
def asMp (nil : Bool) (c : Pos → Bool) : Bool := AV.casesOn (motive_1 := fun _ => Bool) v (fun _ => false) (fun _ _ => false) (fun _ => false) false (fun _ _ => false) false (fun _ _ _ _ _ => false) nil c false (fun _ _ _ => false) false (fun _ _ => false) (fun _ => false) (fun _ => false)
def asFn (c : Fn → List AV → List AV → Bool) : Bool := AV.casesOn (motive_1 := fun _ => Bool) v (fun _ => false) (fun _ _ => false) (fun _ => false) false (fun _ _ => false) false (fun _ _ _ _ _ => false) false (fun _ => false) false c false (fun _ _ => false) (fun _ => false) (fun _ => false)
def asIf (c : TypeId → AV → Bool) : Bool := AV.casesOn (motive_1 := fun _ => Bool) v (fun _ => false) (fun _ _ => false) (fun _ => false) false (fun _ _ => false) false (fun _ _ _ _ _ => false) false (fun _ => false) false (fun _ _ _ => false) false c (fun _ => false) (fun _ => false)
def asA (c : List AV → Bool) : Bool := AV.casesOn (motive_1 := fun _ => Bool) v (fun _ => false) (fun _ _ => false) (fun _ => false) false (fun _ _ => false) false (fun _ _ _ _ _ => false) false (fun _ => false) false (fun _ _ _ => false) false (fun _ _ => false) c (fun _ => false)
def asT (c : List AV → Bool) : Bool := AV.casesOn (motive_1 := fun _ => Bool) v (fun _ => false) (fun _ _ => false) (fun _ => false) false (fun _ _ => false) false (fun _ _ _ _ _ => false) false (fun _ => false) false (fun _ _ _ => false) false (fun _ _ => false) (fun _ => false) c
end asK

/-- a value's cells (a tuple has none) -/
def cellsV (v : AV) (c : List AV → Bool) : Bool := AV.casesOn (motive_1 := fun _ => Bool) v (fun _ => c [v]) (fun _ _ => c [v]) (fun _ => c [v]) (c [v]) (fun _ _ => c [v]) (c [v]) (fun _ _ _ _ _ => c [v]) (c [v]) (fun _ => c [v]) (c [v]) (fun _ _ _ => c [v]) (c [v]) (fun _ _ => c [v]) c (fun _ => false)

def bytesOfBA (s : ByteArray) : List Nat := s.data.toList.map UInt8.toNat

def ofScalar : Value → Option AV
  | .bool b => some (.b b)
  | .int k n => some (.i k n)
  | .string s => some (.s (bytesOfBA s))
  | .pointer none => some .nilp
  | .slice none 0 0 => some .nilsl
  | .map none => some .nilmp
  | .nilFunc => some .nilfn
  | .nilIface => some .nilif
  | _ => none

def ofScalars : List Value → Option (List AV)
  | [] => some []
  | v :: vs => match ofScalar v with
    | some a => match ofScalars vs with
      | some as => some (a :: as)
      | none => none
    | none => none

def ofV : Value → Option AV
  | .agg cs => match ofScalars cs.toList with
    | some l => some (.agg l)
    | none => none
  | .tuple cs => match cs.toList with
    | [] => some (.tup [])
    | _ => none
  | v => ofScalar v

section types
variable (P : Program)
def isAggT (t : TypeId) : Option Bool := match P.underlying t with
  | some (.struct _) => some true
  | some (.array _ _) => some true
  | some _ => some false
  | none => none
def szT (t : TypeId) : Option Nat := match P.info? t with
  | some i => some i.size
  | none => none
def bytesT (t : TypeId) : Option Nat := match P.info? t with
  | some i => some i.bytes
  | none => none
def zeroT (t : TypeId) : Option AV := match P.info? t with
  | some i => match i.zero with
    | some v => ofV v
    | none => none
  | none => none
def zeroCellsT (t : TypeId) : Option (List AV) := match P.info? t with
  | some i => match i.zero with
    | some v => ofScalars v.cells.toList
    | none => none
  | none => none
def elemT (t : TypeId) : Option TypeId := match P.underlying t with
  | some (.slice e) => some e
  | _ => none
end types

/-! lists, by continuations -/
section lists
variable {α : Type}
def nthK (l : List α) : Nat → (α → Bool) → Bool :=
  List.rec (motive := fun _ => Nat → (α → Bool) → Bool) (fun _ _ => false)
    (fun x _ ih n k => Nat.rec (motive := fun _ => Bool) (k x) (fun m _ => ih m k) n) l
/-- the list behind the first n; false: there aren't so many -/
def dropK (l : List α) : Nat → (List α → Bool) → Bool :=
  List.rec (motive := fun _ => Nat → (List α → Bool) → Bool) (fun n k => Nat.rec (motive := fun _ => Bool) (k []) (fun _ _ => false) n)
    (fun x r ih n k => Nat.rec (motive := fun _ => Bool) (k (x :: r)) (fun m _ => ih m k) n) l
/-- the first n; false: there aren't so many -/
def takeK (l : List α) : Nat → (List α → Bool) → Bool :=
  List.rec (motive := fun _ => Nat → (List α → Bool) → Bool) (fun n k => Nat.rec (motive := fun _ => Bool) (k []) (fun _ _ => false) n)
    (fun x _ ih n k => Nat.rec (motive := fun _ => Bool) (k []) (fun m _ => ih m fun r => k (x :: r)) n) l
def cutK (l : List α) (off n : Nat) (k : List α → Bool) : Bool := dropK l off fun r => takeK r n k
/-- another list laid over the first ones; false: it is longer -/
def overK (vs : List α) : List α → (List α → Bool) → Bool :=
  List.rec (motive := fun _ => List α → (List α → Bool) → Bool) (fun l k => k l)
    (fun x _ ih l k => List.rec (motive := fun _ => Bool) false (fun _ l' _ => ih l' fun r => k (x :: r)) l) vs
def layK (l : List α) : Nat → List α → (List α → Bool) → Bool :=
  List.rec (motive := fun _ => Nat → List α → (List α → Bool) → Bool)
    (fun n vs k => Nat.rec (motive := fun _ => Bool) (overK vs [] k) (fun _ _ => false) n)
    (fun x r ih n vs k => Nat.rec (motive := fun _ => Bool) (overK vs (x :: r) k) (fun m _ => ih m vs fun r' => k (x :: r')) n) l
def appK (a : List α) : List α → (List α → Bool) → Bool :=
  List.rec (motive := fun _ => List α → (List α → Bool) → Bool) (fun b k => k b) (fun x _ ih b k => ih b fun r => k (x :: r)) a
def lenN (l : List α) : Nat := List.rec (motive := fun _ => Nat) 0 (fun _ _ n => Nat.succ n) l
end lists

def partK (agg : Bool) (n : Nat) (cs : List AV) (off : Nat) (k : AV → Bool) : Bool :=
  Bool.rec (motive := fun _ => Bool) (nthK cs off k) (cutK cs off n fun l => k (.agg l)) agg

/-! equality of a type's values -/
structure EqC where
  run : AV → AV → (Bool → Bool) → Bool

def eqFields (cs : List (Bool × Nat × Nat × EqC)) : List AV → List AV → (Bool → Bool) → Bool :=
  List.rec (motive := fun _ => List AV → List AV → (Bool → Bool) → Bool) (fun _ _ k => k true)
    (fun c _ ih xs ys k => partK c.1 c.2.1 xs c.2.2.1 fun x => partK c.1 c.2.1 ys c.2.2.1 fun y => c.2.2.2.run x y fun r => bK r (ih xs ys k) (k false)) cs

def eqBad : EqC := ⟨fun _ _ _ => false⟩

def eqNilK (isNil : AV → Option Bool) (x y : AV) (k : Bool → Bool) : Bool :=
  oK (isNil x) fun a => oK (isNil y) fun b => bK a (k b) (bK b (k false) false)

def nilP : AV → Option Bool
  | .nilp => some true
  | .ptr _ _ => some false
  | _ => none
def nilS : AV → Option Bool
  | .nilsl => some true
  | .sl _ _ _ _ _ => some false
  | _ => none
def nilM : AV → Option Bool
  | .nilmp => some true
  | .mp _ => some false
  | _ => none
def nilF : AV → Option Bool
  | .nilfn => some true
  | .fn _ _ _ => some false
  | _ => none
def nilI : AV → Option Bool
  | .nilif => some true
  | .ifc _ _ => some false
  | _ => none

def fieldEqs (eq : TypeId → EqC) (P : Program) : List Field → Option (List (Bool × Nat × Nat × EqC))
  | [] => some []
  | f :: fs => match isAggT P f.type, szT P f.type, fieldEqs eq P fs with
    | some a, some n, some r => match f.name == "_" with
      | true => some r
      | false => some ((a, n, f.offset, eq f.type) :: r)
    | _, _, _ => none

/-- which of two values of a type are the same (EqC's false: no answer) -/
def eqC (P : Program) : Nat → TypeId → EqC
  | 0, _ => eqBad
  | d + 1, t => match P.underlying t with
    | some .bool => ⟨fun x y k => asB x fun a => asB y fun b => bK a (k b) (k (notB b))⟩
    | some (.int _) => ⟨fun x y k => asI x fun i a => asI y fun j b => wK (kindEq i j) (k (ieq a b))⟩
    | some .string => ⟨fun x y k => asS x fun a => asS y fun b => k (leq a b)⟩
    | some (.pointer e) => match szT P e with
      | some (_ + 1) => ⟨fun x y k => bK (oK (nilP x) fun a => oK (nilP y) fun b => bK a true b) (eqNilK nilP x y k)
          (asP x fun i o => asP y fun j p => wK (i.eq j) (k (Nat.beq o p)))⟩
      | _ => eqBad
    | some (.interface _) => ⟨fun x y k => eqNilK nilI x y k⟩
    | some (.slice _) => ⟨fun x y k => eqNilK nilS x y k⟩
    | some (.map _ _) => ⟨fun x y k => eqNilK nilM x y k⟩
    | some (.func _ _ _) => ⟨fun x y k => eqNilK nilF x y k⟩
    | some (.struct fs) => match P.stoodInHeld t, fieldEqs (eqC P d) P fs.toList with
      | false, some cs => ⟨fun x y k => asA x fun a => asA y fun b => eqFields cs a b k⟩
      | _, _ => eqBad
    | _ => eqBad

/-! operands -/
structure OpndC where
  run : Env → (AV → Bool) → Bool

/-- a slot's place, if it is the frame's -/
def slotOf (nt t : Nat) : Option Pos := match Nat.ble (t + 1) nt with
  | true => some (posOf t)
  | false => none

def opndC (nt : Nat) (x : Operand) : OpndC := match x with
  | .tmp t => match slotOf nt t with
    | some p => ⟨fun e k => PT.getK p e k⟩
    | none => ⟨fun _ _ => false⟩
  | .const v => match ofV v with
    | some a => ⟨fun _ k => k a⟩
    | none => ⟨fun _ _ => false⟩
  | .global _ => ⟨fun _ _ => false⟩
  | .func f => ⟨fun _ k => k (.fn (.func f) [] [])⟩

structure OpndsC where
  run : Env → (List AV → Bool) → Bool

def opndsC (nt : Nat) : List Operand → OpndsC
  | [] => ⟨fun _ k => k []⟩
  | x :: xs => ⟨fun e k => (opndC nt x).run e fun v => (opndsC nt xs).run e fun vs => k (v :: vs)⟩

/-! operations that touch no heap: of their operands' values, in Op.operands' order -/
structure PureC where
  run : List AV → (AV → Bool) → Bool

def hd (vs : List AV) (k : AV → List AV → Bool) : Bool := List.rec (motive := fun _ => Bool) false (fun x r _ => k x r) vs
def one (vs : List AV) (k : AV → Bool) : Bool := hd vs fun x _ => k x
def duo (vs : List AV) (k : AV → AV → Bool) : Bool := hd vs fun x r => hd r fun y _ => k x y

/-- just two -/
def two (vs : List AV) (k : AV → AV → Bool) : Bool := hd vs fun x r => hd r fun y r' => List.rec (motive := fun _ => Bool) (k x y) (fun _ _ _ => false) r'

def pureBad : PureC := ⟨fun _ _ => false⟩

def aintC (op : BinOp) : IntKind → Int → Int → (AV → Bool) → Bool := match op with
  | .add => fun k a b c => wrapK k (a + b) c
  | .sub => fun k a b c => wrapK k (a - b) c
  | .mul => fun k a b c => wrapK k (a * b) c
  | .quo => fun k a b c => bK (ieq b 0) false (wrapK k (a.tdiv b) c)
  | .rem => fun k a b c => bK (ieq b 0) false (fInt (a.tmod b) fun r => c (.i k r))
  | .and => fun k a b c => Int.rec (motive := fun _ => Bool) (fun x => Int.rec (motive := fun _ => Bool) (fun y => wK (Nat.ble x (topOf k)) (wK (Nat.ble y (topOf k)) (fNat (Nat.land x y) fun r => c (.i k (.ofNat r))))) (fun _ => false) b) (fun _ => false) a
  | .or => fun k a b c => Int.rec (motive := fun _ => Bool) (fun x => Int.rec (motive := fun _ => Bool) (fun y => wK (Nat.ble x (topOf k)) (wK (Nat.ble y (topOf k)) (fNat (Nat.lor x y) fun r => c (.i k (.ofNat r))))) (fun _ => false) b) (fun _ => false) a
  | .andNot => fun k a b c => Int.rec (motive := fun _ => Bool) (fun x => Int.rec (motive := fun _ => Bool) (fun y => wK (Nat.beq (lowOf k) 0) (wK (Nat.ble x (topOf k)) (wK (Nat.ble y (topOf k)) (fNat (Nat.land x (topOf k - y)) fun r => c (.i k (.ofNat r)))))) (fun _ => false) b) (fun _ => false) a
  | .eql => fun _ a b c => fB (ieq a b) c
  | .neq => fun _ a b c => fB (notB (ieq a b)) c
  | .lss => fun _ a b c => fB (notB (ile b a)) c
  | .leq => fun _ a b c => fB (ile a b) c
  | .gtr => fun _ a b c => fB (notB (ile a b)) c
  | .geq => fun _ a b c => fB (ile b a) c
  | _ => fun _ _ _ _ => false

def astrC (op : BinOp) : List Nat → List Nat → (AV → Bool) → Bool := match op with
  | .add => fun a b c => wK (Nat.ble (lenN a + lenN b) 1000000000) (appK a b fun r => c (.s r))
  | .eql => fun a b c => fB (leq a b) c
  | .neq => fun a b c => fB (notB (leq a b)) c
  | .lss => fun a b c => fB (llt a b) c
  | _ => fun _ _ _ => false

def constB : Operand → Bool
  | .const _ => true
  | _ => false

/-- no odd nil: the guard of '==' lets it by -/
def guardB (P : Program) (t : TypeId) (x y : Operand) : Bool :=
  match P.underlying t with
  | some (.interface _) => constB x || constB y
  | _ => !P.eqGuardType P.depth t

def binC (P : Program) (op : BinOp) (t : TypeId) (x y : Operand) : PureC := match P.underlying t with
  | some (.int _) => match op with
    | .shl => ⟨fun vs c => duo vs fun a b => asI a fun k n => asI b fun _ m => wK (ile 0 m) (fNat (Nat.min m.toNat k.bits) fun r => wrapK k (n * 2 ^ r) c)⟩
    | .shr => ⟨fun vs c => duo vs fun a b => asI a fun k n => asI b fun _ m => wK (ile 0 m) (fNat (Nat.min m.toNat k.bits) fun r => fInt (n.fdiv (2 ^ r)) fun q => c (.i k q))⟩
    | op => ⟨fun vs c => duo vs fun a b => asI a fun k n => asI b fun j m => wK (kindEq k j) (aintC op k n m c)⟩
  | some .string => ⟨fun vs c => duo vs fun a b => asS a fun n => asS b fun m => astrC op n m c⟩
  | some _ => match guardB P t x y, op with
    | true, .eql => ⟨fun vs c => duo vs fun a b => (eqC P 20 t).run a b fun r => fB r c⟩
    | true, .neq => ⟨fun vs c => duo vs fun a b => (eqC P 20 t).run a b fun r => fB (notB r) c⟩
    | _, _ => pureBad
  | none => pureBad

/-- a field: whether it is of many cells, how many, where -/
def fieldOf (P : Program) (s : TypeId) (f : Nat) : Option (Bool × Nat × Nat) := match P.underlying s with
  | some (.struct fs) => match fs[f]? with
    | some x => match isAggT P x.type, szT P x.type with
      | some a, some n => some (a, n, x.offset)
      | _, _ => none
    | none => none
  | _ => none

def idxK (v : AV) (len : Nat) (k : Nat → Bool) : Bool :=
  asI v fun _ n => Int.rec (motive := fun _ => Bool) (fun m => wK (Nat.ble (Nat.succ m) len) (k m)) (fun _ => false) n
/-- a bound of a slice expression, at most y -/
def boundK (v : AV) (y : Nat) (k : Nat → Bool) : Bool :=
  asI v fun _ n => Int.rec (motive := fun _ => Bool) (fun m => wK (Nat.ble m y) (k m)) (fun _ => false) n

def fillK (cells : List AV) (ps : List (Nat × Nat)) : List AV → (List AV → Bool) → Bool :=
  List.rec (motive := fun _ => List AV → List AV → (List AV → Bool) → Bool) (fun cells _ k => k cells)
    (fun p _ ih cells vs k => hd vs fun v r => cellsV v fun xs => wK (Nat.beq (lenN xs) p.2) (layK cells p.1 xs fun cs => ih cs r k)) ps cells

def fieldPlaces (P : Program) (fs : Array Field) : List (Nat × Operand) → Option (List (Nat × Nat))
  | [] => some []
  | (j, _) :: ps => match fs[j]? with
    | some f => match szT P f.type, fieldPlaces P fs ps with
      | some n, some r => some ((f.offset, n) :: r)
      | _, _ => none
    | none => none

def elemPlaces (n : Nat) : List (Nat × Operand) → List (Nat × Nat)
  | [] => []
  | (j, _) :: ps => (j * n, n) :: elemPlaces n ps

/-- low and high bounds (and the most) of a slice expression of n elements, at most cap of them -/
def hiK (has : Bool) (vs : List AV) (dflt most : Nat) (k : Nat → List AV → Bool) : Bool :=
  Bool.rec (motive := fun _ => Bool) (k dflt vs) (hd vs fun v r => boundK v most fun m => k m r) has

def slLen (x : AV) : Nat := match x with
  | .sl _ _ n _ _ => n
  | _ => 0
def slMost (x : AV) : Nat := match x with
  | .sl _ _ _ (some c) _ => c
  | .sl _ _ n none _ => n
  | _ => 0
def cutSl (sz : Nat) (x : AV) (l h m : Nat) (mx : Bool) (c : AV → Bool) : Bool :=
  asSl x (wK (Nat.beq m 0) (c .nilsl)) fun id off _ cap esz => wK (Nat.beq sz esz)
    (fNat (h - l) fun n => fNat (off + l * esz) fun o => Option.rec (motive := fun _ => Bool)
      (Bool.rec (motive := fun _ => Bool) (c (.sl id o n none esz)) (fNat (m - l) fun q => c (.sl id o n (some q) esz)) mx)
      (fun _ => fNat (m - l) fun q => c (.sl id o n (some q) esz)) cap)

def sliceC (P : Program) (t : TypeId) (lo hi mx : Bool) : PureC := match P.underlying t with
  | some .string => match mx with
    | true => pureBad
    | false => ⟨fun vs c => hd vs fun x bs => asS x fun l => fNat (lenN l) fun n =>
        Bool.rec (motive := fun _ => Bool)
          (hiK hi bs n n fun h _ => cutK l 0 h fun r => c (.s r))
          (hd bs fun v0 bs' => hiK hi bs' n n fun h _ => boundK v0 h fun l0 => cutK l l0 (h - l0) fun r => c (.s r)) lo⟩
  | some (.slice e) => match szT P e, (mx && !hi) with
    | some sz, false => ⟨fun vs c => hd vs fun x bs =>
        Bool.rec (motive := fun _ => Bool)
          (hiK hi bs (slLen x) (slMost x) fun h r => hiK mx r (slMost x) (slMost x) fun m _ => wK (Nat.ble h m) (cutSl sz x 0 h m mx c))
          (hd bs fun v0 bs' => hiK hi bs' (slLen x) (slMost x) fun h r => hiK mx r (slMost x) (slMost x) fun m _ => wK (Nat.ble h m) (boundK v0 h fun l0 => cutSl sz x l0 h m mx c)) lo⟩
    | _, _ => pureBad
  | _ => pureBad

def assertC (P : Program) (t : TypeId) (ok : Bool) : PureC := match ok with
  | true => match zeroT P t with
    | some z => ⟨fun vs c => one vs fun x => asIf x fun u v => bK (Nat.beq u t) (c (.tup [v, .b true])) (c (.tup [z, .b false]))⟩
    | none => pureBad
  | false => ⟨fun vs c => one vs fun x => asIf x fun u v => wK (Nat.beq u t) (c v)⟩

def pureC (P : Program) (op : Op) : PureC := match op with
  | .move _ => ⟨fun vs c => one vs c⟩
  | .assign _ => ⟨fun vs c => one vs c⟩
  | .pick _ _ _ => ⟨fun vs c => hd vs fun x r => duo r fun a b => asB x fun t => bK t (c a) (c b)⟩
  | .build t ps => match zeroCellsT P t with
    | some z => match P.underlying t with
      | some (.struct fs) => match fs.toList.all (fun f => (szT P f.type).isSome), fieldPlaces P fs ps.toList with
        | true, some pl => ⟨fun vs c => fillK z pl vs fun cs => c (.agg cs)⟩
        | _, _ => pureBad
      | some (.array _ e) => match szT P e with
        | some n => ⟨fun vs c => fillK z (elemPlaces n ps.toList) vs fun cs => c (.agg cs)⟩
        | none => pureBad
      | _ => pureBad
    | none => pureBad
  | .nilCheck _ => ⟨fun vs c => one vs fun x => bK (asP x fun _ _ => true) (c x) (bK (asIf x fun _ _ => true) (c x) (asFn x fun f _ _ => match f with
      | .func _ => c x
      | _ => false))⟩
  | .binOp op t x y _ => binC P op t x y
  | .unOp .not _ _ => ⟨fun vs c => one vs fun x => asB x fun a => fB (notB a) c⟩
  | .unOp .neg _ _ => ⟨fun vs c => one vs fun x => asI x fun k n => wrapK k (0 - n) c⟩
  | .convert s d _ => match P.underlying s, P.underlying d with
    | some (.int _), some (.int k) => ⟨fun vs c => one vs fun x => asI x fun _ n => wrapK k n c⟩
    | some .string, some .string => ⟨fun vs c => one vs fun x => asS x fun l => c (.s l)⟩
    | _, _ => pureBad
  | .makeInterface t _ => match P.underlying t with
    | some (.interface _) => pureBad
    | some _ => ⟨fun vs c => one vs fun x => c (.ifc t x)⟩
    | none => pureBad
  | .makeFunc fn first _ => ⟨fun vs c => takeK vs first.size fun a => dropK vs first.size fun b => c (.fn fn a b)⟩
  | .slice t _ lo hi mx => sliceC P t lo.isSome hi.isSome mx.isSome
  | .fieldAddr s _ f => match fieldOf P s f with
    | some (_, _ + 1, o) => ⟨fun vs c => one vs fun x => asP x fun id off => fNat (off + o) fun r => c (.ptr id r)⟩
    | _ => pureBad
  | .field s _ f => match fieldOf P s f with
    | some (a, n, o) => ⟨fun vs c => one vs fun x => asA x fun cs => partK a n cs o c⟩
    | none => pureBad
  | .indexAddr t _ _ => match P.underlying t with
    | some (.array m e) => match szT P e with
      | some sz => ⟨fun vs c => duo vs fun x y => asP x fun id off => idxK y m fun j => fNat (off + j * sz) fun r => c (.ptr id r)⟩
      | none => pureBad
    | some (.slice e) => match szT P e with
      | some sz => ⟨fun vs c => duo vs fun x y => asSl x false fun id off m _ esz => wK (Nat.beq sz esz) (idxK y m fun j => fNat (off + j * sz) fun r => c (.ptr id r))⟩
      | none => pureBad
    | _ => pureBad
  | .index t _ _ => match P.underlying t with
    | some .string => ⟨fun vs c => duo vs fun x y => asS x fun l => asI y fun _ n => Int.rec (motive := fun _ => Bool) (fun m => nthK l m fun r => fNat r fun r' => c (.i .u8 (.ofNat r'))) (fun _ => false) n⟩
    | some (.array m e) => match isAggT P e, szT P e with
      | some a, some sz => ⟨fun vs c => duo vs fun x y => asA x fun cs => idxK y m fun j => partK a sz cs (j * sz) c⟩
      | _, _ => pureBad
    | _ => pureBad
  | .typeAssert _ _ t ok => match P.underlying t with
    | some (.interface _) => pureBad
    | some _ => assertC P t ok
    | none => pureBad
  | .extract _ j => ⟨fun vs c => one vs fun x => asT x fun l => nthK l j c⟩
  | .call ⟨.builtin .len, _, ts⟩ => match ts[0]? with
    | none => pureBad
    | some t => match P.underlying t with
      | some .string => ⟨fun vs c => one vs fun x => asS x fun l => fNat (lenN l) fun n => c (.i .i64 (.ofNat n))⟩
      | some (.slice _) => ⟨fun vs c => one vs fun x => asSl x (c (.i .i64 (.ofNat 0))) fun _ _ n _ _ => c (.i .i64 (.ofNat n))⟩
      | some (.array n _) => ⟨fun vs c => one vs fun _ => c (.i .i64 (.ofNat n))⟩
      | _ => pureBad
  | .call ⟨.builtin .cap, _, ts⟩ => match ts[0]? with
    | none => pureBad
    | some t => match P.underlying t with
      | some (.slice _) => ⟨fun vs c => one vs fun x => asSl x (c (.i .i64 (.ofNat 0))) fun _ _ _ cap _ => oK cap fun n => c (.i .i64 (.ofNat n))⟩
      | _ => pureBad
  | .call ⟨.builtin .max, _, _⟩ => ⟨fun vs c => two vs fun x y => asI x fun k a => asI y fun _ b => bK (ile b a) (c (.i k a)) (c (.i k b))⟩
  | .call ⟨.builtin .min, _, _⟩ => ⟨fun vs c => two vs fun x y => asI x fun k a => asI y fun _ b => bK (ile a b) (c (.i k a)) (c (.i k b))⟩
  | .call ⟨.builtin .unsafeSliceData, args, _⟩ => match Nat.beq args.size 1 with
    | true => ⟨fun vs c => one vs fun x => asSl x (c .nilp) fun id off n _ _ => wK (Nat.ble 1 n) (c (.ptr id off))⟩
    | false => pureBad
  | _ => pureBad

/-! operations that read the heap -/
structure ReadC where
  run : List AV → Hp → (AV → Bool) → Bool

def readBad : ReadC := ⟨fun _ _ _ => false⟩

def blkCells (b : ABlk) (k : TypeId → List AV → Bool) : Bool := ABlk.rec (motive := fun _ => Bool) k (fun _ => false) k b
/-- those that may be written -/
def blkCellsW (b : ABlk) (k : TypeId → List AV → Bool) : Bool := ABlk.rec (motive := fun _ => Bool) k (fun _ => false) (fun _ _ => false) b
def blkMap (b : ABlk) (k : List (AV × AV) → Bool) : Bool := ABlk.rec (motive := fun _ => Bool) (fun _ _ => false) k (fun _ _ => false) b
def cellsWK (h : Hp) (id : Pos) (k : TypeId → List AV → Bool) : Bool := PT.getK id h fun b => blkCellsW b k
def cellsK (h : Hp) (id : Pos) (k : TypeId → List AV → Bool) : Bool := PT.getK id h fun b => blkCells b k
def mapK (h : Hp) (id : Pos) (k : List (AV × AV) → Bool) : Bool := PT.getK id h fun b => blkMap b k

def loadK (agg : Bool) (n : Nat) (h : Hp) (id : Pos) (off : Nat) (k : AV → Bool) : Bool := cellsK h id fun _ l => partK agg n l off k

/-- where a key stands, and its value; the number of entries: nowhere -/
def findK (eq : EqC) (key : AV) (es : List (AV × AV)) : Nat → (Nat → AV → Bool) → (Unit → Bool) → Bool :=
  List.rec (motive := fun _ => Nat → (Nat → AV → Bool) → (Unit → Bool) → Bool) (fun _ _ no => no ())
    (fun x _ ih j yes no => eq.run key x.1 fun r => bK r (yes j x.2) (ih (Nat.succ j) yes no)) es

/-- keys that need no look: numbers, strings, bools, structs of such -/
structure KeyC where
  run : AV → Bool

def keyFields (cs : List (Bool × Nat × Nat × KeyC)) : List AV → Bool :=
  List.rec (motive := fun _ => List AV → Bool) (fun _ => true) (fun c _ ih xs => partK c.1 c.2.1 xs c.2.2.1 fun x => wK (c.2.2.2.run x) (ih xs)) cs

def keyFieldsOf (key : TypeId → KeyC) (P : Program) : List Field → Option (List (Bool × Nat × Nat × KeyC))
  | [] => some []
  | f :: fs => match isAggT P f.type, szT P f.type, keyFieldsOf key P fs with
    | some a, some n, some r => some ((a, n, f.offset, key f.type) :: r)
    | _, _, _ => none

def keyC (P : Program) : Nat → TypeId → KeyC
  | 0, _ => ⟨fun _ => false⟩
  | d + 1, t => match P.underlying t with
    | some (.int _) => ⟨fun x => asI x fun _ _ => true⟩
    | some .string => ⟨fun x => asS x fun _ => true⟩
    | some .bool => ⟨fun x => asB x fun _ => true⟩
    | some (.struct fs) => match keyFieldsOf (keyC P d) P fs.toList with
      | some cs => ⟨fun x => asA x fun l => keyFields cs l⟩
      | none => ⟨fun _ => false⟩
    | _ => ⟨fun _ => false⟩

def natsK (l : List AV) : (List Nat → Bool) → Bool :=
  List.rec (motive := fun _ => (List Nat → Bool) → Bool) (fun k => k [])
    (fun v _ ih k => asI v fun j n => wK (kindEq j .u8) (Int.rec (motive := fun _ => Bool) (fun m => wK (Nat.ble m 255) (fNat m fun m' => ih fun r => k (m' :: r))) (fun _ => false) n)) l

def readC (P : Program) (op : Op) : ReadC := match op with
  | .load t _ => match isAggT P t, szT P t with
    | some a, some n => ⟨fun vs h c => one vs fun x => asP x fun id off => loadK a n h id off c⟩
    | _, _ => readBad
  | .lookup t _ _ ok => match P.underlying t with
    | some (.map kt e) => match zeroT P e with
      | some z => ⟨fun vs h c => duo vs fun m key => wK ((keyC P 10 kt).run key) (asMp m (found ok z false c) fun id => mapK h id fun es =>
          findK (eqC P 20 kt) key es 0 (fun _ v => found ok v true c) fun _ => found ok z false c)⟩
      | none => readBad
    | _ => readBad
  | .call ⟨.builtin .len, _, ts⟩ => match ts[0]? with
    | none => readBad
    | some t => match P.underlying t with
      | some (.map _ _) => ⟨fun vs h c => one vs fun x => asMp x (c (.i .i64 (.ofNat 0))) fun id => mapK h id fun es => fNat (lenN es) fun n => c (.i .i64 (.ofNat n))⟩
      | _ => readBad
  | .convert s d _ => match P.underlying s, P.underlying d with
    | some (.slice e), some .string => match P.underlying e with
      | some (.int .u8) => ⟨fun vs h c => one vs fun x => asSl x (c (.s [])) fun id off n _ esz => wK (Nat.beq esz 1)
          (Nat.rec (motive := fun _ => Bool) (c (.s [])) (fun n' _ => cellsK h id fun _ l => cutK l off (Nat.succ n') fun r => natsK r fun bs => c (.s bs)) n)⟩
      | _ => readBad
    | some (.pointer t), some .unsafePointer => match szT P t with
      | some (_ + 1) => ⟨fun vs h c => one vs fun x => asP x fun id off => cellsWK h id fun _ l => wK (Nat.ble (off + 1) (lenN l)) (c x)⟩
      | _ => readBad
    | some .unsafePointer, some (.pointer u) => match szT P u with
      | some (n + 1) => ⟨fun vs h c => one vs fun x => asP x fun id off => cellsWK h id fun e l => wK (Nat.beq e u) (wK (Nat.beq off 0) (wK (Nat.ble (n + 1) (lenN l)) (c x)))⟩
      | _ => readBad
    | _, _ => readBad
  | _ => readBad
where
  found (ok : Bool) (v : AV) (is : Bool) (c : AV → Bool) : Bool := Bool.rec (motive := fun _ => Bool) (c v) (c (.tup [v, .b is])) ok

/-! operations that make memory: the new block, and what is handed back, of its identity -/
structure AllocC where
  run : List AV → (ABlk → (Pos → AV) → Bool) → Bool

def allocBad : AllocC := ⟨fun _ _ => false⟩

def repeatL (n : Nat) (z : List AV) : List AV := Nat.rec (motive := fun _ => List AV) [] (fun _ r => z ++ r) n

/-- n zeros of an element type -/
def zerosT (P : Program) (e : TypeId) (n sz : Nat) : Option (List AV) := match n * sz with
  | 0 => some []
  | _ + 1 => match zeroCellsT P e with
    | some z => match Nat.beq (lenN z) sz with
      | true => some (repeatL n z)
      | false => none
    | none => none

def allocC (P : Program) (op : Op) : AllocC := match op with
  | .alloc e => match zeroCellsT P e with
    | some z => ⟨fun _ c => c (.cells e z) fun id => .ptr id 0⟩
    | none => allocBad
  | .box e _ => ⟨fun vs c => one vs fun x => cellsV x fun xs => c (.cells e xs) fun id => .ptr id 0⟩
  | .buildSlice t n ps => match elemT P t with
    | some e => match szT P e with
      | some sz => match Nat.ble (n * sz) 1000000, zerosT P e n sz with
        | true, some zs => ⟨fun vs c => fillK zs (elemPlaces sz ps.toList) vs fun cs => c (.cells e cs) fun id => .sl id 0 n (some n) sz⟩
        | _, _ => allocBad
      | none => allocBad
    | none => allocBad
  | .makeMap t r => match P.underlying t, r with
    | some (.map _ _), none => ⟨fun _ c => c (.mp []) fun id => .mp id⟩
    | _, _ => allocBad
  | .makeSlice t _ _ => match elemT P t with
    | some e => match szT P e, bytesT P e with
      | some sz, some by_ => ⟨fun vs c => duo vs fun x y => asI x fun _ l => asI y fun _ m => Int.rec (motive := fun _ => Bool) (fun l' => Int.rec (motive := fun _ => Bool) (fun m' =>
          wK (Nat.ble l' m') (wK (Nat.ble (m' * (by_ + sz + 1)) 1000000) (oK (zerosT P e m' sz) fun zs => c (.cells e zs) fun id => .sl id 0 l' (some m') sz))) (fun _ => false) m) (fun _ => false) l⟩
      | _, _ => allocBad
    | none => allocBad
  | _ => allocBad

/-! operations that act -/
abbrev Caller := FuncId → List AV → Hp → Pos → (AV → Hp → Pos → Bool) → Bool

structure LoudC where
  run : Caller → List AV → Hp → Pos → (AV → Hp → Pos → Bool) → Bool

def loudBad : LoudC := ⟨fun _ _ _ _ _ => false⟩

def storeK (h : Hp) (id : Pos) (off : Nat) (vs : List AV) (k : Hp → Bool) : Bool :=
  cellsWK h id fun e l => layK l off vs fun l' => PT.setK id (some (.cells e l')) h k

/-! values are held against each other where a look is repeated -/
mutual
def avEq : AV → AV → Bool
  | .b x, .b y => x == y
  | .i k n, .i k' m => kindEq k k' && ieq n m
  | .s l, .s m => leq l m
  | .nilp, .nilp => true
  | .ptr a b, .ptr c d => a.eq c && Nat.beq b d
  | .nilsl, .nilsl => true
  | .sl a b c d e, .sl a' b' c' d' e' => a.eq a' && Nat.beq b b' && Nat.beq c c' && Nat.beq e e' && (match d, d' with
    | none, none => true
    | some x, some y => Nat.beq x y
    | _, _ => false)
  | .nilmp, .nilmp => true
  | .mp a, .mp b => a.eq b
  | .nilfn, .nilfn => true
  | .nilif, .nilif => true
  | .ifc t v, .ifc u w => Nat.beq t u && avEq v w
  | .agg l, .agg m => avEqs l m
  | .tup l, .tup m => avEqs l m
  | .fn (.func f) x y, .fn (.func g) z w => Nat.beq f g && avEqs x z && avEqs y w
  | _, _ => false
def avEqs : List AV → List AV → Bool
  | [], [] => true
  | x :: xs, y :: ys => avEq x y && avEqs xs ys
  | _, _ => false
end

/-- an entry's new value; its key is the given one -/
def setAtK (key : AV) (es : List (AV × AV)) : Nat → AV → (List (AV × AV) → Bool) → Bool :=
  List.rec (motive := fun _ => Nat → AV → (List (AV × AV) → Bool) → Bool) (fun _ _ _ => false)
    (fun x r ih j v k => Nat.rec (motive := fun _ => Bool) (wK (avEq key x.1) (k ((x.1, v) :: r))) (fun j' _ => ih j' v fun r' => k (x :: r')) j) es
def delAtK (es : List (AV × AV)) : Nat → (List (AV × AV) → Bool) → Bool :=
  List.rec (motive := fun _ => Nat → (List (AV × AV) → Bool) → Bool) (fun _ _ => false)
    (fun x r ih j k => Nat.rec (motive := fun _ => Bool) (k r) (fun j' _ => ih j' fun r' => k (x :: r')) j) es

def mapPutC (P : Program) (t : TypeId) : LoudC := match P.underlying t with
  | some (.map kt _) => ⟨fun _ vs h n c => hd vs fun m r => duo r fun key v => wK ((keyC P 10 kt).run key) (asMp m false fun id => mapK h id fun es =>
      findK (eqC P 20 kt) key es 0 (fun j _ => setAtK key es j v fun es' => PT.setK id (some (.mp es')) h fun h' => c undefA h' n)
        fun _ => appK es [(key, v)] fun es' => PT.setK id (some (.mp es')) h fun h' => c undefA h' n)⟩
  | _ => loudBad

/-- the cells to be appended or copied, and how many elements -/
def srcK (h : Hp) (esz : Nat) (x : AV) (k : Nat → List AV → Bool) : Bool :=
  AV.casesOn (motive_1 := fun _ => Bool) x (fun _ => false) (fun _ _ => false)
    (fun l => wK (Nat.beq esz 1) (fNat (lenN l) fun n => bytesUp l fun cs => k n cs)) false (fun _ _ => false)
    (k 0 []) (fun id off n _ e => wK (Nat.beq e esz) (fNat (n * esz) fun m => Nat.rec (motive := fun _ => Bool) (k n []) (fun m' _ => cellsK h id fun _ l => cutK l off (Nat.succ m') fun cs => k n cs) m))
    false (fun _ => false) false (fun _ _ _ => false) false (fun _ _ => false) (fun _ => false) (fun _ => false)
where
  bytesUp (l : List Nat) : (List AV → Bool) → Bool :=
    List.rec (motive := fun _ => (List AV → Bool) → Bool) (fun k => k []) (fun n _ ih k => ih fun r => k (.i .u8 (.ofNat n) :: r)) l

def addK (h : Hp) (n : Pos) (b : ABlk) (k : Pos → Hp → Pos → Bool) : Bool := PT.setK n (some b) h fun h' => n.succK fun n' => k n h' n'

def appendable : TypeDesc → Bool
  | .slice _ => true
  | .string => true
  | _ => false

def appendOk (P : Program) (e : TypeId) (ud : TypeDesc) : Bool := match appendable ud, szT P e, zeroCellsT P e with
  | true, some z, some zs => Nat.beq (lenN zs) z
  | _, _, _ => false

def appendC (P : Program) (ts : Array TypeId) : LoudC := match ts[0]?, ts[1]? with
  | some t, some u => match elemT P t, P.underlying u with
    | some e, some ud => match szT P e, bytesT P e, appendOk P e ud with
      | some (sz + 1), some by_, true => ⟨fun _ vs h n c => duo vs fun s x => srcK h (sz + 1) x fun m xs =>
          Nat.rec (motive := fun _ => Bool)
            (asSl s (c s h n) fun _ _ _ _ esz => wK (Nat.beq esz (sz + 1)) (c s h n))
            (fun m' _ => asSl s
              (wK (Nat.ble (Nat.succ m' * (by_ + 1)) 1000000) (addK h n (.cells e xs) fun id h' n' => c (.sl id 0 (Nat.succ m') none (sz + 1)) h' n'))
              fun id off k cap esz => wK (Nat.beq esz (sz + 1)) (fNat (k + Nat.succ m') fun need => wK (Nat.beq (off % (sz + 1)) 0) <| wK (Nat.ble (need * (by_ + 1)) 1000000)
                (cellsK h id fun e' l => wK (Nat.beq e' e) (cutK l off (k * (sz + 1)) fun old => appK old xs fun cs =>
                  bK (Option.rec (motive := fun _ => Bool) true (fun q => Nat.ble need q) cap)
                    (cellsWK h id fun _ _ => PT.setK id none h fun h1 => addK h1 n (.cells e cs) fun id' h' n' => c (.sl id' 0 need none (sz + 1)) h' n')
                    (addK h n (.cells e cs) fun id' h' n' => c (.sl id' 0 need none (sz + 1)) h' n'))))) m⟩
      | _, _, _ => loudBad
    | _, _ => loudBad
  | _, _ => loudBad

def copyC (P : Program) (ts : Array TypeId) : LoudC := match ts[0]? with
  | none => loudBad
  | some t => match elemT P t with
    | none => loudBad
    | some e => match szT P e with
      | none => loudBad
      | some sz => ⟨fun _ vs h n c => duo vs fun d x => srcK h sz x fun m xs => asSl d (c (.i .i64 (.ofNat 0)) h n) fun id off q _ esz =>
          wK (Nat.beq esz sz) (fNat (Nat.min m q) fun k => takeK xs (k * sz) fun ys => storeK h id off ys fun h' => c (.i .i64 (.ofNat k)) h' n)⟩

def clearC (P : Program) (ts : Array TypeId) : LoudC := match ts[0]? with
  | none => loudBad
  | some t => match P.underlying t with
    | some (.map _ _) => ⟨fun _ vs h n c => one vs fun x => asMp x (c undefA h n) fun id => mapK h id fun _ => PT.setK id (some (.mp [])) h fun h' => c undefA h' n⟩
    | some (.slice e) => match szT P e with
      | some (sz + 1) => ⟨fun _ vs h n c => one vs fun x => asSl x (c undefA h n) fun id off m _ esz => Nat.rec (motive := fun _ => Bool) (c undefA h n)
          (fun m' _ => wK (Nat.beq esz (sz + 1)) (oK (zerosT P e (Nat.succ m') (sz + 1)) fun zs => storeK h id off zs fun h' => c undefA h' n)) m⟩
      | _ => loudBad
    | _ => loudBad

def deleteC (P : Program) (ts : Array TypeId) : LoudC := match ts[0]? with
  | none => loudBad
  | some t => match P.underlying t with
    | some (.map kt _) => ⟨fun _ vs h n c => duo vs fun m key => wK ((keyC P 10 kt).run key) (asMp m (c undefA h n) fun id => mapK h id fun es =>
        findK (eqC P 20 kt) key es 0 (fun j _ => delAtK es j fun es' => PT.setK id (some (.mp es')) h fun h' => c undefA h' n) fun _ => c undefA h n)⟩
    | _ => loudBad

/-- a value behind embedded fields, none of them through a pointer -/
def followK (P : Program) : List FieldStep → TypeId → AV → (TypeId → AV → Bool) → Bool
  | [], t, v, k => k t v
  | s :: r, _, v, k => match s.deref, fieldOf P s.struct s.index, (match P.underlying s.struct with | some (.struct fs) => (fs[s.index]?).map (·.type) | _ => none) with
    | false, some (a, n, o), some ft => asA v fun cs => partK a n cs o fun x => followK P r ft x k
    | _, _, _ => false

structure MethC where
  run : Hp → AV → (FuncId → AV → Bool) → Bool

def methC (P : Program) (t : TypeId) (name : String) : MethC := match P.info? t with
  | none => ⟨fun _ _ _ => false⟩
  | some inf => match inf.methods.toList.find? (·.name == name) with
    | none => ⟨fun _ _ _ => false⟩
    | some m => match m.func with
      | none => ⟨fun _ _ _ => false⟩
      | some (f, byPtr) => ⟨fun h v k => followK P m.path.toList t v fun xt x => match P.underlying xt, byPtr with
        | some (.pointer _), true => k f x
        | some (.pointer e), false => match isAggT P e, szT P e with
          | some a, some n => asP x fun id off => loadK a n h id off fun y => k f y
          | _, _ => false
        | some _, false => k f x
        | _, _ => false⟩

def callK (P : Program) (call : Caller) (f : AV) (args : List AV) (h : Hp) (n : Pos) (c : AV → Hp → Pos → Bool) : Bool :=
  asFn f fun fn first captured => Fn.casesOn (motive := fun _ => Bool) fn
    (fun g => appK first args fun as => appK as captured fun as' => call g as' h n c)
    (fun name => appK first args fun as => hd as fun r rest => asIf r fun t v => (methC P t name).run h v fun g x => call g (x :: rest) h n c)
    (fun _ _ => false) (fun _ _ _ _ => false) (fun _ => false)

def ptrK (p : AV) (k : Bool) : Bool :=
  AV.casesOn (motive_1 := fun _ => Bool) p (fun _ => false) (fun _ _ => false) (fun _ => false) k (fun _ _ => k) false (fun _ _ _ _ _ => false) false (fun _ => false) false (fun _ _ _ => false) false (fun _ _ => false) (fun _ => false) (fun _ => false)

def unsafeStringC (P : Program) (na : Nat) (ts : Array TypeId) : LoudC := match Nat.beq na 2, ts[0]? with
  | true, some t => match P.underlying t with
    | some (.pointer u) => match P.underlying u, szT P u with
      | some (.int .u8), some 1 => ⟨fun _ vs h n c => duo vs fun p y => asI y fun _ m => Int.rec (motive := fun _ => Bool)
          (fun m0 => Nat.rec (motive := fun _ => Bool) (ptrK p (c (.s []) h n))
            (fun m' _ => wK (Nat.ble m' 1000000) (asP p fun id off => cellsWK h id fun e l => wK (Nat.beq e u) (cutK l off (Nat.succ m') fun cs => natsK cs fun r => PT.setK id none h fun h' => c (.s r) h' n))) m0)
          (fun _ => false) m⟩
      | _, _ => loudBad
    | _ => loudBad
  | _, _ => loudBad

def loudC (P : Program) (op : Op) : LoudC := match op with
  | .store t _ _ => match szT P t with
    | some m => ⟨fun _ vs h n c => duo vs fun p x => asP p fun id off => cellsV x fun xs => wK (Nat.beq (lenN xs) m) (storeK h id off xs fun h' => c undefA h' n)⟩
    | none => loudBad
  | .mapUpdate t _ _ _ => mapPutC P t
  | .insert t _ _ _ => mapPutC P t
  | .call ⟨.value _, _, _⟩ => ⟨fun call vs h n c => hd vs fun f args => callK P call f args h n c⟩
  | .call ⟨.invoke _ name, _, _⟩ => ⟨fun call vs h n c => hd vs fun r rest => asIf r fun t v => (methC P t name).run h v fun g x => call g (x :: rest) h n c⟩
  | .call ⟨.builtin .append, _, ts⟩ => appendC P ts
  | .call ⟨.builtin .copy, _, ts⟩ => copyC P ts
  | .call ⟨.builtin .clear, _, ts⟩ => clearC P ts
  | .call ⟨.builtin .delete, _, ts⟩ => deleteC P ts
  | .call ⟨.builtin .unsafeString, args, ts⟩ => unsafeStringC P args.size ts
  | _ => loudBad

/-! functions without a Go body that the machine knows -/
inductive Prim where
  | same
  | makeNoZero (elem : TypeId)
  | add64
  | sub64
  | mapsClone
  /-- one that a run has shown to answer true, whatever memory there is -/
  | yes

def two64 : Nat := 18446744073709551616

def natK (v : AV) (k : Nat → Bool) : Bool := asI v fun j n => wK (kindEq j .i64) (Int.rec (motive := fun _ => Bool) k (fun _ => false) n)
def wordK (v : AV) (k : Nat → Bool) : Bool := asI v fun j n => wK (kindEq j .u64) (Int.rec (motive := fun _ => Bool) (fun m => wK (Nat.ble (m + 1) two64) (k m)) (fun _ => false) n)
def uno (vs : List AV) (k : AV → Bool) : Bool := hd vs fun x r => List.rec (motive := fun _ => Bool) (k x) (fun _ _ _ => false) r
def tri (vs : List AV) (k : AV → AV → AV → Bool) : Bool := hd vs fun x r => hd r fun y r => uno r fun z => k x y z

def nought (vs : List AV) (k : Bool) : Bool := List.rec (motive := fun _ => Bool) k (fun _ _ _ => false) vs

def primK (p : Prim) (args : List AV) (h : Hp) (n : Pos) (c : AV → Hp → Pos → Bool) : Bool := match p with
  | .yes => nought args (c (.b true) h n)
  | .same => uno args fun x => c x h n
  | .makeNoZero e => uno args fun x => natK x fun m => wK (Nat.ble m 1000000) (addK h n (.cells e []) fun id h' n' => c (.sl id 0 m none 1) h' n')
  | .add64 => tri args fun x y z => wordK x fun a => wordK y fun b => wordK z fun o => wK (Nat.ble o 1) (fNat (a + b + o) fun s =>
      bK (Nat.ble two64 s) (fNat (s - two64) fun r => c (.tup [.i .u64 (.ofNat r), .i .u64 (.ofNat 1)]) h n) (c (.tup [.i .u64 (.ofNat s), .i .u64 (.ofNat 0)]) h n))
  | .sub64 => tri args fun x y z => wordK x fun a => wordK y fun b => wordK z fun o => wK (Nat.ble o 1)
      (bK (Nat.ble (b + o) a) (fNat (a - (b + o)) fun r => c (.tup [.i .u64 (.ofNat r), .i .u64 (.ofNat 0)]) h n) (fNat (two64 + a - (b + o)) fun r => c (.tup [.i .u64 (.ofNat r), .i .u64 (.ofNat 1)]) h n))
  | .mapsClone => uno args fun x => asIf x fun t v => asMp v false fun id => mapK h id fun es => addK h n (.mp es) fun id' h' n' => c (.ifc t (.mp id')) h' n'

/-! operations in their kinds -/
inductive OK where
  | pure (f : PureC)
  | read (f : ReadC)
  | alloc (f : AllocC)
  | loud (f : LoudC)

def okC (P : Program) (op : Op) : OK := match op with
  | .move _ | .assign _ | .pick _ _ _ | .build _ _ | .nilCheck _ | .binOp .. | .unOp .. | .makeInterface .. | .makeFunc .. | .slice .. | .fieldAddr .. | .field .. | .indexAddr .. | .index .. | .typeAssert .. | .extract .. => .pure (pureC P op)
  | .convert s _ _ => match P.underlying s with
    | some (.int _) => .pure (pureC P op)
    | some .string => .pure (pureC P op)
    | _ => .read (readC P op)
  | .load .. | .lookup .. => .read (readC P op)
  | .alloc _ | .box .. | .buildSlice .. | .makeMap .. | .makeSlice .. => .alloc (allocC P op)
  | .call ⟨.builtin .len, _, ts⟩ => match ts[0]? with
    | some t => match P.underlying t with
      | some (.map _ _) => .read (readC P op)
      | _ => .pure (pureC P op)
    | none => .pure pureBad
  | .call ⟨.builtin .cap, _, _⟩ | .call ⟨.builtin .max, _, _⟩ | .call ⟨.builtin .min, _, _⟩ | .call ⟨.builtin .unsafeSliceData, _, _⟩ => .pure (pureC P op)
  | _ => .loud (loudC P op)

def OK.isLoud : OK → Bool
  | .loud _ => true
  | _ => false

structure PutC where
  run : Env → AV → (Env → Bool) → Bool

def putC (nt : Nat) (d : Option Nat) : PutC := match d with
  | none => ⟨fun e _ k => k e⟩
  | some t => match slotOf nt t with
    | some p => ⟨fun e v k => PT.setK p (some v) e k⟩
    | none => ⟨fun _ _ _ => false⟩

/-- whether a guarded operation is wanted -/
structure WantC where
  run : Env → Bool → Bool → Bool

def wantC (nt : Nat) (ops : Array Oper) (o : Oper) : WantC := match o.guard with
  | none => ⟨fun _ y _ => y⟩
  | some (j, want) => match ops[j]? with
    | some g => match g.dst with
      | some t => match slotOf nt t with
        | none => ⟨fun _ _ _ => false⟩
        | some p => ⟨fun e y n => PT.getK p e fun v => AV.casesOn (motive_1 := fun _ => Bool) v (fun x => bK (bK x want (notB want)) y n) (fun _ _ => n) (fun _ => n) n (fun _ _ => n) n (fun _ _ _ _ _ => n) n (fun _ => n) n (fun _ _ _ => n) n (fun _ _ => n) (fun _ => n) (fun _ => n)⟩
      | none => ⟨fun _ _ _ => false⟩
    | none => ⟨fun _ _ _ => false⟩

/-- a step of a region: to the environment and the heap behind it -/
structure StepC where
  run : Caller → Env → Hp → Pos → (Env → Hp → Pos → Bool) → Bool

def opC (P : Program) (nt : Nat) (o : Oper) : StepC := match okC P o.op with
  | .pure f => ⟨fun _ e h n k => (opndsC nt o.op.operands.toList).run e fun vs => f.run vs fun v => (putC nt o.dst).run e v fun e' => k e' h n⟩
  | .read f => ⟨fun _ e h n k => (opndsC nt o.op.operands.toList).run e fun vs => f.run vs h fun v => (putC nt o.dst).run e v fun e' => k e' h n⟩
  | .alloc f => ⟨fun _ e h n k => (opndsC nt o.op.operands.toList).run e fun vs => f.run vs fun b mk => addK h n b fun id h' n' => (putC nt o.dst).run e (mk id) fun e' => k e' h' n'⟩
  | .loud f => ⟨fun call e h n k => (opndsC nt o.op.operands.toList).run e fun vs => f.run call vs h n fun v h' n' => (putC nt o.dst).run e v fun e' => k e' h' n'⟩

def stepC (P : Program) (nt : Nat) (ops : Array Oper) (o : Oper) : StepC := match o.guard with
  | none => opC P nt o
  | some _ => ⟨fun call e h n k => (wantC nt ops o).run e ((opC P nt o).run call e h n k) ((putC nt o.dst).run e undefA fun e' => k e' h n)⟩

def seqC (P : Program) (nt : Nat) (ops : Array Oper) : List Oper → StepC
  | [] => ⟨fun _ e h n k => k e h n⟩
  | o :: r => ⟨fun call e h n k => (stepC P nt ops o).run call e h n fun e' h' n' => (seqC P nt ops r).run call e' h' n' k⟩

/-! a region that draws its order: what is known of it ahead -/

/-- who stands ahead of each operation, whatever the order (a bit an operation) -/
def aheads (ops : List Oper) : List Nat :=
  ops.foldl (fun (acc : List Nat) o =>
    acc ++ [o.after.toList.foldl (fun s e => match Region.binds .any e with
      | true => Nat.lor (Nat.lor s (2 ^ e.on)) (acc.getD e.on 0)
      | false => s) 0]) []

def louds (P : Program) : List Oper → Nat → List Nat
  | [], _ => []
  | o :: r, j => match (okC P o.op).isLoud with
    | true => j :: louds P r (j + 1)
    | false => louds P r (j + 1)

def countIn (m : Nat) : List Nat → Nat
  | [] => 0
  | j :: r => match m.testBit j with
    | true => countIn m r + 1
    | false => countIn m r

/-- how many of the louds do not stand behind j -/
def notBehind (ah : List Nat) (j : Nat) : List Nat → Nat
  | [] => 0
  | l :: r => match (ah.getD l 0).testBit j with
    | true => 0
    | false => notBehind ah j r + 1

structure Pend where
  id : Pos
  blk : ABlk
  hi : Nat

structure Look where
  f : ReadC
  vs : List AV
  v : AV
  lo : Nat
  hi : Nat

/-- what is laid by is laid into the heap, where its time has come -/
def flushK (k : Nat) (ps : List Pend) : Hp → (List Pend → Hp → Bool) → Bool :=
  List.rec (motive := fun _ => Hp → (List Pend → Hp → Bool) → Bool) (fun h c => c [] h)
    (fun p _ ih h c => ih h fun r h' => bK (Nat.ble p.hi k) (PT.setK p.id (some p.blk) h' fun h2 => c r h2) (c (p :: r) h')) ps

structure DrawC where
  run : Caller → Env → Hp → Pos → Pos → Nat → List Pend → List Look → List Hp → (Env → Hp → Pos → Pos → Nat → List Pend → List Look → List Hp → Bool) → Bool

/-- a step of a region that draws its order: h is the heap, n the next identity, r the next one of those laid by for the region's own memory, k how many louds are behind it (skipped ones too), ps the region's memory that is not in the heap yet,
  ls the looks that may be taken at more than one heap, hs the heaps behind the louds -/
def dopC (P : Program) (nt : Nat) (o : Oper) (lo hi : Nat) : DrawC := match okC P o.op with
  | .pure f => ⟨fun _ e h n r k ps ls hs c => (opndsC nt o.op.operands.toList).run e fun vs => f.run vs fun v => (putC nt o.dst).run e v fun e' => c e' h n r k ps ls hs⟩
  | .read f => match Nat.beq lo hi with
    | true => ⟨fun _ e h n r k ps ls hs c => wK (Nat.beq lo k) ((opndsC nt o.op.operands.toList).run e fun vs => f.run vs h fun v => (putC nt o.dst).run e v fun e' => c e' h n r k ps ls hs)⟩
    | false => ⟨fun _ e h n r k ps ls hs c => (opndsC nt o.op.operands.toList).run e fun vs => f.run vs h fun v => (putC nt o.dst).run e v fun e' => c e' h n r k ps (⟨f, vs, v, lo, hi⟩ :: ls) hs⟩
  | .alloc f => ⟨fun _ e h n r k ps ls hs c => (opndsC nt o.op.operands.toList).run e fun vs => f.run vs fun b mk => r.succK fun r' => (putC nt o.dst).run e (mk r) fun e' => c e' h n r' k (⟨r, b, hi⟩ :: ps) ls hs⟩
  | .loud f => ⟨fun call e h n r k ps ls hs c => (opndsC nt o.op.operands.toList).run e fun vs => flushK k ps h fun ps' h1 => f.run call vs h1 n fun v h2 n' => (putC nt o.dst).run e v fun e' => c e' h2 n' r (Nat.succ k) ps' ls (h2 :: hs)⟩

/-- a step that is not wanted: a loud one counts -/
def skipC (P : Program) (nt : Nat) (o : Oper) : DrawC := match (okC P o.op).isLoud with
  | true => ⟨fun _ e h n r k ps ls hs c => (putC nt o.dst).run e undefA fun e' => c e' h n r (Nat.succ k) ps ls (h :: hs)⟩
  | false => ⟨fun _ e h n r k ps ls hs c => (putC nt o.dst).run e undefA fun e' => c e' h n r k ps ls hs⟩

def dstepC (P : Program) (nt : Nat) (ops : Array Oper) (o : Oper) (lo hi : Nat) : DrawC := match o.guard with
  | none => dopC P nt o lo hi
  | some _ => ⟨fun call e h n r k ps ls hs c => (wantC nt ops o).run e ((dopC P nt o lo hi).run call e h n r k ps ls hs c) ((skipC P nt o).run call e h n r k ps ls hs c)⟩

def drawC (P : Program) (nt : Nat) (ops : Array Oper) (ah ld : List Nat) : List Oper → Nat → DrawC
  | [], _ => ⟨fun _ e h n r k ps ls hs c => c e h n r k ps ls hs⟩
  | o :: os, j => ⟨fun call e h n r k ps ls hs c => (dstepC P nt ops o (countIn (ah.getD j 0) ld) (notBehind ah j ld)).run call e h n r k ps ls hs fun e' h' n' r' k' ps' ls' hs' => (drawC P nt ops ah ld os (j + 1)).run call e' h' n' r' k' ps' ls' hs' c⟩

/-- how many of the operations make memory -/
def allocsIn (P : Program) : List Oper → Nat
  | [] => 0
  | o :: os => match okC P o.op with
    | .alloc _ => allocsIn P os + 1
    | _ => allocsIn P os

/-- identities are laid by -/
def advK (k : Pos → Bool) : Nat → Pos → Bool :=
  Nat.rec (motive := fun _ => Pos → Bool) k (fun _ ih p => p.succK ih)

/-- who writes each slot: one operation at most -/
def writersK (k : PT Nat → Bool) : List Oper → Nat → PT Nat → Bool
  | [], _, t => k t
  | o :: os, j, t => match o.dst with
    | none => writersK k os (j + 1) t
    | some d => wK (Nat.ble d 100000) (PT.setK (posOf d) (some j) t fun t' => PT.lookK (writersK k os (j + 1) t') (posOf d) t fun _ => false)

/-- a slot that an operation reads: its writer stands ahead, or behind -/
def readOk (ah : List Nat) (j : Nat) (t : PT Nat) (d : Nat) : Bool := Nat.ble d 100000 && (PT.lookK true (posOf d) t fun i =>
  bK (Nat.ble (i + 1) j) ((ah.getD j 0).testBit i) (bK (Nat.ble (j + 1) i) ((ah.getD i 0).testBit j) false))

def readsOk (ah : List Nat) (j : Nat) (t : PT Nat) : List Operand → Bool
  | [] => true
  | .tmp d :: xs => readOk ah j t d && readsOk ah j t xs
  | _ :: xs => readsOk ah j t xs

def guardOk (ops : Array Oper) (ah : List Nat) (j : Nat) (t : PT Nat) (o : Oper) : Bool := match o.guard with
  | none => true
  | some (g, _) => match ops[g]? with
    | none => false
    | some x => match x.dst with
      | none => false
      | some d => readOk ah j t d

def allReadsOk (ops : Array Oper) (ah : List Nat) (t : PT Nat) : List Oper → Nat → Bool
  | [], _ => true
  | o :: os, j => readsOk ah j t o.op.operands.toList && (guardOk ops ah j t o && allReadsOk ops ah t os (j + 1))

/-- the look yields the same over each heap of a row -/
def staysIn (l : Look) (hs : List Hp) : Bool := List.rec (motive := fun _ => Bool) true (fun h _ ih => wK (l.f.run l.vs h fun v => avEq l.v v) ih) hs

def looksStay (hs : List Hp) (ls : List Look) : Bool :=
  List.rec (motive := fun _ => Bool) true (fun l _ ih => wK (staysIn l ((hs.drop l.lo).take (l.hi + 1 - l.lo))) ih) ls

def loudsChain (ah : List Nat) : List Nat → Bool
  | [] => true
  | [_] => true
  | a :: b :: r => (ah.getD b 0).testBit a && loudsChain ah (b :: r)

/-- whatever an operation waits for stands ahead of it in the text -/
def edgesOk : List Oper → Nat → Bool
  | [], _ => true
  | o :: os, j => o.after.toList.all (fun e => match Region.binds .any e with
      | true => Nat.ble (e.on + 1) j
      | false => true) && edgesOk os (j + 1)

def noPend (ps : List Pend) (t : Bool) : Bool := List.rec (motive := fun _ => Bool) t (fun _ _ _ => false) ps

def regionC (P : Program) (nt : Nat) (ops : Array Oper) : StepC := match edgesOk ops.toList 0 && loudsChain (aheads ops.toList) (louds P ops.toList 0), writersK (fun t => allReadsOk ops (aheads ops.toList) t ops.toList 0) ops.toList 0 .L with
  | true, true => ⟨fun call e h n k => advK (fun n0 => (drawC P nt ops (aheads ops.toList) (louds P ops.toList 0) ops.toList 0).run call e h n0 n 0 [] [] [h] fun e' h' n' _ q ps ls hs =>
      wK (looksStay hs.reverse ls) (flushK q ps h' fun ps' h2 => noPend ps' (k e' h2 n'))) (allocsIn P ops.toList) n⟩
  | _, _ => ⟨fun _ _ _ _ _ => false⟩

/-! code -/
inductive Ex where
  | normal
  | exit (id : Nat)
  | ret

structure CodeC where
  run : Caller → Env → Hp → Pos → (Ex → Env → Hp → Pos → Bool) → Bool

def exK (x : Ex) (n : Bool) (e : Nat → Bool) (r : Bool) : Bool := Ex.rec (motive := fun _ => Bool) n e r x

/-- a loop, so many rounds at most -/
def loopK (fuel : Nat) (body : CodeC) (call : Caller) : Env → Hp → Pos → (Ex → Env → Hp → Pos → Bool) → Bool :=
  Nat.rec (motive := fun _ => Env → Hp → Pos → (Ex → Env → Hp → Pos → Bool) → Bool) (fun _ _ _ _ => false)
    (fun _ ih e h n k => body.run call e h n fun x e' h' n' => exK x (ih e' h' n' k) (fun j => k (.exit j) e' h' n') (k .ret e' h' n')) fuel

/-- rounds of a loop, at most -/
def loopMax : Nat := 9223372036854775808

def codeC (P : Program) (nt : Nat) : Code → CodeC
  | .skip => ⟨fun _ e h n k => k .normal e h n⟩
  | .region _ ops draw => match draw with
    | false => ⟨fun call e h n k => (seqC P nt ops ops.toList).run call e h n fun e' h' n' => k .normal e' h' n'⟩
    | true => ⟨fun call e h n k => (regionC P nt ops).run call e h n fun e' h' n' => k .normal e' h' n'⟩
  | .seq a b => ⟨fun call e h n k => (codeC P nt a).run call e h n fun x e' h' n' => exK x ((codeC P nt b).run call e' h' n' k) (fun j => k (.exit j) e' h' n') (k .ret e' h' n')⟩
  | .cond c a b => ⟨fun call e h n k => (opndC nt c).run e fun v => asB v fun t => bK t ((codeC P nt a).run call e h n k) ((codeC P nt b).run call e h n k)⟩
  | .block id b => ⟨fun call e h n k => (codeC P nt b).run call e h n fun x e' h' n' => exK x (k .normal e' h' n') (fun j => bK (Nat.beq j id) (k .normal e' h' n') (k (.exit j) e' h' n')) (k .ret e' h' n')⟩
  | .loop b => ⟨fun call e h n k => loopK loopMax (codeC P nt b) call e h n k⟩
  | .exit id => ⟨fun _ e h n k => k (.exit id) e h n⟩
  | .ret => ⟨fun _ e h n k => k .ret e h n⟩
  | _ => ⟨fun _ _ _ _ _ => false⟩

/-- a call's environment: its arguments, from place j on -/
def envK (args : List AV) : Nat → Env → (Env → Bool) → Bool :=
  List.rec (motive := fun _ => Nat → Env → (Env → Bool) → Bool) (fun _ e k => k e) (fun a _ ih j e k => PT.setK (posOf j) (some a) e fun e' => ih (Nat.succ j) e' k) args

structure ResC where
  run : Env → Hp → (List AV → Bool) → Bool

def resC (P : Program) (nt : Nat) : List ResultVar → ResC
  | [] => ⟨fun _ _ k => k []⟩
  | .tmp t :: rs => match slotOf nt t with
    | some p => ⟨fun e h k => PT.getK p e fun v => (resC P nt rs).run e h fun vs => k (v :: vs)⟩
    | none => ⟨fun _ _ _ => false⟩
  | .cell a t :: rs => match slotOf nt a, isAggT P t, szT P t with
    | some p, some g, some m => ⟨fun e h k => PT.getK p e fun x => asP x fun id off => loadK g m h id off fun v => (resC P nt rs).run e h fun vs => k (v :: vs)⟩
    | _, _, _ => ⟨fun _ _ _ => false⟩

def oneOr (vs : List AV) (k : AV → Bool) : Bool := List.rec (motive := fun _ => Bool) (k (.tup [])) (fun x r _ => List.rec (motive := fun _ => Bool) (k x) (fun _ _ _ => k (.tup vs)) r) vs

structure FunC where
  run : Caller → List AV → Hp → Pos → (AV → Hp → Pos → Bool) → Bool

def funC (P : Program) (prim : FuncId → Option Prim) (f : FuncId) : FunC := match prim f with
  | some p => ⟨fun _ args h n k => primK p args h n k⟩
  | none => match P.funcs[f]? with
    | none => ⟨fun _ _ _ _ _ => false⟩
    | some fn => match fn.body with
      | none => ⟨fun _ _ _ _ _ => false⟩
      | some c => ⟨fun call args h n k => wK (Nat.ble fn.ntmps 100000) <| wK (Nat.ble (lenN args) fn.ntmps) (envK args 0 .L fun e => (codeC P fn.ntmps c).run call e h n fun x e' h' n' =>
          exK x ((resC P fn.ntmps fn.results.toList).run e' h' fun vs => oneOr vs fun v => k v h' n') (fun _ => false) ((resC P fn.ntmps fn.results.toList).run e' h' fun vs => oneOr vs fun v => k v h' n'))⟩

/-- calls, so deep at most -/
def callD (P : Program) (prim : FuncId → Option Prim) (d : Nat) : Caller :=
  Nat.rec (motive := fun _ => Caller) (fun _ _ _ _ _ => false) (fun _ ih f args h n k => (funC P prim f).run ih args h n k) d

def isTrue (v : AV) : Bool := asB v fun x => x

end Go.Am
end
