/- An evaluator of Go code over a heap without addresses and without a tape: what it answers is what the model answers on every tape (proved in the texts that follow). Conditions: none. -/
import GoSem.Dispatch
import GoSem.Machine.Return
/- An evaluator of Go code over a heap without addresses and without a tape: what it answers is what the model answers on every tape (proved beside). -/
namespace Go.SK
open Go
noncomputable section

/-- values of the evaluator -/
inductive AV where
  | bool (b : Bool)
  | int (k : IntKind) (n : Int)
  | flt (k : FloatKind) (bits : Nat)
  | cpx (k : FloatKind) (re im : Nat)
  | str (s : List Nat)
  | nilp
  | ptr (b o : Nat)
  | glob (g o : Nat)
  | nils
  | slc (b o len : Nat) (cap : Option Nat)
  | mp (r : Option Nat)
  | func (fn : Fn) (first captured : List AV)
  | nilf
  | ifc (t : TypeId) (v : AV)
  | nili
  | agg (cs : List AV)
  | tup (vs : List AV)
  deriving Inhabited

/-- finite maps from numbers -/
inductive T (α : Type) where
  | e
  | n (l : T α) (v : Option α) (r : T α)
  deriving Inhabited

def T.get {α : Type} (t : T α) : Nat → Option α :=
  T.rec (motive := fun _ => Nat → Option α) (fun _ => none)
    (fun _ v _ gl gr k => Nat.rec v (fun k _ => Nat.rec (gl (Nat.div k 2)) (fun _ _ => gr (Nat.div k 2)) (Nat.mod k 2)) k) t

def T.one {α : Type} (v : Option α) (f : Nat) : Nat → T α :=
  Nat.rec (motive := fun _ => Nat → T α) (fun _ => .e)
    (fun _ ih k => Nat.rec (.n .e v .e) (fun k _ => Nat.rec (.n (ih (Nat.div k 2)) none .e) (fun _ _ => .n .e none (ih (Nat.div k 2))) (Nat.mod k 2)) k) f

def T.set {α : Type} (t : T α) : Nat → Option α → T α :=
  T.rec (motive := fun _ => Nat → Option α → T α) (fun k v => T.one v (Nat.succ k) k)
    (fun l u r sl sr k v => Nat.rec (.n l v r) (fun k _ => Nat.rec (.n (sl (Nat.div k 2) v) u r) (fun _ _ => .n l u (sr (Nat.div k 2) v)) (Nat.mod k 2)) k) t

/-- kinds of rows: of the run's own, never marked as a string's bytes; of the run's own; handed in, to be read alone -/
inductive CK where
  | own | str | ro
  deriving Inhabited, DecidableEq

/-- objects of the evaluator's heap -/
inductive AObj where
  | cells (cs : List AV) (elem : TypeId) (k : CK)
  | map (es : List (AV × AV))
  | mapIter (m : Option Nat)
  | strIter (s : List Nat) (pos : Nat)
  | loop (state : LoopState) (pending : Option Code) (fn : FuncId) (tmps : T AV) (params : List Tmp) (assign body : Code) (defers : Nat)
  | defd (open_ : Bool)
  deriving Inhabited

abbrev Heap := T AObj

structure St where
  tm : T AV
  H : Heap
  nx : Nat
  marks : List Nat
  deriving Inhabited

inductive AExit where
  | normal
  | exit (id : Nat)
  | goto (l : Nat)
  | ret
  deriving Inhabited

def undef : AV := .tup []

def ofValue : Value → Option AV
  | .bool b => some (.bool b)
  | .int k n => some (.int k n)
  | .float k b => some (.flt k b)
  | .complex k a b => some (.cpx k a b)
  | .string s => some (.str (s.data.toList.map UInt8.toNat))
  | .pointer none => some .nilp
  | .slice none 0 0 => some .nils
  | .map none => some (.mp none)
  | .nilFunc => some .nilf
  | .nilIface => some .nili
  | _ => none

def ofValues : List Value → Option (List AV)
  | [] => some []
  | v :: vs => match ofValue v with
    | none => none
    | some a => match ofValues vs with
      | none => none
      | some as => some (a :: as)

/-- a zero value: scalars, or aggregates of scalars -/
def ofZero : Value → Option AV
  | .agg cs => match ofValues cs.toList with
    | some l => some (.agg l)
    | none => none
  | .tuple cs => match cs.toList with
    | [] => some (.tup [])
    | _ => none
  | v => ofValue v

/-- the temporaries of the region that is walked, the newest first; behind them those that are kept -/
structure Env where
  loc : List (Nat × AV)
  tm : T AV

def look (tm : T AV) (t : Nat) (l : List (Nat × AV)) : Option AV :=
  List.rec (tm.get t) (fun p _ ih => Bool.rec ih (some p.2) (Nat.beq p.1 t)) l

structure EvI where
  f : Env → Option AV

/-- (the kernel reckons this once for each operand) -/
def cev (x : Operand) : EvI :=
  match x with
  | .tmp t => ⟨fun E => look E.tm t E.loc⟩
  | .const v => ⟨fun _ => ofZero v⟩
  | .global g => ⟨fun _ => some (.glob g 0)⟩
  | .func f => ⟨fun _ => some (.func (.func f) [] [])⟩

def ev (E : Env) (x : Operand) : Option AV := (cev x).f E

/-- the cells of a value that can stand in memory -/
def AV.cells : AV → Option (List AV)
  | .agg cs => some cs
  | .tup _ => none
  | v => some [v]

/-- forces a number -/
def fint {α : Type} (n : Int) (f : Int → Option α) : Option α :=
  match n with
  | .ofNat m => match m with
    | 0 => f 0
    | k + 1 => f (.ofNat (k + 1))
  | .negSucc m => match m with
    | 0 => f (-1)
    | k + 1 => f (.negSucc (k + 1))

def bitsPow : IntKind → Nat
  | .i8 | .u8 => 256
  | .i16 | .u16 => 65536
  | .i32 | .u32 => 4294967296
  | .i64 | .u64 => 18446744073709551616

def half : IntKind → Nat
  | .i8 => 128
  | .i16 => 32768
  | .i32 => 2147483648
  | .i64 => 9223372036854775808
  | .u8 => 256
  | .u16 => 65536
  | .u32 => 4294967296
  | .u64 => 18446744073709551616

/-- wraps -/
def wrp (k : IntKind) (n : Int) : Int :=
  match n with
  | .ofNat m => match Nat.ble (half k) m with
    | false => .ofNat m
    | true => k.wrap (.ofNat m)
  | .negSucc m => k.wrap (.negSucc m)

def ilt : Int → Int → Bool
  | .ofNat a, .ofNat b => Nat.blt a b
  | .ofNat _, .negSucc _ => false
  | .negSucc _, .ofNat _ => true
  | .negSucc a, .negSucc b => Nat.blt b a
def ieq : Int → Int → Bool
  | .ofNat a, .ofNat b => Nat.beq a b
  | .negSucc a, .negSucc b => Nat.beq a b
  | _, _ => false

def natBits (op : BinOp) (k : IntKind) (a b : Nat) : Option Int :=
  match op with
  | .and => some (.ofNat (Nat.land a b))
  | .or => some (.ofNat (Nat.lor a b))
  | .xor => some (.ofNat (Nat.xor a b))
  | .andNot => some (.ofNat (Nat.land a (Nat.xor b (bitsPow k - 1))))
  | _ => none

def leq : List Nat → List Nat → Bool
  | [], [] => true
  | a :: x, b :: y => Nat.beq a b && leq x y
  | _, _ => false
def llt : List Nat → List Nat → Bool
  | _, [] => false
  | [], _ :: _ => true
  | a :: x, b :: y => Nat.blt a b || (Nat.beq a b && llt x y)

def iadd : Int → Int → Int
  | .ofNat a, .ofNat b => .ofNat (Nat.add a b)
  | a, b => Int.add a b
def isub : Int → Int → Int
  | .ofNat a, .ofNat b => match Nat.ble b a with
    | true => .ofNat (Nat.sub a b)
    | false => Int.sub (.ofNat a) (.ofNat b)
  | a, b => Int.sub a b
def imul : Int → Int → Int
  | .ofNat a, .ofNat b => .ofNat (Nat.mul a b)
  | a, b => Int.mul a b
def iquo : Int → Int → Int
  | .ofNat a, .ofNat b => .ofNat (Nat.div a b)
  | a, b => Int.tdiv a b
def irem : Int → Int → Int
  | .ofNat a, .ofNat b => .ofNat (Nat.mod a b)
  | a, b => Int.tmod a b

def keq : IntKind → IntKind → Bool
  | .i8, .i8 | .i16, .i16 | .i32, .i32 | .i64, .i64 | .u8, .u8 | .u16, .u16 | .u32, .u32 | .u64, .u64 => true
  | _, _ => false

def rint (k : IntKind) (n : Int) : Option AV := fint (wrp k n) fun n => some (.int k n)

def bitOp (op : BinOp) (k : IntKind) (a b : Int) : Option AV :=
  match a, b with
  | .ofNat a, .ofNat b => match Nat.ble (bitsPow k) a || Nat.ble (bitsPow k) b with
    | true => none
    | false => match natBits op k a b with
      | none => none
      | some r => rint k r
  | a, b => bitSlow op k a b
  where bitSlow (op : BinOp) (k : IntKind) (a b : Int) : Option AV :=
  let x := BitVec.ofInt k.bits a
  let y := BitVec.ofInt k.bits b
  match op with
  | .and => some (.int k (k.wrap (x &&& y).toNat))
  | .or => some (.int k (k.wrap (x ||| y).toNat))
  | .xor => some (.int k (k.wrap (x ^^^ y).toNat))
  | .andNot => some (.int k (k.wrap (x &&& ~~~y).toNat))
  | _ => none

def intOp (op : BinOp) (k : IntKind) (a b : Int) : Option AV :=
  match op with
  | .add => rint k (iadd a b)
  | .sub => rint k (isub a b)
  | .mul => rint k (imul a b)
  | .quo => match ieq b 0 with | true => none | false => rint k (iquo a b)
  | .rem => match ieq b 0 with | true => none | false => fint (irem a b) fun n => some (.int k n)
  | .eql => some (.bool (ieq a b))
  | .neq => some (.bool (!ieq a b))
  | .lss => some (.bool (ilt a b))
  | .leq => some (.bool (!ilt b a))
  | .gtr => some (.bool (ilt b a))
  | .geq => some (.bool (!ilt a b))
  | .and | .or | .xor | .andNot => bitOp op k a b
  | _ => none

def shAmt (k : IntKind) (y : Nat) : Nat :=
  match Nat.ble k.bits y with
  | true => k.bits
  | false => y

def shiftOp (op : BinOp) (k : IntKind) (a : Int) (b : Int) : Option AV :=
  match b with
  | .negSucc _ => none
  | .ofNat y => match op with
    | .shl => rint k (imul a (.ofNat (Nat.pow 2 (shAmt k y))))
    | .shr => match a with
      | .ofNat x => fint (.ofNat (Nat.div x (Nat.pow 2 (shAmt k y)))) fun n => some (.int k n)
      | .negSucc x => some (.int k (Int.fdiv (.negSucc x) (2 ^ (shAmt k y))))
    | _ => none

def strOp (op : BinOp) (a b : List Nat) : Option AV :=
  match op with
  | .add => match Nat.ble (Nat.add (a.length) (b.length)) 9223372036854775807 with
    | true => some (.str (a ++ b))
    | false => none
  | .eql => some (.bool (leq a b))
  | .neq => some (.bool (!leq a b))
  | .lss => some (.bool (llt a b))
  | .leq => some (.bool (llt a b || leq a b))
  | .gtr => some (.bool (!(llt a b || leq a b)))
  | .geq => some (.bool (!llt a b))
  | _ => none

def eqv.partAV (P : Program) (t : TypeId) (cs : List AV) (off : Nat) : Option AV :=
  match P.underlying t, P.info? t with
  | some (.struct _), some i => some (.agg ((cs.drop off).take i.size))
  | some (.array _ _), some i => some (.agg ((cs.drop off).take i.size))
  | some _, some _ => (cs.drop off).head?
  | _, _ => none
def eqv.eqFields (P : Program) (eq : TypeId → AV → AV → Option Bool) : List Field → List AV → List AV → Option Bool
  | [], _, _ => some true
  | f :: fs, xs, ys =>
    match f.name == "_" with
    | true => eqv.eqFields P eq fs xs ys
    | false => match eqv.partAV P f.type xs f.offset, eqv.partAV P f.type ys f.offset with
      | some x, some y => match eq f.type x y with
        | some true => eqv.eqFields P eq fs xs ys
        | r => r
      | _, _ => none
def eqv.eqElems (P : Program) (eq : TypeId → AV → AV → Option Bool) (elem : TypeId) (n : Nat) : Nat → Nat → List AV → List AV → Option Bool
  | 0, _, _, _ => some true
  | len + 1, off, xs, ys =>
    match eqv.partAV P elem xs off, eqv.partAV P elem ys off with
    | some x, some y => match eq elem x y with
      | some true => eqv.eqElems P eq elem n len (off + n) xs ys
      | r => r
    | _, _ => none

/-- equality, where the evaluator can say it -/
def eqv (P : Program) (live : Nat → Nat → Bool) : Nat → TypeId → AV → AV → Option Bool
  | 0, _, _, _ => none
  | d + 1, t, x, y =>
    match x, y with
    | .bool a, .bool b => match P.underlying t with | some .bool => some (a == b) | _ => none
    | .int k a, .int k' b => match P.underlying t with | some (.int _) => if k = k' then some (ieq a b) else none | _ => none
    | .str a, .str b => match P.underlying t with | some .string => some (leq a b) | _ => none
    | .nilp, .nilp => match P.underlying t with | some (.pointer _) => some true | _ => none
    | .nilp, .ptr _ _ => match P.underlying t with | some (.pointer _) => some false | _ => none
    | .ptr _ _, .nilp => match P.underlying t with | some (.pointer _) => some false | _ => none
    | .ptr a o, .ptr b p => match P.underlying t with
      | some (.pointer e) => match (P.info? e).map (·.size) with
        | some (_ + 1) => match Nat.beq a b with
          | true => some (Nat.beq o p)
          | false => match live a o && live b p with
            | true => some false
            | false => none
        | _ => none
      | _ => none
    | .nili, .nili => match P.underlying t with | some (.interface _) => some true | _ => none
    | .nili, .ifc _ _ => match P.underlying t with | some (.interface _) => some false | _ => none
    | .ifc _ _, .nili => match P.underlying t with | some (.interface _) => some false | _ => none
    | .nils, .nils => match P.underlying t with | some (.slice _) => some true | _ => none
    | .nils, .slc _ _ _ _ => match P.underlying t with | some (.slice _) => some false | _ => none
    | .slc _ _ _ _, .nils => match P.underlying t with | some (.slice _) => some false | _ => none
    | .mp none, .mp r => match P.underlying t with | some (.map _ _) => some r.isNone | _ => none
    | .mp (some _), .mp none => match P.underlying t with | some (.map _ _) => some false | _ => none
    | .nilf, .nilf => match P.underlying t with | some (.func _ _ _) => some true | _ => none
    | .nilf, .func _ _ _ => match P.underlying t with | some (.func _ _ _) => some false | _ => none
    | .func _ _ _, .nilf => match P.underlying t with | some (.func _ _ _) => some false | _ => none
    | .cpx k a b, .cpx k' a' b' => match P.underlying t with | some (.complex _) => if k = k' then some (Op.floatEq k a a' && Op.floatEq k b b') else none | _ => none
    | .flt k a, .flt k' b => match P.underlying t with | some (.float _) => if k = k' then some (Op.floatEq k a b) else none | _ => none
    | .agg xs, .agg ys => match P.underlying t with
      | some (.struct fields) =>
        if P.stoodInHeld t then none else eqv.eqFields P (eqv P live d) fields.toList xs ys
      | some (.array len elem) => match (P.info? elem).map (·.size) with
        | some n => eqv.eqElems P (eqv P live d) elem n len 0 xs ys
        | none => none
      | _ => none
    | _, _ => none

end
end Go.SK

namespace Go.SK
open Go
noncomputable section

def nth {α : Type} : List α → Nat → Option α
  | [], _ => none
  | a :: l, k => match k with
    | 0 => some a
    | k + 1 => nth l k

/-- n elements from the head; none: there are fewer -/
def takeN {α : Type} : Nat → List α → Option (List α)
  | 0, _ => some []
  | _ + 1, [] => none
  | n + 1, a :: l => match takeN n l with
    | none => none
    | some r => some (a :: r)

/-- the list behind k elements; none: there are fewer -/
def dropN {α : Type} : Nat → List α → Option (List α)
  | 0, l => some l
  | _ + 1, [] => none
  | n + 1, _ :: l => dropN n l

/-- xs over l, from its head on -/
def over {α : Type} : List α → List α → Option (List α)
  | [], l => some l
  | _ :: _, [] => none
  | x :: xs, _ :: l => match over xs l with
    | none => none
    | some r => some (x :: r)

/-- xs over l, from k on -/
def splice {α : Type} : Nat → List α → List α → Option (List α)
  | 0, xs, l => over xs l
  | _ + 1, _, [] => none
  | k + 1, xs, a :: l => match splice k xs l with
    | none => none
    | some r => some (a :: r)

def len {α : Type} : List α → Nat
  | [] => 0
  | _ :: l => len l + 1

def fnat {α : Type} (n : Nat) (f : Nat → Option α) : Option α :=
  match n with
  | 0 => f 0
  | k + 1 => f (k + 1)

def part (l : List AV) (o n : Nat) : Option (List AV) :=
  match dropN o l with
  | none => none
  | some r => takeN n r

def getCells (H : Heap) (b : Nat) : Option (List AV) :=
  match H.get b with
  | some (.cells cs _ _) => some cs
  | _ => none

def sizeT (P : Program) (t : TypeId) : Option Nat := (P.info? t).map (·.size)
def bytesT (P : Program) (t : TypeId) : Option Nat := (P.info? t).map (·.bytes)
def zeroC (P : Program) (t : TypeId) : Option (List AV) :=
  match P.info? t with
  | some i => match i.zero with
    | some v => match ofZero v with
      | some a => a.cells
      | none => none
    | none => none
  | none => none
def zeroT (P : Program) (t : TypeId) : Option AV :=
  match P.info? t with
  | some i => match i.zero with
    | some v => ofZero v
    | none => none
  | none => none
def isAggT (P : Program) (t : TypeId) : Option Bool :=
  match P.underlying t with
  | some (.struct _) => some true
  | some (.array _ _) => some true
  | some _ => some false
  | none => none

def loadT (P : Program) (t : TypeId) (H : Heap) (b o : Nat) : Option AV :=
  match getCells H b with
  | none => none
  | some cs => match isAggT P t with
    | some true => match sizeT P t with
      | some n => (part cs o n).map .agg
      | none => none
    | some false => nth cs o
    | none => none

def storeCs (H : Heap) (b o : Nat) (vs : List AV) : Option Heap :=
  match H.get b with
  | some (.cells cs e k) => match k with
    | .ro => none
    | _ => match splice o vs cs with
      | some cs' => some (H.set b (some (.cells cs' e k)))
      | none => none
  | _ => none

def loadA (P : Program) (t : TypeId) (H : Heap) : AV → Option AV
  | .ptr b o => loadT P t H b o
  | _ => none

def storeA (P : Program) (t : TypeId) (H : Heap) (a v : AV) : Option Heap :=
  match a with
  | .ptr b o => match sizeT P t with
    | some n => match v.cells with
      | some cs => match Nat.beq (len cs) n with
        | true => storeCs H b o cs
        | false => none
      | none => none
    | none => none
  | _ => none

def evs (E : Env) : List Operand → Option (List AV)
  | [] => some []
  | x :: xs => match ev E x with
    | none => none
    | some a => match evs E xs with
      | none => none
      | some r => some (a :: r)

inductive OpR where
  | val (v : AV) (H : Heap) (nx : Nat)
  | call (f : FuncId) (args : List AV) (H : Heap) (nx : Nat)
  | yield (l : Nat) (args : List AV) (H : Heap) (nx : Nat)
  deriving Inhabited

def reps (n : Nat) (z : List AV) : List AV :=
  match n with
  | 0 => []
  | n + 1 => z ++ reps n z

def cellsOfS (H : Heap) (size n : Nat) : AV → Option (List AV)
  | .nils => match Nat.beq n 0 with
    | true => some []
    | false => none
  | .slc b o _ _ => match getCells H b with
    | some cs => part cs o (Nat.mul n size)
    | none => none
  | .str s => match Nat.beq size 1 with
    | true => (takeN n s).map (·.map fun c => .int .u8 (.ofNat c))
    | false => none
  | _ => none

def lenS : AV → Option Nat
  | .nils => some 0
  | .slc _ _ n _ => some n
  | .str s => some (len s)
  | _ => none

def asNat : AV → Option Nat
  | .int _ (.ofNat n) => some n
  | _ => none

/-- a new row that has grown: its capacity is not known -/
def grown (H : Heap) (nx : Nat) (e : TypeId) (k : CK) (old new : List AV) (need : Nat) : OpR :=
  .val (.slc nx 0 need none) (H.set nx (some (.cells (old ++ new) e k))) (Nat.add nx 1)

def isIntT (P : Program) : Option TypeId → Option Bool
  | none => some false
  | some t => match P.underlying t with
    | some (.int _) => some true
    | some _ => some false
    | none => none

def appN (isInt : Bool) (x : AV) : Option Nat :=
  match isInt with
  | true => asNat x
  | false => lenS x

def appC (H : Heap) (isInt : Bool) (size n : Nat) (z : List AV) (x : AV) : Option (List AV) :=
  match isInt with
  | true => some (reps n z)
  | false => cellsOfS H size n x

/-- n ≥ 1 new elements onto a slice -/
def appS (H : Heap) (nx : Nat) (e : TypeId) (size : Nat) (b o l : Nat) (c : Option Nat) (new : List AV) (need : Nat) : Option OpR :=
  match c with
  | some c => match Nat.ble need c with
    | true => match storeCs H b (Nat.add o (Nat.mul l size)) new with
      | some H' => some (.val (.slc b o need (some c)) H' nx)
      | none => none
    | false => match cellsOfS H size l (.slc b o l (some c)) with
      | some old => some (grown H nx e .own old new need)
      | none => none
  | none => match H.get b with
    | some (.cells cs e' k) => match k, Nat.beq e e', part cs o (Nat.mul l size) with
      | .ro, _, _ => none
      | k, true, some old => some (grown (H.set b none) nx e k old new need)
      | _, _, _ => none
    | _ => none

def small (need bytes : Nat) : Bool := Nat.ble (Nat.mul need bytes) 1073741824 && Nat.ble need 1073741824

def appTo (H : Heap) (nx : Nat) (e : TypeId) (size bytes : Nat) (s : AV) (n : Nat) (new : List AV) : Option OpR :=
  match Nat.beq n 0 with
  | true => match s with
    | .nils => some (.val s H nx)
    | .slc _ _ _ _ => some (.val s H nx)
    | _ => none
  | false => match s with
    | .nils => match small n bytes with
      | true => some (grown H nx e .own [] new n)
      | false => none
    | .slc b o l c => fnat (Nat.add l n) fun need => match small need bytes with
      | true => appS H nx e size b o l c new need
      | false => none
    | _ => none

def appendOp (P : Program) (H : Heap) (nx : Nat) (sType : TypeId) (xType : Option TypeId) (s x : AV) : Option OpR :=
  match P.underlying sType with
  | some (.slice e) =>
    match sizeT P e, bytesT P e, zeroC P e, isIntT P xType with
    | some size, some bytes, some z, some isInt =>
      match Nat.beq (len z) size, appN isInt x with
      | true, some n => fnat n fun n => match small n bytes, appC H isInt size n z x with
        | true, some new => appTo H nx e size bytes s n new
        | _, _ => none
      | _, _ => none
    | _, _, _, _ => none
  | _ => none

def goI (n : Nat) : AV := .int .i64 (.ofNat n)

def keyEq : AV → AV → Option Bool
  | .int k a, .int k' b => match keq k k' with
    | true => some (ieq a b)
    | false => none
  | .str a, .str b => some (leq a b)
  | _, _ => none

def keyOkD (d : TypeDesc) (k : AV) : Bool :=
  match k, d with
  | .int k _, .int k' => keq k k'
  | .str _, .string => true
  | _, _ => false
def keyOk (P : Program) (t : TypeId) (k : AV) : Bool :=
  match P.underlying t with
  | some d => keyOkD d k
  | none => false

def findE (k : AV) : List (AV × AV) → Option (Option AV)
  | [] => some none
  | (k', v) :: es => match keyEq k k' with
    | some true => some (some v)
    | some false => findE k es
    | none => none

def putE (k v : AV) : List (AV × AV) → Option (List (AV × AV))
  | [] => some [(k, v)]
  | (k', v') :: es => match keyEq k k' with
    | some true => some ((k, v) :: es)
    | some false => match putE k v es with
      | some r => some ((k', v') :: r)
      | none => none
    | none => none

def delE (k : AV) : List (AV × AV) → Option (List (AV × AV))
  | [] => some []
  | (k', v') :: es => match keyEq k k' with
    | some true => some es
    | some false => match delE k es with
      | some r => some ((k', v') :: r)
      | none => none
    | none => none

def getMap (H : Heap) : AV → Option (List (AV × AV))
  | .mp none => some []
  | .mp (some r) => match H.get r with
    | some (.map es) => some es
    | _ => none
  | _ => none

def min2 (lt : Int → Int → Bool) : AV → AV → Option AV
  | .int k x, .int k' y => match keq k k' with
    | true => some (.int k (match lt y x with | true => y | false => x))
    | false => none
  | _, _ => none
def minL (lt : Int → Int → Bool) : AV → List AV → Option AV
  | x, [] => some x
  | x, y :: l => match min2 lt x y with
    | some z => minL lt z l
    | none => none

def bytesOf : List AV → Option (List Nat)
  | [] => some []
  | .int .u8 (.ofNat n) :: l => match Nat.blt n 256, bytesOf l with
    | true, some r => some (n :: r)
    | _, _ => none
  | _ :: _ => none

def minN (a b : Nat) : Nat :=
  match Nat.ble a b with
  | true => a
  | false => b

def builtinOp (P : Program) (H : Heap) (nx : Nat) (b : Builtin) (ts : List TypeId) (args : List AV) : Option OpR :=
  match b, ts, args with
  | .append, t :: ts, [s, x] => appendOp P H nx t ts.head? s x
  | .len, t :: _, [x] =>
    match P.underlying t, x with
    | some .string, .str s => fnat (len s) fun n => some (.val (goI n) H nx)
    | some (.array n _), _ => some (.val (goI n) H nx)
    | some (.slice _), .nils => some (.val (goI 0) H nx)
    | some (.slice _), .slc _ _ n _ => some (.val (goI n) H nx)
    | some (.map _ _), m => match getMap H m with
      | some es => fnat (len es) fun n => some (.val (goI n) H nx)
      | none => none
    | some (.pointer a), _ => match P.underlying a with
      | some (.array n _) => some (.val (goI n) H nx)
      | _ => none
    | _, _ => none
  | .cap, t :: _, [x] =>
    match P.underlying t, x with
    | some (.array n _), _ => some (.val (goI n) H nx)
    | some (.slice _), .nils => some (.val (goI 0) H nx)
    | some (.slice _), .slc _ _ _ (some c) => some (.val (goI c) H nx)
    | _, _ => none
  | .copy, t :: _, [d, s] =>
    match P.underlying t with
    | some (.slice e) => match sizeT P e, lenS d, lenS s with
      | some size, some ld, some ls =>
        match cellsOfS H size (minN ls ld) s with
        | none => none
        | some cs => match d with
          | .nils => some (.val (goI (minN ls ld)) H nx)
          | .slc b o _ _ => match Nat.beq (minN ls ld) 0 with
            | true => some (.val (goI 0) H nx)
            | false => match storeCs H b o cs with
              | some H' => some (.val (goI (minN ls ld)) H' nx)
              | none => none
          | _ => none
      | _, _, _ => none
    | _ => none
  | .clear, t :: _, [x] =>
    match P.underlying t, x with
    | some _, .mp none => some (.val undef H nx)
    | some _, .mp (some r) => match H.get r with
      | some (.map _) => some (.val undef (H.set r (some (.map []))) nx)
      | _ => none
    | some _, .nils => some (.val undef H nx)
    | some (.slice e), .slc b o n _ => match Nat.beq n 0, zeroC P e with
      | true, _ => some (.val undef H nx)
      | false, some z => match storeCs H b o (reps n z) with
        | some H' => some (.val undef H' nx)
        | none => none
      | false, none => none
    | _, _ => none
  | .delete, t :: _, [m, k] =>
    match P.underlying t with
    | some (.map kt _) => match keyOk P kt k with
      | true => match m with
        | .mp none => some (.val undef H nx)
        | .mp (some r) => match H.get r with
          | some (.map es) => match delE k es with
            | some es' => some (.val undef (H.set r (some (.map es'))) nx)
            | none => none
          | _ => none
        | _ => none
      | false => none
    | _ => none
  | .min, _, x :: xs => (minL (fun a b => ilt a b) x xs).map (.val · H nx)
  | .max, _, x :: xs => (minL (fun a b => ilt b a) x xs).map (.val · H nx)
  | .real, _, [.cpx k a _] => some (.val (.flt k a) H nx)
  | .imag, _, [.cpx k _ b] => some (.val (.flt k b) H nx)
  | _, _, _ => none

def fillP (place : Nat → Option (Nat × Nat)) (E : Env) : List (Nat × Operand) → List AV → Option (List AV)
  | [], cs => some cs
  | (i, x) :: ps, cs => match place i, ev E x with
    | some (off, size), some v => match v.cells with
      | some vs => match Nat.beq (len vs) size with
        | true => match splice off vs cs with
          | some cs' => fillP place E ps cs'
          | none => none
        | false => none
      | none => none
    | _, _ => none

def bnd (x : AV) (y : Nat) : Option Nat :=
  match x with
  | .int _ (.ofNat n) => match Nat.ble n y with
    | true => some n
    | false => none
  | _ => none

def evo (E : Env) : Option Operand → Option (Option AV)
  | none => some none
  | some x => match ev E x with
    | some v => some (some v)
    | none => none

/-- low, high, max of a slice expression over len elements and a capacity -/
def bounds (len cap : Nat) (lo hi mx : Option AV) : Option (Nat × Nat × Nat) :=
  match (match mx with | some v => bnd v cap | none => some cap) with
  | none => none
  | some m => match (match hi with | some v => bnd v m | none => match mx with | none => some len | some _ => none) with
    | none => none
    | some h => match (match lo with | some v => bnd v h | none => some 0) with
      | none => none
      | some l => some (l, h, m)

def newB (H : Heap) (nx : Nat) (cs : List AV) (e : TypeId) (v : AV) : OpR :=
  .val v (H.set nx (some (.cells cs e .own))) (Nat.add nx 1)

def live (H : Heap) (b o : Nat) : Bool :=
  match H.get b with
  | some (.cells cs _ k) => match k, nth cs o with
    | .own, some _ => true
    | _, _ => false
  | _ => false

def sliceOp (P : Program) (H : Heap) (nx : Nat) (t : TypeId) (x : AV) (lo hi mx : Option AV) : Option OpR :=
  match P.underlying t with
  | some (.array n e) => match x, sizeT P e with
    | .ptr b o, some size => match bounds n n lo hi mx with
      | some (l, h, m) => some (.val (.slc b (match Nat.beq m l with | true => o | false => Nat.add o (Nat.mul l size)) (Nat.sub h l) (some (Nat.sub m l))) H nx)
      | none => none
    | _, _ => none
  | some .string => match x, mx with
    | .str s, none => fnat (len s) fun n => match bounds n n lo hi none with
      | some (l, h, _) => (part' s l (Nat.sub h l)).map fun r => .val (.str r) H nx
      | none => none
    | _, _ => none
  | some (.slice e) => match x, sizeT P e with
    | .nils, some _ => match bounds 0 0 lo hi mx with
      | some _ => some (.val .nils H nx)
      | none => none
    | .slc b o n (some c), some size => match bounds n c lo hi mx with
      | some (l, h, m) => some (.val (.slc b (match Nat.beq m l with | true => o | false => Nat.add o (Nat.mul l size)) (Nat.sub h l) (some (Nat.sub m l))) H nx)
      | none => none
    | .slc b o n none, some size =>
      match mx with
      | some mv => match bounds n n lo hi (some mv) with
        | some (l, h, m) => some (.val (.slc b (match Nat.beq m l with | true => o | false => Nat.add o (Nat.mul l size)) (Nat.sub h l) (some (Nat.sub m l))) H nx)
        | none => none
      | none => match bounds n n lo hi none, H.get b with
        | some (l, h, _), some (.cells _ e' _) =>
          match (Nat.blt l h || Nat.beq l 0) && Nat.beq e e' with
          | true => some (.val (.slc b (Nat.add o (Nat.mul l size)) (Nat.sub h l) none) H nx)
          | false => none
        | _, _ => none
    | _, _ => none
  | some (.pointer arr) => match x, P.underlying arr with
    | .ptr b o, some (.array n e) => match sizeT P e with
      | some size => match bounds n n lo hi mx with
        | some (l, h, m) => some (.val (.slc b (match Nat.beq m l with | true => o | false => Nat.add o (Nat.mul l size)) (Nat.sub h l) (some (Nat.sub m l))) H nx)
        | none => none
      | none => none
    | _, _ => none
  | _ => none
  where part' (s : List Nat) (o n : Nat) : Option (List Nat) :=
  match dropN o s with
  | none => none
  | some r => takeN n r

def convOp (P : Program) (H : Heap) (nx : Nat) (src dst : TypeId) (x : AV) : Option OpR :=
  match P.underlying src, P.underlying dst, x with
  | some _, some (.int k), .int _ n => fint (wrp k n) fun n => some (.val (.int k n) H nx)
  | some _, some (.float k), .int _ n => some (.val (.flt k (k.nearest n)) H nx)
  | some _, some .string, .str s => some (.val (.str s) H nx)
  | some .string, some (.slice e), .str s => match P.underlying e, sizeT P e with
    | some (.int .u8), some 1 => some (.val (.slc nx 0 (len s) none) (H.set nx (some (.cells (s.map fun c => .int .u8 (.ofNat c)) e .str))) (Nat.add nx 1))
    | _, _ => none
  | some (.slice _), some (.slice e), .slc b o n c => match Nat.beq src dst, P.underlying e, H.get b with
    | true, some (.int .u8), some (.cells cs e' k) => match k with
      | .ro => none
      | _ => some (.val (.slc b o n c) (H.set b (some (.cells cs e' .str))) nx)
    | _, _, _ => none
  | some (.slice e), some .string, .nils => match P.underlying e with
    | some (.int .u8) => some (.val (.str []) H nx)
    | _ => none
  | some (.slice e), some .string, .slc b o n _ => match P.underlying e with
    | some (.int .u8) => match getCells H b with
      | some cs => match part cs o n with
        | some r => match bytesOf r with
          | some bs => some (.val (.str bs) H nx)
          | none => none
        | none => none
      | none => none
    | _ => none
  | _, _, _ => none

def idxOp (P : Program) (H : Heap) (nx : Nat) (t : TypeId) (x i : AV) : Option OpR :=
  match i with
  | .int _ (.ofNat i) => match P.underlying t, x with
    | some (.array n e), .ptr b o => match sizeT P e, Nat.blt i n with
      | some size, true => some (.val (.ptr b (Nat.add o (Nat.mul i size))) H nx)
      | _, _ => none
    | some (.slice e), .slc b o n _ => match sizeT P e, Nat.blt i n with
      | some size, true => some (.val (.ptr b (Nat.add o (Nat.mul i size))) H nx)
      | _, _ => none
    | _, _ => none
  | _ => none

def indexOp (P : Program) (H : Heap) (nx : Nat) (t : TypeId) (x i : AV) : Option OpR :=
  match i with
  | .int _ (.ofNat i) => match P.underlying t, x with
    | some (.array n e), .agg cs => match sizeT P e, Nat.blt i n with
      | some size, true => (eqv.partAV P e cs (Nat.mul i size)).map (.val · H nx)
      | _, _ => none
    | some .string, .str s => match nth s i with
      | some c => some (.val (.int .u8 (.ofNat c)) H nx)
      | none => none
    | _, _ => none
  | _ => none

def allScalar : AV → Bool
  | .agg _ | .tup _ => false
  | _ => true

def eqA (P : Program) (H : Heap) (t : TypeId) (cst : Bool) (a b : AV) : Option Bool :=
  match a, b with
  | .nili, .nili => match cst with
    | true => eqv P (live H) 100 t a b
    | false => none
  | .int _ _, _ => none
  | .flt _ _, _ => none
  | .cpx _ _ _, _ => none
  | .str _, _ => none
  | _, _ => match P.eqGuardType P.depth t with
    | true => none
    | false => eqv P (live H) 100 t a b

def binEq (P : Program) (H : Heap) (op : BinOp) (t : TypeId) (cst : Bool) (a b : AV) : Option AV :=
  match op with
  | .eql => match eqA P H t cst a b with
    | some r => some (.bool r)
    | none => none
  | .neq => match eqA P H t cst a b with
    | some r => some (.bool (!r))
    | none => none
  | _ => none

def binA (P : Program) (H : Heap) (op : BinOp) (t : TypeId) (cst : Bool) (a b : AV) : Option AV :=
  match a, b with
  | .int k x, .int k' y =>
    match op with
    | .shl => shiftOp op k x y
    | .shr => shiftOp op k x y
    | _ => match keq k k' with
      | true => intOp op k x y
      | false => none
  | .str x, .str y => strOp op x y
  | a, b => binEq P H op t cst a b

def isC : Operand → Bool
  | .const _ => true
  | _ => false

def xorM (k : IntKind) : Int :=
  match k.signed with
  | true => -1
  | false => .ofNat (bitsPow k - 1)

def unA (op : UnOp) (x : AV) : Option AV :=
  match op, x with
  | .neg, .int k n => fint (wrp k (0 - n)) fun n => some (.int k n)
  | .xor, .int k n => bitOp .xor k (xorM k) n
  | .not, .bool b => some (.bool (!b))
  | _, _ => none


def opMove (E : Env) (H : Heap) (nx : Nat) (x : Operand) : Option OpR :=
  match ev E x with
  | some v => some (.val v H nx)
  | none => none
def opPick (E : Env) (H : Heap) (nx : Nat) (c a b : Operand) : Option OpR :=
  match ev E c with
  | some (.bool true) => opMove E H nx a
  | some (.bool false) => opMove E H nx b
  | _ => none
def opAlloc (P : Program) (H : Heap) (nx : Nat) (t : TypeId) : Option OpR :=
  match zeroC P t with
  | some z => some (newB H nx z t (.ptr nx 0))
  | none => none
def opBox (P : Program) (E : Env) (H : Heap) (nx : Nat) (t : TypeId) (x : Operand) : Option OpR :=
  match ev E x with
  | some v => match v.cells, sizeT P t with
    | some cs, some _ => some (newB H nx cs t (.ptr nx 0))
    | _, _ => none
  | none => none
def fieldPlace (P : Program) (fs : Array Field) (i : Nat) : Option (Nat × Nat) :=
  match nth fs.toList i with
  | some f => match sizeT P f.type with
    | some s => some (f.offset, s)
    | none => none
  | none => none
def placesL (P : Program) : List Field → Option (List (Nat × Nat))
  | [] => some []
  | f :: fs => match sizeT P f.type with
    | some s => match placesL P fs with
      | some r => some ((f.offset, s) :: r)
      | none => none
    | none => none
def opBuild (P : Program) (E : Env) (H : Heap) (nx : Nat) (t : TypeId) (parts : List (Nat × Operand)) : Option OpR :=
  match zeroC P t with
  | some z => match P.underlying t with
    | some (.struct fs) => match placesL P fs.toList with
      | some pl => match fillP (nth pl) E parts z with
        | some cs => some (.val (.agg cs) H nx)
        | none => none
      | none => none
    | some (.array _ e) => match sizeT P e with
      | some s => match fillP (fun i => some (Nat.mul i s, s)) E parts z with
        | some cs => some (.val (.agg cs) H nx)
        | none => none
      | none => none
    | _ => none
  | none => none
def opBuildSlice (P : Program) (E : Env) (H : Heap) (nx : Nat) (t : TypeId) (n : Nat) (parts : List (Nat × Operand)) : Option OpR :=
  match P.underlying t with
  | some (.slice e) => match sizeT P e, zeroC P e with
    | some s, some z => match Nat.ble (Nat.mul n s) 16777216 && Nat.beq (len z) s with
      | true => match fillP (fun i => some (Nat.mul i s, s)) E parts (reps n z) with
        | some cs => some (newB H nx cs e (.slc nx 0 n (some n)))
        | none => none
      | false => none
    | _, _ => none
  | _ => none
def opStore (P : Program) (E : Env) (H : Heap) (nx : Nat) (t : TypeId) (a x : Operand) : Option OpR :=
  match ev E a, ev E x with
  | some a, some v => match storeA P t H a v with
    | some H' => some (.val undef H' nx)
    | none => none
  | _, _ => none
def opNil (E : Env) (H : Heap) (nx : Nat) (x : Operand) : Option OpR :=
  match ev E x with
  | some (.ptr b o) => some (.val (.ptr b o) H nx)
  | some (.func (.func f) a b) => some (.val (.func (.func f) a b) H nx)
  | some (.func (.yield l) a b) => some (.val (.func (.yield l) a b) H nx)
  | _ => none
def opBin (P : Program) (E : Env) (H : Heap) (nx : Nat) (op : BinOp) (t : TypeId) (x y : Operand) : Option OpR :=
  match ev E x with
  | some a => match ev E y with
    | some b => match binA P H op t (isC x || isC y) a b with
      | some v => some (.val v H nx)
      | none => none
    | none => none
  | none => none
def opUn (E : Env) (H : Heap) (nx : Nat) (op : UnOp) (x : Operand) : Option OpR :=
  match ev E x with
  | some v => match unA op v with
    | some v => some (.val v H nx)
    | none => none
  | none => none
def opConv (P : Program) (E : Env) (H : Heap) (nx : Nat) (s d : TypeId) (x : Operand) : Option OpR :=
  match ev E x with
  | some v => convOp P H nx s d v
  | none => none
def opIface (P : Program) (E : Env) (H : Heap) (nx : Nat) (t : TypeId) (x : Operand) : Option OpR :=
  match P.underlying t with
  | some (.interface _) => none
  | some _ => match ev E x with
    | some v => some (.val (.ifc t v) H nx)
    | none => none
  | none => none
def opFunc (E : Env) (H : Heap) (nx : Nat) (fn : Fn) (a b : List Operand) : Option OpR :=
  match evs E a with
  | some a => match evs E b with
    | some b => some (.val (.func fn a b) H nx)
    | none => none
  | none => none
def newMap (H : Heap) (nx : Nat) : OpR := .val (.mp (some nx)) (H.set nx (some (.map []))) (Nat.add nx 1)
def opMakeMap (P : Program) (E : Env) (H : Heap) (nx : Nat) (t : TypeId) (r : Option Operand) : Option OpR :=
  match P.underlying t with
  | some (.map _ _) => match r with
    | none => some (newMap H nx)
    | some x => match ev E x with
      | some (.int _ _) => some (newMap H nx)
      | _ => none
  | _ => none
def opMakeSlice (P : Program) (E : Env) (H : Heap) (nx : Nat) (t : TypeId) (l c : Operand) : Option OpR :=
  match P.underlying t with
  | some (.slice e) => match sizeT P e, bytesT P e, zeroC P e with
    | some s, some w, some z => match ev E l, ev E c with
      | some (.int _ (.ofNat l)), some (.int _ (.ofNat c)) => match Nat.ble l c, Nat.ble (Nat.mul w c) 1073741824, Nat.ble c 1073741824 && Nat.beq (len z) s with
        | true, true, true => some (newB H nx (reps c z) e (.slc nx 0 l (some c)))
        | _, _, _ => none
      | _, _ => none
    | _, _, _ => none
  | _ => none
def opSlice (P : Program) (E : Env) (H : Heap) (nx : Nat) (t : TypeId) (x : Operand) (lo hi mx : Option Operand) : Option OpR :=
  match ev E x, evo E lo, evo E hi, evo E mx with
  | some v, some lo, some hi, some mx => sliceOp P H nx t v lo hi mx
  | _, _, _, _ => none
def opField (P : Program) (E : Env) (H : Heap) (nx : Nat) (t : TypeId) (x : Operand) (f : Nat) : Option OpR :=
  match ev E x with
  | some (.agg cs) => match P.underlying t with
    | some (.struct fs) => match nth fs.toList f with
      | some f => match eqv.partAV P f.type cs f.offset with
        | some v => some (.val v H nx)
        | none => none
      | none => none
    | _ => none
  | _ => none
def opIndexAddr (P : Program) (E : Env) (H : Heap) (nx : Nat) (t : TypeId) (x i : Operand) : Option OpR :=
  match ev E x with
  | some x => match ev E i with
    | some i => idxOp P H nx t x i
    | none => none
  | none => none
def opIndex (P : Program) (E : Env) (H : Heap) (nx : Nat) (t : TypeId) (x i : Operand) : Option OpR :=
  match ev E x with
  | some x => match ev E i with
    | some i => indexOp P H nx t x i
    | none => none
  | none => none
def okTup (ok : Bool) (v : AV) (b : Bool) : AV :=
  match ok with
  | true => .tup [v, .bool b]
  | false => v
def opLookup (P : Program) (E : Env) (H : Heap) (nx : Nat) (t : TypeId) (x k : Operand) (ok : Bool) : Option OpR :=
  match P.underlying t with
  | some (.map kt et) => match ev E x, ev E k with
    | some m, some k => match getMap H m, keyOk P kt k with
      | some es, true => match findE k es with
        | some (some v) => some (.val (okTup ok v true) H nx)
        | some none => match zeroT P et with
          | some z => some (.val (okTup ok z false) H nx)
          | none => none
        | none => none
      | _, _ => none
    | _, _ => none
  | _ => none
def opMapPut (P : Program) (E : Env) (H : Heap) (nx : Nat) (t : TypeId) (m k v : Operand) : Option OpR :=
  match P.underlying t with
  | some (.map kt _) => match ev E m, ev E k, ev E v with
    | some (.mp (some r)), some k, some v => match H.get r, keyOk P kt k with
      | some (.map es), true => match putE k v es with
        | some es' => some (.val undef (H.set r (some (.map es'))) nx)
        | none => none
      | _, _ => none
    | _, _, _ => none
  | _ => none
def opRange (P : Program) (E : Env) (H : Heap) (nx : Nat) (t : TypeId) (x : Operand) : Option OpR :=
  match P.underlying t, ev E x with
  | some .string, some (.str s) => some (.val (.ptr nx 0) (H.set nx (some (.strIter s 0))) (Nat.add nx 1))
  | some (.map _ _), some (.mp none) => some (.val (.ptr nx 0) (H.set nx (some (.mapIter none))) (Nat.add nx 1))
  | some (.map _ _), some (.mp (some m)) => match H.get m with
    | some (.map _) => some (.val (.ptr nx 0) (H.set nx (some (.mapIter (some m)))) (Nat.add nx 1))
    | _ => none
  | _, _ => none
def opNext (E : Env) (H : Heap) (nx : Nat) (it : Operand) (str : Bool) : Option OpR :=
  match ev E it with
  | some (.ptr r 0) => match H.get r, str with
    | some (.strIter s pos), true => match s with
      | [] => some (.val (.tup [.bool false]) H nx)
      | c :: s' => match Nat.blt c 128 with
        | true => some (.val (.tup [.bool true, goI pos, .int .i32 (.ofNat c)]) (H.set r (some (.strIter s' (Nat.add pos 1)))) nx)
        | false => none
    | some (.mapIter none), false => some (.val (.tup [.bool false]) H nx)
    | some (.mapIter (some m)), false => match H.get m with
      | some (.map []) => some (.val (.tup [.bool false]) H nx)
      | _ => none
    | _, _ => none
  | _ => none
def opExtract (E : Env) (H : Heap) (nx : Nat) (t : Operand) (i : Nat) : Option OpR :=
  match ev E t with
  | some (.tup vs) => match nth vs i with
    | some v => some (.val v H nx)
    | none => none
  | _ => none
def opCall (P : Program) (E : Env) (H : Heap) (nx : Nat) (c : Call) : Option OpR :=
  match c.callee with
  | .builtin b => match evs E c.args.toList with
    | some args => builtinOp P H nx b c.argTypes.toList args
    | none => none
  | .value f => match ev E f with
    | some (.func (.func f) first captured) => match evs E c.args.toList with
      | some args => some (.call f (first ++ (args ++ captured)) H nx)
      | none => none
    | some (.func (.yield l) [] []) => match evs E c.args.toList with
      | some args => some (.yield l args H nx)
      | none => none
    | _ => none
  | .invoke _ _ => none

/-- one operation that runs no code -/
structure Ins where
  f : Env → Heap → Nat → Option OpR

def load1 (E : Env) (H : Heap) (nx : Nat) (a : Operand) : Option OpR :=
  match ev E a with
  | some (.ptr b o) => match getCells H b with
    | some cs => match nth cs o with
      | some v => some (.val v H nx)
      | none => none
    | none => none
  | _ => none
def loadN (n : Nat) (E : Env) (H : Heap) (nx : Nat) (a : Operand) : Option OpR :=
  match ev E a with
  | some (.ptr b o) => match getCells H b with
    | some cs => match part cs o n with
      | some r => some (.val (.agg r) H nx)
      | none => none
    | none => none
  | _ => none
def cLoad (P : Program) (t : TypeId) (a : Operand) : Ins :=
  match isAggT P t with
  | some true => match sizeT P t with
    | some n => ⟨fun E H nx => loadN n E H nx a⟩
    | none => ⟨fun _ _ _ => none⟩
  | some false => ⟨fun E H nx => load1 E H nx a⟩
  | none => ⟨fun _ _ _ => none⟩
def faddr (off : Nat) (E : Env) (H : Heap) (nx : Nat) (x : Operand) : Option OpR :=
  match ev E x with
  | some (.ptr b o) => some (.val (.ptr b (Nat.add o off)) H nx)
  | _ => none
def cFieldAddr (P : Program) (t : TypeId) (x : Operand) (f : Nat) : Ins :=
  match P.underlying t with
  | some (.struct fs) => match fieldPlace P fs f with
    | some (off, _ + 1) => ⟨fun E H nx => faddr off E H nx x⟩
    | _ => ⟨fun _ _ _ => none⟩
  | _ => ⟨fun _ _ _ => none⟩

def cop (P : Program) (o : Op) : Ins :=
  match o with
  | .move x => ⟨fun E H nx => opMove E H nx x⟩
  | .assign x => ⟨fun E H nx => opMove E H nx x⟩
  | .pick c a b => ⟨fun E H nx => opPick E H nx c a b⟩
  | .alloc t => ⟨fun _ H nx => opAlloc P H nx t⟩
  | .box t x => ⟨fun E H nx => opBox P E H nx t x⟩
  | .build t parts => ⟨fun E H nx => opBuild P E H nx t parts.toList⟩
  | .buildSlice t n parts => ⟨fun E H nx => opBuildSlice P E H nx t n parts.toList⟩
  | .load t a => cLoad P t a
  | .store t a x => ⟨fun E H nx => opStore P E H nx t a x⟩
  | .nilCheck x => ⟨fun E H nx => opNil E H nx x⟩
  | .binOp op t x y _ => ⟨fun E H nx => opBin P E H nx op t x y⟩
  | .unOp op _ x => ⟨fun E H nx => opUn E H nx op x⟩
  | .convert s d x => ⟨fun E H nx => opConv P E H nx s d x⟩
  | .makeInterface t x => ⟨fun E H nx => opIface P E H nx t x⟩
  | .makeFunc (.yield _) _ _ => ⟨fun _ _ _ => none⟩
  | .makeFunc fn a b => ⟨fun E H nx => opFunc E H nx fn a.toList b.toList⟩
  | .makeMap t r => ⟨fun E H nx => opMakeMap P E H nx t r⟩
  | .makeSlice t l c => ⟨fun E H nx => opMakeSlice P E H nx t l c⟩
  | .slice t x lo hi mx => ⟨fun E H nx => opSlice P E H nx t x lo hi mx⟩
  | .fieldAddr t x f => cFieldAddr P t x f
  | .field t x f => ⟨fun E H nx => opField P E H nx t x f⟩
  | .indexAddr t x i => ⟨fun E H nx => opIndexAddr P E H nx t x i⟩
  | .index t x i => ⟨fun E H nx => opIndex P E H nx t x i⟩
  | .lookup t x k ok => ⟨fun E H nx => opLookup P E H nx t x k ok⟩
  | .mapUpdate t m k v => ⟨fun E H nx => opMapPut P E H nx t m k v⟩
  | .insert t m k v => ⟨fun E H nx => opMapPut P E H nx t m k v⟩
  | .range t x => ⟨fun E H nx => opRange P E H nx t x⟩
  | .next it str => ⟨fun E H nx => opNext E H nx it str⟩
  | .extract t i => ⟨fun E H nx => opExtract E H nx t i⟩
  | .call c => ⟨fun E H nx => opCall P E H nx c⟩
  | _ => ⟨fun _ _ _ => none⟩

def aop (P : Program) (E : Env) (H : Heap) (nx : Nat) (o : Op) : Option OpR := (cop P o).f E H nx

end
end Go.SK

namespace Go.SK
open Go
noncomputable section

abbrev Res := Option (AExit × St)

/-- what is called beside the code: answers of functions that are not walked -/
abbrev Orc := FuncId → List AV → Heap → Nat → Option (AV × Heap × Nat)
def noOrc : Orc := fun _ _ _ _ => none

/-- all slots that are written are there -/
def dstsOk (nt : Nat) : List Oper → Bool
  | [] => true
  | o :: os => match o.dst with
    | some d => Nat.blt d nt && dstsOk nt os
    | none => dstsOk nt os

def ntOf (P : Program) (fn : FuncId) : Nat :=
  match P.funcs[fn]? with
  | some f => f.ntmps
  | none => 0

def tmOf : List AV → Nat → T AV → T AV
  | [], _, t => t
  | a :: l, i, t => tmOf l (i + 1) (t.set i (some a))

def putD (l : List (Nat × AV)) (d : Option Tmp) (v : AV) : List (Nat × AV) :=
  match d with
  | some d => (d, v) :: l
  | none => l

/-- what is kept of a region's temporaries -/
def clr (t : Nat) (tm : T AV) : T AV :=
  match tm.get t with
  | none => tm
  | some _ => tm.set t none
def flush (mask : Nat) : List (Nat × AV) → T AV → T AV
  | [], tm => tm
  | (t, v) :: l, tm => match Nat.land (Nat.shiftRight mask t) 1 with
    | 0 => clr t (flush mask l tm)
    | _ => (flush mask l tm).set t (some v)

def wantedA (E : Env) (ops : List Oper) (g : Option (Nat × Bool)) : Option Bool :=
  match g with
  | none => some true
  | some (j, w) => match nth ops j with
    | some p => match p.dst with
      | some d => match look E.tm d E.loc with
        | some (.bool b) => some (b == w)
        | some (.tup _) => some false
        | _ => none
      | none => none
    | none => none

def bindParams : List Tmp → List AV → T AV → Option (T AV)
  | [], [], tm => some tm
  | p :: ps, a :: as, tm => bindParams ps as (tm.set p (some a))
  | _, _, _ => none

def resA (P : Program) (H : Heap) (tm : T AV) : List ResultVar → Option (List AV)
  | [] => some []
  | r :: rs => match (match r with
    | .tmp t => tm.get t
    | .cell a t => match tm.get a with
      | some a => loadA P t H a
      | none => none) with
    | some v => match resA P H tm rs with
      | some l => some (v :: l)
      | none => none
    | none => none

def resV : List AV → AV
  | [v] => v
  | l => .tup l

/-- the marks of a function's range loops are let go when it ends -/
def unmark : List Nat → Heap → Option Heap
  | [], H => some H
  | m :: ms, H => match H.get m with
    | some (.defd true) => unmark ms (H.set m (some (.defd false)))
    | _ => none

section
variable (P : Program) (rec : Option Nat → FuncId → Code → St → Res)

/-- a call of a function with a Go body -/
def callA (orc : Orc) (f : FuncId) (args : List AV) (H : Heap) (nx : Nat) : Option (AV × Heap × Nat) :=
  match orc f args H nx with
  | some r => some r
  | none =>
    match P.funcs[f]? with
    | none => none
    | some fn => match fn.body with
      | none => none
      | some c =>
        match Nat.ble (len args) fn.ntmps, rec none f c { tm := tmOf args 0 .e, H, nx, marks := [] } with
        | false, _ => none
        | true, none => none
        | true, some (e, st) =>
          match e with
          | .normal | .ret => match unmark st.marks st.H with
            | some H' => match resA P H' st.tm fn.results.toList with
              | some vs => some (resV vs, H', st.nx)
              | none => none
            | none => none
          | _ => none

def paramsOk (nt : Nat) : List Tmp → Bool
  | [] => true
  | p :: ps => Nat.blt p nt && paramsOk nt ps

def jumpOf : AExit → Option Code
  | .normal => none
  | .ret => some .ret
  | .exit id => some (.exit id)
  | .goto l => some (.goto l)

/-- a round of a range over a function -/
def roundA (l : Nat) (args : List AV) (H : Heap) (nx : Nat) : Option (AV × Heap × Nat) :=
  match H.get l with
  | some (.loop .ready _ fn tmps params assign body _) =>
    match paramsOk (ntOf P fn) params, bindParams params args tmps with
    | false, _ => none
    | true, none => none
    | true, some tm =>
      match rec (some l) fn assign { tm, H, nx, marks := [] } with
      | some (.normal, st) =>
        match st.H.get l with
        | some (.loop .ready pd fn' tmps' params' assign' body' dfs') =>
          match rec (some l) fn body { st with H := st.H.set l (some (.loop .busy pd fn' tmps' params' assign' body' dfs')) } with
          | some (e, st) => match st.marks with
            | [] => match st.H.get l with
              | some (.loop _ _ fn' tmps' params' assign' body' dfs') =>
                match jumpOf e with
                | none => some (.bool true, st.H.set l (some (.loop .ready none fn' tmps' params' assign' body' dfs')), st.nx)
                | some j => some (.bool false, st.H.set l (some (.loop .done (some j) fn' tmps' params' assign' body' dfs')), st.nx)
              | _ => none
            | _ => none
          | none => none
        | _ => none
      | _ => none
  | _ => none

abbrev OpsR := Option (List (Nat × AV) × Heap × Nat)

/-- a call's answer goes on -/
def goOn (d : Option Tmp) (loc : List (Nat × AV)) (k : List (Nat × AV) → Heap → Nat → OpsR) (r : Option (AV × Heap × Nat)) : OpsR :=
  match r with
  | some (v, H, nx) => k (putD loc d v) H nx
  | none => none

def doneOp (orc : Orc) (d : Option Tmp) (loc : List (Nat × AV)) (k : List (Nat × AV) → Heap → Nat → OpsR) (r : Option OpR) : OpsR :=
  match r with
  | some (.val v H nx) => k (putD loc d v) H nx
  | some (.call f args H nx) => goOn d loc k (callA P rec orc f args H nx)
  | some (.yield l args H nx) => goOn d loc k (roundA P rec l args H nx)
  | none => none

end

abbrev Rec := Option Nat → FuncId → Code → St → Res

def stepVal (P : Program) (rec : Rec) (orc : Orc) (r : Option OpR) : Option (AV × Heap × Nat) :=
  match r with
  | some (.val v H nx) => some (v, H, nx)
  | some (.call f args H nx) => callA P rec orc f args H nx
  | some (.yield l args H nx) => roundA P rec l args H nx
  | none => none

structure Stp where
  f : Rec → T AV → (List (Nat × AV) → Heap → Nat → OpsR) → List (Nat × AV) → Heap → Nat → OpsR

def guarded (P : Program) (orc : Orc) (all : List Oper) (g : Nat × Bool) (o : Oper) (rec : Rec) (tm : T AV) (k : List (Nat × AV) → Heap → Nat → OpsR) (loc : List (Nat × AV)) (H : Heap) (nx : Nat) : OpsR :=
  match wantedA ⟨loc, tm⟩ all (some g) with
  | some true => doneOp P rec orc o.dst loc k (aop P ⟨loc, tm⟩ H nx o.op)
  | some false => k (putD loc o.dst undef) H nx
  | none => none

def cstep (P : Program) (orc : Orc) (all : List Oper) (o : Oper) : Stp :=
  match o.guard with
  | none => ⟨fun rec tm k loc H nx => doneOp P rec orc o.dst loc k (aop P ⟨loc, tm⟩ H nx o.op)⟩
  | some g => ⟨guarded P orc all g o⟩

section
variable (P : Program) (rec : Option Nat → FuncId → Code → St → Res)

def stepOp (orc : Orc) (all : List Oper) (tm : T AV) (o : Oper) (k : List (Nat × AV) → Heap → Nat → OpsR) (loc : List (Nat × AV)) (H : Heap) (nx : Nat) : OpsR :=
  (cstep P orc all o).f rec tm k loc H nx

def opsA (orc : Orc) (all : List Oper) (tm : T AV) (l : List Oper) : List (Nat × AV) → Heap → Nat → OpsR :=
  List.rec (motive := fun _ => List (Nat × AV) → Heap → Nat → OpsR) (fun loc H nx => some (loc, H, nx)) (fun o _ ih => stepOp P rec orc all tm o ih) l

def regionA (orc : Orc) (fn : FuncId) (mask : Nat) (ops : List Oper) (st : St) : Res :=
  match dstsOk (ntOf P fn) ops with
  | true => match opsA P rec orc ops st.tm ops [] st.H st.nx with
    | some (loc, H, nx) => some (.normal, { tm := flush mask loc st.tm, H, nx, marks := st.marks })
    | none => none
  | false => none

/-! regions that draw their order -/

/-- operations that may change the heap or run code -/
def isEff (P : Program) (o : Op) : Bool :=
  match o with
  | .move _ | .assign _ | .pick _ _ _ | .load _ _ | .nilCheck _ | .binOp _ _ _ _ _ | .unOp _ _ _ | .makeInterface _ _ | .makeFunc _ _ _ | .slice _ _ _ _ _ => false
  | .fieldAddr _ _ _ | .field _ _ _ | .indexAddr _ _ _ | .index _ _ _ | .lookup _ _ _ _ | .extract _ _ => false
  | .convert _ d _ => match P.underlying d with
    | some (.slice _) => true
    | some _ => false
    | none => true
  | .call c => match c.callee with
    | .builtin .len => false
    | .builtin .cap => false
    | .builtin .min => false
    | .builtin .max => false
    | _ => true
  | _ => true

def befE (acc : List Nat) : List Edge → Option Nat
  | [] => some 0
  | e :: es => match Region.binds .any e with
    | false => befE acc es
    | true => match nth acc e.on, befE acc es with
      | some b, some r => some (Nat.lor r (Nat.lor b (Nat.pow 2 e.on)))
      | _, _ => none

/-- which operations come ahead of each -/
def befs : List Oper → List Nat → Option (List Nat)
  | [], acc => some acc
  | o :: os, acc => match befE acc o.after.toList with
    | some b => befs os (acc ++ [b])
    | none => none

def bitAt (B : List Nat) (i j : Nat) : Bool :=
  match nth B i with
  | some b => Nat.testBit b j
  | none => false

def readsT : List Operand → List Tmp
  | [] => []
  | .tmp t :: l => t :: readsT l
  | _ :: l => readsT l

def memT (t : Nat) : List Nat → Bool
  | [] => false
  | u :: l => Nat.beq u t || memT t l

/-- what operation i reads and writes beside operation j -/
def apart (B : List Nat) (i j : Nat) (oi oj : Oper) : Bool :=
  match Nat.beq i j, oj.dst with
  | true, _ => true
  | false, none => true
  | false, some t => (bitAt B i j || bitAt B j i || !memT t (readsT oi.op.operands.toList)) &&
    (match oi.dst with
      | some s => !Nat.beq s t
      | none => true)

def guardOk (B : List Nat) (i : Nat) (o : Oper) : Bool :=
  match o.guard with
  | some (g, _) => bitAt B i g
  | none => true

def allIx (f : Nat → Oper → Bool) : Nat → List Oper → Bool
  | _, [] => true
  | i, o :: l => f i o && allIx f (Nat.add i 1) l

def effsOf (P : Program) : Nat → List Oper → List Nat
  | _, [] => []
  | i, o :: l => match isEff P o.op with
    | true => i :: effsOf P (Nat.add i 1) l
    | false => effsOf P (Nat.add i 1) l

def allN (f : Nat → Bool) : List Nat → Bool
  | [] => true
  | x :: l => f x && allN f l

/-- operation i may come up when the effects ahead of c have come about -/
def allowed (B : List Nat) (effs : List Nat) (i c : Nat) : Bool :=
  allN (fun j => (!bitAt B i j || Nat.blt j c) && (!bitAt B j i || Nat.ble c j)) effs
def sameCut (effs : List Nat) (i c : Nat) : Bool :=
  Nat.ble i c && allN (fun j => Nat.blt j i || Nat.ble c j) effs
def pairsOf (B : List Nat) (effs : List Nat) (i : Nat) : List Nat → List (Nat × Nat)
  | [] => []
  | c :: cs => match allowed B effs i c && !sameCut effs i c with
    | true => (i, c) :: pairsOf B effs i cs
    | false => pairsOf B effs i cs
def planOf (P : Program) (B : List Nat) (effs cuts : List Nat) : Nat → List Oper → List (Nat × Nat)
  | _, [] => []
  | i, o :: l => match isEff P o.op with
    | true => planOf P B effs cuts (Nat.add i 1) l
    | false => pairsOf B effs i cuts ++ planOf P B effs cuts (Nat.add i 1) l

/-- what is to be looked at again, if the region's operations go by one another -/
def plan (P : Program) (ops : List Oper) : Option (List (Nat × Nat)) :=
  match befs ops [] with
  | none => none
  | some B => match effsOf P 0 ops with
    | effs => match allIx (fun i oi => guardOk B i oi && allIx (fun j oj => apart B i j oi oj && (!(isEff P oi.op && isEff P oj.op && Nat.blt j i) || bitAt B i j)) 0 ops) 0 ops with
      | true => some (planOf P B effs (effs ++ [len ops]) 0 ops)
      | false => none

structure Rcd where
  loc : List (Nat × AV)
  H : Heap
  nx : Nat
  v : AV

def optEq : Option Nat → Option Nat → Bool
  | none, none => true
  | some a, some b => Nat.beq a b
  | _, _ => false
def scEq : AV → AV → Bool
  | .bool true, .bool true => true
  | .bool false, .bool false => true
  | .int k a, .int k' b => keq k k' && ieq a b
  | .str a, .str b => leq a b
  | .nilp, .nilp => true
  | .nils, .nils => true
  | .nilf, .nilf => true
  | .nili, .nili => true
  | .ptr b o, .ptr b' o' => Nat.beq b b' && Nat.beq o o'
  | .glob b o, .glob b' o' => Nat.beq b b' && Nat.beq o o'
  | .slc b o n c, .slc b' o' n' c' => Nat.beq b b' && Nat.beq o o' && (Nat.beq n n' && optEq c c')
  | .mp r, .mp r' => optEq r r'
  | _, _ => false
def scsEq : List AV → List AV → Bool
  | [], [] => true
  | a :: l, b :: m => scEq a b && scsEq l m
  | _, _ => false
def avEq : AV → AV → Bool
  | .agg l, .agg m => scsEq l m
  | .ifc t v, .ifc t' v' => Nat.beq t t' && scEq v v'
  | .func (.func f) x y, .func (.func g) x' y' => Nat.beq f g && (scsEq x x' && scsEq y y')
  | a, b => scEq a b

def step1 (orc : Orc) (all : List Oper) (tm : T AV) (o : Oper) (loc : List (Nat × AV)) (H : Heap) (nx : Nat) : Option (AV × Heap × Nat) :=
  match wantedA ⟨loc, tm⟩ all o.guard with
  | some true => stepVal P rec orc (aop P ⟨loc, tm⟩ H nx o.op)
  | some false => some (undef, H, nx)
  | none => none

def pass1 (orc : Orc) (all : List Oper) (tm : T AV) : List Oper → List (Nat × AV) → Heap → Nat → Option (List Rcd)
  | [], loc, H, nx => some [⟨loc, H, nx, undef⟩]
  | o :: os, loc, H, nx => match step1 P rec orc all tm o loc H nx with
    | some (v, H', nx') => match pass1 orc all tm os (putD loc o.dst v) H' nx' with
      | some rs => some (⟨loc, H, nx, v⟩ :: rs)
      | none => none
    | none => none

def again (all : List Oper) (tm : T AV) (rs : List Rcd) : List (Nat × Nat) → Bool
  | [] => true
  | (i, c) :: l => match nth rs i, nth rs c, nth all i with
    | some ri, some rc, some o => (match wantedA ⟨ri.loc, tm⟩ all o.guard with
      | some false => true
      | _ => match aop P ⟨ri.loc, tm⟩ rc.H rc.nx o.op with
        | some (.val v _ _) => avEq v ri.v
        | _ => false) && again all tm rs l
    | _, _, _ => false

def drawA (orc : Orc) (fn : FuncId) (mask : Nat) (pl : List (Nat × Nat)) (ops : List Oper) (st : St) : Res :=
  match dstsOk (ntOf P fn) ops with
  | true => match pass1 P rec orc ops st.tm ops [] st.H st.nx with
    | some rs => match again P ops st.tm rs pl, nth rs (len ops) with
      | true, some r => some (.normal, { tm := flush mask r.loc st.tm, H := r.H, nx := r.nx, marks := st.marks })
      | _, _ => none
    | none => none
  | false => none

def condA (rd : Option Nat) (fn : FuncId) (c : Operand) (a b : Code) (st : St) : Res :=
  match ev ⟨[], st.tm⟩ c with
  | some (.bool true) => rec rd fn a st
  | some (.bool false) => rec rd fn b st
  | _ => none

def seqA (rd : Option Nat) (fn : FuncId) (a b : Code) (st : St) : Res :=
  match rec rd fn a st with
  | some (.normal, st) => rec rd fn b st
  | r => r

def blockA (rd : Option Nat) (fn : FuncId) (id : Nat) (c : Code) (st : St) : Res :=
  match rec rd fn c st with
  | some (.exit id', st) => match Nat.beq id' id with
    | true => some (.normal, st)
    | false => some (.exit id', st)
  | r => r

def loopA (rd : Option Nat) (fn : FuncId) (c l : Code) (st : St) : Res :=
  match rec rd fn c st with
  | some (.normal, st) => rec rd fn l st
  | r => r

def scopeA (rd : Option Nat) (fn : FuncId) : Nat → Code → Code → St → Res
  | 0, _, _, _ => none
  | n + 1, body, c, st => match rec rd fn c st with
    | some (.goto l, st) => match findLabel body l with
      | some rest => scopeA rd fn n body rest st
      | none => some (.goto l, st)
    | r => r

def enterA (rd : Option Nat) (H : Heap) (nx : Nat) (marks : List Nat) : Option (Nat × Heap × Nat × List Nat) :=
  match rd with
  | none => some (nx, H.set nx (some (.defd true)), Nat.add nx 1, nx :: marks)
  | some l => match H.get l with
    | some (.loop _ _ _ _ _ _ _ d) => some (d, H, nx, marks)
    | _ => none

def rangeA (rd : Option Nat) (fn : FuncId) (g : Operand) (params : List Tmp) (assign body : Code) (st : St) : Res :=
  match enterA rd st.H st.nx st.marks with
  | none => none
  | some (d, H, nx, marks) =>
    match ev ⟨[], st.tm⟩ g with
    | some (.func (.func f) first captured) =>
      match callA P rec noOrc f (first ++ (.func (.yield nx) [] [] :: captured)) (H.set nx (some (.loop .ready none fn st.tm params assign body d))) (Nat.add nx 1) with
      | none => none
      | some (_, H, nx') => match H.get nx with
        | some (.loop s pd fn' tm' ps' as' bd' d') =>
          match s with
          | .busy => none
          | _ => match pd with
            | none => some (.normal, { tm := st.tm, H := H.set nx (some (.loop .exhausted pd fn' tm' ps' as' bd' d')), nx := nx', marks })
            | some j => rec rd fn j { tm := st.tm, H := H.set nx (some (.loop .exhausted pd fn' tm' ps' as' bd' d')), nx := nx', marks }
        | _ => none
    | _ => none

end

structure Cod where
  f : Rec → Option Nat → FuncId → St → Res

def ccode (P : Program) (orc : Orc) (kp : FuncId → Nat) (c : Code) : Cod :=
  match c with
  | .skip => ⟨fun _ _ _ st => some (.normal, st)⟩
  | .label _ => ⟨fun _ _ _ st => some (.normal, st)⟩
  | .region _ ops false => ⟨fun rec _ fn st => regionA P rec orc fn (kp fn) ops.toList st⟩
  | .region _ ops true => match plan P ops.toList with
    | some pl => ⟨fun rec _ fn st => drawA P rec orc fn (kp fn) pl ops.toList st⟩
    | none => ⟨fun _ _ _ _ => none⟩
  | .seq a b => ⟨fun rec rd fn st => seqA rec rd fn a b st⟩
  | .cond c a b => ⟨fun rec rd fn st => condA rec rd fn c a b st⟩
  | .block id c => ⟨fun rec rd fn st => blockA rec rd fn id c st⟩
  | .loop b => ⟨fun rec rd fn st => loopA rec rd fn b c st⟩
  | .exit id => ⟨fun _ _ _ st => some (.exit id, st)⟩
  | .goto l => ⟨fun _ _ _ st => some (.goto l, st)⟩
  | .ret => ⟨fun _ _ _ st => some (.ret, st)⟩
  | .scope body => ⟨fun rec rd fn st => scopeA rec rd fn 1000 body body st⟩
  | .rangeFunc g params assign body => ⟨fun rec rd fn st => rangeA P rec rd fn g params.toList assign body st⟩
  | .refuse _ => ⟨fun _ _ _ _ => none⟩

def bodyA (P : Program) (rec : Rec) (orc : Orc) (kp : FuncId → Nat) (rd : Option Nat) (fn : FuncId) (c : Code) (st : St) : Res :=
  (ccode P orc kp c).f rec rd fn st

def exec (P : Program) (orc : Orc) (kp : FuncId → Nat) : Nat → Option Nat → FuncId → Code → St → Res
  | 0 => fun _ _ _ _ => none
  | n + 1 => bodyA P (exec P orc kp n) orc kp

def call (P : Program) (orc : Orc) (kp : FuncId → Nat) (n : Nat) (f : FuncId) (args : List AV) (H : Heap) (nx : Nat) : Option (AV × Heap × Nat) :=
  callA P (exec P orc kp n) noOrc f args H nx

end
end Go.SK

