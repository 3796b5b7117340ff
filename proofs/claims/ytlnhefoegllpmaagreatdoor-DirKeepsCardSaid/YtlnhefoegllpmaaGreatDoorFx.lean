/- A faster evaluator, in continuations. Conditions: none. -/
import Derived.Test.YtlnhefoegllpmaaGreatDoorSdF
/- A faster evaluator for the kernel: operands are looked up ahead, moves cost nothing, all goes on in continuations (the kernel keeps no record of the terms at the top); what it answers the first evaluator answers too (FxOk). -/
namespace Go.SK
open Go
noncomputable section

/-- what a run comes to -/
inductive Ans where
  | bad
  | good
  | res (v : AV) (H : T AObj) (nx : Nat)

/-! finite maps by a key that is known ahead -/
structure TGet where
  f : T AV → (AV → Ans) → Ans
def TGet.ap (x : TGet) : T AV → (AV → Ans) → Ans := TGet.rec (motive := fun _ => T AV → (AV → Ans) → Ans) (fun g => g) x
structure TSet where
  f : T AV → Option AV → (T AV → Ans) → Ans
def TSet.ap (x : TSet) : T AV → Option AV → (T AV → Ans) → Ans := TSet.rec (motive := fun _ => T AV → Option AV → (T AV → Ans) → Ans) (fun g => g) x

def tgetF (fuel : Nat) : Nat → TGet :=
  Nat.rec (motive := fun _ => Nat → TGet) (fun _ => ⟨fun _ _ => .bad⟩)
    (fun _ ih k => Nat.rec (motive := fun _ => TGet) ⟨fun t K => T.rec (motive := fun _ => Ans) .bad (fun _ v _ _ _ => Option.rec (motive := fun _ => Ans) .bad K v) t⟩
      (fun k' _ => Nat.rec (motive := fun _ => TGet) ⟨fun t K => T.rec (motive := fun _ => Ans) .bad (fun l _ _ _ _ => (ih (Nat.div k' 2)).ap l K) t⟩
        (fun _ _ => ⟨fun t K => T.rec (motive := fun _ => Ans) .bad (fun _ _ r _ _ => (ih (Nat.div k' 2)).ap r K) t⟩) (Nat.mod k' 2)) k) fuel
def tsetF (fuel : Nat) : Nat → TSet :=
  Nat.rec (motive := fun _ => Nat → TSet) (fun _ => ⟨fun _ _ _ => .bad⟩)
    (fun _ ih k => Nat.rec (motive := fun _ => TSet) ⟨fun t v K => T.rec (motive := fun _ => Ans) (K (.n .e v .e)) (fun l _ r _ _ => K (.n l v r)) t⟩
      (fun k' _ => Nat.rec (motive := fun _ => TSet) ⟨fun t v K => T.rec (motive := fun _ => Ans) ((ih (Nat.div k' 2)).ap .e v fun l => K (.n l none .e)) (fun l u r _ _ => (ih (Nat.div k' 2)).ap l v fun l => K (.n l u r)) t⟩
        (fun _ _ => ⟨fun t v K => T.rec (motive := fun _ => Ans) ((ih (Nat.div k' 2)).ap .e v fun r => K (.n .e none r)) (fun l u r _ _ => (ih (Nat.div k' 2)).ap r v fun r => K (.n l u r)) t⟩) (Nat.mod k' 2)) k) fuel
def tget (k : Nat) : TGet := tgetF (Nat.succ k) k
def tset (k : Nat) : TSet := tsetF (Nat.succ k) k

/-! the heap -/
def hget (H : Heap) (b : Nat) (k : AObj → Ans) : Ans :=
  T.rec (motive := fun _ => Nat → Ans) (fun _ => .bad)
    (fun _ v _ gl gr b => Nat.rec (motive := fun _ => Ans) (Option.rec (motive := fun _ => Ans) .bad k v) (fun b' _ => Nat.rec (motive := fun _ => Ans) (gl (Nat.div b' 2)) (fun _ _ => gr (Nat.div b' 2)) (Nat.mod b' 2)) b) H b
def hset (H : Heap) (b : Nat) (v : Option AObj) (k : Heap → Ans) : Ans :=
  T.rec (motive := fun _ => Nat → (Heap → Ans) → Ans) (fun b k => k (T.one v (Nat.succ b) b))
    (fun l u r sl sr b k => Nat.rec (motive := fun _ => Ans) (k (.n l v r)) (fun b' _ => Nat.rec (motive := fun _ => Ans) (sl (Nat.div b' 2) fun l => k (.n l u r)) (fun _ _ => sr (Nat.div b' 2) fun r => k (.n l u r)) (Nat.mod b' 2)) b) H b k

/-! values of a region, the newest first -/
structure Sel where
  f : List AV → (AV → Ans) → Ans
def Sel.ap (x : Sel) : List AV → (AV → Ans) → Ans := Sel.rec (motive := fun _ => List AV → (AV → Ans) → Ans) (fun g => g) x
def msel (i : Nat) : Sel :=
  Nat.rec (motive := fun _ => Sel) ⟨fun s k => List.rec (motive := fun _ => Ans) .bad (fun a _ _ => k a) s⟩
    (fun _ ih => ⟨fun s k => List.rec (motive := fun _ => Ans) .bad (fun _ t _ => ih.ap t k) s⟩) i

/-- where a temporary's value is: at a level of the region's values, or known ahead -/
inductive Lc where
  | lv (n : Nat)
  | cst (a : AV)

abbrev CEnv := List (Nat × Lc)

def clook (t : Nat) (c : CEnv) : Option Lc :=
  List.rec (motive := fun _ => Option Lc) none (fun p _ ih => Bool.rec (motive := fun _ => Option Lc) ih (some p.2) (Nat.beq p.1 t)) c

/-- an operand's value goes on -/
structure Gt where
  f : T AV → List AV → (AV → Ans) → Ans
def Gt.ap (x : Gt) : T AV → List AV → (AV → Ans) → Ans := Gt.rec (motive := fun _ => T AV → List AV → (AV → Ans) → Ans) (fun g => g) x

def gLc (D : Nat) (l : Lc) : Gt :=
  match l with
  | .lv n => match Nat.sub D (Nat.succ n) with
    | i => ⟨fun _ s k => (msel i).ap s k⟩
  | .cst a => ⟨fun _ _ k => k a⟩
def gTmp (D : Nat) (c : CEnv) (t : Nat) : Gt :=
  match clook t c with
  | some l => gLc D l
  | none => ⟨fun tm _ k => (tget t).ap tm k⟩
def gOp (D : Nat) (c : CEnv) (x : Operand) : Gt :=
  match x with
  | .tmp t => gTmp D c t
  | .const v => match ofZero v with
    | some a => ⟨fun _ _ k => k a⟩
    | none => ⟨fun _ _ _ => .bad⟩
  | .global g => ⟨fun _ _ k => k (.glob g 0)⟩
  | .func f => ⟨fun _ _ k => k (.func (.func f) [] [])⟩

/-- operands' values go on -/
structure Gts where
  f : T AV → List AV → (List AV → Ans) → Ans
def Gts.ap (x : Gts) : T AV → List AV → (List AV → Ans) → Ans := Gts.rec (motive := fun _ => T AV → List AV → (List AV → Ans) → Ans) (fun g => g) x
def gOps (D : Nat) (c : CEnv) (l : List Operand) : Gts :=
  List.rec (motive := fun _ => Gts) ⟨fun _ _ k => k []⟩ (fun x _ ih => ⟨fun tm s k => (gOp D c x).ap tm s fun a => ih.ap tm s fun r => k (a :: r)⟩) l

/-! a value's parts go on -/
def kInt (a : AV) (k : IntKind → Int → Ans) : Ans :=
  AV.rec (motive_1 := fun _ => Ans) (motive_2 := fun _ => PUnit) (fun _ => .bad) (fun i n => k i n) (fun _ _ => .bad) (fun _ _ _ => .bad) (fun _ => .bad) .bad (fun _ _ => .bad) (fun _ _ => .bad) .bad (fun _ _ _ _ => .bad) (fun _ => .bad) (fun _ _ _ _ _ => .bad) .bad (fun _ _ _ => .bad) .bad (fun _ _ => .bad) (fun _ _ => .bad) ⟨⟩ (fun _ _ _ _ => ⟨⟩) a
def kPtr (a : AV) (k : Nat → Nat → Ans) : Ans :=
  AV.rec (motive_1 := fun _ => Ans) (motive_2 := fun _ => PUnit) (fun _ => .bad) (fun _ _ => .bad) (fun _ _ => .bad) (fun _ _ _ => .bad) (fun _ => .bad) .bad (fun b o => k b o) (fun _ _ => .bad) .bad (fun _ _ _ _ => .bad) (fun _ => .bad) (fun _ _ _ _ _ => .bad) .bad (fun _ _ _ => .bad) .bad (fun _ _ => .bad) (fun _ _ => .bad) ⟨⟩ (fun _ _ _ _ => ⟨⟩) a
def kBool (a : AV) (k : Bool → Ans) : Ans :=
  AV.rec (motive_1 := fun _ => Ans) (motive_2 := fun _ => PUnit) (fun b => k b) (fun _ _ => .bad) (fun _ _ => .bad) (fun _ _ _ => .bad) (fun _ => .bad) .bad (fun _ _ => .bad) (fun _ _ => .bad) .bad (fun _ _ _ _ => .bad) (fun _ => .bad) (fun _ _ _ _ _ => .bad) .bad (fun _ _ _ => .bad) .bad (fun _ _ => .bad) (fun _ _ => .bad) ⟨⟩ (fun _ _ _ _ => ⟨⟩) a
def kTup (a : AV) (k : List AV → Ans) : Ans :=
  AV.rec (motive_1 := fun _ => Ans) (motive_2 := fun _ => PUnit) (fun _ => .bad) (fun _ _ => .bad) (fun _ _ => .bad) (fun _ _ _ => .bad) (fun _ => .bad) .bad (fun _ _ => .bad) (fun _ _ => .bad) .bad (fun _ _ _ _ => .bad) (fun _ => .bad) (fun _ _ _ _ _ => .bad) .bad (fun _ _ _ => .bad) .bad (fun _ _ => .bad) (fun vs _ => k vs) ⟨⟩ (fun _ _ _ _ => ⟨⟩) a
def kSlc (a : AV) (k : Nat → Nat → Nat → Ans) : Ans :=
  AV.rec (motive_1 := fun _ => Ans) (motive_2 := fun _ => PUnit) (fun _ => .bad) (fun _ _ => .bad) (fun _ _ => .bad) (fun _ _ _ => .bad) (fun _ => .bad) .bad (fun _ _ => .bad) (fun _ _ => .bad) .bad (fun b o n _ => k b o n) (fun _ => .bad) (fun _ _ _ _ _ => .bad) .bad (fun _ _ _ => .bad) .bad (fun _ _ => .bad) (fun _ _ => .bad) ⟨⟩ (fun _ _ _ _ => ⟨⟩) a
/-- a guard's value: its bool, or none where it was not reckoned -/
def kGuard (a : AV) (k : Bool → Ans) (u : Ans) : Ans :=
  AV.rec (motive_1 := fun _ => Ans) (motive_2 := fun _ => PUnit) (fun b => k b) (fun _ _ => .bad) (fun _ _ => .bad) (fun _ _ _ => .bad) (fun _ => .bad) .bad (fun _ _ => .bad) (fun _ _ => .bad) .bad (fun _ _ _ _ => .bad) (fun _ => .bad) (fun _ _ _ _ _ => .bad) .bad (fun _ _ _ => .bad) .bad (fun _ _ => .bad) (fun _ _ => u) ⟨⟩ (fun _ _ _ _ => ⟨⟩) a
/-- a value that one cell holds -/
def kOne (a : AV) (k : Ans) : Ans :=
  AV.rec (motive_1 := fun _ => Ans) (motive_2 := fun _ => PUnit) (fun _ => k) (fun _ _ => k) (fun _ _ => k) (fun _ _ _ => k) (fun _ => k) k (fun _ _ => k) (fun _ _ => k) k (fun _ _ _ _ => k) (fun _ => k) (fun _ _ _ _ _ => k) k (fun _ _ _ => k) k (fun _ _ => .bad) (fun _ _ => .bad) ⟨⟩ (fun _ _ _ _ => ⟨⟩) a
/-- what a nil check lets by -/
def kNil (a : AV) (k : Ans) : Ans :=
  AV.rec (motive_1 := fun _ => Ans) (motive_2 := fun _ => PUnit) (fun _ => .bad) (fun _ _ => .bad) (fun _ _ => .bad) (fun _ _ _ => .bad) (fun _ => .bad) .bad (fun _ _ => k) (fun _ _ => .bad) .bad (fun _ _ _ _ => .bad) (fun _ => .bad) (fun fn _ _ _ _ => Fn.rec (motive := fun _ => Ans) (fun _ => k) (fun _ => .bad) (fun _ _ => .bad) (fun _ _ _ _ => .bad) (fun _ => k) fn) .bad (fun _ _ _ => .bad) .bad (fun _ _ => .bad) (fun _ _ => .bad) ⟨⟩ (fun _ _ _ _ => ⟨⟩) a

def kLen (a : AV) (k : Nat → Ans) : Ans :=
  AV.rec (motive_1 := fun _ => Ans) (motive_2 := fun _ => PUnit) (fun _ => .bad) (fun _ _ => .bad) (fun _ _ => .bad) (fun _ _ _ => .bad) (fun _ => .bad) .bad (fun _ _ => .bad) (fun _ _ => .bad) (k 0) (fun _ _ n _ => k n) (fun _ => .bad) (fun _ _ _ _ _ => .bad) .bad (fun _ _ _ => .bad) .bad (fun _ _ => .bad) (fun _ _ => .bad) ⟨⟩ (fun _ _ _ _ => ⟨⟩) a
def kStr (a : AV) (k : List Nat → Ans) : Ans :=
  AV.rec (motive_1 := fun _ => Ans) (motive_2 := fun _ => PUnit) (fun _ => .bad) (fun _ _ => .bad) (fun _ _ => .bad) (fun _ _ _ => .bad) (fun s => k s) .bad (fun _ _ => .bad) (fun _ _ => .bad) .bad (fun _ _ _ _ => .bad) (fun _ => .bad) (fun _ _ _ _ _ => .bad) .bad (fun _ _ _ => .bad) .bad (fun _ _ => .bad) (fun _ _ => .bad) ⟨⟩ (fun _ _ _ _ => ⟨⟩) a
def kAgg (a : AV) (k : List AV → Ans) : Ans :=
  AV.rec (motive_1 := fun _ => Ans) (motive_2 := fun _ => PUnit) (fun _ => .bad) (fun _ _ => .bad) (fun _ _ => .bad) (fun _ _ _ => .bad) (fun _ => .bad) .bad (fun _ _ => .bad) (fun _ _ => .bad) .bad (fun _ _ _ _ => .bad) (fun _ => .bad) (fun _ _ _ _ _ => .bad) .bad (fun _ _ _ => .bad) .bad (fun cs _ => k cs) (fun _ _ => .bad) ⟨⟩ (fun _ _ _ _ => ⟨⟩) a
/-- a slice, nil or not -/
def kSl (a : AV) (z : Ans) (k : Nat → Nat → Nat → Option Nat → Ans) : Ans :=
  AV.rec (motive_1 := fun _ => Ans) (motive_2 := fun _ => PUnit) (fun _ => .bad) (fun _ _ => .bad) (fun _ _ => .bad) (fun _ _ _ => .bad) (fun _ => .bad) .bad (fun _ _ => .bad) (fun _ _ => .bad) z (fun b o n c => k b o n c) (fun _ => .bad) (fun _ _ _ _ _ => .bad) .bad (fun _ _ _ => .bad) .bad (fun _ _ => .bad) (fun _ _ => .bad) ⟨⟩ (fun _ _ _ _ => ⟨⟩) a
/-- a slice or a text -/
def kSls (a : AV) (z : Ans) (k : Nat → Nat → Nat → Option Nat → Ans) (ks : List Nat → Ans) : Ans :=
  AV.rec (motive_1 := fun _ => Ans) (motive_2 := fun _ => PUnit) (fun _ => .bad) (fun _ _ => .bad) (fun _ _ => .bad) (fun _ _ _ => .bad) (fun s => ks s) .bad (fun _ _ => .bad) (fun _ _ => .bad) z (fun b o n c => k b o n c) (fun _ => .bad) (fun _ _ _ _ _ => .bad) .bad (fun _ _ _ => .bad) .bad (fun _ _ => .bad) (fun _ _ => .bad) ⟨⟩ (fun _ _ _ _ => ⟨⟩) a
/-- is a pointer nil? -/
def kPn (a : AV) (z n : Ans) : Ans :=
  AV.rec (motive_1 := fun _ => Ans) (motive_2 := fun _ => PUnit) (fun _ => .bad) (fun _ _ => .bad) (fun _ _ => .bad) (fun _ _ _ => .bad) (fun _ => .bad) z (fun _ _ => n) (fun _ _ => .bad) .bad (fun _ _ _ _ => .bad) (fun _ => .bad) (fun _ _ _ _ _ => .bad) .bad (fun _ _ _ => .bad) .bad (fun _ _ => .bad) (fun _ _ => .bad) ⟨⟩ (fun _ _ _ _ => ⟨⟩) a

def kNat (n : Int) (k : Nat → Ans) : Ans := Int.rec (motive := fun _ => Ans) (fun m => k m) (fun _ => .bad) n
def fnatR (n : Nat) (k : Nat → Ans) : Ans := Nat.rec (motive := fun _ => Ans) (k Nat.zero) (fun m _ => k (Nat.succ m)) n
def kIf (b : Bool) (x y : Ans) : Ans := Bool.rec (motive := fun _ => Ans) y x b
def kSome {β : Type} (x : Option β) (k : β → Ans) : Ans := Option.rec (motive := fun _ => Ans) .bad k x

def kNth {β : Type} (o : Nat) : List β → (β → Ans) → Ans :=
  Nat.rec (motive := fun _ => List β → (β → Ans) → Ans) (fun l k => List.rec (motive := fun _ => Ans) .bad (fun a _ _ => k a) l)
    (fun _ ih l k => List.rec (motive := fun _ => Ans) .bad (fun _ t _ => ih t k) l) o
/-- one element of a list is put anew -/
def kUpd {β : Type} (v : β) (o : Nat) : List β → (List β → Ans) → Ans :=
  Nat.rec (motive := fun _ => List β → (List β → Ans) → Ans) (fun l k => List.rec (motive := fun _ => Ans) .bad (fun _ t _ => k (v :: t)) l)
    (fun _ ih l k => List.rec (motive := fun _ => Ans) .bad (fun a t _ => ih t fun r => k (a :: r)) l) o
def kTake {β : Type} (n : Nat) : List β → (List β → Ans) → Ans :=
  Nat.rec (motive := fun _ => List β → (List β → Ans) → Ans) (fun _ k => k [])
    (fun _ ih l k => List.rec (motive := fun _ => Ans) .bad (fun a t _ => ih t fun r => k (a :: r)) l) n
def kDrop {β : Type} (n : Nat) : List β → (List β → Ans) → Ans :=
  Nat.rec (motive := fun _ => List β → (List β → Ans) → Ans) (fun l k => k l)
    (fun _ ih l k => List.rec (motive := fun _ => Ans) .bad (fun _ t _ => ih t k) l) n
def kCons {β : Type} (l : List β) (m : List β) (k : List β → Ans) : Ans :=
  List.rec (motive := fun _ => (List β → Ans) → Ans) (fun k => k m) (fun a _ ih k => ih fun r => k (a :: r)) l k
/-- xs over l from its head on -/
def kOver {β : Type} (xs : List β) : List β → (List β → Ans) → Ans :=
  List.rec (motive := fun _ => List β → (List β → Ans) → Ans) (fun l k => k l) (fun x _ ih l k => List.rec (motive := fun _ => Ans) .bad (fun _ t _ => ih t fun r => k (x :: r)) l) xs
def kSplice {β : Type} (xs : List β) (o : Nat) : List β → (List β → Ans) → Ans :=
  Nat.rec (motive := fun _ => List β → (List β → Ans) → Ans) (fun l k => kOver xs l k)
    (fun _ ih l k => List.rec (motive := fun _ => Ans) .bad (fun a t _ => ih t fun r => k (a :: r)) l) o
def kReps (z : List AV) (n : Nat) : (List AV → Ans) → Ans :=
  Nat.rec (motive := fun _ => (List AV → Ans) → Ans) (fun k => k []) (fun _ ih k => ih fun r => kCons z r k) n
def kLenL {β : Type} (l : List β) : (Nat → Ans) → Ans :=
  List.rec (motive := fun _ => (Nat → Ans) → Ans) (fun k => k 0) (fun _ _ ih k => ih fun n => k (Nat.succ n)) l
def kStrCells (l : List Nat) : (List AV → Ans) → Ans :=
  List.rec (motive := fun _ => (List AV → Ans) → Ans) (fun k => k []) (fun c _ ih k => ih fun r => k (.int .u8 (.ofNat c) :: r)) l
def kLeq (a : List Nat) : List Nat → Ans → Ans → Ans :=
  List.rec (motive := fun _ => List Nat → Ans → Ans → Ans) (fun b t f => List.rec (motive := fun _ => Ans) t (fun _ _ _ => f) b)
    (fun x _ ih b t f => List.rec (motive := fun _ => Ans) f (fun y b _ => kIf (Nat.beq x y) (ih b t f) f) b) a
def kCells (H : Heap) (b : Nat) (k : List AV → TypeId → CK → Ans) : Ans :=
  hget H b fun o => AObj.rec (motive := fun _ => Ans) (fun cs e c => k cs e c) (fun _ => .bad) (fun _ => .bad) (fun _ _ => .bad) (fun _ _ _ _ _ _ _ _ => .bad) (fun _ => .bad) o
def kRw (c : CK) (k : Ans) : Ans := CK.rec (motive := fun _ => Ans) k k .bad c

def isKind (k : IntKind) : IntKind → Bool :=
  match k with
  | .i8 => fun j => IntKind.rec (motive := fun _ => Bool) true false false false false false false false j
  | .i16 => fun j => IntKind.rec (motive := fun _ => Bool) false true false false false false false false j
  | .i32 => fun j => IntKind.rec (motive := fun _ => Bool) false false true false false false false false j
  | .i64 => fun j => IntKind.rec (motive := fun _ => Bool) false false false true false false false false j
  | .u8 => fun j => IntKind.rec (motive := fun _ => Bool) false false false false true false false false j
  | .u16 => fun j => IntKind.rec (motive := fun _ => Bool) false false false false false true false false j
  | .u32 => fun j => IntKind.rec (motive := fun _ => Bool) false false false false false false true false j
  | .u64 => fun j => IntKind.rec (motive := fun _ => Bool) false false false false false false false true j

/-- an integer's value, where it fits -/
def fitN (kd : IntKind) (hf m : Nat) (k : AV → Ans) : Ans :=
  kIf (Nat.ble hf m) (kSome (rint kd (.ofNat m)) k) (fnatR m fun m => k (.int kd (.ofNat m)))
def fitR (kd : IntKind) (hf : Nat) (n : Int) (k : AV → Ans) : Ans :=
  Int.rec (motive := fun _ => Ans) (fun m => fitN kd hf m k) (fun m => kSome (rint kd (.negSucc m)) k) n

def kAdd (kd : IntKind) (hf : Nat) (a b : Int) (k : AV → Ans) : Ans :=
  Int.rec (motive := fun _ => Ans) (fun x => Int.rec (motive := fun _ => Ans) (fun y => fitN kd hf (Nat.add x y) k) (fun _ => kSome (rint kd (Int.add a b)) k) b) (fun _ => kSome (rint kd (Int.add a b)) k) a
def kSub (kd : IntKind) (hf : Nat) (a b : Int) (k : AV → Ans) : Ans :=
  Int.rec (motive := fun _ => Ans) (fun x => Int.rec (motive := fun _ => Ans) (fun y => kIf (Nat.ble y x) (fitN kd hf (Nat.sub x y) k) (kSome (rint kd (Int.sub a b)) k)) (fun _ => kSome (rint kd (Int.sub a b)) k) b) (fun _ => kSome (rint kd (Int.sub a b)) k) a
def kMul (kd : IntKind) (hf : Nat) (a b : Int) (k : AV → Ans) : Ans :=
  Int.rec (motive := fun _ => Ans) (fun x => Int.rec (motive := fun _ => Ans) (fun y => fitN kd hf (Nat.mul x y) k) (fun _ => kSome (rint kd (Int.mul a b)) k) b) (fun _ => kSome (rint kd (Int.mul a b)) k) a
def kNn (a b : Int) (k : Nat → Nat → Ans) : Ans := kNat a fun a => kNat b fun b => k a b
def kQuo (kd : IntKind) (hf : Nat) (a b : Int) (k : AV → Ans) : Ans := kNn a b fun x y => kIf (Nat.beq y 0) .bad (fitN kd hf (Nat.div x y) k)
def kRem (kd : IntKind) (a b : Int) (k : AV → Ans) : Ans := kNn a b fun x y => kIf (Nat.beq y 0) .bad (fnatR (Nat.mod x y) fun m => k (.int kd (.ofNat m)))
def kBits (kd : IntKind) (hf pw : Nat) (f : Nat → Nat → Nat) (a b : Int) (k : AV → Ans) : Ans :=
  kNn a b fun x y => kIf (Nat.ble pw x) .bad (kIf (Nat.ble pw y) .bad (fitN kd hf (f x y) k))
def kShl (kd : IntKind) (hf w : Nat) (a b : Int) (k : AV → Ans) : Ans := kNn a b fun x y => kIf (Nat.ble w y) .bad (fitN kd hf (Nat.mul x (Nat.pow 2 y)) k)
def kShr (kd : IntKind) (w : Nat) (a b : Int) (k : AV → Ans) : Ans := kNn a b fun x y => kIf (Nat.ble w y) .bad (fnatR (Nat.div x (Nat.pow 2 y)) fun m => k (.int kd (.ofNat m)))
def kLe (a b : Int) (t f : Ans) : Ans :=
  Int.rec (motive := fun _ => Ans) (fun x => Int.rec (motive := fun _ => Ans) (fun y => kIf (Nat.ble x y) t f) (fun _ => f) b) (fun x => Int.rec (motive := fun _ => Ans) (fun _ => t) (fun y => kIf (Nat.ble y x) t f) b) a
def kEq (a b : Int) (t f : Ans) : Ans :=
  Int.rec (motive := fun _ => Ans) (fun x => Int.rec (motive := fun _ => Ans) (fun y => kIf (Nat.beq x y) t f) (fun _ => f) b) (fun x => Int.rec (motive := fun _ => Ans) (fun _ => f) (fun y => kIf (Nat.beq x y) t f) b) a

/-- integers of a kind that is known ahead -/
structure IOp where
  f : Int → Int → (AV → Ans) → Ans
def IOp.ap (x : IOp) : Int → Int → (AV → Ans) → Ans := IOp.rec (motive := fun _ => Int → Int → (AV → Ans) → Ans) (fun g => g) x

def iOp (kd : IntKind) (op : BinOp) : Option (IOp) :=
  match op with
  | .add => match half kd with | hf => some ⟨kAdd kd hf⟩
  | .sub => match half kd with | hf => some ⟨kSub kd hf⟩
  | .mul => match half kd with | hf => some ⟨kMul kd hf⟩
  | .eql => some ⟨fun a b k => kEq a b (k (.bool true)) (k (.bool false))⟩
  | .neq => some ⟨fun a b k => kEq a b (k (.bool false)) (k (.bool true))⟩
  | .lss => some ⟨fun a b k => kLe b a (k (.bool false)) (k (.bool true))⟩
  | .leq => some ⟨fun a b k => kLe a b (k (.bool true)) (k (.bool false))⟩
  | .gtr => some ⟨fun a b k => kLe a b (k (.bool false)) (k (.bool true))⟩
  | .geq => some ⟨fun a b k => kLe b a (k (.bool true)) (k (.bool false))⟩
  | .quo => match half kd with | hf => some ⟨kQuo kd hf⟩
  | .rem => some ⟨kRem kd⟩
  | .and => match half kd, bitsPow kd with | hf, pw => some ⟨kBits kd hf pw Nat.land⟩
  | .or => match half kd, bitsPow kd with | hf, pw => some ⟨kBits kd hf pw Nat.lor⟩
  | .xor => match half kd, bitsPow kd with | hf, pw => some ⟨kBits kd hf pw Nat.xor⟩
  | _ => none
/-- shifts: the second operand may be of another kind -/
def sOp (kd : IntKind) (op : BinOp) : Option (IOp) :=
  match op with
  | .shl => match half kd, kd.bits with | hf, w => some ⟨kShl kd hf w⟩
  | .shr => match kd.bits with | w => some ⟨kShr kd w⟩
  | _ => none

abbrev KV := AV → Heap → Nat → Ans
abbrev KE := AExit → T AV → Heap → Nat → List Nat → Ans
abbrev RecK := Option Nat → FuncId → Code → T AV → Heap → Nat → List Nat → KE → Ans
abbrev Kn := List AV → Heap → Nat → Ans
structure FS where
  f : RecK → T AV → Kn → List AV → Heap → Nat → Ans
def FS.ap (x : FS) : RecK → T AV → Kn → List AV → Heap → Nat → Ans := FS.rec (motive := fun _ => RecK → T AV → Kn → List AV → Heap → Nat → Ans) (fun g => g) x

def tmOfF (args : List AV) : Nat → T AV → (T AV → Ans) → Ans :=
  List.rec (motive := fun _ => Nat → T AV → (T AV → Ans) → Ans) (fun _ t k => k t) (fun a _ ih i t k => (tset i).ap t (some a) fun t => ih (Nat.succ i) t k) args

/-- results -/
structure RsF where
  f : Heap → T AV → (List AV → Ans) → Ans
def RsF.ap (x : RsF) : Heap → T AV → (List AV → Ans) → Ans := RsF.rec (motive := fun _ => Heap → T AV → (List AV → Ans) → Ans) (fun g => g) x
def resF (P : Program) (l : List ResultVar) : RsF :=
  match l with
  | [] => ⟨fun _ _ k => k []⟩
  | r :: rs => match r with
    | .tmp t => ⟨fun H tm k => (tget t).ap tm fun v => (resF P rs).ap H tm fun vs => k (v :: vs)⟩
    | .cell a t => ⟨fun H tm k => (tget a).ap tm fun p => kSome (loadA P t H p) fun v => (resF P rs).ap H tm fun vs => k (v :: vs)⟩

structure CallK where
  f : RecK → List AV → Heap → Nat → KV → Ans
def CallK.ap (x : CallK) : RecK → List AV → Heap → Nat → KV → Ans := CallK.rec (motive := fun _ => RecK → List AV → Heap → Nat → KV → Ans) (fun g => g) x
def kEnd (e : AExit) (k : Ans) : Ans := AExit.rec (motive := fun _ => Ans) k (fun _ => .bad) (fun _ => .bad) k e
def kUnmark (ms : List Nat) (H : Heap) (k : Heap → Ans) : Ans :=
  List.rec (motive := fun _ => Ans) (k H) (fun m l _ => kSome (unmark (m :: l) H) k) ms
/-- one result, or more -/
def resVF (vs : List AV) (k : AV → Ans) : Ans :=
  List.rec (motive := fun _ => Ans) (k (.tup [])) (fun v l _ => List.rec (motive := fun _ => Ans) (k v) (fun u l _ => k (.tup (v :: u :: l))) l) vs
/-- a function that is known ahead -/
def callC (P : Program) (f : FuncId) : CallK :=
  match P.funcs[f]? with
  | none => ⟨fun _ _ _ _ _ => .bad⟩
  | some fn => match fn.body with
    | none => ⟨fun _ _ _ _ _ => .bad⟩
    | some c => ⟨fun rec args H nx k => kIf (Nat.ble (len args) fn.ntmps && Nat.ble (len args) (Nat.add fn.params.size fn.nfree))
        (tmOfF args 0 .e fun tm => rec none f c tm H nx [] fun e tm H nx marks => kEnd e (kUnmark marks H fun H => (resF P fn.results.toList).ap H tm fun vs => resVF vs fun v => k v H nx)) .bad⟩
def kAns (r : Option (AV × Heap × Nat)) (k : KV) (u : Ans) : Ans :=
  Option.rec (motive := fun _ => Ans) u (fun p => Prod.rec (motive := fun _ => Ans) (fun v q => Prod.rec (motive := fun _ => Ans) (fun H nx => k v H nx) q) p) r
/-- calls that are looked at alone: args, heap, next, what follows, what comes else -/
structure LocK where
  f : List AV → Heap → Nat → KV → Ans → Ans
def LocK.ap (x : LocK) : List AV → Heap → Nat → KV → Ans → Ans := LocK.rec (motive := fun _ => List AV → Heap → Nat → KV → Ans → Ans) (fun g => g) x
/-- stands in for calls -/
structure Std where
  orc : Orc
  loc : FuncId → LocK
def Std.o (x : Std) : Orc := Std.rec (motive := fun _ => Orc) (fun o _ => o) x
def Std.l (x : Std) : FuncId → LocK := Std.rec (motive := fun _ => FuncId → LocK) (fun _ l => l) x

def callK (P : Program) (rec : RecK) (sd : Std) (f : FuncId) (args : List AV) (H : Heap) (nx : Nat) (k : KV) : Ans :=
  (sd.l f).ap args H nx k (kAns (sd.o f args H nx) k ((callC P f).ap rec args H nx k))

def noLoc : FuncId → LocK := fun _ => ⟨fun _ _ _ _ u => u⟩
def noStd : Std := ⟨noOrc, noLoc⟩

/-- a round of a range over a function -/
def roundK (P : Program) (rec : RecK) (l : Nat) (args : List AV) (H : Heap) (nx : Nat) (k : KV) : Ans :=
  match H.get l with
  | some (.loop .ready _ fn tmps params assign body _) =>
    match paramsOk (ntOf P fn) params, bindParams params args tmps with
    | true, some tm =>
      rec (some l) fn assign tm H nx [] fun e tm H nx marks =>
        match e with
        | .normal =>
          match H.get l with
          | some (.loop .ready pd fn' tmps' params' assign' body' dfs') =>
            rec (some l) fn body tm (H.set l (some (.loop .busy pd fn' tmps' params' assign' body' dfs'))) nx marks fun e _ H nx marks =>
              match marks with
              | [] => match H.get l with
                | some (.loop _ _ fn' tmps' params' assign' body' dfs') =>
                  match jumpOf e with
                  | none => k (.bool true) (H.set l (some (.loop .ready none fn' tmps' params' assign' body' dfs'))) nx
                  | some j => k (.bool false) (H.set l (some (.loop .done (some j) fn' tmps' params' assign' body' dfs'))) nx
                | _ => .bad
              | _ => .bad
          | _ => .bad
        | _ => .bad
    | _, _ => .bad
  | _ => .bad

/-- an answer goes on -/
def kOpR (P : Program) (rec : RecK) (sd : Std) (r : Option OpR) (k : KV) : Ans :=
  kSome r fun r => OpR.rec (motive := fun _ => Ans) (fun v H nx => k v H nx) (fun f args H nx => callK P rec sd f args H nx k) (fun l args H nx => roundK P rec l args H nx k) r

/-- the values of a region as the first evaluator keeps them -/
def valLc (D : Nat) (l : Lc) (s : List AV) : AV :=
  match l with
  | .lv n => match nth s (Nat.sub D (Nat.succ n)) with
    | some a => a
    | none => undef
  | .cst a => a
def locOf (D : Nat) (c : CEnv) (s : List AV) : List (Nat × AV) :=
  List.rec (motive := fun _ => List (Nat × AV)) [] (fun p _ ih => (p.1, valLc D p.2 s) :: ih) c

def fGen (P : Program) (sd : Std) (D : Nat) (c : CEnv) (o : Op) : FS :=
  ⟨fun rec tm K s H nx => kOpR P rec sd ((cop P o).f ⟨locOf D c s, tm⟩ H nx) fun v H nx => K (v :: s) H nx⟩

def fLoad (P : Program) (sd : Std) (D : Nat) (c : CEnv) (t : TypeId) (a : Operand) : FS :=
  match isAggT P t with
  | some false => ⟨fun _ tm K s H nx => (gOp D c a).ap tm s fun p => kPtr p fun b o => kCells H b fun cs _ _ => kNth o cs fun v => K (v :: s) H nx⟩
  | some true => match sizeT P t with
    | some n => ⟨fun _ tm K s H nx => (gOp D c a).ap tm s fun p => kPtr p fun b o => kCells H b fun cs _ _ => kDrop o cs fun r => kTake n r fun r => K (.agg r :: s) H nx⟩
    | none => fGen P sd D c (.load t a)
  | none => fGen P sd D c (.load t a)

def fFieldAddr (P : Program) (sd : Std) (D : Nat) (c : CEnv) (t : TypeId) (x : Operand) (fd : Nat) : FS :=
  match P.underlying t with
  | some (.struct fs) => match fieldPlace P fs fd with
    | some (off, _ + 1) => ⟨fun _ tm K s H nx => (gOp D c x).ap tm s fun p => kPtr p fun b o => fnatR (Nat.add o off) fun o => K (.ptr b o :: s) H nx⟩
    | _ => fGen P sd D c (.fieldAddr t x fd)
  | _ => fGen P sd D c (.fieldAddr t x fd)

def fIndexAddr (P : Program) (sd : Std) (D : Nat) (c : CEnv) (t : TypeId) (x i : Operand) : FS :=
  match P.underlying t with
  | some (.slice e) => match sizeT P e with
    | some size => ⟨fun _ tm K s H nx => (gOp D c x).ap tm s fun p => (gOp D c i).ap tm s fun j => kSlc p fun b o n => kInt j fun _ j => kNat j fun j => kIf (Nat.ble (Nat.succ j) n) (fnatR (Nat.add o (Nat.mul j size)) fun o => K (.ptr b o :: s) H nx) .bad⟩
    | none => fGen P sd D c (.indexAddr t x i)
  | some (.array n e) => match sizeT P e with
    | some size => ⟨fun _ tm K s H nx => (gOp D c x).ap tm s fun p => (gOp D c i).ap tm s fun j => kPtr p fun b o => kInt j fun _ j => kNat j fun j => kIf (Nat.ble (Nat.succ j) n) (fnatR (Nat.add o (Nat.mul j size)) fun o => K (.ptr b o :: s) H nx) .bad⟩
    | none => fGen P sd D c (.indexAddr t x i)
  | _ => fGen P sd D c (.indexAddr t x i)

def fStore (P : Program) (sd : Std) (D : Nat) (c : CEnv) (t : TypeId) (a x : Operand) : FS :=
  match sizeT P t, isAggT P t with
  | some 1, some false => ⟨fun _ tm K s H nx => (gOp D c a).ap tm s fun p => (gOp D c x).ap tm s fun v => kPtr p fun b o => kOne v (kCells H b fun cs e ck => kRw ck (kUpd v o cs fun cs => hset H b (some (.cells cs e ck)) fun H => K (undef :: s) H nx))⟩
  | _, _ => fGen P sd D c (.store t a x)

def fExtract (D : Nat) (c : CEnv) (t : Operand) (i : Nat) : FS :=
  ⟨fun _ tm K s H nx => (gOp D c t).ap tm s fun p => kTup p fun vs => kNth i vs fun v => K (v :: s) H nx⟩
def fNil (D : Nat) (c : CEnv) (x : Operand) : FS :=
  ⟨fun _ tm K s H nx => (gOp D c x).ap tm s fun v => kNil v (K (v :: s) H nx)⟩
def fPick (D : Nat) (c : CEnv) (q a b : Operand) : FS :=
  ⟨fun _ tm K s H nx => (gOp D c q).ap tm s fun v => kBool v fun v => kIf v ((gOp D c a).ap tm s fun v => K (v :: s) H nx) ((gOp D c b).ap tm s fun v => K (v :: s) H nx)⟩
def fMove (D : Nat) (c : CEnv) (x : Operand) : FS :=
  ⟨fun _ tm K s H nx => (gOp D c x).ap tm s fun v => K (v :: s) H nx⟩
def fBinG (P : Program) (D : Nat) (c : CEnv) (op : BinOp) (t : TypeId) (x y : Operand) : FS :=
  match isC x || isC y with
  | cst => ⟨fun _ tm K s H nx => (gOp D c x).ap tm s fun a => (gOp D c y).ap tm s fun b => kSome (binA P H op t cst a b) fun v => K (v :: s) H nx⟩
/-- negative numbers and the like: the slow way -/
def fBinI (P : Program) (D : Nat) (c : CEnv) (op : BinOp) (t : TypeId) (kd : IntKind) (x y : Operand) : FS :=
  match isKind kd, iOp kd op with
  | ik, some io => ⟨fun _ tm K s H nx => (gOp D c x).ap tm s fun a => (gOp D c y).ap tm s fun b => kInt a fun k a => kInt b fun k' b => kIf (ik k) (kIf (ik k') (io.ap a b fun v => K (v :: s) H nx) .bad) .bad⟩
  | ik, none => match sOp kd op with
    | some io => ⟨fun _ tm K s H nx => (gOp D c x).ap tm s fun a => (gOp D c y).ap tm s fun b => kInt a fun k a => kInt b fun _ b => kIf (ik k) (io.ap a b fun v => K (v :: s) H nx) .bad⟩
    | none => fBinG P D c op t x y
def fBinS (P : Program) (D : Nat) (c : CEnv) (op : BinOp) (t : TypeId) (x y : Operand) : FS :=
  match op with
  | .eql => ⟨fun _ tm K s H nx => (gOp D c x).ap tm s fun a => (gOp D c y).ap tm s fun b => kStr a fun a => kStr b fun b => kLeq a b (K (.bool true :: s) H nx) (K (.bool false :: s) H nx)⟩
  | .neq => ⟨fun _ tm K s H nx => (gOp D c x).ap tm s fun a => (gOp D c y).ap tm s fun b => kStr a fun a => kStr b fun b => kLeq a b (K (.bool false :: s) H nx) (K (.bool true :: s) H nx)⟩
  | op => fBinG P D c op t x y
def isNilC (y : Operand) : Bool :=
  match y with
  | .const v => match ofZero v with
    | some .nilp => true
    | _ => false
  | _ => false
def fBinP (P : Program) (D : Nat) (c : CEnv) (op : BinOp) (t : TypeId) (x y : Operand) : FS :=
  match P.eqGuardType P.depth t, isNilC y with
  | false, true => match op with
    | .eql => ⟨fun _ tm K s H nx => (gOp D c x).ap tm s fun a => kPn a (K (.bool true :: s) H nx) (K (.bool false :: s) H nx)⟩
    | .neq => ⟨fun _ tm K s H nx => (gOp D c x).ap tm s fun a => kPn a (K (.bool false :: s) H nx) (K (.bool true :: s) H nx)⟩
    | op => fBinG P D c op t x y
  | _, _ => fBinG P D c op t x y
def fBin (P : Program) (D : Nat) (c : CEnv) (op : BinOp) (t : TypeId) (x y : Operand) : FS :=
  match P.underlying t with
  | some (.int kd) => fBinI P D c op t kd x y
  | some .string => fBinS P D c op t x y
  | some (.pointer _) => fBinP P D c op t x y
  | _ => fBinG P D c op t x y
def fUn (D : Nat) (c : CEnv) (op : UnOp) (x : Operand) : FS :=
  match op with
  | .not => ⟨fun _ tm K s H nx => (gOp D c x).ap tm s fun a => kBool a fun b => kIf b (K (.bool false :: s) H nx) (K (.bool true :: s) H nx)⟩
  | op => ⟨fun _ tm K s H nx => (gOp D c x).ap tm s fun a => kSome (unA op a) fun v => K (v :: s) H nx⟩
def kVal (r : Option OpR) (k : KV) : Ans :=
  kSome r fun r => OpR.rec (motive := fun _ => Ans) (fun v H nx => k v H nx) (fun _ _ _ _ => .bad) (fun _ _ _ _ => .bad) r
def fConv (P : Program) (D : Nat) (c : CEnv) (a b : TypeId) (x : Operand) : FS :=
  match P.underlying a, P.underlying b with
  | some _, some (.int kd) => match half kd with
    | hf => ⟨fun _ tm K s H nx => (gOp D c x).ap tm s fun v => kInt v fun _ n => fitR kd hf n fun v => K (v :: s) H nx⟩
  | _, _ => ⟨fun _ tm K s H nx => (gOp D c x).ap tm s fun v => kVal (convOp P H nx a b v) fun v H nx => K (v :: s) H nx⟩
def fBox (P : Program) (sd : Std) (D : Nat) (c : CEnv) (t : TypeId) (x : Operand) : FS :=
  match sizeT P t with
  | some _ => ⟨fun _ tm K s H nx => (gOp D c x).ap tm s fun v => kSome v.cells fun cs => hset H nx (some (.cells cs t .own)) fun H => fnatR (Nat.add nx 1) fun nx' => K (.ptr nx 0 :: s) H nx'⟩
  | none => fGen P sd D c (.box t x)
def fAlloc (P : Program) (sd : Std) (D : Nat) (c : CEnv) (t : TypeId) : FS :=
  match zeroC P t with
  | some z => ⟨fun _ _ K s H nx => hset H nx (some (.cells z t .own)) fun H => fnatR (Nat.add nx 1) fun nx' => K (.ptr nx 0 :: s) H nx'⟩
  | none => fGen P sd D c (.alloc t)
def fLen (P : Program) (sd : Std) (D : Nat) (c : CEnv) (q : Call) (t : TypeId) (x : Operand) : FS :=
  match P.underlying t with
  | some (.slice _) => ⟨fun _ tm K s H nx => (gOp D c x).ap tm s fun v => kLen v fun n => K (.int .i64 (.ofNat n) :: s) H nx⟩
  | some .string => ⟨fun _ tm K s H nx => (gOp D c x).ap tm s fun v => kStr v fun l => kLenL l fun n => fnatR n fun n => K (.int .i64 (.ofNat n) :: s) H nx⟩
  | _ => fGen P sd D c (.call q)

/-- a new row that has grown -/
def kGrown (H : Heap) (nx : Nat) (e : TypeId) (k : CK) (row : List AV) (need : Nat) (K : KV) : Ans :=
  hset H nx (some (.cells row e k)) fun H => fnatR (Nat.add nx 1) fun nx' => K (.slc nx 0 need none) H nx'
def kSmall (need bytes : Nat) (k : Ans) : Ans := kIf (Nat.ble (Nat.mul need bytes) 1073741824) (kIf (Nat.ble need 1073741824) k .bad) .bad
/-- n ≥ 1 new elements onto a slice -/
def kAppS (H : Heap) (nx : Nat) (e size b o l : Nat) (c : Option Nat) (new : List AV) (need : Nat) (K : KV) : Ans :=
  kCells H b fun cs e' ck => Option.rec (motive := fun _ => Ans)
    (kRw ck (kIf (Nat.beq e e') (kDrop o cs fun r => kTake (Nat.mul l size) r fun old => kCons old new fun row => hset H b none fun H => kGrown H nx e ck row need K) .bad))
    (fun c => kIf (Nat.ble need c)
      (kRw ck (kSplice new (Nat.add o (Nat.mul l size)) cs fun cs => hset H b (some (.cells cs e' ck)) fun H => K (.slc b o need (some c)) H nx))
      (kDrop o cs fun r => kTake (Nat.mul l size) r fun old => kCons old new fun row => kGrown H nx e .own row need K)) c
def kAppTo (H : Heap) (nx : Nat) (e size bytes : Nat) (a : AV) (n : Nat) (new : List AV) (K : KV) : Ans :=
  kIf (Nat.beq n 0) (kSl a (K a H nx) fun _ _ _ _ => K a H nx)
    (kSl a (kSmall n bytes (kGrown H nx e .own new n K)) fun b o l c => fnatR (Nat.add l n) fun need => kSmall need bytes (kAppS H nx e size b o l c new need K))
/-- the cells that are appended -/
def kNew (H : Heap) (isInt : Bool) (size : Nat) (z : List AV) (x : AV) (k : Nat → List AV → Ans) : Ans :=
  kIf isInt (kInt x fun _ n => kNat n fun n => fnatR n fun n => kReps z n fun r => k n r)
    (kSls x (k 0 []) (fun b o n _ => fnatR n fun n => kCells H b fun cs _ _ => kDrop o cs fun r => kTake (Nat.mul n size) r fun r => k n r)
      fun s => kIf (Nat.beq size 1) (kLenL s fun n => fnatR n fun n => kStrCells s fun r => k n r) .bad)
def fAppend (P : Program) (D : Nat) (c : CEnv) (t : TypeId) (ts : List TypeId) (a x : Operand) : Option FS :=
  match P.underlying t with
  | some (.slice e) => match sizeT P e, bytesT P e, zeroC P e, isIntT P ts.head? with
    | some size, some bytes, some z, some isInt => match Nat.beq (len z) size with
      | true => some ⟨fun _ tm K s H nx => (gOp D c a).ap tm s fun a => (gOp D c x).ap tm s fun x => kNew H isInt size z x fun n new => kSmall n bytes (kAppTo H nx e size bytes a n new fun v H nx => K (v :: s) H nx)⟩
      | false => none
    | _, _, _, _ => none
  | _ => none
def fCall (P : Program) (sd : Std) (D : Nat) (c : CEnv) (q : Call) : FS :=
  match q.callee with
  | .value (.func fid) => ⟨fun rec tm K s H nx => (gOps D c q.args.toList).ap tm s fun args => callK P rec sd fid args H nx fun v H nx => K (v :: s) H nx⟩
  | .builtin b => match b, q.argTypes.toList, q.args.toList with
    | .len, t :: _, [x] => fLen P sd D c q t x
    | .append, t :: ts, [a, x] => match fAppend P D c t ts a x with
      | some f => f
      | none => fGen P sd D c (.call q)
    | b, ts, _ => ⟨fun _ tm K s H nx => (gOps D c q.args.toList).ap tm s fun args => kVal (builtinOp P H nx b ts args) fun v H nx => K (v :: s) H nx⟩
  | _ => fGen P sd D c (.call q)

/-- a bound of a slice expression -/
def gBnd (D : Nat) (c : CEnv) (x : Option Operand) (tm : T AV) (s : List AV) (y z : Nat) (k : Nat → Ans) : Ans :=
  Option.rec (motive := fun _ => Ans) (k z) (fun x => (gOp D c x).ap tm s fun v => kInt v fun _ n => kNat n fun n => kIf (Nat.ble n y) (k n) .bad) x
def isSome' {β : Type} (x : Option β) : Bool := Option.rec (motive := fun _ => Bool) false (fun _ => true) x
def fSlice (P : Program) (sd : Std) (D : Nat) (c : CEnv) (t : TypeId) (x : Operand) (lo hi mx : Option Operand) : FS :=
  match P.underlying t with
  | some (.slice e) => match sizeT P e, mx with
    | some size, none => ⟨fun _ tm K s H nx => (gOp D c x).ap tm s fun a => kSl a (gBnd D c hi tm s 0 0 fun h => gBnd D c lo tm s h 0 fun _ => K (.nils :: s) H nx)
        fun b o n q => Option.rec (motive := fun _ => Ans)
          (gBnd D c hi tm s n n fun h => gBnd D c lo tm s h 0 fun l => kCells H b fun _ e' _ => kIf (Nat.beq e e') (kIf (Nat.ble (Nat.succ l) h || Nat.beq l 0)
            (fnatR (Nat.add o (Nat.mul l size)) fun o => fnatR (Nat.sub h l) fun n => K (.slc b o n none :: s) H nx) .bad) .bad)
          (fun q => gBnd D c hi tm s q n fun h => gBnd D c lo tm s h 0 fun l => kIf (Nat.beq q l) (fnatR (Nat.sub h l) fun n => fnatR (Nat.sub q l) fun q => K (.slc b o n (some q) :: s) H nx)
            (fnatR (Nat.add o (Nat.mul l size)) fun o => fnatR (Nat.sub h l) fun n => fnatR (Nat.sub q l) fun q => K (.slc b o n (some q) :: s) H nx)) q⟩
    | _, _ => fGen P sd D c (.slice t x lo hi mx)
  | _ => fGen P sd D c (.slice t x lo hi mx)
/-- parts of one cell each, at places that are known ahead -/
def kParts (D : Nat) (c : CEnv) (size : Nat) (l : List (Nat × Operand)) (tm : T AV) (s : List AV) : List AV → (List AV → Ans) → Ans :=
  List.rec (motive := fun _ => List AV → (List AV → Ans) → Ans) (fun cs k => k cs)
    (fun p _ ih cs k => (gOp D c p.2).ap tm s fun v => kIf (Nat.beq size 1) (kOne v (kUpd v (Nat.mul p.1 1) cs fun cs => ih cs k))
      (kAgg v fun vs => kIf (Nat.beq (len vs) size) (kSplice vs (Nat.mul p.1 size) cs fun cs => ih cs k) .bad)) l
def fBuildSlice (P : Program) (sd : Std) (D : Nat) (c : CEnv) (t : TypeId) (n : Nat) (parts : List (Nat × Operand)) : FS :=
  match P.underlying t with
  | some (.slice e) => match sizeT P e, zeroC P e with
    | some size, some z => match Nat.ble (Nat.mul n size) 16777216 && Nat.beq (len z) size with
      | true => ⟨fun _ tm K s H nx => kReps z n fun row => kParts D c size parts tm s row fun row => hset H nx (some (.cells row e .own)) fun H => fnatR (Nat.add nx 1) fun nx' => K (.slc nx 0 n (some n) :: s) H nx'⟩
      | false => fGen P sd D c (.buildSlice t n parts.toArray)
    | _, _ => fGen P sd D c (.buildSlice t n parts.toArray)
  | _ => fGen P sd D c (.buildSlice t n parts.toArray)

def fop (P : Program) (sd : Std) (D : Nat) (c : CEnv) (o : Op) : FS :=
  match o with
  | .move x => fMove D c x
  | .assign x => fMove D c x
  | .pick q a b => fPick D c q a b
  | .load t a => fLoad P sd D c t a
  | .store t a x => fStore P sd D c t a x
  | .fieldAddr t x fd => fFieldAddr P sd D c t x fd
  | .indexAddr t x i => fIndexAddr P sd D c t x i
  | .extract t i => fExtract D c t i
  | .nilCheck x => fNil D c x
  | .binOp op t x y _ => fBin P D c op t x y
  | .unOp op _ x => fUn D c op x
  | .convert a b x => fConv P D c a b x
  | .box t x => fBox P sd D c t x
  | .alloc t => fAlloc P sd D c t
  | .call q => fCall P sd D c q
  | .slice t x lo hi mx => fSlice P sd D c t x lo hi mx
  | .buildSlice t n parts => fBuildSlice P sd D c t n parts.toList
  | o => fGen P sd D c o

/-- a guarded operation -/
def fstep (P : Program) (sd : Std) (all : List Oper) (D : Nat) (c : CEnv) (o : Oper) : FS :=
  match o.guard with
  | none => fop P sd D c o.op
  | some (j, w) => match nth all j with
    | some p => match p.dst with
      | some d => ⟨fun rec tm K s H nx => (gTmp D c d).ap tm s fun g => kGuard g (fun b => kIf (b == w) ((fop P sd D c o.op).ap rec tm K s H nx) (K (undef :: s) H nx)) (K (undef :: s) H nx)⟩
      | none => ⟨fun _ _ _ _ _ _ => .bad⟩
    | none => ⟨fun _ _ _ _ _ _ => .bad⟩

/-- what is kept of a region's values -/
structure Fl where
  f : List AV → T AV → (T AV → Ans) → Ans
def Fl.ap (x : Fl) : List AV → T AV → (T AV → Ans) → Ans := Fl.rec (motive := fun _ => List AV → T AV → (T AV → Ans) → Ans) (fun g => g) x
def tclr (t : Nat) (tm : T AV) (k : T AV → Ans) : Ans := Option.rec (motive := fun _ => Ans) (k tm) (fun _ => (tset t).ap tm none k) (tm.get t)
/-- is a slot that is not kept to be cleared? 0: always; n + 1: where it is one of n that are written ahead -/
def clearQ (np t : Nat) : Bool := Nat.rec (motive := fun _ => Bool) true (fun n _ => Nat.ble (Nat.succ t) n) np
def flOf (mask np D : Nat) (c : CEnv) : Fl :=
  List.rec (motive := fun _ => Fl) ⟨fun _ tm k => k tm⟩
    (fun p _ ih => match Nat.land (Nat.shiftRight mask p.1) 1 with
      | 0 => match clearQ np p.1 with
        | true => ⟨fun s tm k => ih.ap s tm fun tm => tclr p.1 tm k⟩
        | false => ih
      | _ => match p.2 with
        | .lv n => match Nat.sub D (Nat.succ n) with
          | i => ⟨fun s tm k => ih.ap s tm fun tm => (msel i).ap s fun a => (tset p.1).ap tm (some a) k⟩
        | .cst a => ⟨fun s tm k => ih.ap s tm fun tm => (tset p.1).ap tm (some a) k⟩) c

structure FE where
  f : RecK → T AV → List Nat → KE → List AV → Heap → Nat → Ans
def FE.ap (x : FE) : RecK → T AV → List Nat → KE → List AV → Heap → Nat → Ans := FE.rec (motive := fun _ => RecK → T AV → List Nat → KE → List AV → Heap → Nat → Ans) (fun g => g) x

/-- a move of what is known ahead -/
def aliasOf (c : CEnv) (o : Oper) : Option (Nat × Lc) :=
  match o.guard, o.dst with
  | none, some d => match o.op with
    | .move (.tmp t) => (clook t c).map fun l => (d, l)
    | .assign (.tmp t) => (clook t c).map fun l => (d, l)
    | .move (.const v) => (ofZero v).map fun a => (d, .cst a)
    | .assign (.const v) => (ofZero v).map fun a => (d, .cst a)
    | _ => none
  | _, _ => none

def pushC (D : Nat) (c : CEnv) (d : Option Tmp) : CEnv :=
  match d with
  | some d => (d, .lv D) :: c
  | none => c

def fops (P : Program) (sd : Std) (all : List Oper) (mask np : Nat) (l : List Oper) : Nat → CEnv → FE :=
  List.rec (motive := fun _ => Nat → CEnv → FE) (fun D c => ⟨fun _ tm marks k s H nx => (flOf mask np D c).ap s tm fun tm => k .normal tm H nx marks⟩)
    (fun o _ ih D c => match aliasOf c o with
      | some p => ih D (p :: c)
      | none => ⟨fun rec tm marks k s H nx => (fstep P sd all D c o).ap rec tm ((ih (Nat.succ D) (pushC D c o.dst)).ap rec tm marks k) s H nx⟩) l

/-- so many slots may be written ahead of the code -/
def npOf (P : Program) (fn : FuncId) : Nat :=
  match P.funcs[fn]? with
  | some f => Nat.add f.params.size f.nfree
  | none => 0
def npR (P : Program) (rd : Option Nat) (fn : FuncId) : Nat := Option.rec (motive := fun _ => Nat) (Nat.succ (npOf P fn)) (fun _ => 0) rd

def regionK (P : Program) (rec : RecK) (sd : Std) (rd : Option Nat) (fn : FuncId) (mask : Nat) (ops : List Oper) (tm : T AV) (H : Heap) (nx : Nat) (marks : List Nat) (k : KE) : Ans :=
  kIf (dstsOk (ntOf P fn) ops)
    ((fops P sd ops mask (npR P rd fn) ops 0 []).ap rec tm marks k [] H nx) .bad

/-! regions that draw their order -/

/-- a region's values, and what stood ahead of each operation -/
structure FP where
  f : RecK → T AV → List AV → Heap → Nat → (List Rcd → T AV → Heap → Nat → Ans) → Ans
def FP.ap (x : FP) : RecK → T AV → List AV → Heap → Nat → (List Rcd → T AV → Heap → Nat → Ans) → Ans := FP.rec (motive := fun _ => RecK → T AV → List AV → Heap → Nat → (List Rcd → T AV → Heap → Nat → Ans) → Ans) (fun g => g) x
def fpass (P : Program) (sd : Std) (all : List Oper) (mask np : Nat) (l : List Oper) : Nat → CEnv → FP :=
  List.rec (motive := fun _ => Nat → CEnv → FP) (fun D c => ⟨fun _ tm s H nx k => (flOf mask np D c).ap s tm fun tm => k [⟨locOf D c s, H, nx, undef⟩] tm H nx⟩)
    (fun o _ ih D c => match aliasOf c o with
      | some p => ⟨fun rec tm s H nx k => (ih D (p :: c)).ap rec tm s H nx fun rs => k (⟨locOf D c s, H, nx, valLc D p.2 s⟩ :: rs)⟩
      | none => ⟨fun rec tm s H nx k => (fstep P sd all D c o).ap rec tm (fun s' H' nx' => (ih (Nat.succ D) (pushC D c o.dst)).ap rec tm s' H' nx' fun rs => k (⟨locOf D c s, H, nx, valLc 1 (.lv 0) s'⟩ :: rs)) s H nx⟩) l

/-- operations that read no memory -/
def blind (o : Op) : Bool :=
  match o with
  | .move _ | .assign _ | .pick _ _ _ | .nilCheck _ | .fieldAddr _ _ _ | .extract _ _ | .indexAddr _ _ _ => true
  | _ => false
/-- what is looked at again: each with its cut, or once (last: the one ahead, and 1) -/
def againK (P : Program) (all : List Oper) (tm : T AV) (rs : List Rcd) (pl : List (Nat × Nat)) : Nat → Ans → Ans :=
  List.rec (motive := fun _ => Nat → Ans → Ans) (fun _ k => k)
    (fun q _ ih last k => match nth all q.1 with
      | some o => match blind o.op && Nat.ble q.2 (len all) with
        | true => match Nat.beq last (Nat.succ q.1) with
          | true => ih last k
          | false => kIf (match nth rs q.1 with | some r => avEq r.v r.v | none => false) (ih (Nat.succ q.1) k) .bad
        | false => kIf (again P all tm rs [q]) (ih last k) .bad
      | none => .bad) pl
def drawK (P : Program) (rec : RecK) (sd : Std) (rd : Option Nat) (fn : FuncId) (mask : Nat) (pl : List (Nat × Nat)) (ops : List Oper) (tm : T AV) (H : Heap) (nx : Nat) (marks : List Nat) (k : KE) : Ans :=
  kIf (dstsOk (ntOf P fn) ops)
    ((fpass P sd ops mask (npR P rd fn) ops 0 []).ap rec tm [] H nx fun rs tm' H' nx' => againK P ops tm rs pl 0 (k .normal tm' H' nx' marks)) .bad

def condK (rec : RecK) (rd : Option Nat) (fn : FuncId) (x : Operand) (a b : Code) (tm : T AV) (H : Heap) (nx : Nat) (marks : List Nat) (k : KE) : Ans :=
  (gOp 0 [] x).ap tm [] fun v => kBool v fun v => kIf v (rec rd fn a tm H nx marks k) (rec rd fn b tm H nx marks k)
def kExit (e : AExit) (a : Ans) (b c : Nat → Ans) (d : Ans) : Ans := AExit.rec (motive := fun _ => Ans) a b c d e
def seqK (rec : RecK) (rd : Option Nat) (fn : FuncId) (a b : Code) (tm : T AV) (H : Heap) (nx : Nat) (marks : List Nat) (k : KE) : Ans :=
  rec rd fn a tm H nx marks fun e tm H nx marks => kExit e (rec rd fn b tm H nx marks k) (fun i => k (.exit i) tm H nx marks) (fun l => k (.goto l) tm H nx marks) (k .ret tm H nx marks)
def blockK (rec : RecK) (rd : Option Nat) (fn : FuncId) (id : Nat) (c : Code) (tm : T AV) (H : Heap) (nx : Nat) (marks : List Nat) (k : KE) : Ans :=
  rec rd fn c tm H nx marks fun e tm H nx marks => kExit e (k .normal tm H nx marks) (fun i => kIf (Nat.beq i id) (k .normal tm H nx marks) (k (.exit i) tm H nx marks)) (fun l => k (.goto l) tm H nx marks) (k .ret tm H nx marks)
def scopeK (rec : RecK) (rd : Option Nat) (fn : FuncId) (body : Code) (n : Nat) : Code → T AV → Heap → Nat → List Nat → KE → Ans :=
  Nat.rec (motive := fun _ => Code → T AV → Heap → Nat → List Nat → KE → Ans) (fun _ _ _ _ _ _ => .bad)
    (fun _ ih c tm H nx marks k => rec rd fn c tm H nx marks fun e tm H nx marks => kExit e (k .normal tm H nx marks) (fun i => k (.exit i) tm H nx marks)
      (fun l => Option.rec (motive := fun _ => Ans) (k (.goto l) tm H nx marks) (fun rest => ih rest tm H nx marks k) (findLabel body l)) (k .ret tm H nx marks)) n

def rangeK (P : Program) (rec : RecK) (rd : Option Nat) (fn : FuncId) (g : Operand) (params : List Tmp) (assign body : Code) (tm : T AV) (H : Heap) (nx : Nat) (marks : List Nat) (k : KE) : Ans :=
  match enterA rd H nx marks with
  | none => .bad
  | some (d, H, nx, marks) =>
    match ev ⟨[], tm⟩ g with
    | some (.func (.func f) first captured) =>
      callK P rec noStd f (first ++ (.func (.yield nx) [] [] :: captured)) (H.set nx (some (.loop .ready none fn tm params assign body d))) (Nat.add nx 1) fun _ H nx' =>
        match H.get nx with
        | some (.loop s pd fn' tm' ps' as' bd' d') =>
          match s with
          | .busy => .bad
          | _ => match pd with
            | none => k .normal tm (H.set nx (some (.loop .exhausted pd fn' tm' ps' as' bd' d'))) nx' marks
            | some j => rec rd fn j tm (H.set nx (some (.loop .exhausted pd fn' tm' ps' as' bd' d'))) nx' marks k
        | _ => .bad
    | _ => .bad

structure CodK where
  f : RecK → Option Nat → FuncId → T AV → Heap → Nat → List Nat → KE → Ans
def CodK.ap (x : CodK) : RecK → Option Nat → FuncId → T AV → Heap → Nat → List Nat → KE → Ans := CodK.rec (motive := fun _ => RecK → Option Nat → FuncId → T AV → Heap → Nat → List Nat → KE → Ans) (fun g => g) x
def fcode (P : Program) (sd : Std) (kp : FuncId → Nat) (c : Code) : CodK :=
  match c with
  | .skip => ⟨fun _ _ _ tm H nx marks k => k .normal tm H nx marks⟩
  | .label _ => ⟨fun _ _ _ tm H nx marks k => k .normal tm H nx marks⟩
  | .region _ ops false => ⟨fun rec rd fn => regionK P rec sd rd fn (kp fn) ops.toList⟩
  | .region _ ops true => match plan P ops.toList with
    | some pl => ⟨fun rec rd fn => drawK P rec sd rd fn (kp fn) pl ops.toList⟩
    | none => ⟨fun _ _ _ _ _ _ _ _ => .bad⟩
  | .seq a b => ⟨fun rec rd fn => seqK rec rd fn a b⟩
  | .cond x a b => ⟨fun rec rd fn => condK rec rd fn x a b⟩
  | .block id c => ⟨fun rec rd fn => blockK rec rd fn id c⟩
  | .loop b => ⟨fun rec rd fn => seqK rec rd fn b (.loop b)⟩
  | .exit id => ⟨fun _ _ _ tm H nx marks k => k (.exit id) tm H nx marks⟩
  | .goto l => ⟨fun _ _ _ tm H nx marks k => k (.goto l) tm H nx marks⟩
  | .ret => ⟨fun _ _ _ tm H nx marks k => k .ret tm H nx marks⟩
  | .scope body => ⟨fun rec rd fn => scopeK rec rd fn body 1000 body⟩
  | .rangeFunc g params assign body => ⟨fun rec rd fn => rangeK P rec rd fn g params.toList assign body⟩
  | .refuse _ => ⟨fun _ _ _ _ _ _ _ _ => .bad⟩

def bodyK (P : Program) (rec : RecK) (sd : Std) (kp : FuncId → Nat) : RecK := fun rd fn c => (fcode P sd kp c).ap rec rd fn

def execK (P : Program) (sd : Std) (kp : FuncId → Nat) (n : Nat) : RecK :=
  Nat.rec (motive := fun _ => RecK) (fun _ _ _ _ _ _ _ _ => .bad) (fun _ ih => bodyK P ih sd kp) n

def runK (P : Program) (sd : Std) (kp : FuncId → Nat) (n : Nat) (f : FuncId) (args : List AV) (H : Heap) (nx : Nat) (k : KV) : Ans :=
  callK P (execK P sd kp n) noStd f args H nx k

/-- the answer is true -/
def isTrue (v : AV) : Ans := kBool v fun b => kIf b .good .bad

/-! calls that are looked at alone -/

def kNats (l : List Nat) : (List Nat → Ans) → Ans :=
  List.rec (motive := fun _ => (List Nat → Ans) → Ans) (fun k => k []) (fun n _ ih k => fnatR n fun n => ih fun r => k (n :: r)) l
/-- a value without memory, in its normal form -/
def kForce1 (a : AV) (k : AV → Ans) (u : Ans) : Ans :=
  AV.rec (motive_1 := fun _ => Ans) (motive_2 := fun _ => PUnit) (fun b => Bool.rec (motive := fun _ => Ans) (k (.bool false)) (k (.bool true)) b)
    (fun i n => Int.rec (motive := fun _ => Ans) (fun m => fnatR m fun m => k (.int i (.ofNat m))) (fun m => fnatR m fun m => k (.int i (.negSucc m))) n)
    (fun _ _ => u) (fun _ _ _ => u) (fun s => kNats s fun s => k (.str s)) (k .nilp) (fun _ _ => u) (fun _ _ => u) (k .nils) (fun _ _ _ _ => u) (fun _ => u) (fun _ _ _ _ _ => u) (k .nilf) (fun _ _ _ => u) (k .nili) (fun _ _ => u) (fun _ _ => u) ⟨⟩ (fun _ _ _ _ => ⟨⟩) a
def kForces (l : List AV) (u : Ans) : (List AV → Ans) → Ans :=
  List.rec (motive := fun _ => (List AV → Ans) → Ans) (fun k => k []) (fun a _ ih k => kForce1 a (fun a => ih fun r => k (a :: r)) u) l
def kForce (a : AV) (k : AV → Ans) (u : Ans) : Ans :=
  AV.rec (motive_1 := fun _ => Ans) (motive_2 := fun _ => PUnit) (fun _ => kForce1 a k u) (fun _ _ => kForce1 a k u)
    (fun _ _ => u) (fun _ _ _ => u) (fun _ => kForce1 a k u) (k .nilp) (fun _ _ => u) (fun _ _ => u) (k .nils) (fun _ _ _ _ => u) (fun _ => u) (fun _ _ _ _ _ => u) (k .nilf) (fun _ _ _ => u) (k .nili) (fun cs _ => kForces cs u fun cs => k (.agg cs)) (fun _ _ => u) ⟨⟩ (fun _ _ _ _ => ⟨⟩) a
/-- the one row among the arguments -/
inductive RowI where
  | no
  | row (b o n : Nat)
def kRow (r : RowI) (a : Ans) (k : Nat → Nat → Nat → Ans) : Ans := RowI.rec (motive := fun _ => Ans) a k r
def kCap (c : Option Nat) (k : Option Nat → Ans) : Ans := Option.rec (motive := fun _ => Ans) (k none) (fun c => fnatR c fun c => k (some c)) c
/-- a slice, or a value without memory -/
def kArg (a : AV) (k : AV → Ans) (kr : Nat → Nat → Nat → Option Nat → Ans) (u : Ans) : Ans :=
  AV.rec (motive_1 := fun _ => Ans) (motive_2 := fun _ => PUnit) (fun _ => kForce1 a k u) (fun _ _ => kForce1 a k u)
    (fun _ _ => u) (fun _ _ _ => u) (fun _ => kForce1 a k u) (k .nilp) (fun _ _ => u) (fun _ _ => u) (k .nils) (fun b o n c => kr b o n c) (fun _ => u) (fun _ _ _ _ _ => u) (k .nilf) (fun _ _ _ => u) (k .nili) (fun cs _ => kForces cs u fun cs => k (.agg cs)) (fun _ _ => u) ⟨⟩ (fun _ _ _ _ => ⟨⟩) a
def kArgs (l : List AV) (u : Ans) : (List AV → RowI → Ans) → Ans :=
  List.rec (motive := fun _ => (List AV → RowI → Ans) → Ans) (fun k => k [] .no)
    (fun a _ ih k => kArg a (fun a => ih fun r w => k (a :: r) w) (fun b o n c => fnatR n fun n => kCap c fun c => ih fun r w => kRow w (k (.slc 0 0 n c :: r) (.row b o n)) fun _ _ _ => u) u) l
def kTakeF (n : Nat) (u : Ans) : List AV → (List AV → Ans) → Ans :=
  Nat.rec (motive := fun _ => List AV → (List AV → Ans) → Ans) (fun _ k => k [])
    (fun _ ih l k => List.rec (motive := fun _ => Ans) u (fun a t _ => kForce1 a (fun a => ih t fun r => k (a :: r)) u) l) n

/-- a call of f, looked at alone -/
def locC (P : Program) (cA : FuncId → List AV → Heap → Nat → Option (AV × Heap × Nat)) (fs : List Nat) (f : FuncId) : LocK :=
  match memT f fs with
  | false => ⟨fun _ _ _ _ u => u⟩
  | true => ⟨fun args H nx k u => kArgs args u fun as w => kRow w
      (Option.rec (motive := fun _ => Ans) u (fun p => Prod.rec (motive := fun _ => Ans) (fun v q => Prod.rec (motive := fun _ => Ans) (fun H1 _ => kAns (importA H nx H1 v) k u) q) p) (cA f as .e 0))
      (fun b o n => kCells H b fun cs e _ => kDrop o cs fun r => kTakeF n u r fun r => kIf (match sizeT P e with | some 1 => true | _ => false)
        (Option.rec (motive := fun _ => Ans) u (fun p => Prod.rec (motive := fun _ => Ans) (fun v q => Prod.rec (motive := fun _ => Ans) (fun H1 _ => kAns (importA H nx H1 v) k u) q) p) (cA f as (.n .e (some (.cells r e .ro)) .e) 1)) u)⟩

/-- a run's answer as a value -/
def ansV (x : Ans) : Option (AV × Heap × Nat) := Ans.rec (motive := fun _ => Option (AV × Heap × Nat)) none none (fun v H nx => some (v, H, nx)) x
/-- runs that look at the functions fs alone, d deep -/
def locS (P : Program) (orc : Orc) (kp : FuncId → Nat) (n : Nat) (fs : List Nat) (d : Nat) : Std :=
  Nat.rec (motive := fun _ => Std) ⟨orc, noLoc⟩ (fun _ ih => ⟨orc, locC P (fun f args H nx => ansV (runK P ih kp n f args H nx fun v H nx => .res v H nx)) fs⟩) d

end
end Go.SK

