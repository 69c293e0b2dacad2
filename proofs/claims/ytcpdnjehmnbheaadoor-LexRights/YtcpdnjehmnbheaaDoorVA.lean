/- The abstract values, the abstract heap, and what one operation does to them, as a weakest precondition that is computed. -/
import GoSem.Dispatch
import Derived.Calls
import Derived.Below
import Derived.Deep.LoopGhost
set_option linter.unusedVariables false
namespace Go.VM

/-- Data: what can be read and never changes. 'sl len sz get': a slice of len elements of sz cells. -/
inductive D where
  | int (k : IntKind) (n : Int)
  | bool (b : Bool)
  | str (s : ByteArray)
  | nilp
  | nilf
  | nili
  | sl (len sz : Nat) (get : Nat → Nat → D)

/-- Abstract values. ref: a slice of the call's own (object, first element, elements, cells of one); ptr: into a box; eptr: to element i, cell j of an own array of len elements; iptr: into data (element i of sz cells, at cell j). -/
inductive A where
  | d (x : D)
  | nils
  | ref (o off len sz : Nat)
  | ptr (o off : Nat)
  | eptr (o i j len : Nat)
  | iptr (get : Nat → Nat → D) (i j sz : Nat)
  | itr (o : Nat)
  | clo (f : FuncId) (first caps : List A)
  | agg (cells : List A)
  | tup (parts : List A)
  | undef

inductive AObj where
  | box (cs : List A)
  | arr (len sz : Nat) (get : Nat → Nat → D) (fz : Nat)
  | iter (s : ByteArray) (pos : Nat)
  | dead

abbrev AHeap := List AObj

inductive TK where
  | int (k : IntKind) | bool | string | slice (e : Nat) | struct (fs : List (Nat × Nat)) | array (n e : Nat) | pointer (e : Nat) | func | other

structure TI where
  kind : TK
  size : Nat
  bytes : Nat
  zero : List A

/-- The table of the types that a proof speaks of. -/
structure Tab where
  ti : Nat → Option TI
  eq : Nat → Option (List A → List A → (A → Prop) → Prop)
  fn : Nat → Bool

structure St where
  tm : List A
  hp : AHeap

inductive Ex where
  | normal | exit (id : Nat) | ret

def bitF : (BinOp) → (IntKind) → (Int) → (Int) → Int := fun op k x y => 
      match op with
      | .and => k.wrap (BitVec.ofInt k.bits x &&& BitVec.ofInt k.bits y).toNat
      | .or => k.wrap (BitVec.ofInt k.bits x ||| BitVec.ofInt k.bits y).toNat
      | .xor => k.wrap (BitVec.ofInt k.bits x ^^^ BitVec.ofInt k.bits y).toNat
      | _ => k.wrap (BitVec.ofInt k.bits x &&& ~~~ BitVec.ofInt k.bits y).toNat
def btF : (ByteArray) → (Int) → Int := fun s i => (s.data.toList.getD i.toNat 0).toNat
def runeF : (ByteArray) → (Nat) → Int := fun s i => (Utf8.decode s i).1
def widthF : (ByteArray) → (Nat) → Nat := fun s i => (Utf8.decode s i).2
def updF : (Nat → Nat → D) → (Nat) → (Nat) → (D) → Nat → Nat → D := fun get i j v => fun i' j' => if i' = i ∧ j' = j then v else get i' j'
def shF : (Nat → Nat → D) → (Nat) → Nat → Nat → D := fun get l => fun i j => get (l + i) j
def appF : (Nat) → (Nat → Nat → D) → (Nat → Nat → D) → Nat → Nat → D := fun n get get' => fun i j => if i < n then get i j else get' (i - n) j
def strF : (ByteArray) → Nat → Nat → D := fun s => fun i _ => .int .u8 (btF s i)
def rowF : Nat → List D → Nat → Nat → D := fun sz cs => fun i j => cs.getD (i * sz + j) .nilp

/-- The words that evaluation leaves closed, each with what it means. -/
class Ops where
  Imp : Prop → Prop → Prop
  ltP : Int → Int → Prop
  leP : Int → Int → Prop
  eqP : Int → Int → Prop
  neP : Int → Int → Prop
  eqSP : ByteArray → ByteArray → Prop
  neSP : ByteArray → ByteArray → Prop
  ltSP : ByteArray → ByteArray → Prop
  geSP : ByteArray → ByteArray → Prop
  addK : (IntKind) → (Int) → (Int) → Int
  subK : (IntKind) → (Int) → (Int) → Int
  mulK : (IntKind) → (Int) → (Int) → Int
  quoK : (IntKind) → (Int) → (Int) → Int
  remK : (Int) → (Int) → Int
  convK : (IntKind) → (Int) → Int
  shlK : (IntKind) → (Int) → (Int) → Int
  shrK : (IntKind) → (Int) → (Int) → Int
  bitK : (BinOp) → (IntKind) → (Int) → (Int) → Int
  maxI : (Int) → (Int) → Int
  minI : (Int) → (Int) → Int
  nI : (Nat) → Int
  lenS : (ByteArray) → Int
  natOf : (Int) → Nat
  addN : (Nat) → (Nat) → Nat
  subN : (Nat) → (Nat) → Nat
  eqN : (Nat) → (Nat) → Prop
  leN : (Nat) → (Nat) → Prop
  ltN : (Nat) → (Nat) → Prop
  catS : (ByteArray) → (ByteArray) → ByteArray
  subS : (ByteArray) → (Int) → (Int) → ByteArray
  bt : (ByteArray) → (Int) → Int
  rune : (ByteArray) → (Nat) → Int
  width : (ByteArray) → (Nat) → Nat
  updG : (Nat → Nat → D) → (Nat) → (Nat) → (D) → Nat → Nat → D
  shG : (Nat → Nat → D) → (Nat) → Nat → Nat → D
  appG : (Nat) → (Nat → Nat → D) → (Nat → Nat → D) → Nat → Nat → D
  strG : (ByteArray) → Nat → Nat → D
  rowG : Nat → List D → Nat → Nat → D
  specP : (∀ p q, Imp p q = (p → q)) ∧
    (∀ x y, ltP x y = (x < y)) ∧
    (∀ x y, leP x y = (x ≤ y)) ∧
    (∀ x y, eqP x y = (x = y)) ∧
    (∀ x y, neP x y = (x ≠ y)) ∧
    (∀ x y, eqSP x y = (x = y)) ∧
    (∀ x y, neSP x y = (x ≠ y)) ∧
    (∀ x y, ltSP x y = (Op.bytesLess x.toList y.toList = true)) ∧
    (∀ x y, geSP x y = (Op.bytesLess x.toList y.toList = false)) ∧
    (∀ (x : Nat) (y : Nat), eqN x y = (x = y)) ∧
    (∀ (x : Nat) (y : Nat), leN x y = (x ≤ y)) ∧
    (∀ (x : Nat) (y : Nat), ltN x y = (x < y))
  specF : (∀ (k : IntKind) (x : Int) (y : Int), addK k x y = (k.wrap (x + y))) ∧
    (∀ (k : IntKind) (x : Int) (y : Int), subK k x y = (k.wrap (x - y))) ∧
    (∀ (k : IntKind) (x : Int) (y : Int), mulK k x y = (k.wrap (x * y))) ∧
    (∀ (k : IntKind) (x : Int) (y : Int), quoK k x y = (k.wrap (x.tdiv y))) ∧
    (∀ (x : Int) (y : Int), remK x y = (x.tmod y)) ∧
    (∀ (k : IntKind) (x : Int), convK k x = (k.wrap x)) ∧
    (∀ (k : IntKind) (x : Int) (y : Int), shlK k x y = (k.wrap (x * 2 ^ (min y.toNat k.bits)))) ∧
    (∀ (k : IntKind) (x : Int) (y : Int), shrK k x y = (x.fdiv (2 ^ (min y.toNat k.bits)))) ∧
    (∀ (op : BinOp) (k : IntKind) (x : Int) (y : Int), bitK op k x y = bitF op k x y) ∧
    (∀ (x : Int) (y : Int), maxI x y = (if y > x then y else x)) ∧
    (∀ (x : Int) (y : Int), minI x y = (if y < x then y else x)) ∧
    (∀ (n : Nat), nI n = (n)) ∧
    (∀ (s : ByteArray), lenS s = (s.size)) ∧
    (∀ (i : Int), natOf i = (i.toNat)) ∧
    (∀ (x : Nat) (y : Nat), addN x y = (x + y)) ∧
    (∀ (x : Nat) (y : Nat), subN x y = (x - y)) ∧
    (∀ (x : ByteArray) (y : ByteArray), catS x y = (x ++ y)) ∧
    (∀ (s : ByteArray) (l : Int) (h : Int), subS s l h = (s.extract l.toNat h.toNat)) ∧
    (∀ (s : ByteArray) (i : Int), bt s i = btF s i) ∧
    (∀ (s : ByteArray) (i : Nat), rune s i = runeF s i) ∧
    (∀ (s : ByteArray) (i : Nat), width s i = widthF s i) ∧
    (∀ (get : Nat → Nat → D) (i : Nat) (j : Nat) (v : D), updG get i j v = updF get i j v) ∧
    (∀ (get : Nat → Nat → D) (l : Nat), shG get l = shF get l) ∧
    (∀ (n : Nat) (get : Nat → Nat → D) (get' : Nat → Nat → D), appG n get get' = appF n get get') ∧
    (∀ (s : ByteArray), strG s = strF s) ∧
    (∀ (sz : Nat) (cs : List D), rowG sz cs = rowF sz cs)

theorem Ops.exists_one : Nonempty Ops := ⟨{
  Imp := fun p q => p → q,
  ltP := fun x y => x < y,
  leP := fun x y => x ≤ y,
  eqP := fun x y => x = y,
  neP := fun x y => x ≠ y,
  eqSP := fun x y => x = y,
  neSP := fun x y => x ≠ y,
  ltSP := fun x y => Op.bytesLess x.toList y.toList = true,
  geSP := fun x y => Op.bytesLess x.toList y.toList = false,
  addK := fun k x y => k.wrap (x + y),
  subK := fun k x y => k.wrap (x - y),
  mulK := fun k x y => k.wrap (x * y),
  quoK := fun k x y => k.wrap (x.tdiv y),
  remK := fun x y => x.tmod y,
  convK := fun k x => k.wrap x,
  shlK := fun k x y => k.wrap (x * 2 ^ (min y.toNat k.bits)),
  shrK := fun k x y => x.fdiv (2 ^ (min y.toNat k.bits)),
  bitK := bitF,
  maxI := fun x y => if y > x then y else x,
  minI := fun x y => if y < x then y else x,
  nI := Int.ofNat,
  lenS := fun s => (s.size : Int),
  natOf := fun i => i.toNat,
  addN := fun x y => x + y,
  subN := fun x y => x - y,
  eqN := fun x y => x = y,
  leN := fun x y => x ≤ y,
  ltN := fun x y => x < y,
  catS := fun x y => x ++ y,
  subS := fun s l h => s.extract l.toNat h.toNat,
  bt := btF,
  rune := runeF,
  width := widthF,
  updG := updF,
  shG := shF,
  appG := appF,
  strG := strF,
  rowG := rowF,
  specP := ⟨fun p q => rfl, fun x y => rfl, fun x y => rfl, fun x y => rfl, fun x y => rfl, fun x y => rfl, fun x y => rfl, fun x y => rfl, fun x y => rfl, fun x y => rfl, fun x y => rfl, fun x y => rfl⟩,
  specF := ⟨fun k x y => rfl, fun k x y => rfl, fun k x y => rfl, fun k x y => rfl, fun x y => rfl, fun k x => rfl, fun k x y => rfl, fun k x y => rfl, fun op k x y => rfl, fun x y => rfl, fun x y => rfl, fun n => rfl, fun s => rfl, fun i => rfl, fun x y => rfl, fun x y => rfl, fun x y => rfl, fun s l h => rfl, fun s i => rfl, fun s i => rfl, fun s i => rfl, fun get i j v => rfl, fun get l => rfl, fun n get get' => rfl, fun s => rfl, fun sz cs => rfl⟩ }⟩

namespace Ops
variable [Ops]
theorem Imp_eq : ∀ p q, Imp p q = (p → q) := specP.1
theorem ltP_eq : ∀ x y, ltP x y = (x < y) := specP.2.1
theorem leP_eq : ∀ x y, leP x y = (x ≤ y) := specP.2.2.1
theorem eqP_eq : ∀ x y, eqP x y = (x = y) := specP.2.2.2.1
theorem neP_eq : ∀ x y, neP x y = (x ≠ y) := specP.2.2.2.2.1
theorem eqSP_eq : ∀ x y, eqSP x y = (x = y) := specP.2.2.2.2.2.1
theorem neSP_eq : ∀ x y, neSP x y = (x ≠ y) := specP.2.2.2.2.2.2.1
theorem ltSP_eq : ∀ x y, ltSP x y = (Op.bytesLess x.toList y.toList = true) := specP.2.2.2.2.2.2.2.1
theorem geSP_eq : ∀ x y, geSP x y = (Op.bytesLess x.toList y.toList = false) := specP.2.2.2.2.2.2.2.2.1
theorem addK_eq : ∀ (k : IntKind) (x : Int) (y : Int), addK k x y = (k.wrap (x + y)) := specF.1
theorem subK_eq : ∀ (k : IntKind) (x : Int) (y : Int), subK k x y = (k.wrap (x - y)) := specF.2.1
theorem mulK_eq : ∀ (k : IntKind) (x : Int) (y : Int), mulK k x y = (k.wrap (x * y)) := specF.2.2.1
theorem quoK_eq : ∀ (k : IntKind) (x : Int) (y : Int), quoK k x y = (k.wrap (x.tdiv y)) := specF.2.2.2.1
theorem remK_eq : ∀ (x : Int) (y : Int), remK x y = (x.tmod y) := specF.2.2.2.2.1
theorem convK_eq : ∀ (k : IntKind) (x : Int), convK k x = (k.wrap x) := specF.2.2.2.2.2.1
theorem shlK_eq : ∀ (k : IntKind) (x : Int) (y : Int), shlK k x y = (k.wrap (x * 2 ^ (min y.toNat k.bits))) := specF.2.2.2.2.2.2.1
theorem shrK_eq : ∀ (k : IntKind) (x : Int) (y : Int), shrK k x y = (x.fdiv (2 ^ (min y.toNat k.bits))) := specF.2.2.2.2.2.2.2.1
theorem bitK_eq : ∀ (op : BinOp) (k : IntKind) (x : Int) (y : Int), bitK op k x y = (
      match op with
      | .and => k.wrap (BitVec.ofInt k.bits x &&& BitVec.ofInt k.bits y).toNat
      | .or => k.wrap (BitVec.ofInt k.bits x ||| BitVec.ofInt k.bits y).toNat
      | .xor => k.wrap (BitVec.ofInt k.bits x ^^^ BitVec.ofInt k.bits y).toNat
      | _ => k.wrap (BitVec.ofInt k.bits x &&& ~~~ BitVec.ofInt k.bits y).toNat) := fun op k x y => by rw [specF.2.2.2.2.2.2.2.2.1]; rfl
theorem maxI_eq : ∀ (x : Int) (y : Int), maxI x y = (if y > x then y else x) := specF.2.2.2.2.2.2.2.2.2.1
theorem minI_eq : ∀ (x : Int) (y : Int), minI x y = (if y < x then y else x) := specF.2.2.2.2.2.2.2.2.2.2.1
theorem nI_eq : ∀ (n : Nat), nI n = (n) := specF.2.2.2.2.2.2.2.2.2.2.2.1
theorem lenS_eq : ∀ (s : ByteArray), lenS s = (s.size) := specF.2.2.2.2.2.2.2.2.2.2.2.2.1
theorem natOf_eq : ∀ (i : Int), natOf i = (i.toNat) := specF.2.2.2.2.2.2.2.2.2.2.2.2.2.1
theorem addN_eq : ∀ (x : Nat) (y : Nat), addN x y = (x + y) := specF.2.2.2.2.2.2.2.2.2.2.2.2.2.2.1
theorem subN_eq : ∀ (x : Nat) (y : Nat), subN x y = (x - y) := specF.2.2.2.2.2.2.2.2.2.2.2.2.2.2.2.1
theorem eqN_eq : ∀ (x : Nat) (y : Nat), eqN x y = (x = y) := specP.2.2.2.2.2.2.2.2.2.1
theorem leN_eq : ∀ (x : Nat) (y : Nat), leN x y = (x ≤ y) := specP.2.2.2.2.2.2.2.2.2.2.1
theorem ltN_eq : ∀ (x : Nat) (y : Nat), ltN x y = (x < y) := specP.2.2.2.2.2.2.2.2.2.2.2
theorem catS_eq : ∀ (x : ByteArray) (y : ByteArray), catS x y = (x ++ y) := specF.2.2.2.2.2.2.2.2.2.2.2.2.2.2.2.2.1
theorem subS_eq : ∀ (s : ByteArray) (l : Int) (h : Int), subS s l h = (s.extract l.toNat h.toNat) := specF.2.2.2.2.2.2.2.2.2.2.2.2.2.2.2.2.2.1
theorem bt_eq : ∀ (s : ByteArray) (i : Int), bt s i = ((s.data.toList.getD i.toNat 0).toNat) := fun s i => by rw [specF.2.2.2.2.2.2.2.2.2.2.2.2.2.2.2.2.2.2.1]; rfl
theorem rune_eq : ∀ (s : ByteArray) (i : Nat), rune s i = ((Utf8.decode s i).1) := fun s i => by rw [specF.2.2.2.2.2.2.2.2.2.2.2.2.2.2.2.2.2.2.2.1]; rfl
theorem width_eq : ∀ (s : ByteArray) (i : Nat), width s i = ((Utf8.decode s i).2) := fun s i => by rw [specF.2.2.2.2.2.2.2.2.2.2.2.2.2.2.2.2.2.2.2.2.1]; rfl
theorem updG_eq : ∀ (get : Nat → Nat → D) (i : Nat) (j : Nat) (v : D), updG get i j v = (fun i' j' => if i' = i ∧ j' = j then v else get i' j') := fun get i j v => by rw [specF.2.2.2.2.2.2.2.2.2.2.2.2.2.2.2.2.2.2.2.2.2.1]; rfl
theorem shG_eq : ∀ (get : Nat → Nat → D) (l : Nat), shG get l = (fun i j => get (l + i) j) := fun get l => by rw [specF.2.2.2.2.2.2.2.2.2.2.2.2.2.2.2.2.2.2.2.2.2.2.1]; rfl
theorem appG_eq : ∀ (n : Nat) (get : Nat → Nat → D) (get' : Nat → Nat → D), appG n get get' = (fun i j => if i < n then get i j else get' (i - n) j) := fun n get get' => by rw [specF.2.2.2.2.2.2.2.2.2.2.2.2.2.2.2.2.2.2.2.2.2.2.2.1]; rfl
theorem strG_eq : ∀ (s : ByteArray), strG s = (fun i _ => .int .u8 (bt s i)) := fun s => by rw [specF.2.2.2.2.2.2.2.2.2.2.2.2.2.2.2.2.2.2.2.2.2.2.2.2.1]; funext i j; rw [bt_eq]; rfl
theorem rowG_eq : ∀ (sz : Nat) (cs : List D), rowG sz cs = (fun i j => cs.getD (i * sz + j) .nilp) := fun sz cs => by rw [specF.2.2.2.2.2.2.2.2.2.2.2.2.2.2.2.2.2.2.2.2.2.2.2.2.2]; rfl
end Ops
open Ops
variable [Ops]

def addO : Nat → Nat → Nat
  | 0, n => n
  | k + 1, n => addN (k + 1) n

def offG : Nat → (Nat → Nat → D) → (Nat → Nat → D)
  | 0, g => g
  | k + 1, g => shG g (k + 1)

def setL {α : Type} : List α → Nat → α → List α
  | [], _, _ => []
  | _ :: r, 0, v => v :: r
  | a :: r, n + 1, v => a :: setL r n v

def getL {α : Type} : List α → Nat → α → α
  | [], _, d => d
  | a :: _, 0, _ => a
  | _ :: r, n + 1, d => getL r n d

def put (tm : List A) : Option Nat → A → List A
  | some d, v => setL tm d v
  | none, _ => tm

def absLeaf : Value → A
  | .int k n => .d (.int k n)
  | .bool b => .d (.bool b)
  | .string s => .d (.str s)
  | .slice none 0 0 => .nils
  | .pointer none => .d .nilp
  | .nilFunc => .d .nilf
  | .nilIface => .d .nili
  | _ => .undef

def absV : Value → A
  | .agg cs => .agg (cs.toList.map absLeaf)
  | v => absLeaf v

def ev (tm : List A) : Operand → A
  | .tmp t => getL tm t .undef
  | .const v => absV v
  | .func f => .clo f [] []
  | .global _ => .undef

/-- what a value is, as cells -/
def A.cells : A → List A
  | .agg cs => cs
  | a => [a]

/-- one cell's value -/
def A.leaf : A → Bool
  | .agg _ | .tup _ | .undef => false
  | _ => true

def allLeaf : List A → Bool
  | [] => true
  | a :: r => a.leaf && allLeaf r

def TK.isAgg : TK → Bool
  | .struct _ | .array _ _ => true
  | _ => false

def cmpQ (p q : Prop) (Q : A → Prop) : Prop := Imp p (Q (.d (.bool true))) ∧ Imp q (Q (.d (.bool false)))

def binI (op : BinOp) (k : IntKind) (x y : Int) (Q : A → Prop) : Prop :=
  match op with
  | .add => Q (.d (.int k (addK k x y)))
  | .sub => Q (.d (.int k (subK k x y)))
  | .mul => Q (.d (.int k (mulK k x y)))
  | .quo => neP y 0 ∧ Q (.d (.int k (quoK k x y)))
  | .rem => neP y 0 ∧ Q (.d (.int k (remK x y)))
  | .eql => cmpQ (eqP x y) (neP x y) Q
  | .neq => cmpQ (neP x y) (eqP x y) Q
  | .lss => cmpQ (ltP x y) (leP y x) Q
  | .leq => cmpQ (leP x y) (ltP y x) Q
  | .gtr => cmpQ (ltP y x) (leP x y) Q
  | .geq => cmpQ (leP y x) (ltP x y) Q
  | .and => Q (.d (.int k (bitK .and k x y)))
  | .or => Q (.d (.int k (bitK .or k x y)))
  | .xor => Q (.d (.int k (bitK .xor k x y)))
  | .andNot => Q (.d (.int k (bitK .andNot k x y)))
  | _ => False

def IntKind.same : IntKind → IntKind → Bool
  | .i8, .i8 | .i16, .i16 | .i32, .i32 | .i64, .i64 | .u8, .u8 | .u16, .u16 | .u32, .u32 | .u64, .u64 => true
  | _, _ => false

def binS (op : BinOp) (x y : ByteArray) (Q : A → Prop) : Prop :=
  match op with
  | .add => leP (lenS x) 2305843009213693952 ∧ leP (lenS y) 2305843009213693952 ∧ Q (.d (.str (catS x y)))
  | .eql => cmpQ (eqSP x y) (neSP x y) Q
  | .neq => cmpQ (neSP x y) (eqSP x y) Q
  | .lss => cmpQ (ltSP x y) (geSP x y) Q
  | .geq => cmpQ (geSP x y) (ltSP x y) Q
  | _ => False

def Bool.same : Bool → Bool → Bool
  | true, b => b
  | false, true => false
  | false, false => true

def binB (op : BinOp) (x y : Bool) (Q : A → Prop) : Prop :=
  match op with
  | .eql => Q (.d (.bool (Bool.same x y)))
  | .neq => Q (.d (.bool (!Bool.same x y)))
  | _ => False

def wbin (T : Tab) (t : Nat) (op : BinOp) (x y : A) (Q : A → Prop) : Prop :=
  match x, y with
  | .d (.int k a), .d (.int k' b) =>
    match op with
    | .shl => leP 0 b ∧ Q (.d (.int k (shlK k a b)))
    | .shr => leP 0 b ∧ Q (.d (.int k (shrK k a b)))
    | op => IntKind.same k k' = true ∧ binI op k a b Q
  | .d (.str a), .d (.str b) => binS op a b Q
  | .d (.bool a), .d (.bool b) => match T.ti t with
    | some ⟨.bool, _, _, _⟩ => binB op a b Q
    | _ => False
  | .agg xs, .agg ys => match op, T.eq t with
    | .eql, some e => e xs ys Q
    | .neq, some e => e xs ys (fun r => match r with | .d (.bool b) => (match b with | true => Q (.d (.bool false)) | false => Q (.d (.bool true))) | _ => False)
    | _, _ => False
  | _, _ => False

/-- a run of n cells of data from (i, j) on -/
def cellsD (get : Nat → Nat → D) (i j : Nat) : Nat → List A
  | 0 => []
  | n + 1 => .d (get i j) :: cellsD get i (j + 1) n

def takeL {α : Type} : List α → Nat → List α
  | _, 0 => []
  | [], _ + 1 => []
  | a :: r, n + 1 => a :: takeL r n

def dropL {α : Type} : List α → Nat → List α
  | l, 0 => l
  | [], _ + 1 => []
  | _ :: r, n + 1 => dropL r n

def lenL {α : Type} : List α → Nat
  | [] => 0
  | _ :: r => lenL r + 1

/-- write cells over a list from a place on -/
def overL {α : Type} : List α → Nat → List α → List α
  | l, _, [] => l
  | [], _, _ :: _ => []
  | _ :: r, 0, b :: bs => b :: overL r 0 bs
  | a :: r, n + 1, b :: bs => a :: overL r n (b :: bs)

def wload (T : Tab) (t : Nat) (p : A) (hp : AHeap) (Q : A → Prop) : Prop :=
  match T.ti t with
  | none => False
  | some ti =>
    match p with
    | .ptr o off =>
      match getL hp o .dead with
      | .box cs => Nat.ble (off + ti.size) (lenL cs) = true ∧ Nat.ble 1 ti.size = true ∧ Q (if ti.kind.isAgg then .agg (takeL (dropL cs off) ti.size) else getL cs off .undef)
      | _ => False
    | .eptr o i j len =>
      match getL hp o .dead with
      | .arr n sz get _ => eqN n len ∧ Nat.ble (j + ti.size) sz = true ∧ Nat.ble 1 ti.size = true ∧ ltN i n ∧ Q (if ti.kind.isAgg then .agg (cellsD get i j ti.size) else .d (get i j))
      | _ => False
    | .iptr get i j sz => Nat.ble (j + ti.size) sz = true ∧ Nat.ble 1 ti.size = true ∧ Q (if ti.kind.isAgg then .agg (cellsD get i j ti.size) else .d (get i j))
    | _ => False

/-- what may be written into an array of data: data; an own slice is frozen first -/
def wdata (v : A) (hp : AHeap) (K : D → AHeap → Prop) : Prop :=
  match v with
  | .d x => K x hp
  | .nils => K (.sl 0 1 (fun _ _ => .nilp)) hp
  | .ref o off len sz =>
    match getL hp o .dead with
    | .arr n sz' get _ => Nat.beq sz sz' = true ∧ eqN (addO off len) n ∧ K (.sl len sz (offG off get)) (setL hp o (.arr n sz get n))
    | _ => False
  | _ => False

def wdatas : List A → AHeap → (List D → AHeap → Prop) → Prop
  | [], hp, K => K [] hp
  | v :: r, hp, K => wdata v hp (fun x hp' => wdatas r hp' (fun xs hp'' => K (x :: xs) hp''))

def updsG (get : Nat → Nat → D) (i j : Nat) : List D → (Nat → Nat → D)
  | [] => get
  | x :: xs => updsG (updG get i j x) i (j + 1) xs

def wstore (T : Tab) (t : Nat) (p v : A) (hp : AHeap) (K : AHeap → Prop) : Prop :=
  match T.ti t with
  | none => False
  | some ti =>
    Nat.beq (lenL v.cells) ti.size = true ∧ allLeaf v.cells = true ∧
    match p with
    | .ptr o off =>
      match getL hp o .dead with
      | .box cs => Nat.ble (off + ti.size) (lenL cs) = true ∧ K (setL hp o (.box (overL cs off v.cells)))
      | _ => False
    | .eptr o i j len => wdatas v.cells hp (fun xs hp' =>
      match getL hp' o .dead with
      | .arr n sz get fz => eqN n len ∧ Nat.ble (j + ti.size) sz = true ∧ leN fz i ∧ ltN i n ∧ K (setL hp' o (.arr n sz (updsG get i j xs) fz))
      | _ => False)
    | _ => False

def wlen (T : Tab) (t : Nat) (x : A) (Q : A → Prop) : Prop :=
  match T.ti t, x with
  | some ⟨.string, _, _, _⟩, .d (.str s) => Q (.d (.int .i64 (lenS s)))
  | some ⟨.slice _, _, _, _⟩, .d (.sl n _ _) => Q (.d (.int .i64 (nI n)))
  | some ⟨.slice _, _, _, _⟩, .nils => Q (.d (.int .i64 0))
  | some ⟨.slice _, _, _, _⟩, .ref _ _ len _ => Q (.d (.int .i64 (nI len)))
  | _, _ => False

def loG (lo : Option A) (get : Nat → Nat → D) (l : Int) : Nat → Nat → D :=
  match lo with
  | none => get
  | some _ => shG get (natOf l)

def wslice (T : Tab) (t : Nat) (x : A) (lo hi : Option A) (hp : AHeap) (Q : A → AHeap → Prop) : Prop :=
  let low : Option Int := match lo with | none => some 0 | some (.d (.int _ n)) => some n | _ => none
  match low with
  | none => False
  | some l =>
  match x with
  | .d (.str s) => match T.ti t with
    | some ⟨.string, _, _, _⟩ =>
      (match hi with
      | none => leP 0 l ∧ leP l (lenS s) ∧ Q (.d (.str (subS s l (lenS s)))) hp
      | some (.d (.int _ h)) => leP 0 l ∧ leP l h ∧ leP h (lenS s) ∧ Q (.d (.str (subS s l h))) hp
      | _ => False)
    | _ => False
  | .d (.sl n sz get) => match T.ti t with
    | some ⟨.slice e, _, _, _⟩ => (match T.ti e with | some te => Nat.beq te.size sz = true ∨ eqN n 0 | none => False) ∧
      (match hi with
      | none => leP 0 l ∧ leP l (nI n) ∧ Q (.d (.sl (subN n (natOf l)) sz (loG lo get l))) hp
      | some (.d (.int _ h)) => leP 0 l ∧ leP l h ∧ leP h (nI n) ∧ Q (.d (.sl (subN (natOf h) (natOf l)) sz (loG lo get l))) hp
      | _ => False)
    | _ => False
  | .ref o off len sz =>
    match getL hp o .dead with
    | .arr n sz' get _ => match T.ti t with
      | some ⟨.slice e, _, _, _⟩ => (match T.ti e with | some te => Nat.beq te.size sz = true | none => False) ∧ Nat.beq sz sz' = true ∧ eqN (addO off len) n ∧
        (match hi with
        | none => leP 0 l ∧ leP l (nI len) ∧ Q (.ref o (addO off (natOf l)) (subN len (natOf l)) sz) hp
        | some (.d (.int _ h)) => leP 0 l ∧ leP l h ∧ leP h (nI len) ∧ Q (.d (.sl (subN (natOf h) (natOf l)) sz (shG get (addO off (natOf l))))) (setL hp o (.arr n sz get n))
        | _ => False)
      | _ => False
    | _ => False
  | _ => False

def windexAddr (T : Tab) (t : Nat) (x i : A) (hp : AHeap) (Q : A → Prop) : Prop :=
  match T.ti t, i with
  | some ⟨.slice e, _, _, _⟩, .d (.int _ n) =>
    (match T.ti e with
    | some te =>
      (match x with
      | .d (.sl len sz get) => leP 0 n ∧ ltP n (nI len) ∧ Nat.beq te.size sz = true ∧ Q (.iptr get (natOf n) 0 sz)
      | .ref o off len sz =>
        (match getL hp o .dead with
        | .arr m sz' _ _ => leP 0 n ∧ ltP n (nI len) ∧ Nat.beq te.size sz = true ∧ Nat.beq sz sz' = true ∧ eqN (addO off len) m ∧ Q (.eptr o (addO off (natOf n)) 0 (addO off len))
        | _ => False)
      | _ => False)
    | none => False)
  | _, _ => False

def windex (T : Tab) (t : Nat) (x i : A) (Q : A → Prop) : Prop :=
  match x, i with
  | .d (.str s), .d (.int _ n) => (match T.ti t with
    | some ⟨.string, _, _, _⟩ => leP 0 n ∧ ltP n (lenS s) ∧ Q (.d (.int .u8 (bt s n)))
    | _ => False)
  | .agg cs, .d (.int _ n) =>
    match T.ti t with
    | some ⟨.array len e, _, _, _⟩ => leP 0 n ∧ ltP n (nI len) ∧
      (match T.ti e with
      | some te => ∃ i, n = nI i ∧ Nat.ble (i * te.size + te.size) (lenL cs) = true ∧ Nat.ble 1 te.size = true ∧ Q (if te.kind.isAgg then .agg (takeL (dropL cs (i * te.size)) te.size) else getL cs (i * te.size) .undef)
      | none => False)
    | _ => False
  | _, _ => False

def fieldOf (T : Tab) (t f : Nat) : Option (Nat × TI) :=
  match T.ti t with
  | some ⟨.struct fs, _, _, _⟩ =>
    match getL (fs.map some) f none with
    | some (off, ft) => match T.ti ft with
      | some ti => some (off, ti)
      | none => none
    | none => none
  | _ => none

def wfieldAddr (T : Tab) (t f : Nat) (x : A) (Q : A → Prop) : Prop :=
  match fieldOf T t f with
  | some (off, ti) => Nat.ble 1 ti.size = true ∧
    match x with
    | .ptr o k => Q (.ptr o (k + off))
    | .eptr o i j len => Q (.eptr o i (j + off) len)
    | .iptr get i j sz => Q (.iptr get i (j + off) sz)
    | _ => False
  | none => False

def wfield (T : Tab) (t f : Nat) (x : A) (Q : A → Prop) : Prop :=
  match fieldOf T t f, x with
  | some (off, ti), .agg cs => Nat.ble (off + ti.size) (lenL cs) = true ∧ Nat.ble 1 ti.size = true ∧ Q (if ti.kind.isAgg then .agg (takeL (dropL cs off) ti.size) else getL cs off .undef)
  | _, _ => False

/-- fill parts into zero cells -/
def fillA (place : Nat → Option (Nat × Nat)) (cells : List A) : List (Nat × A) → Option (List A)
  | [] => some cells
  | (i, v) :: rest =>
    match place i with
    | none => none
    | some (off, size) =>
      if allLeaf v.cells && Nat.beq (lenL v.cells) size && Nat.ble (off + size) (lenL cells) then fillA place (overL cells off v.cells) rest else none

def structPlace (T : Tab) (fs : List (Nat × Nat)) (i : Nat) : Option (Nat × Nat) :=
  match getL (fs.map some) i none with
  | some (off, ft) => match T.ti ft with
    | some ti => some (off, ti.size)
    | none => none
  | none => none

def allTI (T : Tab) : List (Nat × Nat) → Bool
  | [] => true
  | (_, t) :: r => (match T.ti t with | some _ => true | none => false) && allTI T r

def wbuild (T : Tab) (t : Nat) (parts : List (Nat × A)) (Q : A → Prop) : Prop :=
  match T.ti t with
  | some ⟨.struct fs, _, _, zero⟩ => allTI T fs = true ∧
    (match fillA (structPlace T fs) zero parts with
    | some cs => Q (.agg cs)
    | none => False)
  | some ⟨.array _ e, _, _, zero⟩ =>
    match T.ti e with
    | some te => match fillA (fun i => some (i * te.size, te.size)) zero parts with
      | some cs => Q (.agg cs)
      | none => False
    | none => False
  | _ => False

def repL {α : Type} (xs : List α) : Nat → List α
  | 0 => []
  | n + 1 => xs ++ repL xs n

def wbuildSlice (T : Tab) (t len : Nat) (parts : List (Nat × A)) (hp : AHeap) (Q : A → AHeap → Prop) : Prop :=
  match T.ti t with
  | some ⟨.slice e, _, _, _⟩ =>
    match T.ti e with
    | some te => Nat.ble (len * te.size) 16777216 = true ∧ Nat.ble 1 te.size = true ∧
      match fillA (fun i => some (i * te.size, te.size)) (repL te.zero len) parts with
      | some cs => wdatas cs hp (fun xs hp' => Q (.ref (lenL hp') 0 len te.size) (hp' ++ [.arr len te.size (rowG te.size xs) 0]))
      | none => False
    | none => False
  | _ => False

def wmake (T : Tab) (t : Nat) (n c : A) (hp : AHeap) (Q : A → AHeap → Prop) : Prop :=
  match T.ti t, n, c with
  | some ⟨.slice e, _, _, _⟩, .d (.int _ n), .d (.int _ c) =>
    match T.ti e with
    | some te => leP 0 n ∧ leP n c ∧ leP c 1073741824 ∧ Nat.ble te.bytes 65536 = true ∧ Nat.ble 1 te.size = true ∧
      wdatas te.zero hp (fun xs hp' => Q (.ref (lenL hp') 0 (natOf n) te.size) (hp' ++ [.arr (natOf n) te.size (fun _ j => getL xs j .nilp) 0]))
    | none => False
  | _, _, _ => False

/-- what is appended: as data, its length -/
def wsrc (x : A) (hp : AHeap) (K : Nat → (Nat → Nat → D) → Nat → AHeap → Prop) : Prop :=
  match x with
  | .nils => K 0 (fun _ _ => .nilp) 0 hp
  | .d (.sl n sz get) => K n get sz hp
  | .d (.str s) => K (natOf (lenS s)) (strG s) 1 hp
  | .ref o off len sz =>
    match getL hp o .dead with
    | .arr n sz' get _ => Nat.beq sz sz' = true ∧ eqN (addO off len) n ∧ K len (offG off get) sz hp
    | _ => False
  | _ => False

def noInt : Option TI → Bool
  | some ⟨.slice _, _, _, _⟩ => true
  | some ⟨.string, _, _, _⟩ => true
  | _ => false

def wappend (T : Tab) (t t2 : Nat) (x y : A) (hp : AHeap) (Q : A → AHeap → Prop) : Prop :=
  match T.ti t with
  | some ⟨.slice e, _, _, _⟩ =>
    match T.ti e with
    | some te => noInt (T.ti t2) = true ∧ Nat.ble 1 te.size = true ∧ Nat.ble te.bytes 65536 = true ∧
      wsrc y hp (fun m get' sz' hp => (Nat.beq sz' te.size = true ∨ eqN m 0) ∧
        match x with
        | .nils => leN m 1073741824 ∧ Q (.ref (lenL hp) 0 m te.size) (hp ++ [.arr m te.size get' 0])
        | .ref o off len sz =>
          match getL hp o .dead with
          | .arr n sz' get fz => Nat.beq sz te.size = true ∧ Nat.beq sz sz' = true ∧ Nat.beq off 0 = true ∧ eqN len n ∧ leN fz len ∧ leN (addN len m) 1073741824 ∧ Q (.ref o 0 (addN len m) sz) (setL hp o (.arr (addN len m) sz (appG len get get') fz))
          | _ => False
        | _ => False)
    | none => False
  | _ => False

def wmax (x y : A) (Q : A → Prop) : Prop :=
  match x, y with
  | .d (.int k a), .d (.int _ b) => Q (.d (.int k (maxI a b)))
  | _, _ => False

def wmin (x y : A) (Q : A → Prop) : Prop :=
  match x, y with
  | .d (.int k a), .d (.int _ b) => Q (.d (.int k (minI a b)))
  | _, _ => False

def wconv (T : Tab) (src dst : Nat) (x : A) (Q : A → Prop) : Prop :=
  match T.ti src, T.ti dst, x with
  | some ⟨.int _, _, _, _⟩, some ⟨.int k, _, _, _⟩, .d (.int _ n) => Q (.d (.int k (convK k n)))
  | some ⟨.string, _, _, _⟩, some ⟨.string, _, _, _⟩, .d (.str s) => Q (.d (.str s))
  | _, _, _ => False

def wun (op : UnOp) (x : A) (Q : A → Prop) : Prop :=
  match op, x with
  | .not, .d (.bool b) => Q (.d (.bool (!b)))
  | .neg, .d (.int k n) => Q (.d (.int k (subK k 0 n)))
  | _, _ => False

def wnil (x : A) (Q : A → Prop) : Prop :=
  match x with
  | .ptr o k => Q (.ptr o k)
  | .eptr o i j l => Q (.eptr o i j l)
  | .iptr g i j sz => Q (.iptr g i j sz)
  | .clo f a b => Q (.clo f a b)
  | _ => False

def wnext (x : A) (hp : AHeap) (Q : A → AHeap → Prop) : Prop :=
  match x with
  | .itr o =>
    match getL hp o .dead with
    | .iter s pos =>
      Imp (ltP (nI pos) (lenS s)) (Q (.tup [.d (.bool true), .d (.int .i64 (nI pos)), .d (.int .i32 (rune s pos))]) (setL hp o (.iter s (addN pos (width s pos))))) ∧
      Imp (leP (lenS s) (nI pos)) (Q (.tup [.d (.bool false)]) hp)
    | _ => False
  | _ => False

/-- an operation that calls no function of the program -/
def wprim (T : Tab) (o : Oper) (tm : List A) (hp : AHeap) (Q : A → AHeap → Prop) : Prop :=
  match o.op with
  | .move x | .assign x => Q (ev tm x) hp
  | .pick c a b => (match ev tm c with
    | .d (.bool t) => (match t with
      | true => Q (ev tm a) hp
      | false => Q (ev tm b) hp)
    | _ => False)
  | .alloc e => (match T.ti e with
    | some ti => Q (.ptr (lenL hp) 0) (hp ++ [.box ti.zero])
    | none => False)
  | .box _ x => allLeaf (ev tm x).cells = true ∧ Q (.ptr (lenL hp) 0) (hp ++ [.box (ev tm x).cells])
  | .build t parts => wbuild T t (parts.toList.map fun (i, x) => (i, ev tm x)) (fun a => Q a hp)
  | .buildSlice t len parts => wbuildSlice T t len (parts.toList.map fun (i, x) => (i, ev tm x)) hp Q
  | .load t a => wload T t (ev tm a) hp (fun a => Q a hp)
  | .store t a x => wstore T t (ev tm a) (ev tm x) hp (fun hp' => Q .undef hp')
  | .nilCheck x => wnil (ev tm x) (fun a => Q a hp)
  | .binOp op t x y _ => wbin T t op (ev tm x) (ev tm y) (fun a => Q a hp)
  | .unOp op _ x => wun op (ev tm x) (fun a => Q a hp)
  | .convert src dst x => wconv T src dst (ev tm x) (fun a => Q a hp)
  | .makeFunc (.func f) first caps => Q (.clo f (first.toList.map (ev tm)) (caps.toList.map (ev tm))) hp
  | .makeSlice t l c => wmake T t (ev tm l) (ev tm c) hp Q
  | .slice t x lo hi none => wslice T t (ev tm x) (lo.map (ev tm)) (hi.map (ev tm)) hp Q
  | .fieldAddr t x f => wfieldAddr T t f (ev tm x) (fun a => Q a hp)
  | .field t x f => wfield T t f (ev tm x) (fun a => Q a hp)
  | .indexAddr t x i => windexAddr T t (ev tm x) (ev tm i) hp (fun a => Q a hp)
  | .index t x i => windex T t (ev tm x) (ev tm i) (fun a => Q a hp)
  | .range t x => (match ev tm x with
    | .d (.str s) => (match T.ti t with
      | some ⟨.string, _, _, _⟩ => Q (.itr (lenL hp)) (hp ++ [.iter s 0])
      | _ => False)
    | _ => False)
  | .next it true => wnext (ev tm it) hp Q
  | .extract t i => (match ev tm t with
    | .tup ps => Nat.blt i (lenL ps) = true ∧ Q (getL ps i .undef) hp
    | _ => False)
  | .call c => (match c.callee with
    | .builtin .len => (match c.args, c.argTypes with
      | ⟨[x]⟩, ⟨[t]⟩ => wlen T t (ev tm x) (fun a => Q a hp)
      | _, _ => False)
    | .builtin .max => (match c.args with
      | ⟨[x, y]⟩ => wmax (ev tm x) (ev tm y) (fun a => Q a hp)
      | _ => False)
    | .builtin .min => (match c.args with
      | ⟨[x, y]⟩ => wmin (ev tm x) (ev tm y) (fun a => Q a hp)
      | _ => False)
    | .builtin .append => (match c.args, c.argTypes with
      | ⟨[x, y]⟩, ⟨[t, t2]⟩ => wappend T t t2 (ev tm x) (ev tm y) hp Q
      | _, _ => False)
    | _ => False)
  | _ => False

end Go.VM
