/- Part of the proof: VA, VB, VC, VD, VE. -/
import GoSem.Dispatch
import Derived.Calls
import Derived.Below
import Derived.Deep.LoopGhost
import Derived.Deep.MidRow
import Derived.WalkKit
/- The abstract values, the abstract heap, and what one operation does to them, as a weakest precondition that is computed. -/
set_option linter.unusedVariables false
namespace Go.VM

/-- Data: what can be read and never changes. 'sl len sz get': a slice of len elements of sz cells. -/
inductive D where
  | int (k : IntKind) (n : Int)
  | bool (b : Bool)
  | str (s : ByteArray)
  | nilp
  | nilf
  | nili
  | sl (len sz : Nat) (get : Nat → Nat → D)

/-- Abstract values. ref: a slice of the call's own (object, first element, elements, cells of one); ptr: into a box; eptr: to element i, cell j of an own array of len elements; iptr: into data (element i of sz cells, at cell j). -/
inductive A where
  | d (x : D)
  | nils
  | ref (o off len sz : Nat)
  | ptr (o off : Nat)
  | eptr (o i j len : Nat)
  | iptr (get : Nat → Nat → D) (i j sz : Nat)
  | itr (o : Nat)
  | clo (f : FuncId) (first caps : List A)
  | agg (cells : List A)
  | tup (parts : List A)
  | undef

inductive AObj where
  | box (cs : List A)
  | arr (len sz : Nat) (get : Nat → Nat → D) (fz : Nat)
  | iter (s : ByteArray) (pos : Nat)
  | bld (c : ByteArray)
  | dead

abbrev AHeap := List AObj

inductive TK where
  | int (k : IntKind) | bool | string | slice (e : Nat) | struct (fs : List (Nat × Nat)) | array (n e : Nat) | pointer (e : Nat) | func | other

structure TI where
  kind : TK
  size : Nat
  bytes : Nat
  zero : List A

/-- The table of the types that a proof speaks of. -/
structure Tab where
  bld : Nat
  fz : Nat → Bool
  ti : Nat → Option TI
  eq : Nat → Option (List A → List A → (A → Prop) → Prop)
  fn : Nat → Bool

structure St where
  tm : List A
  hp : AHeap

inductive Ex where
  | normal | exit (id : Nat) | ret

def bitF : (BinOp) → (IntKind) → (Int) → (Int) → Int := fun op k x y => 
      match op with
      | .and => k.wrap (BitVec.ofInt k.bits x &&& BitVec.ofInt k.bits y).toNat
      | .or => k.wrap (BitVec.ofInt k.bits x ||| BitVec.ofInt k.bits y).toNat
      | .xor => k.wrap (BitVec.ofInt k.bits x ^^^ BitVec.ofInt k.bits y).toNat
      | _ => k.wrap (BitVec.ofInt k.bits x &&& ~~~ BitVec.ofInt k.bits y).toNat
def btF : (ByteArray) → (Int) → Int := fun s i => (s.data.toList.getD i.toNat 0).toNat
def runeF : (ByteArray) → (Nat) → Int := fun s i => (Utf8.decode s i).1
def widthF : (ByteArray) → (Nat) → Nat := fun s i => (Utf8.decode s i).2
def updF : (Nat → Nat → D) → (Nat) → (Nat) → (D) → Nat → Nat → D := fun get i j v => fun i' j' => if i' = i ∧ j' = j then v else get i' j'
def shF : (Nat → Nat → D) → (Nat) → Nat → Nat → D := fun get l => fun i j => get (l + i) j
def appF : (Nat) → (Nat → Nat → D) → (Nat → Nat → D) → Nat → Nat → D := fun n get get' => fun i j => if i < n then get i j else get' (i - n) j
def strF : (ByteArray) → Nat → Nat → D := fun s => fun i _ => .int .u8 (btF s i)
def rowF : Nat → List D → Nat → Nat → D := fun sz cs => fun i j => cs.getD (i * sz + j) .nilp

/-- The words that evaluation leaves closed, each with what it means. -/
class Ops where
  Imp : Prop → Prop → Prop
  ltP : Int → Int → Prop
  leP : Int → Int → Prop
  eqP : Int → Int → Prop
  neP : Int → Int → Prop
  eqSP : ByteArray → ByteArray → Prop
  neSP : ByteArray → ByteArray → Prop
  ltSP : ByteArray → ByteArray → Prop
  geSP : ByteArray → ByteArray → Prop
  addK : (IntKind) → (Int) → (Int) → Int
  subK : (IntKind) → (Int) → (Int) → Int
  mulK : (IntKind) → (Int) → (Int) → Int
  quoK : (IntKind) → (Int) → (Int) → Int
  remK : (Int) → (Int) → Int
  convK : (IntKind) → (Int) → Int
  shlK : (IntKind) → (Int) → (Int) → Int
  shrK : (IntKind) → (Int) → (Int) → Int
  bitK : (BinOp) → (IntKind) → (Int) → (Int) → Int
  maxI : (Int) → (Int) → Int
  minI : (Int) → (Int) → Int
  nI : (Nat) → Int
  lenS : (ByteArray) → Int
  natOf : (Int) → Nat
  addN : (Nat) → (Nat) → Nat
  subN : (Nat) → (Nat) → Nat
  eqN : (Nat) → (Nat) → Prop
  leN : (Nat) → (Nat) → Prop
  ltN : (Nat) → (Nat) → Prop
  catS : (ByteArray) → (ByteArray) → ByteArray
  subS : (ByteArray) → (Int) → (Int) → ByteArray
  bt : (ByteArray) → (Int) → Int
  rune : (ByteArray) → (Nat) → Int
  width : (ByteArray) → (Nat) → Nat
  updG : (Nat → Nat → D) → (Nat) → (Nat) → (D) → Nat → Nat → D
  shG : (Nat → Nat → D) → (Nat) → Nat → Nat → D
  appG : (Nat) → (Nat → Nat → D) → (Nat → Nat → D) → Nat → Nat → D
  strG : (ByteArray) → Nat → Nat → D
  rowG : Nat → List D → Nat → Nat → D
  specP : (∀ p q, Imp p q = (p → q)) ∧
    (∀ x y, ltP x y = (x < y)) ∧
    (∀ x y, leP x y = (x ≤ y)) ∧
    (∀ x y, eqP x y = (x = y)) ∧
    (∀ x y, neP x y = (x ≠ y)) ∧
    (∀ x y, eqSP x y = (x = y)) ∧
    (∀ x y, neSP x y = (x ≠ y)) ∧
    (∀ x y, ltSP x y = (Op.bytesLess x.toList y.toList = true)) ∧
    (∀ x y, geSP x y = (Op.bytesLess x.toList y.toList = false)) ∧
    (∀ (x : Nat) (y : Nat), eqN x y = (x = y)) ∧
    (∀ (x : Nat) (y : Nat), leN x y = (x ≤ y)) ∧
    (∀ (x : Nat) (y : Nat), ltN x y = (x < y))
  specF : (∀ (k : IntKind) (x : Int) (y : Int), addK k x y = (k.wrap (x + y))) ∧
    (∀ (k : IntKind) (x : Int) (y : Int), subK k x y = (k.wrap (x - y))) ∧
    (∀ (k : IntKind) (x : Int) (y : Int), mulK k x y = (k.wrap (x * y))) ∧
    (∀ (k : IntKind) (x : Int) (y : Int), quoK k x y = (k.wrap (x.tdiv y))) ∧
    (∀ (x : Int) (y : Int), remK x y = (x.tmod y)) ∧
    (∀ (k : IntKind) (x : Int), convK k x = (k.wrap x)) ∧
    (∀ (k : IntKind) (x : Int) (y : Int), shlK k x y = (k.wrap (x * 2 ^ (min y.toNat k.bits)))) ∧
    (∀ (k : IntKind) (x : Int) (y : Int), shrK k x y = (x.fdiv (2 ^ (min y.toNat k.bits)))) ∧
    (∀ (op : BinOp) (k : IntKind) (x : Int) (y : Int), bitK op k x y = bitF op k x y) ∧
    (∀ (x : Int) (y : Int), maxI x y = (if y > x then y else x)) ∧
    (∀ (x : Int) (y : Int), minI x y = (if y < x then y else x)) ∧
    (∀ (n : Nat), nI n = (n)) ∧
    (∀ (s : ByteArray), lenS s = (s.size)) ∧
    (∀ (i : Int), natOf i = (i.toNat)) ∧
    (∀ (x : Nat) (y : Nat), addN x y = (x + y)) ∧
    (∀ (x : Nat) (y : Nat), subN x y = (x - y)) ∧
    (∀ (x : ByteArray) (y : ByteArray), catS x y = (x ++ y)) ∧
    (∀ (s : ByteArray) (l : Int) (h : Int), subS s l h = (s.extract l.toNat h.toNat)) ∧
    (∀ (s : ByteArray) (i : Int), bt s i = btF s i) ∧
    (∀ (s : ByteArray) (i : Nat), rune s i = runeF s i) ∧
    (∀ (s : ByteArray) (i : Nat), width s i = widthF s i) ∧
    (∀ (get : Nat → Nat → D) (i : Nat) (j : Nat) (v : D), updG get i j v = updF get i j v) ∧
    (∀ (get : Nat → Nat → D) (l : Nat), shG get l = shF get l) ∧
    (∀ (n : Nat) (get : Nat → Nat → D) (get' : Nat → Nat → D), appG n get get' = appF n get get') ∧
    (∀ (s : ByteArray), strG s = strF s) ∧
    (∀ (sz : Nat) (cs : List D), rowG sz cs = rowF sz cs)

theorem Ops.exists_one : Nonempty Ops := ⟨{
  Imp := fun p q => p → q,
  ltP := fun x y => x < y,
  leP := fun x y => x ≤ y,
  eqP := fun x y => x = y,
  neP := fun x y => x ≠ y,
  eqSP := fun x y => x = y,
  neSP := fun x y => x ≠ y,
  ltSP := fun x y => Op.bytesLess x.toList y.toList = true,
  geSP := fun x y => Op.bytesLess x.toList y.toList = false,
  addK := fun k x y => k.wrap (x + y),
  subK := fun k x y => k.wrap (x - y),
  mulK := fun k x y => k.wrap (x * y),
  quoK := fun k x y => k.wrap (x.tdiv y),
  remK := fun x y => x.tmod y,
  convK := fun k x => k.wrap x,
  shlK := fun k x y => k.wrap (x * 2 ^ (min y.toNat k.bits)),
  shrK := fun k x y => x.fdiv (2 ^ (min y.toNat k.bits)),
  bitK := bitF,
  maxI := fun x y => if y > x then y else x,
  minI := fun x y => if y < x then y else x,
  nI := Int.ofNat,
  lenS := fun s => (s.size : Int),
  natOf := fun i => i.toNat,
  addN := fun x y => x + y,
  subN := fun x y => x - y,
  eqN := fun x y => x = y,
  leN := fun x y => x ≤ y,
  ltN := fun x y => x < y,
  catS := fun x y => x ++ y,
  subS := fun s l h => s.extract l.toNat h.toNat,
  bt := btF,
  rune := runeF,
  width := widthF,
  updG := updF,
  shG := shF,
  appG := appF,
  strG := strF,
  rowG := rowF,
  specP := ⟨fun p q => rfl, fun x y => rfl, fun x y => rfl, fun x y => rfl, fun x y => rfl, fun x y => rfl, fun x y => rfl, fun x y => rfl, fun x y => rfl, fun x y => rfl, fun x y => rfl, fun x y => rfl⟩,
  specF := ⟨fun k x y => rfl, fun k x y => rfl, fun k x y => rfl, fun k x y => rfl, fun x y => rfl, fun k x => rfl, fun k x y => rfl, fun k x y => rfl, fun op k x y => rfl, fun x y => rfl, fun x y => rfl, fun n => rfl, fun s => rfl, fun i => rfl, fun x y => rfl, fun x y => rfl, fun x y => rfl, fun s l h => rfl, fun s i => rfl, fun s i => rfl, fun s i => rfl, fun get i j v => rfl, fun get l => rfl, fun n get get' => rfl, fun s => rfl, fun sz cs => rfl⟩ }⟩

namespace Ops
variable [Ops]
theorem Imp_eq : ∀ p q, Imp p q = (p → q) := specP.1
theorem ltP_eq : ∀ x y, ltP x y = (x < y) := specP.2.1
theorem leP_eq : ∀ x y, leP x y = (x ≤ y) := specP.2.2.1
theorem eqP_eq : ∀ x y, eqP x y = (x = y) := specP.2.2.2.1
theorem neP_eq : ∀ x y, neP x y = (x ≠ y) := specP.2.2.2.2.1
theorem eqSP_eq : ∀ x y, eqSP x y = (x = y) := specP.2.2.2.2.2.1
theorem neSP_eq : ∀ x y, neSP x y = (x ≠ y) := specP.2.2.2.2.2.2.1
theorem ltSP_eq : ∀ x y, ltSP x y = (Op.bytesLess x.toList y.toList = true) := specP.2.2.2.2.2.2.2.1
theorem geSP_eq : ∀ x y, geSP x y = (Op.bytesLess x.toList y.toList = false) := specP.2.2.2.2.2.2.2.2.1
theorem addK_eq : ∀ (k : IntKind) (x : Int) (y : Int), addK k x y = (k.wrap (x + y)) := specF.1
theorem subK_eq : ∀ (k : IntKind) (x : Int) (y : Int), subK k x y = (k.wrap (x - y)) := specF.2.1
theorem mulK_eq : ∀ (k : IntKind) (x : Int) (y : Int), mulK k x y = (k.wrap (x * y)) := specF.2.2.1
theorem quoK_eq : ∀ (k : IntKind) (x : Int) (y : Int), quoK k x y = (k.wrap (x.tdiv y)) := specF.2.2.2.1
theorem remK_eq : ∀ (x : Int) (y : Int), remK x y = (x.tmod y) := specF.2.2.2.2.1
theorem convK_eq : ∀ (k : IntKind) (x : Int), convK k x = (k.wrap x) := specF.2.2.2.2.2.1
theorem shlK_eq : ∀ (k : IntKind) (x : Int) (y : Int), shlK k x y = (k.wrap (x * 2 ^ (min y.toNat k.bits))) := specF.2.2.2.2.2.2.1
theorem shrK_eq : ∀ (k : IntKind) (x : Int) (y : Int), shrK k x y = (x.fdiv (2 ^ (min y.toNat k.bits))) := specF.2.2.2.2.2.2.2.1
theorem bitK_eq : ∀ (op : BinOp) (k : IntKind) (x : Int) (y : Int), bitK op k x y = (
      match op with
      | .and => k.wrap (BitVec.ofInt k.bits x &&& BitVec.ofInt k.bits y).toNat
      | .or => k.wrap (BitVec.ofInt k.bits x ||| BitVec.ofInt k.bits y).toNat
      | .xor => k.wrap (BitVec.ofInt k.bits x ^^^ BitVec.ofInt k.bits y).toNat
      | _ => k.wrap (BitVec.ofInt k.bits x &&& ~~~ BitVec.ofInt k.bits y).toNat) := fun op k x y => by rw [specF.2.2.2.2.2.2.2.2.1]; rfl
theorem maxI_eq : ∀ (x : Int) (y : Int), maxI x y = (if y > x then y else x) := specF.2.2.2.2.2.2.2.2.2.1
theorem minI_eq : ∀ (x : Int) (y : Int), minI x y = (if y < x then y else x) := specF.2.2.2.2.2.2.2.2.2.2.1
theorem nI_eq : ∀ (n : Nat), nI n = (n) := specF.2.2.2.2.2.2.2.2.2.2.2.1
theorem lenS_eq : ∀ (s : ByteArray), lenS s = (s.size) := specF.2.2.2.2.2.2.2.2.2.2.2.2.1
theorem natOf_eq : ∀ (i : Int), natOf i = (i.toNat) := specF.2.2.2.2.2.2.2.2.2.2.2.2.2.1
theorem addN_eq : ∀ (x : Nat) (y : Nat), addN x y = (x + y) := specF.2.2.2.2.2.2.2.2.2.2.2.2.2.2.1
theorem subN_eq : ∀ (x : Nat) (y : Nat), subN x y = (x - y) := specF.2.2.2.2.2.2.2.2.2.2.2.2.2.2.2.1
theorem eqN_eq : ∀ (x : Nat) (y : Nat), eqN x y = (x = y) := specP.2.2.2.2.2.2.2.2.2.1
theorem leN_eq : ∀ (x : Nat) (y : Nat), leN x y = (x ≤ y) := specP.2.2.2.2.2.2.2.2.2.2.1
theorem ltN_eq : ∀ (x : Nat) (y : Nat), ltN x y = (x < y) := specP.2.2.2.2.2.2.2.2.2.2.2
theorem catS_eq : ∀ (x : ByteArray) (y : ByteArray), catS x y = (x ++ y) := specF.2.2.2.2.2.2.2.2.2.2.2.2.2.2.2.2.1
theorem subS_eq : ∀ (s : ByteArray) (l : Int) (h : Int), subS s l h = (s.extract l.toNat h.toNat) := specF.2.2.2.2.2.2.2.2.2.2.2.2.2.2.2.2.2.1
theorem bt_eq : ∀ (s : ByteArray) (i : Int), bt s i = ((s.data.toList.getD i.toNat 0).toNat) := fun s i => by rw [specF.2.2.2.2.2.2.2.2.2.2.2.2.2.2.2.2.2.2.1]; rfl
theorem rune_eq : ∀ (s : ByteArray) (i : Nat), rune s i = ((Utf8.decode s i).1) := fun s i => by rw [specF.2.2.2.2.2.2.2.2.2.2.2.2.2.2.2.2.2.2.2.1]; rfl
theorem width_eq : ∀ (s : ByteArray) (i : Nat), width s i = ((Utf8.decode s i).2) := fun s i => by rw [specF.2.2.2.2.2.2.2.2.2.2.2.2.2.2.2.2.2.2.2.2.1]; rfl
theorem updG_eq : ∀ (get : Nat → Nat → D) (i : Nat) (j : Nat) (v : D), updG get i j v = (fun i' j' => if i' = i ∧ j' = j then v else get i' j') := fun get i j v => by rw [specF.2.2.2.2.2.2.2.2.2.2.2.2.2.2.2.2.2.2.2.2.2.1]; rfl
theorem shG_eq : ∀ (get : Nat → Nat → D) (l : Nat), shG get l = (fun i j => get (l + i) j) := fun get l => by rw [specF.2.2.2.2.2.2.2.2.2.2.2.2.2.2.2.2.2.2.2.2.2.2.1]; rfl
theorem appG_eq : ∀ (n : Nat) (get : Nat → Nat → D) (get' : Nat → Nat → D), appG n get get' = (fun i j => if i < n then get i j else get' (i - n) j) := fun n get get' => by rw [specF.2.2.2.2.2.2.2.2.2.2.2.2.2.2.2.2.2.2.2.2.2.2.2.1]; rfl
theorem strG_eq : ∀ (s : ByteArray), strG s = (fun i _ => .int .u8 (bt s i)) := fun s => by rw [specF.2.2.2.2.2.2.2.2.2.2.2.2.2.2.2.2.2.2.2.2.2.2.2.2.1]; funext i j; rw [bt_eq]; rfl
theorem rowG_eq : ∀ (sz : Nat) (cs : List D), rowG sz cs = (fun i j => cs.getD (i * sz + j) .nilp) := fun sz cs => by rw [specF.2.2.2.2.2.2.2.2.2.2.2.2.2.2.2.2.2.2.2.2.2.2.2.2.2]; rfl
end Ops
open Ops
variable [Ops]

def addO : Nat → Nat → Nat
  | 0, n => n
  | k + 1, n => addN (k + 1) n

def offG : Nat → (Nat → Nat → D) → (Nat → Nat → D)
  | 0, g => g
  | k + 1, g => shG g (k + 1)

def setL {α : Type} : List α → Nat → α → List α
  | [], _, _ => []
  | _ :: r, 0, v => v :: r
  | a :: r, n + 1, v => a :: setL r n v

def getL {α : Type} : List α → Nat → α → α
  | [], _, d => d
  | a :: _, 0, _ => a
  | _ :: r, n + 1, d => getL r n d

def put (tm : List A) : Option Nat → A → List A
  | some d, v => setL tm d v
  | none, _ => tm

def absLeaf : Value → A
  | .int k n => .d (.int k n)
  | .bool b => .d (.bool b)
  | .string s => .d (.str s)
  | .slice none 0 0 => .nils
  | .pointer none => .d .nilp
  | .nilFunc => .d .nilf
  | .nilIface => .d .nili
  | _ => .undef

def absV : Value → A
  | .agg cs => .agg (cs.toList.map absLeaf)
  | v => absLeaf v

def ev (tm : List A) : Operand → A
  | .tmp t => getL tm t .undef
  | .const v => absV v
  | .func f => .clo f [] []
  | .global _ => .undef

/-- what a value is, as cells -/
def A.cells : A → List A
  | .agg cs => cs
  | a => [a]

/-- one cell's value -/
def A.leaf : A → Bool
  | .agg _ | .tup _ | .undef => false
  | _ => true

def allLeaf : List A → Bool
  | [] => true
  | a :: r => a.leaf && allLeaf r

def TK.isAgg : TK → Bool
  | .struct _ | .array _ _ => true
  | _ => false

def cmpQ (p q : Prop) (Q : A → Prop) : Prop := Imp p (Q (.d (.bool true))) ∧ Imp q (Q (.d (.bool false)))

def binI (op : BinOp) (k : IntKind) (x y : Int) (Q : A → Prop) : Prop :=
  match op with
  | .add => Q (.d (.int k (addK k x y)))
  | .sub => Q (.d (.int k (subK k x y)))
  | .mul => Q (.d (.int k (mulK k x y)))
  | .quo => neP y 0 ∧ Q (.d (.int k (quoK k x y)))
  | .rem => neP y 0 ∧ Q (.d (.int k (remK x y)))
  | .eql => cmpQ (eqP x y) (neP x y) Q
  | .neq => cmpQ (neP x y) (eqP x y) Q
  | .lss => cmpQ (ltP x y) (leP y x) Q
  | .leq => cmpQ (leP x y) (ltP y x) Q
  | .gtr => cmpQ (ltP y x) (leP x y) Q
  | .geq => cmpQ (leP y x) (ltP x y) Q
  | .and => Q (.d (.int k (bitK .and k x y)))
  | .or => Q (.d (.int k (bitK .or k x y)))
  | .xor => Q (.d (.int k (bitK .xor k x y)))
  | .andNot => Q (.d (.int k (bitK .andNot k x y)))
  | _ => False

def IntKind.same : IntKind → IntKind → Bool
  | .i8, .i8 | .i16, .i16 | .i32, .i32 | .i64, .i64 | .u8, .u8 | .u16, .u16 | .u32, .u32 | .u64, .u64 => true
  | _, _ => false

def binS (op : BinOp) (x y : ByteArray) (Q : A → Prop) : Prop :=
  match op with
  | .add => leP (lenS x) 2305843009213693952 ∧ leP (lenS y) 2305843009213693952 ∧ Q (.d (.str (catS x y)))
  | .eql => cmpQ (eqSP x y) (neSP x y) Q
  | .neq => cmpQ (neSP x y) (eqSP x y) Q
  | .lss => cmpQ (ltSP x y) (geSP x y) Q
  | .geq => cmpQ (geSP x y) (ltSP x y) Q
  | _ => False

def Bool.same : Bool → Bool → Bool
  | true, b => b
  | false, true => false
  | false, false => true

def binB (op : BinOp) (x y : Bool) (Q : A → Prop) : Prop :=
  match op with
  | .eql => Q (.d (.bool (Bool.same x y)))
  | .neq => Q (.d (.bool (!Bool.same x y)))
  | _ => False

def eqB (op : BinOp) (b : Bool) (Q : A → Prop) : Prop :=
  match op with
  | .eql => Q (.d (.bool b))
  | .neq => Q (.d (.bool (!b)))
  | _ => False

/-- compared with nil -/
def wnilcmp (T : Tab) (t : Nat) (op : BinOp) (x y : A) (Q : A → Prop) : Prop :=
  match T.ti t with
  | some ⟨.slice _, _, _, _⟩ => (match x, y with
    | .nils, .nils => eqB op true Q
    | .d (.sl n _ _), .nils => (match op with
      | .eql => Imp (eqN n 0) (Q (.d (.bool true))) ∧ Q (.d (.bool false))
      | .neq => Imp (eqN n 0) (Q (.d (.bool false))) ∧ Q (.d (.bool true))
      | _ => False)
    | .ref _ _ _ _, .nils => (match op with
      | .eql => Q (.d (.bool true)) ∧ Q (.d (.bool false))
      | .neq => Q (.d (.bool false)) ∧ Q (.d (.bool true))
      | _ => False)
    | _, _ => False)
  | some ⟨.pointer _, _, _, _⟩ => (match x, y with
    | .d .nilp, .d .nilp => eqB op true Q
    | .ptr _ _, .d .nilp => eqB op false Q
    | .eptr _ _ _ _, .d .nilp => eqB op false Q
    | .iptr _ _ _ _, .d .nilp => eqB op false Q
    | _, _ => False)
  | _ => False

def wbin (T : Tab) (t : Nat) (op : BinOp) (x y : A) (Q : A → Prop) : Prop :=
  match x, y with
  | .d (.int k a), .d (.int k' b) =>
    match op with
    | .shl => leP 0 b ∧ Q (.d (.int k (shlK k a b)))
    | .shr => leP 0 b ∧ Q (.d (.int k (shrK k a b)))
    | op => IntKind.same k k' = true ∧ binI op k a b Q
  | .d (.str a), .d (.str b) => binS op a b Q
  | .d (.bool a), .d (.bool b) => match T.ti t with
    | some ⟨.bool, _, _, _⟩ => binB op a b Q
    | _ => False
  | .agg xs, .agg ys => match op, T.eq t with
    | .eql, some e => e xs ys Q
    | .neq, some e => e xs ys (fun r => match r with | .d (.bool b) => (match b with | true => Q (.d (.bool false)) | false => Q (.d (.bool true))) | _ => False)
    | _, _ => False
  | x, y => wnilcmp T t op x y Q

/-- a run of n cells of data from (i, j) on -/
def cellsD (get : Nat → Nat → D) (i j : Nat) : Nat → List A
  | 0 => []
  | n + 1 => .d (get i j) :: cellsD get i (j + 1) n

def takeL {α : Type} : List α → Nat → List α
  | _, 0 => []
  | [], _ + 1 => []
  | a :: r, n + 1 => a :: takeL r n

def dropL {α : Type} : List α → Nat → List α
  | l, 0 => l
  | [], _ + 1 => []
  | _ :: r, n + 1 => dropL r n

def lenL {α : Type} : List α → Nat
  | [] => 0
  | _ :: r => lenL r + 1

/-- write cells over a list from a place on -/
def overL {α : Type} : List α → Nat → List α → List α
  | l, _, [] => l
  | [], _, _ :: _ => []
  | _ :: r, 0, b :: bs => b :: overL r 0 bs
  | a :: r, n + 1, b :: bs => a :: overL r n (b :: bs)

def wload (T : Tab) (t : Nat) (p : A) (hp : AHeap) (Q : A → Prop) : Prop :=
  match T.ti t with
  | none => False
  | some ti =>
    match p with
    | .ptr o off =>
      match getL hp o .dead with
      | .box cs => Nat.ble (off + ti.size) (lenL cs) = true ∧ Nat.ble 1 ti.size = true ∧ Q (if ti.kind.isAgg then .agg (takeL (dropL cs off) ti.size) else getL cs off .undef)
      | _ => False
    | .eptr o i j len =>
      match getL hp o .dead with
      | .arr n sz get _ => eqN n len ∧ Nat.ble (j + ti.size) sz = true ∧ Nat.ble 1 ti.size = true ∧ ltN i n ∧ Q (if ti.kind.isAgg then .agg (cellsD get i j ti.size) else .d (get i j))
      | _ => False
    | .iptr get i j sz => Nat.ble (j + ti.size) sz = true ∧ Nat.ble 1 ti.size = true ∧ Q (if ti.kind.isAgg then .agg (cellsD get i j ti.size) else .d (get i j))
    | _ => False

/-- what may be written into an array of data: data; an own slice is frozen first -/
def wdata (v : A) (hp : AHeap) (K : D → AHeap → Prop) : Prop :=
  match v with
  | .d x => K x hp
  | .nils => K (.sl 0 1 (fun _ _ => .nilp)) hp
  | .ref o off len sz =>
    match getL hp o .dead with
    | .arr n sz' get _ => Nat.beq sz sz' = true ∧ eqN (addO off len) n ∧ K (.sl len sz (offG off get)) (setL hp o (.arr n sz get n))
    | _ => False
  | _ => False

def wdatas : List A → AHeap → (List D → AHeap → Prop) → Prop
  | [], hp, K => K [] hp
  | v :: r, hp, K => wdata v hp (fun x hp' => wdatas r hp' (fun xs hp'' => K (x :: xs) hp''))

def updsG (get : Nat → Nat → D) (i j : Nat) : List D → (Nat → Nat → D)
  | [] => get
  | x :: xs => updsG (updG get i j x) i (j + 1) xs

def wstore (T : Tab) (t : Nat) (p v : A) (hp : AHeap) (K : AHeap → Prop) : Prop :=
  match T.ti t with
  | none => False
  | some ti =>
    Nat.beq (lenL v.cells) ti.size = true ∧ allLeaf v.cells = true ∧
    match p with
    | .ptr o off =>
      match getL hp o .dead with
      | .box cs => Nat.ble (off + ti.size) (lenL cs) = true ∧ K (setL hp o (.box (overL cs off v.cells)))
      | _ => False
    | .eptr o i j len => wdatas v.cells hp (fun xs hp' =>
      match getL hp' o .dead with
      | .arr n sz get fz => eqN n len ∧ Nat.ble (j + ti.size) sz = true ∧ leN fz i ∧ ltN i n ∧ K (setL hp' o (.arr n sz (updsG get i j xs) fz))
      | _ => False)
    | _ => False

def wlen (T : Tab) (t : Nat) (x : A) (Q : A → Prop) : Prop :=
  match T.ti t, x with
  | some ⟨.string, _, _, _⟩, .d (.str s) => Q (.d (.int .i64 (lenS s)))
  | some ⟨.slice _, _, _, _⟩, .d (.sl n _ _) => Q (.d (.int .i64 (nI n)))
  | some ⟨.slice _, _, _, _⟩, .nils => Q (.d (.int .i64 0))
  | some ⟨.slice _, _, _, _⟩, .ref _ _ len _ => Q (.d (.int .i64 (nI len)))
  | _, _ => False

def loG (lo : Option A) (get : Nat → Nat → D) (l : Int) : Nat → Nat → D :=
  match lo with
  | none => get
  | some _ => shG get (natOf l)

def wslice (T : Tab) (t : Nat) (x : A) (lo hi : Option A) (hp : AHeap) (Q : A → AHeap → Prop) : Prop :=
  let low : Option Int := match lo with | none => some 0 | some (.d (.int _ n)) => some n | _ => none
  match low with
  | none => False
  | some l =>
  match x with
  | .d (.str s) => match T.ti t with
    | some ⟨.string, _, _, _⟩ =>
      (match hi with
      | none => leP 0 l ∧ leP l (lenS s) ∧ Q (.d (.str (subS s l (lenS s)))) hp
      | some (.d (.int _ h)) => leP 0 l ∧ leP l h ∧ leP h (lenS s) ∧ Q (.d (.str (subS s l h))) hp
      | _ => False)
    | _ => False
  | .d (.sl n sz get) => match T.ti t with
    | some ⟨.slice e, _, _, _⟩ => (match T.ti e with | some te => Nat.beq te.size sz = true ∨ eqN n 0 | none => False) ∧
      (match hi with
      | none => leP 0 l ∧ leP l (nI n) ∧ Q (.d (.sl (subN n (natOf l)) sz (loG lo get l))) hp
      | some (.d (.int _ h)) => leP 0 l ∧ leP l h ∧ leP h (nI n) ∧ Q (.d (.sl (subN (natOf h) (natOf l)) sz (loG lo get l))) hp
      | _ => False)
    | _ => False
  | .ref o off len sz =>
    match getL hp o .dead with
    | .arr n sz' get _ => match T.ti t with
      | some ⟨.slice e, _, _, _⟩ => (match T.ti e with | some te => Nat.beq te.size sz = true | none => False) ∧ Nat.beq sz sz' = true ∧ eqN (addO off len) n ∧
        (match hi with
        | none => leP 0 l ∧ leP l (nI len) ∧ Q (.ref o (addO off (natOf l)) (subN len (natOf l)) sz) hp
        | some (.d (.int _ h)) => leP 0 l ∧ leP l h ∧ leP h (nI len) ∧ Q (.d (.sl (subN (natOf h) (natOf l)) sz (shG get (addO off (natOf l))))) (setL hp o (.arr n sz get n))
        | _ => False)
      | _ => False
    | _ => False
  | _ => False

def windexAddr (T : Tab) (t : Nat) (x i : A) (hp : AHeap) (Q : A → Prop) : Prop :=
  match T.ti t, i with
  | some ⟨.slice e, _, _, _⟩, .d (.int _ n) =>
    (match T.ti e with
    | some te =>
      (match x with
      | .d (.sl len sz get) => leP 0 n ∧ ltP n (nI len) ∧ Nat.beq te.size sz = true ∧ Q (.iptr get (natOf n) 0 sz)
      | .ref o off len sz =>
        (match getL hp o .dead with
        | .arr m sz' _ _ => leP 0 n ∧ ltP n (nI len) ∧ Nat.beq te.size sz = true ∧ Nat.beq sz sz' = true ∧ eqN (addO off len) m ∧ Q (.eptr o (addO off (natOf n)) 0 (addO off len))
        | _ => False)
      | _ => False)
    | none => False)
  | some ⟨.array len e, _, _, _⟩, .d (.int _ n) =>
    (match T.ti e with
    | some te =>
      (match n with
      | .ofNat m =>
        (match x with
        | .ptr o k => Nat.blt m len = true ∧ Q (.ptr o (k + m * te.size))
        | .eptr o i j l => Nat.blt m len = true ∧ Q (.eptr o i (j + m * te.size) l)
        | .iptr g i j sz => Nat.blt m len = true ∧ Q (.iptr g i (j + m * te.size) sz)
        | _ => False)
      | .negSucc _ => False)
    | none => False)
  | _, _ => False

def windex (T : Tab) (t : Nat) (x i : A) (Q : A → Prop) : Prop :=
  match x, i with
  | .d (.str s), .d (.int _ n) => (match T.ti t with
    | some ⟨.string, _, _, _⟩ => leP 0 n ∧ ltP n (lenS s) ∧ Q (.d (.int .u8 (bt s n)))
    | _ => False)
  | .agg cs, .d (.int _ n) =>
    match T.ti t with
    | some ⟨.array len e, _, _, _⟩ => leP 0 n ∧ ltP n (nI len) ∧
      (match T.ti e with
      | some te => ∃ i, n = nI i ∧ Nat.ble (i * te.size + te.size) (lenL cs) = true ∧ Nat.ble 1 te.size = true ∧ Q (if te.kind.isAgg then .agg (takeL (dropL cs (i * te.size)) te.size) else getL cs (i * te.size) .undef)
      | none => False)
    | _ => False
  | _, _ => False

def fieldOf (T : Tab) (t f : Nat) : Option (Nat × TI) :=
  match T.ti t with
  | some ⟨.struct fs, _, _, _⟩ =>
    match getL (fs.map some) f none with
    | some (off, ft) => match T.ti ft with
      | some ti => some (off, ti)
      | none => none
    | none => none
  | _ => none

def wfieldAddr (T : Tab) (t f : Nat) (x : A) (Q : A → Prop) : Prop :=
  match fieldOf T t f with
  | some (off, ti) => Nat.ble 1 ti.size = true ∧
    match x with
    | .ptr o k => Q (.ptr o (k + off))
    | .eptr o i j len => Q (.eptr o i (j + off) len)
    | .iptr get i j sz => Q (.iptr get i (j + off) sz)
    | _ => False
  | none => False

def wfield (T : Tab) (t f : Nat) (x : A) (Q : A → Prop) : Prop :=
  match fieldOf T t f, x with
  | some (off, ti), .agg cs => Nat.ble (off + ti.size) (lenL cs) = true ∧ Nat.ble 1 ti.size = true ∧ Q (if ti.kind.isAgg then .agg (takeL (dropL cs off) ti.size) else getL cs off .undef)
  | _, _ => False

/-- fill parts into zero cells -/
def fillA (place : Nat → Option (Nat × Nat)) (cells : List A) : List (Nat × A) → Option (List A)
  | [] => some cells
  | (i, v) :: rest =>
    match place i with
    | none => none
    | some (off, size) =>
      if allLeaf v.cells && Nat.beq (lenL v.cells) size && Nat.ble (off + size) (lenL cells) then fillA place (overL cells off v.cells) rest else none

def structPlace (T : Tab) (fs : List (Nat × Nat)) (i : Nat) : Option (Nat × Nat) :=
  match getL (fs.map some) i none with
  | some (off, ft) => match T.ti ft with
    | some ti => some (off, ti.size)
    | none => none
  | none => none

def allTI (T : Tab) : List (Nat × Nat) → Bool
  | [] => true
  | (_, t) :: r => (match T.ti t with | some _ => true | none => false) && allTI T r

def wbuild (T : Tab) (t : Nat) (parts : List (Nat × A)) (Q : A → Prop) : Prop :=
  match T.ti t with
  | some ⟨.struct fs, _, _, zero⟩ => allTI T fs = true ∧
    (match fillA (structPlace T fs) zero parts with
    | some cs => Q (.agg cs)
    | none => False)
  | some ⟨.array _ e, _, _, zero⟩ =>
    match T.ti e with
    | some te => match fillA (fun i => some (i * te.size, te.size)) zero parts with
      | some cs => Q (.agg cs)
      | none => False
    | none => False
  | _ => False

def repL {α : Type} (xs : List α) : Nat → List α
  | 0 => []
  | n + 1 => xs ++ repL xs n

def wbuildSlice (T : Tab) (t len : Nat) (parts : List (Nat × A)) (hp : AHeap) (Q : A → AHeap → Prop) : Prop :=
  match T.ti t with
  | some ⟨.slice e, _, _, _⟩ =>
    match T.ti e with
    | some te => Nat.ble (len * te.size) 16777216 = true ∧ Nat.ble 1 te.size = true ∧
      match fillA (fun i => some (i * te.size, te.size)) (repL te.zero len) parts with
      | some cs => wdatas cs hp (fun xs hp' => Q (.ref (lenL hp') 0 len te.size) (hp' ++ [.arr len te.size (rowG te.size xs) 0]))
      | none => False
    | none => False
  | _ => False

def wmake (T : Tab) (t : Nat) (n c : A) (hp : AHeap) (Q : A → AHeap → Prop) : Prop :=
  match T.ti t, n, c with
  | some ⟨.slice e, _, _, _⟩, .d (.int _ n), .d (.int _ c) =>
    match T.ti e with
    | some te => leP 0 n ∧ leP n c ∧ leP c 1073741824 ∧ Nat.ble te.bytes 65536 = true ∧ Nat.ble 1 te.size = true ∧
      wdatas te.zero hp (fun xs hp' => Q (.ref (lenL hp') 0 (natOf n) te.size) (hp' ++ [.arr (natOf n) te.size (fun _ j => getL xs j .nilp) 0]))
    | none => False
  | _, _, _ => False

/-- what is appended: as data, its length -/
def wsrc (x : A) (hp : AHeap) (K : Nat → (Nat → Nat → D) → Nat → AHeap → Prop) : Prop :=
  match x with
  | .nils => K 0 (fun _ _ => .nilp) 0 hp
  | .d (.sl n sz get) => K n get sz hp
  | .d (.str s) => K (natOf (lenS s)) (strG s) 1 hp
  | .ref o off len sz =>
    match getL hp o .dead with
    | .arr n sz' get _ => Nat.beq sz sz' = true ∧ eqN (addO off len) n ∧ K len (offG off get) sz hp
    | _ => False
  | _ => False

def noInt : Option TI → Bool
  | some ⟨.slice _, _, _, _⟩ => true
  | some ⟨.string, _, _, _⟩ => true
  | _ => false

def wappend (T : Tab) (t t2 : Nat) (x y : A) (hp : AHeap) (Q : A → AHeap → Prop) : Prop :=
  match T.ti t with
  | some ⟨.slice e, _, _, _⟩ =>
    match T.ti e with
    | some te => noInt (T.ti t2) = true ∧ Nat.ble 1 te.size = true ∧ Nat.ble te.bytes 65536 = true ∧
      wsrc y hp (fun m get' sz' hp => (Nat.beq sz' te.size = true ∨ eqN m 0) ∧
        match x with
        | .nils => leN m 1073741824 ∧ Q (.ref (lenL hp) 0 m te.size) (hp ++ [.arr m te.size get' 0])
        | .ref o off len sz =>
          match getL hp o .dead with
          | .arr n sz' get fz => Nat.beq sz te.size = true ∧ Nat.beq sz sz' = true ∧ Nat.beq off 0 = true ∧ eqN len n ∧ leN fz len ∧ leN (addN len m) 1073741824 ∧ Q (.ref o 0 (addN len m) sz) (setL hp o (.arr (addN len m) sz (appG len get get') fz))
          | _ => False
        | _ => False)
    | none => False
  | _ => False

def wmax (x y : A) (Q : A → Prop) : Prop :=
  match x, y with
  | .d (.int k a), .d (.int _ b) => Q (.d (.int k (maxI a b)))
  | _, _ => False

def wmin (x y : A) (Q : A → Prop) : Prop :=
  match x, y with
  | .d (.int k a), .d (.int _ b) => Q (.d (.int k (minI a b)))
  | _, _ => False

def wconv (T : Tab) (src dst : Nat) (x : A) (Q : A → Prop) : Prop :=
  match T.ti src, T.ti dst, x with
  | some ⟨.int _, _, _, _⟩, some ⟨.int k, _, _, _⟩, .d (.int _ n) => Q (.d (.int k (convK k n)))
  | some ⟨.string, _, _, _⟩, some ⟨.string, _, _, _⟩, .d (.str s) => Q (.d (.str s))
  | _, _, _ => False

def wun (op : UnOp) (x : A) (Q : A → Prop) : Prop :=
  match op, x with
  | .not, .d (.bool b) => Q (.d (.bool (!b)))
  | .neg, .d (.int k n) => Q (.d (.int k (subK k 0 n)))
  | _, _ => False

def wnil (x : A) (Q : A → Prop) : Prop :=
  match x with
  | .ptr o k => Q (.ptr o k)
  | .eptr o i j l => Q (.eptr o i j l)
  | .iptr g i j sz => Q (.iptr g i j sz)
  | .clo f a b => Q (.clo f a b)
  | _ => False

def wnext (x : A) (hp : AHeap) (Q : A → AHeap → Prop) : Prop :=
  match x with
  | .itr o =>
    match getL hp o .dead with
    | .iter s pos =>
      Imp (ltP (nI pos) (lenS s)) (Q (.tup [.d (.bool true), .d (.int .i64 (nI pos)), .d (.int .i32 (rune s pos))]) (setL hp o (.iter s (addN pos (width s pos))))) ∧
      Imp (leP (lenS s) (nI pos)) (Q (.tup [.d (.bool false)]) hp)
    | _ => False
  | _ => False

/-- A new variable: a strings.Builder is an object of its own kind. -/
def walloc (T : Tab) (e : Nat) (ti : TI) (hp : AHeap) (Q : A → AHeap → Prop) : Prop :=
  match ti.zero with
  | [.d .nilp, .nils] => (match Nat.beq e T.bld with
    | true => Q (.ptr (lenL hp) 0) (hp ++ [.bld ⟨⟨[]⟩⟩])
    | false => Q (.ptr (lenL hp) 0) (hp ++ [.box ti.zero]))
  | _ => Q (.ptr (lenL hp) 0) (hp ++ [.box ti.zero])

/-- does this slot hold a variable that nobody writes once it is made -/
def fzO (T : Tab) : Option Nat → Bool
  | some d => T.fz d
  | none => false

/-- an operation that calls no function of the program -/
def wprim (T : Tab) (o : Oper) (tm : List A) (hp : AHeap) (Q : A → AHeap → Prop) : Prop :=
  match o.op with
  | .move x | .assign x => Q (ev tm x) hp
  | .pick c a b => (match ev tm c with
    | .d (.bool t) => (match t with
      | true => Q (ev tm a) hp
      | false => Q (ev tm b) hp)
    | _ => False)
  | .alloc e => (match T.ti e with
    | some ti => walloc T e ti hp Q
    | none => False)
  | .box _ x => (match fzO T o.dst with
    | true => allLeaf (ev tm x).cells = true ∧ wdatas (ev tm x).cells hp (fun xs hp' => Q (.iptr (fun _ j => getL xs j .nilp) 0 0 (lenL xs)) hp')
    | false => allLeaf (ev tm x).cells = true ∧ Q (.ptr (lenL hp) 0) (hp ++ [.box (ev tm x).cells]))
  | .build t parts => wbuild T t (parts.toList.map fun (i, x) => (i, ev tm x)) (fun a => Q a hp)
  | .buildSlice t len parts => wbuildSlice T t len (parts.toList.map fun (i, x) => (i, ev tm x)) hp Q
  | .load t a => wload T t (ev tm a) hp (fun a => Q a hp)
  | .store t a x => wstore T t (ev tm a) (ev tm x) hp (fun hp' => Q .undef hp')
  | .nilCheck x => wnil (ev tm x) (fun a => Q a hp)
  | .binOp op t x y _ => wbin T t op (ev tm x) (ev tm y) (fun a => Q a hp)
  | .unOp op _ x => wun op (ev tm x) (fun a => Q a hp)
  | .convert src dst x => wconv T src dst (ev tm x) (fun a => Q a hp)
  | .makeFunc (.func f) first caps => Q (.clo f (first.toList.map (ev tm)) (caps.toList.map (ev tm))) hp
  | .makeSlice t l c => wmake T t (ev tm l) (ev tm c) hp Q
  | .slice t x lo hi none => wslice T t (ev tm x) (lo.map (ev tm)) (hi.map (ev tm)) hp Q
  | .fieldAddr t x f => wfieldAddr T t f (ev tm x) (fun a => Q a hp)
  | .field t x f => wfield T t f (ev tm x) (fun a => Q a hp)
  | .indexAddr t x i => windexAddr T t (ev tm x) (ev tm i) hp (fun a => Q a hp)
  | .index t x i => windex T t (ev tm x) (ev tm i) (fun a => Q a hp)
  | .range t x => (match ev tm x with
    | .d (.str s) => (match T.ti t with
      | some ⟨.string, _, _, _⟩ => Q (.itr (lenL hp)) (hp ++ [.iter s 0])
      | _ => False)
    | _ => False)
  | .next it true => wnext (ev tm it) hp Q
  | .extract t i => (match ev tm t with
    | .tup ps => Nat.blt i (lenL ps) = true ∧ Q (getL ps i .undef) hp
    | _ => False)
  | .call c => (match c.callee with
    | .builtin .len => (match c.args, c.argTypes with
      | ⟨[x]⟩, ⟨[t]⟩ => wlen T t (ev tm x) (fun a => Q a hp)
      | _, _ => False)
    | .builtin .max => (match c.args with
      | ⟨[x, y]⟩ => wmax (ev tm x) (ev tm y) (fun a => Q a hp)
      | _ => False)
    | .builtin .min => (match c.args with
      | ⟨[x, y]⟩ => wmin (ev tm x) (ev tm y) (fun a => Q a hp)
      | _ => False)
    | .builtin .append => (match c.args, c.argTypes with
      | ⟨[x, y]⟩, ⟨[t, t2]⟩ => wappend T t t2 (ev tm x) (ev tm y) hp Q
      | _, _ => False)
    | _ => False)
  | _ => False

end Go.VM

/- What the abstract values stand for, and that it stays so where the world goes on. -/
set_option linter.unusedSectionVars false
namespace Go.VM

/-- the ground: the blocks that may not be touched -/
abbrev Gd := Nat → Prop

/-- nothing of the ground was touched -/
structure Below (B : Gd) (w w' : World) : Prop where
  os : w'.os = w.os
  tape : w'.tape = w.tape
  output : w'.output = w.output
  size : w.heap.size ≤ w'.heap.size
  block : ∀ k, k < w.heap.size → B k → w'.heap[k]? = w.heap[k]?

theorem Below.refl (B : Gd) (w : World) : Below B w w := ⟨rfl, rfl, rfl, Nat.le_refl _, fun _ _ _ => rfl⟩

theorem Below.trans {B : Gd} {a b c : World} (h : Below B a b) (k : Below B b c) : Below B a c :=
  ⟨k.os.trans h.os, k.tape.trans h.tape, k.output.trans h.output, Nat.le_trans h.size k.size, fun i hi hb => (k.block i (Nat.lt_of_lt_of_le hi h.size) hb).trans (h.block i hi hb)⟩

theorem Below.drew {B : Gd} {a w : World} (h : Below B a w) : Below B a w.drew := ⟨h.os, h.tape, h.output, h.size, h.block⟩

theorem Below.alloc {B : Gd} {a w : World} (h : Below B a w) (o : Obj) : Below B a (w.alloc o) :=
  ⟨h.os, h.tape, h.output, Nat.le_trans h.size (by simp), fun k hk hb => (Go.RowKit.Below.heap_alloc w o k (Nat.lt_of_lt_of_le hk h.size)).trans (h.block k hk hb)⟩

theorem Below.setCell {B : Gd} {a w : World} (h : Below B a w) {p : Addr} (hp : ¬ B p.block) (u : Value) : Below B a (w.setCell p u) :=
  ⟨h.os, h.tape, h.output, Nat.le_trans h.size (by simp [World.setCell]), fun k hk hb => (Go.RowKit.Below.heap_setCell w p u k (fun e => hp (e ▸ hb))).trans (h.block k hk hb)⟩

/-- The same data, seen up to its length. -/
inductive Deq : D → D → Prop
  | refl (x : D) : Deq x x
  | nil (sz sz' : Nat) (g g' : Nat → Nat → D) : Deq (.sl 0 sz g) (.sl 0 sz' g')
  | sl (len sz : Nat) (g g' : Nat → Nat → D) (h : ∀ i j, i < len → j < sz → Deq (g i j) (g' i j)) : Deq (.sl len sz g) (.sl len sz g')

inductive RepD (w : World) (I : Nat → Nat → Prop) : Value → D → Prop
  | int (k : IntKind) (n : Int) : RepD w I (.int k n) (.int k n)
  | bool (b : Bool) : RepD w I (.bool b) (.bool b)
  | str (s : ByteArray) : RepD w I (.string s) (.str s)
  | nilp : RepD w I (.pointer none) .nilp
  | nilf : RepD w I .nilFunc .nilf
  | nili : RepD w I .nilIface .nili
  | sl0 (a : Option Addr) (cap sz : Nat) (get : Nat → Nat → D) : RepD w I (.slice a 0 cap) (.sl 0 sz get)
  | sl (b o len cap sz : Nat) (get : Nat → Nat → D) (vals : Nat → Nat → Value) (hl : len ≤ cap)
      (hc : ∀ i j, i < len → j < sz → I b (o + (i * sz + j)) ∧ w.cell? ⟨b, o + (i * sz + j), none⟩ = some (vals i j))
      (hr : ∀ i j, i < len → j < sz → RepD w I (vals i j) (get i j)) : RepD w I (.slice (some ⟨b, o, none⟩) len cap) (.sl len sz get)

def RefOk (w : World) (ι : Nat → Option Nat) (o off len sz : Nat) (v : Value) : Prop :=
  (∃ b cap vs el fr, ι o = some b ∧ v = .slice (some ⟨b, off * sz, none⟩) len cap ∧ w.heap[b]? = some (.cells vs el fr) ∧ (off + cap) * sz ≤ vs.size ∧ len ≤ cap) ∨
  (ι o = none ∧ v = .slice none 0 0 ∧ len = 0) ∨ (∃ a, v = .slice a 0 0 ∧ len = 0 ∧ off ≠ 0)

/-- objects that pointers point into -/
def AObj.isBox : AObj → Prop
  | .box _ => True
  | .bld _ => True
  | _ => False

inductive RepA (w : World) (I : Nat → Nat → Prop) (ι : Nat → Option Nat) (H : AHeap) : Value → A → Prop
  | d (v : Value) (x : D) (h : RepD w I v x) : RepA w I ι H v (.d x)
  | nils : RepA w I ι H (.slice none 0 0) .nils
  | ref (v : Value) (o off len sz : Nat) (ho : o < H.length)
      (h : ∀ n sz' get fz, H[o]? = some (.arr n sz' get fz) → sz' = sz → off + len ≤ n ∧ (off + len = n → RefOk w ι o off len sz v)) (hlen : ∃ a c, v = .slice a len c) : RepA w I ι H v (.ref o off len sz)
  | ptr (v : Value) (o off : Nat) (ho : o < H.length) (h : ∀ x, H[o]? = some x → x.isBox → ∃ b, ι o = some b ∧ v = .pointer (some ⟨b, off, none⟩)) (hv : ∃ a, v = .pointer (some a)) : RepA w I ι H v (.ptr o off)
  | eptr (v : Value) (o i j len : Nat) (ho : o < H.length)
      (h : ∀ n sz get fz, H[o]? = some (.arr n sz get fz) → len ≤ n ∧ (n = len → i < n → ∃ b, ι o = some b ∧ v = .pointer (some ⟨b, i * sz + j, none⟩))) (hv : ∃ a, v = .pointer (some a)) : RepA w I ι H v (.eptr o i j len)
  | iptr (b o : Nat) (get : Nat → Nat → D) (i j sz : Nat) (vals : Nat → Value)
      (hc : ∀ q, q < sz → I b (o + q) ∧ w.cell? ⟨b, o + q, none⟩ = some (vals q))
      (hr : ∀ q, q < sz → RepD w I (vals q) (get i q)) : RepA w I ι H (.pointer (some ⟨b, o + j, none⟩)) (.iptr get i j sz)
  | itr (v : Value) (o : Nat) (ho : o < H.length) (h : ∀ s p, H[o]? = some (.iter s p) → ∃ b, ι o = some b ∧ v = .pointer (some ⟨b, 0, none⟩)) (hv : ∃ a, v = .pointer (some a)) : RepA w I ι H v (.itr o)
  | clo (f : FuncId) (fv cv : List Value) (first caps : List A) (h1 : fv.length = first.length) (h2 : cv.length = caps.length)
      (hf : ∀ k, k < first.length → RepA w I ι H (fv.getD k undef) (first.getD k .undef))
      (hc : ∀ k, k < caps.length → RepA w I ι H (cv.getD k undef) (caps.getD k .undef)) : RepA w I ι H (.func (.func f) fv.toArray cv.toArray) (.clo f first caps)
  | agg (vs : List Value) (cs : List A) (h1 : vs.length = cs.length) (hc : ∀ k, k < cs.length → RepA w I ι H (vs.getD k undef) (cs.getD k .undef)) : RepA w I ι H (.agg vs.toArray) (.agg cs)
  | tup (vs : List Value) (cs : List A) (h1 : vs.length = cs.length) (hc : ∀ k, k < cs.length → RepA w I ι H (vs.getD k undef) (cs.getD k .undef)) : RepA w I ι H (.tuple vs.toArray) (.tup cs)
  | undef (v : Value) : RepA w I ι H v .undef

/-- a block that may be written from cell n on -/
def Free (w : World) (I : Nat → Nat → Prop) (b n : Nat) : Prop := (∀ k, n ≤ k → ¬ I b k) ∧ (∀ k, n ≤ k → w.frozen? ⟨b, k, none⟩ = false)

/-- what stands in the program's own variables, as long as the proof lasts: block, cell, value; and the numbers of the types strings.Builder and uint8 -/
class Glb where
  G : Nat → Nat → Option Value → Prop
  bt : Nat
  u8 : Nat
variable [Glb]

/-- the slice of bytes that a builder holds: none yet, or a row of its own -/
def BufOk (B : Gd) (I : Nat → Nat → Prop) (w : World) (b : Nat) (c : ByteArray) (v : Value) : Prop :=
  (v = .slice none 0 0 ∧ c.size = 0) ∨ ∃ g cap cur fz, v = .slice (some ⟨g, 0, none⟩) c.size cap ∧ g ≠ b ∧ ¬ B g ∧ (∀ k, ¬ I g k) ∧ c.size ≠ 0 ∧ w.heap[g]? = some (.cells cur Glb.u8 fz) ∧ fz.2 ≤ c.size ∧
    c.size ≤ cap ∧ cap ≤ cur.size ∧ c.size ≤ 140737488355328 ∧ ∀ (k : Nat) (x : UInt8), c.data.toList[k]? = some x → cur[k]? = some (Value.int .u8 x.toNat)

def ObjOk (B : Gd) (ι : Nat → Option Nat) (I : Nat → Nat → Prop) (w : World) (H : AHeap) (o : Nat) : AObj → Prop
  | .dead => True
  | .bld c => ∃ b p v, ι o = some b ∧ ¬ B b ∧ w.heap[b]? = some (.cells #[p, v] Glb.bt (0, 0)) ∧ (p = .pointer none ∨ p = .pointer (some ⟨b, 0, none⟩)) ∧ (∀ k, ¬ I b k) ∧ BufOk B I w b c v
  | .iter s p => ∃ b, ι o = some b ∧ ¬ B b ∧ w.heap[b]? = some (.stringIter s p)
  | .box cs => ∃ b vs el fr, ι o = some b ∧ ¬ B b ∧ w.heap[b]? = some (.cells vs el fr) ∧ vs.size = cs.length ∧ (∀ k, k < cs.length → RepA w I ι H (vs.getD k undef) (cs.getD k .undef)) ∧ Free w I b 0
  | .arr n sz get fz => fz ≤ n ∧ ((∃ b vs el fr, ι o = some b ∧ ¬ B b ∧ w.heap[b]? = some (.cells vs el fr) ∧ n * sz ≤ vs.size ∧ (∀ i j, i < n → j < sz → RepD w I (vs.getD (i * sz + j) undef) (get i j)) ∧ Free w I b (fz * sz)) ∨ (ι o = none ∧ n = 0))

def AObj.live : AObj → Prop
  | .dead => False
  | _ => True

/-- where, below a proof's ground, cells may never change -/
class Lim where
  L : Nat → Nat → Prop
variable [Lim]

/-- the blocks of an object: a builder has two -/
def Own (w : World) (ι : Nat → Option Nat) (o : Nat) : AObj → Nat → Prop
  | .bld _, b => ι o = some b ∨ ∃ b0 n c, ι o = some b0 ∧ w.cell? ⟨b0, 1, none⟩ = some (.slice (some ⟨b, 0, none⟩) n c)
  | .box _, b => ι o = some b
  | .arr _ _ _ _, b => ι o = some b
  | .iter _ _, b => ι o = some b
  | .dead, b => ι o = some b

structure Rel (B : Gd) (ι : Nat → Option Nat) (I : Nat → Nat → Prop) (w : World) (H : AHeap) : Prop where
  base : ∀ k, B k → k < w.heap.size
  imm : ∀ b k, I b k → b < w.heap.size
  low : ∀ b k, B b → I b k → Lim.L b k
  glob : ∀ b k v, Glb.G b k v → I b k ∧ w.cell? ⟨b, k, none⟩ = v
  obj : ∀ o x, H[o]? = some x → ObjOk B ι I w H o x
  inj : ∀ o o' x x' b, H[o]? = some x → H[o']? = some x' → x.live → x'.live → Own w ι o x b → Own w ι o' x' b → o = o'

theorem Rel.fresh {B : Gd} {ι : Nat → Option Nat} {I : Nat → Nat → Prop} {w : World} {H : AHeap} (r : Rel B ι I w H) : ¬ B w.heap.size := fun h => Nat.lt_irrefl _ (r.base _ h)

/-- nothing that may not change has changed -/
def Same (I : Nat → Nat → Prop) (w w' : World) : Prop := ∀ b k, I b k → w'.cell? ⟨b, k, none⟩ = w.cell? ⟨b, k, none⟩

theorem RepD.mono {w w' : World} {I I' : Nat → Nat → Prop} {v : Value} {x : D} (h : RepD w I v x) (hs : Same I w w') (hi : ∀ b k, I b k → I' b k) : RepD w' I' v x := by
  induction h with
  | int k n => exact .int k n
  | bool b => exact .bool b
  | str s => exact .str s
  | nilp => exact .nilp
  | nilf => exact .nilf
  | nili => exact .nili
  | sl0 a cap sz get => exact .sl0 a cap sz get
  | sl b o len cap sz get vals hl hc hr ih =>
    exact .sl b o len cap sz get vals hl (fun i j h1 h2 => ⟨hi _ _ (hc i j h1 h2).1, (hs _ _ (hc i j h1 h2).1).trans (hc i j h1 h2).2⟩) ih

theorem RepD.deq {w : World} {I : Nat → Nat → Prop} {x y : D} (e : Deq x y) : ∀ {v : Value}, RepD w I v x → RepD w I v y := by
  induction e with
  | refl x => exact fun h => h
  | nil sz sz' g g' =>
    intro v h
    cases h with
    | sl0 a cap => exact .sl0 a cap _ _
    | sl b o len cap sz get vals hl hc hr => exact .sl0 _ _ _ _
  | sl len sz g g' _ ih =>
    intro v h
    cases h with
    | sl0 a cap => exact .sl0 a cap _ _
    | sl b o len cap sz get vals hl hc hr => exact .sl b o len cap sz _ vals hl hc (fun i j h1 h2 => ih i j h1 h2 (hr i j h1 h2))

theorem RepD.oneCell {w : World} {I : Nat → Nat → Prop} {v : Value} {x : D} (h : RepD w I v x) : v.oneCell' = true := by cases h <;> rfl

theorem RepD.cells {w : World} {I : Nat → Nat → Prop} {v : Value} {x : D} (h : RepD w I v x) : v.cells = #[v] := by cases h <;> rfl

/-- how one state goes on into another: for a general reading -/
structure Goes (w w' : World) (I I' : Nat → Nat → Prop) (ι ι' : Nat → Option Nat) (H H' : AHeap) : Prop where
  same : Same I w w'
  imm : ∀ b k, I b k → I' b k
  len : H.length ≤ H'.length
  ref : ∀ o off len sz v, o < H.length → (∀ n sz' get fz, H[o]? = some (.arr n sz' get fz) → sz' = sz → off + len ≤ n ∧ (off + len = n → RefOk w ι o off len sz v)) →
    (∀ n sz' get fz, H'[o]? = some (.arr n sz' get fz) → sz' = sz → off + len ≤ n ∧ (off + len = n → RefOk w' ι' o off len sz v))
  ptr : ∀ o x, o < H.length → H'[o]? = some x → x.isBox → (∃ x', H[o]? = some x' ∧ x'.isBox) ∧ ι' o = ι o
  eptr : ∀ o n sz get fz, o < H.length → H'[o]? = some (.arr n sz get fz) → ∃ n' get' fz', H[o]? = some (.arr n' sz get' fz') ∧ n' ≤ n ∧ (n = n' → ι' o = ι o)
  itr : ∀ o s p, o < H.length → H'[o]? = some (.iter s p) → (∃ s' p', H[o]? = some (.iter s' p')) ∧ ι' o = ι o

theorem Goes.glob {w w' : World} {I I' : Nat → Nat → Prop} {ι ι' : Nat → Option Nat} {H H' : AHeap} (g : Goes w w' I I' ι ι' H H') {G : Nat → Nat → Option Value → Prop} (h : ∀ b k v, G b k v → I b k ∧ w.cell? ⟨b, k, none⟩ = v) : ∀ b k v, G b k v → I' b k ∧ w'.cell? ⟨b, k, none⟩ = v :=
  fun b k v hg => ⟨g.imm _ _ (h b k v hg).1, (g.same _ _ (h b k v hg).1).trans (h b k v hg).2⟩

theorem RepA.goes {w w' : World} {I I' : Nat → Nat → Prop} {ι ι' : Nat → Option Nat} {H H' : AHeap} (g : Goes w w' I I' ι ι' H H') {v : Value} {x : A} (h : RepA w I ι H v x) : RepA w' I' ι' H' v x := by
  induction h with
  | d v x h => exact .d v x (h.mono g.same g.imm)
  | nils => exact .nils
  | ref v o off len sz ho h hl => exact .ref v o off len sz (Nat.lt_of_lt_of_le ho g.len) (g.ref o off len sz v ho h) hl
  | ptr v o off ho h hv =>
    refine .ptr v o off (Nat.lt_of_lt_of_le ho g.len) (fun x hx hb => ?_) hv
    obtain ⟨⟨x', h', hb'⟩, e⟩ := g.ptr o x ho hx hb
    rw [e]; exact h x' h' hb'
  | eptr v o i j len ho h hv =>
    refine .eptr v o i j len (Nat.lt_of_lt_of_le ho g.len) (fun n sz get fz hx => ?_) hv
    obtain ⟨n', get', fz', h', hn, hi⟩ := g.eptr o n sz get fz ho hx
    obtain ⟨h1, h2⟩ := h n' sz get' fz' h'
    refine ⟨Nat.le_trans h1 hn, fun e hlt => ?_⟩
    have e' : n' = len := by omega
    rw [hi (by omega)]; exact h2 e' (by omega)
  | iptr b o get i j sz vals hc hr =>
    exact .iptr b o get i j sz vals (fun q hq => ⟨g.imm _ _ (hc q hq).1, (g.same _ _ (hc q hq).1).trans (hc q hq).2⟩) (fun q hq => (hr q hq).mono g.same g.imm)
  | itr v o ho h hv =>
    refine .itr v o (Nat.lt_of_lt_of_le ho g.len) (fun s p hx => ?_) hv
    obtain ⟨⟨s', p', h'⟩, e⟩ := g.itr o s p ho hx
    rw [e]; exact h s' p' h'
  | clo f fv cv first caps h1 h2 _ _ ih1 ih2 => exact .clo f fv cv first caps h1 h2 ih1 ih2
  | agg vs cs h1 _ ih => exact .agg vs cs h1 ih
  | tup vs cs h1 _ ih => exact .tup vs cs h1 ih
  | undef v => exact .undef v

end Go.VM

/- What one operation does to the world, against what it does to the abstract state: the general part. -/
set_option linter.unusedSectionVars false
namespace Go.VM
open Ops
variable [Ops] [Glb] [Lim]

theorem getL_eq {α : Type} (l : List α) (n : Nat) (d : α) : getL l n d = l.getD n d := by
  induction l generalizing n with
  | nil => cases n <;> rfl
  | cons a r ih => cases n with
    | zero => rfl
    | succ n => simpa [getL] using ih n

theorem setL_eq {α : Type} (l : List α) (n : Nat) (v : α) : setL l n v = l.set n v := by
  induction l generalizing n with
  | nil => cases n <;> rfl
  | cons a r ih => cases n with
    | zero => rfl
    | succ n => simp [setL, ih]

theorem lenL_eq {α : Type} (l : List α) : lenL l = l.length := by
  induction l with
  | nil => rfl
  | cons a r ih => simp [lenL, ih]

theorem takeL_eq {α : Type} (l : List α) (n : Nat) : takeL l n = l.take n := by
  induction l generalizing n with
  | nil => cases n <;> rfl
  | cons a r ih => cases n with
    | zero => rfl
    | succ n => simp [takeL, ih]

theorem dropL_eq {α : Type} (l : List α) (n : Nat) : dropL l n = l.drop n := by
  induction l generalizing n with
  | nil => cases n <;> rfl
  | cons a r ih => cases n with
    | zero => rfl
    | succ n => simp [dropL, ih]

theorem overL_length {α : Type} (l : List α) (n : Nat) (bs : List α) : (overL l n bs).length = l.length := by
  induction l generalizing n bs with
  | nil => cases n <;> cases bs <;> simp [overL]
  | cons a r ih => cases n <;> cases bs <;> simp [overL, ih]

theorem overL_getD {α : Type} (l : List α) (n : Nat) (bs : List α) (d : α) (k : Nat) (h : n + bs.length ≤ l.length) :
    (overL l n bs).getD k d = if n ≤ k ∧ k < n + bs.length then bs.getD (k - n) d else l.getD k d := by
  induction l generalizing n bs k with
  | nil =>
    have : bs = [] := by cases bs <;> simp at h ⊢
    subst this
    cases n <;> simp [overL]
  | cons a r ih =>
    cases bs with
    | nil =>
      have : overL (a :: r) n ([] : List α) = a :: r := by cases n <;> rfl
      rw [this, if_neg (by simp)]
    | cons b bs =>
      cases n with
      | zero =>
        cases k with
        | zero => simp [overL]
        | succ k =>
          have := ih 0 bs k (by simp at h ⊢; omega)
          simp only [overL, List.getD_cons_succ, this, Nat.zero_le, true_and, List.length_cons, Nat.zero_add, Nat.sub_zero]
          by_cases hk : k < bs.length
          · rw [if_pos hk, if_pos (by omega)]
          · rw [if_neg hk, if_neg (by omega)]
      | succ n =>
        cases k with
        | zero => simp [overL]
        | succ k =>
          have := ih n (b :: bs) k (by simp at h ⊢; omega)
          simp only [overL, List.getD_cons_succ, this]
          by_cases hk : n ≤ k ∧ k < n + (b :: bs).length
          · rw [if_pos hk, if_pos (by omega), show k + 1 - (n + 1) = k - n by omega]
          · rw [if_neg hk, if_neg (by omega)]

theorem addO_eq (a b : Nat) : addO a b = a + b := by cases a <;> simp [addO, addN_eq]
theorem offG_eq (k : Nat) (g : Nat → Nat → D) (i j : Nat) : offG k g i j = g (k + i) j := by cases k <;> simp [offG, shG_eq]

/-! ### The types -/
def kindOf : TypeDesc → TK
  | .int k => .int k
  | .bool => .bool
  | .string => .string
  | .slice e => .slice e
  | .struct fs => .struct (fs.toList.map fun f => (f.offset, f.type))
  | .array n e => .array n e
  | .pointer e => .pointer e
  | .func .. => .func
  | _ => .other

structure TIOk (P : Program) (t : Nat) (i : TI) : Prop where
  und : ∃ d, P.underlying t = some d ∧ kindOf d = i.kind
  info : ∃ inf z, P.info? t = some inf ∧ inf.size = i.size ∧ inf.bytes = i.bytes ∧ inf.zero = some z ∧ z.cells.toList.map absLeaf = i.zero ∧ z.cells.size = i.size

def EqOk (P : Program) (t : Nat) (e : List A → List A → (A → Prop) → Prop) : Prop :=
  ∀ xs ys Q, e xs ys Q → ∃ b, Q (.d (.bool b)) ∧ ∀ w I ι H vx vy, RepA w I ι H (.agg vx) (.agg xs) → RepA w I ι H (.agg vy) (.agg ys) →
    (∀ op x y, (eqGuard op t x y (.agg vx) (.agg vy)).run P w = .ok () w) ∧ (Op.equal t (.agg vx) (.agg vy)).run P w = .ok b w

structure TabOk (P : Program) (T : Tab) : Prop where
  ti : ∀ t i, T.ti t = some i → TIOk P t i
  eq : ∀ t e, T.eq t = some e → EqOk P t e
  fn : ∀ f, T.fn f = true → ∃ fn, P.funcs[f]? = some fn ∧ fn.body.isNone = false ∧ (fn.name == "runtime.NumGoroutine") = false
  mixed : P.follows .mixedOrders = true
  bld : T.bld = Glb.bt
  mono : ∀ t e xs ys Q Q', T.eq t = some e → (∀ a, Q a → Q' a) → e xs ys Q → e xs ys Q'

section run
variable {P : Program} {t : Nat} {i : TI}
theorem TIOk.sizeOf (h : TIOk P t i) (w : World) : (sizeOf t).run P w = .ok i.size w := by
  obtain ⟨inf, z, h1, h2, -⟩ := h.info
  simp [Go.sizeOf, typeInfo, h1, h2]
theorem TIOk.typeInfo (h : TIOk P t i) (w : World) : ∃ inf, (typeInfo t).run P w = .ok inf w ∧ inf.size = i.size ∧ inf.bytes = i.bytes := by
  obtain ⟨inf, z, h1, h2, h3, -⟩ := h.info
  exact ⟨inf, by simp [Go.typeInfo, h1], h2, h3⟩
theorem TIOk.zeroValue (h : TIOk P t i) (w : World) : ∃ z, (zeroValue t).run P w = .ok z w ∧ z.cells.toList.map absLeaf = i.zero ∧ z.cells.size = i.size := by
  obtain ⟨inf, z, h1, h2, h3, h4, h5⟩ := h.info
  exact ⟨z, by simp [Go.zeroValue, Go.typeInfo, h1, h4], h5⟩
theorem TIOk.underlying (h : TIOk P t i) : ∃ d, kindOf d = i.kind ∧ ∀ w, (underlying t).run P w = .ok d w := by
  obtain ⟨d, h1, h2⟩ := h.und
  exact ⟨d, h2, fun w => run_underlying h1 w⟩
theorem kindOf_slice {d : TypeDesc} {e : Nat} (h : kindOf d = .slice e) : d = .slice e := by cases d <;> simp_all [kindOf]
theorem kindOf_pointer {d : TypeDesc} {e : Nat} (h : kindOf d = .pointer e) : d = .pointer e := by cases d <;> simp_all [kindOf]
theorem kindOf_array {d : TypeDesc} {n e : Nat} (h : kindOf d = .array n e) : d = .array n e := by cases d <;> simp_all [kindOf]
theorem kindOf_int {d : TypeDesc} {k : IntKind} (h : kindOf d = .int k) : d = .int k := by cases d <;> simp_all [kindOf]
theorem kindOf_string {d : TypeDesc} (h : kindOf d = .string) : d = .string := by cases d <;> simp_all [kindOf]
theorem kindOf_bool {d : TypeDesc} (h : kindOf d = .bool) : d = .bool := by cases d <;> simp_all [kindOf]
theorem kindOf_struct {d : TypeDesc} {fs : List (Nat × Nat)} (h : kindOf d = .struct fs) : ∃ f, d = .struct f ∧ f.toList.map (fun f => (f.offset, f.type)) = fs := by
  cases d <;> simp_all [kindOf]
theorem TIOk.isAgg (h : TIOk P t i) (w : World) : (isAgg t).run P w = .ok i.kind.isAgg w := by
  obtain ⟨d, h1, h2⟩ := h.underlying
  unfold Go.isAgg
  rw [Sem.run_bind, h2 w, ← h1]
  cases d <;> rfl
end run

/-! ### Constants -/
theorem absLeaf_rep (w : World) (I : Nat → Nat → Prop) (ι : Nat → Option Nat) (H : AHeap) (v : Value) : RepA w I ι H v (absLeaf v) := by
  unfold absLeaf
  split
  · exact .d _ _ (.int _ _)
  · exact .d _ _ (.bool _)
  · exact .d _ _ (.str _)
  · exact .nils
  · exact .d _ _ .nilp
  · exact .d _ _ .nilf
  · exact .d _ _ .nili
  · exact .undef _

theorem absV_rep (w : World) (I : Nat → Nat → Prop) (ι : Nat → Option Nat) (H : AHeap) (v : Value) : RepA w I ι H v (absV v) := by
  unfold absV
  split
  · rename_i cs
    have := RepA.agg (w := w) (I := I) (ι := ι) (H := H) cs.toList (cs.toList.map absLeaf) (by simp) (fun k hk => by
      have hk' : k < cs.toList.length := by simpa using hk
      simp only [List.getD_eq_getElem?_getD, List.getElem?_map, List.getElem?_eq_getElem hk', Option.map_some, Option.getD_some]
      exact absLeaf_rep _ _ _ _ _)
    simpa using this
  · exact absLeaf_rep _ _ _ _ _

/-- the state's slots stand for the frame's -/
def RepT (w : World) (I : Nat → Nat → Prop) (ι : Nat → Option Nat) (H : AHeap) (a : Act) (tm : List A) : Prop :=
  a.tmps.size = tm.length ∧ ∀ t, t < tm.length → RepA w I ι H (a.tmps.getD t undef) (tm.getD t .undef)

theorem ev_rep {w : World} {I : Nat → Nat → Prop} {ι : Nat → Option Nat} {H : AHeap} {a : Act} {tm : List A} (h : RepT w I ι H a tm) (x : Operand) : RepA w I ι H (a.eval x) (ev tm x) := by
  cases x with
  | tmp t =>
    simp only [ev, Act.eval, getL_eq]
    by_cases ht : t < tm.length
    · exact h.2 t ht
    · simp only [List.getD_eq_getElem?_getD, List.getElem?_eq_none (Nat.le_of_not_lt ht), Option.getD_none]
      exact .undef _
  | const v => exact absV_rep _ _ _ _ _
  | global g => exact .undef _
  | func f =>
    have := RepA.clo (w := w) (I := I) (ι := ι) (H := H) f [] [] [] [] rfl rfl (fun k hk => absurd hk (by simp)) (fun k hk => absurd hk (by simp))
    simpa [ev, Act.eval] using this

theorem RepT.goes {w w' : World} {I I' : Nat → Nat → Prop} {ι ι' : Nat → Option Nat} {H H' : AHeap} {a : Act} {tm : List A} (h : RepT w I ι H a tm) (g : Goes w w' I I' ι ι' H H') : RepT w' I' ι' H' a tm :=
  ⟨h.1, fun t ht => (h.2 t ht).goes g⟩

theorem RepT.put {w : World} {I : Nat → Nat → Prop} {ι : Nat → Option Nat} {H : AHeap} {a : Act} {tm : List A} (h : RepT w I ι H a tm) (d : Option Nat) {v : Value} {x : A} (hv : RepA w I ι H v x) : RepT w I ι H (a.put d v) (put tm d x) := by
  cases d with
  | none => exact h
  | some d =>
    refine ⟨by simp [Act.put, Go.VM.put, setL_eq, h.1], fun t ht => ?_⟩
    simp only [Act.put, Go.VM.put, setL_eq, List.length_set] at ht ⊢
    have h1 := h.1
    by_cases e : d = t
    · subst e
      simp only [Array.getD_eq_getD_getElem?, Array.getElem?_setIfInBounds, List.getD_eq_getElem?_getD, List.getElem?_set]
      simp [ht, h1, hv]
    · have := h.2 t ht
      simp only [Array.getD_eq_getD_getElem?, Array.getElem?_setIfInBounds, List.getD_eq_getElem?_getD, List.getElem?_set, e, if_false] at this ⊢
      exact this

/-! ### How states go on -/
theorem Goes.refl (w : World) (I : Nat → Nat → Prop) (ι : Nat → Option Nat) (H : AHeap) : Goes w w I I ι ι H H :=
  ⟨fun _ _ _ => rfl, fun _ _ h => h, Nat.le_refl _, fun _ _ _ _ _ _ h => h, fun _ cs _ h hb => ⟨⟨cs, h, hb⟩, rfl⟩,
    fun _ n _ get fz _ h => ⟨n, get, fz, h, Nat.le_refl _, fun _ => rfl⟩, fun _ s p _ h => ⟨⟨s, p, h⟩, rfl⟩⟩

theorem Goes.trans {w w1 w2 : World} {I I1 I2 : Nat → Nat → Prop} {ι ι1 ι2 : Nat → Option Nat} {H H1 H2 : AHeap} (g : Goes w w1 I I1 ι ι1 H H1) (k : Goes w1 w2 I1 I2 ι1 ι2 H1 H2) : Goes w w2 I I2 ι ι2 H H2 where
  same := fun b q h => (k.same b q (g.imm b q h)).trans (g.same b q h)
  imm := fun b q h => k.imm b q (g.imm b q h)
  len := Nat.le_trans g.len k.len
  ref := fun o off len sz v ho h => k.ref o off len sz v (Nat.lt_of_lt_of_le ho g.len) (g.ref o off len sz v ho h)
  ptr := fun o cs ho h hb => by
    obtain ⟨⟨cs1, h1, hb1⟩, e1⟩ := k.ptr o cs (Nat.lt_of_lt_of_le ho g.len) h hb
    obtain ⟨h2, e2⟩ := g.ptr o cs1 ho h1 hb1
    exact ⟨h2, e1.trans e2⟩
  eptr := fun o n sz get fz ho h => by
    obtain ⟨n1, get1, fz1, h1, l1, e1⟩ := k.eptr o n sz get fz (Nat.lt_of_lt_of_le ho g.len) h
    obtain ⟨n2, get2, fz2, h2, l2, e2⟩ := g.eptr o n1 sz get1 fz1 ho h1
    exact ⟨n2, get2, fz2, h2, Nat.le_trans l2 l1, fun e => (e1 (by omega)).trans (e2 (by omega))⟩
  itr := fun o s p ho h => by
    obtain ⟨⟨s1, p1, h1⟩, e1⟩ := k.itr o s p (Nat.lt_of_lt_of_le ho g.len) h
    obtain ⟨h2, e2⟩ := g.itr o s1 p1 ho h1
    exact ⟨h2, e1.trans e2⟩

/-- No block has shrunk. -/
def Grow (w w' : World) : Prop := ∀ (b : Nat) (vs : Array Value) (el : TypeId) (fr : Nat × Nat), w.heap[b]? = some (.cells vs el fr) → ∃ (vs' : Array Value) (el' : TypeId) (fr' : Nat × Nat), w'.heap[b]? = some (.cells vs' el' fr') ∧ vs'.size = vs.size

theorem Grow.refl (w : World) : Grow w w := fun _ vs el fr h => ⟨vs, el, fr, h, rfl⟩

theorem RefOk.grow {w w' : World} (g : Grow w w') {ι ι' : Nat → Option Nat} {o off len sz : Nat} (e : ι' o = ι o) {v : Value} (h : RefOk w ι o off len sz v) : RefOk w' ι' o off len sz v := by
  rcases h with ⟨b, cap, vs, el, fr, h1, h2, h3, h4, h5⟩ | ⟨h1, h2⟩ | h
  · obtain ⟨vs', el', fr', h6, h7⟩ := g b vs el fr h3
    exact .inl ⟨b, cap, vs', el', fr', e.trans h1, h2, h6, by omega, h5⟩
  · exact .inr (.inl ⟨e.trans h1, h2⟩)
  · exact .inr (.inr h)

theorem Own.of {w : World} {ι : Nat → Option Nat} {o b : Nat} {x : AObj} (h : ι o = some b) : Own w ι o x b := by
  cases x <;> first | exact h | exact .inl h

theorem Own.back {w w' : World} {ι ι' : Nat → Option Nat} {o c : Nat} {x : AObj} (e : ι' o = ι o) (hb : ∀ b, ι o = some b → w'.heap[b]? = w.heap[b]?) (h : Own w' ι' o x c) : Own w ι o x c := by
  cases x with
  | bld s =>
    rcases h with h | ⟨b0, n, k, h1, h2⟩
    · exact .inl (e ▸ h)
    · rw [e] at h1
      refine .inr ⟨b0, n, k, h1, ?_⟩
      unfold World.cell? at h2 ⊢
      rw [hb b0 h1] at h2
      exact h2
  | _ => exact e.symm.trans h

theorem BufOk.keep {B : Gd} {w w' : World} {I I' : Nat → Nat → Prop} {b : Nat} {c : ByteArray} {v : Value} (hb : ∀ g n k, v = .slice (some ⟨g, 0, none⟩) n k → w'.heap[g]? = w.heap[g]? ∧ ∀ q, I' g q → I g q) (h : BufOk B I w b c v) : BufOk B I' w' b c v := by
  rcases h with h | ⟨g, cap, cur, fz, h1, h2, h3, h4, h5, h6, h7⟩
  · exact .inl h
  · obtain ⟨k1, k2⟩ := hb g _ _ h1
    exact .inr ⟨g, cap, cur, fz, h1, h2, h3, fun k hk => h4 k (k2 k hk), h5, k1.trans h6, h7⟩

theorem cell_bld {w : World} {b : Nat} {p v : Value} {t : TypeId} {fr : Nat × Nat} (h : w.heap[b]? = some (.cells #[p, v] t fr)) : w.cell? ⟨b, 1, none⟩ = some v := by
  unfold World.cell?
  simp only [h]
  rfl

/-- An object that is not the one that changes. -/
theorem ObjOk.keep {B : Gd} {w w' : World} {I I' : Nat → Nat → Prop} {ι ι' : Nat → Option Nat} {H H' : AHeap} (g : Goes w w' I I' ι ι' H H') {o : Nat} {x : AObj} (e : ι' o = ι o)
    (hb' : ∀ b, Own w ι o x b → w'.heap[b]? = w.heap[b]?) (hI' : ∀ b k, Own w ι o x b → I' b k → I b k) (h : ObjOk B ι I w H o x) : ObjOk B ι' I' w' H' o x := by
  have hb : ∀ b, ι o = some b → w'.heap[b]? = w.heap[b]? := fun b h => hb' b (.of h)
  have hI : ∀ b k, ι o = some b → I' b k → I b k := fun b k h => hI' b k (.of h)
  have hfree : ∀ b n, ι o = some b → Free w I b n → Free w' I' b n := fun b n hi hf =>
    ⟨fun k hk hc => hf.1 k hk (hI b k hi hc), fun k hk => by
      have := hf.2 k hk
      unfold World.frozen? at this ⊢
      rw [hb b hi]; exact this⟩
  cases x with
  | dead => trivial
  | bld c =>
    obtain ⟨b, p, v, h1, h2, h3, h4, h5, h6⟩ := h
    refine ⟨b, p, v, e.trans h1, h2, (hb b h1).trans h3, h4, fun k hk => h5 k (hI b k h1 hk), h6.keep fun g n k hv => ?_⟩
    have : Own w ι o (.bld c) g := .inr ⟨b, n, k, h1, by rw [cell_bld h3, hv]⟩
    exact ⟨hb' g this, fun q => hI' g q this⟩
  | iter s p =>
    obtain ⟨b, h1, h2, h3⟩ := h
    exact ⟨b, e.trans h1, h2, (hb b h1).trans h3⟩
  | box cs =>
    obtain ⟨b, vs, el, fr, h1, h2, h3, h4, h5, h6⟩ := h
    exact ⟨b, vs, el, fr, e.trans h1, h2, (hb b h1).trans h3, h4, fun k hk => (h5 k hk).goes g, hfree b 0 h1 h6⟩
  | arr n sz get fz =>
    obtain ⟨hfz, h⟩ := h
    refine ⟨hfz, ?_⟩
    rcases h with ⟨b, vs, el, fr, h1, h2, h3, h4, h5, h6⟩ | ⟨h1, h2⟩
    · exact .inl ⟨b, vs, el, fr, e.trans h1, h2, (hb b h1).trans h3, h4, fun i j hi hj => (h5 i j hi hj).mono g.same g.imm, hfree b _ h1 h6⟩
    · exact .inr ⟨e.trans h1, h2⟩

/-- A draw, or whatever leaves the heap alone. -/
theorem Goes.heap {w w' : World} (h : w'.heap = w.heap) (I : Nat → Nat → Prop) (ι : Nat → Option Nat) (H : AHeap) : Goes w w' I I ι ι H H := by
  refine { Goes.refl w I ι H with same := fun b k _ => ?_, ref := fun o off len sz v ho hx => ?_ }
  · simp [World.cell?, h]
  · intro n sz' get fz h1 h2
    refine ⟨(hx n sz' get fz h1 h2).1, fun e => ((hx n sz' get fz h1 h2).2 e).grow ?_ rfl⟩
    intro b vs el fr hb
    exact ⟨vs, el, fr, by rw [h]; exact hb, rfl⟩

theorem Rel.heap {B : Gd} {w w' : World} (h : w'.heap = w.heap) {I : Nat → Nat → Prop} {ι : Nat → Option Nat} {H : AHeap} (r : Rel B ι I w H) : Rel B ι I w' H where
  base := by rw [h]; exact r.base
  imm := by rw [h]; exact r.imm
  low := r.low
  glob := (Goes.heap h I ι H).glob r.glob
  obj := fun o x hx => (r.obj o x hx).keep (Goes.heap h I ι H) rfl (fun b _ => by rw [h]) (fun _ _ _ hk => hk)
  inj := fun o o' x x' b hx hx' lx lx' h1 h2 => r.inj o o' x x' b hx hx' lx lx' (h1.back rfl fun _ _ => by rw [h]) (h2.back rfl fun _ _ => by rw [h])

def updι (ι : Nat → Option Nat) (o : Nat) (b : Option Nat) : Nat → Option Nat := fun o' => if o' = o then b else ι o'

/-- A new object, in a new block (or in none). -/
theorem Goes.new {w w' : World} (hb : ∀ b, b < w.heap.size → w'.heap[b]? = w.heap[b]?) {I : Nat → Nat → Prop} (hI : ∀ b k, I b k → b < w.heap.size) (ι : Nat → Option Nat) (H : AHeap) (x : AObj) (b : Option Nat) :
    Goes w w' I I ι (updι ι H.length b) H (H ++ [x]) where
  same := fun b k h => by unfold World.cell?; rw [hb b (hI b k h)]
  imm := fun _ _ h => h
  len := by simp
  ref := fun o off len sz v ho hx n sz' get fz h1 h2 => by
    rw [List.getElem?_append_left ho] at h1
    refine ⟨(hx n sz' get fz h1 h2).1, fun e => ((hx n sz' get fz h1 h2).2 e).grow ?_ (by simp [updι]; omega)⟩
    intro b vs el fr hv
    have : b < w.heap.size := by
      rcases Nat.lt_or_ge b w.heap.size with h | h
      · exact h
      · simp [Array.getElem?_eq_none h] at hv
    exact ⟨vs, el, fr, (hb b this).trans hv, rfl⟩
  ptr := fun o cs ho h hb => by
    rw [List.getElem?_append_left ho] at h
    exact ⟨⟨cs, h, hb⟩, by simp [updι]; omega⟩
  eptr := fun o n sz get fz ho h => by
    rw [List.getElem?_append_left ho] at h
    exact ⟨n, get, fz, h, Nat.le_refl _, fun _ => by simp [updι]; omega⟩
  itr := fun o s p ho h => by
    rw [List.getElem?_append_left ho] at h
    exact ⟨⟨s, p, h⟩, by simp [updι]; omega⟩

theorem lt_of_heap {w : World} {b : Nat} {x : Obj} (h : w.heap[b]? = some x) : b < w.heap.size := by
  rcases Nat.lt_or_ge b w.heap.size with h' | h'
  · exact h'
  · simp [Array.getElem?_eq_none h'] at h

/-- the block of a live object is there -/
theorem ObjOk.lt {B : Gd} {ι : Nat → Option Nat} {I : Nat → Nat → Prop} {w : World} {H : AHeap} {o : Nat} {x : AObj} (h : ObjOk B ι I w H o x) (hx : x.live) {b : Nat} (hi : Own w ι o x b) : ¬ B b ∧ b < w.heap.size := by
  cases x with
  | dead => exact hx.elim
  | bld c =>
    obtain ⟨b', p, v, h1, h2, h3, h4, h5, h6⟩ := h
    rcases hi with hi | ⟨b0, n, k, hi, hc⟩
    · obtain rfl : b = b' := by rw [h1] at hi; exact (Option.some.inj hi).symm
      exact ⟨h2, lt_of_heap h3⟩
    · obtain rfl : b0 = b' := by rw [h1] at hi; exact (Option.some.inj hi).symm
      rw [cell_bld h3] at hc
      rcases h6 with ⟨rfl, _⟩ | ⟨g, cap, cur, fz, rfl, q2, q3, q4, q5, q6, q7⟩
      · cases hc
      · obtain rfl : g = b := by cases hc; rfl
        exact ⟨q3, lt_of_heap q6⟩
  | iter s p =>
    obtain ⟨b', h1, h2, h3⟩ := h
    obtain rfl : b = b' := by have hi : ι o = some b := hi; rw [h1] at hi; exact (Option.some.inj hi).symm
    exact ⟨h2, lt_of_heap h3⟩
  | box cs =>
    obtain ⟨b', vs, el, fr, h1, h2, h3, h4, h5, h6⟩ := h
    obtain rfl : b = b' := by have hi : ι o = some b := hi; rw [h1] at hi; exact (Option.some.inj hi).symm
    exact ⟨h2, lt_of_heap h3⟩
  | arr n sz get fz =>
    rcases h.2 with ⟨b', vs, el, fr, h1, h2, h3, -⟩ | ⟨h1, h2⟩
    · obtain rfl : b = b' := by have hi : ι o = some b := hi; rw [h1] at hi; exact (Option.some.inj hi).symm
      exact ⟨h2, lt_of_heap h3⟩
    · have hi : ι o = some b := hi; rw [h1] at hi; cases hi

theorem Rel.new {B : Gd} {w w' : World} {I : Nat → Nat → Prop} {ι : Nat → Option Nat} {H : AHeap} (r : Rel B ι I w H) (hs : w.heap.size ≤ w'.heap.size) (hb : ∀ b, b < w.heap.size → w'.heap[b]? = w.heap[b]?) (x : AObj) (b : Option Nat)
    (hbn : ∀ b', b = some b' → w.heap.size ≤ b')
    (hx : ObjOk B (updι ι H.length b) I w' (H ++ [x]) H.length x) (hown : ∀ b', Own w' (updι ι H.length b) H.length x b' → b = some b' := by intro b' h; have h2 : updι _ _ _ _ = some b' := h; rwa [updι, if_pos rfl] at h2) : Rel B (updι ι H.length b) I w' (H ++ [x]) where
  base := fun k hk => Nat.lt_of_lt_of_le (r.base k hk) hs
  imm := fun b k h => Nat.lt_of_lt_of_le (r.imm b k h) hs
  low := r.low
  glob := (Goes.new hb r.imm ι H x b).glob r.glob
  obj := fun o y hy => by
    rcases Nat.lt_or_ge o H.length with ho | ho
    · rw [List.getElem?_append_left ho] at hy
      by_cases hl : y.live
      · exact (r.obj o y hy).keep (Goes.new hb r.imm ι H x b) (by simp [updι]; omega) (fun b' hi => hb b' ((r.obj o y hy).lt hl hi).2) (fun _ _ _ hk => hk)
      · cases y <;> first | trivial | exact (hl trivial).elim
    · have : o = H.length := by
        have := (List.getElem?_eq_some_iff.1 hy).1
        simp at this; omega
      subst this
      simp at hy
      subst hy
      exact hx
  inj := fun o o' y y' c hy hy' hl hl' hc hc' => by
    have old : ∀ o y, o < H.length → H[o]? = some y → y.live → Own w' (updι ι H.length b) o y c → Own w ι o y c := fun o y ho hy hl hc =>
      hc.back (by simp [updι]; omega) (fun b' hi => hb b' ((r.obj o y hy).lt hl (.of hi)).2)
    have fresh : ∀ o y, (H ++ [x])[o]? = some y → H.length ≤ o → Own w' (updι ι H.length b) o y c → w.heap.size ≤ c := fun o y hy ho hc => by
      have h2 := (List.getElem?_eq_some_iff.1 hy).1
      have e : o = H.length := by simp at h2; omega
      subst e
      simp at hy
      subst hy
      exact hbn c (hown c hc)
    rcases Nat.lt_or_ge o H.length with ho | ho <;> rcases Nat.lt_or_ge o' H.length with ho' | ho'
    · rw [List.getElem?_append_left ho] at hy
      rw [List.getElem?_append_left ho'] at hy'
      exact r.inj o o' y y' c hy hy' hl hl' (old o y ho hy hl hc) (old o' y' ho' hy' hl' hc')
    · rw [List.getElem?_append_left ho] at hy
      have := ((r.obj o y hy).lt hl (old o y ho hy hl hc)).2
      have := fresh o' y' hy' ho' hc'
      omega
    · rw [List.getElem?_append_left ho'] at hy'
      have := ((r.obj o' y' hy').lt hl' (old o' y' ho' hy' hl' hc')).2
      have := fresh o y hy ho hc
      omega
    · have h1 := (List.getElem?_eq_some_iff.1 hy).1
      have h2 := (List.getElem?_eq_some_iff.1 hy').1
      simp at h1 h2; omega

theorem Rel.inj2 {B : Gd} {w w' : World} {I : Nat → Nat → Prop} {ι : Nat → Option Nat} {H : AHeap} (r : Rel B ι I w H) (hb : ∀ b, b < w.heap.size → w'.heap[b]? = w.heap[b]?) :
    ∀ o o' x x' b, H[o]? = some x → H[o']? = some x' → x.live → x'.live → Own w' ι o x b → Own w' ι o' x' b → o = o' :=
  fun o o' x x' b hx hx' lx lx' e e' => r.inj o o' x x' b hx hx' lx lx' (e.back rfl fun c hi => hb c ((r.obj o x hx).lt lx (.of hi)).2) (e'.back rfl fun c hi => hb c ((r.obj o' x' hx').lt lx' (.of hi)).2)

end Go.VM

/- What one operation does to the world, against what it does to the abstract state: operation by operation. -/
set_option linter.unusedSimpArgs false
set_option linter.unusedVariables false
set_option linter.unusedSectionVars false
namespace Go.VM
open Ops
variable [Ops] [Glb] [Lim]

variable {P : Program} {T : Tab} {B : Gd} {ι : Nat → Option Nat} {I : Nat → Nat → Prop} {w : World} {H : AHeap}

/-- a run that ends with a value that stands for r, in a state that Q holds of -/
def StepsV (P : Program) (B : Gd) (s : Sem Value) (w : World) (I : Nat → Nat → Prop) (ι : Nat → Option Nat) (H : AHeap) (Q : A → AHeap → Prop) : Prop :=
  ∃ v r w' I' ι' H', s.run P w = .ok v w' ∧ Q r H' ∧ RepA w' I' ι' H' v r ∧ Rel B ι' I' w' H' ∧ Goes w w' I I' ι ι' H H' ∧ Below B w w'

theorem StepsV.pure {s : Sem Value} {Q : A → AHeap → Prop} (r : Rel B ι I w H) {v : Value} {x : A} (h : s.run P w = .ok v w) (hv : RepA w I ι H v x) (hq : Q x H) : StepsV P B s w I ι H Q :=
  ⟨v, x, w, I, ι, H, h, hq, hv, r, .refl _ _ _ _, .refl _ _⟩

theorem rep_int {v : Value} {k : IntKind} {n : Int} (h : RepA w I ι H v (.d (.int k n))) : v = .int k n := by cases h with | d _ _ h => cases h; rfl
theorem rep_bool {v : Value} {b : Bool} (h : RepA w I ι H v (.d (.bool b))) : v = .bool b := by cases h with | d _ _ h => cases h; rfl
theorem rep_str {v : Value} {s : ByteArray} (h : RepA w I ι H v (.d (.str s))) : v = .string s := by cases h with | d _ _ h => cases h; rfl
theorem rep_agg {v : Value} {cs : List A} (h : RepA w I ι H v (.agg cs)) : ∃ vs : List Value, v = .agg vs.toArray ∧ vs.length = cs.length ∧ ∀ k, k < cs.length → RepA w I ι H (vs.getD k undef) (cs.getD k .undef) := by
  cases h with | agg vs _ h1 h2 => exact ⟨vs, rfl, h1, h2⟩
theorem rep_tup {v : Value} {cs : List A} (h : RepA w I ι H v (.tup cs)) : ∃ vs : List Value, v = .tuple vs.toArray ∧ vs.length = cs.length ∧ ∀ k, k < cs.length → RepA w I ι H (vs.getD k undef) (cs.getD k .undef) := by
  cases h with | tup vs _ h1 h2 => exact ⟨vs, rfl, h1, h2⟩
theorem rep_sl {v : Value} {n sz : Nat} {get : Nat → Nat → D} (h : RepA w I ι H v (.d (.sl n sz get))) : ∃ a cap, v = .slice a n cap ∧ n ≤ cap := by
  cases h with | d _ _ h => cases h with
    | sl0 a cap => exact ⟨a, cap, rfl, Nat.zero_le _⟩
    | sl b o _ cap _ _ vals hl => exact ⟨_, cap, rfl, hl⟩

section wbin
theorem Int.bool_eq (x y : Int) : (x == y) = decide (x = y) := by
  by_cases h : x = y <;> simp [h]

theorem equalIn_bool {t : Nat} (hu : ∀ w, (underlying t).run P w = .ok .bool w) (a b : Bool) (w : World) (d : Nat) : (Op.equalIn (d + 1) t (.bool a) (.bool b)).run P w = .ok (a == b) w := by
  simp only [Op.equalIn, Sem.run_bind, hu, Result.andThen_ok]
  rfl

theorem equal_bool {t : Nat} (hu : ∀ w, (underlying t).run P w = .ok .bool w) (a b : Bool) (w : World) : (Op.equal t (.bool a) (.bool b)).run P w = .ok (a == b) w :=
  equalIn_bool hu a b w 9999

theorem wnilcmp_ok (hT : TabOk P T) {t : Nat} {op : BinOp} {x y : A} {vx vy : Value} {Q : A → Prop} (r : Rel B ι I w H) (hx : RepA w I ι H vx x) (hy : RepA w I ι H vy y) (ox oy : Operand)
    (h : wnilcmp T t op x y Q) : StepsV P B (do eqGuard op t ox oy vx vy; binOp op t vx vy) w I ι H (fun a H' => Q a ∧ H' = H) := by
  unfold wnilcmp at h
  split at h
  · rename_i e _ _ _ hti
    obtain ⟨d, hd, hu⟩ := (hT.ti _ _ hti).underlying
    obtain rfl := kindOf_slice hd
    have hrun : ∀ (a : Option Addr) (n c : Nat), (Op.equal t (.slice a n c) (.slice none 0 0)).run P w = .ok a.isNone w := fun a n c => by
      have : ∀ d : Nat, (Op.equalIn (d + 1) t (.slice a n c) (.slice none 0 0)).run P w = .ok a.isNone w := fun d => by
        cases a <;> simp [Op.equalIn, hu]
      exact this 9999
    have hg : ∀ (a : Option Addr) (n c : Nat), (eqGuard op t ox oy (.slice a n c) (.slice none 0 0)).run P w = .ok () w := fun a n c => by
      unfold eqGuard
      cases op <;> simp
    have fin : ∀ (a : Option Addr) (n c : Nat) (b : Bool), vx = .slice a n c → vy = .slice none 0 0 → a.isNone = b → (op = .eql → Q (.d (.bool b))) → (op = .neq → Q (.d (.bool (!b)))) → (op = .eql ∨ op = .neq) →
        StepsV P B (do eqGuard op t ox oy vx vy; binOp op t vx vy) w I ι H (fun a H' => Q a ∧ H' = H) := by
      rintro a n c b rfl rfl hb h1 h2 h3
      rcases h3 with rfl | rfl
      · refine .pure r (v := .bool b) ?_ (.d _ _ (.bool _)) ⟨h1 rfl, rfl⟩
        rw [Sem.run_bind, hg]
        simp [binOp, hrun, hb]
      · refine .pure r (v := .bool (!b)) ?_ (.d _ _ (.bool _)) ⟨h2 rfl, rfl⟩
        rw [Sem.run_bind, hg]
        simp [binOp, hrun, hb]
    split at h
    · cases hx
      cases hy
      unfold eqB at h
      split at h
      · exact fin none 0 0 true rfl rfl rfl (fun _ => h) (fun e => by cases e) (.inl rfl)
      · exact fin none 0 0 true rfl rfl rfl (fun e => by cases e) (fun _ => h) (.inr rfl)
      · exact h.elim
    · rename_i n sz g
      cases hy
      cases hx with | d _ _ hx =>
      obtain ⟨a, c, rfl, h0⟩ : ∃ a c, vx = .slice a n c ∧ (a = none → n = 0) := by
        cases hx with
        | sl0 a cap => exact ⟨_, _, rfl, fun _ => rfl⟩
        | sl b o _ cap _ _ vals hl hc hr => exact ⟨_, _, rfl, fun e => by cases e⟩
      simp only [Imp_eq, eqN_eq] at h
      split at h
      · cases a with
        | none => exact fin none _ _ true rfl rfl rfl (fun _ => h.1 (h0 rfl)) (fun e => by cases e) (.inl rfl)
        | some a => exact fin (some a) _ _ false rfl rfl rfl (fun _ => h.2) (fun e => by cases e) (.inl rfl)
      · cases a with
        | none => exact fin none _ _ true rfl rfl rfl (fun e => by cases e) (fun _ => h.1 (h0 rfl)) (.inr rfl)
        | some a => exact fin (some a) _ _ false rfl rfl rfl (fun e => by cases e) (fun _ => h.2) (.inr rfl)
      · exact h.elim
    · rename_i o off n sz
      cases hy
      cases hx with | ref _ _ _ _ _ ho hq hlen =>
      obtain ⟨a, c, rfl⟩ := hlen
      split at h
      · cases a with
        | none => exact fin none _ _ true rfl rfl rfl (fun _ => h.1) (fun e => by cases e) (.inl rfl)
        | some a => exact fin (some a) _ _ false rfl rfl rfl (fun _ => h.2) (fun e => by cases e) (.inl rfl)
      · cases a with
        | none => exact fin none _ _ true rfl rfl rfl (fun e => by cases e) (fun _ => h.1) (.inr rfl)
        | some a => exact fin (some a) _ _ false rfl rfl rfl (fun e => by cases e) (fun _ => h.2) (.inr rfl)
      · exact h.elim
    · exact h.elim
  · rename_i e _ _ _ hti
    obtain ⟨d, hd, hu⟩ := (hT.ti _ _ hti).underlying
    obtain rfl := kindOf_pointer hd
    have hrun : ∀ (a : Option Addr), (Op.equal t (.pointer a) (.pointer none)).run P w = .ok a.isNone w := fun a => by
      have : ∀ d : Nat, (Op.equalIn (d + 1) t (.pointer a) (.pointer none)).run P w = .ok a.isNone w := fun d => by
        cases a <;> simp [Op.equalIn, hu]
      exact this 9999
    have hg : ∀ (a : Option Addr), (eqGuard op t ox oy (.pointer a) (.pointer none)).run P w = .ok () w := fun a => by
      unfold eqGuard
      cases op <;> simp
    have fin : ∀ (a : Option Addr) (b : Bool), vx = .pointer a → vy = .pointer none → a.isNone = b → eqB op b Q →
        StepsV P B (do eqGuard op t ox oy vx vy; binOp op t vx vy) w I ι H (fun a H' => Q a ∧ H' = H) := by
      rintro a b rfl rfl hb h
      unfold eqB at h
      split at h
      · refine .pure r (v := .bool b) ?_ (.d _ _ (.bool _)) ⟨h, rfl⟩
        rw [Sem.run_bind, hg]
        simp [binOp, hrun, hb]
      · refine .pure r (v := .bool (!b)) ?_ (.d _ _ (.bool _)) ⟨h, rfl⟩
        rw [Sem.run_bind, hg]
        simp [binOp, hrun, hb]
      · exact h.elim
    split at h
    · cases hx with | d _ _ hx =>
      cases hx
      cases hy with | d _ _ hy =>
      cases hy
      exact fin none true rfl rfl rfl h
    · cases hy with | d _ _ hy =>
      cases hy
      cases hx with | ptr _ _ _ ho hq hv =>
      obtain ⟨a, rfl⟩ := hv
      exact fin (some a) false rfl rfl rfl h
    · cases hy with | d _ _ hy =>
      cases hy
      cases hx with | eptr _ _ _ _ _ ho hq hv =>
      obtain ⟨a, rfl⟩ := hv
      exact fin (some a) false rfl rfl rfl h
    · cases hy with | d _ _ hy =>
      cases hy
      cases hx with | iptr b o _ _ _ _ vals hc hr =>
      exact fin (some _) false rfl rfl rfl h
    · exact h.elim
  · exact h.elim

theorem wbin_ok (hT : TabOk P T) {t : Nat} {op : BinOp} {x y : A} {vx vy : Value} {Q : A → Prop} (r : Rel B ι I w H) (hx : RepA w I ι H vx x) (hy : RepA w I ι H vy y) (ox oy : Operand)
    (h : wbin T t op x y Q) : StepsV P B (do eqGuard op t ox oy vx vy; binOp op t vx vy) w I ι H (fun a H' => Q a ∧ H' = H) := by
  unfold wbin at h
  split at h
  · -- two integers
    rename_i k a k' b
    obtain rfl := rep_int hx
    obtain rfl := rep_int hy
    have hg : (eqGuard op t ox oy (.int k a) (.int k' b)).run P w = .ok () w := by
      unfold eqGuard
      cases op <;> simp
    split at h
    · obtain ⟨h1, h2⟩ := h
      refine .pure r (v := .int k (shlK k a b)) ?_ (.d _ _ (.int _ _)) ⟨h2, rfl⟩
      have : ¬ b < 0 := by simpa [leP_eq] using h1
      rw [Sem.run_bind, hg]
      simp [binOp, Op.shift, this, shlK_eq]
    · obtain ⟨h1, h2⟩ := h
      refine .pure r (v := .int k (shrK k a b)) ?_ (.d _ _ (.int _ _)) ⟨h2, rfl⟩
      have : ¬ b < 0 := by simpa [leP_eq] using h1
      rw [Sem.run_bind, hg]
      simp [binOp, Op.shift, this, shrK_eq]
    · obtain ⟨hk, h⟩ := h
      have hk : k = k' := by cases k <;> cases k' <;> simp_all [IntKind.same]
      subst hk
      have cmp : ∀ (p q : Prop) [Decidable p], (¬ p → q) → cmpQ p q Q → (binOp op t (.int k a) (.int k b)).run P w = .ok (.bool (decide p)) w → StepsV P B (do eqGuard op t ox oy (.int k a) (.int k b); binOp op t (.int k a) (.int k b)) w I ι H (fun a H' => Q a ∧ H' = H) := by
        intro p q _ hpq hc hrun
        unfold cmpQ at hc
        simp only [Imp_eq] at hc
        by_cases hp : p
        · refine .pure r (v := .bool true) ?_ (.d _ _ (.bool _)) ⟨hc.1 hp, rfl⟩
          rw [Sem.run_bind, hg, Result.andThen_ok, hrun, decide_eq_true hp]
        · refine .pure r (v := .bool false) ?_ (.d _ _ (.bool _)) ⟨hc.2 (hpq hp), rfl⟩
          rw [Sem.run_bind, hg, Result.andThen_ok, hrun, decide_eq_false hp]
      unfold binI at h
      split at h
      all_goals first
        | exact h.elim
        | (refine .pure r ?_ (.d _ _ (.int _ _)) ⟨h, rfl⟩
           rw [Sem.run_bind, hg]
           simp [binOp, Op.intArith, Op.intBits, addK_eq, subK_eq, mulK_eq, bitK_eq]
           done)
        | (obtain ⟨h1, h2⟩ := h
           have hne : ¬ b = 0 := by simpa [neP_eq] using h1
           refine .pure r ?_ (.d _ _ (.int _ _)) ⟨h2, rfl⟩
           rw [Sem.run_bind, hg]
           simp [binOp, Op.intDiv, hne, quoK_eq, remK_eq]
           done)
        | (simp only [eqP_eq, neP_eq, ltP_eq, leP_eq] at h
           exact cmp _ _ (by omega) h (by simp [binOp, Op.intCmp, Int.bool_eq, bne]))
  · rename_i a b
    obtain rfl := rep_str hx
    obtain rfl := rep_str hy
    have hg : (eqGuard op t ox oy (.string a) (.string b)).run P w = .ok () w := by
      unfold eqGuard
      cases op <;> simp
    have cmp : ∀ (p q : Prop) (c : Bool), (c = true → p) → (c = false → q) → cmpQ p q Q → (binOp op t (.string a) (.string b)).run P w = .ok (.bool c) w → StepsV P B (do eqGuard op t ox oy (.string a) (.string b); binOp op t (.string a) (.string b)) w I ι H (fun a H' => Q a ∧ H' = H) := by
      intro p q c h1 h2 hc hrun
      unfold cmpQ at hc
      simp only [Imp_eq] at hc
      cases c with
      | true =>
        refine .pure r (v := .bool true) ?_ (.d _ _ (.bool _)) ⟨hc.1 (h1 rfl), rfl⟩
        rw [Sem.run_bind, hg, Result.andThen_ok, hrun]
      | false =>
        refine .pure r (v := .bool false) ?_ (.d _ _ (.bool _)) ⟨hc.2 (h2 rfl), rfl⟩
        rw [Sem.run_bind, hg, Result.andThen_ok, hrun]
    have heq : (a.toList == b.toList) = decide (a = b) := by
      by_cases hab : a = b
      · subst hab; simp
      · have : a.toList ≠ b.toList := fun h => hab (by
          rw [ByteArray.toList_eq, ByteArray.toList_eq] at h
          cases a; cases b
          simp only at h
          congr
          exact Array.ext' h)
        simp [hab, this]
    unfold binS at h
    split at h
    · obtain ⟨h1, h2, h3⟩ := h
      refine .pure r (v := .string (catS a b)) ?_ (.d _ _ (.str _)) ⟨h3, rfl⟩
      rw [Sem.run_bind, hg]
      simp only [leP_eq, lenS_eq] at h1 h2
      have : ¬ ((a.size + b.size : Nat) : Int) > IntKind.i64.max := by simp [IntKind.max, IntKind.bits, IntKind.signed]; omega
      simp only [Result.andThen_ok, binOp, Op.stringOp, this, if_false, Sem.run_pure, catS_eq]
    · simp only [eqSP_eq, neSP_eq] at h
      exact cmp _ _ (decide (a = b)) (by simp) (by simp) h (by simp only [binOp, Op.stringOp, heq, Sem.run_pure])
    · simp only [eqSP_eq, neSP_eq] at h
      exact cmp _ _ (!decide (a = b)) (by simp) (by simp) h (by simp only [binOp, Op.stringOp, heq, Sem.run_pure])
    · simp only [ltSP_eq, geSP_eq] at h
      exact cmp _ _ _ id id h (by simp only [binOp, Op.stringOp, Sem.run_pure])
    · simp only [ltSP_eq, geSP_eq] at h
      exact cmp _ _ (!Op.bytesLess a.toList b.toList) (by simp) (by simp) h (by simp only [binOp, Op.stringOp, Sem.run_pure])
    · exact h.elim
  · rename_i a b
    obtain rfl := rep_bool hx
    obtain rfl := rep_bool hy
    split at h
    · rename_i z1 z2 z3 hti
      obtain ⟨d, hd, hu⟩ := (hT.ti _ _ hti).underlying
      obtain rfl := kindOf_bool hd
      have hg : (eqGuard op t ox oy (.bool a) (.bool b)).run P w = .ok () w := by
        unfold eqGuard
        cases op <;> simp
      unfold binB at h
      have hsame : Bool.same a b = (a == b) := by cases a <;> cases b <;> rfl
      rw [hsame] at h
      split at h
      all_goals first
        | exact h.elim
        | (refine .pure r ?_ (.d _ _ (.bool _)) ⟨h, rfl⟩
           rw [Sem.run_bind, hg]
           simp only [Result.andThen_ok, binOp, Sem.run_bind, equal_bool hu]
           rfl)
    · exact h.elim
  · rename_i xs ys
    obtain ⟨va, rfl, -, -⟩ := rep_agg hx
    obtain ⟨vb, rfl, -, -⟩ := rep_agg hy
    split at h
    · rename_i e he
      obtain ⟨b, hb, h'⟩ := hT.eq _ _ he xs ys Q h
      obtain ⟨hg, hr⟩ := h' w I ι H _ _ hx hy
      refine .pure r (v := .bool b) ?_ (.d _ _ (.bool _)) ⟨hb, rfl⟩
      rw [Sem.run_bind, hg]
      simp [binOp, hr]
    · rename_i e he
      obtain ⟨b, hb, h'⟩ := hT.eq _ _ he xs ys _ h
      obtain ⟨hg, hr⟩ := h' w I ι H _ _ hx hy
      refine .pure r (v := .bool (!b)) ?_ (.d _ _ (.bool _)) ⟨by cases b <;> exact hb, rfl⟩
      rw [Sem.run_bind, hg]
      simp [binOp, hr]
    · exact h.elim
  · exact wnilcmp_ok hT r hx hy ox oy h
end wbin

theorem wlen_ok (hT : TabOk P T) {t : Nat} {x : A} {vx : Value} {Q : A → Prop} (r : Rel B ι I w H) (hx : RepA w I ι H vx x) (h : wlen T t x Q) (ty : TypeId) (l : Array TypeId) (hl : l[0]? = some t) (la : Array Value) (hla : la[0]? = some vx) :
    StepsV P B (Builtin.len_ l ty la) w I ι H (fun a H' => Q a ∧ H' = H) := by
  unfold wlen at h
  split at h
  · rename_i hti
    obtain ⟨d, hd, hu⟩ := (hT.ti _ _ hti).underlying
    obtain rfl := kindOf_string hd
    obtain rfl := rep_str hx
    exact .pure r (v := goInt _) (by simp [Builtin.len_, hl, hla, hu, lenS_eq, nI_eq]) (.d _ _ (.int _ _)) ⟨h, rfl⟩
  · rename_i hti
    obtain ⟨d, hd, hu⟩ := (hT.ti _ _ hti).underlying
    obtain rfl := kindOf_slice hd
    obtain ⟨a, cap, rfl, -⟩ := rep_sl hx
    exact .pure r (v := goInt _) (by simp [Builtin.len_, hl, hla, hu, lenS_eq, nI_eq]) (.d _ _ (.int _ _)) ⟨h, rfl⟩
  · rename_i hti
    obtain ⟨d, hd, hu⟩ := (hT.ti _ _ hti).underlying
    obtain rfl := kindOf_slice hd
    cases hx
    exact .pure r (v := goInt 0) (by simp [Builtin.len_, hl, hla, hu]) (.d _ _ (.int _ _)) ⟨h, rfl⟩
  · rename_i hti
    obtain ⟨d, hd, hu⟩ := (hT.ti _ _ hti).underlying
    obtain rfl := kindOf_slice hd
    cases hx with | ref _ _ _ _ _ _ _ hlen =>
    obtain ⟨a, c, rfl⟩ := hlen
    exact .pure r (v := goInt _) (by simp [Builtin.len_, hl, hla, hu, lenS_eq, nI_eq]) (.d _ _ (.int _ _)) ⟨h, rfl⟩
  · exact h.elim
end Go.VM

/- Loads, stores, new objects. -/
set_option linter.unusedSimpArgs false
set_option linter.unusedVariables false
set_option linter.unusedSectionVars false
namespace Go.VM
open Ops
variable [Ops] [Glb] [Lim]

variable {P : Program} {T : Tab} {B : Gd} {ι : Nat → Option Nat} {I : Nat → Nat → Prop} {w : World} {H : AHeap}

theorem getD_drop_take {α : Type} (l : List α) (off n k : Nat) (d : α) (h : k < n) : ((l.drop off).take n).getD k d = l.getD (off + k) d := by
  simp only [List.getD_eq_getElem?_getD, List.getElem?_take, h, if_true, List.getElem?_drop]

theorem cellsD_length (get : Nat → Nat → D) (i j n : Nat) : (cellsD get i j n).length = n := by
  induction n generalizing j with
  | zero => rfl
  | succ n ih => simp [cellsD, ih]

theorem cellsD_getD (get : Nat → Nat → D) (i j n k : Nat) (h : k < n) : (cellsD get i j n).getD k .undef = .d (get i (j + k)) := by
  induction n generalizing j k with
  | zero => omega
  | succ n ih =>
    cases k with
    | zero => simp [cellsD]
    | succ k =>
      have := ih (j + 1) k (by omega)
      simp only [cellsD, List.getD_cons_succ, this]
      rw [show j + 1 + k = j + (k + 1) by omega]

theorem loadVar_ok {t : Nat} {i : TI} (hti : TIOk P t i) (h1 : 1 ≤ i.size) {b o : Nat} (fv : Nat → Value) (asx : List A) (hl : asx.length = i.size)
    (hc : ∀ k, k < i.size → w.cell? ⟨b, o + k, none⟩ = some (fv k)) (hr : ∀ k, k < i.size → RepA w I ι H (fv k) (asx.getD k .undef)) :
    ∃ v, (loadVar t ⟨b, o, none⟩).run P w = .ok v w ∧ RepA w I ι H v (if i.kind.isAgg then .agg asx else asx.getD 0 .undef) := by
  by_cases ha : i.kind.isAgg = true
  · let cs := (List.range i.size).map fv
    refine ⟨.agg cs.toArray, ?_, ?_⟩
    · have hrun := run_loadCells_list (P := P) w ⟨b, o, none⟩ cs (fun j v hv => by
        rw [Addr.add_mid]
        have hj : j < i.size := by
          have := (List.getElem?_eq_some_iff.1 hv).1
          simpa [cs] using this
        rw [hc j hj]
        simp [cs, List.getElem?_eq_getElem, hj] at hv
        rw [hv])
      have hn : cs.length = i.size := by simp [cs]
      rw [hn] at hrun
      simp [loadVar, Sem.run_bind, hti.isAgg w, ha, hti.sizeOf w, hrun]
    · rw [if_pos ha]
      refine .agg cs asx (by simp [cs, hl]) (fun k hk => ?_)
      have hk' : k < i.size := by omega
      have : cs.getD k undef = fv k := by simp [cs, List.getD_eq_getElem?_getD, hk']
      rw [this]
      exact hr k hk'
  · have h0 := hc 0 (by omega)
    simp only [Nat.add_zero] at h0
    refine ⟨fv 0, ?_, ?_⟩
    · simp [loadVar, Sem.run_bind, hti.isAgg w, ha, h0]
    · rw [if_neg ha]
      exact hr 0 (by omega)

theorem cell_of_block {b k : Nat} {vs : Array Value} {el : TypeId} {fr : Nat × Nat} (h : w.heap[b]? = some (.cells vs el fr)) (hk : k < vs.size) : w.cell? ⟨b, k, none⟩ = some (vs.getD k undef) := by
  simp [World.cell?, h, Array.getElem?_eq_getElem hk, hk]

theorem wload_pure (hT : TabOk P T) {t : Nat} {p : A} {vp : Value} {Q : A → Prop} (r : Rel B ι I w H) (hp : RepA w I ι H vp p) (h : wload T t p H Q) :
    ∃ v x, (Instr.loadAt t vp).run P w = .ok v w ∧ RepA w I ι H v x ∧ Q x := by
  unfold wload at h
  split at h
  · exact h.elim
  rename_i ti hti
  have hti := hT.ti _ _ hti
  split at h
  · -- a box
    rename_i o off
    simp only [getL_eq] at h
    split at h
    · rename_i cs hcs
      obtain ⟨h1, h2, h3⟩ := h
      simp only [Nat.ble_eq, lenL_eq] at h1 h2
      have hcs : H[o]? = some (.box cs) := by
        rw [List.getD_eq_getElem?_getD] at hcs
        cases hx : H[o]? with
        | none => simp [hx] at hcs
        | some x => simp [hx] at hcs; rw [hcs]
      obtain ⟨b, vs, el, fr, e1, e2, e3, e4, e5, e6⟩ := r.obj o _ hcs
      cases hp with | ptr _ _ _ ho hq _ =>
      obtain ⟨b', e1', rfl⟩ := hq _ hcs trivial
      obtain rfl : b = b' := by rw [e1] at e1'; exact Option.some.inj e1'
      obtain ⟨v, hv1, hv2⟩ := loadVar_ok (w := w) (I := I) (ι := ι) (H := H) hti h2 (b := b) (o := off) (fun k => vs.getD (off + k) undef) ((cs.drop off).take ti.size) (by simp; omega)
        (fun k hk => cell_of_block e3 (by omega)) (fun k hk => by rw [getD_drop_take _ _ _ _ _ hk]; exact e5 (off + k) (by omega))
      refine ⟨v, _, by simp [Instr.loadAt, Instr.sureAddr, hv1], hv2, ?_⟩
      rw [takeL_eq, dropL_eq] at h3
      rwa [getD_drop_take _ _ _ _ _ (by omega), Nat.add_zero]
    · exact h.elim
  · -- an element of an own array
    rename_i o i j len
    simp only [getL_eq] at h
    split at h
    · rename_i n sz get fz hcs
      obtain ⟨h0, h1, h2, hi, h3⟩ := h
      simp only [Nat.ble_eq, eqN_eq, ltN_eq] at h1 h2 h0 hi
      have hcs : H[o]? = some (.arr n sz get fz) := by
        rw [List.getD_eq_getElem?_getD] at hcs
        cases hx : H[o]? with
        | none => simp [hx] at hcs
        | some x => simp [hx] at hcs; rw [hcs]
      obtain ⟨hfz, hob⟩ := r.obj o _ hcs
      cases hp with | eptr _ _ _ _ _ ho hq _ =>
      obtain ⟨b', e1', rfl⟩ := (hq n sz get fz hcs).2 h0 hi
      rcases hob with ⟨b, vs, el, fr, e1, e2, e3, e4, e5, e6⟩ | ⟨e1, e2⟩
      · obtain rfl : b = b' := by rw [e1] at e1'; exact Option.some.inj e1'
        have hlt : ∀ k, k < ti.size → i * sz + j + k < vs.size := fun k hk => by
          have : (i + 1) * sz ≤ n * sz := Nat.mul_le_mul_right _ hi
          rw [Nat.add_mul] at this; omega
        obtain ⟨v, hv1, hv2⟩ := loadVar_ok (w := w) (I := I) (ι := ι) (H := H) hti h2 (b := b) (o := i * sz + j) (fun k => vs.getD (i * sz + j + k) undef) (cellsD get i j ti.size) (cellsD_length _ _ _ _)
          (fun k hk => cell_of_block e3 (hlt k hk)) (fun k hk => by
            rw [cellsD_getD _ _ _ _ _ hk]
            refine .d _ _ ?_
            have := e5 i (j + k) hi (by omega)
            rwa [show i * sz + j + k = i * sz + (j + k) by omega])
        refine ⟨v, _, by simp [Instr.loadAt, Instr.sureAddr, hv1], hv2, ?_⟩
        rwa [cellsD_getD _ _ _ _ _ (by omega), Nat.add_zero]
      · omega
    · exact h.elim
  · rename_i get i j sz
    obtain ⟨h1, h2, h3⟩ := h
    simp only [Nat.ble_eq] at h1 h2
    cases hp with | iptr b o _ _ _ _ vals hc hr =>
    obtain ⟨v, hv1, hv2⟩ := loadVar_ok (w := w) (I := I) (ι := ι) (H := H) hti h2 (b := b) (o := o + j) (fun k => vals (j + k)) (cellsD get i j ti.size) (cellsD_length _ _ _ _)
      (fun k hk => by rw [show o + j + k = o + (j + k) by omega]; exact (hc (j + k) (by omega)).2) (fun k hk => by rw [cellsD_getD _ _ _ _ _ hk]; exact .d _ _ (hr (j + k) (by omega)))
    refine ⟨v, _, by simp [Instr.loadAt, Instr.sureAddr, hv1], hv2, ?_⟩
    rwa [cellsD_getD _ _ _ _ _ (by omega), Nat.add_zero]
  · exact h.elim

theorem wload_ok (hT : TabOk P T) {t : Nat} {p : A} {vp : Value} {Q : A → Prop} (r : Rel B ι I w H) (hp : RepA w I ι H vp p) (h : wload T t p H Q) :
    StepsV P B (Instr.loadAt t vp) w I ι H (fun a H' => Q a ∧ H' = H) := by
  obtain ⟨v, x, h1, h2, h3⟩ := wload_pure hT r hp h
  exact .pure r h1 h2 ⟨h3, rfl⟩

/-! ### New objects -/
theorem heap_alloc_eq (w : World) (x : Obj) (b : Nat) (h : b < w.heap.size) : (w.alloc x).heap[b]? = w.heap[b]? := by
  show (w.heap.push x)[b]? = _
  rw [Array.getElem?_push, if_neg (by omega)]

theorem heap_alloc_new (w : World) (x : Obj) : (w.alloc x).heap[w.heap.size]? = some x := by
  show (w.heap.push x)[w.heap.size]? = _
  simp

theorem Below.new (w : World) (x : Obj) (_h : ∀ k, B k → k < w.heap.size) : Below B w (w.alloc x) := (Below.refl B w).alloc x

theorem rep_cells {v : Value} {a : A} (h : RepA w I ι H v a) (hl : allLeaf a.cells = true) :
    v.cells.size = a.cells.length ∧ ∀ k, k < a.cells.length → RepA w I ι H (v.cells.getD k undef) (a.cells.getD k .undef) ∧ (v.cells.getD k undef).oneCell' = true := by
  have leafOne : ∀ {v : Value} {a : A}, RepA w I ι H v a → a.leaf = true → v.cells = #[v] ∧ v.oneCell' = true := by
    intro v a h hl
    cases h with
    | d _ _ h => exact ⟨h.cells, h.oneCell⟩
    | nils => exact ⟨rfl, rfl⟩
    | ref _ _ _ _ _ _ _ hlen => obtain ⟨_, _, e⟩ := hlen; rw [e]; exact ⟨rfl, rfl⟩
    | ptr _ _ _ _ _ hv => obtain ⟨_, rfl⟩ := hv; exact ⟨rfl, rfl⟩
    | eptr _ _ _ _ _ _ _ hv => obtain ⟨_, rfl⟩ := hv; exact ⟨rfl, rfl⟩
    | iptr => exact ⟨rfl, rfl⟩
    | itr _ _ _ _ hv => obtain ⟨_, rfl⟩ := hv; exact ⟨rfl, rfl⟩
    | clo => exact ⟨rfl, rfl⟩
    | agg => simp [A.leaf] at hl
    | tup => simp [A.leaf] at hl
    | undef => simp [A.leaf] at hl
  have all : ∀ (cs : List A), allLeaf cs = true → ∀ k, k < cs.length → (cs.getD k .undef).leaf = true := by
    intro cs
    induction cs with
    | nil => intro _ k hk; simp at hk
    | cons c cs ih =>
      intro h k hk
      simp only [allLeaf, Bool.and_eq_true] at h
      cases k with
      | zero => simpa using h.1
      | succ k => simpa using ih h.2 k (by simpa using hk)
  by_cases hagg : ∃ cs, a = .agg cs
  · obtain ⟨cs, rfl⟩ := hagg
    obtain ⟨vs, rfl, h1, h2⟩ := rep_agg h
    refine ⟨by simpa [Value.cells, A.cells] using h1, fun k hk => ?_⟩
    have hk' : k < cs.length := hk
    have := h2 k hk'
    have e : (Value.agg vs.toArray).cells.getD k undef = vs.getD k undef := by simp [Value.cells, List.getD_eq_getElem?_getD, Array.getD_eq_getD_getElem?]
    rw [e]
    exact ⟨this, (leafOne this (all cs hl k hk')).2⟩
  · have hc : a.cells = [a] := by cases a <;> first | rfl | exact (hagg ⟨_, rfl⟩).elim
    rw [hc] at hl ⊢
    have ha : a.leaf = true := by simpa [allLeaf] using hl
    obtain ⟨h1, h2⟩ := leafOne h ha
    rw [h1]
    refine ⟨rfl, fun k hk => ?_⟩
    have : k = 0 := by simpa using hk
    subst this
    exact ⟨by simpa using h, by simpa using h2⟩

/-- A new box. -/
theorem box_ok (r : Rel B ι I w H) {vs : Array Value} {el : TypeId} {cs : List A} (hs : vs.size = cs.length) (hc : ∀ k, k < cs.length → RepA w I ι H (vs.getD k undef) (cs.getD k .undef)) :
    RepA (w.alloc (.cells vs el)) I (updι ι H.length (some w.heap.size)) (H ++ [.box cs]) (.pointer (some ⟨w.heap.size, 0, none⟩)) (.ptr H.length 0) ∧
    Rel B (updι ι H.length (some w.heap.size)) I (w.alloc (.cells vs el)) (H ++ [.box cs]) ∧ Goes w (w.alloc (.cells vs el)) I I ι (updι ι H.length (some w.heap.size)) H (H ++ [.box cs]) ∧ Below B w (w.alloc (.cells vs el)) := by
  have hb := fun b (h : b < w.heap.size) => heap_alloc_eq w (.cells vs el) b h
  have g := Goes.new hb r.imm ι H (.box cs) (some w.heap.size)
  refine ⟨?_, ?_, g, Below.new _ _ r.base⟩
  · refine .ptr _ _ _ (by simp) (fun cs' h _ => ⟨w.heap.size, by simp [updι], rfl⟩) ⟨_, rfl⟩
  · refine r.new (by show _ ≤ (w.heap.push _).size; simp) hb _ _ (fun b' e => by cases e; exact Nat.le_refl _) ?_
    refine ⟨w.heap.size, vs, el, (0, 0), by simp [updι], r.fresh, heap_alloc_new _ _, hs, fun k hk => (hc k hk).goes g, fun k _ hi => ?_, fun k _ => ?_⟩
    · exact absurd (r.imm _ _ hi) (Nat.lt_irrefl _)
    · unfold World.frozen?; rw [heap_alloc_new]; simp

theorem wbox_ok {t : Nat} {x : A} {vx : Value} (r : Rel B ι I w H) (hx : RepA w I ι H vx x) (hl : allLeaf x.cells = true) {Q : A → AHeap → Prop} (h : Q (.ptr (lenL H) 0) (H ++ [.box x.cells])) :
    StepsV P B (Instr.box t vx) w I ι H Q := by
  obtain ⟨h1, h2⟩ := rep_cells hx hl
  obtain ⟨k1, k2, k3, k4⟩ := box_ok (el := t) r h1 (fun k hk => (h2 k hk).1)
  rw [lenL_eq] at h
  exact ⟨_, _, _, I, _, _, by simp [Instr.box, newVar, newRow], h, k1, k2, k3, k4⟩

theorem zero_rep {z : Value} {zs : List A} (h : z.cells.toList.map absLeaf = zs) : z.cells.size = zs.length ∧ ∀ k, k < zs.length → RepA w I ι H (z.cells.getD k undef) (zs.getD k .undef) := by
  subst h
  refine ⟨by simp, fun k hk => ?_⟩
  have hk' : k < z.cells.toList.length := by simpa using hk
  have hk2 : k < z.cells.size := by simpa using hk
  simp only [List.getD_eq_getElem?_getD, List.getElem?_map, List.getElem?_eq_getElem hk', Option.map_some, Option.getD_some, Array.getD_eq_getD_getElem?, Array.getElem?_eq_getElem hk2, Array.getElem_toList]
  exact absLeaf_rep _ _ _ _ _

/-- A new builder. -/
theorem bld_ok (r : Rel B ι I w H) :
    RepA (w.alloc (.cells #[.pointer none, .slice none 0 0] Glb.bt)) I (updι ι H.length (some w.heap.size)) (H ++ [.bld ⟨⟨[]⟩⟩]) (.pointer (some ⟨w.heap.size, 0, none⟩)) (.ptr H.length 0) ∧
    Rel B (updι ι H.length (some w.heap.size)) I (w.alloc (.cells #[.pointer none, .slice none 0 0] Glb.bt)) (H ++ [.bld ⟨⟨[]⟩⟩]) ∧
    Goes w (w.alloc (.cells #[.pointer none, .slice none 0 0] Glb.bt)) I I ι (updι ι H.length (some w.heap.size)) H (H ++ [.bld ⟨⟨[]⟩⟩]) ∧ Below B w (w.alloc (.cells #[.pointer none, .slice none 0 0] Glb.bt)) := by
  have hb := fun b (h : b < w.heap.size) => heap_alloc_eq w (.cells #[.pointer none, .slice none 0 0] Glb.bt) b h
  have g := Goes.new hb r.imm ι H (.bld ⟨⟨[]⟩⟩) (some w.heap.size)
  have hnew := heap_alloc_new w (.cells #[.pointer none, .slice none 0 0] Glb.bt)
  refine ⟨?_, ?_, g, Below.new _ _ r.base⟩
  · refine .ptr _ _ _ (by simp) (fun cs' h _ => ⟨w.heap.size, by simp [updι], rfl⟩) ⟨_, rfl⟩
  · refine r.new (by show _ ≤ (w.heap.push _).size; simp) hb _ _ (fun b' e => by cases e; exact Nat.le_refl _) ?_ (fun b' h => ?_)
    · refine ⟨w.heap.size, _, _, by simp [updι], r.fresh, hnew, .inl rfl, fun k hk => absurd (r.imm _ _ hk) (Nat.lt_irrefl _), .inl ⟨rfl, rfl⟩⟩
    · rcases h with h | ⟨b0, n, c, h1, h2⟩
      · simpa [updι] using h
      · have h1 : w.heap.size = b0 := by simpa [updι] using h1
        subst h1
        rw [cell_bld hnew] at h2
        cases h2

theorem walloc_ok (hT : TabOk P T) {t : Nat} {ti : TI} (hti : T.ti t = some ti) (r : Rel B ι I w H) {Q : A → AHeap → Prop} (h : walloc T t ti H Q) :
    StepsV P B (Instr.alloc t true (.tuple #[])) w I ι H Q := by
  obtain ⟨z, hz, hz1, hz2⟩ := (hT.ti _ _ hti).zeroValue w
  have main : Q (.ptr (lenL H) 0) (H ++ [.box ti.zero]) → StepsV P B (Instr.alloc t true (.tuple #[])) w I ι H Q := fun h => by
    obtain ⟨h1, h2⟩ := zero_rep (w := w) (I := I) (ι := ι) (H := H) hz1
    obtain ⟨k1, k2, k3, k4⟩ := box_ok (el := t) r h1 h2
    rw [lenL_eq] at h
    exact ⟨_, _, _, I, _, _, by simp [Instr.alloc, hz, newVar, newRow], h, k1, k2, k3, k4⟩
  unfold walloc at h
  split at h
  · rename_i hzero
    split at h
    · rename_i hbld
      have hbt : t = Glb.bt := (Nat.eq_of_beq_eq_true hbld).trans hT.bld
      subst hbt
      rw [hzero] at hz1
      have hsz : z.cells = #[.pointer none, .slice none 0 0] := by
        obtain ⟨h1, h2⟩ := zero_rep (w := w) (I := I) (ι := ι) (H := H) hz1
        have h3 := h2 0 (by decide)
        have h4 := h2 1 (by decide)
        have e3 : z.cells.getD 0 undef = .pointer none := by
          generalize z.cells.getD 0 undef = v at h3
          cases h3 with | d _ _ h3 => cases h3; rfl
        have e4 : z.cells.getD 1 undef = .slice none 0 0 := by
          generalize z.cells.getD 1 undef = v at h4
          cases h4; rfl
        apply Array.ext (by simpa using h1)
        intro i hi hi'
        match i, hi' with
        | 0, _ => simpa [Array.getD_eq_getD_getElem?, hi] using e3
        | 1, _ => simpa [Array.getD_eq_getD_getElem?, hi] using e4
      obtain ⟨k1, k2, k3, k4⟩ := bld_ok r
      rw [lenL_eq] at h
      exact ⟨_, _, _, I, _, _, by simp [Instr.alloc, hz, newVar, newRow, hsz], h, k1, k2, k3, k4⟩
    · exact main h
  · exact main h

end Go.VM
