/- Part of the proof: VA, VB, VC, VD, VE, VF, VG, VH, VI, VJ, VK, VL, VM1. -/
import GoSem.Dispatch
import Derived.Calls
import Derived.Below
import Derived.Deep.LoopGhost
import Derived.Deep.MidRow
import Derived.WalkKit
import Derived.Laws.Append
/- The abstract values, the abstract heap, and what one operation does to them, as a weakest precondition that is computed. -/
set_option linter.unusedVariables false
namespace Go.VM

/-- Data: what can be read and never changes. 'sl len sz get': a slice of len elements of sz cells. -/
inductive D where
  | int (k : IntKind) (n : Int)
  | bool (b : Bool)
  | str (s : ByteArray)
  | nilp
  | nilf
  | nili
  | sl (len sz : Nat) (get : Nat → Nat → D)

/-- Abstract values. ref: a slice of the call's own (object, first element, elements, cells of one); ptr: into a box; eptr: to element i, cell j of an own array of len elements; iptr: into data (element i of sz cells, at cell j). -/
inductive A where
  | d (x : D)
  | nils
  | ref (o off len sz : Nat)
  | ptr (o off : Nat)
  | eptr (o i j len : Nat)
  | iptr (get : Nat → Nat → D) (i j sz : Nat)
  | itr (o : Nat)
  | clo (f : FuncId) (first caps : List A)
  | agg (cells : List A)
  | tup (parts : List A)
  | undef

inductive AObj where
  | box (cs : List A)
  | arr (len sz : Nat) (get : Nat → Nat → D) (fz : Nat)
  | iter (s : ByteArray) (pos : Nat)
  | bld (c : ByteArray)
  | dead

abbrev AHeap := List AObj

inductive TK where
  | int (k : IntKind) | bool | string | slice (e : Nat) | struct (fs : List (Nat × Nat)) | array (n e : Nat) | pointer (e : Nat) | func | other

structure TI where
  kind : TK
  size : Nat
  bytes : Nat
  zero : List A

/-- The table of the types that a proof speaks of. -/
structure Tab where
  bld : Nat
  ti : Nat → Option TI
  eq : Nat → Option (List A → List A → (A → Prop) → Prop)
  fn : Nat → Bool

structure St where
  tm : List A
  hp : AHeap

inductive Ex where
  | normal | exit (id : Nat) | ret

def bitF : (BinOp) → (IntKind) → (Int) → (Int) → Int := fun op k x y => 
      match op with
      | .and => k.wrap (BitVec.ofInt k.bits x &&& BitVec.ofInt k.bits y).toNat
      | .or => k.wrap (BitVec.ofInt k.bits x ||| BitVec.ofInt k.bits y).toNat
      | .xor => k.wrap (BitVec.ofInt k.bits x ^^^ BitVec.ofInt k.bits y).toNat
      | _ => k.wrap (BitVec.ofInt k.bits x &&& ~~~ BitVec.ofInt k.bits y).toNat
def btF : (ByteArray) → (Int) → Int := fun s i => (s.data.toList.getD i.toNat 0).toNat
def runeF : (ByteArray) → (Nat) → Int := fun s i => (Utf8.decode s i).1
def widthF : (ByteArray) → (Nat) → Nat := fun s i => (Utf8.decode s i).2
def updF : (Nat → Nat → D) → (Nat) → (Nat) → (D) → Nat → Nat → D := fun get i j v => fun i' j' => if i' = i ∧ j' = j then v else get i' j'
def shF : (Nat → Nat → D) → (Nat) → Nat → Nat → D := fun get l => fun i j => get (l + i) j
def appF : (Nat) → (Nat → Nat → D) → (Nat → Nat → D) → Nat → Nat → D := fun n get get' => fun i j => if i < n then get i j else get' (i - n) j
def strF : (ByteArray) → Nat → Nat → D := fun s => fun i _ => .int .u8 (btF s i)
def rowF : Nat → List D → Nat → Nat → D := fun sz cs => fun i j => cs.getD (i * sz + j) .nilp

/-- The words that evaluation leaves closed, each with what it means. -/
class Ops where
  Imp : Prop → Prop → Prop
  ltP : Int → Int → Prop
  leP : Int → Int → Prop
  eqP : Int → Int → Prop
  neP : Int → Int → Prop
  eqSP : ByteArray → ByteArray → Prop
  neSP : ByteArray → ByteArray → Prop
  ltSP : ByteArray → ByteArray → Prop
  geSP : ByteArray → ByteArray → Prop
  addK : (IntKind) → (Int) → (Int) → Int
  subK : (IntKind) → (Int) → (Int) → Int
  mulK : (IntKind) → (Int) → (Int) → Int
  quoK : (IntKind) → (Int) → (Int) → Int
  remK : (Int) → (Int) → Int
  convK : (IntKind) → (Int) → Int
  shlK : (IntKind) → (Int) → (Int) → Int
  shrK : (IntKind) → (Int) → (Int) → Int
  bitK : (BinOp) → (IntKind) → (Int) → (Int) → Int
  maxI : (Int) → (Int) → Int
  minI : (Int) → (Int) → Int
  nI : (Nat) → Int
  lenS : (ByteArray) → Int
  natOf : (Int) → Nat
  addN : (Nat) → (Nat) → Nat
  subN : (Nat) → (Nat) → Nat
  eqN : (Nat) → (Nat) → Prop
  leN : (Nat) → (Nat) → Prop
  ltN : (Nat) → (Nat) → Prop
  catS : (ByteArray) → (ByteArray) → ByteArray
  subS : (ByteArray) → (Int) → (Int) → ByteArray
  bt : (ByteArray) → (Int) → Int
  rune : (ByteArray) → (Nat) → Int
  width : (ByteArray) → (Nat) → Nat
  updG : (Nat → Nat → D) → (Nat) → (Nat) → (D) → Nat → Nat → D
  shG : (Nat → Nat → D) → (Nat) → Nat → Nat → D
  appG : (Nat) → (Nat → Nat → D) → (Nat → Nat → D) → Nat → Nat → D
  strG : (ByteArray) → Nat → Nat → D
  rowG : Nat → List D → Nat → Nat → D
  specP : (∀ p q, Imp p q = (p → q)) ∧
    (∀ x y, ltP x y = (x < y)) ∧
    (∀ x y, leP x y = (x ≤ y)) ∧
    (∀ x y, eqP x y = (x = y)) ∧
    (∀ x y, neP x y = (x ≠ y)) ∧
    (∀ x y, eqSP x y = (x = y)) ∧
    (∀ x y, neSP x y = (x ≠ y)) ∧
    (∀ x y, ltSP x y = (Op.bytesLess x.toList y.toList = true)) ∧
    (∀ x y, geSP x y = (Op.bytesLess x.toList y.toList = false)) ∧
    (∀ (x : Nat) (y : Nat), eqN x y = (x = y)) ∧
    (∀ (x : Nat) (y : Nat), leN x y = (x ≤ y)) ∧
    (∀ (x : Nat) (y : Nat), ltN x y = (x < y))
  specF : (∀ (k : IntKind) (x : Int) (y : Int), addK k x y = (k.wrap (x + y))) ∧
    (∀ (k : IntKind) (x : Int) (y : Int), subK k x y = (k.wrap (x - y))) ∧
    (∀ (k : IntKind) (x : Int) (y : Int), mulK k x y = (k.wrap (x * y))) ∧
    (∀ (k : IntKind) (x : Int) (y : Int), quoK k x y = (k.wrap (x.tdiv y))) ∧
    (∀ (x : Int) (y : Int), remK x y = (x.tmod y)) ∧
    (∀ (k : IntKind) (x : Int), convK k x = (k.wrap x)) ∧
    (∀ (k : IntKind) (x : Int) (y : Int), shlK k x y = (k.wrap (x * 2 ^ (min y.toNat k.bits)))) ∧
    (∀ (k : IntKind) (x : Int) (y : Int), shrK k x y = (x.fdiv (2 ^ (min y.toNat k.bits)))) ∧
    (∀ (op : BinOp) (k : IntKind) (x : Int) (y : Int), bitK op k x y = bitF op k x y) ∧
    (∀ (x : Int) (y : Int), maxI x y = (if y > x then y else x)) ∧
    (∀ (x : Int) (y : Int), minI x y = (if y < x then y else x)) ∧
    (∀ (n : Nat), nI n = (n)) ∧
    (∀ (s : ByteArray), lenS s = (s.size)) ∧
    (∀ (i : Int), natOf i = (i.toNat)) ∧
    (∀ (x : Nat) (y : Nat), addN x y = (x + y)) ∧
    (∀ (x : Nat) (y : Nat), subN x y = (x - y)) ∧
    (∀ (x : ByteArray) (y : ByteArray), catS x y = (x ++ y)) ∧
    (∀ (s : ByteArray) (l : Int) (h : Int), subS s l h = (s.extract l.toNat h.toNat)) ∧
    (∀ (s : ByteArray) (i : Int), bt s i = btF s i) ∧
    (∀ (s : ByteArray) (i : Nat), rune s i = runeF s i) ∧
    (∀ (s : ByteArray) (i : Nat), width s i = widthF s i) ∧
    (∀ (get : Nat → Nat → D) (i : Nat) (j : Nat) (v : D), updG get i j v = updF get i j v) ∧
    (∀ (get : Nat → Nat → D) (l : Nat), shG get l = shF get l) ∧
    (∀ (n : Nat) (get : Nat → Nat → D) (get' : Nat → Nat → D), appG n get get' = appF n get get') ∧
    (∀ (s : ByteArray), strG s = strF s) ∧
    (∀ (sz : Nat) (cs : List D), rowG sz cs = rowF sz cs)

theorem Ops.exists_one : Nonempty Ops := ⟨{
  Imp := fun p q => p → q,
  ltP := fun x y => x < y,
  leP := fun x y => x ≤ y,
  eqP := fun x y => x = y,
  neP := fun x y => x ≠ y,
  eqSP := fun x y => x = y,
  neSP := fun x y => x ≠ y,
  ltSP := fun x y => Op.bytesLess x.toList y.toList = true,
  geSP := fun x y => Op.bytesLess x.toList y.toList = false,
  addK := fun k x y => k.wrap (x + y),
  subK := fun k x y => k.wrap (x - y),
  mulK := fun k x y => k.wrap (x * y),
  quoK := fun k x y => k.wrap (x.tdiv y),
  remK := fun x y => x.tmod y,
  convK := fun k x => k.wrap x,
  shlK := fun k x y => k.wrap (x * 2 ^ (min y.toNat k.bits)),
  shrK := fun k x y => x.fdiv (2 ^ (min y.toNat k.bits)),
  bitK := bitF,
  maxI := fun x y => if y > x then y else x,
  minI := fun x y => if y < x then y else x,
  nI := Int.ofNat,
  lenS := fun s => (s.size : Int),
  natOf := fun i => i.toNat,
  addN := fun x y => x + y,
  subN := fun x y => x - y,
  eqN := fun x y => x = y,
  leN := fun x y => x ≤ y,
  ltN := fun x y => x < y,
  catS := fun x y => x ++ y,
  subS := fun s l h => s.extract l.toNat h.toNat,
  bt := btF,
  rune := runeF,
  width := widthF,
  updG := updF,
  shG := shF,
  appG := appF,
  strG := strF,
  rowG := rowF,
  specP := ⟨fun p q => rfl, fun x y => rfl, fun x y => rfl, fun x y => rfl, fun x y => rfl, fun x y => rfl, fun x y => rfl, fun x y => rfl, fun x y => rfl, fun x y => rfl, fun x y => rfl, fun x y => rfl⟩,
  specF := ⟨fun k x y => rfl, fun k x y => rfl, fun k x y => rfl, fun k x y => rfl, fun x y => rfl, fun k x => rfl, fun k x y => rfl, fun k x y => rfl, fun op k x y => rfl, fun x y => rfl, fun x y => rfl, fun n => rfl, fun s => rfl, fun i => rfl, fun x y => rfl, fun x y => rfl, fun x y => rfl, fun s l h => rfl, fun s i => rfl, fun s i => rfl, fun s i => rfl, fun get i j v => rfl, fun get l => rfl, fun n get get' => rfl, fun s => rfl, fun sz cs => rfl⟩ }⟩

namespace Ops
variable [Ops]
theorem Imp_eq : ∀ p q, Imp p q = (p → q) := specP.1
theorem ltP_eq : ∀ x y, ltP x y = (x < y) := specP.2.1
theorem leP_eq : ∀ x y, leP x y = (x ≤ y) := specP.2.2.1
theorem eqP_eq : ∀ x y, eqP x y = (x = y) := specP.2.2.2.1
theorem neP_eq : ∀ x y, neP x y = (x ≠ y) := specP.2.2.2.2.1
theorem eqSP_eq : ∀ x y, eqSP x y = (x = y) := specP.2.2.2.2.2.1
theorem neSP_eq : ∀ x y, neSP x y = (x ≠ y) := specP.2.2.2.2.2.2.1
theorem ltSP_eq : ∀ x y, ltSP x y = (Op.bytesLess x.toList y.toList = true) := specP.2.2.2.2.2.2.2.1
theorem geSP_eq : ∀ x y, geSP x y = (Op.bytesLess x.toList y.toList = false) := specP.2.2.2.2.2.2.2.2.1
theorem addK_eq : ∀ (k : IntKind) (x : Int) (y : Int), addK k x y = (k.wrap (x + y)) := specF.1
theorem subK_eq : ∀ (k : IntKind) (x : Int) (y : Int), subK k x y = (k.wrap (x - y)) := specF.2.1
theorem mulK_eq : ∀ (k : IntKind) (x : Int) (y : Int), mulK k x y = (k.wrap (x * y)) := specF.2.2.1
theorem quoK_eq : ∀ (k : IntKind) (x : Int) (y : Int), quoK k x y = (k.wrap (x.tdiv y)) := specF.2.2.2.1
theorem remK_eq : ∀ (x : Int) (y : Int), remK x y = (x.tmod y) := specF.2.2.2.2.1
theorem convK_eq : ∀ (k : IntKind) (x : Int), convK k x = (k.wrap x) := specF.2.2.2.2.2.1
theorem shlK_eq : ∀ (k : IntKind) (x : Int) (y : Int), shlK k x y = (k.wrap (x * 2 ^ (min y.toNat k.bits))) := specF.2.2.2.2.2.2.1
theorem shrK_eq : ∀ (k : IntKind) (x : Int) (y : Int), shrK k x y = (x.fdiv (2 ^ (min y.toNat k.bits))) := specF.2.2.2.2.2.2.2.1
theorem bitK_eq : ∀ (op : BinOp) (k : IntKind) (x : Int) (y : Int), bitK op k x y = (
      match op with
      | .and => k.wrap (BitVec.ofInt k.bits x &&& BitVec.ofInt k.bits y).toNat
      | .or => k.wrap (BitVec.ofInt k.bits x ||| BitVec.ofInt k.bits y).toNat
      | .xor => k.wrap (BitVec.ofInt k.bits x ^^^ BitVec.ofInt k.bits y).toNat
      | _ => k.wrap (BitVec.ofInt k.bits x &&& ~~~ BitVec.ofInt k.bits y).toNat) := fun op k x y => by rw [specF.2.2.2.2.2.2.2.2.1]; rfl
theorem maxI_eq : ∀ (x : Int) (y : Int), maxI x y = (if y > x then y else x) := specF.2.2.2.2.2.2.2.2.2.1
theorem minI_eq : ∀ (x : Int) (y : Int), minI x y = (if y < x then y else x) := specF.2.2.2.2.2.2.2.2.2.2.1
theorem nI_eq : ∀ (n : Nat), nI n = (n) := specF.2.2.2.2.2.2.2.2.2.2.2.1
theorem lenS_eq : ∀ (s : ByteArray), lenS s = (s.size) := specF.2.2.2.2.2.2.2.2.2.2.2.2.1
theorem natOf_eq : ∀ (i : Int), natOf i = (i.toNat) := specF.2.2.2.2.2.2.2.2.2.2.2.2.2.1
theorem addN_eq : ∀ (x : Nat) (y : Nat), addN x y = (x + y) := specF.2.2.2.2.2.2.2.2.2.2.2.2.2.2.1
theorem subN_eq : ∀ (x : Nat) (y : Nat), subN x y = (x - y) := specF.2.2.2.2.2.2.2.2.2.2.2.2.2.2.2.1
theorem eqN_eq : ∀ (x : Nat) (y : Nat), eqN x y = (x = y) := specP.2.2.2.2.2.2.2.2.2.1
theorem leN_eq : ∀ (x : Nat) (y : Nat), leN x y = (x ≤ y) := specP.2.2.2.2.2.2.2.2.2.2.1
theorem ltN_eq : ∀ (x : Nat) (y : Nat), ltN x y = (x < y) := specP.2.2.2.2.2.2.2.2.2.2.2
theorem catS_eq : ∀ (x : ByteArray) (y : ByteArray), catS x y = (x ++ y) := specF.2.2.2.2.2.2.2.2.2.2.2.2.2.2.2.2.1
theorem subS_eq : ∀ (s : ByteArray) (l : Int) (h : Int), subS s l h = (s.extract l.toNat h.toNat) := specF.2.2.2.2.2.2.2.2.2.2.2.2.2.2.2.2.2.1
theorem bt_eq : ∀ (s : ByteArray) (i : Int), bt s i = ((s.data.toList.getD i.toNat 0).toNat) := fun s i => by rw [specF.2.2.2.2.2.2.2.2.2.2.2.2.2.2.2.2.2.2.1]; rfl
theorem rune_eq : ∀ (s : ByteArray) (i : Nat), rune s i = ((Utf8.decode s i).1) := fun s i => by rw [specF.2.2.2.2.2.2.2.2.2.2.2.2.2.2.2.2.2.2.2.1]; rfl
theorem width_eq : ∀ (s : ByteArray) (i : Nat), width s i = ((Utf8.decode s i).2) := fun s i => by rw [specF.2.2.2.2.2.2.2.2.2.2.2.2.2.2.2.2.2.2.2.2.1]; rfl
theorem updG_eq : ∀ (get : Nat → Nat → D) (i : Nat) (j : Nat) (v : D), updG get i j v = (fun i' j' => if i' = i ∧ j' = j then v else get i' j') := fun get i j v => by rw [specF.2.2.2.2.2.2.2.2.2.2.2.2.2.2.2.2.2.2.2.2.2.1]; rfl
theorem shG_eq : ∀ (get : Nat → Nat → D) (l : Nat), shG get l = (fun i j => get (l + i) j) := fun get l => by rw [specF.2.2.2.2.2.2.2.2.2.2.2.2.2.2.2.2.2.2.2.2.2.2.1]; rfl
theorem appG_eq : ∀ (n : Nat) (get : Nat → Nat → D) (get' : Nat → Nat → D), appG n get get' = (fun i j => if i < n then get i j else get' (i - n) j) := fun n get get' => by rw [specF.2.2.2.2.2.2.2.2.2.2.2.2.2.2.2.2.2.2.2.2.2.2.2.1]; rfl
theorem strG_eq : ∀ (s : ByteArray), strG s = (fun i _ => .int .u8 (bt s i)) := fun s => by rw [specF.2.2.2.2.2.2.2.2.2.2.2.2.2.2.2.2.2.2.2.2.2.2.2.2.1]; funext i j; rw [bt_eq]; rfl
theorem rowG_eq : ∀ (sz : Nat) (cs : List D), rowG sz cs = (fun i j => cs.getD (i * sz + j) .nilp) := fun sz cs => by rw [specF.2.2.2.2.2.2.2.2.2.2.2.2.2.2.2.2.2.2.2.2.2.2.2.2.2]; rfl
end Ops
open Ops
variable [Ops]

def addO : Nat → Nat → Nat
  | 0, n => n
  | k + 1, n => addN (k + 1) n

def offG : Nat → (Nat → Nat → D) → (Nat → Nat → D)
  | 0, g => g
  | k + 1, g => shG g (k + 1)

def setL {α : Type} : List α → Nat → α → List α
  | [], _, _ => []
  | _ :: r, 0, v => v :: r
  | a :: r, n + 1, v => a :: setL r n v

def getL {α : Type} : List α → Nat → α → α
  | [], _, d => d
  | a :: _, 0, _ => a
  | _ :: r, n + 1, d => getL r n d

def put (tm : List A) : Option Nat → A → List A
  | some d, v => setL tm d v
  | none, _ => tm

def absLeaf : Value → A
  | .int k n => .d (.int k n)
  | .bool b => .d (.bool b)
  | .string s => .d (.str s)
  | .slice none 0 0 => .nils
  | .pointer none => .d .nilp
  | .nilFunc => .d .nilf
  | .nilIface => .d .nili
  | _ => .undef

def absV : Value → A
  | .agg cs => .agg (cs.toList.map absLeaf)
  | v => absLeaf v

def ev (tm : List A) : Operand → A
  | .tmp t => getL tm t .undef
  | .const v => absV v
  | .func f => .clo f [] []
  | .global _ => .undef

/-- what a value is, as cells -/
def A.cells : A → List A
  | .agg cs => cs
  | a => [a]

/-- one cell's value -/
def A.leaf : A → Bool
  | .agg _ | .tup _ | .undef => false
  | _ => true

def allLeaf : List A → Bool
  | [] => true
  | a :: r => a.leaf && allLeaf r

def TK.isAgg : TK → Bool
  | .struct _ | .array _ _ => true
  | _ => false

def cmpQ (p q : Prop) (Q : A → Prop) : Prop := Imp p (Q (.d (.bool true))) ∧ Imp q (Q (.d (.bool false)))

def binI (op : BinOp) (k : IntKind) (x y : Int) (Q : A → Prop) : Prop :=
  match op with
  | .add => Q (.d (.int k (addK k x y)))
  | .sub => Q (.d (.int k (subK k x y)))
  | .mul => Q (.d (.int k (mulK k x y)))
  | .quo => neP y 0 ∧ Q (.d (.int k (quoK k x y)))
  | .rem => neP y 0 ∧ Q (.d (.int k (remK x y)))
  | .eql => cmpQ (eqP x y) (neP x y) Q
  | .neq => cmpQ (neP x y) (eqP x y) Q
  | .lss => cmpQ (ltP x y) (leP y x) Q
  | .leq => cmpQ (leP x y) (ltP y x) Q
  | .gtr => cmpQ (ltP y x) (leP x y) Q
  | .geq => cmpQ (leP y x) (ltP x y) Q
  | .and => Q (.d (.int k (bitK .and k x y)))
  | .or => Q (.d (.int k (bitK .or k x y)))
  | .xor => Q (.d (.int k (bitK .xor k x y)))
  | .andNot => Q (.d (.int k (bitK .andNot k x y)))
  | _ => False

def IntKind.same : IntKind → IntKind → Bool
  | .i8, .i8 | .i16, .i16 | .i32, .i32 | .i64, .i64 | .u8, .u8 | .u16, .u16 | .u32, .u32 | .u64, .u64 => true
  | _, _ => false

def binS (op : BinOp) (x y : ByteArray) (Q : A → Prop) : Prop :=
  match op with
  | .add => leP (lenS x) 2305843009213693952 ∧ leP (lenS y) 2305843009213693952 ∧ Q (.d (.str (catS x y)))
  | .eql => cmpQ (eqSP x y) (neSP x y) Q
  | .neq => cmpQ (neSP x y) (eqSP x y) Q
  | .lss => cmpQ (ltSP x y) (geSP x y) Q
  | .geq => cmpQ (geSP x y) (ltSP x y) Q
  | _ => False

def Bool.same : Bool → Bool → Bool
  | true, b => b
  | false, true => false
  | false, false => true

def binB (op : BinOp) (x y : Bool) (Q : A → Prop) : Prop :=
  match op with
  | .eql => Q (.d (.bool (Bool.same x y)))
  | .neq => Q (.d (.bool (!Bool.same x y)))
  | _ => False

def eqB (op : BinOp) (b : Bool) (Q : A → Prop) : Prop :=
  match op with
  | .eql => Q (.d (.bool b))
  | .neq => Q (.d (.bool (!b)))
  | _ => False

/-- compared with nil -/
def wnilcmp (T : Tab) (t : Nat) (op : BinOp) (x y : A) (Q : A → Prop) : Prop :=
  match T.ti t with
  | some ⟨.slice _, _, _, _⟩ => (match x, y with
    | .nils, .nils => eqB op true Q
    | .d (.sl n _ _), .nils => (match op with
      | .eql => Imp (eqN n 0) (Q (.d (.bool true))) ∧ Q (.d (.bool false))
      | .neq => Imp (eqN n 0) (Q (.d (.bool false))) ∧ Q (.d (.bool true))
      | _ => False)
    | .ref _ _ _ _, .nils => (match op with
      | .eql => Q (.d (.bool true)) ∧ Q (.d (.bool false))
      | .neq => Q (.d (.bool false)) ∧ Q (.d (.bool true))
      | _ => False)
    | _, _ => False)
  | some ⟨.pointer _, _, _, _⟩ => (match x, y with
    | .d .nilp, .d .nilp => eqB op true Q
    | .ptr _ _, .d .nilp => eqB op false Q
    | .eptr _ _ _ _, .d .nilp => eqB op false Q
    | .iptr _ _ _ _, .d .nilp => eqB op false Q
    | _, _ => False)
  | _ => False

def wbin (T : Tab) (t : Nat) (op : BinOp) (x y : A) (Q : A → Prop) : Prop :=
  match x, y with
  | .d (.int k a), .d (.int k' b) =>
    match op with
    | .shl => leP 0 b ∧ Q (.d (.int k (shlK k a b)))
    | .shr => leP 0 b ∧ Q (.d (.int k (shrK k a b)))
    | op => IntKind.same k k' = true ∧ binI op k a b Q
  | .d (.str a), .d (.str b) => binS op a b Q
  | .d (.bool a), .d (.bool b) => match T.ti t with
    | some ⟨.bool, _, _, _⟩ => binB op a b Q
    | _ => False
  | .agg xs, .agg ys => match op, T.eq t with
    | .eql, some e => e xs ys Q
    | .neq, some e => e xs ys (fun r => match r with | .d (.bool b) => (match b with | true => Q (.d (.bool false)) | false => Q (.d (.bool true))) | _ => False)
    | _, _ => False
  | x, y => wnilcmp T t op x y Q

/-- a run of n cells of data from (i, j) on -/
def cellsD (get : Nat → Nat → D) (i j : Nat) : Nat → List A
  | 0 => []
  | n + 1 => .d (get i j) :: cellsD get i (j + 1) n

def takeL {α : Type} : List α → Nat → List α
  | _, 0 => []
  | [], _ + 1 => []
  | a :: r, n + 1 => a :: takeL r n

def dropL {α : Type} : List α → Nat → List α
  | l, 0 => l
  | [], _ + 1 => []
  | _ :: r, n + 1 => dropL r n

def lenL {α : Type} : List α → Nat
  | [] => 0
  | _ :: r => lenL r + 1

/-- write cells over a list from a place on -/
def overL {α : Type} : List α → Nat → List α → List α
  | l, _, [] => l
  | [], _, _ :: _ => []
  | _ :: r, 0, b :: bs => b :: overL r 0 bs
  | a :: r, n + 1, b :: bs => a :: overL r n (b :: bs)

def wload (T : Tab) (t : Nat) (p : A) (hp : AHeap) (Q : A → Prop) : Prop :=
  match T.ti t with
  | none => False
  | some ti =>
    match p with
    | .ptr o off =>
      match getL hp o .dead with
      | .box cs => Nat.ble (off + ti.size) (lenL cs) = true ∧ Nat.ble 1 ti.size = true ∧ Q (if ti.kind.isAgg then .agg (takeL (dropL cs off) ti.size) else getL cs off .undef)
      | _ => False
    | .eptr o i j len =>
      match getL hp o .dead with
      | .arr n sz get _ => eqN n len ∧ Nat.ble (j + ti.size) sz = true ∧ Nat.ble 1 ti.size = true ∧ ltN i n ∧ Q (if ti.kind.isAgg then .agg (cellsD get i j ti.size) else .d (get i j))
      | _ => False
    | .iptr get i j sz => Nat.ble (j + ti.size) sz = true ∧ Nat.ble 1 ti.size = true ∧ Q (if ti.kind.isAgg then .agg (cellsD get i j ti.size) else .d (get i j))
    | _ => False

/-- what may be written into an array of data: data; an own slice is frozen first -/
def wdata (v : A) (hp : AHeap) (K : D → AHeap → Prop) : Prop :=
  match v with
  | .d x => K x hp
  | .nils => K (.sl 0 1 (fun _ _ => .nilp)) hp
  | .ref o off len sz =>
    match getL hp o .dead with
    | .arr n sz' get _ => Nat.beq sz sz' = true ∧ eqN (addO off len) n ∧ K (.sl len sz (offG off get)) (setL hp o (.arr n sz get n))
    | _ => False
  | _ => False

def wdatas : List A → AHeap → (List D → AHeap → Prop) → Prop
  | [], hp, K => K [] hp
  | v :: r, hp, K => wdata v hp (fun x hp' => wdatas r hp' (fun xs hp'' => K (x :: xs) hp''))

def updsG (get : Nat → Nat → D) (i j : Nat) : List D → (Nat → Nat → D)
  | [] => get
  | x :: xs => updsG (updG get i j x) i (j + 1) xs

def wstore (T : Tab) (t : Nat) (p v : A) (hp : AHeap) (K : AHeap → Prop) : Prop :=
  match T.ti t with
  | none => False
  | some ti =>
    Nat.beq (lenL v.cells) ti.size = true ∧ allLeaf v.cells = true ∧
    match p with
    | .ptr o off =>
      match getL hp o .dead with
      | .box cs => Nat.ble (off + ti.size) (lenL cs) = true ∧ K (setL hp o (.box (overL cs off v.cells)))
      | _ => False
    | .eptr o i j len => wdatas v.cells hp (fun xs hp' =>
      match getL hp' o .dead with
      | .arr n sz get fz => eqN n len ∧ Nat.ble (j + ti.size) sz = true ∧ leN fz i ∧ ltN i n ∧ K (setL hp' o (.arr n sz (updsG get i j xs) fz))
      | _ => False)
    | _ => False

def wlen (T : Tab) (t : Nat) (x : A) (Q : A → Prop) : Prop :=
  match T.ti t, x with
  | some ⟨.string, _, _, _⟩, .d (.str s) => Q (.d (.int .i64 (lenS s)))
  | some ⟨.slice _, _, _, _⟩, .d (.sl n _ _) => Q (.d (.int .i64 (nI n)))
  | some ⟨.slice _, _, _, _⟩, .nils => Q (.d (.int .i64 0))
  | some ⟨.slice _, _, _, _⟩, .ref _ _ len _ => Q (.d (.int .i64 (nI len)))
  | _, _ => False

def loG (lo : Option A) (get : Nat → Nat → D) (l : Int) : Nat → Nat → D :=
  match lo with
  | none => get
  | some _ => shG get (natOf l)

def wslice (T : Tab) (t : Nat) (x : A) (lo hi : Option A) (hp : AHeap) (Q : A → AHeap → Prop) : Prop :=
  let low : Option Int := match lo with | none => some 0 | some (.d (.int _ n)) => some n | _ => none
  match low with
  | none => False
  | some l =>
  match x with
  | .d (.str s) => match T.ti t with
    | some ⟨.string, _, _, _⟩ =>
      (match hi with
      | none => leP 0 l ∧ leP l (lenS s) ∧ Q (.d (.str (subS s l (lenS s)))) hp
      | some (.d (.int _ h)) => leP 0 l ∧ leP l h ∧ leP h (lenS s) ∧ Q (.d (.str (subS s l h))) hp
      | _ => False)
    | _ => False
  | .d (.sl n sz get) => match T.ti t with
    | some ⟨.slice e, _, _, _⟩ => (match T.ti e with | some te => Nat.beq te.size sz = true ∨ eqN n 0 | none => False) ∧
      (match hi with
      | none => leP 0 l ∧ leP l (nI n) ∧ Q (.d (.sl (subN n (natOf l)) sz (loG lo get l))) hp
      | some (.d (.int _ h)) => leP 0 l ∧ leP l h ∧ leP h (nI n) ∧ Q (.d (.sl (subN (natOf h) (natOf l)) sz (loG lo get l))) hp
      | _ => False)
    | _ => False
  | .ref o off len sz =>
    match getL hp o .dead with
    | .arr n sz' get _ => match T.ti t with
      | some ⟨.slice e, _, _, _⟩ => (match T.ti e with | some te => Nat.beq te.size sz = true | none => False) ∧ Nat.beq sz sz' = true ∧ eqN (addO off len) n ∧
        (match hi with
        | none => leP 0 l ∧ leP l (nI len) ∧ Q (.ref o (addO off (natOf l)) (subN len (natOf l)) sz) hp
        | some (.d (.int _ h)) => leP 0 l ∧ leP l h ∧ leP h (nI len) ∧ Q (.d (.sl (subN (natOf h) (natOf l)) sz (shG get (addO off (natOf l))))) (setL hp o (.arr n sz get n))
        | _ => False)
      | _ => False
    | _ => False
  | _ => False

def windexAddr (T : Tab) (t : Nat) (x i : A) (hp : AHeap) (Q : A → Prop) : Prop :=
  match T.ti t, i with
  | some ⟨.slice e, _, _, _⟩, .d (.int _ n) =>
    (match T.ti e with
    | some te =>
      (match x with
      | .d (.sl len sz get) => leP 0 n ∧ ltP n (nI len) ∧ Nat.beq te.size sz = true ∧ Q (.iptr get (natOf n) 0 sz)
      | .ref o off len sz =>
        (match getL hp o .dead with
        | .arr m sz' _ _ => leP 0 n ∧ ltP n (nI len) ∧ Nat.beq te.size sz = true ∧ Nat.beq sz sz' = true ∧ eqN (addO off len) m ∧ Q (.eptr o (addO off (natOf n)) 0 (addO off len))
        | _ => False)
      | _ => False)
    | none => False)
  | some ⟨.array len e, _, _, _⟩, .d (.int _ n) =>
    (match T.ti e with
    | some te =>
      (match n with
      | .ofNat m =>
        (match x with
        | .ptr o k => Nat.blt m len = true ∧ Q (.ptr o (k + m * te.size))
        | .eptr o i j l => Nat.blt m len = true ∧ Q (.eptr o i (j + m * te.size) l)
        | .iptr g i j sz => Nat.blt m len = true ∧ Q (.iptr g i (j + m * te.size) sz)
        | _ => False)
      | .negSucc _ => False)
    | none => False)
  | _, _ => False

def windex (T : Tab) (t : Nat) (x i : A) (Q : A → Prop) : Prop :=
  match x, i with
  | .d (.str s), .d (.int _ n) => (match T.ti t with
    | some ⟨.string, _, _, _⟩ => leP 0 n ∧ ltP n (lenS s) ∧ Q (.d (.int .u8 (bt s n)))
    | _ => False)
  | .agg cs, .d (.int _ n) =>
    match T.ti t with
    | some ⟨.array len e, _, _, _⟩ => leP 0 n ∧ ltP n (nI len) ∧
      (match T.ti e with
      | some te => ∃ i, n = nI i ∧ Nat.ble (i * te.size + te.size) (lenL cs) = true ∧ Nat.ble 1 te.size = true ∧ Q (if te.kind.isAgg then .agg (takeL (dropL cs (i * te.size)) te.size) else getL cs (i * te.size) .undef)
      | none => False)
    | _ => False
  | _, _ => False

def fieldOf (T : Tab) (t f : Nat) : Option (Nat × TI) :=
  match T.ti t with
  | some ⟨.struct fs, _, _, _⟩ =>
    match getL (fs.map some) f none with
    | some (off, ft) => match T.ti ft with
      | some ti => some (off, ti)
      | none => none
    | none => none
  | _ => none

def wfieldAddr (T : Tab) (t f : Nat) (x : A) (Q : A → Prop) : Prop :=
  match fieldOf T t f with
  | some (off, ti) => Nat.ble 1 ti.size = true ∧
    match x with
    | .ptr o k => Q (.ptr o (k + off))
    | .eptr o i j len => Q (.eptr o i (j + off) len)
    | .iptr get i j sz => Q (.iptr get i (j + off) sz)
    | _ => False
  | none => False

def wfield (T : Tab) (t f : Nat) (x : A) (Q : A → Prop) : Prop :=
  match fieldOf T t f, x with
  | some (off, ti), .agg cs => Nat.ble (off + ti.size) (lenL cs) = true ∧ Nat.ble 1 ti.size = true ∧ Q (if ti.kind.isAgg then .agg (takeL (dropL cs off) ti.size) else getL cs off .undef)
  | _, _ => False

/-- fill parts into zero cells -/
def fillA (place : Nat → Option (Nat × Nat)) (cells : List A) : List (Nat × A) → Option (List A)
  | [] => some cells
  | (i, v) :: rest =>
    match place i with
    | none => none
    | some (off, size) =>
      if allLeaf v.cells && Nat.beq (lenL v.cells) size && Nat.ble (off + size) (lenL cells) then fillA place (overL cells off v.cells) rest else none

def structPlace (T : Tab) (fs : List (Nat × Nat)) (i : Nat) : Option (Nat × Nat) :=
  match getL (fs.map some) i none with
  | some (off, ft) => match T.ti ft with
    | some ti => some (off, ti.size)
    | none => none
  | none => none

def allTI (T : Tab) : List (Nat × Nat) → Bool
  | [] => true
  | (_, t) :: r => (match T.ti t with | some _ => true | none => false) && allTI T r

def wbuild (T : Tab) (t : Nat) (parts : List (Nat × A)) (Q : A → Prop) : Prop :=
  match T.ti t with
  | some ⟨.struct fs, _, _, zero⟩ => allTI T fs = true ∧
    (match fillA (structPlace T fs) zero parts with
    | some cs => Q (.agg cs)
    | none => False)
  | some ⟨.array _ e, _, _, zero⟩ =>
    match T.ti e with
    | some te => match fillA (fun i => some (i * te.size, te.size)) zero parts with
      | some cs => Q (.agg cs)
      | none => False
    | none => False
  | _ => False

def repL {α : Type} (xs : List α) : Nat → List α
  | 0 => []
  | n + 1 => xs ++ repL xs n

def wbuildSlice (T : Tab) (t len : Nat) (parts : List (Nat × A)) (hp : AHeap) (Q : A → AHeap → Prop) : Prop :=
  match T.ti t with
  | some ⟨.slice e, _, _, _⟩ =>
    match T.ti e with
    | some te => Nat.ble (len * te.size) 16777216 = true ∧ Nat.ble 1 te.size = true ∧
      match fillA (fun i => some (i * te.size, te.size)) (repL te.zero len) parts with
      | some cs => wdatas cs hp (fun xs hp' => Q (.ref (lenL hp') 0 len te.size) (hp' ++ [.arr len te.size (rowG te.size xs) 0]))
      | none => False
    | none => False
  | _ => False

def wmake (T : Tab) (t : Nat) (n c : A) (hp : AHeap) (Q : A → AHeap → Prop) : Prop :=
  match T.ti t, n, c with
  | some ⟨.slice e, _, _, _⟩, .d (.int _ n), .d (.int _ c) =>
    match T.ti e with
    | some te => leP 0 n ∧ leP n c ∧ leP c 1073741824 ∧ Nat.ble te.bytes 65536 = true ∧ Nat.ble 1 te.size = true ∧
      wdatas te.zero hp (fun xs hp' => Q (.ref (lenL hp') 0 (natOf n) te.size) (hp' ++ [.arr (natOf n) te.size (fun _ j => getL xs j .nilp) 0]))
    | none => False
  | _, _, _ => False

/-- what is appended: as data, its length -/
def wsrc (x : A) (hp : AHeap) (K : Nat → (Nat → Nat → D) → Nat → AHeap → Prop) : Prop :=
  match x with
  | .nils => K 0 (fun _ _ => .nilp) 0 hp
  | .d (.sl n sz get) => K n get sz hp
  | .d (.str s) => K (natOf (lenS s)) (strG s) 1 hp
  | .ref o off len sz =>
    match getL hp o .dead with
    | .arr n sz' get _ => Nat.beq sz sz' = true ∧ eqN (addO off len) n ∧ K len (offG off get) sz hp
    | _ => False
  | _ => False

def noInt : Option TI → Bool
  | some ⟨.slice _, _, _, _⟩ => true
  | some ⟨.string, _, _, _⟩ => true
  | _ => false

def wappend (T : Tab) (t t2 : Nat) (x y : A) (hp : AHeap) (Q : A → AHeap → Prop) : Prop :=
  match T.ti t with
  | some ⟨.slice e, _, _, _⟩ =>
    match T.ti e with
    | some te => noInt (T.ti t2) = true ∧ Nat.ble 1 te.size = true ∧ Nat.ble te.bytes 65536 = true ∧
      wsrc y hp (fun m get' sz' hp => (Nat.beq sz' te.size = true ∨ eqN m 0) ∧
        match x with
        | .nils => leN m 1073741824 ∧ Q (.ref (lenL hp) 0 m te.size) (hp ++ [.arr m te.size get' 0])
        | .ref o off len sz =>
          match getL hp o .dead with
          | .arr n sz' get fz => Nat.beq sz te.size = true ∧ Nat.beq sz sz' = true ∧ Nat.beq off 0 = true ∧ eqN len n ∧ leN fz len ∧ leN (addN len m) 1073741824 ∧ Q (.ref o 0 (addN len m) sz) (setL hp o (.arr (addN len m) sz (appG len get get') fz))
          | _ => False
        | _ => False)
    | none => False
  | _ => False

def wmax (x y : A) (Q : A → Prop) : Prop :=
  match x, y with
  | .d (.int k a), .d (.int _ b) => Q (.d (.int k (maxI a b)))
  | _, _ => False

def wmin (x y : A) (Q : A → Prop) : Prop :=
  match x, y with
  | .d (.int k a), .d (.int _ b) => Q (.d (.int k (minI a b)))
  | _, _ => False

def wconv (T : Tab) (src dst : Nat) (x : A) (Q : A → Prop) : Prop :=
  match T.ti src, T.ti dst, x with
  | some ⟨.int _, _, _, _⟩, some ⟨.int k, _, _, _⟩, .d (.int _ n) => Q (.d (.int k (convK k n)))
  | some ⟨.string, _, _, _⟩, some ⟨.string, _, _, _⟩, .d (.str s) => Q (.d (.str s))
  | _, _, _ => False

def wun (op : UnOp) (x : A) (Q : A → Prop) : Prop :=
  match op, x with
  | .not, .d (.bool b) => Q (.d (.bool (!b)))
  | .neg, .d (.int k n) => Q (.d (.int k (subK k 0 n)))
  | _, _ => False

def wnil (x : A) (Q : A → Prop) : Prop :=
  match x with
  | .ptr o k => Q (.ptr o k)
  | .eptr o i j l => Q (.eptr o i j l)
  | .iptr g i j sz => Q (.iptr g i j sz)
  | .clo f a b => Q (.clo f a b)
  | _ => False

def wnext (x : A) (hp : AHeap) (Q : A → AHeap → Prop) : Prop :=
  match x with
  | .itr o =>
    match getL hp o .dead with
    | .iter s pos =>
      Imp (ltP (nI pos) (lenS s)) (Q (.tup [.d (.bool true), .d (.int .i64 (nI pos)), .d (.int .i32 (rune s pos))]) (setL hp o (.iter s (addN pos (width s pos))))) ∧
      Imp (leP (lenS s) (nI pos)) (Q (.tup [.d (.bool false)]) hp)
    | _ => False
  | _ => False

/-- A new variable: a strings.Builder is an object of its own kind. -/
def walloc (T : Tab) (e : Nat) (ti : TI) (hp : AHeap) (Q : A → AHeap → Prop) : Prop :=
  match ti.zero with
  | [.d .nilp, .nils] => (match Nat.beq e T.bld with
    | true => Q (.ptr (lenL hp) 0) (hp ++ [.bld ⟨⟨[]⟩⟩])
    | false => Q (.ptr (lenL hp) 0) (hp ++ [.box ti.zero]))
  | _ => Q (.ptr (lenL hp) 0) (hp ++ [.box ti.zero])

/-- an operation that calls no function of the program -/
def wprim (T : Tab) (o : Oper) (tm : List A) (hp : AHeap) (Q : A → AHeap → Prop) : Prop :=
  match o.op with
  | .move x | .assign x => Q (ev tm x) hp
  | .pick c a b => (match ev tm c with
    | .d (.bool t) => (match t with
      | true => Q (ev tm a) hp
      | false => Q (ev tm b) hp)
    | _ => False)
  | .alloc e => (match T.ti e with
    | some ti => walloc T e ti hp Q
    | none => False)
  | .box _ x => allLeaf (ev tm x).cells = true ∧ Q (.ptr (lenL hp) 0) (hp ++ [.box (ev tm x).cells])
  | .build t parts => wbuild T t (parts.toList.map fun (i, x) => (i, ev tm x)) (fun a => Q a hp)
  | .buildSlice t len parts => wbuildSlice T t len (parts.toList.map fun (i, x) => (i, ev tm x)) hp Q
  | .load t a => wload T t (ev tm a) hp (fun a => Q a hp)
  | .store t a x => wstore T t (ev tm a) (ev tm x) hp (fun hp' => Q .undef hp')
  | .nilCheck x => wnil (ev tm x) (fun a => Q a hp)
  | .binOp op t x y _ => wbin T t op (ev tm x) (ev tm y) (fun a => Q a hp)
  | .unOp op _ x => wun op (ev tm x) (fun a => Q a hp)
  | .convert src dst x => wconv T src dst (ev tm x) (fun a => Q a hp)
  | .makeFunc (.func f) first caps => Q (.clo f (first.toList.map (ev tm)) (caps.toList.map (ev tm))) hp
  | .makeSlice t l c => wmake T t (ev tm l) (ev tm c) hp Q
  | .slice t x lo hi none => wslice T t (ev tm x) (lo.map (ev tm)) (hi.map (ev tm)) hp Q
  | .fieldAddr t x f => wfieldAddr T t f (ev tm x) (fun a => Q a hp)
  | .field t x f => wfield T t f (ev tm x) (fun a => Q a hp)
  | .indexAddr t x i => windexAddr T t (ev tm x) (ev tm i) hp (fun a => Q a hp)
  | .index t x i => windex T t (ev tm x) (ev tm i) (fun a => Q a hp)
  | .range t x => (match ev tm x with
    | .d (.str s) => (match T.ti t with
      | some ⟨.string, _, _, _⟩ => Q (.itr (lenL hp)) (hp ++ [.iter s 0])
      | _ => False)
    | _ => False)
  | .next it true => wnext (ev tm it) hp Q
  | .extract t i => (match ev tm t with
    | .tup ps => Nat.blt i (lenL ps) = true ∧ Q (getL ps i .undef) hp
    | _ => False)
  | .call c => (match c.callee with
    | .builtin .len => (match c.args, c.argTypes with
      | ⟨[x]⟩, ⟨[t]⟩ => wlen T t (ev tm x) (fun a => Q a hp)
      | _, _ => False)
    | .builtin .max => (match c.args with
      | ⟨[x, y]⟩ => wmax (ev tm x) (ev tm y) (fun a => Q a hp)
      | _ => False)
    | .builtin .min => (match c.args with
      | ⟨[x, y]⟩ => wmin (ev tm x) (ev tm y) (fun a => Q a hp)
      | _ => False)
    | .builtin .append => (match c.args, c.argTypes with
      | ⟨[x, y]⟩, ⟨[t, t2]⟩ => wappend T t t2 (ev tm x) (ev tm y) hp Q
      | _, _ => False)
    | _ => False)
  | _ => False

end Go.VM

/- What the abstract values stand for, and that it stays so where the world goes on. -/
set_option linter.unusedSectionVars false
namespace Go.VM

/-- the ground: the blocks that may not be touched -/
abbrev Gd := Nat → Prop

/-- nothing of the ground was touched -/
structure Below (B : Gd) (w w' : World) : Prop where
  os : w'.os = w.os
  tape : w'.tape = w.tape
  output : w'.output = w.output
  size : w.heap.size ≤ w'.heap.size
  block : ∀ k, k < w.heap.size → B k → w'.heap[k]? = w.heap[k]?

theorem Below.refl (B : Gd) (w : World) : Below B w w := ⟨rfl, rfl, rfl, Nat.le_refl _, fun _ _ _ => rfl⟩

theorem Below.trans {B : Gd} {a b c : World} (h : Below B a b) (k : Below B b c) : Below B a c :=
  ⟨k.os.trans h.os, k.tape.trans h.tape, k.output.trans h.output, Nat.le_trans h.size k.size, fun i hi hb => (k.block i (Nat.lt_of_lt_of_le hi h.size) hb).trans (h.block i hi hb)⟩

theorem Below.drew {B : Gd} {a w : World} (h : Below B a w) : Below B a w.drew := ⟨h.os, h.tape, h.output, h.size, h.block⟩

theorem Below.alloc {B : Gd} {a w : World} (h : Below B a w) (o : Obj) : Below B a (w.alloc o) :=
  ⟨h.os, h.tape, h.output, Nat.le_trans h.size (by simp), fun k hk hb => (Go.RowKit.Below.heap_alloc w o k (Nat.lt_of_lt_of_le hk h.size)).trans (h.block k hk hb)⟩

theorem Below.setCell {B : Gd} {a w : World} (h : Below B a w) {p : Addr} (hp : ¬ B p.block) (u : Value) : Below B a (w.setCell p u) :=
  ⟨h.os, h.tape, h.output, Nat.le_trans h.size (by simp [World.setCell]), fun k hk hb => (Go.RowKit.Below.heap_setCell w p u k (fun e => hp (e ▸ hb))).trans (h.block k hk hb)⟩

/-- The same data, seen up to its length. -/
inductive Deq : D → D → Prop
  | refl (x : D) : Deq x x
  | nil (sz sz' : Nat) (g g' : Nat → Nat → D) : Deq (.sl 0 sz g) (.sl 0 sz' g')
  | sl (len sz : Nat) (g g' : Nat → Nat → D) (h : ∀ i j, i < len → j < sz → Deq (g i j) (g' i j)) : Deq (.sl len sz g) (.sl len sz g')

inductive RepD (w : World) (I : Nat → Nat → Prop) : Value → D → Prop
  | int (k : IntKind) (n : Int) : RepD w I (.int k n) (.int k n)
  | bool (b : Bool) : RepD w I (.bool b) (.bool b)
  | str (s : ByteArray) : RepD w I (.string s) (.str s)
  | nilp : RepD w I (.pointer none) .nilp
  | nilf : RepD w I .nilFunc .nilf
  | nili : RepD w I .nilIface .nili
  | sl0 (a : Option Addr) (cap sz : Nat) (get : Nat → Nat → D) : RepD w I (.slice a 0 cap) (.sl 0 sz get)
  | sl (b o len cap sz : Nat) (get : Nat → Nat → D) (vals : Nat → Nat → Value) (hl : len ≤ cap)
      (hc : ∀ i j, i < len → j < sz → I b (o + (i * sz + j)) ∧ w.cell? ⟨b, o + (i * sz + j), none⟩ = some (vals i j))
      (hr : ∀ i j, i < len → j < sz → RepD w I (vals i j) (get i j)) : RepD w I (.slice (some ⟨b, o, none⟩) len cap) (.sl len sz get)

def RefOk (w : World) (ι : Nat → Option Nat) (o off len sz : Nat) (v : Value) : Prop :=
  (∃ b cap vs el fr, ι o = some b ∧ v = .slice (some ⟨b, off * sz, none⟩) len cap ∧ w.heap[b]? = some (.cells vs el fr) ∧ (off + cap) * sz ≤ vs.size ∧ len ≤ cap) ∨
  (ι o = none ∧ v = .slice none 0 0 ∧ len = 0) ∨ (∃ a, v = .slice a 0 0 ∧ len = 0 ∧ off ≠ 0)

/-- objects that pointers point into -/
def AObj.isBox : AObj → Prop
  | .box _ => True
  | .bld _ => True
  | _ => False

inductive RepA (w : World) (I : Nat → Nat → Prop) (ι : Nat → Option Nat) (H : AHeap) : Value → A → Prop
  | d (v : Value) (x : D) (h : RepD w I v x) : RepA w I ι H v (.d x)
  | nils : RepA w I ι H (.slice none 0 0) .nils
  | ref (v : Value) (o off len sz : Nat) (ho : o < H.length)
      (h : ∀ n sz' get fz, H[o]? = some (.arr n sz' get fz) → sz' = sz → off + len ≤ n ∧ (off + len = n → RefOk w ι o off len sz v)) (hlen : ∃ a c, v = .slice a len c) : RepA w I ι H v (.ref o off len sz)
  | ptr (v : Value) (o off : Nat) (ho : o < H.length) (h : ∀ x, H[o]? = some x → x.isBox → ∃ b, ι o = some b ∧ v = .pointer (some ⟨b, off, none⟩)) (hv : ∃ a, v = .pointer (some a)) : RepA w I ι H v (.ptr o off)
  | eptr (v : Value) (o i j len : Nat) (ho : o < H.length)
      (h : ∀ n sz get fz, H[o]? = some (.arr n sz get fz) → len ≤ n ∧ (n = len → i < n → ∃ b, ι o = some b ∧ v = .pointer (some ⟨b, i * sz + j, none⟩))) (hv : ∃ a, v = .pointer (some a)) : RepA w I ι H v (.eptr o i j len)
  | iptr (b o : Nat) (get : Nat → Nat → D) (i j sz : Nat) (vals : Nat → Value)
      (hc : ∀ q, q < sz → I b (o + q) ∧ w.cell? ⟨b, o + q, none⟩ = some (vals q))
      (hr : ∀ q, q < sz → RepD w I (vals q) (get i q)) : RepA w I ι H (.pointer (some ⟨b, o + j, none⟩)) (.iptr get i j sz)
  | itr (v : Value) (o : Nat) (ho : o < H.length) (h : ∀ s p, H[o]? = some (.iter s p) → ∃ b, ι o = some b ∧ v = .pointer (some ⟨b, 0, none⟩)) (hv : ∃ a, v = .pointer (some a)) : RepA w I ι H v (.itr o)
  | clo (f : FuncId) (fv cv : List Value) (first caps : List A) (h1 : fv.length = first.length) (h2 : cv.length = caps.length)
      (hf : ∀ k, k < first.length → RepA w I ι H (fv.getD k undef) (first.getD k .undef))
      (hc : ∀ k, k < caps.length → RepA w I ι H (cv.getD k undef) (caps.getD k .undef)) : RepA w I ι H (.func (.func f) fv.toArray cv.toArray) (.clo f first caps)
  | agg (vs : List Value) (cs : List A) (h1 : vs.length = cs.length) (hc : ∀ k, k < cs.length → RepA w I ι H (vs.getD k undef) (cs.getD k .undef)) : RepA w I ι H (.agg vs.toArray) (.agg cs)
  | tup (vs : List Value) (cs : List A) (h1 : vs.length = cs.length) (hc : ∀ k, k < cs.length → RepA w I ι H (vs.getD k undef) (cs.getD k .undef)) : RepA w I ι H (.tuple vs.toArray) (.tup cs)
  | undef (v : Value) : RepA w I ι H v .undef

/-- a block that may be written from cell n on -/
def Free (w : World) (I : Nat → Nat → Prop) (b n : Nat) : Prop := (∀ k, n ≤ k → ¬ I b k) ∧ (∀ k, n ≤ k → w.frozen? ⟨b, k, none⟩ = false)

/-- what stands in the program's own variables, as long as the proof lasts: block, cell, value; and the numbers of the types strings.Builder and uint8 -/
class Glb where
  G : Nat → Nat → Value → Prop
  bt : Nat
  u8 : Nat
variable [Glb]

/-- the slice of bytes that a builder holds: none yet, or a row of its own -/
def BufOk (B : Gd) (I : Nat → Nat → Prop) (w : World) (b : Nat) (c : ByteArray) (v : Value) : Prop :=
  (v = .slice none 0 0 ∧ c.size = 0) ∨ ∃ g cap cur fz, v = .slice (some ⟨g, 0, none⟩) c.size cap ∧ g ≠ b ∧ ¬ B g ∧ (∀ k, ¬ I g k) ∧ c.size ≠ 0 ∧ w.heap[g]? = some (.cells cur Glb.u8 fz) ∧ fz.2 ≤ c.size ∧
    c.size ≤ cap ∧ cap ≤ cur.size ∧ c.size ≤ 140737488355328 ∧ ∀ (k : Nat) (x : UInt8), c.data.toList[k]? = some x → cur[k]? = some (Value.int .u8 x.toNat)

def ObjOk (B : Gd) (ι : Nat → Option Nat) (I : Nat → Nat → Prop) (w : World) (H : AHeap) (o : Nat) : AObj → Prop
  | .dead => True
  | .bld c => ∃ b p v, ι o = some b ∧ ¬ B b ∧ w.heap[b]? = some (.cells #[p, v] Glb.bt (0, 0)) ∧ (p = .pointer none ∨ p = .pointer (some ⟨b, 0, none⟩)) ∧ (∀ k, ¬ I b k) ∧ BufOk B I w b c v
  | .iter s p => ∃ b, ι o = some b ∧ ¬ B b ∧ w.heap[b]? = some (.stringIter s p)
  | .box cs => ∃ b vs el fr, ι o = some b ∧ ¬ B b ∧ w.heap[b]? = some (.cells vs el fr) ∧ vs.size = cs.length ∧ (∀ k, k < cs.length → RepA w I ι H (vs.getD k undef) (cs.getD k .undef)) ∧ Free w I b 0
  | .arr n sz get fz => fz ≤ n ∧ ((∃ b vs el fr, ι o = some b ∧ ¬ B b ∧ w.heap[b]? = some (.cells vs el fr) ∧ n * sz ≤ vs.size ∧ (∀ i j, i < n → j < sz → RepD w I (vs.getD (i * sz + j) undef) (get i j)) ∧ Free w I b (fz * sz)) ∨ (ι o = none ∧ n = 0))

def AObj.live : AObj → Prop
  | .dead => False
  | _ => True

/-- where, below a proof's ground, cells may never change -/
class Lim where
  L : Nat → Nat → Prop
variable [Lim]

/-- the blocks of an object: a builder has two -/
def Own (w : World) (ι : Nat → Option Nat) (o : Nat) : AObj → Nat → Prop
  | .bld _, b => ι o = some b ∨ ∃ b0 n c, ι o = some b0 ∧ w.cell? ⟨b0, 1, none⟩ = some (.slice (some ⟨b, 0, none⟩) n c)
  | .box _, b => ι o = some b
  | .arr _ _ _ _, b => ι o = some b
  | .iter _ _, b => ι o = some b
  | .dead, b => ι o = some b

structure Rel (B : Gd) (ι : Nat → Option Nat) (I : Nat → Nat → Prop) (w : World) (H : AHeap) : Prop where
  base : ∀ k, B k → k < w.heap.size
  imm : ∀ b k, I b k → b < w.heap.size
  low : ∀ b k, B b → I b k → Lim.L b k
  glob : ∀ b k v, Glb.G b k v → I b k ∧ w.cell? ⟨b, k, none⟩ = some v
  obj : ∀ o x, H[o]? = some x → ObjOk B ι I w H o x
  inj : ∀ o o' x x' b, H[o]? = some x → H[o']? = some x' → x.live → x'.live → Own w ι o x b → Own w ι o' x' b → o = o'

theorem Rel.fresh {B : Gd} {ι : Nat → Option Nat} {I : Nat → Nat → Prop} {w : World} {H : AHeap} (r : Rel B ι I w H) : ¬ B w.heap.size := fun h => Nat.lt_irrefl _ (r.base _ h)

/-- nothing that may not change has changed -/
def Same (I : Nat → Nat → Prop) (w w' : World) : Prop := ∀ b k, I b k → w'.cell? ⟨b, k, none⟩ = w.cell? ⟨b, k, none⟩

theorem RepD.mono {w w' : World} {I I' : Nat → Nat → Prop} {v : Value} {x : D} (h : RepD w I v x) (hs : Same I w w') (hi : ∀ b k, I b k → I' b k) : RepD w' I' v x := by
  induction h with
  | int k n => exact .int k n
  | bool b => exact .bool b
  | str s => exact .str s
  | nilp => exact .nilp
  | nilf => exact .nilf
  | nili => exact .nili
  | sl0 a cap sz get => exact .sl0 a cap sz get
  | sl b o len cap sz get vals hl hc hr ih =>
    exact .sl b o len cap sz get vals hl (fun i j h1 h2 => ⟨hi _ _ (hc i j h1 h2).1, (hs _ _ (hc i j h1 h2).1).trans (hc i j h1 h2).2⟩) ih

theorem RepD.deq {w : World} {I : Nat → Nat → Prop} {x y : D} (e : Deq x y) : ∀ {v : Value}, RepD w I v x → RepD w I v y := by
  induction e with
  | refl x => exact fun h => h
  | nil sz sz' g g' =>
    intro v h
    cases h with
    | sl0 a cap => exact .sl0 a cap _ _
    | sl b o len cap sz get vals hl hc hr => exact .sl0 _ _ _ _
  | sl len sz g g' _ ih =>
    intro v h
    cases h with
    | sl0 a cap => exact .sl0 a cap _ _
    | sl b o len cap sz get vals hl hc hr => exact .sl b o len cap sz _ vals hl hc (fun i j h1 h2 => ih i j h1 h2 (hr i j h1 h2))

theorem RepD.oneCell {w : World} {I : Nat → Nat → Prop} {v : Value} {x : D} (h : RepD w I v x) : v.oneCell' = true := by cases h <;> rfl

theorem RepD.cells {w : World} {I : Nat → Nat → Prop} {v : Value} {x : D} (h : RepD w I v x) : v.cells = #[v] := by cases h <;> rfl

/-- how one state goes on into another: for a general reading -/
structure Goes (w w' : World) (I I' : Nat → Nat → Prop) (ι ι' : Nat → Option Nat) (H H' : AHeap) : Prop where
  same : Same I w w'
  imm : ∀ b k, I b k → I' b k
  len : H.length ≤ H'.length
  ref : ∀ o off len sz v, o < H.length → (∀ n sz' get fz, H[o]? = some (.arr n sz' get fz) → sz' = sz → off + len ≤ n ∧ (off + len = n → RefOk w ι o off len sz v)) →
    (∀ n sz' get fz, H'[o]? = some (.arr n sz' get fz) → sz' = sz → off + len ≤ n ∧ (off + len = n → RefOk w' ι' o off len sz v))
  ptr : ∀ o x, o < H.length → H'[o]? = some x → x.isBox → (∃ x', H[o]? = some x' ∧ x'.isBox) ∧ ι' o = ι o
  eptr : ∀ o n sz get fz, o < H.length → H'[o]? = some (.arr n sz get fz) → ∃ n' get' fz', H[o]? = some (.arr n' sz get' fz') ∧ n' ≤ n ∧ (n = n' → ι' o = ι o)
  itr : ∀ o s p, o < H.length → H'[o]? = some (.iter s p) → (∃ s' p', H[o]? = some (.iter s' p')) ∧ ι' o = ι o

theorem Goes.glob {w w' : World} {I I' : Nat → Nat → Prop} {ι ι' : Nat → Option Nat} {H H' : AHeap} (g : Goes w w' I I' ι ι' H H') {G : Nat → Nat → Value → Prop} (h : ∀ b k v, G b k v → I b k ∧ w.cell? ⟨b, k, none⟩ = some v) : ∀ b k v, G b k v → I' b k ∧ w'.cell? ⟨b, k, none⟩ = some v :=
  fun b k v hg => ⟨g.imm _ _ (h b k v hg).1, (g.same _ _ (h b k v hg).1).trans (h b k v hg).2⟩

theorem RepA.goes {w w' : World} {I I' : Nat → Nat → Prop} {ι ι' : Nat → Option Nat} {H H' : AHeap} (g : Goes w w' I I' ι ι' H H') {v : Value} {x : A} (h : RepA w I ι H v x) : RepA w' I' ι' H' v x := by
  induction h with
  | d v x h => exact .d v x (h.mono g.same g.imm)
  | nils => exact .nils
  | ref v o off len sz ho h hl => exact .ref v o off len sz (Nat.lt_of_lt_of_le ho g.len) (g.ref o off len sz v ho h) hl
  | ptr v o off ho h hv =>
    refine .ptr v o off (Nat.lt_of_lt_of_le ho g.len) (fun x hx hb => ?_) hv
    obtain ⟨⟨x', h', hb'⟩, e⟩ := g.ptr o x ho hx hb
    rw [e]; exact h x' h' hb'
  | eptr v o i j len ho h hv =>
    refine .eptr v o i j len (Nat.lt_of_lt_of_le ho g.len) (fun n sz get fz hx => ?_) hv
    obtain ⟨n', get', fz', h', hn, hi⟩ := g.eptr o n sz get fz ho hx
    obtain ⟨h1, h2⟩ := h n' sz get' fz' h'
    refine ⟨Nat.le_trans h1 hn, fun e hlt => ?_⟩
    have e' : n' = len := by omega
    rw [hi (by omega)]; exact h2 e' (by omega)
  | iptr b o get i j sz vals hc hr =>
    exact .iptr b o get i j sz vals (fun q hq => ⟨g.imm _ _ (hc q hq).1, (g.same _ _ (hc q hq).1).trans (hc q hq).2⟩) (fun q hq => (hr q hq).mono g.same g.imm)
  | itr v o ho h hv =>
    refine .itr v o (Nat.lt_of_lt_of_le ho g.len) (fun s p hx => ?_) hv
    obtain ⟨⟨s', p', h'⟩, e⟩ := g.itr o s p ho hx
    rw [e]; exact h s' p' h'
  | clo f fv cv first caps h1 h2 _ _ ih1 ih2 => exact .clo f fv cv first caps h1 h2 ih1 ih2
  | agg vs cs h1 _ ih => exact .agg vs cs h1 ih
  | tup vs cs h1 _ ih => exact .tup vs cs h1 ih
  | undef v => exact .undef v

end Go.VM

/- What one operation does to the world, against what it does to the abstract state: the general part. -/
set_option linter.unusedSectionVars false
namespace Go.VM
open Ops
variable [Ops] [Glb] [Lim]

theorem getL_eq {α : Type} (l : List α) (n : Nat) (d : α) : getL l n d = l.getD n d := by
  induction l generalizing n with
  | nil => cases n <;> rfl
  | cons a r ih => cases n with
    | zero => rfl
    | succ n => simpa [getL] using ih n

theorem setL_eq {α : Type} (l : List α) (n : Nat) (v : α) : setL l n v = l.set n v := by
  induction l generalizing n with
  | nil => cases n <;> rfl
  | cons a r ih => cases n with
    | zero => rfl
    | succ n => simp [setL, ih]

theorem lenL_eq {α : Type} (l : List α) : lenL l = l.length := by
  induction l with
  | nil => rfl
  | cons a r ih => simp [lenL, ih]

theorem takeL_eq {α : Type} (l : List α) (n : Nat) : takeL l n = l.take n := by
  induction l generalizing n with
  | nil => cases n <;> rfl
  | cons a r ih => cases n with
    | zero => rfl
    | succ n => simp [takeL, ih]

theorem dropL_eq {α : Type} (l : List α) (n : Nat) : dropL l n = l.drop n := by
  induction l generalizing n with
  | nil => cases n <;> rfl
  | cons a r ih => cases n with
    | zero => rfl
    | succ n => simp [dropL, ih]

theorem overL_length {α : Type} (l : List α) (n : Nat) (bs : List α) : (overL l n bs).length = l.length := by
  induction l generalizing n bs with
  | nil => cases n <;> cases bs <;> simp [overL]
  | cons a r ih => cases n <;> cases bs <;> simp [overL, ih]

theorem overL_getD {α : Type} (l : List α) (n : Nat) (bs : List α) (d : α) (k : Nat) (h : n + bs.length ≤ l.length) :
    (overL l n bs).getD k d = if n ≤ k ∧ k < n + bs.length then bs.getD (k - n) d else l.getD k d := by
  induction l generalizing n bs k with
  | nil =>
    have : bs = [] := by cases bs <;> simp at h ⊢
    subst this
    cases n <;> simp [overL]
  | cons a r ih =>
    cases bs with
    | nil =>
      have : overL (a :: r) n ([] : List α) = a :: r := by cases n <;> rfl
      rw [this, if_neg (by simp)]
    | cons b bs =>
      cases n with
      | zero =>
        cases k with
        | zero => simp [overL]
        | succ k =>
          have := ih 0 bs k (by simp at h ⊢; omega)
          simp only [overL, List.getD_cons_succ, this, Nat.zero_le, true_and, List.length_cons, Nat.zero_add, Nat.sub_zero]
          by_cases hk : k < bs.length
          · rw [if_pos hk, if_pos (by omega)]
          · rw [if_neg hk, if_neg (by omega)]
      | succ n =>
        cases k with
        | zero => simp [overL]
        | succ k =>
          have := ih n (b :: bs) k (by simp at h ⊢; omega)
          simp only [overL, List.getD_cons_succ, this]
          by_cases hk : n ≤ k ∧ k < n + (b :: bs).length
          · rw [if_pos hk, if_pos (by omega), show k + 1 - (n + 1) = k - n by omega]
          · rw [if_neg hk, if_neg (by omega)]

theorem addO_eq (a b : Nat) : addO a b = a + b := by cases a <;> simp [addO, addN_eq]
theorem offG_eq (k : Nat) (g : Nat → Nat → D) (i j : Nat) : offG k g i j = g (k + i) j := by cases k <;> simp [offG, shG_eq]

/-! ### The types -/
def kindOf : TypeDesc → TK
  | .int k => .int k
  | .bool => .bool
  | .string => .string
  | .slice e => .slice e
  | .struct fs => .struct (fs.toList.map fun f => (f.offset, f.type))
  | .array n e => .array n e
  | .pointer e => .pointer e
  | .func .. => .func
  | _ => .other

structure TIOk (P : Program) (t : Nat) (i : TI) : Prop where
  und : ∃ d, P.underlying t = some d ∧ kindOf d = i.kind
  info : ∃ inf z, P.info? t = some inf ∧ inf.size = i.size ∧ inf.bytes = i.bytes ∧ inf.zero = some z ∧ z.cells.toList.map absLeaf = i.zero ∧ z.cells.size = i.size

def EqOk (P : Program) (t : Nat) (e : List A → List A → (A → Prop) → Prop) : Prop :=
  ∀ xs ys Q, e xs ys Q → ∃ b, Q (.d (.bool b)) ∧ ∀ w I ι H vx vy, RepA w I ι H (.agg vx) (.agg xs) → RepA w I ι H (.agg vy) (.agg ys) →
    (∀ op x y, (eqGuard op t x y (.agg vx) (.agg vy)).run P w = .ok () w) ∧ (Op.equal t (.agg vx) (.agg vy)).run P w = .ok b w

structure TabOk (P : Program) (T : Tab) : Prop where
  ti : ∀ t i, T.ti t = some i → TIOk P t i
  eq : ∀ t e, T.eq t = some e → EqOk P t e
  fn : ∀ f, T.fn f = true → ∃ fn, P.funcs[f]? = some fn ∧ fn.body.isNone = false ∧ (fn.name == "runtime.NumGoroutine") = false
  mixed : P.follows .mixedOrders = true
  bld : T.bld = Glb.bt
  mono : ∀ t e xs ys Q Q', T.eq t = some e → (∀ a, Q a → Q' a) → e xs ys Q → e xs ys Q'

section run
variable {P : Program} {t : Nat} {i : TI}
theorem TIOk.sizeOf (h : TIOk P t i) (w : World) : (sizeOf t).run P w = .ok i.size w := by
  obtain ⟨inf, z, h1, h2, -⟩ := h.info
  simp [Go.sizeOf, typeInfo, h1, h2]
theorem TIOk.typeInfo (h : TIOk P t i) (w : World) : ∃ inf, (typeInfo t).run P w = .ok inf w ∧ inf.size = i.size ∧ inf.bytes = i.bytes := by
  obtain ⟨inf, z, h1, h2, h3, -⟩ := h.info
  exact ⟨inf, by simp [Go.typeInfo, h1], h2, h3⟩
theorem TIOk.zeroValue (h : TIOk P t i) (w : World) : ∃ z, (zeroValue t).run P w = .ok z w ∧ z.cells.toList.map absLeaf = i.zero ∧ z.cells.size = i.size := by
  obtain ⟨inf, z, h1, h2, h3, h4, h5⟩ := h.info
  exact ⟨z, by simp [Go.zeroValue, Go.typeInfo, h1, h4], h5⟩
theorem TIOk.underlying (h : TIOk P t i) : ∃ d, kindOf d = i.kind ∧ ∀ w, (underlying t).run P w = .ok d w := by
  obtain ⟨d, h1, h2⟩ := h.und
  exact ⟨d, h2, fun w => run_underlying h1 w⟩
theorem kindOf_slice {d : TypeDesc} {e : Nat} (h : kindOf d = .slice e) : d = .slice e := by cases d <;> simp_all [kindOf]
theorem kindOf_pointer {d : TypeDesc} {e : Nat} (h : kindOf d = .pointer e) : d = .pointer e := by cases d <;> simp_all [kindOf]
theorem kindOf_array {d : TypeDesc} {n e : Nat} (h : kindOf d = .array n e) : d = .array n e := by cases d <;> simp_all [kindOf]
theorem kindOf_int {d : TypeDesc} {k : IntKind} (h : kindOf d = .int k) : d = .int k := by cases d <;> simp_all [kindOf]
theorem kindOf_string {d : TypeDesc} (h : kindOf d = .string) : d = .string := by cases d <;> simp_all [kindOf]
theorem kindOf_bool {d : TypeDesc} (h : kindOf d = .bool) : d = .bool := by cases d <;> simp_all [kindOf]
theorem kindOf_struct {d : TypeDesc} {fs : List (Nat × Nat)} (h : kindOf d = .struct fs) : ∃ f, d = .struct f ∧ f.toList.map (fun f => (f.offset, f.type)) = fs := by
  cases d <;> simp_all [kindOf]
theorem TIOk.isAgg (h : TIOk P t i) (w : World) : (isAgg t).run P w = .ok i.kind.isAgg w := by
  obtain ⟨d, h1, h2⟩ := h.underlying
  unfold Go.isAgg
  rw [Sem.run_bind, h2 w, ← h1]
  cases d <;> rfl
end run

/-! ### Constants -/
theorem absLeaf_rep (w : World) (I : Nat → Nat → Prop) (ι : Nat → Option Nat) (H : AHeap) (v : Value) : RepA w I ι H v (absLeaf v) := by
  unfold absLeaf
  split
  · exact .d _ _ (.int _ _)
  · exact .d _ _ (.bool _)
  · exact .d _ _ (.str _)
  · exact .nils
  · exact .d _ _ .nilp
  · exact .d _ _ .nilf
  · exact .d _ _ .nili
  · exact .undef _

theorem absV_rep (w : World) (I : Nat → Nat → Prop) (ι : Nat → Option Nat) (H : AHeap) (v : Value) : RepA w I ι H v (absV v) := by
  unfold absV
  split
  · rename_i cs
    have := RepA.agg (w := w) (I := I) (ι := ι) (H := H) cs.toList (cs.toList.map absLeaf) (by simp) (fun k hk => by
      have hk' : k < cs.toList.length := by simpa using hk
      simp only [List.getD_eq_getElem?_getD, List.getElem?_map, List.getElem?_eq_getElem hk', Option.map_some, Option.getD_some]
      exact absLeaf_rep _ _ _ _ _)
    simpa using this
  · exact absLeaf_rep _ _ _ _ _

/-- the state's slots stand for the frame's -/
def RepT (w : World) (I : Nat → Nat → Prop) (ι : Nat → Option Nat) (H : AHeap) (a : Act) (tm : List A) : Prop :=
  a.tmps.size = tm.length ∧ ∀ t, t < tm.length → RepA w I ι H (a.tmps.getD t undef) (tm.getD t .undef)

theorem ev_rep {w : World} {I : Nat → Nat → Prop} {ι : Nat → Option Nat} {H : AHeap} {a : Act} {tm : List A} (h : RepT w I ι H a tm) (x : Operand) : RepA w I ι H (a.eval x) (ev tm x) := by
  cases x with
  | tmp t =>
    simp only [ev, Act.eval, getL_eq]
    by_cases ht : t < tm.length
    · exact h.2 t ht
    · simp only [List.getD_eq_getElem?_getD, List.getElem?_eq_none (Nat.le_of_not_lt ht), Option.getD_none]
      exact .undef _
  | const v => exact absV_rep _ _ _ _ _
  | global g => exact .undef _
  | func f =>
    have := RepA.clo (w := w) (I := I) (ι := ι) (H := H) f [] [] [] [] rfl rfl (fun k hk => absurd hk (by simp)) (fun k hk => absurd hk (by simp))
    simpa [ev, Act.eval] using this

theorem RepT.goes {w w' : World} {I I' : Nat → Nat → Prop} {ι ι' : Nat → Option Nat} {H H' : AHeap} {a : Act} {tm : List A} (h : RepT w I ι H a tm) (g : Goes w w' I I' ι ι' H H') : RepT w' I' ι' H' a tm :=
  ⟨h.1, fun t ht => (h.2 t ht).goes g⟩

theorem RepT.put {w : World} {I : Nat → Nat → Prop} {ι : Nat → Option Nat} {H : AHeap} {a : Act} {tm : List A} (h : RepT w I ι H a tm) (d : Option Nat) {v : Value} {x : A} (hv : RepA w I ι H v x) : RepT w I ι H (a.put d v) (put tm d x) := by
  cases d with
  | none => exact h
  | some d =>
    refine ⟨by simp [Act.put, Go.VM.put, setL_eq, h.1], fun t ht => ?_⟩
    simp only [Act.put, Go.VM.put, setL_eq, List.length_set] at ht ⊢
    have h1 := h.1
    by_cases e : d = t
    · subst e
      simp only [Array.getD_eq_getD_getElem?, Array.getElem?_setIfInBounds, List.getD_eq_getElem?_getD, List.getElem?_set]
      simp [ht, h1, hv]
    · have := h.2 t ht
      simp only [Array.getD_eq_getD_getElem?, Array.getElem?_setIfInBounds, List.getD_eq_getElem?_getD, List.getElem?_set, e, if_false] at this ⊢
      exact this

/-! ### How states go on -/
theorem Goes.refl (w : World) (I : Nat → Nat → Prop) (ι : Nat → Option Nat) (H : AHeap) : Goes w w I I ι ι H H :=
  ⟨fun _ _ _ => rfl, fun _ _ h => h, Nat.le_refl _, fun _ _ _ _ _ _ h => h, fun _ cs _ h hb => ⟨⟨cs, h, hb⟩, rfl⟩,
    fun _ n _ get fz _ h => ⟨n, get, fz, h, Nat.le_refl _, fun _ => rfl⟩, fun _ s p _ h => ⟨⟨s, p, h⟩, rfl⟩⟩

theorem Goes.trans {w w1 w2 : World} {I I1 I2 : Nat → Nat → Prop} {ι ι1 ι2 : Nat → Option Nat} {H H1 H2 : AHeap} (g : Goes w w1 I I1 ι ι1 H H1) (k : Goes w1 w2 I1 I2 ι1 ι2 H1 H2) : Goes w w2 I I2 ι ι2 H H2 where
  same := fun b q h => (k.same b q (g.imm b q h)).trans (g.same b q h)
  imm := fun b q h => k.imm b q (g.imm b q h)
  len := Nat.le_trans g.len k.len
  ref := fun o off len sz v ho h => k.ref o off len sz v (Nat.lt_of_lt_of_le ho g.len) (g.ref o off len sz v ho h)
  ptr := fun o cs ho h hb => by
    obtain ⟨⟨cs1, h1, hb1⟩, e1⟩ := k.ptr o cs (Nat.lt_of_lt_of_le ho g.len) h hb
    obtain ⟨h2, e2⟩ := g.ptr o cs1 ho h1 hb1
    exact ⟨h2, e1.trans e2⟩
  eptr := fun o n sz get fz ho h => by
    obtain ⟨n1, get1, fz1, h1, l1, e1⟩ := k.eptr o n sz get fz (Nat.lt_of_lt_of_le ho g.len) h
    obtain ⟨n2, get2, fz2, h2, l2, e2⟩ := g.eptr o n1 sz get1 fz1 ho h1
    exact ⟨n2, get2, fz2, h2, Nat.le_trans l2 l1, fun e => (e1 (by omega)).trans (e2 (by omega))⟩
  itr := fun o s p ho h => by
    obtain ⟨⟨s1, p1, h1⟩, e1⟩ := k.itr o s p (Nat.lt_of_lt_of_le ho g.len) h
    obtain ⟨h2, e2⟩ := g.itr o s1 p1 ho h1
    exact ⟨h2, e1.trans e2⟩

/-- No block has shrunk. -/
def Grow (w w' : World) : Prop := ∀ (b : Nat) (vs : Array Value) (el : TypeId) (fr : Nat × Nat), w.heap[b]? = some (.cells vs el fr) → ∃ (vs' : Array Value) (el' : TypeId) (fr' : Nat × Nat), w'.heap[b]? = some (.cells vs' el' fr') ∧ vs'.size = vs.size

theorem Grow.refl (w : World) : Grow w w := fun _ vs el fr h => ⟨vs, el, fr, h, rfl⟩

theorem RefOk.grow {w w' : World} (g : Grow w w') {ι ι' : Nat → Option Nat} {o off len sz : Nat} (e : ι' o = ι o) {v : Value} (h : RefOk w ι o off len sz v) : RefOk w' ι' o off len sz v := by
  rcases h with ⟨b, cap, vs, el, fr, h1, h2, h3, h4, h5⟩ | ⟨h1, h2⟩ | h
  · obtain ⟨vs', el', fr', h6, h7⟩ := g b vs el fr h3
    exact .inl ⟨b, cap, vs', el', fr', e.trans h1, h2, h6, by omega, h5⟩
  · exact .inr (.inl ⟨e.trans h1, h2⟩)
  · exact .inr (.inr h)

theorem Own.of {w : World} {ι : Nat → Option Nat} {o b : Nat} {x : AObj} (h : ι o = some b) : Own w ι o x b := by
  cases x <;> first | exact h | exact .inl h

theorem Own.back {w w' : World} {ι ι' : Nat → Option Nat} {o c : Nat} {x : AObj} (e : ι' o = ι o) (hb : ∀ b, ι o = some b → w'.heap[b]? = w.heap[b]?) (h : Own w' ι' o x c) : Own w ι o x c := by
  cases x with
  | bld s =>
    rcases h with h | ⟨b0, n, k, h1, h2⟩
    · exact .inl (e ▸ h)
    · rw [e] at h1
      refine .inr ⟨b0, n, k, h1, ?_⟩
      unfold World.cell? at h2 ⊢
      rw [hb b0 h1] at h2
      exact h2
  | _ => exact e.symm.trans h

theorem BufOk.keep {B : Gd} {w w' : World} {I I' : Nat → Nat → Prop} {b : Nat} {c : ByteArray} {v : Value} (hb : ∀ g n k, v = .slice (some ⟨g, 0, none⟩) n k → w'.heap[g]? = w.heap[g]? ∧ ∀ q, I' g q → I g q) (h : BufOk B I w b c v) : BufOk B I' w' b c v := by
  rcases h with h | ⟨g, cap, cur, fz, h1, h2, h3, h4, h5, h6, h7⟩
  · exact .inl h
  · obtain ⟨k1, k2⟩ := hb g _ _ h1
    exact .inr ⟨g, cap, cur, fz, h1, h2, h3, fun k hk => h4 k (k2 k hk), h5, k1.trans h6, h7⟩

theorem cell_bld {w : World} {b : Nat} {p v : Value} {t : TypeId} {fr : Nat × Nat} (h : w.heap[b]? = some (.cells #[p, v] t fr)) : w.cell? ⟨b, 1, none⟩ = some v := by
  unfold World.cell?
  simp only [h]
  rfl

/-- An object that is not the one that changes. -/
theorem ObjOk.keep {B : Gd} {w w' : World} {I I' : Nat → Nat → Prop} {ι ι' : Nat → Option Nat} {H H' : AHeap} (g : Goes w w' I I' ι ι' H H') {o : Nat} {x : AObj} (e : ι' o = ι o)
    (hb' : ∀ b, Own w ι o x b → w'.heap[b]? = w.heap[b]?) (hI' : ∀ b k, Own w ι o x b → I' b k → I b k) (h : ObjOk B ι I w H o x) : ObjOk B ι' I' w' H' o x := by
  have hb : ∀ b, ι o = some b → w'.heap[b]? = w.heap[b]? := fun b h => hb' b (.of h)
  have hI : ∀ b k, ι o = some b → I' b k → I b k := fun b k h => hI' b k (.of h)
  have hfree : ∀ b n, ι o = some b → Free w I b n → Free w' I' b n := fun b n hi hf =>
    ⟨fun k hk hc => hf.1 k hk (hI b k hi hc), fun k hk => by
      have := hf.2 k hk
      unfold World.frozen? at this ⊢
      rw [hb b hi]; exact this⟩
  cases x with
  | dead => trivial
  | bld c =>
    obtain ⟨b, p, v, h1, h2, h3, h4, h5, h6⟩ := h
    refine ⟨b, p, v, e.trans h1, h2, (hb b h1).trans h3, h4, fun k hk => h5 k (hI b k h1 hk), h6.keep fun g n k hv => ?_⟩
    have : Own w ι o (.bld c) g := .inr ⟨b, n, k, h1, by rw [cell_bld h3, hv]⟩
    exact ⟨hb' g this, fun q => hI' g q this⟩
  | iter s p =>
    obtain ⟨b, h1, h2, h3⟩ := h
    exact ⟨b, e.trans h1, h2, (hb b h1).trans h3⟩
  | box cs =>
    obtain ⟨b, vs, el, fr, h1, h2, h3, h4, h5, h6⟩ := h
    exact ⟨b, vs, el, fr, e.trans h1, h2, (hb b h1).trans h3, h4, fun k hk => (h5 k hk).goes g, hfree b 0 h1 h6⟩
  | arr n sz get fz =>
    obtain ⟨hfz, h⟩ := h
    refine ⟨hfz, ?_⟩
    rcases h with ⟨b, vs, el, fr, h1, h2, h3, h4, h5, h6⟩ | ⟨h1, h2⟩
    · exact .inl ⟨b, vs, el, fr, e.trans h1, h2, (hb b h1).trans h3, h4, fun i j hi hj => (h5 i j hi hj).mono g.same g.imm, hfree b _ h1 h6⟩
    · exact .inr ⟨e.trans h1, h2⟩

/-- A draw, or whatever leaves the heap alone. -/
theorem Goes.heap {w w' : World} (h : w'.heap = w.heap) (I : Nat → Nat → Prop) (ι : Nat → Option Nat) (H : AHeap) : Goes w w' I I ι ι H H := by
  refine { Goes.refl w I ι H with same := fun b k _ => ?_, ref := fun o off len sz v ho hx => ?_ }
  · simp [World.cell?, h]
  · intro n sz' get fz h1 h2
    refine ⟨(hx n sz' get fz h1 h2).1, fun e => ((hx n sz' get fz h1 h2).2 e).grow ?_ rfl⟩
    intro b vs el fr hb
    exact ⟨vs, el, fr, by rw [h]; exact hb, rfl⟩

theorem Rel.heap {B : Gd} {w w' : World} (h : w'.heap = w.heap) {I : Nat → Nat → Prop} {ι : Nat → Option Nat} {H : AHeap} (r : Rel B ι I w H) : Rel B ι I w' H where
  base := by rw [h]; exact r.base
  imm := by rw [h]; exact r.imm
  low := r.low
  glob := (Goes.heap h I ι H).glob r.glob
  obj := fun o x hx => (r.obj o x hx).keep (Goes.heap h I ι H) rfl (fun b _ => by rw [h]) (fun _ _ _ hk => hk)
  inj := fun o o' x x' b hx hx' lx lx' h1 h2 => r.inj o o' x x' b hx hx' lx lx' (h1.back rfl fun _ _ => by rw [h]) (h2.back rfl fun _ _ => by rw [h])

def updι (ι : Nat → Option Nat) (o : Nat) (b : Option Nat) : Nat → Option Nat := fun o' => if o' = o then b else ι o'

/-- A new object, in a new block (or in none). -/
theorem Goes.new {w w' : World} (hb : ∀ b, b < w.heap.size → w'.heap[b]? = w.heap[b]?) {I : Nat → Nat → Prop} (hI : ∀ b k, I b k → b < w.heap.size) (ι : Nat → Option Nat) (H : AHeap) (x : AObj) (b : Option Nat) :
    Goes w w' I I ι (updι ι H.length b) H (H ++ [x]) where
  same := fun b k h => by unfold World.cell?; rw [hb b (hI b k h)]
  imm := fun _ _ h => h
  len := by simp
  ref := fun o off len sz v ho hx n sz' get fz h1 h2 => by
    rw [List.getElem?_append_left ho] at h1
    refine ⟨(hx n sz' get fz h1 h2).1, fun e => ((hx n sz' get fz h1 h2).2 e).grow ?_ (by simp [updι]; omega)⟩
    intro b vs el fr hv
    have : b < w.heap.size := by
      rcases Nat.lt_or_ge b w.heap.size with h | h
      · exact h
      · simp [Array.getElem?_eq_none h] at hv
    exact ⟨vs, el, fr, (hb b this).trans hv, rfl⟩
  ptr := fun o cs ho h hb => by
    rw [List.getElem?_append_left ho] at h
    exact ⟨⟨cs, h, hb⟩, by simp [updι]; omega⟩
  eptr := fun o n sz get fz ho h => by
    rw [List.getElem?_append_left ho] at h
    exact ⟨n, get, fz, h, Nat.le_refl _, fun _ => by simp [updι]; omega⟩
  itr := fun o s p ho h => by
    rw [List.getElem?_append_left ho] at h
    exact ⟨⟨s, p, h⟩, by simp [updι]; omega⟩

theorem lt_of_heap {w : World} {b : Nat} {x : Obj} (h : w.heap[b]? = some x) : b < w.heap.size := by
  rcases Nat.lt_or_ge b w.heap.size with h' | h'
  · exact h'
  · simp [Array.getElem?_eq_none h'] at h

/-- the block of a live object is there -/
theorem ObjOk.lt {B : Gd} {ι : Nat → Option Nat} {I : Nat → Nat → Prop} {w : World} {H : AHeap} {o : Nat} {x : AObj} (h : ObjOk B ι I w H o x) (hx : x.live) {b : Nat} (hi : Own w ι o x b) : ¬ B b ∧ b < w.heap.size := by
  cases x with
  | dead => exact hx.elim
  | bld c =>
    obtain ⟨b', p, v, h1, h2, h3, h4, h5, h6⟩ := h
    rcases hi with hi | ⟨b0, n, k, hi, hc⟩
    · obtain rfl : b = b' := by rw [h1] at hi; exact (Option.some.inj hi).symm
      exact ⟨h2, lt_of_heap h3⟩
    · obtain rfl : b0 = b' := by rw [h1] at hi; exact (Option.some.inj hi).symm
      rw [cell_bld h3] at hc
      rcases h6 with ⟨rfl, _⟩ | ⟨g, cap, cur, fz, rfl, q2, q3, q4, q5, q6, q7⟩
      · cases hc
      · obtain rfl : g = b := by cases hc; rfl
        exact ⟨q3, lt_of_heap q6⟩
  | iter s p =>
    obtain ⟨b', h1, h2, h3⟩ := h
    obtain rfl : b = b' := by have hi : ι o = some b := hi; rw [h1] at hi; exact (Option.some.inj hi).symm
    exact ⟨h2, lt_of_heap h3⟩
  | box cs =>
    obtain ⟨b', vs, el, fr, h1, h2, h3, h4, h5, h6⟩ := h
    obtain rfl : b = b' := by have hi : ι o = some b := hi; rw [h1] at hi; exact (Option.some.inj hi).symm
    exact ⟨h2, lt_of_heap h3⟩
  | arr n sz get fz =>
    rcases h.2 with ⟨b', vs, el, fr, h1, h2, h3, -⟩ | ⟨h1, h2⟩
    · obtain rfl : b = b' := by have hi : ι o = some b := hi; rw [h1] at hi; exact (Option.some.inj hi).symm
      exact ⟨h2, lt_of_heap h3⟩
    · have hi : ι o = some b := hi; rw [h1] at hi; cases hi

theorem Rel.new {B : Gd} {w w' : World} {I : Nat → Nat → Prop} {ι : Nat → Option Nat} {H : AHeap} (r : Rel B ι I w H) (hs : w.heap.size ≤ w'.heap.size) (hb : ∀ b, b < w.heap.size → w'.heap[b]? = w.heap[b]?) (x : AObj) (b : Option Nat)
    (hbn : ∀ b', b = some b' → w.heap.size ≤ b')
    (hx : ObjOk B (updι ι H.length b) I w' (H ++ [x]) H.length x) (hown : ∀ b', Own w' (updι ι H.length b) H.length x b' → b = some b' := by intro b' h; have h2 : updι _ _ _ _ = some b' := h; rwa [updι, if_pos rfl] at h2) : Rel B (updι ι H.length b) I w' (H ++ [x]) where
  base := fun k hk => Nat.lt_of_lt_of_le (r.base k hk) hs
  imm := fun b k h => Nat.lt_of_lt_of_le (r.imm b k h) hs
  low := r.low
  glob := (Goes.new hb r.imm ι H x b).glob r.glob
  obj := fun o y hy => by
    rcases Nat.lt_or_ge o H.length with ho | ho
    · rw [List.getElem?_append_left ho] at hy
      by_cases hl : y.live
      · exact (r.obj o y hy).keep (Goes.new hb r.imm ι H x b) (by simp [updι]; omega) (fun b' hi => hb b' ((r.obj o y hy).lt hl hi).2) (fun _ _ _ hk => hk)
      · cases y <;> first | trivial | exact (hl trivial).elim
    · have : o = H.length := by
        have := (List.getElem?_eq_some_iff.1 hy).1
        simp at this; omega
      subst this
      simp at hy
      subst hy
      exact hx
  inj := fun o o' y y' c hy hy' hl hl' hc hc' => by
    have old : ∀ o y, o < H.length → H[o]? = some y → y.live → Own w' (updι ι H.length b) o y c → Own w ι o y c := fun o y ho hy hl hc =>
      hc.back (by simp [updι]; omega) (fun b' hi => hb b' ((r.obj o y hy).lt hl (.of hi)).2)
    have fresh : ∀ o y, (H ++ [x])[o]? = some y → H.length ≤ o → Own w' (updι ι H.length b) o y c → w.heap.size ≤ c := fun o y hy ho hc => by
      have h2 := (List.getElem?_eq_some_iff.1 hy).1
      have e : o = H.length := by simp at h2; omega
      subst e
      simp at hy
      subst hy
      exact hbn c (hown c hc)
    rcases Nat.lt_or_ge o H.length with ho | ho <;> rcases Nat.lt_or_ge o' H.length with ho' | ho'
    · rw [List.getElem?_append_left ho] at hy
      rw [List.getElem?_append_left ho'] at hy'
      exact r.inj o o' y y' c hy hy' hl hl' (old o y ho hy hl hc) (old o' y' ho' hy' hl' hc')
    · rw [List.getElem?_append_left ho] at hy
      have := ((r.obj o y hy).lt hl (old o y ho hy hl hc)).2
      have := fresh o' y' hy' ho' hc'
      omega
    · rw [List.getElem?_append_left ho'] at hy'
      have := ((r.obj o' y' hy').lt hl' (old o' y' ho' hy' hl' hc')).2
      have := fresh o y hy ho hc
      omega
    · have h1 := (List.getElem?_eq_some_iff.1 hy).1
      have h2 := (List.getElem?_eq_some_iff.1 hy').1
      simp at h1 h2; omega

theorem Rel.inj2 {B : Gd} {w w' : World} {I : Nat → Nat → Prop} {ι : Nat → Option Nat} {H : AHeap} (r : Rel B ι I w H) (hb : ∀ b, b < w.heap.size → w'.heap[b]? = w.heap[b]?) :
    ∀ o o' x x' b, H[o]? = some x → H[o']? = some x' → x.live → x'.live → Own w' ι o x b → Own w' ι o' x' b → o = o' :=
  fun o o' x x' b hx hx' lx lx' e e' => r.inj o o' x x' b hx hx' lx lx' (e.back rfl fun c hi => hb c ((r.obj o x hx).lt lx (.of hi)).2) (e'.back rfl fun c hi => hb c ((r.obj o' x' hx').lt lx' (.of hi)).2)

end Go.VM

/- What one operation does to the world, against what it does to the abstract state: operation by operation. -/
set_option linter.unusedSimpArgs false
set_option linter.unusedVariables false
set_option linter.unusedSectionVars false
namespace Go.VM
open Ops
variable [Ops] [Glb] [Lim]

variable {P : Program} {T : Tab} {B : Gd} {ι : Nat → Option Nat} {I : Nat → Nat → Prop} {w : World} {H : AHeap}

/-- a run that ends with a value that stands for r, in a state that Q holds of -/
def StepsV (P : Program) (B : Gd) (s : Sem Value) (w : World) (I : Nat → Nat → Prop) (ι : Nat → Option Nat) (H : AHeap) (Q : A → AHeap → Prop) : Prop :=
  ∃ v r w' I' ι' H', s.run P w = .ok v w' ∧ Q r H' ∧ RepA w' I' ι' H' v r ∧ Rel B ι' I' w' H' ∧ Goes w w' I I' ι ι' H H' ∧ Below B w w'

theorem StepsV.pure {s : Sem Value} {Q : A → AHeap → Prop} (r : Rel B ι I w H) {v : Value} {x : A} (h : s.run P w = .ok v w) (hv : RepA w I ι H v x) (hq : Q x H) : StepsV P B s w I ι H Q :=
  ⟨v, x, w, I, ι, H, h, hq, hv, r, .refl _ _ _ _, .refl _ _⟩

theorem rep_int {v : Value} {k : IntKind} {n : Int} (h : RepA w I ι H v (.d (.int k n))) : v = .int k n := by cases h with | d _ _ h => cases h; rfl
theorem rep_bool {v : Value} {b : Bool} (h : RepA w I ι H v (.d (.bool b))) : v = .bool b := by cases h with | d _ _ h => cases h; rfl
theorem rep_str {v : Value} {s : ByteArray} (h : RepA w I ι H v (.d (.str s))) : v = .string s := by cases h with | d _ _ h => cases h; rfl
theorem rep_agg {v : Value} {cs : List A} (h : RepA w I ι H v (.agg cs)) : ∃ vs : List Value, v = .agg vs.toArray ∧ vs.length = cs.length ∧ ∀ k, k < cs.length → RepA w I ι H (vs.getD k undef) (cs.getD k .undef) := by
  cases h with | agg vs _ h1 h2 => exact ⟨vs, rfl, h1, h2⟩
theorem rep_tup {v : Value} {cs : List A} (h : RepA w I ι H v (.tup cs)) : ∃ vs : List Value, v = .tuple vs.toArray ∧ vs.length = cs.length ∧ ∀ k, k < cs.length → RepA w I ι H (vs.getD k undef) (cs.getD k .undef) := by
  cases h with | tup vs _ h1 h2 => exact ⟨vs, rfl, h1, h2⟩
theorem rep_sl {v : Value} {n sz : Nat} {get : Nat → Nat → D} (h : RepA w I ι H v (.d (.sl n sz get))) : ∃ a cap, v = .slice a n cap ∧ n ≤ cap := by
  cases h with | d _ _ h => cases h with
    | sl0 a cap => exact ⟨a, cap, rfl, Nat.zero_le _⟩
    | sl b o _ cap _ _ vals hl => exact ⟨_, cap, rfl, hl⟩

section wbin
theorem Int.bool_eq (x y : Int) : (x == y) = decide (x = y) := by
  by_cases h : x = y <;> simp [h]

theorem equalIn_bool {t : Nat} (hu : ∀ w, (underlying t).run P w = .ok .bool w) (a b : Bool) (w : World) (d : Nat) : (Op.equalIn (d + 1) t (.bool a) (.bool b)).run P w = .ok (a == b) w := by
  simp only [Op.equalIn, Sem.run_bind, hu, Result.andThen_ok]
  rfl

theorem equal_bool {t : Nat} (hu : ∀ w, (underlying t).run P w = .ok .bool w) (a b : Bool) (w : World) : (Op.equal t (.bool a) (.bool b)).run P w = .ok (a == b) w :=
  equalIn_bool hu a b w 9999

theorem wnilcmp_ok (hT : TabOk P T) {t : Nat} {op : BinOp} {x y : A} {vx vy : Value} {Q : A → Prop} (r : Rel B ι I w H) (hx : RepA w I ι H vx x) (hy : RepA w I ι H vy y) (ox oy : Operand)
    (h : wnilcmp T t op x y Q) : StepsV P B (do eqGuard op t ox oy vx vy; binOp op t vx vy) w I ι H (fun a H' => Q a ∧ H' = H) := by
  unfold wnilcmp at h
  split at h
  · rename_i e _ _ _ hti
    obtain ⟨d, hd, hu⟩ := (hT.ti _ _ hti).underlying
    obtain rfl := kindOf_slice hd
    have hrun : ∀ (a : Option Addr) (n c : Nat), (Op.equal t (.slice a n c) (.slice none 0 0)).run P w = .ok a.isNone w := fun a n c => by
      have : ∀ d : Nat, (Op.equalIn (d + 1) t (.slice a n c) (.slice none 0 0)).run P w = .ok a.isNone w := fun d => by
        cases a <;> simp [Op.equalIn, hu]
      exact this 9999
    have hg : ∀ (a : Option Addr) (n c : Nat), (eqGuard op t ox oy (.slice a n c) (.slice none 0 0)).run P w = .ok () w := fun a n c => by
      unfold eqGuard
      cases op <;> simp
    have fin : ∀ (a : Option Addr) (n c : Nat) (b : Bool), vx = .slice a n c → vy = .slice none 0 0 → a.isNone = b → (op = .eql → Q (.d (.bool b))) → (op = .neq → Q (.d (.bool (!b)))) → (op = .eql ∨ op = .neq) →
        StepsV P B (do eqGuard op t ox oy vx vy; binOp op t vx vy) w I ι H (fun a H' => Q a ∧ H' = H) := by
      rintro a n c b rfl rfl hb h1 h2 h3
      rcases h3 with rfl | rfl
      · refine .pure r (v := .bool b) ?_ (.d _ _ (.bool _)) ⟨h1 rfl, rfl⟩
        rw [Sem.run_bind, hg]
        simp [binOp, hrun, hb]
      · refine .pure r (v := .bool (!b)) ?_ (.d _ _ (.bool _)) ⟨h2 rfl, rfl⟩
        rw [Sem.run_bind, hg]
        simp [binOp, hrun, hb]
    split at h
    · cases hx
      cases hy
      unfold eqB at h
      split at h
      · exact fin none 0 0 true rfl rfl rfl (fun _ => h) (fun e => by cases e) (.inl rfl)
      · exact fin none 0 0 true rfl rfl rfl (fun e => by cases e) (fun _ => h) (.inr rfl)
      · exact h.elim
    · rename_i n sz g
      cases hy
      cases hx with | d _ _ hx =>
      obtain ⟨a, c, rfl, h0⟩ : ∃ a c, vx = .slice a n c ∧ (a = none → n = 0) := by
        cases hx with
        | sl0 a cap => exact ⟨_, _, rfl, fun _ => rfl⟩
        | sl b o _ cap _ _ vals hl hc hr => exact ⟨_, _, rfl, fun e => by cases e⟩
      simp only [Imp_eq, eqN_eq] at h
      split at h
      · cases a with
        | none => exact fin none _ _ true rfl rfl rfl (fun _ => h.1 (h0 rfl)) (fun e => by cases e) (.inl rfl)
        | some a => exact fin (some a) _ _ false rfl rfl rfl (fun _ => h.2) (fun e => by cases e) (.inl rfl)
      · cases a with
        | none => exact fin none _ _ true rfl rfl rfl (fun e => by cases e) (fun _ => h.1 (h0 rfl)) (.inr rfl)
        | some a => exact fin (some a) _ _ false rfl rfl rfl (fun e => by cases e) (fun _ => h.2) (.inr rfl)
      · exact h.elim
    · rename_i o off n sz
      cases hy
      cases hx with | ref _ _ _ _ _ ho hq hlen =>
      obtain ⟨a, c, rfl⟩ := hlen
      split at h
      · cases a with
        | none => exact fin none _ _ true rfl rfl rfl (fun _ => h.1) (fun e => by cases e) (.inl rfl)
        | some a => exact fin (some a) _ _ false rfl rfl rfl (fun _ => h.2) (fun e => by cases e) (.inl rfl)
      · cases a with
        | none => exact fin none _ _ true rfl rfl rfl (fun e => by cases e) (fun _ => h.1) (.inr rfl)
        | some a => exact fin (some a) _ _ false rfl rfl rfl (fun e => by cases e) (fun _ => h.2) (.inr rfl)
      · exact h.elim
    · exact h.elim
  · rename_i e _ _ _ hti
    obtain ⟨d, hd, hu⟩ := (hT.ti _ _ hti).underlying
    obtain rfl := kindOf_pointer hd
    have hrun : ∀ (a : Option Addr), (Op.equal t (.pointer a) (.pointer none)).run P w = .ok a.isNone w := fun a => by
      have : ∀ d : Nat, (Op.equalIn (d + 1) t (.pointer a) (.pointer none)).run P w = .ok a.isNone w := fun d => by
        cases a <;> simp [Op.equalIn, hu]
      exact this 9999
    have hg : ∀ (a : Option Addr), (eqGuard op t ox oy (.pointer a) (.pointer none)).run P w = .ok () w := fun a => by
      unfold eqGuard
      cases op <;> simp
    have fin : ∀ (a : Option Addr) (b : Bool), vx = .pointer a → vy = .pointer none → a.isNone = b → eqB op b Q →
        StepsV P B (do eqGuard op t ox oy vx vy; binOp op t vx vy) w I ι H (fun a H' => Q a ∧ H' = H) := by
      rintro a b rfl rfl hb h
      unfold eqB at h
      split at h
      · refine .pure r (v := .bool b) ?_ (.d _ _ (.bool _)) ⟨h, rfl⟩
        rw [Sem.run_bind, hg]
        simp [binOp, hrun, hb]
      · refine .pure r (v := .bool (!b)) ?_ (.d _ _ (.bool _)) ⟨h, rfl⟩
        rw [Sem.run_bind, hg]
        simp [binOp, hrun, hb]
      · exact h.elim
    split at h
    · cases hx with | d _ _ hx =>
      cases hx
      cases hy with | d _ _ hy =>
      cases hy
      exact fin none true rfl rfl rfl h
    · cases hy with | d _ _ hy =>
      cases hy
      cases hx with | ptr _ _ _ ho hq hv =>
      obtain ⟨a, rfl⟩ := hv
      exact fin (some a) false rfl rfl rfl h
    · cases hy with | d _ _ hy =>
      cases hy
      cases hx with | eptr _ _ _ _ _ ho hq hv =>
      obtain ⟨a, rfl⟩ := hv
      exact fin (some a) false rfl rfl rfl h
    · cases hy with | d _ _ hy =>
      cases hy
      cases hx with | iptr b o _ _ _ _ vals hc hr =>
      exact fin (some _) false rfl rfl rfl h
    · exact h.elim
  · exact h.elim

theorem wbin_ok (hT : TabOk P T) {t : Nat} {op : BinOp} {x y : A} {vx vy : Value} {Q : A → Prop} (r : Rel B ι I w H) (hx : RepA w I ι H vx x) (hy : RepA w I ι H vy y) (ox oy : Operand)
    (h : wbin T t op x y Q) : StepsV P B (do eqGuard op t ox oy vx vy; binOp op t vx vy) w I ι H (fun a H' => Q a ∧ H' = H) := by
  unfold wbin at h
  split at h
  · -- two integers
    rename_i k a k' b
    obtain rfl := rep_int hx
    obtain rfl := rep_int hy
    have hg : (eqGuard op t ox oy (.int k a) (.int k' b)).run P w = .ok () w := by
      unfold eqGuard
      cases op <;> simp
    split at h
    · obtain ⟨h1, h2⟩ := h
      refine .pure r (v := .int k (shlK k a b)) ?_ (.d _ _ (.int _ _)) ⟨h2, rfl⟩
      have : ¬ b < 0 := by simpa [leP_eq] using h1
      rw [Sem.run_bind, hg]
      simp [binOp, Op.shift, this, shlK_eq]
    · obtain ⟨h1, h2⟩ := h
      refine .pure r (v := .int k (shrK k a b)) ?_ (.d _ _ (.int _ _)) ⟨h2, rfl⟩
      have : ¬ b < 0 := by simpa [leP_eq] using h1
      rw [Sem.run_bind, hg]
      simp [binOp, Op.shift, this, shrK_eq]
    · obtain ⟨hk, h⟩ := h
      have hk : k = k' := by cases k <;> cases k' <;> simp_all [IntKind.same]
      subst hk
      have cmp : ∀ (p q : Prop) [Decidable p], (¬ p → q) → cmpQ p q Q → (binOp op t (.int k a) (.int k b)).run P w = .ok (.bool (decide p)) w → StepsV P B (do eqGuard op t ox oy (.int k a) (.int k b); binOp op t (.int k a) (.int k b)) w I ι H (fun a H' => Q a ∧ H' = H) := by
        intro p q _ hpq hc hrun
        unfold cmpQ at hc
        simp only [Imp_eq] at hc
        by_cases hp : p
        · refine .pure r (v := .bool true) ?_ (.d _ _ (.bool _)) ⟨hc.1 hp, rfl⟩
          rw [Sem.run_bind, hg, Result.andThen_ok, hrun, decide_eq_true hp]
        · refine .pure r (v := .bool false) ?_ (.d _ _ (.bool _)) ⟨hc.2 (hpq hp), rfl⟩
          rw [Sem.run_bind, hg, Result.andThen_ok, hrun, decide_eq_false hp]
      unfold binI at h
      split at h
      all_goals first
        | exact h.elim
        | (refine .pure r ?_ (.d _ _ (.int _ _)) ⟨h, rfl⟩
           rw [Sem.run_bind, hg]
           simp [binOp, Op.intArith, Op.intBits, addK_eq, subK_eq, mulK_eq, bitK_eq]
           done)
        | (obtain ⟨h1, h2⟩ := h
           have hne : ¬ b = 0 := by simpa [neP_eq] using h1
           refine .pure r ?_ (.d _ _ (.int _ _)) ⟨h2, rfl⟩
           rw [Sem.run_bind, hg]
           simp [binOp, Op.intDiv, hne, quoK_eq, remK_eq]
           done)
        | (simp only [eqP_eq, neP_eq, ltP_eq, leP_eq] at h
           exact cmp _ _ (by omega) h (by simp [binOp, Op.intCmp, Int.bool_eq, bne]))
  · rename_i a b
    obtain rfl := rep_str hx
    obtain rfl := rep_str hy
    have hg : (eqGuard op t ox oy (.string a) (.string b)).run P w = .ok () w := by
      unfold eqGuard
      cases op <;> simp
    have cmp : ∀ (p q : Prop) (c : Bool), (c = true → p) → (c = false → q) → cmpQ p q Q → (binOp op t (.string a) (.string b)).run P w = .ok (.bool c) w → StepsV P B (do eqGuard op t ox oy (.string a) (.string b); binOp op t (.string a) (.string b)) w I ι H (fun a H' => Q a ∧ H' = H) := by
      intro p q c h1 h2 hc hrun
      unfold cmpQ at hc
      simp only [Imp_eq] at hc
      cases c with
      | true =>
        refine .pure r (v := .bool true) ?_ (.d _ _ (.bool _)) ⟨hc.1 (h1 rfl), rfl⟩
        rw [Sem.run_bind, hg, Result.andThen_ok, hrun]
      | false =>
        refine .pure r (v := .bool false) ?_ (.d _ _ (.bool _)) ⟨hc.2 (h2 rfl), rfl⟩
        rw [Sem.run_bind, hg, Result.andThen_ok, hrun]
    have heq : (a.toList == b.toList) = decide (a = b) := by
      by_cases hab : a = b
      · subst hab; simp
      · have : a.toList ≠ b.toList := fun h => hab (by
          rw [ByteArray.toList_eq, ByteArray.toList_eq] at h
          cases a; cases b
          simp only at h
          congr
          exact Array.ext' h)
        simp [hab, this]
    unfold binS at h
    split at h
    · obtain ⟨h1, h2, h3⟩ := h
      refine .pure r (v := .string (catS a b)) ?_ (.d _ _ (.str _)) ⟨h3, rfl⟩
      rw [Sem.run_bind, hg]
      simp only [leP_eq, lenS_eq] at h1 h2
      have : ¬ ((a.size + b.size : Nat) : Int) > IntKind.i64.max := by simp [IntKind.max, IntKind.bits, IntKind.signed]; omega
      simp only [Result.andThen_ok, binOp, Op.stringOp, this, if_false, Sem.run_pure, catS_eq]
    · simp only [eqSP_eq, neSP_eq] at h
      exact cmp _ _ (decide (a = b)) (by simp) (by simp) h (by simp only [binOp, Op.stringOp, heq, Sem.run_pure])
    · simp only [eqSP_eq, neSP_eq] at h
      exact cmp _ _ (!decide (a = b)) (by simp) (by simp) h (by simp only [binOp, Op.stringOp, heq, Sem.run_pure])
    · simp only [ltSP_eq, geSP_eq] at h
      exact cmp _ _ _ id id h (by simp only [binOp, Op.stringOp, Sem.run_pure])
    · simp only [ltSP_eq, geSP_eq] at h
      exact cmp _ _ (!Op.bytesLess a.toList b.toList) (by simp) (by simp) h (by simp only [binOp, Op.stringOp, Sem.run_pure])
    · exact h.elim
  · rename_i a b
    obtain rfl := rep_bool hx
    obtain rfl := rep_bool hy
    split at h
    · rename_i z1 z2 z3 hti
      obtain ⟨d, hd, hu⟩ := (hT.ti _ _ hti).underlying
      obtain rfl := kindOf_bool hd
      have hg : (eqGuard op t ox oy (.bool a) (.bool b)).run P w = .ok () w := by
        unfold eqGuard
        cases op <;> simp
      unfold binB at h
      have hsame : Bool.same a b = (a == b) := by cases a <;> cases b <;> rfl
      rw [hsame] at h
      split at h
      all_goals first
        | exact h.elim
        | (refine .pure r ?_ (.d _ _ (.bool _)) ⟨h, rfl⟩
           rw [Sem.run_bind, hg]
           simp only [Result.andThen_ok, binOp, Sem.run_bind, equal_bool hu]
           rfl)
    · exact h.elim
  · rename_i xs ys
    obtain ⟨va, rfl, -, -⟩ := rep_agg hx
    obtain ⟨vb, rfl, -, -⟩ := rep_agg hy
    split at h
    · rename_i e he
      obtain ⟨b, hb, h'⟩ := hT.eq _ _ he xs ys Q h
      obtain ⟨hg, hr⟩ := h' w I ι H _ _ hx hy
      refine .pure r (v := .bool b) ?_ (.d _ _ (.bool _)) ⟨hb, rfl⟩
      rw [Sem.run_bind, hg]
      simp [binOp, hr]
    · rename_i e he
      obtain ⟨b, hb, h'⟩ := hT.eq _ _ he xs ys _ h
      obtain ⟨hg, hr⟩ := h' w I ι H _ _ hx hy
      refine .pure r (v := .bool (!b)) ?_ (.d _ _ (.bool _)) ⟨by cases b <;> exact hb, rfl⟩
      rw [Sem.run_bind, hg]
      simp [binOp, hr]
    · exact h.elim
  · exact wnilcmp_ok hT r hx hy ox oy h
end wbin

theorem wlen_ok (hT : TabOk P T) {t : Nat} {x : A} {vx : Value} {Q : A → Prop} (r : Rel B ι I w H) (hx : RepA w I ι H vx x) (h : wlen T t x Q) (ty : TypeId) (l : Array TypeId) (hl : l[0]? = some t) (la : Array Value) (hla : la[0]? = some vx) :
    StepsV P B (Builtin.len_ l ty la) w I ι H (fun a H' => Q a ∧ H' = H) := by
  unfold wlen at h
  split at h
  · rename_i hti
    obtain ⟨d, hd, hu⟩ := (hT.ti _ _ hti).underlying
    obtain rfl := kindOf_string hd
    obtain rfl := rep_str hx
    exact .pure r (v := goInt _) (by simp [Builtin.len_, hl, hla, hu, lenS_eq, nI_eq]) (.d _ _ (.int _ _)) ⟨h, rfl⟩
  · rename_i hti
    obtain ⟨d, hd, hu⟩ := (hT.ti _ _ hti).underlying
    obtain rfl := kindOf_slice hd
    obtain ⟨a, cap, rfl, -⟩ := rep_sl hx
    exact .pure r (v := goInt _) (by simp [Builtin.len_, hl, hla, hu, lenS_eq, nI_eq]) (.d _ _ (.int _ _)) ⟨h, rfl⟩
  · rename_i hti
    obtain ⟨d, hd, hu⟩ := (hT.ti _ _ hti).underlying
    obtain rfl := kindOf_slice hd
    cases hx
    exact .pure r (v := goInt 0) (by simp [Builtin.len_, hl, hla, hu]) (.d _ _ (.int _ _)) ⟨h, rfl⟩
  · rename_i hti
    obtain ⟨d, hd, hu⟩ := (hT.ti _ _ hti).underlying
    obtain rfl := kindOf_slice hd
    cases hx with | ref _ _ _ _ _ _ _ hlen =>
    obtain ⟨a, c, rfl⟩ := hlen
    exact .pure r (v := goInt _) (by simp [Builtin.len_, hl, hla, hu, lenS_eq, nI_eq]) (.d _ _ (.int _ _)) ⟨h, rfl⟩
  · exact h.elim
end Go.VM

/- Loads, stores, new objects. -/
set_option linter.unusedSimpArgs false
set_option linter.unusedVariables false
set_option linter.unusedSectionVars false
namespace Go.VM
open Ops
variable [Ops] [Glb] [Lim]

variable {P : Program} {T : Tab} {B : Gd} {ι : Nat → Option Nat} {I : Nat → Nat → Prop} {w : World} {H : AHeap}

theorem getD_drop_take {α : Type} (l : List α) (off n k : Nat) (d : α) (h : k < n) : ((l.drop off).take n).getD k d = l.getD (off + k) d := by
  simp only [List.getD_eq_getElem?_getD, List.getElem?_take, h, if_true, List.getElem?_drop]

theorem cellsD_length (get : Nat → Nat → D) (i j n : Nat) : (cellsD get i j n).length = n := by
  induction n generalizing j with
  | zero => rfl
  | succ n ih => simp [cellsD, ih]

theorem cellsD_getD (get : Nat → Nat → D) (i j n k : Nat) (h : k < n) : (cellsD get i j n).getD k .undef = .d (get i (j + k)) := by
  induction n generalizing j k with
  | zero => omega
  | succ n ih =>
    cases k with
    | zero => simp [cellsD]
    | succ k =>
      have := ih (j + 1) k (by omega)
      simp only [cellsD, List.getD_cons_succ, this]
      rw [show j + 1 + k = j + (k + 1) by omega]

theorem loadVar_ok {t : Nat} {i : TI} (hti : TIOk P t i) (h1 : 1 ≤ i.size) {b o : Nat} (fv : Nat → Value) (as : List A) (hl : as.length = i.size)
    (hc : ∀ k, k < i.size → w.cell? ⟨b, o + k, none⟩ = some (fv k)) (hr : ∀ k, k < i.size → RepA w I ι H (fv k) (as.getD k .undef)) :
    ∃ v, (loadVar t ⟨b, o, none⟩).run P w = .ok v w ∧ RepA w I ι H v (if i.kind.isAgg then .agg as else as.getD 0 .undef) := by
  by_cases ha : i.kind.isAgg = true
  · let cs := (List.range i.size).map fv
    refine ⟨.agg cs.toArray, ?_, ?_⟩
    · have hrun := run_loadCells_list (P := P) w ⟨b, o, none⟩ cs (fun j v hv => by
        rw [Addr.add_mid]
        have hj : j < i.size := by
          have := (List.getElem?_eq_some_iff.1 hv).1
          simpa [cs] using this
        rw [hc j hj]
        simp [cs, List.getElem?_eq_getElem, hj] at hv
        rw [hv])
      have hn : cs.length = i.size := by simp [cs]
      rw [hn] at hrun
      simp [loadVar, Sem.run_bind, hti.isAgg w, ha, hti.sizeOf w, hrun]
    · rw [if_pos ha]
      refine .agg cs as (by simp [cs, hl]) (fun k hk => ?_)
      have hk' : k < i.size := by omega
      have : cs.getD k undef = fv k := by simp [cs, List.getD_eq_getElem?_getD, hk']
      rw [this]
      exact hr k hk'
  · have h0 := hc 0 (by omega)
    simp only [Nat.add_zero] at h0
    refine ⟨fv 0, ?_, ?_⟩
    · simp [loadVar, Sem.run_bind, hti.isAgg w, ha, h0]
    · rw [if_neg ha]
      exact hr 0 (by omega)

theorem cell_of_block {b k : Nat} {vs : Array Value} {el : TypeId} {fr : Nat × Nat} (h : w.heap[b]? = some (.cells vs el fr)) (hk : k < vs.size) : w.cell? ⟨b, k, none⟩ = some (vs.getD k undef) := by
  simp [World.cell?, h, Array.getElem?_eq_getElem hk, hk]

theorem wload_pure (hT : TabOk P T) {t : Nat} {p : A} {vp : Value} {Q : A → Prop} (r : Rel B ι I w H) (hp : RepA w I ι H vp p) (h : wload T t p H Q) :
    ∃ v x, (Instr.loadAt t vp).run P w = .ok v w ∧ RepA w I ι H v x ∧ Q x := by
  unfold wload at h
  split at h
  · exact h.elim
  rename_i ti hti
  have hti := hT.ti _ _ hti
  split at h
  · -- a box
    rename_i o off
    simp only [getL_eq] at h
    split at h
    · rename_i cs hcs
      obtain ⟨h1, h2, h3⟩ := h
      simp only [Nat.ble_eq, lenL_eq] at h1 h2
      have hcs : H[o]? = some (.box cs) := by
        rw [List.getD_eq_getElem?_getD] at hcs
        cases hx : H[o]? with
        | none => simp [hx] at hcs
        | some x => simp [hx] at hcs; rw [hcs]
      obtain ⟨b, vs, el, fr, e1, e2, e3, e4, e5, e6⟩ := r.obj o _ hcs
      cases hp with | ptr _ _ _ ho hq _ =>
      obtain ⟨b', e1', rfl⟩ := hq _ hcs trivial
      obtain rfl : b = b' := by rw [e1] at e1'; exact Option.some.inj e1'
      obtain ⟨v, hv1, hv2⟩ := loadVar_ok (w := w) (I := I) (ι := ι) (H := H) hti h2 (b := b) (o := off) (fun k => vs.getD (off + k) undef) ((cs.drop off).take ti.size) (by simp; omega)
        (fun k hk => cell_of_block e3 (by omega)) (fun k hk => by rw [getD_drop_take _ _ _ _ _ hk]; exact e5 (off + k) (by omega))
      refine ⟨v, _, by simp [Instr.loadAt, Instr.sureAddr, hv1], hv2, ?_⟩
      rw [takeL_eq, dropL_eq] at h3
      rwa [getD_drop_take _ _ _ _ _ (by omega), Nat.add_zero]
    · exact h.elim
  · -- an element of an own array
    rename_i o i j len
    simp only [getL_eq] at h
    split at h
    · rename_i n sz get fz hcs
      obtain ⟨h0, h1, h2, hi, h3⟩ := h
      simp only [Nat.ble_eq, eqN_eq, ltN_eq] at h1 h2 h0 hi
      have hcs : H[o]? = some (.arr n sz get fz) := by
        rw [List.getD_eq_getElem?_getD] at hcs
        cases hx : H[o]? with
        | none => simp [hx] at hcs
        | some x => simp [hx] at hcs; rw [hcs]
      obtain ⟨hfz, hob⟩ := r.obj o _ hcs
      cases hp with | eptr _ _ _ _ _ ho hq _ =>
      obtain ⟨b', e1', rfl⟩ := (hq n sz get fz hcs).2 h0 hi
      rcases hob with ⟨b, vs, el, fr, e1, e2, e3, e4, e5, e6⟩ | ⟨e1, e2⟩
      · obtain rfl : b = b' := by rw [e1] at e1'; exact Option.some.inj e1'
        have hlt : ∀ k, k < ti.size → i * sz + j + k < vs.size := fun k hk => by
          have : (i + 1) * sz ≤ n * sz := Nat.mul_le_mul_right _ hi
          rw [Nat.add_mul] at this; omega
        obtain ⟨v, hv1, hv2⟩ := loadVar_ok (w := w) (I := I) (ι := ι) (H := H) hti h2 (b := b) (o := i * sz + j) (fun k => vs.getD (i * sz + j + k) undef) (cellsD get i j ti.size) (cellsD_length _ _ _ _)
          (fun k hk => cell_of_block e3 (hlt k hk)) (fun k hk => by
            rw [cellsD_getD _ _ _ _ _ hk]
            refine .d _ _ ?_
            have := e5 i (j + k) hi (by omega)
            rwa [show i * sz + j + k = i * sz + (j + k) by omega])
        refine ⟨v, _, by simp [Instr.loadAt, Instr.sureAddr, hv1], hv2, ?_⟩
        rwa [cellsD_getD _ _ _ _ _ (by omega), Nat.add_zero]
      · omega
    · exact h.elim
  · rename_i get i j sz
    obtain ⟨h1, h2, h3⟩ := h
    simp only [Nat.ble_eq] at h1 h2
    cases hp with | iptr b o _ _ _ _ vals hc hr =>
    obtain ⟨v, hv1, hv2⟩ := loadVar_ok (w := w) (I := I) (ι := ι) (H := H) hti h2 (b := b) (o := o + j) (fun k => vals (j + k)) (cellsD get i j ti.size) (cellsD_length _ _ _ _)
      (fun k hk => by rw [show o + j + k = o + (j + k) by omega]; exact (hc (j + k) (by omega)).2) (fun k hk => by rw [cellsD_getD _ _ _ _ _ hk]; exact .d _ _ (hr (j + k) (by omega)))
    refine ⟨v, _, by simp [Instr.loadAt, Instr.sureAddr, hv1], hv2, ?_⟩
    rwa [cellsD_getD _ _ _ _ _ (by omega), Nat.add_zero]
  · exact h.elim

theorem wload_ok (hT : TabOk P T) {t : Nat} {p : A} {vp : Value} {Q : A → Prop} (r : Rel B ι I w H) (hp : RepA w I ι H vp p) (h : wload T t p H Q) :
    StepsV P B (Instr.loadAt t vp) w I ι H (fun a H' => Q a ∧ H' = H) := by
  obtain ⟨v, x, h1, h2, h3⟩ := wload_pure hT r hp h
  exact .pure r h1 h2 ⟨h3, rfl⟩

/-! ### New objects -/
theorem heap_alloc_eq (w : World) (x : Obj) (b : Nat) (h : b < w.heap.size) : (w.alloc x).heap[b]? = w.heap[b]? := by
  show (w.heap.push x)[b]? = _
  rw [Array.getElem?_push, if_neg (by omega)]

theorem heap_alloc_new (w : World) (x : Obj) : (w.alloc x).heap[w.heap.size]? = some x := by
  show (w.heap.push x)[w.heap.size]? = _
  simp

theorem Below.new (w : World) (x : Obj) (_h : ∀ k, B k → k < w.heap.size) : Below B w (w.alloc x) := (Below.refl B w).alloc x

theorem rep_cells {v : Value} {a : A} (h : RepA w I ι H v a) (hl : allLeaf a.cells = true) :
    v.cells.size = a.cells.length ∧ ∀ k, k < a.cells.length → RepA w I ι H (v.cells.getD k undef) (a.cells.getD k .undef) ∧ (v.cells.getD k undef).oneCell' = true := by
  have leafOne : ∀ {v : Value} {a : A}, RepA w I ι H v a → a.leaf = true → v.cells = #[v] ∧ v.oneCell' = true := by
    intro v a h hl
    cases h with
    | d _ _ h => exact ⟨h.cells, h.oneCell⟩
    | nils => exact ⟨rfl, rfl⟩
    | ref _ _ _ _ _ _ _ hlen => obtain ⟨_, _, e⟩ := hlen; rw [e]; exact ⟨rfl, rfl⟩
    | ptr _ _ _ _ _ hv => obtain ⟨_, rfl⟩ := hv; exact ⟨rfl, rfl⟩
    | eptr _ _ _ _ _ _ _ hv => obtain ⟨_, rfl⟩ := hv; exact ⟨rfl, rfl⟩
    | iptr => exact ⟨rfl, rfl⟩
    | itr _ _ _ _ hv => obtain ⟨_, rfl⟩ := hv; exact ⟨rfl, rfl⟩
    | clo => exact ⟨rfl, rfl⟩
    | agg => simp [A.leaf] at hl
    | tup => simp [A.leaf] at hl
    | undef => simp [A.leaf] at hl
  have all : ∀ (cs : List A), allLeaf cs = true → ∀ k, k < cs.length → (cs.getD k .undef).leaf = true := by
    intro cs
    induction cs with
    | nil => intro _ k hk; simp at hk
    | cons c cs ih =>
      intro h k hk
      simp only [allLeaf, Bool.and_eq_true] at h
      cases k with
      | zero => simpa using h.1
      | succ k => simpa using ih h.2 k (by simpa using hk)
  by_cases hagg : ∃ cs, a = .agg cs
  · obtain ⟨cs, rfl⟩ := hagg
    obtain ⟨vs, rfl, h1, h2⟩ := rep_agg h
    refine ⟨by simpa [Value.cells, A.cells] using h1, fun k hk => ?_⟩
    have hk' : k < cs.length := hk
    have := h2 k hk'
    have e : (Value.agg vs.toArray).cells.getD k undef = vs.getD k undef := by simp [Value.cells, List.getD_eq_getElem?_getD, Array.getD_eq_getD_getElem?]
    rw [e]
    exact ⟨this, (leafOne this (all cs hl k hk')).2⟩
  · have hc : a.cells = [a] := by cases a <;> first | rfl | exact (hagg ⟨_, rfl⟩).elim
    rw [hc] at hl ⊢
    have ha : a.leaf = true := by simpa [allLeaf] using hl
    obtain ⟨h1, h2⟩ := leafOne h ha
    rw [h1]
    refine ⟨rfl, fun k hk => ?_⟩
    have : k = 0 := by simpa using hk
    subst this
    exact ⟨by simpa using h, by simpa using h2⟩

/-- A new box. -/
theorem box_ok (r : Rel B ι I w H) {vs : Array Value} {el : TypeId} {cs : List A} (hs : vs.size = cs.length) (hc : ∀ k, k < cs.length → RepA w I ι H (vs.getD k undef) (cs.getD k .undef)) :
    RepA (w.alloc (.cells vs el)) I (updι ι H.length (some w.heap.size)) (H ++ [.box cs]) (.pointer (some ⟨w.heap.size, 0, none⟩)) (.ptr H.length 0) ∧
    Rel B (updι ι H.length (some w.heap.size)) I (w.alloc (.cells vs el)) (H ++ [.box cs]) ∧ Goes w (w.alloc (.cells vs el)) I I ι (updι ι H.length (some w.heap.size)) H (H ++ [.box cs]) ∧ Below B w (w.alloc (.cells vs el)) := by
  have hb := fun b (h : b < w.heap.size) => heap_alloc_eq w (.cells vs el) b h
  have g := Goes.new hb r.imm ι H (.box cs) (some w.heap.size)
  refine ⟨?_, ?_, g, Below.new _ _ r.base⟩
  · refine .ptr _ _ _ (by simp) (fun cs' h _ => ⟨w.heap.size, by simp [updι], rfl⟩) ⟨_, rfl⟩
  · refine r.new (by show _ ≤ (w.heap.push _).size; simp) hb _ _ (fun b' e => by cases e; exact Nat.le_refl _) ?_
    refine ⟨w.heap.size, vs, el, (0, 0), by simp [updι], r.fresh, heap_alloc_new _ _, hs, fun k hk => (hc k hk).goes g, fun k _ hi => ?_, fun k _ => ?_⟩
    · exact absurd (r.imm _ _ hi) (Nat.lt_irrefl _)
    · unfold World.frozen?; rw [heap_alloc_new]; simp

theorem wbox_ok {t : Nat} {x : A} {vx : Value} (r : Rel B ι I w H) (hx : RepA w I ι H vx x) (hl : allLeaf x.cells = true) {Q : A → AHeap → Prop} (h : Q (.ptr (lenL H) 0) (H ++ [.box x.cells])) :
    StepsV P B (Instr.box t vx) w I ι H Q := by
  obtain ⟨h1, h2⟩ := rep_cells hx hl
  obtain ⟨k1, k2, k3, k4⟩ := box_ok (el := t) r h1 (fun k hk => (h2 k hk).1)
  rw [lenL_eq] at h
  exact ⟨_, _, _, I, _, _, by simp [Instr.box, newVar, newRow], h, k1, k2, k3, k4⟩

theorem zero_rep {z : Value} {zs : List A} (h : z.cells.toList.map absLeaf = zs) : z.cells.size = zs.length ∧ ∀ k, k < zs.length → RepA w I ι H (z.cells.getD k undef) (zs.getD k .undef) := by
  subst h
  refine ⟨by simp, fun k hk => ?_⟩
  have hk' : k < z.cells.toList.length := by simpa using hk
  have hk2 : k < z.cells.size := by simpa using hk
  simp only [List.getD_eq_getElem?_getD, List.getElem?_map, List.getElem?_eq_getElem hk', Option.map_some, Option.getD_some, Array.getD_eq_getD_getElem?, Array.getElem?_eq_getElem hk2, Array.getElem_toList]
  exact absLeaf_rep _ _ _ _ _

/-- A new builder. -/
theorem bld_ok (r : Rel B ι I w H) :
    RepA (w.alloc (.cells #[.pointer none, .slice none 0 0] Glb.bt)) I (updι ι H.length (some w.heap.size)) (H ++ [.bld ⟨⟨[]⟩⟩]) (.pointer (some ⟨w.heap.size, 0, none⟩)) (.ptr H.length 0) ∧
    Rel B (updι ι H.length (some w.heap.size)) I (w.alloc (.cells #[.pointer none, .slice none 0 0] Glb.bt)) (H ++ [.bld ⟨⟨[]⟩⟩]) ∧
    Goes w (w.alloc (.cells #[.pointer none, .slice none 0 0] Glb.bt)) I I ι (updι ι H.length (some w.heap.size)) H (H ++ [.bld ⟨⟨[]⟩⟩]) ∧ Below B w (w.alloc (.cells #[.pointer none, .slice none 0 0] Glb.bt)) := by
  have hb := fun b (h : b < w.heap.size) => heap_alloc_eq w (.cells #[.pointer none, .slice none 0 0] Glb.bt) b h
  have g := Goes.new hb r.imm ι H (.bld ⟨⟨[]⟩⟩) (some w.heap.size)
  have hnew := heap_alloc_new w (.cells #[.pointer none, .slice none 0 0] Glb.bt)
  refine ⟨?_, ?_, g, Below.new _ _ r.base⟩
  · refine .ptr _ _ _ (by simp) (fun cs' h _ => ⟨w.heap.size, by simp [updι], rfl⟩) ⟨_, rfl⟩
  · refine r.new (by show _ ≤ (w.heap.push _).size; simp) hb _ _ (fun b' e => by cases e; exact Nat.le_refl _) ?_ (fun b' h => ?_)
    · refine ⟨w.heap.size, _, _, by simp [updι], r.fresh, hnew, .inl rfl, fun k hk => absurd (r.imm _ _ hk) (Nat.lt_irrefl _), .inl ⟨rfl, rfl⟩⟩
    · rcases h with h | ⟨b0, n, c, h1, h2⟩
      · simpa [updι] using h
      · have h1 : w.heap.size = b0 := by simpa [updι] using h1
        subst h1
        rw [cell_bld hnew] at h2
        cases h2

theorem walloc_ok (hT : TabOk P T) {t : Nat} {ti : TI} (hti : T.ti t = some ti) (r : Rel B ι I w H) {Q : A → AHeap → Prop} (h : walloc T t ti H Q) :
    StepsV P B (Instr.alloc t true (.tuple #[])) w I ι H Q := by
  obtain ⟨z, hz, hz1, hz2⟩ := (hT.ti _ _ hti).zeroValue w
  have main : Q (.ptr (lenL H) 0) (H ++ [.box ti.zero]) → StepsV P B (Instr.alloc t true (.tuple #[])) w I ι H Q := fun h => by
    obtain ⟨h1, h2⟩ := zero_rep (w := w) (I := I) (ι := ι) (H := H) hz1
    obtain ⟨k1, k2, k3, k4⟩ := box_ok (el := t) r h1 h2
    rw [lenL_eq] at h
    exact ⟨_, _, _, I, _, _, by simp [Instr.alloc, hz, newVar, newRow], h, k1, k2, k3, k4⟩
  unfold walloc at h
  split at h
  · rename_i hzero
    split at h
    · rename_i hbld
      have hbt : t = Glb.bt := (Nat.eq_of_beq_eq_true hbld).trans hT.bld
      subst hbt
      rw [hzero] at hz1
      have hsz : z.cells = #[.pointer none, .slice none 0 0] := by
        obtain ⟨h1, h2⟩ := zero_rep (w := w) (I := I) (ι := ι) (H := H) hz1
        have h3 := h2 0 (by decide)
        have h4 := h2 1 (by decide)
        have e3 : z.cells.getD 0 undef = .pointer none := by
          generalize z.cells.getD 0 undef = v at h3
          cases h3 with | d _ _ h3 => cases h3; rfl
        have e4 : z.cells.getD 1 undef = .slice none 0 0 := by
          generalize z.cells.getD 1 undef = v at h4
          cases h4; rfl
        apply Array.ext (by simpa using h1)
        intro i hi hi'
        match i, hi' with
        | 0, _ => simpa [Array.getD_eq_getD_getElem?, hi] using e3
        | 1, _ => simpa [Array.getD_eq_getD_getElem?, hi] using e4
      obtain ⟨k1, k2, k3, k4⟩ := bld_ok r
      rw [lenL_eq] at h
      exact ⟨_, _, _, I, _, _, by simp [Instr.alloc, hz, newVar, newRow, hsz], h, k1, k2, k3, k4⟩
    · exact main h
  · exact main h

end Go.VM

/- An object changes: freezing, stores. -/
set_option linter.unusedSimpArgs false
set_option linter.unusedVariables false
set_option linter.unusedSectionVars false
namespace Go.VM
open Ops
variable [Ops] [Glb] [Lim]

variable {P : Program} {T : Tab} {B : Gd} {ι : Nat → Option Nat} {I : Nat → Nat → Prop} {w : World} {H : AHeap}

theorem getD_obj {H : AHeap} {o : Nat} {x : AObj} (h : H.getD o .dead = x) (hx : x ≠ .dead) : H[o]? = some x := by
  rw [List.getD_eq_getElem?_getD] at h
  cases hy : H[o]? with
  | none => simp [hy] at h; exact absurd h.symm hx
  | some y => simp [hy] at h; rw [h]

/-- An object keeps its kind (and its length). -/
def Like : AObj → AObj → Prop
  | .box _, .box _ => True
  | .arr n sz _ _, .arr n' sz' _ _ => n = n' ∧ sz = sz'
  | .iter _ _, .iter _ _ => True
  | .bld _, .bld _ => True
  | _, _ => False

theorem set_cases {H : AHeap} {o o' : Nat} {x y : AObj} (h : (H.set o x)[o']? = some y) : (o' = o ∧ y = x) ∨ (o' ≠ o ∧ H[o']? = some y) := by
  by_cases e : o' = o
  · subst e
    have hl := (List.getElem?_eq_some_iff.1 h).1
    rw [List.getElem?_set_self (by simpa using hl)] at h
    exact .inl ⟨rfl, (Option.some.inj h).symm⟩
  · rw [List.getElem?_set_ne (Ne.symm e)] at h
    exact .inr ⟨e, h⟩

theorem Goes.set {w' : World} {I' : Nat → Nat → Prop} (hs : Same I w w') (hi : ∀ b k, I b k → I' b k) (hg : Grow w w') {o : Nat} {x x' : AObj} (hx : H[o]? = some x) (hk : Like x x') : Goes w w' I I' ι ι H (H.set o x') where
  same := hs
  imm := hi
  len := by simp
  ref := fun o' off len sz v ho h n sz' get fz h1 h2 => by
    rcases set_cases h1 with ⟨rfl, rfl⟩ | ⟨-, h1⟩
    · cases x <;> simp [Like] at hk
      rename_i n' s' g' f'
      obtain ⟨rfl, rfl⟩ := hk
      obtain ⟨h3, h4⟩ := h n' s' g' f' hx h2
      exact ⟨h3, fun e => (h4 e).grow hg rfl⟩
    · obtain ⟨h3, h4⟩ := h n sz' get fz h1 h2
      exact ⟨h3, fun e => (h4 e).grow hg rfl⟩
  ptr := fun o' cs ho h1 hb => by
    rcases set_cases h1 with ⟨rfl, rfl⟩ | ⟨-, h1⟩
    · refine ⟨⟨x, hx, ?_⟩, rfl⟩
      cases x <;> cases cs <;> first | trivial | exact hb.elim | exact hk.elim
    · exact ⟨⟨_, h1, hb⟩, rfl⟩
  eptr := fun o' n sz get fz ho h1 => by
    rcases set_cases h1 with ⟨rfl, rfl⟩ | ⟨-, h1⟩
    · cases x <;> simp [Like] at hk
      obtain ⟨rfl, rfl⟩ := hk
      exact ⟨_, _, _, hx, Nat.le_refl _, fun _ => rfl⟩
    · exact ⟨_, _, _, h1, Nat.le_refl _, fun _ => rfl⟩
  itr := fun o' s p ho h1 => by
    rcases set_cases h1 with ⟨rfl, rfl⟩ | ⟨-, h1⟩
    · cases x <;> simp [Like] at hk
      exact ⟨⟨_, _, hx⟩, rfl⟩
    · exact ⟨⟨_, _, h1⟩, rfl⟩

theorem Rel.upd {w' : World} {I' : Nat → Nat → Prop} {ι' : Nat → Option Nat} (r : Rel B ι I w H) {o : Nat} {x x' : AObj} (hx : H[o]? = some x) (hsz : w.heap.size ≤ w'.heap.size)
    (g : Goes w w' I I' ι ι' H (H.set o x')) (hι : ∀ o', o' ≠ o → ι' o' = ι o')
    (hb : ∀ o' y c, o' ≠ o → H[o']? = some y → y.live → Own w ι o' y c → w'.heap[c]? = w.heap[c]? ∧ ∀ k, I' c k → I c k)
    (himm : ∀ b k, I' b k → b < w'.heap.size) (hnew : ObjOk B ι' I' w' (H.set o x') o x')
    (hinj : ∀ o' y c, o' ≠ o → H[o']? = some y → y.live → Own w ι o' y c → ¬ Own w' ι' o x' c) (hlow : ∀ b k, B b → I' b k → I b k := by exact fun _ _ _ h => h) : Rel B ι' I' w' (H.set o x') where
  base := fun k hk => Nat.lt_of_lt_of_le (r.base k hk) hsz
  imm := himm
  low := fun b k hb hk => r.low b k hb (hlow b k hb hk)
  glob := g.glob r.glob
  obj := fun o' y hy => by
    rcases set_cases hy with ⟨rfl, rfl⟩ | ⟨e, hy⟩
    · exact hnew
    · by_cases hl : y.live
      · exact (r.obj o' y hy).keep g (hι o' e) (fun b hi => (hb o' y b e hy hl hi).1) (fun b k hi => (hb o' y b e hy hl hi).2 k)
      · cases y <;> first | trivial | exact (hl trivial).elim
  inj := fun o1 o2 y1 y2 c h1 h2 l1 l2 e1 e2 => by
    have old : ∀ o' y, o' ≠ o → H[o']? = some y → y.live → Own w' ι' o' y c → Own w ι o' y c := fun o' y ho hy hl hc =>
      hc.back (hι o' ho) (fun b' hi => (hb o' y b' ho hy hl (.of hi)).1)
    rcases set_cases h1 with ⟨p1, q1⟩ | ⟨p1, k1⟩ <;> rcases set_cases h2 with ⟨p2, q2⟩ | ⟨p2, k2⟩
    · rw [p1, p2]
    · subst p1 q1
      exact absurd e1 (hinj o2 y2 c p2 k2 l2 (old o2 y2 p2 k2 l2 e2))
    · subst p2 q2
      exact absurd e2 (hinj o1 y1 c p1 k1 l1 (old o1 y1 p1 k1 l1 e1))
    · exact r.inj o1 o2 y1 y2 c k1 k2 l1 l2 (old o1 y1 p1 k1 l1 e1) (old o2 y2 p2 k2 l2 e2)

/-- blocks of two live objects are two -/
theorem Rel.ne (r : Rel B ι I w H) {o o' : Nat} {x y : AObj} {b c : Nat} (hx : H[o]? = some x) (hy : H[o']? = some y) (lx : x.live) (ly : y.live) (e : Own w ι o x b) (e' : Own w ι o' y c) (h : o' ≠ o) : c ≠ b := fun ec => by
  subst ec
  exact h (r.inj o' o y x c hy hx ly lx e' e)

/-! ### Freezing -/
/-- a state that goes on without a step of the world -/
def Stay (B : Gd) (w : World) (I : Nat → Nat → Prop) (ι : Nat → Option Nat) (H : AHeap) (I' : Nat → Nat → Prop) (H' : AHeap) : Prop := Rel B ι I' w H' ∧ Goes w w I I' ι ι H H'

theorem freeze_ok (r : Rel B ι I w H) {o n sz : Nat} {get : Nat → Nat → D} {fz : Nat} (hx : H[o]? = some (.arr n sz get fz)) :
    ∃ I', Stay B w I ι H I' (H.set o (.arr n sz get n)) ∧ (∀ b, ι o = some b → ∀ k, k < n * sz → I' b k) := by
  obtain ⟨hfz, hob⟩ := r.obj o _ hx
  rcases hob with ⟨b, vs, el, fr, e1, e2, e3, e4, e5, e6⟩ | ⟨e1, e2⟩
  · refine ⟨fun c k => I c k ∨ (c = b ∧ k < n * sz), ⟨?_, ?_⟩, fun b' hb' k hk => .inr ⟨?_, hk⟩⟩
    · have g : Goes w w I (fun c k => I c k ∨ (c = b ∧ k < n * sz)) ι ι H (H.set o (.arr n sz get n)) := Goes.set (fun _ _ _ => rfl) (fun _ _ h => .inl h) (Grow.refl w) hx ⟨rfl, rfl⟩
      refine r.upd hx (Nat.le_refl _) g (fun _ _ => rfl) (fun o' y c hne hy hl hc => ⟨rfl, fun k hk => ?_⟩) (fun c k hk => ?_) ?_ (fun o' y c hne hy hl hc e => ?_) (fun c k hc hk => hk.resolve_right fun h => absurd hc (by rw [h.1]; omega))
      · exact hk.resolve_right (fun h => r.ne hx hy trivial hl e1 hc hne h.1)
      · rcases hk with hk | ⟨rfl, _⟩
        · exact r.imm c k hk
        · exact lt_of_heap e3
      · refine ⟨Nat.le_refl _, .inl ⟨b, vs, el, fr, e1, e2, e3, e4, fun i j hi hj => (e5 i j hi hj).mono (fun _ _ _ => rfl) (fun _ _ h => .inl h), fun k hk hc => ?_, fun k hk => e6.2 k ?_⟩⟩
        · have : fz * sz ≤ n * sz := Nat.mul_le_mul_right _ hfz
          rcases hc with hc | hc
          · exact e6.1 k (by omega) hc
          · omega
        · have : fz * sz ≤ n * sz := Nat.mul_le_mul_right _ hfz
          omega
      · exact r.ne hx hy trivial hl e1 hc hne (by have e : ι _ = some _ := e; rw [e1] at e; exact (Option.some.inj e).symm)
    · exact Goes.set (fun _ _ _ => rfl) (fun _ _ h => .inl h) (Grow.refl w) hx ⟨rfl, rfl⟩
    · rw [e1] at hb'; exact (Option.some.inj hb').symm
  · refine ⟨I, ⟨?_, Goes.set (fun _ _ _ => rfl) (fun _ _ h => h) (Grow.refl w) hx ⟨rfl, rfl⟩⟩, fun b' hb' => by rw [e1] at hb'; cases hb'⟩
    refine r.upd hx (Nat.le_refl _) (Goes.set (fun _ _ _ => rfl) (fun _ _ h => h) (Grow.refl w) hx ⟨rfl, rfl⟩) (fun _ _ => rfl) (fun o' y c hne hy hl hc => ⟨rfl, fun k hk => hk⟩) r.imm ⟨Nat.le_refl _, .inr ⟨e1, e2⟩⟩ (fun o' y c hne hy hl hc e => by have e : ι _ = some _ := e; rw [e1] at e; cases e)

/-- an own slice reads as data where its cells cannot change -/
theorem ref_data (r : Rel B ι I w H) {o off len sz n : Nat} {get : Nat → Nat → D} {fz : Nat} {v : Value} (hx : H[o]? = some (.arr n sz get fz)) (hv : RepA w I ι H v (.ref o off len sz)) (he : off + len = n)
    (hI : ∀ b, ι o = some b → ∀ k, k < n * sz → I b k) : RepD w I v (.sl len sz (offG off get)) := by
  cases hv with | ref _ _ _ _ _ ho h hlen =>
  obtain ⟨-, hok⟩ := h n sz get fz hx rfl
  rcases hok he with ⟨b, cap, vs, el, fr, h1, rfl, h3, h4, h5⟩ | ⟨h1, rfl, rfl⟩ | ⟨a, rfl, rfl, h⟩
  · obtain ⟨-, hob⟩ := r.obj o _ hx
    rcases hob with ⟨b', vs', el', fr', e1, e2, e3, e4, e5, e6⟩ | ⟨e1, e2⟩
    · obtain rfl : b = b' := by rw [h1] at e1; exact Option.some.inj e1
      have hlt : ∀ i j, i < len → j < sz → off * sz + (i * sz + j) < n * sz := fun i j hi hj => by
        have : (off + i + 1) * sz ≤ n * sz := Nat.mul_le_mul_right _ (by omega)
        simp only [Nat.add_mul, Nat.one_mul] at this
        omega
      refine .sl b (off * sz) len cap sz _ (fun i j => vs'.getD (off * sz + (i * sz + j)) undef) h5 (fun i j hi hj => ⟨hI b h1 _ (hlt i j hi hj), cell_of_block e3 (by have := hlt i j hi hj; omega)⟩) (fun i j hi hj => ?_)
      have := e5 (off + i) j (by omega) hj
      rw [offG_eq]
      rwa [show (off + i) * sz + j = off * sz + (i * sz + j) by rw [Nat.add_mul]; omega] at this
    · rw [e1] at h1; cases h1
  · exact .sl0 _ _ _ _
  · exact .sl0 _ _ _ _

theorem Stay.refl (r : Rel B ι I w H) : Stay B w I ι H I H := ⟨r, .refl _ _ _ _⟩
theorem Stay.trans {I1 I2 : Nat → Nat → Prop} {H1 H2 : AHeap} (h : Stay B w I ι H I1 H1) (k : Stay B w I1 ι H1 I2 H2) : Stay B w I ι H I2 H2 := ⟨k.1, h.2.trans k.2⟩

theorem wdata_ok (r : Rel B ι I w H) {v : Value} {a : A} (hv : RepA w I ι H v a) {K : D → AHeap → Prop} (h : wdata a H K) :
    ∃ I' H' x, Stay B w I ι H I' H' ∧ RepD w I' v x ∧ K x H' := by
  unfold wdata at h
  split at h
  · cases hv with | d _ _ hd => exact ⟨I, H, _, .refl r, hd, h⟩
  · cases hv; exact ⟨I, H, _, .refl r, .sl0 _ _ _ _, h⟩
  · rename_i o off len sz
    simp only [getL_eq] at h
    split at h
    · rename_i n sz' get fz hx
      obtain ⟨h1, h2, h3⟩ := h
      simp only [Nat.beq_eq, eqN_eq, addO_eq] at h1 h2
      subst h1
      have hx := getD_obj hx (by simp)
      obtain ⟨I', hs, hI⟩ := freeze_ok r hx
      rw [setL_eq] at h3
      exact ⟨I', _, _, hs, ref_data hs.1 (n := n) (fz := n) (by rw [List.getElem?_set_self (List.getElem?_eq_some_iff.1 hx).1]) (hv.goes hs.2) h2 hI, h3⟩
    · exact h.elim
  · exact h.elim

theorem wdatas_ok (as : List A) : ∀ {I : Nat → Nat → Prop} {H : AHeap} (r : Rel B ι I w H) {vs : List Value} (hl : vs.length = as.length) (hv : ∀ k, k < as.length → RepA w I ι H (vs.getD k undef) (as.getD k .undef)) {K : List D → AHeap → Prop} (h : wdatas as H K),
    ∃ I' H' xs, Stay B w I ι H I' H' ∧ xs.length = as.length ∧ (∀ k, k < as.length → RepD w I' (vs.getD k undef) (xs.getD k .nilp)) ∧ K xs H' := by
  induction as with
  | nil =>
    intro I H r vs hl hv K h
    exact ⟨I, H, [], .refl r, rfl, fun k hk => absurd hk (by simp), h⟩
  | cons a as ih =>
    intro I H r vs hl hv K h
    cases vs with
    | nil => simp at hl
    | cons v vs =>
      simp only [wdatas] at h
      obtain ⟨I1, H1, x, s1, d1, h1⟩ := wdata_ok r (by simpa using hv 0 (by simp)) h
      obtain ⟨I2, H2, xs, s2, l2, d2, h2⟩ := ih s1.1 (vs := vs) (by simpa using hl) (fun k hk => by
        have := hv (k + 1) (by simpa using hk)
        simpa using this.goes s1.2) h1
      refine ⟨I2, H2, x :: xs, s1.trans s2, by simp [l2], fun k hk => ?_, h2⟩
      cases k with
      | zero => simpa using d1.mono s2.2.same s2.2.imm
      | succ k => simpa using d2 k (by simpa using hk)

/-! ### Stores -/
theorem setCells_heap (b : Nat) : ∀ (xs : List Value) (o : Nat) (w : World) (vs : Array Value) (el : TypeId) (fr : Nat × Nat), w.heap[b]? = some (.cells vs el fr) → o + xs.length ≤ vs.size →
    ∃ vs', (w.setCells b o xs).heap[b]? = some (.cells vs' el fr) ∧ vs'.size = vs.size ∧ ∀ k, vs'.getD k undef = if o ≤ k ∧ k < o + xs.length then xs.getD (k - o) undef else vs.getD k undef
  | [], o, w, vs, el, fr, h, _ => ⟨vs, h, rfl, fun k => by rw [if_neg (by simp)]⟩
  | x :: xs, o, w, vs, el, fr, h, hl => by
    simp at hl
    have h1 : (w.setCell ⟨b, o, none⟩ x).heap[b]? = some (.cells (vs.setIfInBounds o x) el fr) := by
      simp only [World.setCell, Array.getElem?_modify]
      simp [h]
    obtain ⟨vs', h2, h3, h4⟩ := setCells_heap b xs (o + 1) _ _ el fr h1 (by simp; omega)
    refine ⟨vs', h2, by simpa using h3, fun k => ?_⟩
    rw [h4 k]
    by_cases hk : k = o
    · subst hk
      rw [if_neg (by omega), if_pos (by simp)]
      have hko : k < vs.size := by omega
      simp [Array.getD_eq_getD_getElem?, Array.getElem?_setIfInBounds, hko]
    · by_cases hk2 : o + 1 ≤ k ∧ k < o + 1 + xs.length
      · rw [if_pos hk2, if_pos (by simp; omega)]
        obtain ⟨j, rfl⟩ : ∃ j, k = o + 1 + j := ⟨k - (o + 1), by omega⟩
        rw [show o + 1 + j - (o + 1) = j by omega, show o + 1 + j - o = j + 1 by omega, List.getD_cons_succ]
      · rw [if_neg hk2, if_neg (by simp; omega)]
        simp [Array.getD_eq_getD_getElem?, Array.getElem?_setIfInBounds, Ne.symm hk]

theorem setCells_other (b : Nat) : ∀ (xs : List Value) (o : Nat) (w : World) (c : Nat), c ≠ b → (w.setCells b o xs).heap[c]? = w.heap[c]?
  | [], _, _, _, _ => rfl
  | x :: xs, o, w, c, h => by
    rw [World.setCells, setCells_other b xs (o + 1) _ c h]
    exact Go.RowKit.Below.heap_setCell _ _ _ _ h

theorem setCells_size (b : Nat) : ∀ (xs : List Value) (o : Nat) (w : World), (w.setCells b o xs).heap.size = w.heap.size
  | [], _, _ => rfl
  | x :: xs, o, w => by
    rw [World.setCells, setCells_size b xs (o + 1) _]
    simp [World.setCell]

theorem setCells_below (b : Nat) (hb : ¬ B b) : ∀ (xs : List Value) (o : Nat) (w : World), Below B w (w.setCells b o xs)
  | [], _, w => .refl _ _
  | x :: xs, o, w => ((Below.refl B w).setCell (p := ⟨b, o, none⟩) hb x).trans (setCells_below b hb xs (o + 1) _)

theorem setCells_grow (b : Nat) (xs : List Value) (o : Nat) (w : World) {vs : Array Value} {el : TypeId} {fr : Nat × Nat} (h : w.heap[b]? = some (.cells vs el fr)) (hl : o + xs.length ≤ vs.size) : Grow w (w.setCells b o xs) := by
  intro c vs' el' fr' hc
  by_cases e : c = b
  · subst e
    obtain ⟨vs2, h2, h3, -⟩ := setCells_heap c xs o w vs el fr h hl
    rw [h] at hc
    cases hc
    exact ⟨vs2, el, fr, h2, h3⟩
  · exact ⟨vs', el', fr', by rw [setCells_other b xs o w c e]; exact hc, rfl⟩

/-- the world's step of a store -/
theorem run_store_ok {t : Nat} {ti : TI} (hti : TIOk P t ti) {v : Value} {b o : Nat} {vs : Array Value} {el : TypeId} {fr : Nat × Nat} (h : w.heap[b]? = some (.cells vs el fr)) (hl : o + v.cells.size ≤ vs.size) (hs : v.cells.size = ti.size)
    (hf : ∀ k, k < v.cells.size → w.frozen? ⟨b, o + k, none⟩ = false) (h1 : ∀ k, k < v.cells.size → (v.cells.getD k undef).oneCell' = true) :
    (Instr.storeAt t (.pointer (some ⟨b, o, none⟩)) v).run P w = .ok () (w.setCells b o v.cells.toList) := by
  have := run_storeCells_cells (P := P) b o v.cells.toList 0 w (fun j hj => by
      rw [Nat.add_zero, cell_of_block h (by simp at hj; omega)]; rfl) (fun j hj => by rw [Nat.add_zero]; exact hf j (by simpa using hj))
    (fun x hx => by
      obtain ⟨k, hk, rfl⟩ := List.getElem_of_mem hx
      have := h1 k (by simpa using hk)
      simp at hk
      simpa [Array.getD_eq_getD_getElem?, hk] using this)
  simp only [Nat.add_zero] at this
  simp [Instr.storeAt, Instr.sureAddr, storeVar, Sem.run_bind, hti.sizeOf w, hs, this]

theorem wstore_ok (hT : TabOk P T) {t : Nat} {p x : A} {vp vx : Value} {K : AHeap → Prop} (r : Rel B ι I w H) (hp : RepA w I ι H vp p) (hx : RepA w I ι H vx x) (h : wstore T t p x H K) :
    ∃ w' I' H', (Instr.storeAt t vp vx).run P w = .ok () w' ∧ K H' ∧ Rel B ι I' w' H' ∧ Goes w w' I I' ι ι H H' ∧ Below B w w' := by
  unfold wstore at h
  split at h
  · exact h.elim
  rename_i ti hti
  have hti := hT.ti _ _ hti
  obtain ⟨hsz, hlf, h⟩ := h
  obtain ⟨hcl, hcr⟩ := rep_cells hx hlf
  have hsz : x.cells.length = ti.size := by simpa [lenL_eq] using hsz
  split at h
  · rename_i o off
    simp only [getL_eq] at h
    split at h
    · rename_i cs hcs
      obtain ⟨h1, h2⟩ := h
      simp only [Nat.ble_eq, lenL_eq] at h1
      have hcs := getD_obj hcs (by simp)
      obtain ⟨b, vs, el, fr, e1, e2, e3, e4, e5, e6⟩ := r.obj o _ hcs
      cases hp with | ptr _ _ _ ho hq _ =>
      obtain ⟨b', e1', rfl⟩ := hq _ hcs trivial
      obtain rfl : b = b' := by rw [e1] at e1'; exact Option.some.inj e1'
      have hrun := run_store_ok hti (v := vx) (b := b) (o := off) e3 (by omega) (by omega) (fun k hk => e6.2 _ (Nat.zero_le _)) (fun k hk => (hcr k (by omega)).2)
      have hlen : vx.cells.toList.length = x.cells.length := by simpa using hcl
      obtain ⟨vs', g1, g2, g3⟩ := setCells_heap b vx.cells.toList off w vs el fr e3 (by omega)
      have hsame : Same I w (w.setCells b off vx.cells.toList) := fun c k hc => by
        have : c ≠ b := fun e => by subst e; exact e6.1 k (Nat.zero_le _) hc
        unfold World.cell?; rw [setCells_other _ _ _ _ _ this]
      have g : Goes w (w.setCells b off vx.cells.toList) I I ι ι H (H.set o (.box (overL cs off x.cells))) := Goes.set hsame (fun _ _ h => h) (setCells_grow b _ _ w e3 (by omega)) hcs trivial
      rw [setL_eq] at h2
      refine ⟨_, I, _, hrun, h2, ?_, g, setCells_below b e2 _ _ _⟩
      refine r.upd hcs (by rw [setCells_size]; exact Nat.le_refl _) g (fun _ _ => rfl) (fun o' y c hne hy hl hc => ⟨setCells_other _ _ _ _ _ (r.ne hcs hy trivial hl e1 hc hne), fun k hk => hk⟩) (fun c k hk => by rw [setCells_size]; exact r.imm c k hk) ?_
        (fun o' y c hne hy hl hc e => r.ne hcs hy trivial hl e1 hc hne (by have e : ι _ = some _ := e; rw [e1] at e; exact (Option.some.inj e).symm))
      refine ⟨b, vs', el, fr, e1, e2, g1, by rw [g2, overL_length]; exact e4, fun k hk => ?_, e6.1, fun k hk => ?_⟩
      · rw [overL_length] at hk
        rw [g3 k, overL_getD _ _ _ _ _ (by omega)]
        rw [hlen]
        by_cases hc : off ≤ k ∧ k < off + x.cells.length
        · rw [if_pos hc, if_pos hc]
          have := (hcr (k - off) (by omega)).1.goes g
          simpa [Array.getD_eq_getD_getElem?, List.getD_eq_getElem?_getD] using this
        · rw [if_neg hc, if_neg hc]
          exact (e5 k hk).goes g
      · rw [World.frozen?_setCells]; exact e6.2 k hk
    · exact h.elim
  · rename_i o i j len
    have hvl : vx.cells.toList.length = x.cells.length := by simpa using hcl
    obtain ⟨I1, H1, xs, s1, l1, d1, h⟩ := wdatas_ok x.cells r (vs := vx.cells.toList) hvl (fun k hk => by
      have := (hcr k hk).1
      simpa [Array.getD_eq_getD_getElem?, List.getD_eq_getElem?_getD] using this) h
    simp only [getL_eq] at h
    split at h
    · rename_i n sz get fz hcs
      obtain ⟨h0, h1, h2, h3, h4⟩ := h
      simp only [Nat.ble_eq, eqN_eq, leN_eq, ltN_eq] at h0 h1 h2 h3
      have hcs := getD_obj hcs (by simp)
      have r1 := s1.1
      obtain ⟨hfz, hob⟩ := r1.obj o _ hcs
      cases (hp.goes s1.2) with | eptr _ _ _ _ _ ho hq _ =>
      obtain ⟨b', e1', rfl⟩ := (hq n sz get fz hcs).2 h0 h3
      rcases hob with ⟨b, vs, el, fr, e1, e2, e3, e4, e5, e6⟩ | ⟨e1, e2⟩
      · obtain rfl : b = b' := by rw [e1] at e1'; exact Option.some.inj e1'
        have hrow : i * sz + sz ≤ n * sz := by
          have : (i + 1) * sz ≤ n * sz := Nat.mul_le_mul_right _ h3
          rw [Nat.add_mul] at this; omega
        have hfzi : fz * sz ≤ i * sz := Nat.mul_le_mul_right _ h2
        have hrun := run_store_ok hti (v := vx) (b := b) (o := i * sz + j) e3 (by omega) (by omega) (fun k hk => e6.2 _ (by omega)) (fun k hk => (hcr k (by omega)).2)
        obtain ⟨vs', g1, g2, g3⟩ := setCells_heap b vx.cells.toList (i * sz + j) w vs el fr e3 (by omega)
        have hsame : Same I1 w (w.setCells b (i * sz + j) vx.cells.toList) := fun c k hc => by
          by_cases e : c = b
          · subst e
            have hk : ¬ fz * sz ≤ k := fun h => e6.1 k h hc
            exact World.cell?_setCells_out c _ _ _ _ (fun _ _ => .inl (show k < i * sz + j by omega))
          · unfold World.cell?; rw [setCells_other _ _ _ _ _ e]
        have g : Goes w (w.setCells b (i * sz + j) vx.cells.toList) I1 I1 ι ι H1 (H1.set o (.arr n sz (updsG get i j xs) fz)) := Goes.set hsame (fun _ _ h => h) (setCells_grow b _ _ w e3 (by omega)) hcs ⟨rfl, rfl⟩
        rw [setL_eq] at h4
        refine ⟨_, I1, _, hrun, h4, ?_, s1.2.trans g, setCells_below b e2 _ _ _⟩
        refine r1.upd hcs (by rw [setCells_size]; exact Nat.le_refl _) g (fun _ _ => rfl) (fun o' y c hne hy hl hc => ⟨setCells_other _ _ _ _ _ (r1.ne hcs hy trivial hl e1 hc hne), fun k hk => hk⟩) (fun c k hk => by rw [setCells_size]; exact r1.imm c k hk) ?_
          (fun o' y c hne hy hl hc e => r1.ne hcs hy trivial hl e1 hc hne (by have e : ι _ = some _ := e; rw [e1] at e; exact (Option.some.inj e).symm))
        refine ⟨hfz, .inl ⟨b, vs', el, fr, e1, e2, g1, by omega, fun i' j' hi' hj' => ?_, e6.1, fun k hk => ?_⟩⟩
        · rw [g3]
          have hupd : ∀ (xs : List D) (g : Nat → Nat → D) (j : Nat), updsG g i j xs i' j' = if i' = i ∧ j ≤ j' ∧ j' < j + xs.length then xs.getD (j' - j) .nilp else g i' j' := by
            intro xs
            induction xs with
            | nil => intro g j; rw [if_neg (by simp <;> omega)]; rfl
            | cons x xs ih =>
              intro g j
              rw [updsG, ih]
              by_cases c1 : i' = i ∧ j + 1 ≤ j' ∧ j' < j + 1 + xs.length
              · rw [if_pos c1, if_pos (by simp; omega)]
                obtain ⟨q, rfl⟩ : ∃ q, j' = j + 1 + q := ⟨j' - (j + 1), by omega⟩
                rw [show j + 1 + q - (j + 1) = q by omega, show j + 1 + q - j = q + 1 by omega, List.getD_cons_succ]
              · rw [if_neg c1]
                by_cases c2 : i' = i ∧ j' = j
                · obtain ⟨rfl, rfl⟩ := c2
                  rw [if_pos (by simp)]
                  simp [updG_eq]
                · rw [if_neg (by simp; omega)]
                  simp only [updG_eq, if_neg c2]
          rw [hupd]
          by_cases hi : i' = i
          · subst hi
            by_cases hc : j ≤ j' ∧ j' < j + xs.length
            · rw [if_pos (by omega), if_pos ⟨rfl, hc⟩]
              have := (d1 (j' - j) (by omega)).mono g.same g.imm
              rwa [show i' * sz + j' - (i' * sz + j) = j' - j by omega]
            · rw [if_neg (by omega), if_neg (by simp; omega)]
              exact (e5 i' j' hi' hj').mono g.same g.imm
          · have hap : i' * sz + sz ≤ i * sz ∨ i * sz + sz ≤ i' * sz := by
              rcases Nat.lt_or_gt_of_ne hi with h | h
              · left
                have : (i' + 1) * sz ≤ i * sz := Nat.mul_le_mul_right _ h
                rw [Nat.add_mul] at this; omega
              · right
                have : (i + 1) * sz ≤ i' * sz := Nat.mul_le_mul_right _ h
                rw [Nat.add_mul] at this; omega
            rw [if_neg (by omega), if_neg (by simp [hi])]
            exact (e5 i' j' hi' hj').mono g.same g.imm
        · rw [World.frozen?_setCells]; exact e6.2 k hk
      · omega
    · exact h.elim
  · exact h.elim

end Go.VM

/- The other operations. -/
set_option linter.unusedSimpArgs false
set_option linter.unusedVariables false
set_option linter.unusedSectionVars false
namespace Go.VM
open Ops
variable [Ops] [Glb] [Lim]

variable {P : Program} {T : Tab} {B : Gd} {ι : Nat → Option Nat} {I : Nat → Nat → Prop} {w : World} {H : AHeap}

theorem windexAddr_ok (hT : TabOk P T) {t : Nat} {x i : A} {vx vi : Value} {Q : A → Prop} (r : Rel B ι I w H) (hx : RepA w I ι H vx x) (hi : RepA w I ι H vi i) (h : windexAddr T t x i H Q) :
    StepsV P B (Instr.indexAt t vx vi) w I ι H (fun a H' => Q a ∧ H' = H) := by
  unfold windexAddr at h
  split at h
  · rename_i e _ _ _ k n hti
    obtain ⟨d, hd, hu⟩ := (hT.ti _ _ hti).underlying
    obtain rfl := kindOf_slice hd
    obtain rfl := rep_int hi
    split at h
    · rename_i te hte
      have hsz := (hT.ti _ _ hte).sizeOf w
      split at h
      · rename_i len sz get
        obtain ⟨h1, h2, h3, h4⟩ := h
        simp only [Nat.beq_eq] at h3
        simp only [leP_eq, ltP_eq, nI_eq, decide_eq_true_eq] at h1 h2
        cases hx with | d _ _ hx =>
        cases hx with
        | sl0 a cap => exact absurd h2 (by simp; omega)
        | sl b o _ cap _ _ vals hl hc hr =>
          have hn : n.toNat < len := by omega
          have hq : 0 ≤ n ∧ n < (len : Int) := ⟨h1, h2⟩
          refine .pure r (v := .pointer (some ⟨b, o + n.toNat * sz + 0, none⟩)) ?_ (.iptr b (o + n.toNat * sz) get (natOf n) 0 sz (fun q => vals n.toNat q) (fun q hq => ?_) (fun q hq => ?_)) ⟨h4, rfl⟩
          · simp [Instr.indexAt, asIntOf, hu, hq, hsz, Addr.add_mid, h3]
          · have := hc n.toNat q hn hq
            rwa [← Nat.add_assoc] at this
          · have := hr n.toNat q hn hq
            simpa [natOf_eq] using this
      · rename_i o off len sz
        simp only [getL_eq] at h
        split at h
        · rename_i m sz' get fz hob
          obtain ⟨h1, h2, h3, h5, h6, h4⟩ := h
          simp only [Nat.beq_eq] at h3 h5
          simp only [leP_eq, ltP_eq, nI_eq, decide_eq_true_eq] at h1 h2
          simp only [eqN_eq, addO_eq] at h6
          have hob := getD_obj hob (by simp)
          have hq : 0 ≤ n ∧ n < (len : Int) := ⟨h1, h2⟩
          cases hx with | ref _ _ _ _ _ ho hr hlen =>
          obtain ⟨-, hok⟩ := hr m sz' get fz hob h5.symm
          rcases hok h6 with ⟨b, cap, vs, el, fr, e1, rfl, e3, e4, e5⟩ | ⟨-, -, e⟩ | ⟨_, -, e, -⟩
          · refine .pure r (v := .pointer (some ⟨b, off * sz + n.toNat * sz, none⟩)) (by simp [Instr.indexAt, asIntOf, hu, hq, hsz, Addr.add_mid, h3]) (.eptr _ _ _ _ _ ho (fun n' sz2 get2 fz2 hob2 => ?_) ⟨_, rfl⟩) ⟨h4, rfl⟩
            rw [hob] at hob2
            cases hob2
            simp only [addO_eq]
            refine ⟨by omega, fun _ _ => ⟨b, e1, ?_⟩⟩
            simp only [natOf_eq, Nat.add_zero]
            rw [← h5, Nat.add_mul]
          · omega
          · omega
        · exact h.elim
      · exact h.elim
    · exact h.elim
  · rename_i len e _ _ _ k n hti
    obtain ⟨d, hd, hu⟩ := (hT.ti _ _ hti).underlying
    obtain rfl := kindOf_array hd
    obtain rfl := rep_int hi
    split at h
    · rename_i te hte
      have hsz := (hT.ti _ _ hte).sizeOf w
      split at h
      · rename_i m
        have hrun : ∀ a, m < len → (Instr.indexAt t (.pointer (some a)) (.int k (Int.ofNat m))).run P w = .ok (.pointer (some (a.add (m * te.size)))) w := fun a hm => by
          have hq : (0 : Int) ≤ Int.ofNat m ∧ Int.ofNat m < (len : Int) := ⟨Int.natCast_nonneg _, Int.ofNat_lt.2 hm⟩
          simp [Instr.indexAt, asIntOf, hu, Instr.sureAddr, hsz]
          omega
        split at h
        · rename_i o q
          obtain ⟨h1, h2⟩ := h
          simp only [Nat.blt_eq] at h1
          cases hx with | ptr _ _ _ ho hq hv =>
          obtain ⟨a, rfl⟩ := hv
          refine .pure r (hrun a h1) (.ptr _ _ _ ho (fun y hy hby => ?_) ⟨_, rfl⟩) ⟨h2, rfl⟩
          obtain ⟨b, e1, e2⟩ := hq y hy hby
          cases e2
          exact ⟨b, e1, by rw [Addr.add_mid]⟩
        · rename_i o i j l
          obtain ⟨h1, h2⟩ := h
          simp only [Nat.blt_eq] at h1
          cases hx with | eptr _ _ _ _ _ ho hq hv =>
          obtain ⟨a, rfl⟩ := hv
          refine .pure r (hrun a h1) (.eptr _ _ _ _ _ ho (fun n sz get fz hy => ?_) ⟨_, rfl⟩) ⟨h2, rfl⟩
          obtain ⟨k1, k2⟩ := hq n sz get fz hy
          refine ⟨k1, fun e3 e4 => ?_⟩
          obtain ⟨b, e1, e2⟩ := k2 e3 e4
          cases e2
          exact ⟨b, e1, by rw [Addr.add_mid, Nat.add_assoc]⟩
        · rename_i g i j sz
          obtain ⟨h1, h2⟩ := h
          simp only [Nat.blt_eq] at h1
          cases hx with | iptr b o _ _ _ _ vals hc hr =>
          refine .pure r (hrun _ h1) ?_ ⟨h2, rfl⟩
          rw [Addr.add_mid, Nat.add_assoc]
          exact .iptr b o g i _ sz vals hc hr
        · exact h.elim
      · exact h.elim
    · exact h.elim
  · exact h.elim

theorem part_ok {t : Nat} {ti : TI} (hti : TIOk P t ti) {vs : List Value} {cs : List A} (hl : vs.length = cs.length) (hc : ∀ k, k < cs.length → RepA w I ι H (vs.getD k undef) (cs.getD k .undef)) {off : Nat} (ho : off + ti.size ≤ cs.length) (h1 : 1 ≤ ti.size) :
    ∃ v, (part t vs.toArray off).run P w = .ok v w ∧ RepA w I ι H v (if ti.kind.isAgg then .agg ((cs.drop off).take ti.size) else cs.getD off .undef) := by
  by_cases ha : ti.kind.isAgg = true
  · refine ⟨.agg (vs.toArray.extract off (off + ti.size)), by simp [part, hti.isAgg w, ha, hti.sizeOf w], ?_⟩
    rw [if_pos ha]
    have e : vs.toArray.extract off (off + ti.size) = ((vs.drop off).take ti.size).toArray := by
      rw [List.extract_toArray, List.extract_eq_take_drop, Nat.add_sub_cancel_left]
    rw [e]
    refine .agg _ _ (by simp; omega) (fun k hk => ?_)
    have hk' : k < ti.size := by simp at hk; omega
    rw [getD_drop_take _ _ _ _ _ hk', getD_drop_take _ _ _ _ _ hk']
    exact hc (off + k) (by omega)
  · have hlt : off < vs.length := by omega
    refine ⟨vs.getD off undef, ?_, ?_⟩
    · simp [part, hti.isAgg w, ha, List.getD_eq_getElem?_getD, List.getElem?_eq_getElem hlt]
    · rw [if_neg ha]; exact hc off (by omega)

theorem windex_ok (hT : TabOk P T) {t : Nat} {x i : A} {vx vi : Value} {Q : A → Prop} (r : Rel B ι I w H) (hx : RepA w I ι H vx x) (hi : RepA w I ι H vi i) (h : windex T t x i Q) :
    StepsV P B (Instr.index t vx vi) w I ι H (fun a H' => Q a ∧ H' = H) := by
  unfold windex at h
  split at h
  · rename_i s k n
    split at h
    · rename_i hti
      obtain ⟨d, hd, hu⟩ := (hT.ti _ _ hti).underlying
      obtain rfl := kindOf_string hd
      obtain rfl := rep_int hi
      obtain rfl := rep_str hx
      obtain ⟨h1, h2, h3⟩ := h
      simp only [leP_eq, ltP_eq, lenS_eq, decide_eq_true_eq] at h1 h2
      refine .pure r (v := .int .u8 (bt s n)) ?_ (.d _ _ (.int _ _)) ⟨h3, rfl⟩
      have hlt : n.toNat < s.size := by omega
      have hb : s[n.toNat]? = some s[n.toNat] := by rw [getElem?_pos s n.toNat hlt]
      have hbt : bt s n = (s[n.toNat].toNat : Int) := by
        rw [bt_eq]
        have : s.data.toList.getD n.toNat 0 = s[n.toNat] := by
          simp [List.getD_eq_getElem?_getD, getElem?_pos, hlt, ByteArray.getElem_eq_getElem_data]
        rw [this]
      simp [Instr.index, asIntOf, hu, h1, hb, hbt]
    · exact h.elim
  · rename_i cs k n
    split at h
    · rename_i len e _ _ _ hti
      obtain ⟨d, hd, hu⟩ := (hT.ti _ _ hti).underlying
      obtain rfl := kindOf_array hd
      obtain rfl := rep_int hi
      obtain ⟨h1, h2, h3⟩ := h
      simp only [leP_eq, ltP_eq, nI_eq, decide_eq_true_eq] at h1 h2
      split at h3
      · rename_i te hte
        obtain ⟨i, hi, h4, h5, h6⟩ := h3
        simp only [nI_eq] at hi
        simp only [Nat.ble_eq, lenL_eq] at h4 h5
        subst hi
        obtain ⟨vs, rfl, l1, l2⟩ := rep_agg hx
        obtain ⟨v, hv1, hv2⟩ := part_ok (hT.ti _ _ hte) l1 l2 h4 h5
        rw [takeL_eq, dropL_eq, getL_eq] at h6
        have hq : (0 : Int) ≤ i ∧ (i : Int) < (len : Int) := ⟨h1, h2⟩
        refine .pure r (v := v) ?_ hv2 ⟨h6, rfl⟩
        simp [Instr.index, asIntOf, hu, hq, (hT.ti _ _ hte).sizeOf w, hv1]
        exact fun h => absurd h2 (by omega)
      · exact h3.elim
    · exact h.elim
  · exact h.elim

theorem fieldOf_ok (hT : TabOk P T) {t f : Nat} {off : Nat} {ti : TI} (h : fieldOf T t f = some (off, ti)) :
    ∃ (fs : Array Field) (fd : Field), (∀ w, (underlying t).run P w = .ok (.struct fs) w) ∧ fs[f]? = some fd ∧ fd.offset = off ∧ TIOk P fd.type ti := by
  unfold fieldOf at h
  split at h
  · rename_i fs _ _ _ hti
    obtain ⟨d, hd, hu⟩ := (hT.ti _ _ hti).underlying
    obtain ⟨fa, rfl, hfa⟩ := kindOf_struct hd
    rw [getL_eq] at h
    split at h
    · rename_i off' ft hget
      split at h
      · rename_i ti' hft
        cases h
        rw [List.getD_eq_getElem?_getD, List.getElem?_map] at hget
        cases hfs : fs[f]? with
        | none => simp [hfs] at hget
        | some p =>
          simp [hfs] at hget
          subst hget
          rw [← hfa, List.getElem?_map] at hfs
          cases hq : fa.toList[f]? with
          | none => simp [hq] at hfs
          | some fd =>
            simp [hq] at hfs
            exact ⟨fa, fd, hu, by simpa using hq, hfs.1, by rw [hfs.2]; exact hT.ti _ _ hft⟩
      · cases h
    · cases h
  · cases h

theorem wfieldAddr_ok (hT : TabOk P T) {t f : Nat} {x : A} {vx : Value} {Q : A → Prop} (r : Rel B ι I w H) (hx : RepA w I ι H vx x) (h : wfieldAddr T t f x Q) :
    StepsV P B (Instr.fieldAt t vx f) w I ι H (fun a H' => Q a ∧ H' = H) := by
  unfold wfieldAddr at h
  split at h
  · rename_i off ti hf
    obtain ⟨fs, fd, hu, h1, h2, h3⟩ := fieldOf_ok hT hf
    obtain ⟨hsz, h⟩ := h
    simp only [Nat.ble_eq] at hsz
    have hz : ¬ ti.size = 0 := by omega
    have hrun : ∀ b o, (Instr.fieldAt t (.pointer (some ⟨b, o, none⟩)) f).run P w = .ok (.pointer (some ⟨b, o + off, none⟩)) w := fun b o => by
      simp [Instr.fieldAt, hu, h1, Instr.sureAddr, fieldPlace, h3.sizeOf w, hz, Addr.add_mid, h2]
    have hrun' : ∀ a, ∃ a', (Instr.fieldAt t (.pointer (some a)) f).run P w = .ok (.pointer (some a')) w := fun a => by
      simp [Instr.fieldAt, hu, h1, Instr.sureAddr, fieldPlace, h3.sizeOf w, hz]
    split at h
    · rename_i o k
      cases hx with | ptr _ _ _ ho hq hv =>
      obtain ⟨a, rfl⟩ := hv
      obtain ⟨a', ha'⟩ := hrun' a
      refine .pure r (v := .pointer (some a')) ha' (.ptr _ _ _ ho (fun cs hcs hbx => ?_) ⟨_, rfl⟩) ⟨h, rfl⟩
      obtain ⟨b, e1, e2⟩ := hq cs hcs hbx
      cases e2
      rw [hrun] at ha'
      cases ha'
      exact ⟨b, e1, rfl⟩
    · rename_i o i j len
      cases hx with | eptr _ _ _ _ _ ho hq hv =>
      obtain ⟨a, rfl⟩ := hv
      obtain ⟨a', ha'⟩ := hrun' a
      refine .pure r (v := .pointer (some a')) ha' (.eptr _ _ _ _ _ ho (fun n sz get fz hcs => ?_) ⟨_, rfl⟩) ⟨h, rfl⟩
      obtain ⟨h1, h2⟩ := hq n sz get fz hcs
      refine ⟨h1, fun e1 e2 => ?_⟩
      obtain ⟨b, e1, e2⟩ := h2 e1 e2
      cases e2
      rw [hrun] at ha'
      cases ha'
      exact ⟨b, e1, by rw [Nat.add_assoc]⟩
    · rename_i get i j sz
      cases hx with | iptr b o _ _ _ _ vals hc hr =>
      refine .pure r (hrun b (o + j)) ?_ ⟨h, rfl⟩
      rw [Nat.add_assoc]
      exact .iptr b o get i (j + off) sz vals hc hr
    · exact h.elim
  · exact h.elim

theorem wfield_ok (hT : TabOk P T) {t f : Nat} {x : A} {vx : Value} {Q : A → Prop} (r : Rel B ι I w H) (hx : RepA w I ι H vx x) (h : wfield T t f x Q) :
    StepsV P B (Instr.field t vx f) w I ι H (fun a H' => Q a ∧ H' = H) := by
  unfold wfield at h
  split at h
  · rename_i off ti cs hf
    obtain ⟨fs, fd, hu, h1, h2, h3⟩ := fieldOf_ok hT hf
    obtain ⟨h4, h5, h6⟩ := h
    simp only [Nat.ble_eq, lenL_eq] at h4 h5
    obtain ⟨vs, rfl, l1, l2⟩ := rep_agg hx
    obtain ⟨v, hv1, hv2⟩ := part_ok h3 l1 l2 h4 h5
    rw [takeL_eq, dropL_eq, getL_eq] at h6
    exact .pure r (v := v) (by simp [Instr.field, hu, h1, asAgg, h2, hv1]) hv2 ⟨h6, rfl⟩
  · exact h.elim

theorem wconv_ok (hT : TabOk P T) {src dst : Nat} {x : A} {vx : Value} {Q : A → Prop} (r : Rel B ι I w H) (hx : RepA w I ι H vx x) (h : wconv T src dst x Q) :
    StepsV P B (convert src dst vx) w I ι H (fun a H' => Q a ∧ H' = H) := by
  unfold wconv at h
  split at h
  · rename_i k' _ _ _ k _ _ _ k'' n hs hti
    obtain ⟨d, hd, hu⟩ := (hT.ti _ _ hti).underlying
    obtain rfl := kindOf_int hd
    obtain ⟨d', hd', hu'⟩ := (hT.ti _ _ hs).underlying
    obtain rfl := kindOf_int hd'
    obtain rfl := rep_int hx
    exact .pure r (v := .int k (convK k n)) (by simp [convert, hu, hu', Conv.intToInt, convK_eq]) (.d _ _ (.int _ _)) ⟨h, rfl⟩
  · rename_i s hs hti
    obtain ⟨d, hd, hu⟩ := (hT.ti _ _ hti).underlying
    obtain rfl := kindOf_string hd
    obtain ⟨d', hd', hu'⟩ := (hT.ti _ _ hs).underlying
    obtain rfl := kindOf_string hd'
    obtain rfl := rep_str hx
    exact .pure r (v := .string s) (by simp [convert, hu, hu']) (.d _ _ (.str _)) ⟨h, rfl⟩
  · exact h.elim

theorem wun_ok {op : UnOp} {x : A} {vx : Value} {Q : A → Prop} (r : Rel B ι I w H) (hx : RepA w I ι H vx x) (h : wun op x Q) :
    StepsV P B (Op.unary op vx) w I ι H (fun a H' => Q a ∧ H' = H) := by
  unfold wun at h
  split at h
  · obtain rfl := rep_bool hx
    exact .pure r (by simp [Op.unary]) (.d _ _ (.bool _)) ⟨h, rfl⟩
  · obtain rfl := rep_int hx
    exact .pure r (v := .int _ (subK _ 0 _)) (by simp [Op.unary, Op.intArith, subK_eq]) (.d _ _ (.int _ _)) ⟨h, rfl⟩
  · exact h.elim

theorem max_ok {x y : A} {vx vy : Value} {Q : A → Prop} (r : Rel B ι I w H) (hx : RepA w I ι H vx x) (hy : RepA w I ι H vy y) (h : wmax x y Q) (l : Array TypeId) (t : TypeId) :
    StepsV P B (Builtin.max_ l t #[vx, vy]) w I ι H (fun a H' => Q a ∧ H' = H) := by
  unfold wmax at h
  split at h
  · obtain rfl := rep_int hx
    obtain rfl := rep_int hy
    exact .pure r (v := .int _ (maxI _ _)) (by simp [Builtin.max_, Builtin.max2, maxI_eq]) (.d _ _ (.int _ _)) ⟨h, rfl⟩
  · exact h.elim

theorem min_ok {x y : A} {vx vy : Value} {Q : A → Prop} (r : Rel B ι I w H) (hx : RepA w I ι H vx x) (hy : RepA w I ι H vy y) (h : wmin x y Q) (l : Array TypeId) (t : TypeId) :
    StepsV P B (Builtin.min_ l t #[vx, vy]) w I ι H (fun a H' => Q a ∧ H' = H) := by
  unfold wmin at h
  split at h
  · obtain rfl := rep_int hx
    obtain rfl := rep_int hy
    exact .pure r (v := .int _ (minI _ _)) (by simp [Builtin.min_, Builtin.min2, minI_eq]) (.d _ _ (.int _ _)) ⟨h, rfl⟩
  · exact h.elim

end Go.VM

/- Building, making, slicing, appending. -/
set_option linter.unusedSimpArgs false
set_option linter.unusedVariables false
set_option linter.unusedSectionVars false
namespace Go.VM
open Ops
variable [Ops] [Glb] [Lim]

variable {P : Program} {T : Tab} {B : Gd} {ι : Nat → Option Nat} {I : Nat → Nat → Prop} {w : World} {H : AHeap}

/-! ### append: the runs -/
section run
variable {t t2 ty e : TypeId} {i : TypeInfo} {z : Value} {x : Value} {n : Nat} {news : Array Value}

structure Src (P : Program) (w : World) (x : Value) (n size : Nat) (news : Array Value) : Prop where
  len : ∀ w', (Builtin.lenOf x).run P w' = .ok n w'
  first : ∀ w', w'.heap = w.heap → (Builtin.firstCells size n x).run P w' = .ok news w'
  size : news.size = n * size

theorem run_append_fits (ht : P.underlying t = some (.slice e)) (ht2 : P.underlying t2 = some .string ∨ ∃ e', P.underlying t2 = some (.slice e')) (hi : P.info? e = some i) (hx : Src P w x n i.size news)
    {b o sLen sCap : Nat} (hg : sLen + n ≤ sCap) (hc : ∀ j, j < news.size → (w.cell? ⟨b, o + sLen * i.size + j, none⟩).isSome = true) (hf : ∀ j, j < news.size → w.frozen? ⟨b, o + sLen * i.size + j, none⟩ = false) (h1 : ∀ v ∈ news.toList, v.oneCell' = true) :
    (Builtin.append_ #[t, t2] ty #[.slice (some ⟨b, o, none⟩) sLen sCap, x]).run P w = .ok (.slice (some ⟨b, o, none⟩) (sLen + n) sCap) (w.setCells b (o + sLen * i.size) news.toList) := by
  have hst := run_storeCells_cells (P := P) b (o + sLen * i.size) news.toList 0 w (by simpa using hc) (by simpa using hf) h1
  simp only [Nat.add_zero] at hst
  have hff := hx.first w rfl
  rcases ht2 with hd | ⟨e', hd⟩ <;> simp [Builtin.append_, run_underlying ht, run_underlying hd, sizeOf, typeInfo, hi, hx.len, hg, hff, Addr.add_mid, hst]

theorem run_append_none (ht : P.underlying t = some (.slice e)) (ht2 : P.underlying t2 = some .string ∨ ∃ e', P.underlying t2 = some (.slice e')) (hi : P.info? e = some i) (hx : Src P w x n i.size news)
    {sLen sCap : Nat} (hg : sLen + n ≤ sCap) :
    (Builtin.append_ #[t, t2] ty #[.slice none sLen sCap, x]).run P w = .ok (.slice none (sLen + n) sCap) w := by
  have hff := hx.first w rfl
  rcases ht2 with hd | ⟨e', hd⟩ <;> simp [Builtin.append_, run_underlying ht, run_underlying hd, sizeOf, typeInfo, hi, hx.len, hg, hff]

theorem run_append_grows (ht : P.underlying t = some (.slice e)) (ht2 : P.underlying t2 = some .string ∨ ∃ e', P.underlying t2 = some (.slice e')) (hi : P.info? e = some i) (hz : i.zero = some z) (hx : Src P w x n i.size news)
    {base : Option Addr} {sLen sCap : Nat} {olds : Array Value} (hs : Src P w (.slice base sLen sCap) sLen i.size olds) (hg : sCap < sLen + n) (h63 : ((sLen + n : Nat) : Int) ≤ 9223372036854775807) (hfit : (sLen + n) * i.bytes ≤ 140737488355328) :
    ∃ c, sLen + n ≤ c ∧ (Builtin.append_ #[t, t2] ty #[.slice base sLen sCap, x]).run P w =
      .ok (.slice (some ⟨w.heap.size, 0, none⟩) (sLen + n) c) (w.drew.alloc (.cells (olds ++ news ++ Builtin.zeroCells z.cells (c - (sLen + n))) e)) := by
  have hn : ¬ (sLen + n ≤ sCap) := by omega
  have h63' : ¬ (9223372036854775807 < ((sLen : Int) + (n : Int))) := by omega
  have h48' : ¬ (281474976710656 < Builtin.nextslicecap (sLen + n) sCap * i.bytes) := by have := growslice_fits hg hfit; omega
  have hf := hx.first w.drew rfl
  have hfo := hs.first w.drew rfl
  refine ⟨grownCap w (sLen + n) sCap e, ?_, ?_⟩
  · simp only [grownCap, Question.cut]; omega
  · rcases ht2 with hd | ⟨e', hd⟩ <;> simp [Builtin.append_, run_underlying ht, run_underlying hd, sizeOf, typeInfo, zeroValue, hi, hz, hx.len, hn, h63', h48', Question.forced, hf, hfo, newRow, grownCap]
end run

end Go.VM

/- Slicing, building, making. -/
set_option linter.unusedSimpArgs false
set_option linter.unusedVariables false
set_option linter.unusedSectionVars false
namespace Go.VM
open Ops
variable [Ops] [Glb] [Lim]

variable {P : Program} {T : Tab} {B : Gd} {ι : Nat → Option Nat} {I : Nat → Nat → Prop} {w : World} {H : AHeap}

/-! ### Slicing -/
inductive OptRep (w : World) (I : Nat → Nat → Prop) (ι : Nat → Option Nat) (H : AHeap) : Option Value → Option A → Prop
  | none : OptRep w I ι H .none .none
  | some (v : Value) (a : A) (h : RepA w I ι H v a) : OptRep w I ι H (.some v) (.some a)

def BndLo (lo : Option Value) (l : Int) : Prop := (lo = none ∧ l = 0) ∨ ∃ k, lo = some (.int k l)
def BndHi (hi : Option Value) (n h : Int) : Prop := (hi = none ∧ h = n) ∨ ∃ k, hi = some (.int k h)

theorem run_sliceBounds {b : Bool} {len cap : Nat} {lo hi : Option Value} {l h : Int} (hlo : BndLo lo l) (hhi : BndHi hi len h) (h0 : 0 ≤ l) (h1 : l ≤ h) (h2 : h ≤ cap) :
    (Instr.sliceBounds b len cap lo hi none).run P w = .ok (l.toNat, h.toNat, cap) w := by
  have hh : (0 : Int) ≤ h ∧ h ≤ (cap : Int) := ⟨by omega, h2⟩
  have hl : (0 : Int) ≤ l ∧ l ≤ (h.toNat : Int) := ⟨h0, by omega⟩
  rcases hlo with ⟨rfl, rfl⟩ | ⟨k, rfl⟩ <;> rcases hhi with ⟨rfl, rfl⟩ | ⟨k', rfl⟩
  · simp [Instr.sliceBounds]
  · simp [Instr.sliceBounds, Instr.sliceBound, asIntOf, hh]
  · have hl' : (0 : Int) ≤ l ∧ l ≤ (len : Int) := ⟨h0, h1⟩
    simp [Instr.sliceBounds, Instr.sliceBound, asIntOf, hl']
  · have hm : ¬ max h 0 < l := by omega
    simp [Instr.sliceBounds, Instr.sliceBound, asIntOf, hh, hl, hm]

theorem sliceD_ok (hT : TabOk P T) {t e : Nat} {te : TI} (hu : ∀ w, (underlying t).run P w = .ok (.slice e) w) (hte : T.ti e = some te) {v : Value} {n sz : Nat} {get : Nat → Nat → D} (hv : RepD w I v (.sl n sz get)) (hsz : te.size = sz ∨ n = 0)
    {lo hi : Option Value} {l h : Int} (hlo : BndLo lo l) (hhi : BndHi hi n h) (h0 : 0 ≤ l) (h1 : l ≤ h) (h2 : h ≤ n) :
    ∃ v', (Instr.sliceAt t v lo hi none).run P w = .ok v' w ∧ RepD w I v' (.sl (h.toNat - l.toNat) sz (fun i j => get (l.toNat + i) j)) := by
  have hs := (hT.ti _ _ hte).sizeOf w
  cases hv with
  | sl0 a cap =>
    obtain rfl : l = 0 := by omega
    obtain rfl : h = 0 := by omega
    have := run_sliceBounds (P := P) (w := w) (b := true) (len := 0) (cap := cap) hlo hhi (by omega) (by omega) (by omega)
    refine ⟨_, by simp [Instr.sliceAt, Instr.slice, hu, this, hs]; rfl, ?_⟩
    simp only [Int.toNat_zero, Nat.sub_self]
    exact .sl0 _ _ _ _
  | sl b o _ cap _ _ vals hl hc hr =>
    have := run_sliceBounds (P := P) (w := w) (b := true) (len := n) (cap := cap) hlo hhi h0 h1 (by omega)
    refine ⟨_, by simp [Instr.sliceAt, Instr.slice, hu, this, hs]; rfl, ?_⟩
    by_cases hz : h.toNat - l.toNat = 0
    · rw [hz]; exact .sl0 _ _ _ _
    · have hne : ¬ cap = l.toNat := by omega
      have hszz : te.size = sz := hsz.resolve_right (by omega)
      simp only [hne, if_false, Option.map_some, Addr.add_mid, hszz]
      have hidx : ∀ i j, o + l.toNat * sz + (i * sz + j) = o + ((l.toNat + i) * sz + j) := fun i j => by rw [Nat.add_mul]; omega
      refine .sl b _ _ _ _ _ (fun i j => vals (l.toNat + i) j) (by omega) (fun i j hi hj => ?_) (fun i j hi hj => hr _ _ (by omega) hj)
      rw [hidx]
      exact hc _ _ (by omega) hj

theorem optInt {w : World} {I : Nat → Nat → Prop} {ι : Nat → Option Nat} {H : AHeap} {hi : Option Value} {k : IntKind} {n : Int} (h : OptRep w I ι H hi (some (.d (.int k n)))) : hi = some (.int k n) := by
  cases h with | some v _ h => rw [rep_int h]

theorem wslice_ok (hT : TabOk P T) {t : Nat} {x : A} {lo hi : Option A} {vx : Value} {vlo vhi : Option Value} {Q : A → AHeap → Prop} (r : Rel B ι I w H) (hx : RepA w I ι H vx x) (hlo : OptRep w I ι H vlo lo) (hhi : OptRep w I ι H vhi hi)
    (h : wslice T t x lo hi H Q) : StepsV P B (Instr.sliceAt t vx vlo vhi none) w I ι H Q := by
  unfold wslice at h
  simp only at h
  split at h
  · exact h.elim
  rename_i l hl
  have hbl : BndLo vlo l := by
    split at hl
    · cases hlo; cases hl; exact .inl ⟨rfl, rfl⟩
    · rename_i k n
      cases hl
      exact .inr ⟨k, optInt hlo⟩
    · cases hl
  have hbh : ∀ {k : IntKind} {n : Int} (m : Int), hi = some (.d (.int k n)) → BndHi vhi m n := fun m e => by
    subst e; exact .inr ⟨_, optInt hhi⟩
  have hbn : ∀ m : Int, hi = none → BndHi vhi m m := fun m e => by subst e; cases hhi; exact .inl ⟨rfl, rfl⟩
  have hz : lo = none → l = 0 := fun e => by subst e; simp at hl; exact hl.symm
  split at h
  · -- a string
    rename_i s
    split at h
    · rename_i hti
      obtain ⟨d, hd, hu⟩ := (hT.ti _ _ hti).underlying
      obtain rfl := kindOf_string hd
      obtain rfl := rep_str hx
      split at h
      · obtain ⟨h1, h2, h3⟩ := h
        simp only [leP_eq, lenS_eq, decide_eq_true_eq] at h1 h2
        have := run_sliceBounds (P := P) (w := w) (b := false) (len := s.size) (cap := s.size) hbl (hbn _ rfl) h1 h2 (by omega)
        refine .pure r (v := .string (subS s l (lenS s))) ?_ (.d _ _ (.str _)) h3
        simp [Instr.sliceAt, Instr.slice, hu, this, subS_eq, lenS_eq]
      · rename_i k n
        obtain ⟨h1, h2, h3, h4⟩ := h
        simp only [leP_eq, lenS_eq, decide_eq_true_eq] at h1 h2 h3
        have := run_sliceBounds (P := P) (w := w) (b := false) (len := s.size) (cap := s.size) hbl (hbh _ rfl) h1 h2 (by omega)
        refine .pure r (v := .string (subS s l n)) ?_ (.d _ _ (.str _)) h4
        simp [Instr.sliceAt, Instr.slice, hu, this, subS_eq]
      · exact h.elim
    · exact h.elim
  · -- data
    rename_i n sz get
    split at h
    · rename_i e _ _ _ hti
      obtain ⟨d, hd, hu⟩ := (hT.ti _ _ hti).underlying
      obtain rfl := kindOf_slice hd
      obtain ⟨hs, h⟩ := h
      split at hs
      · rename_i te hte
        simp only [Nat.beq_eq, eqN_eq] at hs
        cases hx with | d _ _ hx =>
        have fin : ∀ {h' : Int} (hb : BndHi vhi n h') (h1 : 0 ≤ l) (h2 : l ≤ h') (h3 : h' ≤ n), Q (.d (.sl (subN (natOf h') (natOf l)) sz (loG lo get l))) H → StepsV P B (Instr.sliceAt t vx vlo vhi none) w I ι H Q := fun {h'} hb h1 h2 h3 hq => by
          obtain ⟨v', g1, g2⟩ := sliceD_ok hT hu hte hx hs hbl hb h1 h2 h3
          refine .pure r g1 (.d _ _ ?_) hq
          have e : loG lo get l = fun i j => get (l.toNat + i) j := by
            clear hq hl hlo
            cases lo with
            | none => obtain rfl := hz rfl; funext i j; simp [loG]
            | some a => funext i j; simp [loG, shG_eq, natOf_eq]
          rw [e]
          simpa [subN_eq, natOf_eq] using g2
        split at h
        · obtain ⟨h1, h2, h3⟩ := h
          simp only [leP_eq, nI_eq, decide_eq_true_eq] at h1 h2
          refine fin (hbn _ rfl) h1 h2 (by omega) ?_
          simpa [natOf_eq] using h3
        · obtain ⟨h1, h2, h3, h4⟩ := h
          simp only [leP_eq, nI_eq, decide_eq_true_eq] at h1 h2 h3
          exact fin (hbh _ rfl) h1 h2 h3 h4
        · exact h.elim
      · exact hs.elim
    · exact h.elim
  · -- an own slice
    rename_i o off len sz
    simp only [getL_eq] at h
    split at h
    · rename_i n sz' get fz hob
      have hob := getD_obj hob (by simp)
      split at h
      · rename_i e _ _ _ hti
        obtain ⟨d, hd, hu⟩ := (hT.ti _ _ hti).underlying
        obtain rfl := kindOf_slice hd
        obtain ⟨hs, hsz, hn, h⟩ := h
        split at hs
        · rename_i te hte
          simp only [Nat.beq_eq] at hs hsz
          simp only [eqN_eq, addO_eq] at hn
          subst hsz
          split at h
          · obtain ⟨h1, h2, h3⟩ := h
            simp only [leP_eq, nI_eq, decide_eq_true_eq] at h1 h2
            cases hx with | ref _ _ _ _ _ ho hr hlen =>
            obtain ⟨a, cap, rfl⟩ := hlen
            obtain ⟨-, hok⟩ := hr n sz get fz hob rfl
            have hcap : len ≤ cap := by
              rcases hok hn with ⟨b, cap', vs, el, fr, e1, e2, e3, e4, e5⟩ | ⟨-, e2, e⟩ | ⟨_, e2, e, -⟩
              · cases e2; exact e5
              · omega
              · omega
            have := run_sliceBounds (P := P) (w := w) (b := true) (len := len) (cap := cap) hbl (hbn _ rfl) h1 h2 (by omega)
            refine .pure r (v := .slice (if cap = l.toNat then a else a.map (·.add (l.toNat * te.size))) (len - l.toNat) (cap - l.toNat)) (by simp [Instr.sliceAt, Instr.slice, hu, this, (hT.ti _ _ hte).sizeOf w]) ?_ h3
            simp only [subN_eq, natOf_eq]
            refine .ref _ _ _ _ _ ho (fun n' sz2 get2 fz2 hob2 _ => ?_) ⟨_, _, rfl⟩
            rw [hob] at hob2
            cases hob2
            simp only [addO_eq]
            refine ⟨by omega, fun _ => ?_⟩
            rcases hok hn with ⟨b, cap', vs, el, fr, e1, e2, e3, e4, e5⟩ | ⟨e1, e2, e⟩ | ⟨a', e2, e, e3⟩
            · cases e2
              by_cases hc : cap = l.toNat
              · by_cases hl0 : l.toNat = 0
                · refine .inl ⟨b, 0, vs, el, fr, e1, ?_, e3, ?_, by omega⟩
                  · rw [if_pos hc, hl0, hc, hl0]; simp
                  · have : (off + cap) * sz = off * sz + cap * sz := Nat.add_mul _ _ _
                    rw [hl0]; simp; omega
                · refine .inr (.inr ⟨some ⟨b, off * sz, none⟩, ?_, by omega, by omega⟩)
                  rw [if_pos hc]
                  have h1 : len - l.toNat = 0 := by omega
                  have h2 : cap - l.toNat = 0 := by omega
                  rw [h1, h2]
              · refine .inl ⟨b, cap - l.toNat, vs, el, fr, e1, ?_, e3, ?_, by omega⟩
                · rw [if_neg hc, Option.map_some, Addr.add_mid, hs, Nat.add_mul]
                · rw [show off + l.toNat + (cap - l.toNat) = off + cap by omega]; exact e4
            · cases e2
              obtain rfl : l = 0 := by omega
              exact .inr (.inl ⟨e1, by simp, by omega⟩)
            · cases e2
              obtain rfl : l = 0 := by omega
              exact .inr (.inr ⟨a, by simp, by omega, by omega⟩)
          · rename_i k h'
            obtain ⟨h1, h2, h3, h4⟩ := h
            simp only [leP_eq, nI_eq, decide_eq_true_eq] at h1 h2 h3
            obtain ⟨I', hs', hI⟩ := freeze_ok r hob
            have hd := ref_data hs'.1 (n := n) (fz := n) (by rw [List.getElem?_set_self (List.getElem?_eq_some_iff.1 hob).1]) (hx.goes hs'.2) hn hI
            obtain ⟨v', g1, g2⟩ := sliceD_ok hT hu hte hd (.inl hs) hbl (hbh _ rfl) h1 h2 h3
            rw [setL_eq] at h4
            refine ⟨v', _, w, I', ι, _, g1, h4, .d _ _ ?_, hs'.1, hs'.2, .refl _ _⟩
            have e : shG get (addO off (natOf l)) = fun i j => offG off get (l.toNat + i) j := by
              funext i j
              simp [shG_eq, natOf_eq, addO_eq, offG_eq, Nat.add_assoc]
            rw [e]
            simpa [subN_eq, natOf_eq] using g2
          · exact h.elim
        · exact hs.elim
      · exact h.elim
    · exact h.elim
  · exact h.elim

end Go.VM

/- Building and making. -/
set_option linter.unusedSimpArgs false
set_option linter.unusedVariables false
set_option linter.unusedSectionVars false
namespace Go.VM
open Ops
variable [Ops] [Glb] [Lim]

variable {P : Program} {T : Tab} {B : Gd} {ι : Nat → Option Nat} {I : Nat → Nat → Prop} {w : World} {H : AHeap}

/-! ### fill -/
theorem foldl_set (off : Nat) : ∀ (l : List Value) (j : Nat) (cs : Array Value), ((l.zipIdx j).foldl (fun cs (p : Value × Nat) => cs.setIfInBounds (off + p.2) p.1) cs).size = cs.size ∧
    ∀ k, ((l.zipIdx j).foldl (fun cs (p : Value × Nat) => cs.setIfInBounds (off + p.2) p.1) cs).getD k undef = if off + j ≤ k ∧ k < off + j + l.length ∧ k < cs.size then l.getD (k - (off + j)) undef else cs.getD k undef
  | [], j, cs => ⟨rfl, fun k => by rw [if_neg (by simp; omega)]; rfl⟩
  | v :: l, j, cs => by
    obtain ⟨h1, h2⟩ := foldl_set off l (j + 1) (cs.setIfInBounds (off + j) v)
    refine ⟨by simpa [List.zipIdx_cons] using h1, fun k => ?_⟩
    rw [List.zipIdx_cons, List.foldl_cons, h2 k]
    simp only [Array.size_setIfInBounds]
    by_cases c1 : off + (j + 1) ≤ k ∧ k < off + (j + 1) + l.length ∧ k < cs.size
    · rw [if_pos c1, if_pos (by simp; omega)]
      rw [show k - (off + j) = (k - (off + (j + 1))) + 1 by omega, List.getD_cons_succ]
    · rw [if_neg c1]
      by_cases c2 : k = off + j
      · subst c2
        by_cases c3 : off + j < cs.size
        · rw [if_pos (by simp; omega)]
          simp [Array.getD_eq_getD_getElem?, Array.getElem?_setIfInBounds, c3]
        · rw [if_neg (by omega)]
          simp [Array.getD_eq_getD_getElem?, Array.getElem?_setIfInBounds, c3]
      · rw [if_neg (by simp; omega)]
        simp [Array.getD_eq_getD_getElem?, Array.getElem?_setIfInBounds, Ne.symm c2]

def RepCs (w : World) (I : Nat → Nat → Prop) (ι : Nat → Option Nat) (H : AHeap) (vs : Array Value) (cs : List A) : Prop :=
  vs.size = cs.length ∧ ∀ k, k < cs.length → RepA w I ι H (vs.getD k undef) (cs.getD k .undef)

theorem fill_ok {place place' : Nat → Option (Nat × Nat)} (hp : ∀ i p, place i = some p → place' i = some p) : ∀ (parts : List (Nat × A)) (vparts : List (Nat × Value)) (hl : vparts.length = parts.length)
    (hr : ∀ k, k < parts.length → (vparts.getD k (0, undef)).1 = (parts.getD k (0, .undef)).1 ∧ RepA w I ι H (vparts.getD k (0, undef)).2 (parts.getD k (0, .undef)).2)
    (vs : Array Value) (cs : List A) (hc : RepCs w I ι H vs cs) (cs' : List A) (h : fillA place cs parts = some cs'),
    ∃ vs', Instr.fill place' vs vparts = some vs' ∧ RepCs w I ι H vs' cs' ∧ cs'.length = cs.length
  | [], vparts, hl, _, vs, cs, hc, cs', h => by
    cases vparts with
    | nil => cases h; exact ⟨vs, rfl, hc, rfl⟩
    | cons p q => simp at hl
  | (i, a) :: parts, vparts, hl, hr, vs, cs, hc, cs', h => by
    cases vparts with
    | nil => simp at hl
    | cons p vparts =>
      obtain ⟨i', v⟩ := p
      have h0 := hr 0 (by simp)
      simp only [List.getD_cons_zero] at h0
      obtain ⟨rfl, hv⟩ := h0
      simp only [fillA] at h
      split at h
      · cases h
      · rename_i off size hpl
        split at h
        · rename_i hcond
          simp only [Bool.and_eq_true, Nat.beq_eq, Nat.ble_eq, lenL_eq] at hcond
          obtain ⟨⟨hlf, hsz⟩, hfit⟩ := hcond
          obtain ⟨g1, g2⟩ := rep_cells hv hlf
          have hvsz : v.cells.size = size := by omega
          have hcsz := hc.1
          obtain ⟨f1, f2⟩ := foldl_set off v.cells.toList 0 vs
          have hfold : (v.cells.zipIdx.foldl (fun cs (c, j) => cs.setIfInBounds (off + j) c) vs) = ((v.cells.toList.zipIdx 0).foldl (fun cs (p : Value × Nat) => cs.setIfInBounds (off + p.2) p.1) vs) := by
            rw [← Array.foldl_toList]
            simp
          have hnew : RepCs w I ι H ((v.cells.toList.zipIdx 0).foldl (fun cs (p : Value × Nat) => cs.setIfInBounds (off + p.2) p.1) vs) (overL cs off a.cells) := by
            refine ⟨by rw [f1, overL_length]; exact hcsz, fun k hk => ?_⟩
            rw [overL_length] at hk
            rw [f2 k, overL_getD _ _ _ _ _ (by omega)]
            have hll : v.cells.toList.length = a.cells.length := by simpa using g1
            rw [hll]
            by_cases c : off ≤ k ∧ k < off + a.cells.length
            · rw [if_pos (by omega), if_pos c]
              have := (g2 (k - off) (by omega)).1
              simpa [Array.getD_eq_getD_getElem?, List.getD_eq_getElem?_getD] using this
            · rw [if_neg (by omega), if_neg c]
              exact hc.2 k hk
          obtain ⟨vs', q1, q2, q3⟩ := fill_ok hp parts vparts (by simpa using hl) (fun k hk => by simpa using hr (k + 1) (by simpa using hk)) _ _ hnew cs' h
          refine ⟨vs', ?_, q2, by rw [q3, overL_length]⟩
          simp only [Instr.fill, hp _ _ hpl]
          have hcnd : ¬ ((decide (v.cells.size ≠ size) || decide (off + v.cells.size > vs.size)) = true) := by simp; omega
          rw [if_neg hcnd, hfold]
          exact q1
        · cases h

theorem parts_rep {a : Act} {tm : List A} (hT : RepT w I ι H a tm) (parts : Array (Nat × Operand)) :
    (parts.map fun (i, x) => (i, a.eval x)).toList.length = (parts.toList.map fun (i, x) => (i, ev tm x)).length ∧
    ∀ k, k < (parts.toList.map fun (i, x) => (i, ev tm x)).length → ((parts.map fun (i, x) => (i, a.eval x)).toList.getD k (0, undef)).1 = ((parts.toList.map fun (i, x) => (i, ev tm x)).getD k (0, .undef)).1 ∧
      RepA w I ι H ((parts.map fun (i, x) => (i, a.eval x)).toList.getD k (0, undef)).2 ((parts.toList.map fun (i, x) => (i, ev tm x)).getD k (0, .undef)).2 := by
  refine ⟨by simp, fun k hk => ?_⟩
  have hk' : k < parts.size := by simpa using hk
  simp only [Array.toList_map, List.getD_eq_getElem?_getD, List.getElem?_map, Array.getElem?_toList, Array.getElem?_eq_getElem hk', Option.map_some, Option.getD_some]
  exact ⟨trivial, ev_rep hT _⟩

theorem run_mapM_list {α β : Type} (f : α → Sem β) (g : α → β) : ∀ (l : List α), (∀ x ∈ l, (f x).run P w = .ok (g x) w) → (l.mapM f).run P w = .ok (l.map g) w
  | [], _ => rfl
  | x :: l, h => by
    rw [List.mapM_cons]
    simp only [Sem.run_bind, h x (by simp), Result.andThen_ok, run_mapM_list f g l (fun y hy => h y (by simp [hy])), Sem.run_pure, List.map_cons]

theorem run_mapM_array {α β : Type} (f : α → Sem β) (g : α → β) (l : Array α) (h : ∀ x ∈ l.toList, (f x).run P w = .ok (g x) w) : (l.mapM f).run P w = .ok (l.map g) w := by
  rw [Array.mapM_eq_mapM_toList]
  simp only [Sem.run_map, run_mapM_list f g l.toList h, Result.andThen_ok]
  congr 1
  apply Array.ext'
  simp

theorem allTI_ok {T : Tab} : ∀ {fs : List (Nat × Nat)}, allTI T fs = true → ∀ p ∈ fs, ∃ ti, T.ti p.2 = some ti := by
  intro fs
  induction fs with
  | nil => intro _ p hp; cases hp
  | cons q fs ih =>
    intro h p hp
    simp only [allTI, Bool.and_eq_true] at h
    rcases List.mem_cons.1 hp with rfl | hp
    · cases hx : T.ti p.2 with
      | none => simp [hx] at h
      | some ti => exact ⟨ti, rfl⟩
    · exact ih h.2 p hp

theorem wbuild_ok (hT : TabOk P T) {t : Nat} {parts : List (Nat × A)} {vparts : Array (Nat × Value)} {Q : A → Prop} (r : Rel B ι I w H) (hl : vparts.toList.length = parts.length)
    (hr : ∀ k, k < parts.length → (vparts.toList.getD k (0, undef)).1 = (parts.getD k (0, .undef)).1 ∧ RepA w I ι H (vparts.toList.getD k (0, undef)).2 (parts.getD k (0, .undef)).2) (h : wbuild T t parts Q) :
    StepsV P B (Instr.build t vparts) w I ι H (fun a H' => Q a ∧ H' = H) := by
  unfold wbuild at h
  split at h
  · rename_i fs _ _ zero hti
    obtain ⟨d, hd, hu⟩ := (hT.ti _ _ hti).underlying
    obtain ⟨fa, rfl, hfa⟩ := kindOf_struct hd
    obtain ⟨z, hz, hz1, hz2⟩ := (hT.ti _ _ hti).zeroValue w
    obtain ⟨hall, h⟩ := h
    split at h
    · rename_i cs hcs
      have hmem : ∀ x ∈ fa.toList, ∃ ti, TIOk P x.type ti ∧ T.ti x.type = some ti := fun x hx => by
        obtain ⟨ti, hti⟩ := allTI_ok hall (x.offset, x.type) (by rw [← hfa]; exact List.mem_map.2 ⟨x, hx, rfl⟩)
        exact ⟨ti, hT.ti _ _ hti, hti⟩
      have hmap := run_mapM_array (P := P) (w := w) (fun f : Field => do pure (f.offset, ← sizeOf f.type)) (fun f : Field => (f.offset, match T.ti f.type with | some ti => ti.size | none => 0)) fa (fun x hx => by
        obtain ⟨ti, h1, h2⟩ := hmem x hx
        simp [h1.sizeOf w, h2])
      obtain ⟨g1, g2⟩ := zero_rep (w := w) (I := I) (ι := ι) (H := H) hz1
      obtain ⟨vs', q1, q2, q3⟩ := fill_ok (w := w) (I := I) (ι := ι) (H := H) (place := structPlace T fs) (place' := ((fa.map (fun f : Field => (f.offset, match T.ti f.type with | some ti => ti.size | none => 0)))[·]?)) (fun i p hp => by
          unfold structPlace at hp
          rw [getL_eq] at hp
          split at hp
          · rename_i off ft hget
            split at hp
            · rename_i ti hft
              cases hp
              rw [List.getD_eq_getElem?_getD, List.getElem?_map, ← hfa, List.getElem?_map] at hget
              cases hq : fa.toList[i]? with
              | none => simp [hq] at hget
              | some fd =>
                simp [hq] at hget
                have hq' : fa[i]? = some fd := by simpa using hq
                simp [hq', hget.1, hget.2, hft]
            · cases hp
          · cases hp) parts vparts.toList hl hr z.cells zero ⟨g1, g2⟩ cs hcs
      have hrep := RepA.agg (w := w) (I := I) (ι := ι) (H := H) vs'.toList cs (by simpa using q2.1) (fun k hk => by
        have := q2.2 k hk
        simpa [Array.getD_eq_getD_getElem?, List.getD_eq_getElem?_getD] using this)
      refine .pure r (v := .agg vs') ?_ (by simpa using hrep) ⟨h, rfl⟩
      simp only [Instr.build, Sem.run_bind, hz, Result.andThen_ok, hu, hmap, Array.getElem?_map] at q1 ⊢
      simp [q1]
    · exact h.elim
  · rename_i n e _ _ zero hti
    obtain ⟨d, hd, hu⟩ := (hT.ti _ _ hti).underlying
    obtain rfl := kindOf_array hd
    obtain ⟨z, hz, hz1, hz2⟩ := (hT.ti _ _ hti).zeroValue w
    split at h
    · rename_i te hte
      split at h
      · rename_i cs hcs
        obtain ⟨g1, g2⟩ := zero_rep (w := w) (I := I) (ι := ι) (H := H) hz1
        obtain ⟨vs', q1, q2, q3⟩ := fill_ok (w := w) (I := I) (ι := ι) (H := H) (place' := fun i => some (i * te.size, te.size)) (fun i p hp => hp) parts vparts.toList hl hr z.cells zero ⟨g1, g2⟩ cs hcs
        have hrep := RepA.agg (w := w) (I := I) (ι := ι) (H := H) vs'.toList cs (by simpa using q2.1) (fun k hk => by
          have := q2.2 k hk
          simpa [Array.getD_eq_getD_getElem?, List.getD_eq_getElem?_getD] using this)
        refine .pure r (v := .agg vs') ?_ (by simpa using hrep) ⟨h, rfl⟩
        simp [Instr.build, hz, hu, (hT.ti _ _ hte).sizeOf w, q1]
      · exact h.elim
    · exact h.elim
  · exact h.elim

/-! ### New arrays -/
theorem arr_ok (r : Rel B ι I w H) {w' : World} {vs : Array Value} {el : TypeId} (hw : w'.heap = (w.alloc (.cells vs el)).heap) (hb : Below B w w') {n sz : Nat} {get : Nat → Nat → D} (hs : n * sz ≤ vs.size) (hc : ∀ i j, i < n → j < sz → RepD w I (vs.getD (i * sz + j) undef) (get i j)) {cap : Nat} (hcap : n ≤ cap) (hcs : cap * sz ≤ vs.size) :
    RepA w' I (updι ι H.length (some w.heap.size)) (H ++ [.arr n sz get 0]) (.slice (some ⟨w.heap.size, 0, none⟩) n cap) (.ref H.length 0 n sz) ∧
    Rel B (updι ι H.length (some w.heap.size)) I w' (H ++ [.arr n sz get 0]) ∧ Goes w w' I I ι (updι ι H.length (some w.heap.size)) H (H ++ [.arr n sz get 0]) := by
  have hbl := fun b (h : b < w.heap.size) => (show w'.heap[b]? = w.heap[b]? by rw [hw]; exact heap_alloc_eq w (.cells vs el) b h)
  have hnew : w'.heap[w.heap.size]? = some (.cells vs el) := by rw [hw]; exact heap_alloc_new _ _
  have hsz : w.heap.size ≤ w'.heap.size := by rw [hw]; show _ ≤ (w.heap.push _).size; simp
  have g := Goes.new hbl r.imm ι H (.arr n sz get 0) (some w.heap.size)
  refine ⟨?_, ?_, g⟩
  · refine .ref _ _ _ _ _ (by simp) (fun n' sz' get' fz' h _ => ?_) ⟨_, _, rfl⟩
    rw [List.getElem?_append_right (Nat.le_refl _)] at h
    simp at h
    obtain ⟨rfl, rfl, rfl, rfl⟩ := h
    exact ⟨by omega, fun _ => .inl ⟨w.heap.size, cap, vs, el, (0, 0), by simp [updι], by simp, hnew, by simpa using hcs, hcap⟩⟩
  · refine r.new hsz hbl _ _ (fun b' e => by cases e; exact Nat.le_refl _) ?_
    refine ⟨Nat.zero_le _, .inl ⟨w.heap.size, vs, el, (0, 0), by simp [updι], r.fresh, hnew, hs, fun i j hi hj => (hc i j hi hj).mono g.same g.imm, fun k _ hi => ?_, fun k _ => ?_⟩⟩
    · exact absurd (r.imm _ _ hi) (Nat.lt_irrefl _)
    · unfold World.frozen?; rw [hnew]; simp

theorem repL_length {α : Type} (xs : List α) (n : Nat) : (repL xs n).length = n * xs.length := by
  induction n with
  | zero => simp [repL]
  | succ n ih => simp [repL, ih, Nat.add_mul]; omega

theorem repL_getD {α : Type} (xs : List α) (d : α) : ∀ (n k : Nat), k < n * xs.length → (repL xs n).getD k d = xs.getD (k % xs.length) d
  | 0, k, h => by simp at h
  | n + 1, k, h => by
    rw [Nat.add_mul, Nat.one_mul] at h
    by_cases c : k < xs.length
    · simp only [repL, List.getD_eq_getElem?_getD, List.getElem?_append_left c, Nat.mod_eq_of_lt c]
    · have : xs.length ≤ k := by omega
      simp only [repL, List.getD_eq_getElem?_getD, List.getElem?_append_right this]
      have ih := repL_getD xs d n (k - xs.length) (by omega)
      simp only [List.getD_eq_getElem?_getD] at ih
      rw [ih, Nat.mod_eq_sub_mod this]

end Go.VM

/- Slices that are made, appending, strings that are ranged over; and all operations together. -/
set_option linter.unusedSimpArgs false
set_option linter.unusedVariables false
set_option linter.unusedSectionVars false
namespace Go.VM
open Ops
variable [Ops] [Glb] [Lim]

variable {P : Program} {T : Tab} {B : Gd} {ι : Nat → Option Nat} {I : Nat → Nat → Prop} {w : World} {H : AHeap}

theorem Below.allocw {w' : World} {x : Obj} (hw : w' = w.alloc x ∨ w' = w.drew.alloc x) (_h : ∀ k, B k → k < w.heap.size) : Below B w w' := by
  rcases hw with rfl | rfl
  · exact (Below.refl B w).alloc x
  · exact ((Below.refl B w).drew).alloc x

theorem wbuildSlice_ok (hT : TabOk P T) {t len : Nat} {parts : List (Nat × A)} {vparts : Array (Nat × Value)} {Q : A → AHeap → Prop} (r : Rel B ι I w H) (hl : vparts.toList.length = parts.length)
    (hr : ∀ k, k < parts.length → (vparts.toList.getD k (0, undef)).1 = (parts.getD k (0, .undef)).1 ∧ RepA w I ι H (vparts.toList.getD k (0, undef)).2 (parts.getD k (0, .undef)).2) (h : wbuildSlice T t len parts H Q) :
    StepsV P B (Instr.buildSlice t len vparts) w I ι H Q := by
  unfold wbuildSlice at h
  split at h
  · rename_i e _ _ _ hti
    obtain ⟨d, hd, hu⟩ := (hT.ti _ _ hti).underlying
    obtain rfl := kindOf_slice hd
    split at h
    · rename_i te hte
      obtain ⟨h1, h2, h3⟩ := h
      simp only [Nat.ble_eq] at h1 h2
      have hTe := hT.ti _ _ hte
      split at h3
      · rename_i cs hcs
        obtain ⟨z, hz, hz1, hz2⟩ := hTe.zeroValue w
        obtain ⟨g1, g2⟩ := zero_rep (w := w) (I := I) (ι := ι) (H := H) hz1
        have hzn : 0 < z.cells.size := by omega
        -- the zero cells
        let zero : Array Value := if len * te.size = 0 then #[] else z.cells
        have hz0 : RepCs w I ι H ((Array.range (len * te.size)).map (zero[· % zero.size]!)) (repL te.zero len) := by
          refine ⟨by simp [repL_length, ← g1, hz2], fun k hk => ?_⟩
          rw [repL_length, ← g1, hz2] at hk
          have hne : ¬ len * te.size = 0 := by omega
          have hzero : zero = z.cells := by simp only [zero, if_neg hne]
          rw [repL_getD _ _ _ _ (by rw [← g1, hz2]; exact hk), ← g1]
          have hmod : k % z.cells.size < z.cells.size := Nat.mod_lt _ hzn
          have := g2 (k % z.cells.size) (by rw [← g1]; exact hmod)
          have e : ((Array.range (len * te.size)).map (zero[· % zero.size]!)).getD k undef = z.cells.getD (k % z.cells.size) undef := by
            simp [Array.getD_eq_getD_getElem?, hk, hzero, Array.getElem?_eq_getElem hmod, getElem!_pos, hmod]
          rw [e]; exact this
        obtain ⟨vs', q1, q2, q3⟩ := fill_ok (w := w) (I := I) (ι := ι) (H := H) (place' := fun i => some (i * te.size, te.size)) (fun i p hp => hp) parts vparts.toList hl hr _ _ hz0 cs hcs
        obtain ⟨I1, H1, xs, s1, l1, d1, hq⟩ := wdatas_ok cs r (vs := vs'.toList) (by simpa using q2.1) (fun k hk => by
          have := q2.2 k hk
          simpa [Array.getD_eq_getD_getElem?, List.getD_eq_getElem?_getD] using this) h3
        have hcl : cs.length = len * te.size := by rw [q3, repL_length, ← g1, hz2]
        have hidx : ∀ i j, i < len → j < te.size → i * te.size + j < len * te.size := fun i j hi hj => by
          have : (i + 1) * te.size ≤ len * te.size := Nat.mul_le_mul_right _ hi
          rw [Nat.add_mul] at this; omega
        have hvs : vs'.size = len * te.size := by rw [q2.1, hcl]
        obtain ⟨k1, k2, k3⟩ := arr_ok (vs := vs') (el := e) s1.1 (w' := w.alloc (.cells vs' e)) rfl (Below.allocw (.inl rfl) r.base) (n := len) (sz := te.size) (get := rowG te.size xs) (by omega) (fun i j hi hj => by
          have := d1 (i * te.size + j) (by rw [hcl]; exact hidx i j hi hj)
          simpa [rowG_eq, Array.getD_eq_getD_getElem?, List.getD_eq_getElem?_getD] using this) (cap := len) (Nat.le_refl _) (by omega)
        rw [lenL_eq] at hq
        refine ⟨_, _, w.alloc (.cells vs' e), I1, _, _, ?_, hq, k1, k2, s1.2.trans k3, Below.allocw (.inl rfl) r.base⟩
        have hle : ¬ (len * te.size > 2 ^ 24) := by omega
        simp only [Instr.buildSlice, Sem.run_bind, hu, Result.andThen_ok, hTe.sizeOf w, hle, if_false]
        by_cases hz0' : len * te.size = 0
        · simp only [zero, hz0', if_true] at q1
          simp only [hz0', if_true, Sem.run_pure, Result.andThen_ok]
          rw [show (0 : Nat) = len * te.size from hz0'.symm] at q1 ⊢
          simp only [hz0'] at q1 ⊢
          simp at q1 ⊢
          rw [q1]
          simp [newRow]
        · simp only [zero, hz0', if_false] at q1
          simp only [hz0', if_false, Sem.run_bind, hz, Sem.run_pure, Result.andThen_ok]
          rw [q1]
          simp [newRow]
      · exact h3.elim
    · exact h.elim
  · exact h.elim

theorem wmake_ok (hT : TabOk P T) {t : Nat} {n c : A} {vn vc : Value} {Q : A → AHeap → Prop} (r : Rel B ι I w H) (hn : RepA w I ι H vn n) (hc : RepA w I ι H vc c) (h : wmake T t n c H Q) :
    StepsV P B (Instr.makeSlice t vn vc) w I ι H Q := by
  unfold wmake at h
  split at h
  · rename_i e _ _ _ k n k' c hti
    obtain ⟨d, hd, hu⟩ := (hT.ti _ _ hti).underlying
    obtain rfl := kindOf_slice hd
    obtain rfl := rep_int hn
    obtain rfl := rep_int hc
    split at h
    · rename_i te hte
      obtain ⟨h1, h2, h3, h4, h5, h6⟩ := h
      simp only [leP_eq, decide_eq_true_eq] at h1 h2 h3
      simp only [Nat.ble_eq] at h4 h5
      have hTe := hT.ti _ _ hte
      obtain ⟨z, hz, hz1, hz2⟩ := hTe.zeroValue w
      obtain ⟨g1, g2⟩ := zero_rep (w := w) (I := I) (ι := ι) (H := H) hz1
      have hzn : 0 < z.cells.size := by omega
      obtain ⟨I1, H1, xs, s1, l1, d1, hq⟩ := wdatas_ok te.zero r (vs := z.cells.toList) (by simpa using g1) (fun k hk => by
        have := g2 k hk
        simpa [Array.getD_eq_getD_getElem?, List.getD_eq_getElem?_getD] using this) h6
      obtain ⟨inf, hinf, hi1, hi2⟩ := hTe.typeInfo w
      have wn : IntKind.i64.wrap n = n := by
        simp only [IntKind.wrap, IntKind.signed, IntKind.bits]
        simp; omega
      have wc : IntKind.i64.wrap c = c := by
        simp only [IntKind.wrap, IntKind.signed, IntKind.bits]
        simp; omega
      have hbc : ¬ ((te.bytes : Int) * c > 2 ^ 48) := by
        have : (te.bytes : Int) * c ≤ 65536 * 1073741824 := by
          refine Int.le_trans (Int.mul_le_mul_of_nonneg_right (show (te.bytes : Int) ≤ 65536 by omega) (by omega)) ?_
          exact Int.mul_le_mul_of_nonneg_left h3 (by omega)
        omega
      have hbn : ¬ ((te.bytes : Int) * n > 2 ^ 48) := by
        have : (te.bytes : Int) * n ≤ 65536 * 1073741824 := by
          refine Int.le_trans (Int.mul_le_mul_of_nonneg_right (show (te.bytes : Int) ≤ 65536 by omega) (by omega)) ?_
          exact Int.mul_le_mul_of_nonneg_left (by omega) (by omega)
        omega
      let N := c.toNat * te.size
      let zero : Array Value := if N = 0 then #[] else z.cells
      let vs : Array Value := (Array.range N).map (zero[· % zero.size]!)
      have hvs : vs.size = N := by simp [vs]
      have hnc : n.toNat * te.size ≤ N := Nat.mul_le_mul_right _ (by omega)
      have hcell : ∀ i j, i < n.toNat → j < te.size → RepD w I1 (vs.getD (i * te.size + j) undef) (getL xs j .nilp) := fun i j hi hj => by
        have hlt : i * te.size + j < N := by
          have : (i + 1) * te.size ≤ n.toNat * te.size := Nat.mul_le_mul_right _ hi
          rw [Nat.add_mul] at this; omega
        have hne : ¬ N = 0 := by omega
        have hzero : zero = z.cells := by simp only [zero, if_neg hne]
        have hmod : (i * te.size + j) % te.size = j := by
          rw [Nat.add_comm, Nat.add_mul_mod_self_right, Nat.mod_eq_of_lt hj]
        have e : vs.getD (i * te.size + j) undef = z.cells.getD j undef := by
          simp only [vs, hzero, hz2]
          have hj' : j < z.cells.size := by omega
          simp [Array.getD_eq_getD_getElem?, hlt, hmod, Array.getElem?_eq_getElem hj', getElem!_pos, hj']
        rw [e]
        have := d1 j (by omega)
        simpa [getL_eq, Array.getD_eq_getD_getElem?, List.getD_eq_getElem?_getD] using this
      obtain ⟨k1, k2, k3⟩ := arr_ok (vs := vs) (el := e) s1.1 (w' := w.alloc (.cells vs e)) rfl (Below.allocw (.inl rfl) r.base) (n := n.toNat) (sz := te.size) (get := fun _ j => getL xs j .nilp) (by omega) hcell (cap := c.toNat) (by omega) (by omega)
      rw [lenL_eq] at hq
      refine ⟨_, _, w.alloc (.cells vs e), I1, _, _, ?_, by simpa [natOf_eq] using hq, k1, k2, s1.2.trans k3, Below.allocw (.inl rfl) r.base⟩
      have hcn : ¬ (c < 0) := by omega
      have hcnd : ¬ (((decide (c < 0) || decide ((inf.bytes : Int) * c > 2 ^ 48)) || decide (n < 0) || decide (n > c)) = true) := by
        rw [hi2]; simp; omega
      simp only [Instr.makeSlice, Sem.run_bind, hu, Result.andThen_ok, asInt, asIntOf, Sem.run_pure, hinf, wn, wc]
      rw [if_neg hcnd]
      simp only [Sem.run_pure, Sem.run_bind, run_askRoom, Result.andThen_ok, hTe.sizeOf w]
      by_cases hz0 : N = 0
      · have hz0' : c.toNat * te.size = 0 := hz0
        simp only [hz0', if_true, Sem.run_pure, Result.andThen_ok]
        have : vs = #[] := by apply Array.eq_empty_of_size_eq_zero; omega
        simp [newRow, this]
        congr 2
        exact Array.eq_empty_of_size_eq_zero (by simp)
      · have hz0' : ¬ c.toNat * te.size = 0 := hz0
        simp only [hz0', if_false, Sem.run_bind, hz, Sem.run_pure, Result.andThen_ok]
        simp only [vs, zero, hz0, if_false]
        simp [newRow, N]
    · exact h.elim
  · exact h.elim

/-! ### What is appended -/
theorem data_src {v : Value} {n sz : Nat} {get : Nat → Nat → D} (hv : RepD w I v (.sl n sz get)) (size : Nat) (hs : sz = size ∨ n = 0) :
    ∃ news, Src P w v n size news ∧ (∀ i j, i < n → j < size → RepD w I (news.getD (i * size + j) undef) (get i j)) ∧ ∀ x ∈ news.toList, x.oneCell' = true := by
  cases hv with
  | sl0 a cap =>
    refine ⟨#[], ⟨fun w' => rfl, fun w' _ => ?_, by simp⟩, fun i j hi => absurd hi (by omega), fun x hx => by simp at hx⟩
    cases a <;> simp [Builtin.firstCells, loadCells, loadCellsFrom]
  | sl b o _ cap _ _ vals hl hc hr =>
    by_cases hn : n = 0
    · subst hn
      exact ⟨#[], ⟨fun w' => rfl, fun w' _ => by simp [Builtin.firstCells, loadCells, loadCellsFrom], by simp⟩, fun i j hi => absurd hi (by omega), fun x hx => by simp at hx⟩
    · have hs := hs.resolve_right hn
      subst hs
      have hdm : ∀ k, k < n * sz → k / sz < n ∧ k % sz < sz ∧ k / sz * sz + k % sz = k := fun k hk => by
        have h0 : 0 < sz := by
          rcases Nat.eq_zero_or_pos sz with h | h
          · subst h; simp at hk
          · exact h
        refine ⟨(Nat.div_lt_iff_lt_mul h0).2 hk, Nat.mod_lt _ h0, ?_⟩
        rw [Nat.mul_comm]; exact Nat.div_add_mod k sz
      let l : List Value := (List.range (n * sz)).map fun k => vals (k / sz) (k % sz)
      have hll : l.length = n * sz := by simp [l]
      have hlg : ∀ k, k < n * sz → l.getD k undef = vals (k / sz) (k % sz) := fun k hk => by
        simp [l, List.getD_eq_getElem?_getD, hk]
      refine ⟨l.toArray, ⟨fun w' => rfl, fun w' hw => ?_, by simp [hll]⟩, fun i j hi hj => ?_, fun x hx => ?_⟩
      · refine run_firstCells_some (P := P) w' sz n ⟨b, o, none⟩ n cap l hll (fun j v hj => ?_)
        have hjl : j < n * sz := by
          have := (List.getElem?_eq_some_iff.1 hj).1
          omega
        obtain ⟨q1, q2, q3⟩ := hdm j hjl
        have := (hc _ _ q1 q2).2
        rw [q3] at this
        rw [Addr.add_mid]
        have e : w'.cell? ⟨b, o + j, none⟩ = w.cell? ⟨b, o + j, none⟩ := by unfold World.cell?; rw [hw]
        rw [e, this]
        have := hlg j hjl
        rw [List.getD_eq_getElem?_getD, hj] at this
        simpa using this.symm
      · have hlt : i * sz + j < n * sz := by
          have : (i + 1) * sz ≤ n * sz := Nat.mul_le_mul_right _ hi
          rw [Nat.add_mul] at this; omega
        have e : l.toArray.getD (i * sz + j) undef = vals i j := by
          have := hlg _ hlt
          have h0 : 0 < sz := by omega
          rw [show (i * sz + j) / sz = i by rw [Nat.mul_comm, Nat.mul_add_div h0, Nat.div_eq_of_lt hj, Nat.add_zero], show (i * sz + j) % sz = j by rw [Nat.mul_comm, Nat.mul_add_mod, Nat.mod_eq_of_lt hj]] at this
          rw [← this]
          simp [Array.getD_eq_getD_getElem?, List.getD_eq_getElem?_getD]
        rw [e]; exact hr i j hi hj
      · have hx : x ∈ l := by simpa using hx
        obtain ⟨k, hk, rfl⟩ := List.mem_map.1 hx
        have hk := List.mem_range.1 hk
        obtain ⟨q1, q2, q3⟩ := hdm k hk
        exact (hr _ _ q1 q2).oneCell

theorem wsrc_ok (r : Rel B ι I w H) {x : A} {vx : Value} (hx : RepA w I ι H vx x) {K : Nat → (Nat → Nat → D) → Nat → AHeap → Prop} (h : wsrc x H K) :
    ∃ m get sz, K m get sz H ∧ ∀ size, (sz = size ∨ m = 0) → ∃ news, Src P w vx m size news ∧ (∀ i j, i < m → j < size → RepD w I (news.getD (i * size + j) undef) (get i j)) ∧ ∀ x ∈ news.toList, x.oneCell' = true := by
  unfold wsrc at h
  split at h
  · cases hx
    refine ⟨0, _, _, h, fun size _ => ⟨#[], ⟨fun w' => rfl, fun w' _ => by simp [Builtin.firstCells], by simp⟩, fun i j hi => absurd hi (by omega), fun x hx => by simp at hx⟩⟩
  · cases hx with | d _ _ hx =>
    exact ⟨_, _, _, h, fun size hs => data_src hx size hs⟩
  · rename_i s
    obtain rfl := rep_str hx
    refine ⟨_, _, _, h, fun size hs => ?_⟩
    by_cases h0 : s.size = 0
    · refine ⟨#[], ⟨fun w' => by simp [Builtin.lenOf, natOf_eq, lenS_eq], fun w' _ => ?_, by simp [natOf_eq, lenS_eq, h0]⟩, fun i j hi => absurd hi (by simp [natOf_eq, lenS_eq, h0]), fun x hx => by simp at hx⟩
      simp only [Builtin.firstCells, natOf_eq, lenS_eq, Int.toNat_natCast, Sem.run_pure]
      congr 1
      apply Array.eq_empty_of_size_eq_zero
      simp [h0]
    · have hs : size = 1 := by
        rcases hs with hs | hs
        · exact hs.symm
        · exact absurd (by simpa [natOf_eq, lenS_eq] using hs) h0
      subst hs
      have hds : s.data.size = s.size := rfl
      have hex : (s.extract 0 s.size).data = s.data := by
        rw [ByteArray.data_extract, ← hds, Array.extract_size]
      refine ⟨s.data.map fun b => .int .u8 b.toNat, ⟨fun w' => by simp [Builtin.lenOf, natOf_eq, lenS_eq], fun w' _ => ?_, by simp [natOf_eq, lenS_eq]⟩, fun i j hi hj => ?_, fun x hx => ?_⟩
      · simp only [Builtin.firstCells, natOf_eq, lenS_eq, Int.toNat_natCast, Sem.run_pure, hex]
      · have hi' : i < s.data.size := by rw [hds]; simpa [natOf_eq, lenS_eq] using hi
        obtain rfl : j = 0 := by omega
        have : bt s i = (s.data[i].toNat : Int) := by
          rw [bt_eq]
          rw [Int.toNat_natCast, List.getD_eq_getElem?_getD, Array.getElem?_toList, Array.getElem?_eq_getElem hi', Option.getD_some]
        simp only [Nat.mul_one, Nat.add_zero, strG_eq, this]
        rw [Array.getD_eq_getD_getElem?, Array.getElem?_map, Array.getElem?_eq_getElem hi', Option.map_some, Option.getD_some]
        exact .int _ _
      · simp at hx
        obtain ⟨b, _, rfl⟩ := hx
        rfl
  · rename_i o off len sz
    simp only [getL_eq] at h
    split at h
    · rename_i n sz' get fz hob
      obtain ⟨h1, h2, h3⟩ := h
      simp only [Nat.beq_eq] at h1
      simp only [eqN_eq, addO_eq] at h2
      subst h1
      have hob := getD_obj hob (by simp)
      obtain ⟨I', hs', hI⟩ := freeze_ok r hob
      have hd := ref_data hs'.1 (n := n) (fz := n) (by rw [List.getElem?_set_self (List.getElem?_eq_some_iff.1 hob).1]) (hx.goes hs'.2) h2 hI
      refine ⟨len, _, sz, h3, fun size hs => ?_⟩
      obtain ⟨news, q1, q2, q3⟩ := data_src (P := P) hd size hs
      refine ⟨news, q1, fun i j hi hj => ?_, q3⟩
      -- the elements are those of the object, which are data without the freezing
      obtain ⟨-, hobj⟩ := r.obj o _ hob
      have hsz := hs.resolve_right (by omega)
      subst hsz
      cases hx with | ref _ _ _ _ _ ho hr hlen =>
      obtain ⟨-, hok⟩ := hr n sz get fz hob rfl
      rcases hok h2 with ⟨b, cap, vs, el, fr, e1, rfl, e3, e4, e5⟩ | ⟨_, _, e⟩ | ⟨_, _, e, _⟩
      · rcases hobj with ⟨b', vs', el', fr', g1, g2, g3, g4, g5, g6⟩ | ⟨g1, g2⟩
        · obtain rfl : b = b' := by rw [e1] at g1; exact Option.some.inj g1
          have hlt : ∀ k, k < len * sz → off * sz + k < n * sz := fun k hk => by
            rw [← h2, Nat.add_mul]; omega
          have hfirst := run_firstCells_some (P := P) w sz len ⟨b, off * sz, none⟩ len cap ((List.range (len * sz)).map fun k => vs'.getD (off * sz + k) undef) (by simp) (fun j v hj => by
            have hjl : j < len * sz := by
              have := (List.getElem?_eq_some_iff.1 hj).1
              simpa using this
            rw [Addr.add_mid, cell_of_block g3 (by have := hlt j hjl; omega)]
            simpa [hjl] using hj)
          have h1 := q1.first w rfl
          rw [h1] at hfirst
          have hnews := (Result.ok.inj hfirst).1
          have hij : i * sz + j < len * sz := by
            have : (i + 1) * sz ≤ len * sz := Nat.mul_le_mul_right _ hi
            rw [Nat.add_mul] at this; omega
          rw [hnews]
          have e : (((List.range (len * sz)).map fun k => vs'.getD (off * sz + k) undef).toArray).getD (i * sz + j) undef = vs'.getD ((off + i) * sz + j) undef := by
            rw [Nat.add_mul, Nat.add_assoc]
            simp [Array.getD_eq_getD_getElem?, hij]
          rw [e, offG_eq]
          exact g5 (off + i) j (by omega) hj
        · rw [g1] at e1; cases e1
      · omega
      · omega
    · exact h.elim
  · exact h.elim

end Go.VM

/- Appending; strings that are ranged over; all operations together. -/
set_option linter.unusedSimpArgs false
set_option linter.unusedVariables false
set_option linter.unusedSectionVars false
namespace Go.VM
open Ops
variable [Ops] [Glb] [Lim]

variable {P : Program} {T : Tab} {B : Gd} {ι : Nat → Option Nat} {I : Nat → Nat → Prop} {w : World} {H : AHeap}

theorem zeroCells_size (z : Array Value) (n : Nat) : (Builtin.zeroCells z n).size = n * z.size := by simp [Builtin.zeroCells]

theorem getD_append (a b : Array Value) (k : Nat) : (a ++ b).getD k undef = if k < a.size then a.getD k undef else b.getD (k - a.size) undef := by
  simp only [Array.getD_eq_getD_getElem?, Array.getElem?_append]
  split <;> rfl

theorem noInt_ok (hT : TabOk P T) {t2 : Nat} (h : noInt (T.ti t2) = true) : P.underlying t2 = some .string ∨ ∃ e', P.underlying t2 = some (.slice e') := by
  unfold noInt at h
  split at h
  · rename_i e _ _ _ hti
    obtain ⟨d, h1, h2⟩ := (hT.ti _ _ hti).und
    obtain rfl := kindOf_slice h2
    exact .inr ⟨_, h1⟩
  · rename_i hti
    obtain ⟨d, h1, h2⟩ := (hT.ti _ _ hti).und
    obtain rfl := kindOf_string h2
    exact .inl h1
  · cases h

set_option maxHeartbeats 800000 in
theorem wappend_ok (hT : TabOk P T) {t t2 : Nat} {x y : A} {vx vy : Value} {Q : A → AHeap → Prop} (r : Rel B ι I w H) (hx : RepA w I ι H vx x) (hy : RepA w I ι H vy y) (h : wappend T t t2 x y H Q) (ty : TypeId) :
    StepsV P B (Builtin.append_ #[t, t2] ty #[vx, vy]) w I ι H Q := by
  unfold wappend at h
  split at h
  · rename_i e _ _ _ hti
    obtain ⟨d, hu, hd⟩ := (hT.ti _ _ hti).und
    obtain rfl := kindOf_slice hd
    split at h
    · rename_i te hte
      have hTe := hT.ti _ _ hte
      obtain ⟨ht2, h1, h2, h⟩ := h
      have ht2 := noInt_ok hT ht2
      simp only [Nat.ble_eq] at h1 h2
      obtain ⟨inf, z, hi, hi1, hi2, hz, hz1, hz2⟩ := hTe.info
      obtain ⟨m, get', sz', h, hsrc⟩ := wsrc_ok (P := P) r hy h
      obtain ⟨hs', h⟩ := h
      simp only [Nat.beq_eq, eqN_eq] at hs'
      obtain ⟨news, q1, q2, q3⟩ := hsrc inf.size (by rw [hi1]; exact hs')
      rw [hi1] at q2
      have hnsz : news.size = m * te.size := by rw [q1.size, hi1]
      have hcellEq : ∀ i j, i < m → j < te.size → i * te.size + j < news.size := fun i j hi hj => by
        have : (i + 1) * te.size ≤ m * te.size := Nat.mul_le_mul_right _ hi
        rw [Nat.add_mul] at this; omega
      split at h
      · -- the nil slice
        cases hx
        obtain ⟨h3, h4⟩ := h
        simp only [leN_eq] at h3
        rw [lenL_eq] at h4
        by_cases hm : m = 0
        · subst hm
          have hrun := run_append_none (P := P) (w := w) (ty := ty) (sCap := 0) hu ht2 hi q1 (sLen := 0) (Nat.le_refl _)
          have g := Goes.new (w := w) (w' := w) (fun _ _ => rfl) r.imm ι H (.arr 0 te.size get' 0) none
          refine ⟨.slice none 0 0, _, w, I, _, _, hrun, h4, ?_, ?_, g, .refl _ _⟩
          · refine .ref _ _ _ _ _ (by simp) (fun n' sz'' get'' fz' h _ => ?_) ⟨_, _, rfl⟩
            rw [List.getElem?_append_right (Nat.le_refl _)] at h
            simp at h
            obtain ⟨rfl, rfl, rfl, rfl⟩ := h
            exact ⟨by omega, fun _ => .inr (.inl ⟨by simp [updι], rfl, rfl⟩)⟩
          · refine r.new (Nat.le_refl _) (fun _ _ => rfl) _ _ (fun b' e => by cases e) ?_
            exact ⟨Nat.zero_le _, .inr ⟨by simp [updι], rfl⟩⟩
        · have hbytes : (0 + m) * inf.bytes ≤ 140737488355328 := by
            rw [hi2, Nat.zero_add]
            exact Nat.le_trans (Nat.mul_le_mul h3 h2) (by omega)
          obtain ⟨c, hc1, hrun⟩ := run_append_grows (P := P) (w := w) (ty := ty) (base := none) (sLen := 0) (sCap := 0) (olds := #[]) hu ht2 hi hz q1 ⟨fun _ => rfl, fun _ _ => by simp [Builtin.firstCells], by simp⟩ (by omega) (by omega) hbytes
          obtain ⟨k1, k2, k3⟩ := arr_ok (vs := #[] ++ news ++ Builtin.zeroCells z.cells (c - (0 + m))) (el := e) (n := m) (sz := te.size) (get := get') r (w' := w.drew.alloc (.cells (#[] ++ news ++ Builtin.zeroCells z.cells (c - (0 + m))) e)) rfl (Below.allocw (.inr rfl) r.base)
            (by simp [hnsz]) (fun i j hi hj => by
              have := hcellEq i j hi hj
              rw [getD_append, if_pos (by simpa using this)]
              simpa using q2 i j hi hj) (cap := c) (by omega) (by
              simp only [Array.size_append, zeroCells_size, hz2, hnsz]
              simp
              rw [← Nat.add_mul]; exact Nat.mul_le_mul_right _ (by omega))
          simp only [Nat.zero_add] at hrun k1 k2 k3
          exact ⟨_, _, _, I, _, _, hrun, h4, k1, k2, k3, Below.allocw (.inr rfl) r.base⟩
      · -- an own slice
        rename_i o off len sz hold0
        clear hold0
        simp only [getL_eq] at h
        split at h
        · rename_i n sz2 get fz hob
          obtain ⟨h3, h4, h5, h6, h7, h8, h9⟩ := h
          simp only [Nat.beq_eq] at h3 h4 h5
          simp only [eqN_eq, leN_eq, addN_eq] at h6 h7 h8
          subst h3 h4 h5 h6
          have hob := getD_obj hob (by simp)
          rw [setL_eq] at h9
          simp only [addN_eq] at h9
          obtain ⟨hfz, hobj⟩ := r.obj o _ hob
          cases hx with | ref _ _ _ _ _ ho hr hlen =>
          obtain ⟨-, hok⟩ := hr len te.size get fz hob rfl
          have hoklen := hok (by omega)
          -- what may hold of the new object
          have hbytes : (len + m) * inf.bytes ≤ 140737488355328 := by
            rw [hi2]
            exact Nat.le_trans (Nat.mul_le_mul h8 h2) (by omega)
          -- the growth: a new block
          have grow : ∀ (base : Option Addr) (sCap : Nat) (olds : Array Value), vx = .slice base len sCap → sCap < len + m → Src P w (.slice base len sCap) len inf.size olds → (∀ i j, i < len → j < te.size → RepD w I (olds.getD (i * te.size + j) undef) (get i j)) →
              StepsV P B (Builtin.append_ #[t, t2] ty #[vx, vy]) w I ι H Q := by
            intro base sCap olds hvx hg hsrc0 hold
            subst hvx
            obtain ⟨c, hc1, hrun⟩ := run_append_grows (P := P) (w := w) (ty := ty) hu ht2 hi hz q1 hsrc0 hg (by omega) hbytes
            have hosz : olds.size = len * te.size := by rw [hsrc0.size, hi1]
            let vs := olds ++ news ++ Builtin.zeroCells z.cells (c - (len + m))
            let w' := w.drew.alloc (.cells vs e)
            have hbl := fun b (h : b < w.heap.size) => (show w'.heap[b]? = w.heap[b]? from heap_alloc_eq w.drew (.cells vs e) b h)
            have hnew : w'.heap[w.heap.size]? = some (.cells vs e) := heap_alloc_new w.drew _
            have hvsz : vs.size = c * te.size := by
              simp only [vs, Array.size_append, zeroCells_size, hz2, hnsz, hosz]
              rw [← Nat.add_mul, ← Nat.add_mul]; congr 1; omega
            have hsz : w.heap.size ≤ w'.heap.size := by show _ ≤ (w.heap.push _).size; simp
            have hsame : Same I w w' := fun b k hk => by unfold World.cell?; rw [hbl b (r.imm b k hk)]
            have hgr : Grow w w' := fun b vs0 el0 fr0 hb => ⟨vs0, el0, fr0, (hbl b (lt_of_heap hb)).trans hb, rfl⟩
            have hmpos : 0 < m ∨ m = 0 := by omega
            let ι' := updι ι o (some w.heap.size)
            have hlm : m = 0 → False := fun hm => by
              rcases hoklen with ⟨b, cap, vs1, el1, fr1, e1, e2, e3, e4, e5⟩ | ⟨e1, e2, e3⟩ | ⟨a, e1, e2, e3⟩
              · cases e2; omega
              · cases e2; omega
              · cases e1; omega
            have g : Goes w w' I I ι ι' H (H.set o (.arr (len + m) te.size (appG len get get') fz)) :=
              { same := hsame, imm := fun _ _ h => h, len := by simp
                ref := fun o' off' len' sz'' v ho' hx' n' sz3 get3 fz3 hh hs3 => by
                  rcases set_cases hh with ⟨rfl, he⟩ | ⟨hne, hh⟩
                  · cases he
                    have := (hx' len te.size get fz hob hs3).1
                    exact ⟨by omega, fun e => (hlm (by omega)).elim⟩
                  · obtain ⟨g1, g2⟩ := hx' n' sz3 get3 fz3 hh hs3
                    exact ⟨g1, fun e => (g2 e).grow hgr (by simp [ι', updι, hne])⟩
                ptr := fun o' cs ho' hh hbx => by
                  rcases set_cases hh with ⟨rfl, he⟩ | ⟨hne, hh⟩
                  · cases he; exact hbx.elim
                  · exact ⟨⟨cs, hh, hbx⟩, by simp [ι', updι, hne]⟩
                eptr := fun o' n' sz3 get3 fz3 ho' hh => by
                  rcases set_cases hh with ⟨rfl, he⟩ | ⟨hne, hh⟩
                  · cases he
                    exact ⟨len, get, fz, hob, by omega, fun e => (hlm (by omega)).elim⟩
                  · exact ⟨n', get3, fz3, hh, Nat.le_refl _, fun _ => by simp [ι', updι, hne]⟩
                itr := fun o' s p ho' hh => by
                  rcases set_cases hh with ⟨rfl, he⟩ | ⟨hne, hh⟩
                  · cases he
                  · exact ⟨⟨s, p, hh⟩, by simp [ι', updι, hne]⟩ }
            have hidx : ∀ i j, i < len + m → j < te.size → i * te.size + j < (len + m) * te.size := fun i j hi hj => by
              have : (i + 1) * te.size ≤ (len + m) * te.size := Nat.mul_le_mul_right _ hi
              rw [Nat.add_mul, Nat.one_mul] at this; omega
            have hcm : (len + m) * te.size ≤ c * te.size := Nat.mul_le_mul_right _ hc1
            have hrel : Rel B ι' I w' (H.set o (.arr (len + m) te.size (appG len get get') fz)) := by
              refine r.upd hob hsz g (fun o' hne => by simp [ι', updι, hne]) (fun o' y c hne hy hl hc => ⟨hbl c ((r.obj o' y hy).lt hl hc).2, fun _ h => h⟩) (fun b k hk => Nat.lt_of_lt_of_le (r.imm b k hk) hsz) ?_ (fun o' y c hne hy hl hc e => ?_)
              · refine ⟨by omega, .inl ⟨w.heap.size, vs, e, (0, 0), by simp [ι', updι], r.fresh, hnew, by omega, fun i j hi hj => ?_, fun k _ hk => ?_, fun k _ => ?_⟩⟩
                · have hlt := hidx i j hi hj
                  simp only [vs]
                  rw [getD_append, if_pos (by simp only [Array.size_append, hosz, hnsz]; rw [← Nat.add_mul]; exact hlt), getD_append]
                  by_cases hil : i < len
                  · have : (i + 1) * te.size ≤ len * te.size := Nat.mul_le_mul_right _ hil
                    rw [Nat.add_mul, Nat.one_mul] at this
                    rw [if_pos (by omega)]
                    simp only [appG_eq, if_pos hil]
                    exact (hold i j hil hj).mono g.same g.imm
                  · have : len * te.size ≤ i * te.size := Nat.mul_le_mul_right _ (by omega)
                    rw [if_neg (by omega)]
                    simp only [appG_eq, if_neg hil]
                    have := (q2 (i - len) j (by omega) hj).mono g.same g.imm
                    rwa [Nat.sub_mul, show i * te.size - len * te.size + j = i * te.size + j - olds.size by omega] at this
                · exact absurd (r.imm _ _ hk) (Nat.lt_irrefl _)
                · unfold World.frozen?; rw [hnew]; simp
              · have := ((r.obj o' y hy).lt hl hc).2
                have e : ι' o = some c := e
                simp [ι', updι] at e
                omega
            refine ⟨.slice (some ⟨w.heap.size, 0, none⟩) (len + m) c, _, w', I, ι', _, hrun, h9, ?_, hrel, g, Below.allocw (.inr rfl) r.base⟩
            refine .ref _ _ _ _ _ (by simpa using ho) (fun n' sz3 get3 fz3 hh _ => ?_) ⟨_, _, rfl⟩
            rw [List.getElem?_set_self (by simpa using ho)] at hh
            cases hh
            exact ⟨by omega, fun _ => .inl ⟨w.heap.size, c, vs, e, (0, 0), by simp [ι', updι], by simp, hnew, by simp; omega, hc1⟩⟩
          rcases hoklen with ⟨b, cap, vs, el, fr, e1, e2, e3, e4, e5⟩ | ⟨e1, e2, e3⟩ | ⟨a, e1, e2, e3⟩
          · rw [Nat.zero_mul] at e2
            rw [Nat.zero_add] at e4
            subst e2
            rcases hobj with ⟨b', vs', el', fr', g1, g2, g3, g4, g5, g6⟩ | ⟨g1, g2⟩
            · obtain rfl : b = b' := by rw [e1] at g1; exact Option.some.inj g1
              rw [e3] at g3
              cases g3
              by_cases hg : len + m ≤ cap
              · -- in place
                have hroom : len * te.size + news.size ≤ vs.size := by
                  rw [hnsz, ← Nat.add_mul]; exact Nat.le_trans (Nat.mul_le_mul_right _ hg) e4
                have hfzl : fz * te.size ≤ len * te.size := Nat.mul_le_mul_right _ h7
                have hrun := run_append_fits (P := P) (w := w) (ty := ty) (b := b) (o := 0) hu ht2 hi q1 hg (fun j hj => by
                    rw [hi1, cell_of_block e3 (by omega)]; rfl) (fun j hj => by rw [hi1]; exact g6.2 _ (by omega)) q3
                simp only [hi1, Nat.zero_add] at hrun
                have hnl : news.toList.length = news.size := by simp
                obtain ⟨vs', p1, p2, p3⟩ := setCells_heap b news.toList (len * te.size) w vs el fr e3 (by omega)
                have hsame : Same I w (w.setCells b (len * te.size) news.toList) := fun c k hc => by
                  by_cases e : c = b
                  · subst e
                    have hk : ¬ fz * te.size ≤ k := fun h => g6.1 k h hc
                    exact World.cell?_setCells_out c _ _ _ _ (fun _ _ => .inl (show k < len * te.size by omega))
                  · unfold World.cell?; rw [setCells_other _ _ _ _ _ e]
                have hgr := setCells_grow b news.toList (len * te.size) w e3 (by omega)
                have g : Goes w (w.setCells b (len * te.size) news.toList) I I ι ι H (H.set o (.arr (len + m) te.size (appG len get get') fz)) :=
                  { same := hsame, imm := fun _ _ h => h, len := by simp
                    ref := fun o' off' len' sz'' v ho' hx' n' sz3 get3 fz3 hh hs3 => by
                      rcases set_cases hh with ⟨rfl, he⟩ | ⟨hne, hh⟩
                      · cases he
                        obtain ⟨k1, k2⟩ := hx' len te.size get fz hob hs3
                        exact ⟨by omega, fun e => (k2 (by omega)).grow hgr rfl⟩
                      · obtain ⟨k1, k2⟩ := hx' n' sz3 get3 fz3 hh hs3
                        exact ⟨k1, fun e => (k2 e).grow hgr rfl⟩
                    ptr := fun o' cs ho' hh hbx => by
                      rcases set_cases hh with ⟨rfl, he⟩ | ⟨hne, hh⟩
                      · cases he; exact hbx.elim
                      · exact ⟨⟨cs, hh, hbx⟩, rfl⟩
                    eptr := fun o' n' sz3 get3 fz3 ho' hh => by
                      rcases set_cases hh with ⟨rfl, he⟩ | ⟨hne, hh⟩
                      · cases he
                        exact ⟨len, get, fz, hob, by omega, fun e => rfl⟩
                      · exact ⟨n', get3, fz3, hh, Nat.le_refl _, fun _ => rfl⟩
                    itr := fun o' s p ho' hh => by
                      rcases set_cases hh with ⟨rfl, he⟩ | ⟨hne, hh⟩
                      · cases he
                      · exact ⟨⟨s, p, hh⟩, rfl⟩ }
                have hrel : Rel B ι I (w.setCells b (len * te.size) news.toList) (H.set o (.arr (len + m) te.size (appG len get get') fz)) := by
                  refine r.upd hob (by rw [setCells_size]; exact Nat.le_refl _) g (fun _ _ => rfl) (fun o' y c hne hy hl hc => ⟨setCells_other _ _ _ _ _ (r.ne hob hy trivial hl e1 hc hne), fun k hk => hk⟩) (fun c k hk => by rw [setCells_size]; exact r.imm c k hk) ?_
                    (fun o' y c hne hy hl hc e => r.ne hob hy trivial hl e1 hc hne (by have e : ι _ = some _ := e; rw [e1] at e; exact (Option.some.inj e).symm))
                  refine ⟨by omega, .inl ⟨b, vs', el, fr, e1, g2, p1, by rw [p2, Nat.add_mul]; omega, fun i j hi hj => ?_, g6.1, fun k hk => by rw [World.frozen?_setCells]; exact g6.2 k hk⟩⟩
                  rw [p3]
                  by_cases hil : i < len
                  · have : (i + 1) * te.size ≤ len * te.size := Nat.mul_le_mul_right _ hil
                    rw [Nat.add_mul, Nat.one_mul] at this
                    rw [if_neg (by omega)]
                    simp only [appG_eq, if_pos hil]
                    exact (g5 i j hil hj).mono g.same g.imm
                  · have h1' : len * te.size ≤ i * te.size := Nat.mul_le_mul_right _ (by omega)
                    have h2' := hcellEq (i - len) j (by omega) hj
                    rw [Nat.sub_mul] at h2'
                    rw [if_pos (by omega)]
                    simp only [appG_eq, if_neg hil]
                    have := (q2 (i - len) j (by omega) hj).mono g.same g.imm
                    rw [Nat.sub_mul, show i * te.size - len * te.size + j = i * te.size + j - len * te.size by omega] at this
                    simpa [Array.getD_eq_getD_getElem?, List.getD_eq_getElem?_getD] using this
                refine ⟨.slice (some ⟨b, 0, none⟩) (len + m) cap, _, _, I, ι, _, ?_, h9, ?_, hrel, g, setCells_below b g2 _ _ _⟩
                · simpa using hrun
                · refine .ref _ _ _ _ _ (by simpa using ho) (fun n' sz3 get3 fz3 hh _ => ?_) ⟨_, _, rfl⟩
                  rw [List.getElem?_set_self (by simpa using ho)] at hh
                  cases hh
                  exact ⟨by omega, fun _ => .inl ⟨b, cap, vs', el, fr, e1, by simp, p1, by rw [p2]; simpa using e4, hg⟩⟩
              · -- it grows
                have hcell : ∀ k, k < len * te.size → w.cell? ⟨b, k, none⟩ = some (vs.getD k undef) := fun k hk => cell_of_block e3 (by omega)
                have hfirst : ∀ w', w'.heap = w.heap → (Builtin.firstCells inf.size len (.slice (some ⟨b, 0, none⟩) len cap)).run P w' = .ok ((List.range (len * te.size)).map fun k => vs.getD k undef).toArray w' := fun w' hw => by
                  rw [hi1]
                  refine run_firstCells_some (P := P) w' te.size len ⟨b, 0, none⟩ len cap ((List.range (len * te.size)).map fun k => vs.getD k undef) (by simp) (fun j v hj => ?_)
                  have hjl : j < len * te.size := by
                    have := (List.getElem?_eq_some_iff.1 hj).1
                    simpa using this
                  rw [Addr.add_mid, Nat.zero_add]
                  have e : w'.cell? ⟨b, j, none⟩ = w.cell? ⟨b, j, none⟩ := by unfold World.cell?; rw [hw]
                  rw [e, hcell j hjl]
                  simpa [hjl] using hj
                have hsrc0 : Src P w (.slice (some ⟨b, 0, none⟩) len cap) len inf.size ((List.range (len * te.size)).map fun k => vs.getD k undef).toArray := ⟨fun _ => rfl, hfirst, by simp [hi1]⟩
                refine grow (some ⟨b, 0, none⟩) cap _ rfl (by omega) hsrc0 (fun i j hi hj => ?_)
                have hlt : i * te.size + j < len * te.size := by
                  have : (i + 1) * te.size ≤ len * te.size := Nat.mul_le_mul_right _ hi
                  rw [Nat.add_mul, Nat.one_mul] at this; omega
                have e : (((List.range (len * te.size)).map fun k => vs.getD k undef).toArray).getD (i * te.size + j) undef = vs.getD (i * te.size + j) undef := by
                  simp [Array.getD_eq_getD_getElem?, hlt]
                rw [e]; exact g5 i j hi hj
            · rw [g1] at e1; cases e1
          · -- the object has no block yet
            subst e2
            subst e3
            by_cases hm : m = 0
            · subst hm
              have hrun := run_append_none (P := P) (w := w) (ty := ty) (sCap := 0) hu ht2 hi q1 (sLen := 0) (Nat.le_refl _)
              simp only [Nat.add_zero] at h9 hrun
              have g : Goes w w I I ι ι H (H.set o (.arr 0 te.size (appG 0 get get') fz)) := Goes.set (fun _ _ _ => rfl) (fun _ _ h => h) (Grow.refl w) hob ⟨rfl, rfl⟩
              have hrel : Rel B ι I w (H.set o (.arr 0 te.size (appG 0 get get') fz)) := r.upd hob (Nat.le_refl _) g (fun _ _ => rfl) (fun o' y c hne hy hl hc => ⟨rfl, fun k hk => hk⟩) r.imm ⟨by omega, .inr ⟨e1, rfl⟩⟩ (fun o' y c hne hy hl hc e => by have e : ι _ = some _ := e; rw [e1] at e; cases e)
              refine ⟨_, _, w, I, ι, _, hrun, h9, ?_, hrel, g, .refl _ _⟩
              refine .ref _ _ _ _ _ (by simpa using ho) (fun n' sz3 get3 fz3 hh _ => ?_) ⟨_, _, rfl⟩
              rw [List.getElem?_set_self (by simpa using ho)] at hh
              cases hh
              exact ⟨by omega, fun _ => .inr (.inl ⟨e1, rfl, rfl⟩)⟩
            · exact grow none 0 #[] rfl (by omega) ⟨fun _ => rfl, fun _ _ => by simp [Builtin.firstCells], by simp⟩ (fun i j hi => by omega)
          · exact absurd rfl e3
        · exact h.elim
      · exact h.elim
    · exact h.elim
  · exact h.elim

end Go.VM

/- All operations that call no function of the program, together. -/
set_option linter.unusedSimpArgs false
set_option linter.unusedVariables false
set_option linter.unusedSectionVars false
namespace Go.VM
open Ops
variable [Ops] [Glb] [Lim]

variable {P : Program} {T : Tab} {B : Gd} {ι : Nat → Option Nat} {I : Nat → Nat → Prop} {w : World} {H : AHeap}

theorem wnext_ok {x : A} {vx : Value} {Q : A → AHeap → Prop} (r : Rel B ι I w H) (hx : RepA w I ι H vx x) (h : wnext x H Q) (ty : TypeId) :
    StepsV P B (Instr.next vx true ty) w I ι H Q := by
  unfold wnext at h
  split at h
  · rename_i o
    simp only [getL_eq] at h
    split at h
    · rename_i s pos hob
      obtain ⟨h1, h2⟩ := h
      simp only [Imp_eq] at h1 h2
      have hob := getD_obj hob (by simp)
      cases hx with | itr _ _ ho hq hv =>
      obtain ⟨b, e1, rfl⟩ := hq s pos hob
      obtain ⟨b', e1', e2, e3⟩ := r.obj o _ hob
      obtain rfl : b = b' := by rw [e1] at e1'; exact Option.some.inj e1'
      by_cases hlt : pos < s.size
      · have hq := h1 (by simp [ltP_eq, nI_eq, lenS_eq, hlt])
        let w' : World := { w with heap := w.heap.setIfInBounds b (.stringIter s (pos + (Utf8.decode s pos).2)) }
        have hot : ∀ c, c ≠ b → w'.heap[c]? = w.heap[c]? := fun c hc => by
          show (w.heap.setIfInBounds b _)[c]? = _
          rw [Array.getElem?_setIfInBounds, if_neg (Ne.symm hc)]
        have hsame : Same I w w' := fun c k hk => by
          by_cases e : c = b
          · subst e
            unfold World.cell?
            have : w'.heap[c]? = some (.stringIter s (pos + (Utf8.decode s pos).2)) := by
              show (w.heap.setIfInBounds c _)[c]? = _
              rw [Array.getElem?_setIfInBounds]
              simp [lt_of_heap e3]
            rw [this, e3]
          · unfold World.cell?; rw [hot c e]
        have hgr : Grow w w' := fun c vs el fr hc => by
          by_cases e : c = b
          · subst e; rw [e3] at hc; cases hc
          · exact ⟨vs, el, fr, (hot c e).trans hc, rfl⟩
        have g : Goes w w' I I ι ι H (H.set o (.iter s (addN pos (width s pos)))) := Goes.set hsame (fun _ _ h => h) hgr hob trivial
        rw [setL_eq] at hq
        refine ⟨.tuple #[.bool true, goInt pos, .int .i32 (Utf8.decode s pos).1], _, w', I, ι, _, ?_, hq, ?_, ?_, g, ?_⟩
        · simp [Instr.next, getObj, Sem.run, e3, hlt, setObj, w']
        · refine .tup [.bool true, goInt pos, .int .i32 (Utf8.decode s pos).1] _ rfl (fun k hk => ?_)
          have hk : k < 3 := hk
          match k, hk with
          | 0, _ => exact .d _ _ (.bool _)
          | 1, _ => exact .d _ _ (by simp only [nI_eq]; exact .int _ _)
          | 2, _ => exact .d _ _ (by simp only [rune_eq]; exact .int _ _)
        · refine r.upd hob (by show _ ≤ (w.heap.setIfInBounds b _).size; simp) g (fun _ _ => rfl) (fun o' y c hne hy hl hc => ⟨hot c (r.ne hob hy trivial hl e1 hc hne), fun k hk => hk⟩) (fun c k hk => by show _ < (w.heap.setIfInBounds b _).size; simpa using r.imm c k hk) ?_
            (fun o' y c hne hy hl hc e => r.ne hob hy trivial hl e1 hc hne (by have e : ι _ = some _ := e; rw [e1] at e; exact (Option.some.inj e).symm))
          refine ⟨b, e1, e2, ?_⟩
          show (w.heap.setIfInBounds b _)[b]? = _
          rw [Array.getElem?_setIfInBounds]
          simp [lt_of_heap e3, addN_eq, width_eq]
        · exact ⟨rfl, rfl, rfl, by show _ ≤ (w.heap.setIfInBounds b _).size; simp, fun k _ hk => hot k (fun e => e2 (e ▸ hk))⟩
      · have hq := h2 (by simp only [leP_eq, nI_eq, lenS_eq]; omega)
        refine .pure r (v := .tuple #[.bool false]) ?_ (.tup [.bool false] _ rfl (fun k hk => ?_)) hq
        · simp [Instr.next, getObj, Sem.run, e3, hlt]
        · have hk : k < 1 := hk
          match k, hk with
          | 0, _ => exact .d _ _ (.bool _)
    · exact h.elim
  · exact h.elim

theorem wrange_ok (hT : TabOk P T) {t : Nat} {s : ByteArray} {ti : TI} {v : Value} (hti : T.ti t = some ti) (hk : ti.kind = .string) {Q : A → AHeap → Prop} (r : Rel B ι I w H) (hv : RepA w I ι H v (.d (.str s))) (h : Q (.itr (lenL H)) (H ++ [.iter s 0])) :
    StepsV P B (Instr.range t v) w I ι H Q := by
  obtain ⟨d, hd, hu⟩ := (hT.ti _ _ hti).underlying
  rw [hk] at hd
  obtain rfl := kindOf_string hd
  obtain rfl := rep_str hv
  rw [lenL_eq] at h
  have hb := fun b (h : b < w.heap.size) => heap_alloc_eq w (.stringIter s 0) b h
  have g := Goes.new hb r.imm ι H (.iter s 0) (some w.heap.size)
  refine ⟨.pointer (some ⟨w.heap.size, 0, none⟩), _, w.alloc (.stringIter s 0), I, _, _, by simp [Instr.range, hu], h, ?_, ?_, g, (Below.refl B w).alloc _⟩
  · exact .itr _ _ (by simp) (fun s' p hh => ⟨w.heap.size, by simp [updι], rfl⟩) ⟨_, rfl⟩
  · refine r.new (by show _ ≤ (w.heap.push _).size; simp) hb _ _ (fun b' e => by cases e; exact Nat.le_refl _) ?_
    exact ⟨w.heap.size, by simp [updι], r.fresh, heap_alloc_new _ _⟩

/-- what an operation leaves in its slot -/
def Next.val : Next → Option Value
  | .value v => some v
  | .skip => some undef
  | _ => none

def StepsN (P : Program) (B : Gd) (s : Sem Next) (w : World) (I : Nat → Nat → Prop) (ι : Nat → Option Nat) (H : AHeap) (Q : A → AHeap → Prop) : Prop :=
  ∃ nx v r w' I' ι' H', s.run P w = .ok nx w' ∧ (nx = .value v ∨ (nx = .skip ∧ v = undef)) ∧ Q r H' ∧ RepA w' I' ι' H' v r ∧ Rel B ι' I' w' H' ∧ Goes w w' I I' ι ι' H H' ∧ Below B w w'

theorem StepsV.next {s : Sem Value} {Q : A → AHeap → Prop} (h : StepsV P B s w I ι H Q) {s' : Sem Next} (e : ∀ v w', s.run P w = .ok v w' → s'.run P w = .ok (.value v) w') : StepsN P B s' w I ι H Q := by
  obtain ⟨v, r, w', I', ι', H', h1, h2⟩ := h
  exact ⟨.value v, v, r, w', I', ι', H', e v w' h1, .inl rfl, h2⟩

theorem StepsV.at {s : Sem Value} {Q : A → Prop} {Q' : A → AHeap → Prop} (h : StepsV P B s w I ι H (fun a H' => Q a ∧ H' = H)) (e : ∀ a, Q a → Q' a H) : StepsV P B s w I ι H Q' := by
  obtain ⟨v, r, w', I', ι', H', h1, ⟨h2, h3⟩, h4⟩ := h
  subst h3
  exact ⟨v, r, w', I', ι', _, h1, e _ h2, h4⟩

theorem list_rep {a : Act} {tm : List A} (hT : RepT w I ι H a tm) (xs : Array Operand) :
    (xs.map a.eval).toList.length = (xs.toList.map (ev tm)).length ∧ ∀ k, k < (xs.toList.map (ev tm)).length → RepA w I ι H ((xs.map a.eval).toList.getD k undef) ((xs.toList.map (ev tm)).getD k .undef) := by
  refine ⟨by simp, fun k hk => ?_⟩
  have hk' : k < xs.size := by simpa using hk
  simp only [Array.toList_map, List.getD_eq_getElem?_getD, List.getElem?_map, Array.getElem?_toList, Array.getElem?_eq_getElem hk', Option.map_some, Option.getD_some]
  exact ev_rep hT _

theorem wprim_ok (hT : TabOk P T) {o : Oper} {a : Act} {tm : List A} {Q : A → AHeap → Prop} (r : Rel B ι I w H) (ha : RepT w I ι H a tm) (h : wprim T o tm H Q) : StepsN P B (execOp a.eval o) w I ι H Q := by
  unfold wprim at h
  split at h
  · rename_i x ho
    exact StepsV.next (StepsV.pure (P := P) (s := pure (a.eval x)) r rfl (ev_rep ha x) h) (fun v w' e => by cases e; simp [execOp, ho])
  · rename_i x ho
    exact StepsV.next (StepsV.pure (P := P) (s := pure (a.eval x)) r rfl (ev_rep ha x) h) (fun v w' e => by cases e; simp [execOp, ho])
  · rename_i c x y ho
    have hc := ev_rep ha c
    split at h
    · rename_i t ht
      rw [ht] at hc
      have hv := rep_bool hc
      cases t with
      | true => exact StepsV.next (StepsV.pure (P := P) (s := pure (a.eval x)) r rfl (ev_rep ha x) h) (fun v w' e => by cases e; simp [execOp, ho, hv, asBool])
      | false => exact StepsV.next (StepsV.pure (P := P) (s := pure (a.eval y)) r rfl (ev_rep ha y) h) (fun v w' e => by cases e; simp [execOp, ho, hv, asBool])
    · exact h.elim
  · rename_i e ho
    split at h
    · rename_i ti hti
      exact StepsV.next (walloc_ok hT hti r h) (fun v w' e => by simp [execOp, ho, e])
    · exact h.elim
  · rename_i t x ho
    exact StepsV.next (wbox_ok (t := t) r (ev_rep ha x) h.1 h.2) (fun v w' e => by simp [execOp, ho, e])
  · rename_i t parts ho
    obtain ⟨h1, h2⟩ := parts_rep ha parts
    exact StepsV.next ((wbuild_ok hT r h1 h2 h).at (fun _ h => h)) (fun v w' e => by simp [execOp, ho, e])
  · rename_i t len parts ho
    obtain ⟨h1, h2⟩ := parts_rep ha parts
    exact StepsV.next (wbuildSlice_ok hT r h1 h2 h) (fun v w' e => by simp [execOp, ho, e])
  · rename_i t x ho
    exact StepsV.next ((wload_ok hT r (ev_rep ha x) h).at (fun _ h => h)) (fun v w' e => by simp [execOp, ho, e])
  · rename_i t p x ho
    obtain ⟨w', I', H', h1, h2, h3, h4, h5⟩ := wstore_ok hT r (ev_rep ha p) (ev_rep ha x) h
    exact ⟨.skip, undef, .undef, w', I', ι, H', by simp [execOp, ho, h1], .inr ⟨rfl, rfl⟩, h2, .undef _, h3, h4, h5⟩
  · rename_i x ho
    have hx := ev_rep ha x
    unfold wnil at h
    split at h
    · rename_i o k e
      rw [e] at hx
      generalize hvx : a.eval x = vx at hx
      cases hx with | ptr _ _ _ h1 h2 hv =>
      obtain ⟨p, hp⟩ := hv
      exact StepsV.next (StepsV.pure (P := P) (s := pure vx) r rfl (.ptr _ _ _ h1 h2 ⟨p, hp⟩) h) (fun v w' e => by cases e; simp [execOp, ho, hvx, hp])
    · rename_i o i j l e
      rw [e] at hx
      generalize hvx : a.eval x = vx at hx
      cases hx with | eptr _ _ _ _ _ h1 h2 hv =>
      obtain ⟨p, hp⟩ := hv
      exact StepsV.next (StepsV.pure (P := P) (s := pure vx) r rfl (.eptr _ _ _ _ _ h1 h2 ⟨p, hp⟩) h) (fun v w' e => by cases e; simp [execOp, ho, hvx, hp])
    · rename_i g i j sz e
      rw [e] at hx
      generalize hv : a.eval x = vx at hx
      cases hx with | iptr b o _ _ _ _ vals hc hr =>
      exact StepsV.next (StepsV.pure (P := P) (s := pure (a.eval x)) r rfl (by rw [hv]; exact .iptr b o g i j sz vals hc hr) h) (fun v w' e => by cases e; simp [execOp, ho, hv])
    · rename_i f x1 x2 e
      rw [e] at hx
      generalize hv : a.eval x = vx at hx
      cases hx with | clo _ fv cv _ _ h1 h2 h3 h4 =>
      exact StepsV.next (StepsV.pure (P := P) (s := pure (a.eval x)) r rfl (by rw [hv]; exact .clo f fv cv x1 x2 h1 h2 h3 h4) h) (fun v w' e => by cases e; simp [execOp, ho, hv])
    · exact h.elim
  · rename_i op t x y t2 ho
    exact StepsV.next ((wbin_ok hT r (ev_rep ha x) (ev_rep ha y) x y h).at (fun _ h => h)) (fun v w' e => by
      rw [Sem.run_bind] at e
      cases hg : (eqGuard op t x y (a.eval x) (a.eval y)).run P w with
      | ok u w1 =>
        rw [hg, Result.andThen_ok] at e
        simp [execOp, ho, hg, e]
      | halt h' w1 => rw [hg] at e; cases e)
  · rename_i op t x ho
    exact StepsV.next ((wun_ok r (ev_rep ha x) h).at (fun _ h => h)) (fun v w' e => by simp [execOp, ho, e])
  · rename_i src dst x ho
    exact StepsV.next ((wconv_ok hT r (ev_rep ha x) h).at (fun _ h => h)) (fun v w' e => by simp [execOp, ho, e])
  · rename_i f first caps ho
    obtain ⟨h1, h2⟩ := list_rep ha first
    obtain ⟨h3, h4⟩ := list_rep ha caps
    have hrep := RepA.clo (w := w) (I := I) (ι := ι) (H := H) f _ _ _ _ h1 h3 h2 h4
    rw [Array.toArray_toList, Array.toArray_toList] at hrep
    exact StepsV.next (StepsV.pure (P := P) (s := pure _) r rfl hrep h) (fun v w' e => by cases e; simp [execOp, ho, Instr.makeFunc])
  · rename_i t l c ho
    exact StepsV.next (wmake_ok hT r (ev_rep ha l) (ev_rep ha c) h) (fun v w' e => by simp [execOp, ho, e])
  · rename_i t x lo hi ho
    refine StepsV.next (wslice_ok hT r (ev_rep ha x) (vlo := lo.map a.eval) (vhi := hi.map a.eval) ?_ ?_ h) (fun v w' e => by simp [execOp, ho, e])
    · cases lo with
      | none => exact .none
      | some l => exact .some _ _ (ev_rep ha l)
    · cases hi with
      | none => exact .none
      | some l => exact .some _ _ (ev_rep ha l)
  · rename_i t x f ho
    exact StepsV.next ((wfieldAddr_ok hT r (ev_rep ha x) h).at (fun _ h => h)) (fun v w' e => by simp [execOp, ho, e])
  · rename_i t x f ho
    exact StepsV.next ((wfield_ok hT r (ev_rep ha x) h).at (fun _ h => h)) (fun v w' e => by simp [execOp, ho, e])
  · rename_i t x i ho
    exact StepsV.next ((windexAddr_ok hT r (ev_rep ha x) (ev_rep ha i) h).at (fun _ h => h)) (fun v w' e => by simp [execOp, ho, e])
  · rename_i t x i ho
    exact StepsV.next ((windex_ok hT r (ev_rep ha x) (ev_rep ha i) h).at (fun _ h => h)) (fun v w' e => by simp [execOp, ho, e])
  · rename_i t x ho
    have hx := ev_rep ha x
    split at h
    · rename_i s e1
      rw [e1] at hx
      split at h
      · rename_i hti
        exact StepsV.next (wrange_ok hT hti rfl r hx h) (fun v w' e => by simp [execOp, ho, e])
      · exact h.elim
    · exact h.elim
  · rename_i it ho
    exact StepsV.next (wnext_ok r (ev_rep ha it) h o.type) (fun v w' e => by simp [execOp, ho, e])
  · rename_i t i ho
    have hx := ev_rep ha t
    split at h
    · rename_i ps e1
      rw [e1] at hx
      obtain ⟨h1, h2⟩ := h
      simp only [Nat.blt_eq, lenL_eq] at h1
      rw [getL_eq] at h2
      obtain ⟨vs, hv, l1, l2⟩ := rep_tup hx
      have hlt : i < vs.length := by omega
      exact StepsV.next (StepsV.pure (P := P) (s := pure (vs.getD i undef)) r rfl (l2 i h1) h2) (fun v w' e => by cases e; simp [execOp, ho, hv, Instr.extract, List.getElem?_eq_getElem hlt, List.getD_eq_getElem?_getD])
    · exact h.elim
  · rename_i c ho
    split at h
    · rename_i hc
      split at h
      rotate_left
      · exact h.elim
      rename_i x t hargs hty
      refine StepsV.next ((wlen_ok hT r (ev_rep ha x) h o.type c.argTypes (by rw [hty]; rfl) (c.args.map a.eval) (by rw [hargs]; simp)).at (fun _ h => h)) (fun v w' e => by
        simp [execOp, ho, resolve, hc, invoke, builtin, e])
    · rename_i hc
      split at h
      rotate_left
      · exact h.elim
      rename_i x y hargs
      have := (max_ok r (ev_rep ha x) (ev_rep ha y) h c.argTypes o.type (P := P)).at (Q' := Q) (fun _ h => h)
      refine StepsV.next this (fun v w' e => by
        simp [execOp, ho, resolve, hc, invoke, builtin, hargs, e])
    · rename_i hc
      split at h
      rotate_left
      · exact h.elim
      rename_i x y hargs
      have := (min_ok r (ev_rep ha x) (ev_rep ha y) h c.argTypes o.type (P := P)).at (Q' := Q) (fun _ h => h)
      refine StepsV.next this (fun v w' e => by
        simp [execOp, ho, resolve, hc, invoke, builtin, hargs, e])
    · rename_i hc
      split at h
      rotate_left
      · exact h.elim
      rename_i x y t t2 hargs hty
      refine StepsV.next (wappend_ok hT r (ev_rep ha x) (ev_rep ha y) h o.type) (fun v w' e => by
        simp [execOp, ho, resolve, hc, invoke, builtin, hargs, hty, e])
    · exact h.elim
  · exact h.elim

end Go.VM
