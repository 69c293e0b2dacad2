/- Part of the proof: VW, XL. -/
import Derived.ProofKit
import Derived.JoinedCond
import Derived.Deep.DeepHandedRow
import Derived.LaidSub
import Derived.Lay
import Derived.Lib.LaidTab
import Derived.Test.YtcpdnjehmnbheaaDoorRows
import Derived.Test.YtcpdnjehmnbheaaDoorVG2
import Derived.Test.YtcpdnjehmnbheaaDoorXG2
/- THE WRAP: a law of data arguments that returns true, as a row's statement wants it. -/
set_option linter.unusedSimpArgs false
set_option linter.unusedVariables false
namespace Go.VM
open Go Go.ChangeShapes Go.WideShapes Go.ChangeAt Go.RowKit

theorem trodAll_below {H : Type} {enc : TypeId × Value → H} {P : Program} (hl : laidOutB P = true) {W W' : World} (hb : Go.RowKit.Below W.heap.size W W') : ∀ (ts : List TypeId) (vs : List Value) (ds : List (DataW H)) (ps : List MemPlace),
    (∀ t ∈ ts, P.readableRec t = true ∧ t < P.types.size) → (∀ x ∈ ps, x.block < W.heap.size) → DataW.TrodAll enc P W 0 (fun _ => true) true ts vs ds ps → DataW.TrodAll enc P W' 0 (fun b => decide (b < W.heap.size)) true ts vs ds ps
  | [], vs, ds, ps, _, _, h => by
    obtain ⟨rfl, rfl, rfl⟩ := trodAll_nil h
    exact trodAll_mk0
  | t :: ts, vs, ds, ps, hr, hp, h => by
    obtain ⟨v, vs', d, ds', p, q, rfl, rfl, rfl, hd, hrest⟩ := trodAll_cons h
    exact ⟨p, q, Go.RowKit.Below.trod hl (hr t (by simp)).1 (hr t (by simp)).2 hd hb (fun x hx => hp x (by simp [hx])), trodAll_below hl hb ts vs' ds' q (fun t ht => hr t (by simp [ht])) (fun x hx => hp x (by simp [hx])) hrest, rfl⟩

theorem wit_of {H : Type} {enc : TypeId × Value → H} {C : Checked} {os : Os} {f : FuncId} {fn : Func} {s : OpenSpec} {laid : List (String × DataW Unit)} (w0 : World) (args : Array Value) (hos : w0.os = os)
    (hsh : (w0.forCall (fun _ _ => 0) ⟨#[], args, []⟩).Shaped C.prog)
    (hok : Input.okWideB C.prog (w0.forCall (fun _ _ => 0) ⟨#[], args, []⟩) f ⟨#[], args, []⟩ = true)
    (hrow : s.preRow enc C.prog fn [] false laid (w0.forCall (fun _ _ => 0) ⟨#[], args, []⟩).memory args) :
    ∃ (w : World) (tape : Tape) (i : Input), w.os = os ∧ (w.forCall tape i).Shaped C.prog ∧ i.vars = [] ∧ Input.okWide C.prog (w.forCall tape i) .any w.heap.size f i ∧
      s.preRow enc C.prog fn [] false laid (w.forCall tape i).memory i.args ∧ ({} : Assume).holds C.prog (lone (Frame.enter C.prog f i.args .normal) [] (w.forCall tape i)) :=
  ⟨w0, fun _ _ => 0, ⟨#[], args, []⟩, hos, hsh, (Input.okWide_of_okWideB (base := 0) hok).1, (Input.okWide_of_okWideB hok).2, hrow, by
    simp only [Assume.holds]
    exact ⟨by simp, by simp, fun h => (by cases h), by simp, by simp⟩⟩

variable [Glb]

theorem law_lifted2 {C : Checked} {os : Os} {f : FuncId} {fn : Func} {s : ChangeSpec} {laid : List (String × DataW Unit)} {tb : TypeId} (H : Type) (enc : TypeId × Value → H) (F : Stop.Interp)
    (own : ownKnob C.prog.godebug = none) (started : os.Started) (noInit : C.prog.inits.idxOf? f = none) (hfn : C.prog.funcs[f]? = some fn)
    (hvars : s.vars = []) (hrt : fn.resultTypes = #[tb]) (hb : C.prog.underlying tb = some .bool)
    (hsp : ∀ ds : List (DataW H), ds.length = fn.params.size → s.fn H ds = { results := [.lit (.bool true)], args := ds })
    (hlo : laidOutB C.prog = true) (hrd : ∀ t ∈ fn.params.toList, C.prog.readableRec t = true ∧ t < C.prog.types.size)
    (witness : ∃ (w : World) (tape : Tape) (i : Input), w.os = os ∧ (w.forCall tape i).Shaped C.prog ∧ i.vars = [] ∧ Input.okWide C.prog (w.forCall tape i) .any w.heap.size f i ∧
      (OpenSpec.ofChange s).preRow enc C.prog fn [] false laid (w.forCall tape i).memory i.args ∧ ({} : Assume).holds C.prog (lone (Frame.enter C.prog f i.args .normal) [] (w.forCall tape i)))
    (hglob : ∀ W : World, laidMetH C.prog laid W → W.ShapedOpen C.prog → ∀ b k v, Glb.G b k v → b < W.heap.size ∧ W.cell? ⟨b, k, none⟩ = some v)
    (law : ∀ (W : World) (base : Nat) (args : Array Value) (ds : List (DataW H)) (p : List MemPlace), (∀ (j : Nat) t v, fn.params[j]? = some t → args[j]? = some v → Value.okWide C.prog W .any base t v) →
      DataW.TrodAll enc C.prog W 0 (fun _ => true) true fn.params.toList args.toList ds p →
      ∃ xs : List A, VFun C.prog f xs (fun r => r = .d (.bool true)) ∧ args.toList.length = xs.length ∧ ∀ k, k < xs.length → RepA W (fun b _ => b < W.heap.size) (fun _ => none) [] (args.toList.getD k undef) (xs.getD k .undef)) :
    ReturnsInHanded {} C os f .any ((OpenSpec.ofChange s).preRow enc C.prog fn [] false laid) (((OpenSpec.ofChange s).at F).post enc C.prog fn false true false false) := by
  refine returnsInHanded_of_row (C := C) (s := OpenSpec.ofChange s) own started noInit hfn witness ?_
  intro W base args ds gs before hval hW _ _ _ hL hsh _
  have hW' := hW
  obtain ⟨p, q, hA, hV, rfl, _, _⟩ := hW
  have hV2 : DataW.TrodVars enc C.prog W (fun _ => true) [] gs q := by rw [← hvars]; exact hV
  obtain ⟨rfl, rfl⟩ := trodVars_none hV2
  obtain ⟨xs, hf, hlen, hrep⟩ := law W base args ds p hval hA
  have hdl : ds.length = fn.params.size := by
    have : ∀ (ts : List TypeId) (vs : List Value) (ds : List (DataW H)) (ps : List MemPlace), DataW.TrodAll enc C.prog W 0 (fun _ => true) true ts vs ds ps → ds.length = ts.length := by
      intro ts
      induction ts with
      | nil =>
        intro vs ds ps h
        obtain ⟨rfl, rfl, rfl⟩ := trodAll_nil h
        rfl
      | cons t ts ih =>
        intro vs ds ps h
        obtain ⟨v, vs', d, ds', p, q, rfl, rfl, rfl, hd, hrest⟩ := trodAll_cons h
        simp [ih _ _ _ hrest]
    simpa using this _ _ _ _ hA
  letI lim : Lim := ⟨fun _ _ => True⟩
  have hrel : Rel (fun k => k < W.heap.size) (fun _ => none) (fun b _ => b < W.heap.size) W [] :=
    ⟨fun _ h => h, fun b k h => h, fun b k h _ => trivial, fun b k v h => hglob W hL hsh b k v h, fun o x h => by simp at h, fun o o' x x' b h => by simp at h⟩
  have hargs : RepL W (fun b _ => b < W.heap.size) (fun _ => none) [] args.toList xs := ⟨hlen, hrep⟩
  have hc := hf [] lim _ _ _ _ _ hrel hargs
  refine hc.mono ?_
  rintro e W' ⟨v, r, H', ι', I', rfl, ⟨rfl, rfl⟩, hrel', hr, hk⟩
  have hv : v = .bool true := by
    cases hr with | d _ _ h => cases h; rfl
  subst hv
  have hbel : Go.RowKit.Below W.heap.size W W' := ⟨hk.below.os, hk.below.tape, hk.below.output, hk.below.size, fun k hk2 => hk.below.block k hk2 hk2⟩
  have e1 : (s.fn H (ds ++ [])) = { results := [.lit (.bool true)], args := ds } := by rw [List.append_nil]; exact hsp ds hdl
  have e2 : ((OpenSpec.ofChange s).at F).fn H (ds ++ []) = { results := [.lit (.bool true)], args := ds } := e1
  simp only [List.append_nil] at hW' 
  refine ⟨_, rfl, ds, [], p, [], p, [], hW', ?_, ?_, ?_, hbel.frame _, fun h => by cases h⟩
  · rw [e2, hrt]
    exact trodAll_mk1 ⟨1, by simp [DataW.trod, Value.cells, hb]⟩
  · rw [e2]
    exact trodAll_below hlo hbel _ _ _ _ hrd (fun x hx => by simpa using hW'.lt x hx) hA
  · rw [e2]
    show DataW.TrodVars enc C.prog W' _ s.vars [] []
    rw [hvars]
    rfl
theorem law_lifted {C : Checked} {os : Os} {f : FuncId} {fn : Func} {s : ChangeSpec} {laid : List (String × DataW Unit)} {tb : TypeId} (H : Type) (enc : TypeId × Value → H) (F : Stop.Interp)
    (own : ownKnob C.prog.godebug = none) (started : os.Started) (noInit : C.prog.inits.idxOf? f = none) (hfn : C.prog.funcs[f]? = some fn)
    (hvars : s.vars = []) (hrt : fn.resultTypes = #[tb]) (hb : C.prog.underlying tb = some .bool)
    (hsp : ∀ ds : List (DataW H), ds.length = fn.params.size → s.fn H ds = { results := [.lit (.bool true)], args := ds })
    (hlo : laidOutB C.prog = true) (hrd : ∀ t ∈ fn.params.toList, C.prog.readableRec t = true ∧ t < C.prog.types.size)
    (witness : ∃ (w : World) (tape : Tape) (i : Input), w.os = os ∧ (w.forCall tape i).Shaped C.prog ∧ i.vars = [] ∧ Input.okWide C.prog (w.forCall tape i) .any w.heap.size f i ∧
      (OpenSpec.ofChange s).preRow enc C.prog fn [] false laid (w.forCall tape i).memory i.args ∧ ({} : Assume).holds C.prog (lone (Frame.enter C.prog f i.args .normal) [] (w.forCall tape i)))
    (hglob : ∀ W : World, laidMetH C.prog laid W → W.ShapedOpen C.prog → ∀ b k v, Glb.G b k v → b < W.heap.size ∧ W.cell? ⟨b, k, none⟩ = some v)
    (law : ∀ (W : World) (base : Nat) (args : Array Value) (ds : List (DataW H)) (p : List MemPlace), (∀ (j : Nat) t v, fn.params[j]? = some t → args[j]? = some v → Value.okWide C.prog W .any base t v) →
      DataW.TrodAll enc C.prog W 0 (fun _ => true) true fn.params.toList args.toList ds p →
      ∃ xs : List D, VFun C.prog f (xs.map .d) (fun r => r = .d (.bool true)) ∧ args.toList.length = xs.length ∧ ∀ k, k < xs.length → RepD W (fun b _ => b < W.heap.size) (args.toList.getD k undef) (xs.getD k .nilp)) :
    ReturnsInHanded {} C os f .any ((OpenSpec.ofChange s).preRow enc C.prog fn [] false laid) (((OpenSpec.ofChange s).at F).post enc C.prog fn false true false false) := by
  refine law_lifted2 H enc F own started noInit hfn hvars hrt hb hsp hlo hrd witness hglob fun W base args ds p hval hA => ?_
  obtain ⟨xs, h1, h2, h3⟩ := law W base args ds p hval hA
  refine ⟨xs.map .d, h1, by simpa using h2, fun k hk => ?_⟩
  have hk2 : k < xs.length := by simpa using hk
  have e : (xs.map A.d).getD k .undef = .d (xs.getD k .nilp) := by
    simp [List.getD_eq_getElem?_getD, hk2]
  rw [e]
  exact .d _ _ (h3 k hk2)
end Go.VM

/- The rows of the seat, from the contracts: what all laws share. -/
namespace Go.VM
open Go.Proofs Go Go.ChangeShapes Go.WideShapes Go.ChangeAt Go.RowKit
open Go.Proofs.YtcpdnjehmnbheaaDoor
set_option maxRecDepth 100000
set_option linter.unusedVariables false

theorem own : ownKnob Tryd.prog.godebug = none := by kernel_rfl
theorem laidOut : laidOutB Tryd.prog = true := by kernel_rfl
theorem gT : Tryd.prog.globalNamed "strings.asciiSpace" = some 1 := by kernel_rfl
theorem gTType : (Tryd.prog.globals[1]?).map (·.type) = some 90 := by kernel_rfl
theorem cells5 : Tryd.prog.cellsOf 5 = 1 := by kernel_rfl
theorem cells90 : Tryd.prog.cellsOf 90 = 256 := by kernel_rfl
noncomputable def laidL : List (String × DataW Unit) := [("unicode.White_Space", Rows.laid_unicode_White_Space), ("strings.asciiSpace", Rows.laid_strings_asciiSpace)]
theorem laid_filter : (laidL.filter fun x => x.1 == "strings.asciiSpace") = [("strings.asciiSpace", Lib.tabData .u8 Lib.asciiSpaceTab)] := by kernel_rfl

theorem glob_of (W : World) (h : laidMetH Tryd.prog laidL W) : ∀ b k v, Glb.G b k v → b < W.heap.size ∧ W.cell? ⟨b, k, none⟩ = some v := by
  have h2 := laidMetH.filter (fun x => x.1 == "strings.asciiSpace") h
  rw [laid_filter] at h2
  have e : laidMetH Tryd.prog [("strings.asciiSpace", Lib.tabData .u8 Lib.asciiSpaceTab)] W = laidMet Tryd.prog [("strings.asciiSpace", Lib.tabData .u8 Lib.asciiSpaceTab)] W := rfl
  rw [e] at h2
  have tab : Lib.TabIs Tryd.prog W "strings.asciiSpace" .u8 Lib.asciiSpaceTab := Lib.tabIs_of_head gT gTType Tryd.underlying90 Tryd.underlying5 cells5 cells90 h2
  rintro b k v ⟨rfl, hk, rfl⟩
  unfold Lib.TabIs World.var? at tab
  rw [gT] at tab
  simp only [Option.bind_some] at tab
  split at tab
  · rename_i cs t fr hc
    simp only [Option.some.injEq] at tab
    refine ⟨(Array.getElem?_eq_some_iff.1 hc).1, ?_⟩
    unfold World.cell?
    rw [hc]
    have hl : k < Lib.asciiSpaceTab.length := by rw [Lib.asciiSpaceTab_length]; exact hk
    have ha := Lib.asciiSpaceTab_at k hk
    rw [List.getD_eq_getElem?_getD, List.getElem?_eq_getElem hl] at ha
    simp only [Option.getD_some] at ha
    simp [tab, hl, ha]
  · cases tab

noncomputable def laidWorld (os : Os) : World := World.laidAll Tryd.prog os laidL
theorem laid_met (os : Os) (args : Array Value) : laidMet Tryd.prog laidL ((laidWorld os).forCall (fun _ _ => 0) ⟨#[], args, []⟩).memory :=
  laidMet_laidAll args (by kernel_rfl) (by kernel_rfl)
theorem laid_shaped (os : Os) (args : Array Value) : ((laidWorld os).forCall (fun _ _ => 0) ⟨#[], args, []⟩).Shaped Tryd.prog :=
  World.shaped_of_ZipB (by kernel_rfl) (by kernel_rfl)
end Go.VM
