/- The other operations. -/
import Derived.Test.YtcpdnjehmnbheaaDoorVF
set_option linter.unusedSimpArgs false
set_option linter.unusedVariables false
set_option linter.unusedSectionVars false
namespace Go.VM
open Ops
variable [Ops] [Glb] [Lim]
open Go.RowKit (Below)

variable {P : Program} {T : Tab} {B : Nat} {ι : Nat → Option Nat} {I : Nat → Nat → Prop} {w : World} {H : AHeap}

theorem windexAddr_ok (hT : TabOk P T) {t : Nat} {x i : A} {vx vi : Value} {Q : A → Prop} (r : Rel B ι I w H) (hx : RepA w I ι H vx x) (hi : RepA w I ι H vi i) (h : windexAddr T t x i H Q) :
    StepsV P B (Instr.indexAt t vx vi) w I ι H (fun a H' => Q a ∧ H' = H) := by
  unfold windexAddr at h
  split at h
  · rename_i e _ _ _ k n hti
    obtain ⟨d, hd, hu⟩ := (hT.ti _ _ hti).underlying
    obtain rfl := kindOf_slice hd
    obtain rfl := rep_int hi
    split at h
    · rename_i te hte
      have hsz := (hT.ti _ _ hte).sizeOf w
      split at h
      · rename_i len sz get
        obtain ⟨h1, h2, h3, h4⟩ := h
        simp only [Nat.beq_eq] at h3
        simp only [leP_eq, ltP_eq, nI_eq, decide_eq_true_eq] at h1 h2
        cases hx with | d _ _ hx =>
        cases hx with
        | sl0 a cap => exact absurd h2 (by simp; omega)
        | sl b o _ cap _ _ vals hl hc hr =>
          have hn : n.toNat < len := by omega
          have hq : 0 ≤ n ∧ n < (len : Int) := ⟨h1, h2⟩
          refine .pure r (v := .pointer (some ⟨b, o + n.toNat * sz + 0, none⟩)) ?_ (.iptr b (o + n.toNat * sz) get (natOf n) 0 sz (fun q => vals n.toNat q) (fun q hq => ?_) (fun q hq => ?_)) ⟨h4, rfl⟩
          · simp [Instr.indexAt, asIntOf, hu, hq, hsz, Addr.add_mid, h3]
          · have := hc n.toNat q hn hq
            rwa [← Nat.add_assoc] at this
          · have := hr n.toNat q hn hq
            simpa [natOf_eq] using this
      · rename_i o off len sz
        simp only [getL_eq] at h
        split at h
        · rename_i m sz' get fz hob
          obtain ⟨h1, h2, h3, h5, h6, h4⟩ := h
          simp only [Nat.beq_eq] at h3 h5
          simp only [leP_eq, ltP_eq, nI_eq, decide_eq_true_eq] at h1 h2
          simp only [eqN_eq, addO_eq] at h6
          have hob := getD_obj hob (by simp)
          have hq : 0 ≤ n ∧ n < (len : Int) := ⟨h1, h2⟩
          cases hx with | ref _ _ _ _ _ ho hr hlen =>
          obtain ⟨-, hok⟩ := hr m sz' get fz hob h5.symm
          rcases hok h6 with ⟨b, cap, vs, el, fr, e1, rfl, e3, e4, e5⟩ | ⟨-, -, e⟩ | ⟨_, -, e, -⟩
          · refine .pure r (v := .pointer (some ⟨b, off * sz + n.toNat * sz, none⟩)) (by simp [Instr.indexAt, asIntOf, hu, hq, hsz, Addr.add_mid, h3]) (.eptr _ _ _ _ _ ho (fun n' sz2 get2 fz2 hob2 => ?_) ⟨_, rfl⟩) ⟨h4, rfl⟩
            rw [hob] at hob2
            cases hob2
            simp only [addO_eq]
            refine ⟨by omega, fun _ _ => ⟨b, e1, ?_⟩⟩
            simp only [natOf_eq, Nat.add_zero]
            rw [← h5, Nat.add_mul]
          · omega
          · omega
        · exact h.elim
      · exact h.elim
    · exact h.elim
  · exact h.elim

theorem part_ok {t : Nat} {ti : TI} (hti : TIOk P t ti) {vs : List Value} {cs : List A} (hl : vs.length = cs.length) (hc : ∀ k, k < cs.length → RepA w I ι H (vs.getD k undef) (cs.getD k .undef)) {off : Nat} (ho : off + ti.size ≤ cs.length) (h1 : 1 ≤ ti.size) :
    ∃ v, (part t vs.toArray off).run P w = .ok v w ∧ RepA w I ι H v (if ti.kind.isAgg then .agg ((cs.drop off).take ti.size) else cs.getD off .undef) := by
  by_cases ha : ti.kind.isAgg = true
  · refine ⟨.agg (vs.toArray.extract off (off + ti.size)), by simp [part, hti.isAgg w, ha, hti.sizeOf w], ?_⟩
    rw [if_pos ha]
    have e : vs.toArray.extract off (off + ti.size) = ((vs.drop off).take ti.size).toArray := by
      rw [List.extract_toArray, List.extract_eq_take_drop, Nat.add_sub_cancel_left]
    rw [e]
    refine .agg _ _ (by simp; omega) (fun k hk => ?_)
    have hk' : k < ti.size := by simp at hk; omega
    rw [getD_drop_take _ _ _ _ _ hk', getD_drop_take _ _ _ _ _ hk']
    exact hc (off + k) (by omega)
  · have hlt : off < vs.length := by omega
    refine ⟨vs.getD off undef, ?_, ?_⟩
    · simp [part, hti.isAgg w, ha, List.getD_eq_getElem?_getD, List.getElem?_eq_getElem hlt]
    · rw [if_neg ha]; exact hc off (by omega)

theorem windex_ok (hT : TabOk P T) {t : Nat} {x i : A} {vx vi : Value} {Q : A → Prop} (r : Rel B ι I w H) (hx : RepA w I ι H vx x) (hi : RepA w I ι H vi i) (h : windex T t x i Q) :
    StepsV P B (Instr.index t vx vi) w I ι H (fun a H' => Q a ∧ H' = H) := by
  unfold windex at h
  split at h
  · rename_i s k n
    split at h
    · rename_i hti
      obtain ⟨d, hd, hu⟩ := (hT.ti _ _ hti).underlying
      obtain rfl := kindOf_string hd
      obtain rfl := rep_int hi
      obtain rfl := rep_str hx
      obtain ⟨h1, h2, h3⟩ := h
      simp only [leP_eq, ltP_eq, lenS_eq, decide_eq_true_eq] at h1 h2
      refine .pure r (v := .int .u8 (bt s n)) ?_ (.d _ _ (.int _ _)) ⟨h3, rfl⟩
      have hlt : n.toNat < s.size := by omega
      have hb : s[n.toNat]? = some s[n.toNat] := by rw [getElem?_pos s n.toNat hlt]
      have hbt : bt s n = (s[n.toNat].toNat : Int) := by
        rw [bt_eq]
        have : s.data.toList.getD n.toNat 0 = s[n.toNat] := by
          simp [List.getD_eq_getElem?_getD, getElem?_pos, hlt, ByteArray.getElem_eq_getElem_data]
        rw [this]
      simp [Instr.index, asIntOf, hu, h1, hb, hbt]
    · exact h.elim
  · rename_i cs k n
    split at h
    · rename_i len e _ _ _ hti
      obtain ⟨d, hd, hu⟩ := (hT.ti _ _ hti).underlying
      obtain rfl := kindOf_array hd
      obtain rfl := rep_int hi
      obtain ⟨h1, h2, h3⟩ := h
      simp only [leP_eq, ltP_eq, nI_eq, decide_eq_true_eq] at h1 h2
      split at h3
      · rename_i te hte
        obtain ⟨i, hi, h4, h5, h6⟩ := h3
        simp only [nI_eq] at hi
        simp only [Nat.ble_eq, lenL_eq] at h4 h5
        subst hi
        obtain ⟨vs, rfl, l1, l2⟩ := rep_agg hx
        obtain ⟨v, hv1, hv2⟩ := part_ok (hT.ti _ _ hte) l1 l2 h4 h5
        rw [takeL_eq, dropL_eq, getL_eq] at h6
        have hq : (0 : Int) ≤ i ∧ (i : Int) < (len : Int) := ⟨h1, h2⟩
        refine .pure r (v := v) ?_ hv2 ⟨h6, rfl⟩
        simp [Instr.index, asIntOf, hu, hq, (hT.ti _ _ hte).sizeOf w, hv1]
        exact fun h => absurd h2 (by omega)
      · exact h3.elim
    · exact h.elim
  · exact h.elim

theorem fieldOf_ok (hT : TabOk P T) {t f : Nat} {off : Nat} {ti : TI} (h : fieldOf T t f = some (off, ti)) :
    ∃ (fs : Array Field) (fd : Field), (∀ w, (underlying t).run P w = .ok (.struct fs) w) ∧ fs[f]? = some fd ∧ fd.offset = off ∧ TIOk P fd.type ti := by
  unfold fieldOf at h
  split at h
  · rename_i fs _ _ _ hti
    obtain ⟨d, hd, hu⟩ := (hT.ti _ _ hti).underlying
    obtain ⟨fa, rfl, hfa⟩ := kindOf_struct hd
    rw [getL_eq] at h
    split at h
    · rename_i off' ft hget
      split at h
      · rename_i ti' hft
        cases h
        rw [List.getD_eq_getElem?_getD, List.getElem?_map] at hget
        cases hfs : fs[f]? with
        | none => simp [hfs] at hget
        | some p =>
          simp [hfs] at hget
          subst hget
          rw [← hfa, List.getElem?_map] at hfs
          cases hq : fa.toList[f]? with
          | none => simp [hq] at hfs
          | some fd =>
            simp [hq] at hfs
            exact ⟨fa, fd, hu, by simpa using hq, hfs.1, by rw [hfs.2]; exact hT.ti _ _ hft⟩
      · cases h
    · cases h
  · cases h

theorem wfieldAddr_ok (hT : TabOk P T) {t f : Nat} {x : A} {vx : Value} {Q : A → Prop} (r : Rel B ι I w H) (hx : RepA w I ι H vx x) (h : wfieldAddr T t f x Q) :
    StepsV P B (Instr.fieldAt t vx f) w I ι H (fun a H' => Q a ∧ H' = H) := by
  unfold wfieldAddr at h
  split at h
  · rename_i off ti hf
    obtain ⟨fs, fd, hu, h1, h2, h3⟩ := fieldOf_ok hT hf
    obtain ⟨hsz, h⟩ := h
    simp only [Nat.ble_eq] at hsz
    have hz : ¬ ti.size = 0 := by omega
    have hrun : ∀ b o, (Instr.fieldAt t (.pointer (some ⟨b, o, none⟩)) f).run P w = .ok (.pointer (some ⟨b, o + off, none⟩)) w := fun b o => by
      simp [Instr.fieldAt, hu, h1, Instr.sureAddr, fieldPlace, h3.sizeOf w, hz, Addr.add_mid, h2]
    have hrun' : ∀ a, ∃ a', (Instr.fieldAt t (.pointer (some a)) f).run P w = .ok (.pointer (some a')) w := fun a => by
      simp [Instr.fieldAt, hu, h1, Instr.sureAddr, fieldPlace, h3.sizeOf w, hz]
    split at h
    · rename_i o k
      cases hx with | ptr _ _ _ ho hq hv =>
      obtain ⟨a, rfl⟩ := hv
      obtain ⟨a', ha'⟩ := hrun' a
      refine .pure r (v := .pointer (some a')) ha' (.ptr _ _ _ ho (fun cs hcs => ?_) ⟨_, rfl⟩) ⟨h, rfl⟩
      obtain ⟨b, e1, e2⟩ := hq cs hcs
      cases e2
      rw [hrun] at ha'
      cases ha'
      exact ⟨b, e1, rfl⟩
    · rename_i o i j len
      cases hx with | eptr _ _ _ _ _ ho hq hv =>
      obtain ⟨a, rfl⟩ := hv
      obtain ⟨a', ha'⟩ := hrun' a
      refine .pure r (v := .pointer (some a')) ha' (.eptr _ _ _ _ _ ho (fun n sz get fz hcs => ?_) ⟨_, rfl⟩) ⟨h, rfl⟩
      obtain ⟨h1, h2⟩ := hq n sz get fz hcs
      refine ⟨h1, fun e1 e2 => ?_⟩
      obtain ⟨b, e1, e2⟩ := h2 e1 e2
      cases e2
      rw [hrun] at ha'
      cases ha'
      exact ⟨b, e1, by rw [Nat.add_assoc]⟩
    · rename_i get i j sz
      cases hx with | iptr b o _ _ _ _ vals hc hr =>
      refine .pure r (hrun b (o + j)) ?_ ⟨h, rfl⟩
      rw [Nat.add_assoc]
      exact .iptr b o get i (j + off) sz vals hc hr
    · exact h.elim
  · exact h.elim

theorem wfield_ok (hT : TabOk P T) {t f : Nat} {x : A} {vx : Value} {Q : A → Prop} (r : Rel B ι I w H) (hx : RepA w I ι H vx x) (h : wfield T t f x Q) :
    StepsV P B (Instr.field t vx f) w I ι H (fun a H' => Q a ∧ H' = H) := by
  unfold wfield at h
  split at h
  · rename_i off ti cs hf
    obtain ⟨fs, fd, hu, h1, h2, h3⟩ := fieldOf_ok hT hf
    obtain ⟨h4, h5, h6⟩ := h
    simp only [Nat.ble_eq, lenL_eq] at h4 h5
    obtain ⟨vs, rfl, l1, l2⟩ := rep_agg hx
    obtain ⟨v, hv1, hv2⟩ := part_ok h3 l1 l2 h4 h5
    rw [takeL_eq, dropL_eq, getL_eq] at h6
    exact .pure r (v := v) (by simp [Instr.field, hu, h1, asAgg, h2, hv1]) hv2 ⟨h6, rfl⟩
  · exact h.elim

theorem wconv_ok (hT : TabOk P T) {src dst : Nat} {x : A} {vx : Value} {Q : A → Prop} (r : Rel B ι I w H) (hx : RepA w I ι H vx x) (h : wconv T src dst x Q) :
    StepsV P B (convert src dst vx) w I ι H (fun a H' => Q a ∧ H' = H) := by
  unfold wconv at h
  split at h
  · rename_i k' _ _ _ k _ _ _ k'' n hs hti
    obtain ⟨d, hd, hu⟩ := (hT.ti _ _ hti).underlying
    obtain rfl := kindOf_int hd
    obtain ⟨d', hd', hu'⟩ := (hT.ti _ _ hs).underlying
    obtain rfl := kindOf_int hd'
    obtain rfl := rep_int hx
    exact .pure r (v := .int k (convK k n)) (by simp [convert, hu, hu', Conv.intToInt, convK_eq]) (.d _ _ (.int _ _)) ⟨h, rfl⟩
  · rename_i s hs hti
    obtain ⟨d, hd, hu⟩ := (hT.ti _ _ hti).underlying
    obtain rfl := kindOf_string hd
    obtain ⟨d', hd', hu'⟩ := (hT.ti _ _ hs).underlying
    obtain rfl := kindOf_string hd'
    obtain rfl := rep_str hx
    exact .pure r (v := .string s) (by simp [convert, hu, hu']) (.d _ _ (.str _)) ⟨h, rfl⟩
  · exact h.elim

theorem wun_ok {op : UnOp} {x : A} {vx : Value} {Q : A → Prop} (r : Rel B ι I w H) (hx : RepA w I ι H vx x) (h : wun op x Q) :
    StepsV P B (Op.unary op vx) w I ι H (fun a H' => Q a ∧ H' = H) := by
  unfold wun at h
  split at h
  · obtain rfl := rep_bool hx
    exact .pure r (by simp [Op.unary]) (.d _ _ (.bool _)) ⟨h, rfl⟩
  · obtain rfl := rep_int hx
    exact .pure r (v := .int _ (subK _ 0 _)) (by simp [Op.unary, Op.intArith, subK_eq]) (.d _ _ (.int _ _)) ⟨h, rfl⟩
  · exact h.elim

theorem max_ok {x y : A} {vx vy : Value} {Q : A → Prop} (r : Rel B ι I w H) (hx : RepA w I ι H vx x) (hy : RepA w I ι H vy y) (h : wmax x y Q) (l : Array TypeId) (t : TypeId) :
    StepsV P B (Builtin.max_ l t #[vx, vy]) w I ι H (fun a H' => Q a ∧ H' = H) := by
  unfold wmax at h
  split at h
  · obtain rfl := rep_int hx
    obtain rfl := rep_int hy
    exact .pure r (v := .int _ (maxI _ _)) (by simp [Builtin.max_, Builtin.max2, maxI_eq]) (.d _ _ (.int _ _)) ⟨h, rfl⟩
  · exact h.elim

theorem min_ok {x y : A} {vx vy : Value} {Q : A → Prop} (r : Rel B ι I w H) (hx : RepA w I ι H vx x) (hy : RepA w I ι H vy y) (h : wmin x y Q) (l : Array TypeId) (t : TypeId) :
    StepsV P B (Builtin.min_ l t #[vx, vy]) w I ι H (fun a H' => Q a ∧ H' = H) := by
  unfold wmin at h
  split at h
  · obtain rfl := rep_int hx
    obtain rfl := rep_int hy
    exact .pure r (v := .int _ (minI _ _)) (by simp [Builtin.min_, Builtin.min2, minI_eq]) (.d _ _ (.int _ _)) ⟨h, rfl⟩
  · exact h.elim

end Go.VM
