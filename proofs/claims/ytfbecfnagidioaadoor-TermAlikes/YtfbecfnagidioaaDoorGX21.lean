/- Part of the proof: TT20, TT26, TT22, TT27, TT30, TT31, TV1. -/
import Derived.Test.YtfbecfnagidioaaDoorGX20
import Derived.Test.YtfbecfnagidioaaDoorGX17
import Derived.Test.YtfbecfnagidioaaDoorGX19
import Derived.Test.YtfbecfnagidioaaDoorGV5
import Derived.Test.YtfbecfnagidioaaDoorGX15
namespace Go.VM
open Go.Proofs Go
set_option maxRecDepth 100000
set_option linter.unusedVariables false
set_option linter.unusedSimpArgs false
theorem RShift (frm by' : Int) (t : Tm) (hs : 4 * nodesT t ≤ 1000000) : VFun (P ()) 26 [tm t, .d (.int .i64 by'), .d (.int .i64 frm)] (fun r => ∃ x : Tm, ∃ b : Bool, (b = true ↔ (0 ≤ frm ∧ frm ≤ 2147483648 ∧ -2147483648 ≤ by' ∧ by' ≤ 2147483648) ∧ OkT by' frm t 0) ∧ (b = true → x = mapT (fSh by' frm) t 0) ∧ (b = false → x = Tm.leaf) ∧ r = .tup [tm x, .d (.bool b)]) := by
  have hw := fun h3 h4 => rshift frm by' h3 h4 t 0 (by decide) (by omega)
  obtain ⟨g3, g4, el⟩ := tm_leaf
  refine VFun.mono (S := fun r => ∃ b : Bool, (b = true ↔ (0 ≤ frm ∧ frm ≤ 2147483648 ∧ -2147483648 ≤ by' ∧ by' ≤ 2147483648) ∧ OkT by' frm t 0) ∧ r = .tup [if b then tm (mapT (fSh by' frm) t 0) else tm Tm.leaf, .d (.bool b)]) ?_ fun r h => by
    obtain ⟨b, h1, rfl⟩ := h
    cases b
    · exact ⟨_, false, h1, fun h => (by cases h), fun _ => rfl, rfl⟩
    · exact ⟨_, true, h1, fun _ => rfl, fun h => (by cases h), rfl⟩
  rw [el] at hw ⊢
  unfold tm at hw ⊢
  obtain ⟨f, hf⟩ : ∃ f, f = tmD t := ⟨_, rfl⟩
  obtain ⟨g, hg⟩ : ∃ g, g = tmD (mapT (fSh by' frm) t 0) := ⟨_, rfl⟩
  rw [← hf, ← hg] at hw
  rw [← hf, ← hg]
  clear hf hg el
  refine vfunL (Tf := fun {_} _ => fzT [3] (T ())) (fun {_} => tabOk.frz [3]) [] 400 Tryd.func26 rfl (fun {_} => by kernel_rfl) rfl (Nat.le_of_ble_eq_true rfl) @fun ⟨_, _, _, _, _, _, _, _, _, _, _, _, _, _, _, _, _, _, _, _, _, _, _, _, _, _, _, _, _, _, _, _, _, _, _, _, _, _, wp, wf⟩ R hR => ?_
  cbv
  try simp only [wp, (show ∀ n : Nat, _ = n from fun n => wf.2.2.2.2.2.2.2.2.2.2.2.2.2.1 (Int.ofNat n)), getL, takeL, dropL, TK.isAgg, reduceIte]
  repeat' first | (with_reducible refine And.intro ?_ ?_) | intro c9 | trivial | (refine Later.mk ?_; cbv; try simp only [wp, (show ∀ n : Nat, _ = n from fun n => wf.2.2.2.2.2.2.2.2.2.2.2.2.2.1 (Int.ofNat n)), (show _ = (0 : Nat) from wf.2.2.2.2.2.2.2.2.2.2.2.2.2.1 0), getL, takeL, dropL, TK.isAgg, reduceIte])
  all_goals first
    | exact hR _ _ _ (.tup2 (.z5 g3 g4 _ _ _) (.d _)) ⟨false, iffF fun h => (by have h := h.1; exact absurd h (by (try simp only [wf, nc, nc', Int.toNat_natCast, bsz, ByteArray.size_append, List.length_cons, List.length_nil] at *); (try simp (disch := omega) only [w64, w32, wu8] at *); first | done | omega)), rfl⟩
    | skip
  have hr : (0 ≤ frm ∧ frm ≤ 2147483648 ∧ -2147483648 ≤ by' ∧ by' ≤ 2147483648) := (by (try simp only [wf, nc, nc', Int.toNat_natCast, bsz, ByteArray.size_append, List.length_cons, List.length_nil] at *); (try simp (disch := omega) only [w64, w32, wu8] at *); first | done | omega)
  refine (hw (by (try simp only [wf, nc, nc', Int.toNat_natCast, bsz, ByteArray.size_append, List.length_cons, List.length_nil] at *); (try simp (disch := omega) only [w64, w32, wu8] at *); first | done | omega) (by (try simp only [wf, nc, nc', Int.toNat_natCast, bsz, ByteArray.size_append, List.length_cons, List.length_nil] at *); (try simp (disch := omega) only [w64, w32, wu8] at *); first | done | omega)).call ?_
  rintro _ ⟨b, hb, rfl⟩
  cases b
  · (cbv; try simp only [wp, (show ∀ n : Nat, _ = n from fun n => wf.2.2.2.2.2.2.2.2.2.2.2.2.2.1 (Int.ofNat n)), (show _ = (0 : Nat) from wf.2.2.2.2.2.2.2.2.2.2.2.2.2.1 0), getL, takeL, dropL, TK.isAgg, reduceIte])
    repeat' first | (with_reducible refine And.intro ?_ ?_) | intro c9 | trivial | (refine Later.mk ?_; cbv; try simp only [wp, (show ∀ n : Nat, _ = n from fun n => wf.2.2.2.2.2.2.2.2.2.2.2.2.2.1 (Int.ofNat n)), (show _ = (0 : Nat) from wf.2.2.2.2.2.2.2.2.2.2.2.2.2.1 0), getL, takeL, dropL, TK.isAgg, reduceIte])
    all_goals exact hR _ _ _ (.tup2 (.same5 _ _ _ _ _) (.d _)) ⟨false, ⟨fun h => (by cases h), fun h => hb.2 h.2⟩, rfl⟩
  · (cbv; try simp only [wp, (show ∀ n : Nat, _ = n from fun n => wf.2.2.2.2.2.2.2.2.2.2.2.2.2.1 (Int.ofNat n)), (show _ = (0 : Nat) from wf.2.2.2.2.2.2.2.2.2.2.2.2.2.1 0), getL, takeL, dropL, TK.isAgg, reduceIte])
    repeat' first | (with_reducible refine And.intro ?_ ?_) | intro c9 | trivial | (refine Later.mk ?_; cbv; try simp only [wp, (show ∀ n : Nat, _ = n from fun n => wf.2.2.2.2.2.2.2.2.2.2.2.2.2.1 (Int.ofNat n)), (show _ = (0 : Nat) from wf.2.2.2.2.2.2.2.2.2.2.2.2.2.1 0), getL, takeL, dropL, TK.isAgg, reduceIte])
    all_goals exact hR _ _ _ (.tup2 (.same5 _ _ _ _ _) (.d _)) ⟨true, iffT ⟨hr, hb.1 rfl⟩, rfl⟩
end Go.VM

namespace Go.VM
open Go.Proofs Go
set_option maxRecDepth 100000
set_option linter.unusedVariables false
set_option linter.unusedSimpArgs false
/-- the objects that a filling works with -/
abbrev hpG1 (len : Nat) (GB : Nat → Nat → D) : AHeap := [.box [.d (.sl len 5 GB)]]
abbrev hpGw (len : Nat) (GB : Nat → Nat → D) : AHeap := [.box [.d (.sl len 5 GB)], .box [.clo 81 [] [.ptr 1 0, .ptr 2 0]], .box [.clo 60 [] [.ptr 0 0]]]
set_option maxHeartbeats 1000000 in
theorem fill1 (len : Nat) (GB : Nat → Nat → D) (B : Nat → Tm) (hl : len ≤ 100000) (hB : ∀ i, i < len → tm (B i) = kid GB i) (hS : ∀ i, i < len → 4 * nodesT (B i) ≤ 1000000) (d : Int) (op n : Int) (s : ByteArray) (k : Nat) (C : Nat → Int) (N : Nat → Nat) (W Q : Nat → Nat → Int) (m : Nat) (G : Nat → Nat → D) (h1 : IsV op n) (h2 : 0 ≤ d ∧ d ≤ 1000000) :
    VCalls (P ()) 60 [tml op n s k C N W Q m G, .d (.int .i64 d), .ptr 0 0] (hpG1 len GB) (fun r H => ∃ K2, H = hpG1 len GB ++ K2 ∧ ((n - d < 0 ∧ r = tml op n s k C N W Q m G) ∨ (0 ≤ n - d ∧ n - d < len ∧ r = tm (mapT (fSh d 0) (B (n - d).toNat) 0)) ∨ (len ≤ n - d ∧ r = tml op (n - len) s k C N W Q m G))) := by
  obtain ⟨v1, v2, v3⟩ := h1
  have sh : 0 ≤ n - d → n - d < len → VFun (P ()) 25 [kid GB (n - d).toNat, .d (.int .i64 d), .d (.int .i64 0)] (fun r => r = .tup [tm (mapT (fSh d 0) (B (n - d).toNat) 0), .d (.bool true)]) := fun h3 h4 => by
    have := ShiftT 0 d (B (n - d).toNat) (hS _ (by omega))
    rw [hB _ (by omega)] at this
    refine this.mono ?_
    rintro _ ⟨x, b, q1, q2, _, rfl⟩
    obtain rfl := q1.2 ⟨⟨by decide, by decide, by omega, by omega⟩, OkT_up h2.1 0 _ 0⟩
    rw [q2 rfl]
  refine VCalls_of_Wl (Tf := fun {_} _ => fzT [] (T ())) (fun {_} => tabOk.frz []) [] 400 Tryd.func60 rfl (fun {_} => by kernel_rfl) (Nat.le_of_ble_eq_true rfl) @fun ⟨_, _, _, _, _, _, _, _, _, _, _, _, _, _, _, _, _, _, _, _, _, _, _, _, _, _, _, _, _, _, _, _, _, _, _, _, _, _, wp, wf⟩ nH R hnH hR => ?_
  subst hnH
  cbv
  try simp only [wp, (show ∀ n : Nat, _ = n from fun n => wf.2.2.2.2.2.2.2.2.2.2.2.2.2.1 (Int.ofNat n)), getL, takeL, dropL, TK.isAgg, reduceIte]
  replace hR := fun K2 r h => hR r (hpG1 len GB ++ K2) ⟨K2, rfl, h⟩
  repeat' first | (with_reducible refine And.intro ?_ ?_) | intro c9 | trivial | (refine Later.mk ?_; cbv; try simp only [wp, (show ∀ n : Nat, _ = n from fun n => wf.2.2.2.2.2.2.2.2.2.2.2.2.2.1 (Int.ofNat n)), (show _ = (0 : Nat) from wf.2.2.2.2.2.2.2.2.2.2.2.2.2.1 0), getL, takeL, dropL, TK.isAgg, reduceIte])
  all_goals first
    | exact hR _ _ (.inl ⟨by clear hR; exact (by (try simp only [wf, nc, nc', Int.toNat_natCast, bsz, ByteArray.size_append, List.length_cons, List.length_nil] at *); (try simp (disch := omega) only [w64, w32, wu8] at *); first | done | omega), rfl⟩)
    | exact hR _ _ (.inr (.inr ⟨by clear hR; exact (by (try simp only [wf, nc, nc', Int.toNat_natCast, bsz, ByteArray.size_append, List.length_cons, List.length_nil] at *); (try simp (disch := omega) only [w64, w32, wu8] at *); first | done | omega), by clear hR; ((try simp only [wf, nc, nc', Int.toNat_natCast, bsz, ByteArray.size_append, List.length_cons, List.length_nil] at *); (try simp (disch := omega) only [w64, w32, wu8] at *)); try rfl⟩))
    | (clear hR; exact (by (try simp only [wf, nc, nc', Int.toNat_natCast, bsz, ByteArray.size_append, List.length_cons, List.length_nil] at *); (try simp (disch := omega) only [w64, w32, wu8] at *); first | done | omega))
    | skip
  refine CallW.args (args' := [kid GB (n - d).toNat, .d (.int .i64 d), .d (.int .i64 0)]) (fun {_ _} => ⟨⟨_, rfl, .of_eq (by clear hR; ((try simp only [wf, nc, nc', Int.toNat_natCast, bsz, ByteArray.size_append, List.length_cons, List.length_nil] at *); (try simp (disch := omega) only [w64, w32, wu8] at *))), .of_eq (by clear hR; ((try simp only [wf, nc, nc', Int.toNat_natCast, bsz, ByteArray.size_append, List.length_cons, List.length_nil] at *); (try simp (disch := omega) only [w64, w32, wu8] at *))), .of_eq (by clear hR; ((try simp only [wf, nc, nc', Int.toNat_natCast, bsz, ByteArray.size_append, List.length_cons, List.length_nil] at *); (try simp (disch := omega) only [w64, w32, wu8] at *))), .of_eq (by clear hR; ((try simp only [wf, nc, nc', Int.toNat_natCast, bsz, ByteArray.size_append, List.length_cons, List.length_nil] at *); (try simp (disch := omega) only [w64, w32, wu8] at *))), .of_eq (by clear hR; ((try simp only [wf, nc, nc', Int.toNat_natCast, bsz, ByteArray.size_append, List.length_cons, List.length_nil] at *); (try simp (disch := omega) only [w64, w32, wu8] at *))), trivial⟩, .refl _, .refl _, trivial⟩) ?_
  have h5 : 0 ≤ n - d := (by clear hR; exact (by (try simp only [wf, nc, nc', Int.toNat_natCast, bsz, ByteArray.size_append, List.length_cons, List.length_nil] at *); (try simp (disch := omega) only [w64, w32, wu8] at *); first | done | omega))
  have h6 : n - d < len := (by clear hR; exact (by (try simp only [wf, nc, nc', Int.toNat_natCast, bsz, ByteArray.size_append, List.length_cons, List.length_nil] at *); (try simp (disch := omega) only [w64, w32, wu8] at *); first | done | omega))
  refine (sh h5 h6).call ?_
  rintro _ rfl
  obtain ⟨q, hq⟩ : ∃ q, q = mapT (fSh d 0) (B (n - d).toNat) 0 := ⟨_, rfl⟩
  rw [← hq] at hR ⊢
  obtain ⟨fq, eq⟩ : ∃ fq : Nat → D, tm q = .agg [.d (fq 0), .d (fq 1), .d (fq 2), .d (fq 3), .d (fq 4)] := ⟨tmD q, rfl⟩
  rw [eq] at hR ⊢
  clear hq eq sh
  (cbv; try simp only [wp, (show ∀ n : Nat, _ = n from fun n => wf.2.2.2.2.2.2.2.2.2.2.2.2.2.1 (Int.ofNat n)), (show _ = (0 : Nat) from wf.2.2.2.2.2.2.2.2.2.2.2.2.2.1 0), getL, takeL, dropL, TK.isAgg, reduceIte])
  repeat' first | (with_reducible refine And.intro ?_ ?_) | intro c9 | trivial | (refine Later.mk ?_; cbv; try simp only [wp, (show ∀ n : Nat, _ = n from fun n => wf.2.2.2.2.2.2.2.2.2.2.2.2.2.1 (Int.ofNat n)), (show _ = (0 : Nat) from wf.2.2.2.2.2.2.2.2.2.2.2.2.2.1 0), getL, takeL, dropL, TK.isAgg, reduceIte])
  all_goals exact hR _ _ (.inr (.inl ⟨h5, h6, rfl⟩))
set_option maxHeartbeats 4000000 in
theorem walkG (len : Nat) (GB : Nat → Nat → D) (B : Nat → Tm) (hl : len ≤ 100000) (hB : ∀ i, i < len → tm (B i) = kid GB i) (hS : ∀ i, i < len → 4 * nodesT (B i) ≤ 1000000) (t : Tm) : ∀ (d : Int), 0 ≤ d → d + 4 * nodesT t ≤ 1000000 →
    VCalls (P ()) 81 [tm t, .d (.int .i64 d), .ptr 1 0, .ptr 2 0] (hpGw len GB) (fun r H => r = tm (mapT (fFl len B) t d) ∧ H = hpGw len GB) := by
  refine Tm.walk (P := fun t => ∀ (d : Int), 0 ≤ d → d + 4 * nodesT t ≤ 1000000 →
    VCalls (P ()) 81 [tm t, .d (.int .i64 d), .ptr 1 0, .ptr 2 0] (hpGw len GB) (fun r H => r = tm (mapT (fFl len B) t d) ∧ H = hpGw len GB)) ?_ t
  clear t
  intro op n s k C N W Q m ok K G hG e ih d hd hs
  rw [nodesT_nd] at hs
  have b1 := sumF_ge (f := fun i => 1 + N i) (fun i => by omega) k
  have b2 := sumF_ge (f := fun i => nodesT (K i)) (fun i => nodesT_pos _) m
  have b3 : ∀ i, i < k → N i ≤ 1000000 := fun i hi => by have := sumF_one (f := fun i => 1 + N i) hi; omega
  have b4 : ∀ i, i < m → d + 3 + 4 * nodesT (K i) ≤ 1000000 := fun i hi => by have := sumF_one (f := fun i => nodesT (K i)) hi; omega
  obtain ⟨G', hG', e'⟩ := tm_rows (op := op) (n := n) (s := s) (k := k) (C := C) (N := N) (W := W) (Q := Q) (m := m) (ok := ok) fun i => mapT (fFl len B) (K i) (d + bindI op m i)
  have r1 : (IsV op n → n - d < 0) → tm (mapT (fFl len B) (.nd op n s k C N W Q m ok K) d) = tml op n s k C N W Q m G' := fun h => by rw [fl_out len B d h, e']
  have r2 : IsV op n → 0 ≤ n - d → n - d < len → tm (mapT (fFl len B) (.nd op n s k C N W Q m ok K) d) = tm (mapT (fSh d 0) (B (n - d).toNat) 0) := fun v h1 h2 => by rw [fl_in len B d v h1 h2]
  have r3 : IsV op n → len ≤ n - d → tm (mapT (fFl len B) (.nd op n s k C N W Q m ok K) d) = tml op (n - len) s k C N W Q m G' := fun v h => by
    have vv := v.2
    rw [fl_over len B d v h ⟨ok.op, by omega, ok.s, ok.k, ok.N, ok.m⟩, e']
  obtain ⟨RF, hRF⟩ : ∃ RF, RF = tm (mapT (fFl len B) (.nd op n s k C N W Q m ok K) d) := ⟨_, rfl⟩
  rw [← hRF] at r1 r2 r3 ⊢
  rw [e]
  have ih' : ∀ i, i < m → ∀ (d' : Int), d' = d + bindI op m i → VCalls (P ()) 81 [kid G i, .d (.int .i64 d'), .ptr 1 0, .ptr 2 0] (hpGw len GB) (fun r H => r = kid G' i ∧ H = hpGw len GB) := fun i hi d' hd' => by
    have hb := bindI_le op m i
    have := ih i hi d' (by omega) (by have := b4 i hi; omega)
    rw [hG i hi, hd', hG' i hi] at this
    rw [hd']
    exact this
  have b6 : d ≤ 1000000 := by omega
  have b5 : k ≤ 1000000 ∧ m ≤ 1000000 := ⟨by omega, by omega⟩
  clear ih e e' hG hG' b4 b2 b1 hs hRF
  have hc := copied k C N W Q (by omega) (fun i hi => by have := b3 i hi; omega)
  have hbd := fun i => bindsT op n s k C N W Q m G i (by omega)
  have f1 := fun h1 => fill1 len GB B hl hB hS d op n s k C N W Q m G' h1 ⟨hd, b6⟩
  obtain ⟨SB, hSB⟩ : ∃ SB : Int → A, SB = fun z => tm (mapT (fSh d 0) (B z.toNat) 0) := ⟨_, rfl⟩
  obtain ⟨fSB, hf⟩ : ∃ fSB : Int → Nat → D, ∀ z, tm (mapT (fSh d 0) (B z.toNat) 0) = .agg [.d (fSB z 0), .d (fSB z 1), .d (fSB z 2), .d (fSB z 3), .d (fSB z 4)] := ⟨fun z => tmD (mapT (fSh d 0) (B z.toNat) 0), fun z => rfl⟩
  rw [hf] at r2 f1
  clear hf hSB SB hB hS
  refine VCalls.ice (R1 := fun r H => ∃ K2, H = hpGw len GB ++ K2 ∧ FrzM 3 (fun i => i) H r RF) ?_ rfl rfl rfl rfl fun r H' h => by
    obtain ⟨K2, e, f⟩ := h
    exact ⟨_, _, K2, e, rfl, f, ⟨trivial, trivial, trivial, trivial⟩, rfl, rfl, rfl, rfl⟩
  refine VCalls_of_Wl (Tf := fun {_} _ => fzT [] (T ())) (fun {_} => tabOk.frz []) [] 400 Tryd.func81 rfl (fun {_} => by kernel_rfl) (Nat.le_of_ble_eq_true rfl) @fun ⟨_, _, _, _, _, _, _, _, _, _, _, _, _, _, _, _, _, _, _, _, _, _, _, _, _, _, _, _, _, _, _, _, _, _, _, _, _, _, wp, wf⟩ nH R hnH hR => ?_
  subst hnH
  cbv
  try simp only [wp, (show ∀ n : Nat, _ = n from fun n => wf.2.2.2.2.2.2.2.2.2.2.2.2.2.1 (Int.ofNat n)), getL, takeL, dropL, TK.isAgg, reduceIte]
  refine hc.call ?_
  rintro _ rfl
  (cbv; try simp only [wp, (show ∀ n : Nat, _ = n from fun n => wf.2.2.2.2.2.2.2.2.2.2.2.2.2.1 (Int.ofNat n)), (show _ = (0 : Nat) from wf.2.2.2.2.2.2.2.2.2.2.2.2.2.1 0), getL, takeL, dropL, TK.isAgg, reduceIte])
  repeat' first | (with_reducible refine And.intro ?_ ?_) | intro c9 | trivial | (refine Later.mk ?_; cbv; try simp only [wp, (show ∀ n : Nat, _ = n from fun n => wf.2.2.2.2.2.2.2.2.2.2.2.2.2.1 (Int.ofNat n)), (show _ = (0 : Nat) from wf.2.2.2.2.2.2.2.2.2.2.2.2.2.1 0), getL, takeL, dropL, TK.isAgg, reduceIte])
  refine loopGhost 7 5 rfl ?_
  refine loopL (Tf := fun {_} _ => fzT [] (T ())) (fun {_} => tabOk.frz []) [] 400 (fun i : Nat => ⟨[.undef, .d (.int .i64 d), .ptr 1 0, .ptr 2 0, .ptr 3 0, .undef, .ptr 4 0, .ref 5 0 i 5, .undef, .undef, .undef, .undef, .undef, .undef, .undef, .d (.sl m 5 G), .d (.int .i64 m), .d (.int .i64 i), .undef, .undef, .undef, .undef, .undef, .undef, .undef, .undef, .undef, .undef, .undef, .undef, .undef, .undef, .undef, .undef, .undef, .undef, .undef, .undef, .undef, .undef, .undef, .undef, .undef],
    [.box [.d (.sl len 5 GB)], .box [.clo 81 [] [.ptr 1 0, .ptr 2 0]], .box [.clo 60 [] [.ptr 0 0]], .box [.d (.int .i64 op), .d (.int .i64 n), .d (.str s), .d (.sl k 2 (lsF C N W Q)), .d (.sl m 5 G)], .box [.undef, .undef, .undef, .undef, .undef], .arr i 5 G' 0]⟩) (fun i => m - i) (fun i => i ≤ m) 0 (Nat.zero_le _) (fun {_} => by kernel_rfl) ?_ (fun i => by kernel_rfl) @fun ⟨_, _, _, _, _, _, _, _, _, _, _, _, _, _, _, _, _, _, _, _, _, _, _, _, _, _, _, _, _, _, _, _, _, _, _, _, _, _, wpa, wfa⟩ i Bk hi hBk => ?_
  · (cbv; try simp only [wf, exD, exL, exT, exB, exA, leLs, leL_d, leL_undef, leL_nils, leA_nils, deq_refl, deq_int, deq_bool, deq_str, and_true, true_and, AObj.iter.injEq, nc, nc']; try simp (disch := omega) only [w64, w32, wu8])
    exact ⟨rfl, rfl, rfl, Nat.le_refl _, Nat.le_refl _, fun i j hi => absurd hi (Nat.not_lt_zero _)⟩
  (cbv; try simp only [wp, (show ∀ n : Nat, _ = n from fun n => wf.2.2.2.2.2.2.2.2.2.2.2.2.2.1 (Int.ofNat n)), (show _ = (0 : Nat) from wf.2.2.2.2.2.2.2.2.2.2.2.2.2.1 0), wpa, (show ∀ n : Nat, _ = n from fun n => wfa.2.2.2.2.2.2.2.2.2.2.2.2.2.1 (Int.ofNat n)), (show _ = (0 : Nat) from wfa.2.2.2.2.2.2.2.2.2.2.2.2.2.1 0), getL, takeL, dropL, TK.isAgg, reduceIte])
  refine ⟨fun e => ?_, fun e => ?_⟩
  · have e : i < m := (by (try simp only [wf, wfa, nc, nc', Int.toNat_natCast, bsz, ByteArray.size_append, List.length_cons, List.length_nil] at *); (try simp (disch := omega) only [w64, w32, wu8] at *); first | done | omega)
    (refine Later.mk ?_; cbv; try simp only [wp, (show ∀ n : Nat, _ = n from fun n => wf.2.2.2.2.2.2.2.2.2.2.2.2.2.1 (Int.ofNat n)), (show _ = (0 : Nat) from wf.2.2.2.2.2.2.2.2.2.2.2.2.2.1 0), wpa, (show ∀ n : Nat, _ = n from fun n => wfa.2.2.2.2.2.2.2.2.2.2.2.2.2.1 (Int.ofNat n)), (show _ = (0 : Nat) from wfa.2.2.2.2.2.2.2.2.2.2.2.2.2.1 0), getL, takeL, dropL, TK.isAgg, reduceIte])
    repeat' first | (with_reducible refine And.intro ?_ ?_) | intro c9 | trivial | (refine Later.mk ?_; cbv; try simp only [wp, (show ∀ n : Nat, _ = n from fun n => wf.2.2.2.2.2.2.2.2.2.2.2.2.2.1 (Int.ofNat n)), (show _ = (0 : Nat) from wf.2.2.2.2.2.2.2.2.2.2.2.2.2.1 0), wpa, (show ∀ n : Nat, _ = n from fun n => wfa.2.2.2.2.2.2.2.2.2.2.2.2.2.1 (Int.ofNat n)), (show _ = (0 : Nat) from wfa.2.2.2.2.2.2.2.2.2.2.2.2.2.1 0), getL, takeL, dropL, TK.isAgg, reduceIte])
    all_goals first | exact (by (try simp only [wf, wfa, nc, nc', Int.toNat_natCast, bsz, ByteArray.size_append, List.length_cons, List.length_nil] at *); (try simp (disch := omega) only [w64, w32, wu8] at *); first | done | omega) | skip
    all_goals
      refine (hbd i).call ?_
      rintro _ rfl
      obtain ⟨bi, hbi⟩ : ∃ bi, bi = bindI op m i := ⟨_, rfl⟩
      have hbl := bindI_le op m i
      rw [← hbi] at hbl ⊢
      (cbv; try simp only [wp, (show ∀ n : Nat, _ = n from fun n => wf.2.2.2.2.2.2.2.2.2.2.2.2.2.1 (Int.ofNat n)), (show _ = (0 : Nat) from wf.2.2.2.2.2.2.2.2.2.2.2.2.2.1 0), wpa, (show ∀ n : Nat, _ = n from fun n => wfa.2.2.2.2.2.2.2.2.2.2.2.2.2.1 (Int.ofNat n)), (show _ = (0 : Nat) from wfa.2.2.2.2.2.2.2.2.2.2.2.2.2.1 0), getL, takeL, dropL, TK.isAgg, reduceIte])
      repeat' first | (with_reducible refine And.intro ?_ ?_) | intro c9 | trivial | (refine Later.mk ?_; cbv; try simp only [wp, (show ∀ n : Nat, _ = n from fun n => wf.2.2.2.2.2.2.2.2.2.2.2.2.2.1 (Int.ofNat n)), (show _ = (0 : Nat) from wf.2.2.2.2.2.2.2.2.2.2.2.2.2.1 0), wpa, (show ∀ n : Nat, _ = n from fun n => wfa.2.2.2.2.2.2.2.2.2.2.2.2.2.1 (Int.ofNat n)), (show _ = (0 : Nat) from wfa.2.2.2.2.2.2.2.2.2.2.2.2.2.1 0), getL, takeL, dropL, TK.isAgg, reduceIte])
    all_goals
      refine CallW.within (ih' i e _ (by rw [← hbi]; exact (by (try simp only [wf, wfa, nc, nc', Int.toNat_natCast, bsz, ByteArray.size_append, List.length_cons, List.length_nil] at *); (try simp (disch := omega) only [w64, w32, wu8] at *); first | done | omega))) [0, 1, 2] rfl ⟨rfl, rfl, rfl, trivial⟩ rfl ?_
      rintro _ _ ⟨rfl, rfl⟩
      refine ⟨hpGw len GB, [], rfl, Nat.le_refl _, ⟨trivial, trivial, trivial, trivial⟩, rfl, ?_⟩
      (cbv; try simp only [wp, (show ∀ n : Nat, _ = n from fun n => wf.2.2.2.2.2.2.2.2.2.2.2.2.2.1 (Int.ofNat n)), (show _ = (0 : Nat) from wf.2.2.2.2.2.2.2.2.2.2.2.2.2.1 0), wpa, (show ∀ n : Nat, _ = n from fun n => wfa.2.2.2.2.2.2.2.2.2.2.2.2.2.1 (Int.ofNat n)), (show _ = (0 : Nat) from wfa.2.2.2.2.2.2.2.2.2.2.2.2.2.1 0), getL, takeL, dropL, TK.isAgg, reduceIte])
      repeat' first | (with_reducible refine And.intro ?_ ?_) | intro c9 | trivial | (refine Later.mk ?_; cbv; try simp only [wp, (show ∀ n : Nat, _ = n from fun n => wf.2.2.2.2.2.2.2.2.2.2.2.2.2.1 (Int.ofNat n)), (show _ = (0 : Nat) from wf.2.2.2.2.2.2.2.2.2.2.2.2.2.1 0), wpa, (show ∀ n : Nat, _ = n from fun n => wfa.2.2.2.2.2.2.2.2.2.2.2.2.2.1 (Int.ofNat n)), (show _ = (0 : Nat) from wfa.2.2.2.2.2.2.2.2.2.2.2.2.2.1 0), getL, takeL, dropL, TK.isAgg, reduceIte])
    all_goals first
      | exact Nat.zero_le _
      | exact (by (try simp only [wf, wfa, nc, nc', Int.toNat_natCast, bsz, ByteArray.size_append, List.length_cons, List.length_nil] at *); (try simp (disch := omega) only [w64, w32, wu8] at *); first | done | omega)
      | (refine hBk (i + 1) _ (by omega) (by omega) ?_
         (cbv; try simp only [wf, wfa, exD, exL, exT, exB, exA, leLs, leL_d, leL_undef, leL_nils, leA_nils, deq_refl, deq_int, deq_bool, deq_str, and_true, true_and, AObj.iter.injEq, nc, nc']; try simp (disch := omega) only [w64, w32, wu8])
         ((try simp only [wf, wfa, nc, nc', Int.toNat_natCast, bsz, ByteArray.size_append, List.length_cons, List.length_nil] at *); (try simp (disch := omega) only [w64, w32, wu8] at *))
         exact ⟨by omega, rfl, rfl, Nat.le_refl _, Nat.zero_le _, fun x j hx hj => .of_eq (app_row2 (g' := G') (fun _ _ _ _ => rfl) (fun j hj => by
           match j, hj with
           | 0, _ | 1, _ | 2, _ | 3, _ | 4, _ => rfl) x j hx hj)⟩)
  · obtain rfl : i = m := (by (try simp only [wf, wfa, nc, nc', Int.toNat_natCast, bsz, ByteArray.size_append, List.length_cons, List.length_nil] at *); (try simp (disch := omega) only [w64, w32, wu8] at *); first | done | omega)
    (refine Later.mk ?_; cbv; try simp only [wp, (show ∀ n : Nat, _ = n from fun n => wf.2.2.2.2.2.2.2.2.2.2.2.2.2.1 (Int.ofNat n)), (show _ = (0 : Nat) from wf.2.2.2.2.2.2.2.2.2.2.2.2.2.1 0), wpa, (show ∀ n : Nat, _ = n from fun n => wfa.2.2.2.2.2.2.2.2.2.2.2.2.2.1 (Int.ofNat n)), (show _ = (0 : Nat) from wfa.2.2.2.2.2.2.2.2.2.2.2.2.2.1 0), getL, takeL, dropL, TK.isAgg, reduceIte])
    have hv := variableT op n s k C N W Q i G'
    (refine CallW.frz @fun ⟨_, _, _, _, _, _, _, _, _, _, _, _, _, _, _, _, _, _, _, _, _, _, _, _, _, _, _, _, _, _, _, _, _, _, _, _, _, _, wpz, wfz⟩ => ?_; cbv; try simp only [wpz, wp, (show ∀ n : Nat, _ = n from fun n => wfz.2.2.2.2.2.2.2.2.2.2.2.2.2.1 (Int.ofNat n)), getL, takeL, dropL, TK.isAgg, reduceIte])
    repeat' first | (with_reducible refine And.intro ?_ ?_) | intro c9 | trivial | (refine Later.mk ?_; cbv; try simp only [wp, (show ∀ n : Nat, _ = n from fun n => wf.2.2.2.2.2.2.2.2.2.2.2.2.2.1 (Int.ofNat n)), (show _ = (0 : Nat) from wf.2.2.2.2.2.2.2.2.2.2.2.2.2.1 0), wpa, (show ∀ n : Nat, _ = n from fun n => wfa.2.2.2.2.2.2.2.2.2.2.2.2.2.1 (Int.ofNat n)), (show _ = (0 : Nat) from wfa.2.2.2.2.2.2.2.2.2.2.2.2.2.1 0), getL, takeL, dropL, TK.isAgg, reduceIte])
    refine hv.call ?_
    rintro _ ⟨b, hb, rfl⟩
    rcases hb.dich with ⟨rfl, v⟩ | ⟨rfl, v⟩ <;> clear hb
    · (cbv; try simp only [wp, (show ∀ n : Nat, _ = n from fun n => wf.2.2.2.2.2.2.2.2.2.2.2.2.2.1 (Int.ofNat n)), (show _ = (0 : Nat) from wf.2.2.2.2.2.2.2.2.2.2.2.2.2.1 0), wpa, (show ∀ n : Nat, _ = n from fun n => wfa.2.2.2.2.2.2.2.2.2.2.2.2.2.1 (Int.ofNat n)), (show _ = (0 : Nat) from wfa.2.2.2.2.2.2.2.2.2.2.2.2.2.1 0), wpz, (show ∀ n : Nat, _ = n from fun n => wfz.2.2.2.2.2.2.2.2.2.2.2.2.2.1 (Int.ofNat n)), (show _ = (0 : Nat) from wfz.2.2.2.2.2.2.2.2.2.2.2.2.2.1 0), getL, takeL, dropL, TK.isAgg, reduceIte])
      repeat' first | (with_reducible refine And.intro ?_ ?_) | intro c9 | trivial | (refine Later.mk ?_; cbv; try simp only [wp, (show ∀ n : Nat, _ = n from fun n => wf.2.2.2.2.2.2.2.2.2.2.2.2.2.1 (Int.ofNat n)), (show _ = (0 : Nat) from wf.2.2.2.2.2.2.2.2.2.2.2.2.2.1 0), wpa, (show ∀ n : Nat, _ = n from fun n => wfa.2.2.2.2.2.2.2.2.2.2.2.2.2.1 (Int.ofNat n)), (show _ = (0 : Nat) from wfa.2.2.2.2.2.2.2.2.2.2.2.2.2.1 0), wpz, (show ∀ n : Nat, _ = n from fun n => wfz.2.2.2.2.2.2.2.2.2.2.2.2.2.1 (Int.ofNat n)), (show _ = (0 : Nat) from wfz.2.2.2.2.2.2.2.2.2.2.2.2.2.1 0), getL, takeL, dropL, TK.isAgg, reduceIte])
      (refine CallW.frz @fun ⟨_, _, _, _, _, _, _, _, _, _, _, _, _, _, _, _, _, _, _, _, _, _, _, _, _, _, _, _, _, _, _, _, _, _, _, _, _, _, wpz, wfz⟩ => ?_; cbv; try simp only [wpz, wp, (show ∀ n : Nat, _ = n from fun n => wfz.2.2.2.2.2.2.2.2.2.2.2.2.2.1 (Int.ofNat n)), getL, takeL, dropL, TK.isAgg, reduceIte])
      repeat' first | (with_reducible refine And.intro ?_ ?_) | intro c9 | trivial | (refine Later.mk ?_; cbv; try simp only [wp, (show ∀ n : Nat, _ = n from fun n => wf.2.2.2.2.2.2.2.2.2.2.2.2.2.1 (Int.ofNat n)), (show _ = (0 : Nat) from wf.2.2.2.2.2.2.2.2.2.2.2.2.2.1 0), wpa, (show ∀ n : Nat, _ = n from fun n => wfa.2.2.2.2.2.2.2.2.2.2.2.2.2.1 (Int.ofNat n)), (show _ = (0 : Nat) from wfa.2.2.2.2.2.2.2.2.2.2.2.2.2.1 0), wpz, (show ∀ n : Nat, _ = n from fun n => wfz.2.2.2.2.2.2.2.2.2.2.2.2.2.1 (Int.ofNat n)), (show _ = (0 : Nat) from wfz.2.2.2.2.2.2.2.2.2.2.2.2.2.1 0), getL, takeL, dropL, TK.isAgg, reduceIte])
      refine CallW.within (f1 v) [0] rfl ⟨rfl, trivial⟩ rfl ?_
      rintro _ _ ⟨K2, rfl, hq⟩
      rcases hq with ⟨q1, rfl⟩ | ⟨q1, q2, rfl⟩ | ⟨q1, rfl⟩
      · rw [r1 fun _ => q1] at hR
        refine ⟨hpG1 len GB, K2, rfl, Nat.le_refl _, ⟨trivial, trivial⟩, rfl, ?_⟩
        (cbv; try simp only [wp, (show ∀ n : Nat, _ = n from fun n => wf.2.2.2.2.2.2.2.2.2.2.2.2.2.1 (Int.ofNat n)), (show _ = (0 : Nat) from wf.2.2.2.2.2.2.2.2.2.2.2.2.2.1 0), wpa, (show ∀ n : Nat, _ = n from fun n => wfa.2.2.2.2.2.2.2.2.2.2.2.2.2.1 (Int.ofNat n)), (show _ = (0 : Nat) from wfa.2.2.2.2.2.2.2.2.2.2.2.2.2.1 0), wpz, (show ∀ n : Nat, _ = n from fun n => wfz.2.2.2.2.2.2.2.2.2.2.2.2.2.1 (Int.ofNat n)), (show _ = (0 : Nat) from wfz.2.2.2.2.2.2.2.2.2.2.2.2.2.1 0), getL, takeL, dropL, TK.isAgg, reduceIte])
        repeat' first | (with_reducible refine And.intro ?_ ?_) | intro c9 | trivial | (refine Later.mk ?_; cbv; try simp only [wp, (show ∀ n : Nat, _ = n from fun n => wf.2.2.2.2.2.2.2.2.2.2.2.2.2.1 (Int.ofNat n)), (show _ = (0 : Nat) from wf.2.2.2.2.2.2.2.2.2.2.2.2.2.1 0), wpa, (show ∀ n : Nat, _ = n from fun n => wfa.2.2.2.2.2.2.2.2.2.2.2.2.2.1 (Int.ofNat n)), (show _ = (0 : Nat) from wfa.2.2.2.2.2.2.2.2.2.2.2.2.2.1 0), wpz, (show ∀ n : Nat, _ = n from fun n => wfz.2.2.2.2.2.2.2.2.2.2.2.2.2.1 (Int.ofNat n)), (show _ = (0 : Nat) from wfz.2.2.2.2.2.2.2.2.2.2.2.2.2.1 0), getL, takeL, dropL, TK.isAgg, reduceIte])
        exact hR _ _ ⟨_, rfl, .keep _ (belA_ok rfl)⟩
      · rw [r2 v q1 q2] at hR
        refine ⟨hpG1 len GB, K2, rfl, Nat.le_refl _, ⟨trivial, trivial⟩, rfl, ?_⟩
        (cbv; try simp only [wp, (show ∀ n : Nat, _ = n from fun n => wf.2.2.2.2.2.2.2.2.2.2.2.2.2.1 (Int.ofNat n)), (show _ = (0 : Nat) from wf.2.2.2.2.2.2.2.2.2.2.2.2.2.1 0), wpa, (show ∀ n : Nat, _ = n from fun n => wfa.2.2.2.2.2.2.2.2.2.2.2.2.2.1 (Int.ofNat n)), (show _ = (0 : Nat) from wfa.2.2.2.2.2.2.2.2.2.2.2.2.2.1 0), wpz, (show ∀ n : Nat, _ = n from fun n => wfz.2.2.2.2.2.2.2.2.2.2.2.2.2.1 (Int.ofNat n)), (show _ = (0 : Nat) from wfz.2.2.2.2.2.2.2.2.2.2.2.2.2.1 0), getL, takeL, dropL, TK.isAgg, reduceIte])
        repeat' first | (with_reducible refine And.intro ?_ ?_) | intro c9 | trivial | (refine Later.mk ?_; cbv; try simp only [wp, (show ∀ n : Nat, _ = n from fun n => wf.2.2.2.2.2.2.2.2.2.2.2.2.2.1 (Int.ofNat n)), (show _ = (0 : Nat) from wf.2.2.2.2.2.2.2.2.2.2.2.2.2.1 0), wpa, (show ∀ n : Nat, _ = n from fun n => wfa.2.2.2.2.2.2.2.2.2.2.2.2.2.1 (Int.ofNat n)), (show _ = (0 : Nat) from wfa.2.2.2.2.2.2.2.2.2.2.2.2.2.1 0), wpz, (show ∀ n : Nat, _ = n from fun n => wfz.2.2.2.2.2.2.2.2.2.2.2.2.2.1 (Int.ofNat n)), (show _ = (0 : Nat) from wfz.2.2.2.2.2.2.2.2.2.2.2.2.2.1 0), getL, takeL, dropL, TK.isAgg, reduceIte])
        exact hR _ _ ⟨_, rfl, .keep _ (belA_ok rfl)⟩
      · rw [r3 v q1] at hR
        obtain ⟨nl, hnl⟩ : ∃ nl, nl = n - (len : Int) := ⟨_, rfl⟩
        rw [← hnl] at hR ⊢
        refine ⟨hpG1 len GB, K2, rfl, Nat.le_refl _, ⟨trivial, trivial⟩, rfl, ?_⟩
        (cbv; try simp only [wp, (show ∀ n : Nat, _ = n from fun n => wf.2.2.2.2.2.2.2.2.2.2.2.2.2.1 (Int.ofNat n)), (show _ = (0 : Nat) from wf.2.2.2.2.2.2.2.2.2.2.2.2.2.1 0), wpa, (show ∀ n : Nat, _ = n from fun n => wfa.2.2.2.2.2.2.2.2.2.2.2.2.2.1 (Int.ofNat n)), (show _ = (0 : Nat) from wfa.2.2.2.2.2.2.2.2.2.2.2.2.2.1 0), wpz, (show ∀ n : Nat, _ = n from fun n => wfz.2.2.2.2.2.2.2.2.2.2.2.2.2.1 (Int.ofNat n)), (show _ = (0 : Nat) from wfz.2.2.2.2.2.2.2.2.2.2.2.2.2.1 0), getL, takeL, dropL, TK.isAgg, reduceIte])
        repeat' first | (with_reducible refine And.intro ?_ ?_) | intro c9 | trivial | (refine Later.mk ?_; cbv; try simp only [wp, (show ∀ n : Nat, _ = n from fun n => wf.2.2.2.2.2.2.2.2.2.2.2.2.2.1 (Int.ofNat n)), (show _ = (0 : Nat) from wf.2.2.2.2.2.2.2.2.2.2.2.2.2.1 0), wpa, (show ∀ n : Nat, _ = n from fun n => wfa.2.2.2.2.2.2.2.2.2.2.2.2.2.1 (Int.ofNat n)), (show _ = (0 : Nat) from wfa.2.2.2.2.2.2.2.2.2.2.2.2.2.1 0), wpz, (show ∀ n : Nat, _ = n from fun n => wfz.2.2.2.2.2.2.2.2.2.2.2.2.2.1 (Int.ofNat n)), (show _ = (0 : Nat) from wfz.2.2.2.2.2.2.2.2.2.2.2.2.2.1 0), getL, takeL, dropL, TK.isAgg, reduceIte])
        exact hR _ _ ⟨_, rfl, .keep _ (belA_ok rfl)⟩
    · rw [r1 fun h => absurd h v] at hR
      (cbv; try simp only [wp, (show ∀ n : Nat, _ = n from fun n => wf.2.2.2.2.2.2.2.2.2.2.2.2.2.1 (Int.ofNat n)), (show _ = (0 : Nat) from wf.2.2.2.2.2.2.2.2.2.2.2.2.2.1 0), wpa, (show ∀ n : Nat, _ = n from fun n => wfa.2.2.2.2.2.2.2.2.2.2.2.2.2.1 (Int.ofNat n)), (show _ = (0 : Nat) from wfa.2.2.2.2.2.2.2.2.2.2.2.2.2.1 0), wpz, (show ∀ n : Nat, _ = n from fun n => wfz.2.2.2.2.2.2.2.2.2.2.2.2.2.1 (Int.ofNat n)), (show _ = (0 : Nat) from wfz.2.2.2.2.2.2.2.2.2.2.2.2.2.1 0), getL, takeL, dropL, TK.isAgg, reduceIte])
      repeat' first | (with_reducible refine And.intro ?_ ?_) | intro c9 | trivial | (refine Later.mk ?_; cbv; try simp only [wp, (show ∀ n : Nat, _ = n from fun n => wf.2.2.2.2.2.2.2.2.2.2.2.2.2.1 (Int.ofNat n)), (show _ = (0 : Nat) from wf.2.2.2.2.2.2.2.2.2.2.2.2.2.1 0), wpa, (show ∀ n : Nat, _ = n from fun n => wfa.2.2.2.2.2.2.2.2.2.2.2.2.2.1 (Int.ofNat n)), (show _ = (0 : Nat) from wfa.2.2.2.2.2.2.2.2.2.2.2.2.2.1 0), wpz, (show ∀ n : Nat, _ = n from fun n => wfz.2.2.2.2.2.2.2.2.2.2.2.2.2.1 (Int.ofNat n)), (show _ = (0 : Nat) from wfz.2.2.2.2.2.2.2.2.2.2.2.2.2.1 0), getL, takeL, dropL, TK.isAgg, reduceIte])
      exact hR _ _ ⟨_, rfl, .aggs5 (.keep _ (.d _)) (.keep _ (.d _)) (.keep _ (.d _)) (.keep _ (.d _)) (.ref0 5 i 5 i i _ (by decide) rfl rfl)⟩
theorem mappedG (len : Nat) (GB : Nat → Nat → D) (B : Nat → Tm) (hl : len ≤ 100000) (hB : ∀ i, i < len → tm (B i) = kid GB i) (hS : ∀ i, i < len → 4 * nodesT (B i) ≤ 1000000) (t : Tm) (hs : 4 * nodesT t ≤ 1000000) :
    VCalls (P ()) 51 [tm t, .clo 60 [] [.ptr 0 0]] (hpG1 len GB) (fun r H => ∃ K2, r = tm (mapT (fFl len B) t 0) ∧ H = hpG1 len GB ++ K2) := by
  have hw := walkG len GB B hl hB hS t 0 (by decide) (by omega)
  unfold tm at hw ⊢
  obtain ⟨f, hf⟩ : ∃ f, f = tmD t := ⟨_, rfl⟩
  obtain ⟨g, hg⟩ : ∃ g, g = tmD (mapT (fFl len B) t 0) := ⟨_, rfl⟩
  rw [← hf, ← hg] at hw ⊢
  clear hf hg
  refine VCalls_of_Wl (Tf := fun {_} _ => fzT [2] (T ())) (fun {_} => tabOk.frz [2]) [] 400 Tryd.func51 rfl (fun {_} => by kernel_rfl) (Nat.le_of_ble_eq_true rfl) @fun ⟨_, _, _, _, _, _, _, _, _, _, _, _, _, _, _, _, _, _, _, _, _, _, _, _, _, _, _, _, _, _, _, _, _, _, _, _, _, _, wp, wf⟩ nH R hnH hR => ?_
  subst hnH
  cbv
  try simp only [wp, (show ∀ n : Nat, _ = n from fun n => wf.2.2.2.2.2.2.2.2.2.2.2.2.2.1 (Int.ofNat n)), getL, takeL, dropL, TK.isAgg, reduceIte]
  repeat' first | (with_reducible refine And.intro ?_ ?_) | intro c9 | trivial | (refine Later.mk ?_; cbv; try simp only [wp, (show ∀ n : Nat, _ = n from fun n => wf.2.2.2.2.2.2.2.2.2.2.2.2.2.1 (Int.ofNat n)), (show _ = (0 : Nat) from wf.2.2.2.2.2.2.2.2.2.2.2.2.2.1 0), getL, takeL, dropL, TK.isAgg, reduceIte])
  refine CallW.within hw [0, 3, 1] rfl ⟨rfl, rfl, rfl, trivial⟩ rfl ?_
  rintro _ _ ⟨rfl, rfl⟩
  refine ⟨hpGw len GB, [], rfl, Nat.le_refl _, ⟨trivial, trivial, trivial, trivial⟩, rfl, ?_⟩
  (cbv; try simp only [wp, (show ∀ n : Nat, _ = n from fun n => wf.2.2.2.2.2.2.2.2.2.2.2.2.2.1 (Int.ofNat n)), (show _ = (0 : Nat) from wf.2.2.2.2.2.2.2.2.2.2.2.2.2.1 0), getL, takeL, dropL, TK.isAgg, reduceIte])
  repeat' first | (with_reducible refine And.intro ?_ ?_) | intro c9 | trivial | (refine Later.mk ?_; cbv; try simp only [wp, (show ∀ n : Nat, _ = n from fun n => wf.2.2.2.2.2.2.2.2.2.2.2.2.2.1 (Int.ofNat n)), (show _ = (0 : Nat) from wf.2.2.2.2.2.2.2.2.2.2.2.2.2.1 0), getL, takeL, dropL, TK.isAgg, reduceIte])
  exact hR _ _ ⟨_, rfl, rfl⟩
/-- Fill -/
theorem FillT (len : Nat) (GB : Nat → Nat → D) (B : Nat → Tm) (hl : len ≤ 100000) (hB : ∀ i, i < len → tm (B i) = kid GB i) (hS : ∀ i, i < len → 4 * nodesT (B i) ≤ 1000000) (t : Tm) (hs : 4 * nodesT t ≤ 1000000) :
    VFun (P ()) 36 [tm t, .d (.sl len 5 GB)] (fun r => r = tm (mapT (fFl len B) t 0)) := by
  have hw := mappedG len GB B hl hB hS t hs
  unfold tm at hw ⊢
  obtain ⟨f, hf⟩ : ∃ f, f = tmD t := ⟨_, rfl⟩
  obtain ⟨g, hg⟩ : ∃ g, g = tmD (mapT (fFl len B) t 0) := ⟨_, rfl⟩
  rw [← hf, ← hg] at hw ⊢
  clear hf hg
  refine vfunL (Tf := fun {_} _ => fzT [2] (T ())) (fun {_} => tabOk.frz [2]) [] 400 Tryd.func36 rfl (fun {_} => by kernel_rfl) rfl (Nat.le_of_ble_eq_true rfl) @fun ⟨_, _, _, _, _, _, _, _, _, _, _, _, _, _, _, _, _, _, _, _, _, _, _, _, _, _, _, _, _, _, _, _, _, _, _, _, _, _, wp, wf⟩ R hR => ?_
  cbv
  try simp only [wp, (show ∀ n : Nat, _ = n from fun n => wf.2.2.2.2.2.2.2.2.2.2.2.2.2.1 (Int.ofNat n)), getL, takeL, dropL, TK.isAgg, reduceIte]
  repeat' first | (with_reducible refine And.intro ?_ ?_) | intro c9 | trivial | (refine Later.mk ?_; cbv; try simp only [wp, (show ∀ n : Nat, _ = n from fun n => wf.2.2.2.2.2.2.2.2.2.2.2.2.2.1 (Int.ofNat n)), (show _ = (0 : Nat) from wf.2.2.2.2.2.2.2.2.2.2.2.2.2.1 0), getL, takeL, dropL, TK.isAgg, reduceIte])
  trace_state
  refine CallW.within hw [0] rfl ⟨rfl, trivial⟩ rfl ?_
  rintro _ _ ⟨K2, rfl, rfl⟩
  refine ⟨hpG1 len GB, K2, rfl, Nat.le_refl _, ⟨trivial, trivial⟩, rfl, ?_⟩
  (cbv; try simp only [wp, (show ∀ n : Nat, _ = n from fun n => wf.2.2.2.2.2.2.2.2.2.2.2.2.2.1 (Int.ofNat n)), (show _ = (0 : Nat) from wf.2.2.2.2.2.2.2.2.2.2.2.2.2.1 0), getL, takeL, dropL, TK.isAgg, reduceIte])
  repeat' first | (with_reducible refine And.intro ?_ ?_) | intro c9 | trivial | (refine Later.mk ?_; cbv; try simp only [wp, (show ∀ n : Nat, _ = n from fun n => wf.2.2.2.2.2.2.2.2.2.2.2.2.2.1 (Int.ofNat n)), (show _ = (0 : Nat) from wf.2.2.2.2.2.2.2.2.2.2.2.2.2.1 0), getL, takeL, dropL, TK.isAgg, reduceIte])
  all_goals exact hR _ _ _ (.same5 _ _ _ _ _) rfl
end Go.VM


namespace Go.VM
open Go.Proofs Go
set_option maxRecDepth 100000
set_option linter.unusedVariables false
set_option linter.unusedSimpArgs false
def opT : Tm → Int
  | .mk op n s k C N W Q m ok L => op
/-- all variables in the parts are at most a million -/
def NearL : Tm → Prop
  | .mk op n s k C N W Q m ok L => ∀ i : Fin m, NearT 1000000 (L i)
theorem NearT_L (t : Tm) : NearT 1000000 t ↔ (opT t = 1 → numT t ≤ 1000000) ∧ NearL t := by
  cases t with | mk op n s k C N W Q m ok L => simp only [NearT, opT, numT, NearL]
theorem tmD_01 (t : Tm) : tmD t 0 = .int .i64 (opT t) ∧ tmD t 1 = .int .i64 (numT t) := by
  cases t with | mk op n s k C N W Q m ok L => simp only [tmD, opT, numT, and_self]
theorem nearV1 (m : Nat) (G : Nat → Nat → D) (o nn : Nat → Int) (F : Nat → Prop) (hm : m < 2 ^ 30) (h0 : ∀ i, i < m → G i 0 = .int .i64 (o i)) (h1 : ∀ i, i < m → G i 1 = .int .i64 (nn i))
    (ih : ∀ i, i < m → VFun (P ()) 28 [.d (G i 4)] (fun r => ∃ b : Bool, (b = true ↔ F i) ∧ r = .d (.bool b))) : VFun (P ()) 28 [.d (.sl m 5 G)] (fun r => ∃ b : Bool, (b = true ↔ ∀ i, i < m → (o i = 1 → nn i ≤ 1000000) ∧ F i) ∧ r = .d (.bool b)) := by
  refine vfunL (Tf := fun {_} _ => fzT [] (T ())) (fun {_} => tabOk.frz []) [] 400 Tryd.func28 rfl (fun {_} => by kernel_rfl) rfl (Nat.le_of_ble_eq_true rfl) @fun ⟨_, _, _, _, _, _, _, _, _, _, _, _, _, _, _, _, _, _, _, _, _, _, _, _, _, _, _, _, _, _, _, _, _, _, _, _, _, _, wp, wf⟩ R hR => ?_
  cbv
  try simp only [wp, (show ∀ n : Nat, _ = n from fun n => wf.2.2.2.2.2.2.2.2.2.2.2.2.2.1 (Int.ofNat n)), getL, takeL, dropL, TK.isAgg, reduceIte]
  replace hR := fun b H h => hR _ H (.d (.bool b)) (.d _) ⟨b, h, rfl⟩
  refine loopL (Tf := fun {_} _ => fzT [] (T ())) (fun {_} => tabOk.frz []) [] 400 (fun i : Nat => ⟨[.d (.sl m 5 G), .undef, .d (.bool false), .d (.int .i64 i), .undef, .undef, .undef, .undef, .undef, .undef, .undef, .undef, .undef, .undef, .undef, .undef, .undef, .undef, .undef, .undef, .undef, .undef, .undef, .undef, .undef, .undef, .undef, .undef, .undef, .undef, .undef, .undef, .undef], []⟩) (fun i => m - i) (fun i => i ≤ m ∧ ∀ j, j < i → (o j = 1 → nn j ≤ 1000000) ∧ F j) 0 ⟨Nat.zero_le _, fun j hj => absurd hj (Nat.not_lt_zero _)⟩ (fun {_} => by kernel_rfl) ?_ (fun i => by kernel_rfl) @fun ⟨_, _, _, _, _, _, _, _, _, _, _, _, _, _, _, _, _, _, _, _, _, _, _, _, _, _, _, _, _, _, _, _, _, _, _, _, _, _, wpa, wfa⟩ i Bk hi hBk => ?_
  · ((cbv; try simp only [wf, exD, exL, exT, exB, exA, leLs, leL_d, leL_undef, leL_nils, leA_nils, deq_refl, deq_int, deq_bool, deq_str, and_true, true_and, AObj.iter.injEq, nc, nc']; try simp (disch := omega) only [w64, w32, wu8]); first | done | rfl | omega | (simp; done) | (simp; omega) | skip)
  obtain ⟨i1, i2⟩ := hi
  (cbv; try simp only [wp, (show ∀ n : Nat, _ = n from fun n => wf.2.2.2.2.2.2.2.2.2.2.2.2.2.1 (Int.ofNat n)), (show _ = (0 : Nat) from wf.2.2.2.2.2.2.2.2.2.2.2.2.2.1 0), wpa, (show ∀ n : Nat, _ = n from fun n => wfa.2.2.2.2.2.2.2.2.2.2.2.2.2.1 (Int.ofNat n)), (show _ = (0 : Nat) from wfa.2.2.2.2.2.2.2.2.2.2.2.2.2.1 0), getL, takeL, dropL, TK.isAgg, reduceIte])
  refine ⟨fun e => ?_, fun e => ?_⟩
  · have e : i < m := (by (try simp only [wf, wfa, nc, nc', Int.toNat_natCast, bsz, ByteArray.size_append, List.length_cons, List.length_nil] at *); (try simp (disch := omega) only [w64, w32, wu8] at *); first | done | omega)
    have hi := ih i e
    have g0 := h0 i e
    have g1 := h1 i e
    (refine Later.mk ?_; cbv; try simp only [wp, (show ∀ n : Nat, _ = n from fun n => wf.2.2.2.2.2.2.2.2.2.2.2.2.2.1 (Int.ofNat n)), (show _ = (0 : Nat) from wf.2.2.2.2.2.2.2.2.2.2.2.2.2.1 0), wpa, (show ∀ n : Nat, _ = n from fun n => wfa.2.2.2.2.2.2.2.2.2.2.2.2.2.1 (Int.ofNat n)), (show _ = (0 : Nat) from wfa.2.2.2.2.2.2.2.2.2.2.2.2.2.1 0), getL, takeL, dropL, TK.isAgg, reduceIte])
    repeat' first | (with_reducible refine And.intro ?_ ?_) | intro c9 | trivial | (refine Later.mk ?_; cbv; try simp only [wp, (show ∀ n : Nat, _ = n from fun n => wf.2.2.2.2.2.2.2.2.2.2.2.2.2.1 (Int.ofNat n)), (show _ = (0 : Nat) from wf.2.2.2.2.2.2.2.2.2.2.2.2.2.1 0), wpa, (show ∀ n : Nat, _ = n from fun n => wfa.2.2.2.2.2.2.2.2.2.2.2.2.2.1 (Int.ofNat n)), (show _ = (0 : Nat) from wfa.2.2.2.2.2.2.2.2.2.2.2.2.2.1 0), getL, takeL, dropL, TK.isAgg, reduceIte]) | (rw [g0]; (cbv; try simp only [wp, (show ∀ n : Nat, _ = n from fun n => wf.2.2.2.2.2.2.2.2.2.2.2.2.2.1 (Int.ofNat n)), (show _ = (0 : Nat) from wf.2.2.2.2.2.2.2.2.2.2.2.2.2.1 0), wpa, (show ∀ n : Nat, _ = n from fun n => wfa.2.2.2.2.2.2.2.2.2.2.2.2.2.1 (Int.ofNat n)), (show _ = (0 : Nat) from wfa.2.2.2.2.2.2.2.2.2.2.2.2.2.1 0), getL, takeL, dropL, TK.isAgg, reduceIte])) | (rw [g1]; (cbv; try simp only [wp, (show ∀ n : Nat, _ = n from fun n => wf.2.2.2.2.2.2.2.2.2.2.2.2.2.1 (Int.ofNat n)), (show _ = (0 : Nat) from wf.2.2.2.2.2.2.2.2.2.2.2.2.2.1 0), wpa, (show ∀ n : Nat, _ = n from fun n => wfa.2.2.2.2.2.2.2.2.2.2.2.2.2.1 (Int.ofNat n)), (show _ = (0 : Nat) from wfa.2.2.2.2.2.2.2.2.2.2.2.2.2.1 0), getL, takeL, dropL, TK.isAgg, reduceIte])) | (refine hi.call ?_; rintro _ ⟨b, hb, rfl⟩; cases b <;> (cbv; try simp only [wp, (show ∀ n : Nat, _ = n from fun n => wf.2.2.2.2.2.2.2.2.2.2.2.2.2.1 (Int.ofNat n)), (show _ = (0 : Nat) from wf.2.2.2.2.2.2.2.2.2.2.2.2.2.1 0), wpa, (show ∀ n : Nat, _ = n from fun n => wfa.2.2.2.2.2.2.2.2.2.2.2.2.2.1 (Int.ofNat n)), (show _ = (0 : Nat) from wfa.2.2.2.2.2.2.2.2.2.2.2.2.2.1 0), getL, takeL, dropL, TK.isAgg, reduceIte]))
    all_goals first
      | exact Nat.zero_le _
      | exact (by (try simp only [wf, wfa, nc, nc', Int.toNat_natCast, bsz, ByteArray.size_append, List.length_cons, List.length_nil] at *); (try simp (disch := omega) only [w64, w32, wu8] at *); first | done | omega)
      | (refine hBk (i + 1) _ (by omega) ⟨by omega, fun j hj => ?_⟩ ?_
         · by_cases ej : j = i
           · subst ej; exact ⟨by clear hBk hR; intro h; exact (by (try simp only [wf, wfa, nc, nc', Int.toNat_natCast, bsz, ByteArray.size_append, List.length_cons, List.length_nil] at *); (try simp (disch := omega) only [w64, w32, wu8] at *); first | done | omega), hb.1 rfl⟩
           · exact i2 j (by omega)
         · ((cbv; try simp only [wf, wfa, exD, exL, exT, exB, exA, leLs, leL_d, leL_undef, leL_nils, leA_nils, deq_refl, deq_int, deq_bool, deq_str, and_true, true_and, AObj.iter.injEq, nc, nc']; try simp (disch := omega) only [w64, w32, wu8]); first | done | rfl | omega | (simp; done) | (simp; omega) | skip))
      | exact hR false _ (iffF fun h => by have h2 := (h i e).2; exact absurd (hb.2 h2) (by simp))
      | exact hR false _ (iffF fun h => by have h2 := (h i e).1; clear hR hBk; exact absurd (h2 (by (try simp only [wf, wfa, nc, nc', Int.toNat_natCast, bsz, ByteArray.size_append, List.length_cons, List.length_nil] at *); (try simp (disch := omega) only [w64, w32, wu8] at *); first | done | omega)) (by (try simp only [wf, wfa, nc, nc', Int.toNat_natCast, bsz, ByteArray.size_append, List.length_cons, List.length_nil] at *); (try simp (disch := omega) only [w64, w32, wu8] at *); first | done | omega))
  · obtain rfl : i = m := (by (try simp only [wf, wfa, nc, nc', Int.toNat_natCast, bsz, ByteArray.size_append, List.length_cons, List.length_nil] at *); (try simp (disch := omega) only [w64, w32, wu8] at *); first | done | omega)
    (refine Later.mk ?_; cbv; try simp only [wp, (show ∀ n : Nat, _ = n from fun n => wf.2.2.2.2.2.2.2.2.2.2.2.2.2.1 (Int.ofNat n)), (show _ = (0 : Nat) from wf.2.2.2.2.2.2.2.2.2.2.2.2.2.1 0), wpa, (show ∀ n : Nat, _ = n from fun n => wfa.2.2.2.2.2.2.2.2.2.2.2.2.2.1 (Int.ofNat n)), (show _ = (0 : Nat) from wfa.2.2.2.2.2.2.2.2.2.2.2.2.2.1 0), getL, takeL, dropL, TK.isAgg, reduceIte])
    exact hR true _ (iffT i2)
theorem nearL (t : Tm) : Small t → VFun (P ()) 28 [.d (tmD t 4)] (fun r => ∃ b : Bool, (b = true ↔ NearL t) ∧ r = .d (.bool b)) := by
  refine Tm.walk (P := fun t => Small t → VFun (P ()) 28 [.d (tmD t 4)] (fun r => ∃ b : Bool, (b = true ↔ NearL t) ∧ r = .d (.bool b))) ?_ t
  intro op n s k C N W Q m ok K G hG e ih hs
  obtain ⟨h1, h2, h3⟩ := hs.kid
  have e4 : tmD (.nd op n s k C N W Q m ok K) 4 = .sl m 5 G := by
    unfold tm at e
    injection e with e
    simp only [List.cons.injEq, A.d.injEq] at e
    exact e.2.2.2.2.1
  have g : ∀ i, i < m → G i 0 = tmD (K i) 0 ∧ G i 1 = tmD (K i) 1 ∧ G i 4 = tmD (K i) 4 := fun i hi => by
    have := hG i hi
    unfold tm kid at this
    injection this with this
    simp only [List.cons.injEq, A.d.injEq] at this
    exact ⟨this.1.symm, this.2.1.symm, this.2.2.2.2.1.symm⟩
  rw [e4]
  refine (nearV1 m G (fun i => opT (K i)) (fun i => numT (K i)) (fun i => NearL (K i)) (by omega) (fun i hi => by rw [(g i hi).1, (tmD_01 (K i)).1]) (fun i hi => by rw [(g i hi).2.1, (tmD_01 (K i)).2]) (fun i hi => by rw [(g i hi).2.2]; exact ih i hi (h3 i hi))).mono ?_
  rintro _ ⟨b, hb, rfl⟩
  refine ⟨b, hb.trans ?_, rfl⟩
  have : NearL (.nd op n s k C N W Q m ok K) ↔ ∀ i, i < m → NearT 1000000 (K i) := by
    have e : NearL (.nd op n s k C N W Q m ok K) ↔ ∀ i : Fin m, NearT 1000000 (K i) := by simp only [Tm.nd, NearL]
    rw [e]
    exact ⟨fun h i hi => h ⟨i, hi⟩, fun h i => h i i.2⟩
  rw [this]
  exact ⟨fun h i hi => (NearT_L _).2 (h i hi), fun h i hi => (NearT_L _).1 (h i hi)⟩
/-- a list of terms -/
theorem nearV (m : Nat) (G : Nat → Nat → D) (K : Nat → Tm) (hm : m < 2 ^ 30) (hG : ∀ i, i < m → tm (K i) = kid G i) (hs : ∀ i, i < m → Small (K i)) : VFun (P ()) 28 [.d (.sl m 5 G)] (fun r => ∃ b : Bool, (b = true ↔ ∀ i, i < m → NearT 1000000 (K i)) ∧ r = .d (.bool b)) := by
  have g : ∀ i, i < m → G i 0 = tmD (K i) 0 ∧ G i 1 = tmD (K i) 1 ∧ G i 4 = tmD (K i) 4 := fun i hi => by
    have := hG i hi
    unfold tm kid at this
    injection this with this
    simp only [List.cons.injEq, A.d.injEq] at this
    exact ⟨this.1.symm, this.2.1.symm, this.2.2.2.2.1.symm⟩
  refine (nearV1 m G (fun i => opT (K i)) (fun i => numT (K i)) (fun i => NearL (K i)) (by omega) (fun i hi => by rw [(g i hi).1, (tmD_01 (K i)).1]) (fun i hi => by rw [(g i hi).2.1, (tmD_01 (K i)).2]) (fun i hi => by rw [(g i hi).2.2]; exact nearL (K i) (hs i hi))).mono ?_
  rintro _ ⟨b, hb, rfl⟩
  exact ⟨b, hb.trans ⟨fun h i hi => (NearT_L _).2 (h i hi), fun h i hi => (NearT_L _).1 (h i hi)⟩, rfl⟩
end Go.VM

namespace Go.VM
open Go.Proofs Go
set_option maxRecDepth 100000
set_option linter.unusedVariables false
set_option linter.unusedSimpArgs false
theorem nearW1 (m : Nat) (G : Nat → Nat → D) (o nn : Nat → Int) (F : Nat → Prop) (hm : m < 2 ^ 63) (h0 : ∀ i, i < m → G i 0 = .int .i64 (o i)) (h1 : ∀ i, i < m → G i 1 = .int .i64 (nn i))
    (ih : ∀ i, i < m → VFun (P ()) 28 [.d (G i 4)] (fun r => ∃ b : Bool, (b = true ↔ F i) ∧ r = .d (.bool b))) : VFun (P ()) 28 [.d (.sl m 5 G)] (fun r => ∃ b : Bool, (b = true ↔ ∀ i, i < m → (o i = 1 → nn i ≤ 1000000) ∧ F i) ∧ r = .d (.bool b)) := by
  refine vfunL (Tf := fun {_} _ => fzT [] (T ())) (fun {_} => tabOk.frz []) [] 400 Tryd.func28 rfl (fun {_} => by kernel_rfl) rfl (Nat.le_of_ble_eq_true rfl) @fun ⟨_, _, _, _, _, _, _, _, _, _, _, _, _, _, _, _, _, _, _, _, _, _, _, _, _, _, _, _, _, _, _, _, _, _, _, _, _, _, wp, wf⟩ R hR => ?_
  cbv
  try simp only [wp, (show ∀ n : Nat, _ = n from fun n => wf.2.2.2.2.2.2.2.2.2.2.2.2.2.1 (Int.ofNat n)), getL, takeL, dropL, TK.isAgg, reduceIte]
  replace hR := fun b H h => hR _ H (.d (.bool b)) (.d _) ⟨b, h, rfl⟩
  refine loopL (Tf := fun {_} _ => fzT [] (T ())) (fun {_} => tabOk.frz []) [] 400 (fun i : Nat => ⟨[.d (.sl m 5 G), .undef, .d (.bool false), .d (.int .i64 i), .undef, .undef, .undef, .undef, .undef, .undef, .undef, .undef, .undef, .undef, .undef, .undef, .undef, .undef, .undef, .undef, .undef, .undef, .undef, .undef, .undef, .undef, .undef, .undef, .undef, .undef, .undef, .undef, .undef], []⟩) (fun i => m - i) (fun i => i ≤ m ∧ ∀ j, j < i → (o j = 1 → nn j ≤ 1000000) ∧ F j) 0 ⟨Nat.zero_le _, fun j hj => absurd hj (Nat.not_lt_zero _)⟩ (fun {_} => by kernel_rfl) ?_ (fun i => by kernel_rfl) @fun ⟨_, _, _, _, _, _, _, _, _, _, _, _, _, _, _, _, _, _, _, _, _, _, _, _, _, _, _, _, _, _, _, _, _, _, _, _, _, _, wpa, wfa⟩ i Bk hi hBk => ?_
  · ((cbv; try simp only [wf, exD, exL, exT, exB, exA, leLs, leL_d, leL_undef, leL_nils, leA_nils, deq_refl, deq_int, deq_bool, deq_str, and_true, true_and, AObj.iter.injEq, nc, nc']; try simp (disch := omega) only [w64, w32, wu8]); first | done | rfl | omega | (simp; done) | (simp; omega) | skip)
  obtain ⟨i1, i2⟩ := hi
  (cbv; try simp only [wp, (show ∀ n : Nat, _ = n from fun n => wf.2.2.2.2.2.2.2.2.2.2.2.2.2.1 (Int.ofNat n)), (show _ = (0 : Nat) from wf.2.2.2.2.2.2.2.2.2.2.2.2.2.1 0), wpa, (show ∀ n : Nat, _ = n from fun n => wfa.2.2.2.2.2.2.2.2.2.2.2.2.2.1 (Int.ofNat n)), (show _ = (0 : Nat) from wfa.2.2.2.2.2.2.2.2.2.2.2.2.2.1 0), getL, takeL, dropL, TK.isAgg, reduceIte])
  refine ⟨fun e => ?_, fun e => ?_⟩
  · have e : i < m := (by (try simp only [wf, wfa, nc, nc', Int.toNat_natCast, bsz, ByteArray.size_append, List.length_cons, List.length_nil] at *); (try simp (disch := omega) only [w64, w32, wu8] at *); first | done | omega)
    have hi := ih i e
    have g0 := h0 i e
    have g1 := h1 i e
    (refine Later.mk ?_; cbv; try simp only [wp, (show ∀ n : Nat, _ = n from fun n => wf.2.2.2.2.2.2.2.2.2.2.2.2.2.1 (Int.ofNat n)), (show _ = (0 : Nat) from wf.2.2.2.2.2.2.2.2.2.2.2.2.2.1 0), wpa, (show ∀ n : Nat, _ = n from fun n => wfa.2.2.2.2.2.2.2.2.2.2.2.2.2.1 (Int.ofNat n)), (show _ = (0 : Nat) from wfa.2.2.2.2.2.2.2.2.2.2.2.2.2.1 0), getL, takeL, dropL, TK.isAgg, reduceIte])
    repeat' first | (with_reducible refine And.intro ?_ ?_) | intro c9 | trivial | (refine Later.mk ?_; cbv; try simp only [wp, (show ∀ n : Nat, _ = n from fun n => wf.2.2.2.2.2.2.2.2.2.2.2.2.2.1 (Int.ofNat n)), (show _ = (0 : Nat) from wf.2.2.2.2.2.2.2.2.2.2.2.2.2.1 0), wpa, (show ∀ n : Nat, _ = n from fun n => wfa.2.2.2.2.2.2.2.2.2.2.2.2.2.1 (Int.ofNat n)), (show _ = (0 : Nat) from wfa.2.2.2.2.2.2.2.2.2.2.2.2.2.1 0), getL, takeL, dropL, TK.isAgg, reduceIte]) | (rw [g0]; (cbv; try simp only [wp, (show ∀ n : Nat, _ = n from fun n => wf.2.2.2.2.2.2.2.2.2.2.2.2.2.1 (Int.ofNat n)), (show _ = (0 : Nat) from wf.2.2.2.2.2.2.2.2.2.2.2.2.2.1 0), wpa, (show ∀ n : Nat, _ = n from fun n => wfa.2.2.2.2.2.2.2.2.2.2.2.2.2.1 (Int.ofNat n)), (show _ = (0 : Nat) from wfa.2.2.2.2.2.2.2.2.2.2.2.2.2.1 0), getL, takeL, dropL, TK.isAgg, reduceIte])) | (rw [g1]; (cbv; try simp only [wp, (show ∀ n : Nat, _ = n from fun n => wf.2.2.2.2.2.2.2.2.2.2.2.2.2.1 (Int.ofNat n)), (show _ = (0 : Nat) from wf.2.2.2.2.2.2.2.2.2.2.2.2.2.1 0), wpa, (show ∀ n : Nat, _ = n from fun n => wfa.2.2.2.2.2.2.2.2.2.2.2.2.2.1 (Int.ofNat n)), (show _ = (0 : Nat) from wfa.2.2.2.2.2.2.2.2.2.2.2.2.2.1 0), getL, takeL, dropL, TK.isAgg, reduceIte])) | (refine hi.call ?_; rintro _ ⟨b, hb, rfl⟩; cases b <;> (cbv; try simp only [wp, (show ∀ n : Nat, _ = n from fun n => wf.2.2.2.2.2.2.2.2.2.2.2.2.2.1 (Int.ofNat n)), (show _ = (0 : Nat) from wf.2.2.2.2.2.2.2.2.2.2.2.2.2.1 0), wpa, (show ∀ n : Nat, _ = n from fun n => wfa.2.2.2.2.2.2.2.2.2.2.2.2.2.1 (Int.ofNat n)), (show _ = (0 : Nat) from wfa.2.2.2.2.2.2.2.2.2.2.2.2.2.1 0), getL, takeL, dropL, TK.isAgg, reduceIte]))
    all_goals first
      | exact Nat.zero_le _
      | exact (by (try simp only [wf, wfa, nc, nc', Int.toNat_natCast, bsz, ByteArray.size_append, List.length_cons, List.length_nil] at *); (try simp (disch := omega) only [w64, w32, wu8] at *); first | done | omega)
      | (refine hBk (i + 1) _ (by omega) ⟨by omega, fun j hj => ?_⟩ ?_
         · by_cases ej : j = i
           · subst ej; exact ⟨by clear hBk hR; intro h; exact (by (try simp only [wf, wfa, nc, nc', Int.toNat_natCast, bsz, ByteArray.size_append, List.length_cons, List.length_nil] at *); (try simp (disch := omega) only [w64, w32, wu8] at *); first | done | omega), hb.1 rfl⟩
           · exact i2 j (by omega)
         · ((cbv; try simp only [wf, wfa, exD, exL, exT, exB, exA, leLs, leL_d, leL_undef, leL_nils, leA_nils, deq_refl, deq_int, deq_bool, deq_str, and_true, true_and, AObj.iter.injEq, nc, nc']; try simp (disch := omega) only [w64, w32, wu8]); first | done | rfl | omega | (simp; done) | (simp; omega) | skip))
      | exact hR false _ (iffF fun h => by have h2 := (h i e).2; exact absurd (hb.2 h2) (by simp))
      | exact hR false _ (iffF fun h => by have h2 := (h i e).1; clear hR hBk; exact absurd (h2 (by (try simp only [wf, wfa, nc, nc', Int.toNat_natCast, bsz, ByteArray.size_append, List.length_cons, List.length_nil] at *); (try simp (disch := omega) only [w64, w32, wu8] at *); first | done | omega)) (by (try simp only [wf, wfa, nc, nc', Int.toNat_natCast, bsz, ByteArray.size_append, List.length_cons, List.length_nil] at *); (try simp (disch := omega) only [w64, w32, wu8] at *); first | done | omega))
  · obtain rfl : i = m := (by (try simp only [wf, wfa, nc, nc', Int.toNat_natCast, bsz, ByteArray.size_append, List.length_cons, List.length_nil] at *); (try simp (disch := omega) only [w64, w32, wu8] at *); first | done | omega)
    (refine Later.mk ?_; cbv; try simp only [wp, (show ∀ n : Nat, _ = n from fun n => wf.2.2.2.2.2.2.2.2.2.2.2.2.2.1 (Int.ofNat n)), (show _ = (0 : Nat) from wf.2.2.2.2.2.2.2.2.2.2.2.2.2.1 0), wpa, (show ∀ n : Nat, _ = n from fun n => wfa.2.2.2.2.2.2.2.2.2.2.2.2.2.1 (Int.ofNat n)), (show _ = (0 : Nat) from wfa.2.2.2.2.2.2.2.2.2.2.2.2.2.1 0), getL, takeL, dropL, TK.isAgg, reduceIte])
    exact hR true _ (iffT i2)
theorem nearLW (t : Tm) : VFun (P ()) 28 [.d (tmD t 4)] (fun r => ∃ b : Bool, (b = true ↔ NearL t) ∧ r = .d (.bool b)) := by
  refine Tm.walk (P := fun t => VFun (P ()) 28 [.d (tmD t 4)] (fun r => ∃ b : Bool, (b = true ↔ NearL t) ∧ r = .d (.bool b))) ?_ t
  intro op n s k C N W Q m ok K G hG e ih
  have e4 : tmD (.nd op n s k C N W Q m ok K) 4 = .sl m 5 G := by
    unfold tm at e
    injection e with e
    simp only [List.cons.injEq, A.d.injEq] at e
    exact e.2.2.2.2.1
  have g : ∀ i, i < m → G i 0 = tmD (K i) 0 ∧ G i 1 = tmD (K i) 1 ∧ G i 4 = tmD (K i) 4 := fun i hi => by
    have := hG i hi
    unfold tm kid at this
    injection this with this
    simp only [List.cons.injEq, A.d.injEq] at this
    exact ⟨this.1.symm, this.2.1.symm, this.2.2.2.2.1.symm⟩
  rw [e4]
  refine (nearW1 m G (fun i => opT (K i)) (fun i => numT (K i)) (fun i => NearL (K i)) ok.m (fun i hi => by rw [(g i hi).1, (tmD_01 (K i)).1]) (fun i hi => by rw [(g i hi).2.1, (tmD_01 (K i)).2]) (fun i hi => by rw [(g i hi).2.2]; exact ih i hi)).mono ?_
  rintro _ ⟨b, hb, rfl⟩
  refine ⟨b, hb.trans ?_, rfl⟩
  have : NearL (.nd op n s k C N W Q m ok K) ↔ ∀ i, i < m → NearT 1000000 (K i) := by
    have e : NearL (.nd op n s k C N W Q m ok K) ↔ ∀ i : Fin m, NearT 1000000 (K i) := by simp only [Tm.nd, NearL]
    rw [e]
    exact ⟨fun h i hi => h ⟨i, hi⟩, fun h i => h i i.2⟩
  rw [this]
  exact ⟨fun h i hi => (NearT_L _).2 (h i hi), fun h i hi => (NearT_L _).1 (h i hi)⟩
/-- a list of terms -/
theorem nearW (m : Nat) (G : Nat → Nat → D) (K : Nat → Tm) (hm : m < 2 ^ 63) (hG : ∀ i, i < m → tm (K i) = kid G i) : VFun (P ()) 28 [.d (.sl m 5 G)] (fun r => ∃ b : Bool, (b = true ↔ ∀ i, i < m → NearT 1000000 (K i)) ∧ r = .d (.bool b)) := by
  have g : ∀ i, i < m → G i 0 = tmD (K i) 0 ∧ G i 1 = tmD (K i) 1 ∧ G i 4 = tmD (K i) 4 := fun i hi => by
    have := hG i hi
    unfold tm kid at this
    injection this with this
    simp only [List.cons.injEq, A.d.injEq] at this
    exact ⟨this.1.symm, this.2.1.symm, this.2.2.2.2.1.symm⟩
  refine (nearW1 m G (fun i => opT (K i)) (fun i => numT (K i)) (fun i => NearL (K i)) hm (fun i hi => by rw [(g i hi).1, (tmD_01 (K i)).1]) (fun i hi => by rw [(g i hi).2.1, (tmD_01 (K i)).2]) (fun i hi => by rw [(g i hi).2.2]; exact nearLW (K i))).mono ?_
  rintro _ ⟨b, hb, rfl⟩
  exact ⟨b, hb.trans ⟨fun h i hi => (NearT_L _).2 (h i hi), fun h i hi => (NearT_L _).1 (h i hi)⟩, rfl⟩
/-- comparing terms of up to a million nodes -/
theorem EqTermB (t : Tm) : nodesT t ≤ 1000000 → VFun (P ()) 27 [tm t, tm t] (fun r => r = .d (.bool true)) := by
  refine Tm.walk (P := fun t => nodesT t ≤ 1000000 → VFun (P ()) 27 [tm t, tm t] (fun r => r = .d (.bool true))) ?_ t
  clear t
  intro op n s k C N W Q m ok K G hG e ih hs
  rw [nodesT_nd] at hs
  have b1 := sumF_ge (f := fun i => 1 + N i) (fun i => by omega) k
  have b2 := sumF_ge (f := fun i => nodesT (K i)) (fun i => nodesT_pos _) m
  have b3 : ∀ i, i < k → N i < 2 ^ 20 := fun i hi => by have := sumF_one (f := fun i => 1 + N i) hi; omega
  have b4 : ∀ i, i < m → nodesT (K i) ≤ 1000000 := fun i hi => by have := sumF_one (f := fun i => nodesT (K i)) hi; omega
  rw [e]
  have hc := EqLevels k C N W Q (by omega) b3
  have ht := EqTerms m G (by omega) (fun i hi => by have := ih i hi (b4 i hi); rwa [hG i hi] at this)
  clear e hs b1 b2 b3 b4 ih hG
  refine vfunL (Tf := fun {_} _ => fzT [2, 3] (T ())) (fun {_} => tabOk.frz [2, 3]) [] 400 Tryd.func27 rfl (fun {_} => by kernel_rfl) rfl (Nat.le_of_ble_eq_true rfl) @fun ⟨_, _, _, _, _, _, _, _, _, _, _, _, _, _, _, _, _, _, _, _, _, _, _, _, _, _, _, _, _, _, _, _, _, _, _, _, _, _, wp, wf⟩ R hR => ?_
  cbv
  try simp only [wp, (show ∀ n : Nat, _ = n from fun n => wf.2.2.2.2.2.2.2.2.2.2.2.2.2.1 (Int.ofNat n)), getL, takeL, dropL, TK.isAgg, reduceIte]
  replace hR := fun H => hR (.d (.bool true)) H _ (.d (.bool true)) rfl
  repeat' first | (with_reducible refine And.intro ?_ ?_) | intro c9 | (exfalso; exact absurd rfl c9) | trivial | (refine Later.mk ?_; cbv; try simp only [wp, (show ∀ n : Nat, _ = n from fun n => wf.2.2.2.2.2.2.2.2.2.2.2.2.2.1 (Int.ofNat n)), (show _ = (0 : Nat) from wf.2.2.2.2.2.2.2.2.2.2.2.2.2.1 0), getL, takeL, dropL, TK.isAgg, reduceIte])
  refine hc.call ?_
  rintro _ rfl
  (cbv; try simp only [wp, (show ∀ n : Nat, _ = n from fun n => wf.2.2.2.2.2.2.2.2.2.2.2.2.2.1 (Int.ofNat n)), (show _ = (0 : Nat) from wf.2.2.2.2.2.2.2.2.2.2.2.2.2.1 0), getL, takeL, dropL, TK.isAgg, reduceIte])
  repeat' first | (with_reducible refine And.intro ?_ ?_) | intro c9 | (exfalso; exact absurd rfl c9) | trivial | (refine Later.mk ?_; cbv; try simp only [wp, (show ∀ n : Nat, _ = n from fun n => wf.2.2.2.2.2.2.2.2.2.2.2.2.2.1 (Int.ofNat n)), (show _ = (0 : Nat) from wf.2.2.2.2.2.2.2.2.2.2.2.2.2.1 0), getL, takeL, dropL, TK.isAgg, reduceIte])
  refine ht.call ?_
  rintro _ rfl
  (cbv; try simp only [wp, (show ∀ n : Nat, _ = n from fun n => wf.2.2.2.2.2.2.2.2.2.2.2.2.2.1 (Int.ofNat n)), (show _ = (0 : Nat) from wf.2.2.2.2.2.2.2.2.2.2.2.2.2.1 0), getL, takeL, dropL, TK.isAgg, reduceIte])
  repeat' first | (with_reducible refine And.intro ?_ ?_) | intro c9 | (exfalso; exact absurd rfl c9) | trivial | (refine Later.mk ?_; cbv; try simp only [wp, (show ∀ n : Nat, _ = n from fun n => wf.2.2.2.2.2.2.2.2.2.2.2.2.2.1 (Int.ofNat n)), (show _ = (0 : Nat) from wf.2.2.2.2.2.2.2.2.2.2.2.2.2.1 0), getL, takeL, dropL, TK.isAgg, reduceIte])
  all_goals exact hR _
/-- how great a filled term is -/
theorem nodesT_fl (len b : Nat) (hb : 1 ≤ b) (B : Nat → Tm) (hB : ∀ i, i < len → nodesT (B i) ≤ b) (t : Tm) : ∀ d, nodesT (mapT (fFl len B) t d) ≤ nodesT t * b := by
  refine Tm.walk (P := fun t => ∀ d, nodesT (mapT (fFl len B) t d) ≤ nodesT t * b) ?_ t
  intro op n s k C N W Q m ok K G _ _ ih d
  have hmul : ∀ f : Nat → Nat, ∀ m, sumF (fun i => f i * b) m = sumF f m * b := fun f m => by
    induction m with
    | zero => simp [sumF]
    | succ m h => simp only [sumF]; rw [h, Nat.add_mul]
  have hk : 1 + sumF (fun i => 1 + N i) k + sumF (fun i => nodesT (mapT (fFl len B) (K i) (d + bindI op m i))) m ≤ nodesT (.nd op n s k C N W Q m ok K) * b := by
    rw [nodesT_nd]
    have h1 := sumF_mono (f := fun i => nodesT (mapT (fFl len B) (K i) (d + bindI op m i))) (g := fun i => nodesT (K i) * b) (n := m) fun i hi => ih i hi _
    rw [hmul (fun i => nodesT (K i))] at h1
    have h2 : 1 + sumF (fun i => 1 + N i) k ≤ (1 + sumF (fun i => 1 + N i) k) * b := Nat.le_mul_of_pos_right _ hb
    rw [Nat.add_mul (1 + sumF (fun i => 1 + N i) k)]
    omega
  by_cases hv : IsV op n
  · by_cases h0 : n - d < 0
    · rw [fl_out len B d (fun _ => h0), nodesT_nd]; exact hk
    · by_cases h1 : n - d < len
      · rw [fl_in len B d hv (by omega) h1, nodesT_sh]
        have h2 := hB (n - d).toNat (by omega)
        have h3 := nodesT_pos (.nd op n s k C N W Q m ok K)
        exact Nat.le_trans h2 (Nat.le_mul_of_pos_left _ h3)
      · rw [mapT_nd, if_pos hv]
        unfold fFl
        rw [numT_nd, if_neg h0, if_neg h1, setN_nd, nodesT_nd]; exact hk
  · rw [fl_out len B d (fun h => absurd h hv), nodesT_nd]; exact hk
end Go.VM

namespace Go.VM
open Go.Proofs Go
set_option maxRecDepth 100000
set_option linter.unusedVariables false
set_option linter.unusedSimpArgs false
theorem ValidP_lst {c : Int} {n n' : Nat} {V P0 V' P' : Nat → Int} (h : lst V P0 n = lst V' P' n') (hv : ValidP c n V P0) : ValidP c n' V' P' := by
  have hl := congrArg List.length h
  rw [lst_length, lst_length] at hl
  subst hl
  obtain ⟨h1, h2, h3, h4⟩ := hv
  refine ⟨h1, h2, h3, fun i hi => ?_⟩
  have e := fun k (hk : k < n) => lst_inj h k hk
  obtain ⟨p1, p2, p3, p4, p5⟩ := h4 i hi
  obtain ⟨e1, e2⟩ := e i hi
  refine ⟨by omega, by omega, by omega, by omega, fun k hk => ?_⟩
  have := p5 k hk
  have := (e k (by omega)).1
  omega
theorem SameLv_refl (c : Int) (n : Nat) (V P0 : Nat → Int) : SameLv c n V P0 c n V P0 := by
  by_cases h : ValidP c n V P0
  · exact .inl ⟨h, h, LeqP_Q.2 (leqQ_refl _ _), LeqP_Q.2 (leqQ_refl _ _)⟩
  · exact .inr ⟨fun h' => h h'.1, rfl, rfl⟩
theorem SameLv.symm {c c' : Int} {n n' : Nat} {V P0 V' P' : Nat → Int} (h : SameLv c n V P0 c' n' V' P') : SameLv c' n' V' P' c n V P0 := by
  rcases h with ⟨h1, h2, h3, h4⟩ | ⟨h1, h2, h3⟩
  · exact .inl ⟨h2, h1, h4, h3⟩
  · exact .inr ⟨fun h => h1 ⟨h.2, h.1⟩, h2.symm, h3.symm⟩
theorem SameLv.trans {c c' c'' : Int} {n n' n'' : Nat} {V P0 V' P' V'' P'' : Nat → Int} (h : SameLv c n V P0 c' n' V' P') (h' : SameLv c' n' V' P' c'' n'' V'' P'') : SameLv c n V P0 c'' n'' V'' P'' := by
  rcases h with ⟨h1, h2, h3, h4⟩ | ⟨h1, rfl, h3⟩
  · rcases h' with ⟨_, g2, g3, g4⟩ | ⟨g1, rfl, g3⟩
    · exact .inl ⟨h1, g2, LeqP_Q.2 ((LeqP_Q.1 h3).trans (LeqP_Q.1 g3)), LeqP_Q.2 ((LeqP_Q.1 g4).trans (LeqP_Q.1 h4))⟩
    · exact absurd ⟨h2, ValidP_lst g3 h2⟩ g1
  · rcases h' with ⟨g1, g2, g3, g4⟩ | ⟨g1, rfl, g3⟩
    · exact absurd ⟨ValidP_lst h3.symm g1, g1⟩ h1
    · exact .inr ⟨fun h => g1 ⟨ValidP_lst h3 h.1, h.2⟩, rfl, h3.trans g3⟩
theorem CmpT_refl (Off : Int → Int → Nat → Prop) (t : Tm) : CmpT Off t t := by
  refine Tm.walk (P := fun t => CmpT Off t t) ?_ t
  intro op n s k C N W Q m ok K G _ _ ih
  rw [CmpT_nd]
  exact ⟨rfl, rfl, rfl, ⟨rfl, fun i hi => SameLv_refl _ _ _ _⟩, rfl, fun i hi => .inr (ih i hi)⟩
theorem Tm.two {P : Tm → Tm → Prop} (h : ∀ op n s k C N W Q m (ok : TmOk op n s k N m) (K : Nat → Tm), (∀ i, i < m → ∀ b, P (K i) b) → ∀ op' n' s' k' C' N' W' Q' m' (ok' : TmOk op' n' s' k' N' m') (K' : Nat → Tm), P (.nd op n s k C N W Q m ok K) (.nd op' n' s' k' C' N' W' Q' m' ok' K')) (a b : Tm) : P a b := by
  refine Tm.walk (P := fun a => ∀ b, P a b) ?_ a b
  intro op n s k C N W Q m ok K G _ _ ih b
  refine Tm.walk (P := fun b => P (.nd op n s k C N W Q m ok K) b) ?_ b
  intro op' n' s' k' C' N' W' Q' m' ok' K' G' _ _ _
  exact h op n s k C N W Q m ok K ih op' n' s' k' C' N' W' Q' m' ok' K'
theorem CmpT.symm (Off : Int → Int → Nat → Prop) (a b : Tm) : CmpT Off a b → CmpT Off b a := by
  refine Tm.two (P := fun a b => CmpT Off a b → CmpT Off b a) ?_ a b
  intro op n s k C N W Q m ok K ih op' n' s' k' C' N' W' Q' m' ok' K' h
  rw [CmpT_nd] at h ⊢
  obtain ⟨rfl, rfl, rfl, ⟨rfl, h4⟩, rfl, h6⟩ := h
  exact ⟨rfl, rfl, rfl, ⟨rfl, fun i hi => (h4 i hi).symm⟩, rfl, fun i hi => (h6 i hi).imp id (ih i hi _)⟩
theorem CmpT.trans (Off : Int → Int → Nat → Prop) (a b c : Tm) : CmpT Off a b → CmpT Off b c → CmpT Off a c := by
  refine Tm.two (P := fun a b => ∀ c, CmpT Off a b → CmpT Off b c → CmpT Off a c) ?_ a b c
  intro op n s k C N W Q m ok K ih op' n' s' k' C' N' W' Q' m' ok' K' c
  refine Tm.walk (P := fun c => CmpT Off (.nd op n s k C N W Q m ok K) (.nd op' n' s' k' C' N' W' Q' m' ok' K') → CmpT Off (.nd op' n' s' k' C' N' W' Q' m' ok' K') c → CmpT Off (.nd op n s k C N W Q m ok K) c) ?_ c
  intro op2 n2 s2 k2 C2 N2 W2 Q2 m2 ok2 K2 G2 _ _ _ h h'
  rw [CmpT_nd] at h h' ⊢
  obtain ⟨rfl, rfl, rfl, ⟨rfl, h4⟩, rfl, h6⟩ := h
  obtain ⟨rfl, rfl, rfl, ⟨rfl, g4⟩, rfl, g6⟩ := h'
  refine ⟨rfl, rfl, rfl, ⟨rfl, fun i hi => (h4 i hi).trans (g4 i hi)⟩, rfl, fun i hi => ?_⟩
  rcases h6 i hi with h | h
  · exact .inl h
  · rcases g6 i hi with g | g
    · exact .inl g
    · exact .inr (ih i hi _ _ h g)
theorem CmpT.off {Off Off' : Int → Int → Nat → Prop} (ho : ∀ op n i, Off op n i → Off' op n i) (a b : Tm) : CmpT Off a b → CmpT Off' a b := by
  refine Tm.two (P := fun a b => CmpT Off a b → CmpT Off' a b) ?_ a b
  intro op n s k C N W Q m ok K ih op' n' s' k' C' N' W' Q' m' ok' K' h
  rw [CmpT_nd] at h ⊢
  obtain ⟨h1, h2, h3, h4, h5, h6⟩ := h
  exact ⟨h1, h2, h3, h4, h5, fun i hi => (h6 i hi).imp (ho _ _ _) (ih i hi _)⟩
theorem PrfP_var (n n' : Int) (i : Nat) : PrfP 1 n i → PrfP 1 n' i := by
  unfold PrfP
  omega
theorem PrfP_sh {op n : Int} {i : Nat} (a frm d : Int) (h : PrfP op n i) : PrfP op (shN a frm op n d) i := by
  unfold shN
  split
  · rename_i hv
    rw [hv.1.1] at h ⊢
    exact PrfP_var _ _ _ h
  · exact h
theorem CmpT.sh (a frm : Int) (x y : Tm) : ∀ d, CmpT PrfP x y → CmpT PrfP (mapT (fSh a frm) x d) (mapT (fSh a frm) y d) := by
  refine Tm.two (P := fun x y => ∀ d, CmpT PrfP x y → CmpT PrfP (mapT (fSh a frm) x d) (mapT (fSh a frm) y d)) ?_ x y
  intro op n s k C N W Q m ok K ih op' n' s' k' C' N' W' Q' m' ok' K' d h
  rw [CmpT_nd] at h
  rw [sh_nd, sh_nd, CmpT_nd]
  obtain ⟨rfl, rfl, rfl, h4, rfl, h6⟩ := h
  exact ⟨rfl, rfl, rfl, h4, rfl, fun i hi => (h6 i hi).imp (PrfP_sh a frm d) (ih i hi _ _)⟩
theorem CmpT.fl (len : Nat) (B B' : Nat → Tm) (hB : ∀ i, i < len → CmpT PrfP (B i) (B' i)) (x y : Tm) : ∀ d, 0 ≤ d → CmpT PrfP x y → CmpT PrfP (mapT (fFl len B) x d) (mapT (fFl len B') y d) := by
  refine Tm.two (P := fun x y => ∀ d, 0 ≤ d → CmpT PrfP x y → CmpT PrfP (mapT (fFl len B) x d) (mapT (fFl len B') y d)) ?_ x y
  intro op n s k C N W Q m ok K ih op' n' s' k' C' N' W' Q' m' ok' K' d hd h
  have hbn := fun i => bindI_le op m i
  rw [CmpT_nd] at h
  obtain ⟨rfl, rfl, rfl, h4, rfl, h6⟩ := h
  by_cases hv : IsV op n
  · by_cases h0 : n - d < 0
    · rw [fl_out len B d (fun _ => h0), fl_out len B' d (fun _ => h0), CmpT_nd]
      exact ⟨rfl, rfl, rfl, h4, rfl, fun i hi => (h6 i hi).imp id (ih i hi _ _ (by have := hbn i; omega))⟩
    · by_cases h1 : n - d < len
      · rw [fl_in len B d hv (by omega) h1, fl_in len B' d hv (by omega) h1]
        exact CmpT.sh _ _ _ _ _ (hB _ (by omega))
      · have hok := ok.n
        have hv2 := hv.2
        rw [fl_over len B d hv (by omega) ⟨ok.op, by omega, ok.s, ok.k, ok.N, ok.m⟩, fl_over len B' d hv (by omega) ⟨ok'.op, by omega, ok'.s, ok'.k, ok'.N, ok'.m⟩, CmpT_nd]
        refine ⟨rfl, rfl, rfl, h4, rfl, fun i hi => (h6 i hi).imp (fun h => ?_) (ih i hi _ _ (by have := hbn i; omega))⟩
        rw [hv.1] at h ⊢
        exact PrfP_var _ _ _ h
  · rw [fl_out len B d (fun h => absurd h hv), fl_out len B' d (fun h => absurd h hv), CmpT_nd]
    exact ⟨rfl, rfl, rfl, h4, rfl, fun i hi => (h6 i hi).imp id (ih i hi _ _ (by have := hbn i; omega))⟩
theorem CmpT.put : ∀ p U c a b x y, putT p U c a = some x → putT p U c b = some y → CmpT PrfP a b → CmpT PrfP x y
  | 0, _, c, a, b, x, y, h, h', hc => by
    simp only [putT, Option.some.injEq] at h h'
    rw [← h, ← h']; exact hc
  | p + 1, U, c, a, b, x, y, h, h', hc => by
    simp only [putT] at h h'
    split at h
    · rename_i hu
      rw [if_pos hu] at h'
      obtain ⟨z, h1, rfl⟩ := Option.map_eq_some_iff.1 h
      obtain ⟨w, h2, rfl⟩ := Option.map_eq_some_iff.1 h'
      have ih := CmpT.put p _ _ a b z w h1 h2 hc
      cases c with | mk op n s k C N W Q m ok L =>
      unfold setK
      refine ⟨rfl, rfl, rfl, ⟨rfl, fun i hi => SameLv_refl _ _ _ _⟩, rfl, fun i hi => .inr ?_⟩
      by_cases e : (i.1 : Int) = U 0
      · show CmpT PrfP (if (i.1 : Int) = U 0 then z else L i) (if (i.1 : Int) = U 0 then w else L i)
        rw [if_pos e, if_pos e]
        exact ih
      · show CmpT PrfP (if (i.1 : Int) = U 0 then z else L i) (if (i.1 : Int) = U 0 then w else L i)
        rw [if_neg e, if_neg e]
        exact CmpT_refl _ _
    · cases h
end Go.VM

namespace Go.VM
open Go.Proofs Go
set_option maxRecDepth 100000
set_option linter.unusedVariables false
set_option linter.unusedSimpArgs false
set_option maxHeartbeats 4000000 in
theorem comparedB (Off : Int → Int → Nat → Prop) (hoff : ∀ op n s k C N W Q m G (i : Nat), m < 2 ^ 62 → i < m → VFun (P ()) 31 [tml op n s k C N W Q m G, .d (.int .i64 i)] (fun r => ∃ b : Bool, (b = true ↔ Off op n i) ∧ r = .d (.bool b))) (a : Tm) :
    Small a → ∀ b, Small b → VFun (P ()) 46 [tm a, tm b, .clo 31 [] []] (fun r => ∃ b' : Bool, (b' = true ↔ CmpT Off a b) ∧ r = .d (.bool b')) := by
  refine Tm.walk (P := fun a => Small a → ∀ b, Small b → VFun (P ()) 46 [tm a, tm b, .clo 31 [] []] (fun r => ∃ b' : Bool, (b' = true ↔ CmpT Off a b) ∧ r = .d (.bool b'))) ?_ a
  clear a
  intro op n s k C N W Q m ok K G hG e ih hl b
  refine Tm.walk (P := fun b => Small b → VFun (P ()) 46 [tm (.nd op n s k C N W Q m ok K), tm b, .clo 31 [] []] (fun r => ∃ b' : Bool, (b' = true ↔ CmpT Off (.nd op n s k C N W Q m ok K) b) ∧ r = .d (.bool b'))) ?_ b
  clear b
  intro op' n' s' k' C' N' W' Q' m' ok' K' G' hG' e' _ hl'
  obtain ⟨l2, l3, l4⟩ := hl.kid
  obtain ⟨l2', l3', l4'⟩ := hl'.kid
  rw [e, e', CmpT_nd]
  clear e e' hl hl'
  refine VCalls.pureC (R1 := fun r H => ∃ b' : Bool, (b' = true ↔ op = op' ∧ n = n' ∧ s = s' ∧ SameLs k k' C C' N N' W Q W' Q' ∧ m = m' ∧ ∀ i, i < m → Off op n i ∨ CmpT Off (K i) (K' i)) ∧ r = .d (.bool b')) ?_ rfl rfl fun r H h => by
    obtain ⟨x, h1, rfl⟩ := h
    exact ⟨_, .keep _ (.d _), x, h1, rfl⟩
  have hls : VFun (P ()) 77 [.d (.sl k 2 (lsF C N W Q)), .d (.sl k' 2 (lsF C' N' W' Q')), .clo 78 [] []] (fun r => ∃ b : Bool, (b = true ↔ SameLs k k' C C' N N' W Q W' Q') ∧ r = .d (.bool b)) :=
    (eqFunc k k' C C' N N' W Q W' Q' (by omega) (by omega) (fun i hi => by have := l3 i hi; omega) (fun i hi => by have := l3' i hi; omega)).pureC rfl rfl fun r H h => by
      obtain ⟨x, h1, rfl⟩ := h
      exact ⟨_, .keep _ (.d _), x, h1, rfl⟩
  refine VCalls_of_Wl (Tf := fun {_} _ => fzT [3, 4] (T ())) (fun {_} => tabOk.frz [3, 4]) [(6, upF 0 20)] 400 Tryd.func46 rfl (fun {_} => by kernel_rfl) (Nat.le_of_ble_eq_true rfl) @fun ⟨_, _, _, _, _, _, _, _, _, _, _, _, _, _, _, _, _, _, _, _, _, _, _, _, _, _, _, _, _, _, _, _, _, _, _, _, _, _, wp, wf⟩ nH R hnH hR => ?_
  subst hnH
  cbv
  try simp only [wp, (show ∀ n : Nat, _ = n from fun n => wf.2.2.2.2.2.2.2.2.2.2.2.2.2.1 (Int.ofNat n)), getL, takeL, dropL, TK.isAgg, reduceIte]
  replace hR := fun b H h => hR (.d (.bool b)) H ⟨b, h, rfl⟩
  repeat' first | (with_reducible refine And.intro ?_ ?_) | intro c9 | (refine Later.mk ?_; cbv; try simp only [wp, (show ∀ n : Nat, _ = n from fun n => wf.2.2.2.2.2.2.2.2.2.2.2.2.2.1 (Int.ofNat n)), (show _ = (0 : Nat) from wf.2.2.2.2.2.2.2.2.2.2.2.2.2.1 0), getL, takeL, dropL, TK.isAgg, reduceIte])
  · exact hR false _ (iffF fun h => by
      have h1 := h.1
      first | exact absurd h1 (by assumption) | exact absurd h1 (by (try simp only [wf, nc, nc', Int.toNat_natCast, bsz, ByteArray.size_append, List.length_cons, List.length_nil] at *); (try simp (disch := omega) only [w64, w32, wu8] at *); first | done | omega))
  · exact hR false _ (iffF fun h => by
      have h1 := h.2.1
      first | exact absurd h1 (by assumption) | exact absurd h1 (by (try simp only [wf, nc, nc', Int.toNat_natCast, bsz, ByteArray.size_append, List.length_cons, List.length_nil] at *); (try simp (disch := omega) only [w64, w32, wu8] at *); first | done | omega))
  · exact hR false _ (iffF fun h => absurd h.2.2.1 (by assumption))
  · exact hR false _ (iffF fun h => by
      have h1 := h.2.2.2.2.1
      exact absurd h1 (by (try simp only [wf, nc, nc', Int.toNat_natCast, bsz, ByteArray.size_append, List.length_cons, List.length_nil] at *); (try simp (disch := omega) only [w64, w32, wu8] at *); first | done | omega))
  · obtain rfl : op = op' := by assumption
    obtain rfl : n = n' := by assumption
    obtain rfl : s = s' := by assumption
    obtain rfl : m = m' := (by (try simp only [wf, nc, nc', Int.toNat_natCast, bsz, ByteArray.size_append, List.length_cons, List.length_nil] at *); (try simp (disch := omega) only [w64, w32, wu8] at *); first | done | omega)
    refine hls.call ?_
    rintro _ ⟨b, hb, rfl⟩
    rcases hb.dich with ⟨rfl, v⟩ | ⟨rfl, v⟩ <;> clear hb <;> (cbv; try simp only [wp, (show ∀ n : Nat, _ = n from fun n => wf.2.2.2.2.2.2.2.2.2.2.2.2.2.1 (Int.ofNat n)), (show _ = (0 : Nat) from wf.2.2.2.2.2.2.2.2.2.2.2.2.2.1 0), getL, takeL, dropL, TK.isAgg, reduceIte])
    · repeat' first | (with_reducible refine And.intro ?_ ?_) | intro c9 | (refine Later.mk ?_; cbv; try simp only [wp, (show ∀ n : Nat, _ = n from fun n => wf.2.2.2.2.2.2.2.2.2.2.2.2.2.1 (Int.ofNat n)), (show _ = (0 : Nat) from wf.2.2.2.2.2.2.2.2.2.2.2.2.2.1 0), getL, takeL, dropL, TK.isAgg, reduceIte])
      refine loopL (Tf := fun {_} _ => fzT [3, 4] (T ())) (fun {_} => tabOk.frz [3, 4]) [(6, upF 0 20)] 400 (fun i : Nat => ⟨[.undef, .undef, .clo 31 [] [], .iptr (fun x j => getL [.int .i64 op, .int .i64 n, .str s, .sl k 2 (lsF C N W Q), .sl m 5 G] j .nilp) 0 0 5, .iptr (fun x j => getL [.int .i64 op, .int .i64 n, .str s, .sl k' 2 (lsF C' N' W' Q'), .sl m 5 G'] j .nilp) 0 0 5, .undef, .d (.bool false), .undef, .undef, .undef, .undef, .undef, .undef, .undef, .undef, .undef, .undef, .undef, .undef, .undef, .undef, .undef, .undef, .undef, .undef, .undef, .undef, .undef, .undef, .undef, .undef, .undef, .undef, .undef, .undef, .undef, .undef, .undef, .undef, .undef, .undef, .undef, .undef, .undef, .undef, .undef, .d (.int .i64 m), .d (.int .i64 i), .undef, .undef, .undef, .undef, .undef, .undef, .undef, .undef, .undef, .undef, .undef, .undef, .undef, .undef, .undef, .undef, .undef, .undef, .undef, .undef, .undef, .undef, .undef], []⟩) (fun i => m - i) (fun i => i ≤ m ∧ ∀ j, j < i → Off op n j ∨ CmpT Off (K j) (K' j)) 0 ⟨Nat.zero_le _, fun j hj => absurd hj (Nat.not_lt_zero _)⟩ (fun {_} => by kernel_rfl) ?_ (fun i => by kernel_rfl) @fun ⟨_, _, _, _, _, _, _, _, _, _, _, _, _, _, _, _, _, _, _, _, _, _, _, _, _, _, _, _, _, _, _, _, _, _, _, _, _, _, wpa, wfa⟩ i Bk hi hBk => ?_
      · ((cbv; try simp only [wf, exD, exL, exT, exB, exA, leLs, leL_d, leL_undef, leL_nils, leA_nils, deq_refl, deq_int, deq_bool, deq_str, and_true, true_and, AObj.iter.injEq, nc, nc']; try simp (disch := omega) only [w64, w32, wu8]); first | done | rfl | omega | (simp; done) | (simp; omega) | skip)
      obtain ⟨i1, i2⟩ := hi
      (cbv; try simp only [wp, (show ∀ n : Nat, _ = n from fun n => wf.2.2.2.2.2.2.2.2.2.2.2.2.2.1 (Int.ofNat n)), (show _ = (0 : Nat) from wf.2.2.2.2.2.2.2.2.2.2.2.2.2.1 0), wpa, (show ∀ n : Nat, _ = n from fun n => wfa.2.2.2.2.2.2.2.2.2.2.2.2.2.1 (Int.ofNat n)), (show _ = (0 : Nat) from wfa.2.2.2.2.2.2.2.2.2.2.2.2.2.1 0), getL, takeL, dropL, TK.isAgg, reduceIte])
      refine ⟨fun e1 => ?_, fun e1 => ?_⟩
      · have e1 : i < m := (by (try simp only [wf, wfa, nc, nc', Int.toNat_natCast, bsz, ByteArray.size_append, List.length_cons, List.length_nil] at *); (try simp (disch := omega) only [w64, w32, wu8] at *); first | done | omega)
        have ho := hoff op n s k C N W Q m G i (by omega) e1
        have ihi := ih i e1 (l4 i e1) (K' i) (l4' i e1)
        rw [hG i e1, hG' i e1] at ihi
        have step : Off op n i ∨ CmpT Off (K i) (K' i) → ∀ j, j < i + 1 → Off op n j ∨ CmpT Off (K j) (K' j) := fun v j hj => by
          by_cases ej : j = i
          · subst ej; exact v
          · exact i2 j (by omega)
        repeat' first | (with_reducible refine And.intro ?_ ?_) | intro c9 | (refine Later.mk ?_; cbv; try simp only [wp, (show ∀ n : Nat, _ = n from fun n => wf.2.2.2.2.2.2.2.2.2.2.2.2.2.1 (Int.ofNat n)), (show _ = (0 : Nat) from wf.2.2.2.2.2.2.2.2.2.2.2.2.2.1 0), wpa, (show ∀ n : Nat, _ = n from fun n => wfa.2.2.2.2.2.2.2.2.2.2.2.2.2.1 (Int.ofNat n)), (show _ = (0 : Nat) from wfa.2.2.2.2.2.2.2.2.2.2.2.2.2.1 0), getL, takeL, dropL, TK.isAgg, reduceIte])
        all_goals first | exact (by (try simp only [wf, wfa, nc, nc', Int.toNat_natCast, bsz, ByteArray.size_append, List.length_cons, List.length_nil] at *); (try simp (disch := omega) only [w64, w32, wu8] at *); first | done | omega) | skip
        refine ho.call ?_
        rintro _ ⟨b, hb, rfl⟩
        rcases hb.dich with ⟨rfl, u⟩ | ⟨rfl, u⟩ <;> clear hb <;> (cbv; try simp only [wp, (show ∀ n : Nat, _ = n from fun n => wf.2.2.2.2.2.2.2.2.2.2.2.2.2.1 (Int.ofNat n)), (show _ = (0 : Nat) from wf.2.2.2.2.2.2.2.2.2.2.2.2.2.1 0), wpa, (show ∀ n : Nat, _ = n from fun n => wfa.2.2.2.2.2.2.2.2.2.2.2.2.2.1 (Int.ofNat n)), (show _ = (0 : Nat) from wfa.2.2.2.2.2.2.2.2.2.2.2.2.2.1 0), getL, takeL, dropL, TK.isAgg, reduceIte])
        · repeat' first | (with_reducible refine And.intro ?_ ?_) | intro c9 | (refine Later.mk ?_; cbv; try simp only [wp, (show ∀ n : Nat, _ = n from fun n => wf.2.2.2.2.2.2.2.2.2.2.2.2.2.1 (Int.ofNat n)), (show _ = (0 : Nat) from wf.2.2.2.2.2.2.2.2.2.2.2.2.2.1 0), wpa, (show ∀ n : Nat, _ = n from fun n => wfa.2.2.2.2.2.2.2.2.2.2.2.2.2.1 (Int.ofNat n)), (show _ = (0 : Nat) from wfa.2.2.2.2.2.2.2.2.2.2.2.2.2.1 0), getL, takeL, dropL, TK.isAgg, reduceIte])
          refine hBk (i + 1) _ (by omega) ⟨by omega, step (.inl u)⟩ ?_
          ((cbv; try simp only [wf, wfa, exD, exL, exT, exB, exA, leLs, leL_d, leL_undef, leL_nils, leA_nils, deq_refl, deq_int, deq_bool, deq_str, and_true, true_and, AObj.iter.injEq, nc, nc']; try simp (disch := omega) only [w64, w32, wu8]); first | done | rfl | omega | (simp; done) | (simp; omega) | skip)
        · repeat' first | (with_reducible refine And.intro ?_ ?_) | intro c9 | (refine Later.mk ?_; cbv; try simp only [wp, (show ∀ n : Nat, _ = n from fun n => wf.2.2.2.2.2.2.2.2.2.2.2.2.2.1 (Int.ofNat n)), (show _ = (0 : Nat) from wf.2.2.2.2.2.2.2.2.2.2.2.2.2.1 0), wpa, (show ∀ n : Nat, _ = n from fun n => wfa.2.2.2.2.2.2.2.2.2.2.2.2.2.1 (Int.ofNat n)), (show _ = (0 : Nat) from wfa.2.2.2.2.2.2.2.2.2.2.2.2.2.1 0), getL, takeL, dropL, TK.isAgg, reduceIte])
          all_goals first | exact (by (try simp only [wf, wfa, nc, nc', Int.toNat_natCast, bsz, ByteArray.size_append, List.length_cons, List.length_nil] at *); (try simp (disch := omega) only [w64, w32, wu8] at *); first | done | omega) | skip
          refine ihi.call ?_
          rintro _ ⟨b, hb, rfl⟩
          rcases hb.dich with ⟨rfl, z⟩ | ⟨rfl, z⟩ <;> clear hb <;> (cbv; try simp only [wp, (show ∀ n : Nat, _ = n from fun n => wf.2.2.2.2.2.2.2.2.2.2.2.2.2.1 (Int.ofNat n)), (show _ = (0 : Nat) from wf.2.2.2.2.2.2.2.2.2.2.2.2.2.1 0), wpa, (show ∀ n : Nat, _ = n from fun n => wfa.2.2.2.2.2.2.2.2.2.2.2.2.2.1 (Int.ofNat n)), (show _ = (0 : Nat) from wfa.2.2.2.2.2.2.2.2.2.2.2.2.2.1 0), getL, takeL, dropL, TK.isAgg, reduceIte])
          · repeat' first | (with_reducible refine And.intro ?_ ?_) | intro c9 | (refine Later.mk ?_; cbv; try simp only [wp, (show ∀ n : Nat, _ = n from fun n => wf.2.2.2.2.2.2.2.2.2.2.2.2.2.1 (Int.ofNat n)), (show _ = (0 : Nat) from wf.2.2.2.2.2.2.2.2.2.2.2.2.2.1 0), wpa, (show ∀ n : Nat, _ = n from fun n => wfa.2.2.2.2.2.2.2.2.2.2.2.2.2.1 (Int.ofNat n)), (show _ = (0 : Nat) from wfa.2.2.2.2.2.2.2.2.2.2.2.2.2.1 0), getL, takeL, dropL, TK.isAgg, reduceIte])
            refine hBk (i + 1) _ (by omega) ⟨by omega, step (.inr z)⟩ ?_
            ((cbv; try simp only [wf, wfa, exD, exL, exT, exB, exA, leLs, leL_d, leL_undef, leL_nils, leA_nils, deq_refl, deq_int, deq_bool, deq_str, and_true, true_and, AObj.iter.injEq, nc, nc']; try simp (disch := omega) only [w64, w32, wu8]); first | done | rfl | omega | (simp; done) | (simp; omega) | skip)
          · repeat' first | (with_reducible refine And.intro ?_ ?_) | intro c9 | (refine Later.mk ?_; cbv; try simp only [wp, (show ∀ n : Nat, _ = n from fun n => wf.2.2.2.2.2.2.2.2.2.2.2.2.2.1 (Int.ofNat n)), (show _ = (0 : Nat) from wf.2.2.2.2.2.2.2.2.2.2.2.2.2.1 0), wpa, (show ∀ n : Nat, _ = n from fun n => wfa.2.2.2.2.2.2.2.2.2.2.2.2.2.1 (Int.ofNat n)), (show _ = (0 : Nat) from wfa.2.2.2.2.2.2.2.2.2.2.2.2.2.1 0), getL, takeL, dropL, TK.isAgg, reduceIte])
            exact hR false _ (iffF fun h => (h.2.2.2.2.2 i e1).elim u z)
      · obtain rfl : i = m := (by (try simp only [wf, wfa, nc, nc', Int.toNat_natCast, bsz, ByteArray.size_append, List.length_cons, List.length_nil] at *); (try simp (disch := omega) only [w64, w32, wu8] at *); first | done | omega)
        (refine Later.mk ?_; cbv; try simp only [wp, (show ∀ n : Nat, _ = n from fun n => wf.2.2.2.2.2.2.2.2.2.2.2.2.2.1 (Int.ofNat n)), (show _ = (0 : Nat) from wf.2.2.2.2.2.2.2.2.2.2.2.2.2.1 0), wpa, (show ∀ n : Nat, _ = n from fun n => wfa.2.2.2.2.2.2.2.2.2.2.2.2.2.1 (Int.ofNat n)), (show _ = (0 : Nat) from wfa.2.2.2.2.2.2.2.2.2.2.2.2.2.1 0), getL, takeL, dropL, TK.isAgg, reduceIte])
        exact hR true _ (iffT ⟨rfl, rfl, rfl, v, rfl, i2⟩)
    · repeat' first | (with_reducible refine And.intro ?_ ?_) | intro c9 | (refine Later.mk ?_; cbv; try simp only [wp, (show ∀ n : Nat, _ = n from fun n => wf.2.2.2.2.2.2.2.2.2.2.2.2.2.1 (Int.ofNat n)), (show _ = (0 : Nat) from wf.2.2.2.2.2.2.2.2.2.2.2.2.2.1 0), getL, takeL, dropL, TK.isAgg, reduceIte])
      exact hR false _ (iffF fun h => v h.2.2.2.1)
theorem AlikeB (a b : Tm) (ha : Small a) (hb : Small b) : VFun (P ()) 22 [tm a, tm b] (fun r => ∃ x : Bool, (x = true ↔ CmpT PrfP a b) ∧ r = .d (.bool x)) := by
  have h := comparedB PrfP (fun op n s k C N W Q m G i h1 h2 => isProofT op n s k C N W Q m G i h1 h2) a ha b hb
  unfold tm at h ⊢
  obtain ⟨f, hf⟩ : ∃ f, f = tmD a := ⟨_, rfl⟩
  obtain ⟨g, hg⟩ : ∃ g, g = tmD b := ⟨_, rfl⟩
  rw [← hf, ← hg] at h ⊢
  refine vfunO (Tf := fun {_} _ => fzT [2, 3] (T ())) (fun {_} => tabOk.frz [2, 3]) [] 400 Tryd.func22 rfl (fun {_} => by kernel_rfl) rfl (Nat.le_of_ble_eq_true rfl) @fun ⟨_, _, _, _, _, _, _, _, _, _, _, _, _, _, _, _, _, _, _, _, _, _, _, _, _, _, _, _, _, _, _, _, _, _, _, _, _, _, wp, wf⟩ R hR => ?_
  cbv
  try simp only [wp, (show ∀ n : Nat, _ = n from fun n => wf.2.2.2.2.2.2.2.2.2.2.2.2.2.1 (Int.ofNat n)), getL, takeL, dropL, TK.isAgg, reduceIte]
  refine h.call ?_
  rintro _ ⟨x, hx, rfl⟩
  (cbv; try simp only [wp, (show ∀ n : Nat, _ = n from fun n => wf.2.2.2.2.2.2.2.2.2.2.2.2.2.1 (Int.ofNat n)), (show _ = (0 : Nat) from wf.2.2.2.2.2.2.2.2.2.2.2.2.2.1 0), getL, takeL, dropL, TK.isAgg, reduceIte])
  exact hR _ _ _ (.d _) ⟨x, hx, rfl⟩
end Go.VM

/- Evaluation that stops at regions that are named: what comes behind is shown once for all states that know as much. -/
set_option linter.unusedSimpArgs false
set_option linter.unusedVariables false
set_option linter.unusedSectionVars false
namespace Go.VM
open Ops
section
variable [Glb]
inductive CutVW (P : Unit → Program) (n : Nat) (c : Code) (Q : Ex → St → Prop) (σ : St) : Prop
  | mk (h : ∀ lim : Lim, @VW _ lim (P ()) n c Q σ)
theorem CutVW.less {P : Unit → Program} {n : Nat} {c : Code} {Q : Ex → St → Prop} {σ σ' : St} (h : CutVW P n c Q σ') (hle : ∀ [Ops] [Lim], leS n σ' σ) (hb : belS σ' = true) : CutVW P n c Q σ := by
  refine Ops.exists_one.elim fun inst => ⟨fun lim => ?_⟩
  obtain ⟨h⟩ := h
  exact VW_less hle (belS_ok hb) (h lim)
end
section
variable [Ops] [Glb]
def Wc (P : Unit → Program) (T : Unit → Tab) (n : Nat) (cuts : List Nat) (ord : List (Nat × List Nat)) (Q : Ex → St → Prop) : Nat → Code → List Fr → St → Prop
  | 0, _, _, _ => False
  | f + 1, c, K, σ => match c with
    | .skip => popK (Wc P T n cuts ord Q f) Q K .normal σ
    | .region id ops draw => match hasN cuts id with
      | true => CutVW P n (.region id ops draw) (popK (Wc P T n cuts ord Q f) Q K) σ
      | false => match draw with
        | false => wops P T ops.toList ops.toList σ (lateK (gdL ops.toList) (popK (Wc P T n cuts ord Q f) Q K .normal))
        | true => match lookN ord id with
          | some l => wsched P T ops.toList l σ (lateK (gdL ops.toList) (popK (Wc P T n cuts ord Q f) Q K .normal))
          | none => wdraw P T ops.toList (lenL ops.toList) (noneL ops.toList) σ (lateK (gdL ops.toList) (popK (Wc P T n cuts ord Q f) Q K .normal))
    | .seq a b => Wc P T n cuts ord Q f a (.seq b :: K) σ
    | .cond c a b => match ev σ.tm c with
      | .d (.bool t) => Later (fun _ => match t with
        | true => Wc P T n cuts ord Q f a K σ
        | false => Wc P T n cuts ord Q f b K σ)
      | _ => False
    | .block id b => Wc P T n cuts ord Q f b (.block id :: K) σ
    | .loop b => LoopVW P n b (popK (Wc P T n cuts ord Q f) Q K) σ
    | .exit id => popK (Wc P T n cuts ord Q f) Q K (.exit id) σ
    | .ret => popK (Wc P T n cuts ord Q f) Q K .ret σ
    | _ => False
variable {P : Program} {T : Tab} {Pf : Unit → Program} {Tf : Unit → Tab} {n : Nat} {ord : List (Nat × List Nat)} [Lim]
theorem Wc_ok (cuts : List Nat) (hT : TabOk (Pf ()) (Tf ())) (Q : Ex → St → Prop) : ∀ (f : Nat) (c : Code) (K : List Fr) (σ : St), ordC (Tf ()) ord c = true → (∀ b, Fr.seq b ∈ K → ordC (Tf ()) ord b = true) → Wc Pf Tf n cuts ord Q f c K σ → VW (Pf ()) n c (kQ (Pf ()) n Q K) σ
  | 0, c, K, σ, _, _, h => h.elim
  | f + 1, c, K, σ, hc, hK, h => by
    have ih := Wc_ok cuts hT Q f
    have pop := fun e s => popK_ok2 (hok := fun b => ordC (Tf ()) ord b = true) ih K e s hK
    cases c with
    | skip => exact VW_skip (pop _ _ h)
    | region id ops draw =>
      simp only [Wc, lateK_eq] at h
      cases hcut : hasN cuts id with
      | true =>
        rw [hcut] at h
        obtain ⟨h⟩ := h
        exact (h inferInstance).mono fun e s => pop e s
      | false =>
      rw [hcut] at h
      cases draw with
      | false =>
        have h2 : W Pf Tf n (.region id ops false) (popK (Wc Pf Tf n cuts ord Q f) Q K) σ := h
        exact (W_ok hT _ _ _ h2).mono fun e s => pop e s
      | true =>
        simp only at h
        simp only [ordC] at hc
        cases hl : lookN ord id with
        | none =>
          rw [hl] at h
          have h2 : W Pf Tf n (.region id ops true) (popK (Wc Pf Tf n cuts ord Q f) Q K) σ := h
          exact (W_ok hT _ _ _ h2).mono fun e s => pop e s
        | some l =>
          rw [hl] at h hc
          simp only [Bool.and_eq_true, Nat.beq_eq] at hc
          have h1 := wany_of_sched hT.mono l (noneL ops.toList) σ hc.2 h
          rw [hc.1] at h1
          intro E ι I a w hn hi
          refine wp_region_any hT.mixed ?_
          have := wany_ok hT (E := E) (ops := ops) (Q := Post E (kQ (Pf ()) n Q K)) (K := popK (Wc Pf Tf n cuts ord Q f) Q K .normal) (fun ι I a w σ h1 h2 => ⟨.normal, σ, ι, I, .normal, pop _ _ h1, h2⟩) _ _ (hi.drawn (w.drawn + 1)) h1
          rw [noneL_eq] at this
          simpa using this
    | seq a b =>
      simp only [ordC, Bool.and_eq_true] at hc
      exact VW_seq (ih a _ σ hc.1 (fun x hx => by
        rcases List.mem_cons.1 hx with e | hx
        · cases e; exact hc.2
        · exact hK x hx) h)
    | cond c a b =>
      simp only [ordC, Bool.and_eq_true] at hc
      simp only [Wc] at h
      split at h
      · rename_i t ht
        obtain ⟨h⟩ := h
        cases t with
        | true => exact VW_cond ht (fun e => ih a _ σ hc.1 hK h) (fun e => by cases e)
        | false => exact VW_cond ht (fun e => by cases e) (fun e => ih b _ σ hc.2 hK h)
      · exact h.elim
    | block id b => exact VW_block (ih b _ σ hc (fun x hx => by
        rcases List.mem_cons.1 hx with e | hx
        · cases e
        · exact hK x hx) h)
    | loop b =>
      have h : LoopVW Pf n b (popK (Wc Pf Tf n cuts ord Q f) Q K) σ := h
      rw [LoopVW_eq] at h
      exact (h inferInstance).mono fun e s => pop e s
    | exit id => exact VW_exit (pop _ _ h)
    | ret => exact VW_ret (pop _ _ h)
    | rangeFunc => exact h.elim
    | scope => exact h.elim
    | label => exact h.elim
    | goto => exact h.elim
    | refuse => exact h.elim
end
section
variable [Glb] {Pf : Unit → Program} {n : Nat}
theorem VCalls_of_Wc (cuts : List Nat) {Tf : ∀ [Ops], Unit → Tab} (hT : ∀ [Ops], TabOk (Pf ()) (Tf ())) (ord : List (Nat × List Nat)) (f : Nat) {K : FuncId} {fn : Func} (hf : (Pf ()).funcs[K]? = some fn) (hb : fn.body.isSome = true) (ho : ∀ [Ops], ordC (Tf ()) ord (bodyOf fn) = true) {args : List A} {H : AHeap} {R : A → AHeap → Prop} (hl : lenL args ≤ fn.ntmps)
    (h : ∀ [Ops] (n : Nat) (R' : A → AHeap → Prop), H.length = n → (∀ r H', R r H' → R' r H') → Wc Pf Tf n cuts ord (retQ Tf fn.results.toList R') f (bodyOf fn) [] ⟨slots args fn.ntmps, H⟩) : VCalls (Pf ()) K args H R :=
  Ops.exists_one.elim fun inst => VCalls_of_VW (Tf := Tf) hT hf hb hl fun {_} => Wc_ok cuts hT _ f _ [] _ ho (fun b hb => absurd hb (by simp)) (h _ R rfl fun _ _ h => h)
theorem vfunC (cuts : List Nat) {Tf : ∀ [Ops], Unit → Tab} (hT : ∀ [Ops], TabOk (Pf ()) (Tf ())) (ord : List (Nat × List Nat)) (f : Nat) {K : FuncId} {fn : Func} (hf : (Pf ()).funcs[K]? = some fn) (hb : fn.body.isSome = true) (ho : ∀ [Ops], ordC (Tf ()) ord (bodyOf fn) = true) {args : List A} (ha : pureL args = true) {S : A → Prop} (hl : lenL args ≤ fn.ntmps)
    (h : ∀ [Ops] (R : A → AHeap → Prop), (∀ r H y, Frz H r y → S y → R r H) → Wc Pf Tf 0 cuts ord (retQ Tf fn.results.toList R) f (bodyOf fn) [] ⟨slots args fn.ntmps, []⟩) : VFun (Pf ()) K args S :=
  fun H => VCalls.pure ha (VCalls_of_Wc cuts (R := fun r H => ∃ y, Frz H r y ∧ S y) hT ord f hf hb ho hl fun {_} n R hn hR => by
    cases hn
    exact h R fun r H y h1 h2 => hR r H ⟨y, h1, h2⟩) (fun r H h => h) H
/-- what comes behind the cut -/
theorem cutGo {Tf : ∀ [Ops], Unit → Tab} (hT : ∀ [Ops], TabOk (Pf ()) (Tf ())) (ord : List (Nat × List Nat)) (f : Nat) {c : Code} {Q : Ex → St → Prop} {σ : St} (ho : ∀ [Ops], ordC (Tf ()) ord c = true) (h : ∀ [Ops], Wl Pf Tf n ord Q f c [] σ) : CutVW Pf n c Q σ := by
  refine Ops.exists_one.elim fun inst => ⟨fun lim => ?_⟩
  have h1 : Wl Pf Tf n ord Q f c [] σ := h
  rw [Wl_eq] at h1
  exact Wo_ok (Tf := Tf) hT _ f _ [] _ ho (fun b hb => absurd hb (by simp)) h1
theorem bothI {X G M : Prop} (h : (X → G) → M) (g : X → G) : M := h g
end
end Go.VM
