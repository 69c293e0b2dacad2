/- Part of the proof: X29. -/
import Derived.Test.YtcpdnjehmnbheaaDoorX28
namespace Go.VM
open Go.Proofs Go
set_option maxRecDepth 100000
set_option linter.unusedVariables false
set_option linter.unusedSimpArgs false

theorem vfun_calls3 {Q : Program} {K : FuncId} {s t : ByteArray} {k' : IntKind} {r : Int} (h : ∀ w, Calls Q K #[.string s, .string t] w fun e w' => e = .returned (.int k' r) ∧ w' = w) : VFun Q K [.d (.str s), .d (.str t)] (fun x => x = .d (.int k' r)) := by
  intro H lim B ι I w vs hrel hargs
  obtain ⟨hl, hk⟩ := hargs
  match vs, hl with
  | [a, b], _ =>
    have h0 := hk 0 (by simp)
    have h1 := hk 1 (by simp)
    simp only [List.getD_cons_zero, List.getD_cons_succ] at h0 h1
    cases h0 with | d _ _ h0 =>
    cases h1 with | d _ _ h1 =>
    cases h0
    cases h1
    refine (h w).mono ?_
    rintro e w' ⟨rfl, rfl⟩
    exact ⟨_, _, H, ι, I, rfl, ⟨rfl, rfl⟩, hrel, .d _ _ (.int _ _), ⟨.refl _ _, fun _ _ _ => rfl, fun _ _ h => h, Nat.le_refl _, fun _ _ h => h⟩⟩

set_option maxHeartbeats 1000000 in
theorem calls34 (s : ByteArray) (w : World) :
    Calls Tryd.prog 34 #[.string s, .string ⟨#[10]⟩] w fun e w' => e = .returned (.int .i64 (Lib.countByte s.data.toList 10)) ∧ w' = w := by
  go_enter Tryd.func34, Tryd.ntmps34
  go_wp2
  rw [run_callFunc_extern Tryd.func49 (by kernel_rfl) (by kernel_rfl) (by kernel_rfl) (e := Extern.BytealgCount.count) (by kernel_rfl), Lib.run_countString]
  simp only [Result.andThen]
  rw [Oper.upon_value]
  go_wp2
  go_ret
  exact ⟨rfl, rfl⟩

theorem count_law (s : ByteArray) (c : UInt8) : ∀ k, k ≤ s.size → (((s.data.toList.take k).count c : Nat) : Int) = countN s c.toNat k
  | 0, _ => by simp [countN]
  | k + 1, hk => by
    have hd : k < s.data.toList.length := by
      have : s.data.toList.length = s.size := by simp
      omega
    rw [List.take_add_one, List.getElem?_eq_getElem hd, List.count_append, countN, ← count_law s c k (by omega), btF_get s k (by omega)]
    have e : s.data.toList[k]'hd = s[k]'(by omega) := by simp [ByteArray.getElem_eq_getElem_data]
    rw [e]
    by_cases h : s[k]'(by omega) = c
    · simp [h]
    · have : ¬ ((s[k]'(by omega)).toNat : Int) = c.toNat := fun h2 => h (UInt8.toNat_inj.1 (by omega))
      simp [h, this]
theorem f34 (s : ByteArray) : VFun (P ()) 34 [.d (.str s), .d (.str ⟨#[10]⟩)] (fun r => ∃ x, x = countN s 10 s.size ∧ r = .d (.int .i64 x)) := by
  refine (vfun_calls3 (calls34 s)).mono ?_
  rintro _ rfl
  have := count_law s 10 s.size (Nat.le_refl _)
  rw [List.take_of_length_le (by simp)] at this
  exact ⟨_, this, rfl⟩
theorem countN_pre (s : ByteArray) (c : Int) (k : Nat) (hk : k ≤ s.size) : ∀ j, j ≤ k → countN (s.extract 0 k) c j = countN s c j ∧ lastN (s.extract 0 k) c j = lastN s c j
  | 0, _ => ⟨rfl, rfl⟩
  | j + 1, hj => by
    obtain ⟨h1, h2⟩ := countN_pre s c k hk j (by omega)
    have := ext_bt2 s 0 k j hk (by omega)
    rw [Nat.zero_add] at this
    simp only [countN, lastN, h1, h2, this]
    exact ⟨trivial, trivial⟩
theorem f19 (s : ByteArray) (i : Int) (hs : s.size < 2 ^ 40) : VFun (P ()) 19 [.d (.str s), .d (.int .i64 i)] (fun r => ∃ a b c : Int, (a, b, c) = (if i < 0 ∨ s.size < i then (0, 0, 1) else ((posR s i.toNat).1, (posR s i.toNat).2, 0)) ∧ r = .tup [.d (.int .i64 a), .d (.int .i64 b), .d (.int .i64 c)]) := by
  refine vfunO (Tf := @T) @tabOk [] 400 Tryd.func19 rfl (fun {_} => by kernel_rfl) rfl (Nat.le_of_ble_eq_true rfl) @fun ⟨_, _, _, _, _, _, _, _, _, _, _, _, _, _, _, _, _, _, _, _, _, _, _, _, _, _, _, _, _, _, _, _, _, _, _, _, _, _, wp, wf⟩ R hR => ?_
  cbv
  try simp only [wp, getL, takeL, dropL, TK.isAgg, reduceIte]
  replace hR := fun a b c H h => hR _ H _ (.tup3 (.d (.int .i64 a)) (.d (.int .i64 b)) (.d (.int .i64 c))) ⟨a, b, c, h, rfl⟩
  refine ⟨fun h => ?_, fun h => ⟨fun h2 => ?_, fun h2 => ?_⟩⟩
  · (refine Later.mk ?_; cbv; try simp only [wp, getL, takeL, dropL, TK.isAgg, reduceIte])
    exact hR _ _ _ _ (by rw [if_pos (.inl h)])
  · (refine Later.mk ?_; cbv; try simp only [wp, getL, takeL, dropL, TK.isAgg, reduceIte])
    exact hR _ _ _ _ (by rw [if_pos (.inr (by (try simp only [wf, nc, nc', Int.toNat_natCast] at *); (try simp (disch := omega) only [w64, w32, wu8] at *); omega))])
  · (refine Later.mk ?_; cbv; try simp only [wp, getL, takeL, dropL, TK.isAgg, reduceIte])
    obtain ⟨k, rfl⟩ : ∃ k : Nat, i = k := ⟨i.toNat, by omega⟩
    have hk : k ≤ s.size := (by (try simp only [wf, nc, nc', Int.toNat_natCast] at *); (try simp (disch := omega) only [w64, w32, wu8] at *); omega)
    have hz : (s.extract 0 k).size = k := by simp [ByteArray.size_extract]; omega
    obtain ⟨p1, p2⟩ := countN_pre s 10 k hk k (Nat.le_refl _)
    have b1 := countN_bounds s 10 k
    have b2 := lastN_bounds s 10 k
    refine ⟨(by (try simp only [wf, nc, nc', Int.toNat_natCast] at *); (try simp (disch := omega) only [w64, w32, wu8] at *); omega), (by (try simp only [wf, nc, nc', Int.toNat_natCast] at *); (try simp (disch := omega) only [w64, w32, wu8] at *); omega), (by (try simp only [wf, nc, nc', Int.toNat_natCast] at *); (try simp (disch := omega) only [w64, w32, wu8] at *); omega), ?_⟩
    refine (f34 _).call ?_
    rintro _ ⟨x, hx, rfl⟩
    replace hx : x = countN s 10 k := by
      ((try simp only [wf, nc, nc', Int.toNat_natCast] at *); (try simp (disch := omega) only [w64, w32, wu8] at *))
      rw [hx, show s.extract (Int.toNat 0) k = s.extract 0 k from rfl, hz, p1]
    (cbv; try simp only [wp, getL, takeL, dropL, TK.isAgg, reduceIte])
    refine (f35 _ _ (Nat.lt_of_le_of_lt (by ((try simp only [wf, nc, nc', Int.toNat_natCast] at *); (try simp (disch := omega) only [w64, w32, wu8] at *)); exact ext_le _ _ _) hs)).call ?_
    rintro _ ⟨y, hy, rfl⟩
    replace hy : y = lastN s 10 k := by
      ((try simp only [wf, nc, nc', Int.toNat_natCast] at *); (try simp (disch := omega) only [w64, w32, wu8] at *))
      rw [hy, show s.extract (Int.toNat 0) k = s.extract 0 k from rfl, hz, p2]
    (cbv; try simp only [wp, getL, takeL, dropL, TK.isAgg, reduceIte])
    refine hR _ _ _ _ ?_
    ((try simp only [wf, nc, nc', Int.toNat_natCast] at *); (try simp (disch := omega) only [w64, w32, wu8] at *))
    rw [if_neg (by omega), pos_law, hx, hy]
end Go.VM
