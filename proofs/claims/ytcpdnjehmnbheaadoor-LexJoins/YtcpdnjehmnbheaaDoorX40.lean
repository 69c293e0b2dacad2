/- Part of the proof: X40. -/
import Derived.Test.YtcpdnjehmnbheaaDoorX39
namespace Go.VM
open Go.Proofs Go
set_option maxRecDepth 100000
set_option linter.unusedVariables false
set_option linter.unusedSimpArgs false

theorem f46 (k k' p p' : Int) (t t' : ByteArray) : VFun (P ()) 46 [.agg [.d (.int .i64 k), .d (.str t), .d (.int .i64 p)], .agg [.d (.int .i64 k'), .d (.str t'), .d (.int .i64 p')]] (fun r => ∃ b : Bool, b = decide (k = k' ∧ t = t') ∧ r = .d (.bool b)) := by
  refine vfun (Tf := @T) @tabOk Tryd.func46 rfl rfl (Nat.le_of_ble_eq_true rfl) @fun ⟨_, _, _, _, _, _, _, _, _, _, _, _, _, _, _, _, _, _, _, _, _, _, _, _, _, _, _, _, _, _, _, _, _, _, _, _, _, _, wp, wf⟩ R hR => ?_
  cbv
  try simp only [wp, getL, takeL, dropL, TK.isAgg, reduceIte]
  replace hR := fun b H h => hR _ H _ (.d (.bool b)) ⟨b, h, rfl⟩
  repeat' first | with_reducible refine And.intro ?_ ?_ | intro c9
  all_goals first
    | exact (by (try simp only [wf, nc, nc', Int.toNat_natCast] at *); (try simp (disch := omega) only [w64, w32, wu8] at *); omega)
    | trivial
    | (refine hR _ _ ?_; simp_all; done)
    | skip

theorem f47w (a b : Nat) (K K' O O' : Nat → Int) (S S' : Nat → ByteArray) (ha : a < 2 ^ 40) (hb : b < 2 ^ 40) : VCalls (P ()) 47 [.d (.sl a 3 (tokF K S O)), .ref 0 0 b 3, .clo 46 [] []] [.arr b 3 (tokF K' S' O') 0]
    (fun r H => (∃ G, H = .arr b 3 (tokF K' S' O') 0 :: G) ∧ ∃ x : Bool, x = (decide (a = b) && Tk.alike ⟨K, S, O⟩ ⟨K', S', O'⟩ a) ∧ r = .d (.bool x)) := by
  refine VCalls_of_W (Tf := @T) @tabOk Tryd.func47 rfl (Nat.le_of_ble_eq_true rfl) @fun ⟨_, _, _, _, _, _, _, _, _, _, _, _, _, _, _, _, _, _, _, _, _, _, _, _, _, _, _, _, _, _, _, _, _, _, _, _, _, _, wp, wf⟩ n R hn hR => ?_
  cbv
  try simp only [wp, getL, takeL, dropL, TK.isAgg, reduceIte]
  replace hR := fun x G h => hR (.d (.bool x)) _ ⟨⟨G, rfl⟩, x, h, rfl⟩
  subst hn
  refine ⟨fun h => ?_, fun h => ?_⟩
  · have h : ¬ a = b := (by (try simp only [wf, nc, nc', Int.toNat_natCast] at *); (try simp (disch := omega) only [w64, w32, wu8] at *); omega)
    exact hR _ _ (by simp [h])
  · have h : a = b := (by (try simp only [wf, nc, nc', Int.toNat_natCast] at *); (try simp (disch := omega) only [w64, w32, wu8] at *); omega)
    subst h
    refine loopV (Tf := @T) @tabOk (fun i : Nat => ⟨[.d (.sl a 3 (tokF K S O)), .ref 0 0 a 3, .clo 46 [] [], .undef, .undef, .undef, .undef, .undef, .undef, .undef, .undef, .undef, .undef, .undef, .undef, .d (.sl a 3 (tokF K S O)), .d (.int .i64 a), .d (.int .i64 i), .undef, .undef, .undef, .undef, .undef, .undef, .undef, .undef, .undef, .undef, .undef, .undef, .undef, .undef], [.arr a 3 (tokF K' S' O') 0]⟩) (fun i => a - i) (fun i => i ≤ a ∧ Tk.alike ⟨K, S, O⟩ ⟨K', S', O'⟩ i = true) 0 ⟨by omega, rfl⟩ ?_ (fun i => rfl) @fun ⟨_, _, _, _, _, _, _, _, _, _, _, _, _, _, _, _, _, _, _, _, _, _, _, _, _, _, _, _, _, _, _, _, _, _, _, _, _, _, wpa, wfa⟩ i Bk hi hBk => ?_
    · (cbv; try simp only [wf, exD, exL, exT, exB, exA, leLs, leL_d, leL_undef, deq_refl, deq_int, deq_bool, deq_str, and_true, true_and, AObj.iter.injEq, nc, nc']; try simp (disch := omega) only [w64, w32, wu8])
      exact ⟨rfl, Nat.le_refl _, Nat.zero_le _, fun _ _ _ _ => trivial⟩
    (cbv; try simp only [wp, wpa, getL, takeL, dropL, TK.isAgg, reduceIte])
    obtain ⟨y1, y2⟩ := hi
    obtain ⟨i2, hi2⟩ : ∃ i2, i2 = i + 1 := ⟨_, rfl⟩
    refine ⟨fun e0 => ?_, fun e0 => ?_⟩
    · have e0 : i < a := (by (try simp only [wf, wfa, nc, nc', Int.toNat_natCast] at *); (try simp (disch := omega) only [w64, w32, wu8] at *); omega)
      repeat' first | with_reducible refine And.intro ?_ ?_ | intro c9
      all_goals first
        | exact (by (try simp only [wf, wfa, nc, nc', Int.toNat_natCast] at *); (try simp (disch := omega) only [w64, w32, wu8] at *); omega)
        | trivial
        | skip
      refine (f46 _ _ _ _ _ _).call ?_
      rintro _ ⟨x, hx, rfl⟩
      have hx : x = Tk.ktAt ⟨K, S, O⟩ ⟨K', S', O'⟩ i := by
        ((try simp only [wf, wfa, nc, nc', Int.toNat_natCast] at *); (try simp (disch := omega) only [w64, w32, wu8] at *))
        rw [hx]
        simp only [Tk.ktAt]
        rw [Bool.decide_and]
        rfl
      cases x <;> (cbv; try simp only [wp, wpa, getL, takeL, dropL, TK.isAgg, reduceIte])
      · exact hR false _ (by rw [alike_no _ _ a i e0 hx.symm]; simp)
      · refine hBk i2 _ (by omega) ⟨by omega, by rw [hi2, Tk.alike, y2, ← hx]; rfl⟩ ?_
        (cbv; try simp only [wf, wfa, exD, exL, exT, exB, exA, leLs, leL_d, leL_undef, deq_refl, deq_int, deq_bool, deq_str, and_true, true_and, AObj.iter.injEq, nc, nc']; try simp (disch := omega) only [w64, w32, wu8])
        exact ⟨by omega, Nat.le_refl _, Nat.zero_le _, fun _ _ _ _ => trivial⟩
    · have e0 : i = a := (by (try simp only [wf, wfa, nc, nc', Int.toNat_natCast] at *); (try simp (disch := omega) only [w64, w32, wu8] at *); omega)
      refine hR _ _ ?_
      rw [← e0, y2]; simp

/-- slices.EqualFunc, its second slice one of the call's own -/
theorem f47 {a b : Nat} {K K' O O' : Nat → Int} {S S' : Nat → ByteArray} (ha : a < 2 ^ 40) (hb : b < 2 ^ 40) {H : AHeap} {o : Nat} (ho : getL H o .dead = .arr b 3 (tokF K' S' O') 0) {R : A → AHeap → Prop}
    (hR : ∀ x, x = (decide (a = b) && Tk.alike ⟨K, S, O⟩ ⟨K', S', O'⟩ a) → R (.d (.bool x)) H) : CallW P 47 [.d (.sl a 3 (tokF K S O)), .ref o 0 b 3, .clo 46 [] []] H R := by
  have ho : H[o]? = some (.arr b 3 (tokF K' S' O') 0) := by
    refine Ops.exists_one.elim fun inst => ?_
    let lim : Lim := ⟨fun _ _ => True⟩
    rw [getL_eq] at ho
    exact getD_obj ho (by intro h; cases h)
  have hlt : o < H.length := (List.getElem?_eq_some_iff.1 ho).1
  have one : ∀ {α : Type} {x z : α} {i : Nat}, [z][i]? = some x → i = 0 ∧ x = z := fun {α x z i} hx => by
    have hi := (List.getElem?_eq_some_iff.1 hx).1
    obtain rfl : i = 0 := by simpa using hi
    simp at hx
    exact ⟨rfl, hx.symm⟩
  refine ⟨(f47w a b K K' O O' S S' ha hb).frame H (fun _ => o) (fun i j hi hj _ => by simp at hi hj; omega) (fun i x hx => ?_) (fun i x hx => ?_) (fun k hk => ?_) ?_⟩
  · obtain ⟨rfl, rfl⟩ := one hx
    exact ho
  · obtain ⟨rfl, rfl⟩ := one hx
    trivial
  · match k, hk with
    | 0, _ => exact .d _
    | 1, _ => exact .ref _ _ _ _ (by simp)
    | 2, _ => exact .clo _ _ _ (fun k hk => absurd hk (by simp)) (fun k hk => absurd hk (by simp))
  · rintro r1 H1' ⟨⟨G, rfl⟩, x, hx, rfl⟩
    refine Ops.exists_one.elim fun inst => ?_
    let lim : Lim := ⟨fun _ _ => True⟩
    refine ⟨_, [.arr b 3 (tokF K' S' O') 0], H, .keep _ (.d _), Nat.le_refl _, fun i h1 h2 => by simp at h1 h2; omega, ⟨⟨_, _, rfl, Nat.le_refl _, Nat.zero_le _, fun i j _ _ => .refl _⟩, trivial⟩, fun i x hx => ?_, by simp, fun i x hx => ?_, fun o' _ _ => rfl, hR x hx⟩
    · obtain ⟨rfl, rfl⟩ := one hx
      trivial
    · obtain ⟨rfl, rfl⟩ := one hx
      exact ho
end Go.VM
