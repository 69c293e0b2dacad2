/- Part of the proof: X41. -/
import Derived.Test.YtcpdnjehmnbheaaDoorX40
namespace Go.VM
open Go.Proofs Go
set_option maxRecDepth 100000
set_option linter.unusedVariables false
set_option linter.unusedSimpArgs false

/-- the first n tokens, in kind and text -/
def ktL (K : Nat → Int) (S : Nat → ByteArray) : Nat → List KT
  | 0 => []
  | n + 1 => ktL K S n ++ [(K n, S n)]
theorem ktL_length (K : Nat → Int) (S : Nat → ByteArray) : ∀ n, (ktL K S n).length = n
  | 0 => rfl
  | n + 1 => by simp [ktL, ktL_length K S n]
def putI (n : Nat) (K : Nat → Int) (k : Int) (i : Nat) : Int := if i < n then K i else k
def putS (n : Nat) (S : Nat → ByteArray) (t : ByteArray) (i : Nat) : ByteArray := if i < n then S i else t
theorem ktL_congr {K K' : Nat → Int} {S S' : Nat → ByteArray} : ∀ n, (∀ i, i < n → K i = K' i ∧ S i = S' i) → ktL K S n = ktL K' S' n
  | 0, _ => rfl
  | n + 1, h => by rw [ktL, ktL, ktL_congr n (fun i hi => h i (by omega)), (h n (by omega)).1, (h n (by omega)).2]
theorem ktL_put (n : Nat) (K : Nat → Int) (k : Int) (S : Nat → ByteArray) (t : ByteArray) : ktL (putI n K k) (putS n S t) (n + 1) = ktL K S n ++ [(k, t)] := by
  rw [ktL, ktL_congr (K' := K) (S' := S) n (fun i hi => by simp [putI, putS, hi])]
  simp [putI, putS]
theorem ktL_get (K : Nat → Int) (S : Nat → ByteArray) : ∀ n i, i < n → (ktL K S n)[i]? = some (K i, S i)
  | n + 1, i, h => by
    rw [ktL]
    rcases Nat.lt_or_ge i n with hl | hl
    · rw [List.getElem?_append_left (by rw [ktL_length]; exact hl)]
      exact ktL_get K S n i hl
    · obtain rfl : i = n := by omega
      rw [List.getElem?_append_right (by rw [ktL_length]; exact Nat.le_refl _), ktL_length, Nat.sub_self]
      rfl
theorem alike_all (a b : Tk) : ∀ n, a.alike b n = true → ∀ i, i < n → a.ktAt b i = true
  | n + 1, h, i, hi => by
    simp only [Tk.alike, Bool.and_eq_true] at h
    rcases Nat.lt_or_ge i n with hl | hl
    · exact alike_all a b n h.1 i hl
    · obtain rfl : i = n := by omega
      exact h.2
theorem map_kt_iff (T : List Nx) (K : Nat → Int) (S : Nat → ByteArray) (O O' : Nat → Int) (m : Nat) : (decide (T.length = m) && Tk.alike ⟨kindsL T, textsL T, O⟩ ⟨K, S, O'⟩ T.length) = true ↔ T.map Nx.kt = ktL K S m := by
  have hT : ∀ i, i < T.length → (T.map Nx.kt)[i]? = some (kindsL T i, textsL T i) := fun i hi => by simp [hi, kindsL, textsL, Nx.kt]
  rw [Bool.and_eq_true, decide_eq_true_eq]
  constructor
  · rintro ⟨h1, h2⟩
    refine List.ext_getElem? fun i => ?_
    rcases Nat.lt_or_ge i T.length with hi | hi
    · have := alike_all _ _ _ h2 i hi
      simp only [Tk.ktAt, Bool.and_eq_true, beq_iff_eq, decide_eq_true_eq] at this
      rw [hT i hi, ktL_get K S m i (by omega), this.1, this.2]
    · rw [List.getElem?_eq_none (by simpa using hi), List.getElem?_eq_none (by rw [ktL_length]; omega)]
  · intro h
    have hl : T.length = m := by
      have := congrArg List.length h
      rwa [List.length_map, ktL_length] at this
    refine ⟨hl, alike_of _ _ _ fun i hi => ?_⟩
    have := hT i hi
    rw [h, ktL_get K S m i (by omega)] at this
    simp only [Option.some.injEq, Prod.mk.injEq] at this
    simp [Tk.ktAt, this.1, this.2]
theorem put_deq (m n' : Nat) (K O : Nat → Int) (S : Nat → ByteArray) (k p : Int) (t : ByteArray) (g' : Nat → Nat → D) (hn : n' = m) (hg : ∀ i j, i < m → g' i j = tokF K S O i j) :
    ∀ i j, i < m + 1 → j < 3 → Deq (appF n' g' (rowF 3 [D.int .i64 k, D.str t, D.int .i64 p]) i j) (tokF (putI m K k) (putS m S t) (putI m O p) i j) := fun i j hi hj => by
  subst hn
  apply Deq.of_eq
  unfold appF
  split
  · rename_i h
    rw [hg i j h]
    match j, hj with
    | 0, _ => simp [tokF, putI, h]
    | 1, _ => simp [tokF, putS, h]
    | 2, _ => simp [tokF, putI, h]
  · rename_i h
    obtain rfl : i = n' := by omega
    rw [Nat.sub_self]
    match j, hj with
    | 0, _ => simp [tokF, putI, rowF]
    | 1, _ => simp [tokF, putS, rowF]
    | 2, _ => simp [tokF, putI, rowF]
theorem catL_snoc (L : List KT) (x : KT) : catL (L ++ [x]) = catL L ++ x.2 := by
  rw [catL_app]
  show catL L ++ (x.2 ++ ByteArray.empty) = _
  rw [ByteArray.append_empty]
def wellB (L : List KT) : Prop := (splitS (catL L)).2.2.1 = 0 ∧ (splitS (catL L)).1.map Nx.kt = L

structure Sj where
  j : Nat
  u : ByteArray
set_option maxHeartbeats 2000000 in
theorem f31 (m : Nat) (K O : Nat → Int) (S : Nat → ByteArray) (k p : Int) (t : ByteArray) (h1 : 1 ≤ m) (h3 : m ≤ 3) (hz : ∀ i, i < m → (S i).size ≤ 16000) (ht : t.size ≤ 16000) :
    VFun (P ()) 31 [.d (.sl m 3 (tokF K S O)), .agg [.d (.int .i64 k), .d (.str t), .d (.int .i64 p)]] (fun r => ∃ b : Bool, (b = true ↔ ¬ wellB (ktL K S m ++ [(k, t)])) ∧ r = .d (.bool b)) := by
  refine vfunK (Tf := @T) @tabOk 400 Tryd.func31 rfl rfl (Nat.le_of_ble_eq_true rfl) @fun ⟨_, _, _, _, _, _, _, _, _, _, _, _, _, _, _, _, _, _, _, _, _, _, _, _, _, _, _, _, _, _, _, _, _, _, _, _, _, _, wp, wf⟩ R hR => ?_
  cbv
  try simp only [wp, getL, takeL, dropL, TK.isAgg, reduceIte]
  replace hR := fun b H h => hR _ H _ (.d (.bool b)) ⟨b, h, rfl⟩
  repeat' first
    | (with_reducible refine And.intro ?_ ?_)
    | (refine f45 (by omega) (fun h => by omega) ?_
       intro n' g' hn' hg'
       (cbv; try simp only [wp, getL, takeL, dropL, TK.isAgg, reduceIte]))
  all_goals first | exact (by (try simp only [wf, nc, nc', Int.toNat_natCast] at *); (try simp (disch := omega) only [w64, w32, wu8] at *); omega) | trivial | skip
  all_goals
    obtain ⟨m1, hm1⟩ : ∃ m1, m1 = m + 1 := ⟨_, rfl⟩
    obtain ⟨K2, hK2⟩ : ∃ K2, K2 = putI m K k := ⟨_, rfl⟩
    obtain ⟨S2, hS2⟩ : ∃ S2, S2 = putS m S t := ⟨_, rfl⟩
    obtain ⟨O2, hO2⟩ : ∃ O2, O2 = putI m O p := ⟨_, rfl⟩
  all_goals first
    | (refine loopK (Tf := @T) @tabOk 400 (fun y : Sj => ⟨[.undef, .undef, .undef, .undef, .undef, .d (.str y.u), .ref 1 0 m1 3, .undef, .undef, .undef, .undef, .undef, .undef, .undef, .undef, .undef, .undef, .ref 1 0 m1 3, .d (.int .i64 m1), .d (.int .i64 y.j), .undef, .undef, .undef, .undef, .undef, .undef, .undef, .undef, .undef, .undef, .undef, .undef, .undef, .undef, .undef, .undef, .undef, .undef, .undef, .undef, .undef, .undef, .undef], [.box [.d (.int .i64 k), .d (.str t), .d (.int .i64 p)], .arr m1 3 (tokF K2 S2 O2) 0]⟩) (fun y => m1 - y.j)
         (fun y => y.j ≤ m1 ∧ y.u = catL (ktL K2 S2 y.j) ∧ y.u.size ≤ 16000 * y.j) ⟨0, ⟨⟨[]⟩⟩⟩ ⟨Nat.zero_le _, rfl, Nat.zero_le _⟩ ?_ (fun y => rfl) @fun ⟨_, _, _, _, _, _, _, _, _, _, _, _, _, _, _, _, _, _, _, _, _, _, _, _, _, _, _, _, _, _, _, _, _, _, _, _, _, _, wpa, wfa⟩ ⟨j, u⟩ Bk hy hBk => ?_
       · (cbv; try simp only [wf, exD, exL, exT, exB, exA, leLs, leL_d, leL_undef, deq_refl, deq_int, deq_bool, deq_str, and_true, true_and, AObj.iter.injEq, nc, nc']; try simp (disch := omega) only [w64, w32, wu8])
         refine ⟨⟨by rw [hm1, hn'], by rw [hm1, hn'], by rw [hm1, hn'], rfl⟩, by omega, Nat.le_refl _, Nat.zero_le _, ?_⟩
         rw [hm1, hK2, hS2, hO2]
         exact put_deq m n' K O S k p t g' hn' hg'
       · obtain ⟨y1, y2, y3⟩ := hy
         dsimp only at y1 y2 y3
         (cbv; try simp only [wp, wpa, getL, takeL, dropL, TK.isAgg, reduceIte])
         refine ⟨fun e0 => ?_, fun e0 => ?_⟩
         · have e0 : j < m1 := (by (try simp only [wf, wfa, nc, nc', Int.toNat_natCast] at *); (try simp (disch := omega) only [w64, w32, wu8] at *); omega)
           have hz2 : (S2 j).size ≤ 16000 := by
             rw [hS2, putS]
             split
             · exact hz j ‹_›
             · exact ht
           obtain ⟨u2, hu2⟩ : ∃ u2, u2 = u ++ S2 j := ⟨_, rfl⟩
           have hs2 : u2.size = u.size + (S2 j).size := by rw [hu2, ByteArray.size_append]
           have bk := fun s' => hBk ⟨j + 1, u2⟩ s' (by dsimp only; omega) ⟨by dsimp only; omega, by dsimp only; rw [ktL, catL_snoc, hu2, y2], by dsimp only; omega⟩
           (refine Later.mk ?_; cbv; try simp only [wp, wpa, getL, takeL, dropL, TK.isAgg, reduceIte])
           repeat' first | with_reducible refine And.intro ?_ ?_ | intro c9
           all_goals first
             | exact (by (try simp only [wf, wfa, nc, nc', Int.toNat_natCast] at *); (try simp (disch := omega) only [w64, w32, wu8] at *); omega)
             | trivial
             | skip
           refine bk _ ?_
           (cbv; try simp only [wf, wfa, exD, exL, exT, exB, exA, leLs, leL_d, leL_undef, deq_refl, deq_int, deq_bool, deq_str, and_true, true_and, AObj.iter.injEq, nc, nc']; try simp (disch := omega) only [w64, w32, wu8])
           repeat' first | (with_reducible refine And.intro ?_ ?_) | exact Nat.le_refl _ | exact Nat.zero_le _ | (intros; trivial) | exact hu2.symm | (rw [Int.toNat_natCast]; exact hu2.symm) | omega
         · have e0 : j = m1 := (by (try simp only [wf, wfa, nc, nc', Int.toNat_natCast] at *); (try simp (disch := omega) only [w64, w32, wu8] at *); omega)
           (refine Later.mk ?_; cbv; try simp only [wp, wpa, getL, takeL, dropL, TK.isAgg, reduceIte])
           refine (f10 u (by omega)).call ?_
           rintro _ ⟨n2, c2, a2, Kt, St, Ot, e1, e2, e3, e4, e5, e6, rfl⟩
           have hw : wellB (ktL K S m ++ [(k, t)]) ↔ (c2 = 0 ∧ (decide (n2 = m1) && Tk.alike ⟨Kt, St, Ot⟩ ⟨K2, S2, O2⟩ n2) = true) := by
             rw [e1, e4, e5, map_kt_iff, e2, hm1, hK2, hS2, ktL_put, wellB, ← ktL_put m K k S t, ← hK2, ← hS2, ← hm1, ← e0, ← y2]
           have hl := split_len u
           rw [← e1] at hl
           clear e1 e2 e3 e4 e5 e6
           (cbv; try simp only [wp, wpa, getL, takeL, dropL, TK.isAgg, reduceIte])
           refine ⟨fun hc => ?_, fun hc => ?_⟩
           · have hc : ¬ c2 = 0 := (by (try simp only [wf, wfa, nc, nc', Int.toNat_natCast] at *); (try simp (disch := omega) only [w64, w32, wu8] at *); omega)
             exact hR true _ (by rw [hw]; simp [hc])
           · have hc : c2 = 0 := (by (try simp only [wf, wfa, nc, nc', Int.toNat_natCast] at *); (try simp (disch := omega) only [w64, w32, wu8] at *); omega)
             refine f47 (by omega) (by omega) rfl ?_
             intro x hx
             rw [← hx] at hw
             cases x <;> (cbv; try simp only [wp, wpa, getL, takeL, dropL, TK.isAgg, reduceIte])
             · exact hR true _ (by rw [hw]; simp)
             · exact hR false _ (by rw [hw]; simp [hc]))
    | (refine loopK (Tf := @T) @tabOk 400 (fun y : Sj => ⟨[.undef, .undef, .undef, .undef, .undef, .d (.str y.u), .ref 2 0 m1 3, .undef, .undef, .undef, .undef, .undef, .undef, .undef, .undef, .undef, .undef, .ref 2 0 m1 3, .d (.int .i64 m1), .d (.int .i64 y.j), .undef, .undef, .undef, .undef, .undef, .undef, .undef, .undef, .undef, .undef, .undef, .undef, .undef, .undef, .undef, .undef, .undef, .undef, .undef, .undef, .undef, .undef, .undef], [.box [.d (.int .i64 k), .d (.str t), .d (.int .i64 p)], .dead, .arr m1 3 (tokF K2 S2 O2) 0]⟩) (fun y => m1 - y.j)
         (fun y => y.j ≤ m1 ∧ y.u = catL (ktL K2 S2 y.j) ∧ y.u.size ≤ 16000 * y.j) ⟨0, ⟨⟨[]⟩⟩⟩ ⟨Nat.zero_le _, rfl, Nat.zero_le _⟩ ?_ (fun y => rfl) @fun ⟨_, _, _, _, _, _, _, _, _, _, _, _, _, _, _, _, _, _, _, _, _, _, _, _, _, _, _, _, _, _, _, _, _, _, _, _, _, _, wpa, wfa⟩ ⟨j, u⟩ Bk hy hBk => ?_
       · (cbv; try simp only [wf, exD, exL, exT, exB, exA, leLs, leL_d, leL_undef, deq_refl, deq_int, deq_bool, deq_str, and_true, true_and, AObj.iter.injEq, nc, nc']; try simp (disch := omega) only [w64, w32, wu8])
         refine ⟨⟨by rw [hm1, hn'], by rw [hm1, hn'], by rw [hm1, hn'], rfl⟩, by omega, Nat.le_refl _, Nat.zero_le _, ?_⟩
         rw [hm1, hK2, hS2, hO2]
         exact put_deq m n' K O S k p t g' hn' hg'
       · obtain ⟨y1, y2, y3⟩ := hy
         dsimp only at y1 y2 y3
         (cbv; try simp only [wp, wpa, getL, takeL, dropL, TK.isAgg, reduceIte])
         refine ⟨fun e0 => ?_, fun e0 => ?_⟩
         · have e0 : j < m1 := (by (try simp only [wf, wfa, nc, nc', Int.toNat_natCast] at *); (try simp (disch := omega) only [w64, w32, wu8] at *); omega)
           have hz2 : (S2 j).size ≤ 16000 := by
             rw [hS2, putS]
             split
             · exact hz j ‹_›
             · exact ht
           obtain ⟨u2, hu2⟩ : ∃ u2, u2 = u ++ S2 j := ⟨_, rfl⟩
           have hs2 : u2.size = u.size + (S2 j).size := by rw [hu2, ByteArray.size_append]
           have bk := fun s' => hBk ⟨j + 1, u2⟩ s' (by dsimp only; omega) ⟨by dsimp only; omega, by dsimp only; rw [ktL, catL_snoc, hu2, y2], by dsimp only; omega⟩
           (refine Later.mk ?_; cbv; try simp only [wp, wpa, getL, takeL, dropL, TK.isAgg, reduceIte])
           repeat' first | with_reducible refine And.intro ?_ ?_ | intro c9
           all_goals first
             | exact (by (try simp only [wf, wfa, nc, nc', Int.toNat_natCast] at *); (try simp (disch := omega) only [w64, w32, wu8] at *); omega)
             | trivial
             | skip
           refine bk _ ?_
           (cbv; try simp only [wf, wfa, exD, exL, exT, exB, exA, leLs, leL_d, leL_undef, deq_refl, deq_int, deq_bool, deq_str, and_true, true_and, AObj.iter.injEq, nc, nc']; try simp (disch := omega) only [w64, w32, wu8])
           repeat' first | (with_reducible refine And.intro ?_ ?_) | exact Nat.le_refl _ | exact Nat.zero_le _ | (intros; trivial) | exact hu2.symm | (rw [Int.toNat_natCast]; exact hu2.symm) | omega
         · have e0 : j = m1 := (by (try simp only [wf, wfa, nc, nc', Int.toNat_natCast] at *); (try simp (disch := omega) only [w64, w32, wu8] at *); omega)
           (refine Later.mk ?_; cbv; try simp only [wp, wpa, getL, takeL, dropL, TK.isAgg, reduceIte])
           refine (f10 u (by omega)).call ?_
           rintro _ ⟨n2, c2, a2, Kt, St, Ot, e1, e2, e3, e4, e5, e6, rfl⟩
           have hw : wellB (ktL K S m ++ [(k, t)]) ↔ (c2 = 0 ∧ (decide (n2 = m1) && Tk.alike ⟨Kt, St, Ot⟩ ⟨K2, S2, O2⟩ n2) = true) := by
             rw [e1, e4, e5, map_kt_iff, e2, hm1, hK2, hS2, ktL_put, wellB, ← ktL_put m K k S t, ← hK2, ← hS2, ← hm1, ← e0, ← y2]
           have hl := split_len u
           rw [← e1] at hl
           clear e1 e2 e3 e4 e5 e6
           (cbv; try simp only [wp, wpa, getL, takeL, dropL, TK.isAgg, reduceIte])
           refine ⟨fun hc => ?_, fun hc => ?_⟩
           · have hc : ¬ c2 = 0 := (by (try simp only [wf, wfa, nc, nc', Int.toNat_natCast] at *); (try simp (disch := omega) only [w64, w32, wu8] at *); omega)
             exact hR true _ (by rw [hw]; simp [hc])
           · have hc : c2 = 0 := (by (try simp only [wf, wfa, nc, nc', Int.toNat_natCast] at *); (try simp (disch := omega) only [w64, w32, wu8] at *); omega)
             refine f47 (by omega) (by omega) rfl ?_
             intro x hx
             rw [← hx] at hw
             cases x <;> (cbv; try simp only [wp, wpa, getL, takeL, dropL, TK.isAgg, reduceIte])
             · exact hR true _ (by rw [hw]; simp)
             · exact hR false _ (by rw [hw]; simp [hc]))
end Go.VM
