/- Part of the proof: X44. -/
import Derived.Test.YtcpdnjehmnbheaaDoorX43
namespace Go.VM
open Go.Proofs Go
set_option maxRecDepth 100000
set_option linter.unusedVariables false
set_option linter.unusedSimpArgs false

theorem f15g {n m' : Nat} {K1 O1 : Nat → Int} {S1 : Nat → ByteArray} {g' : Nat → Nat → D} (q b : Nat) (K O : Nat → Int) (S : Nat → ByteArray) (hn : n < 2 ^ 40) (hb : b < 2 ^ 40) (hm : m' = b - q) (hg : g' = shF (tokF K S O) q) :
    VFun (P ()) 15 [.d (.sl n 3 (tokF K1 S1 O1)), .d (.sl m' 3 g')] (fun r => ∃ x : Bool, x = (decide (n = b - q) && Tk.alike ⟨K1, S1, O1⟩ ⟨fun i => K (q + i), fun i => S (q + i), fun i => O (q + i)⟩ n) ∧ r = .d (.bool x)) := by
  subst hm hg
  rw [tokF_sh]
  exact f15 n (b - q) _ _ _ _ _ _ hn (by omega)

theorem alone_iff (k : Int) (t : ByteArray) : aloneP k t ↔ ((splitS t).2.2.1 = 0 ∧ (splitS t).1.map Nx.kt = [(k, t)]) := by
  unfold aloneP
  constructor
  · rintro ⟨h1, h2, h3, h4⟩
    refine ⟨h1, ?_⟩
    match hT : (splitS t).1, h2 with
    | [x], _ =>
      rw [hT] at h3 h4
      have h3 : x.kind = k := h3
      have h4 : x.text = t := h4
      simp [Nx.kt, h3, h4]
  · rintro ⟨h1, h2⟩
    match hT : (splitS t).1 with
    | [] => rw [hT] at h2; simp at h2
    | x :: y :: r => rw [hT] at h2; simp at h2
    | [x] =>
      rw [hT] at h2
      simp [Nx.kt] at h2
      exact ⟨h1, rfl, h2.1, h2.2⟩

theorem ext_nil (x : ByteArray) (n : Nat) : x.extract n n = ByteArray.empty := by
  apply ByteArray.ext
  simp
theorem ext_app (x y : ByteArray) (f : Nat) (h : f ≤ x.size) : (x ++ y).extract f (x ++ y).size = x.extract f x.size ++ y := by
  have h1 := (sub_left x y).ext f x.size h (Nat.le_refl _)
  rw [Nat.zero_add, Nat.zero_add] at h1
  have hz : (x ++ y).size = x.size + y.size := ByteArray.size_append
  rw [ext_split (x ++ y) f x.size _ h (by omega), ← h1]
  congr 1
  exact ByteArray.extract_append_eq_right rfl hz

structure Si where
  i : Nat
structure Sf where
  i : Nat
  a : Nat
  f : Nat
  out : ByteArray
set_option maxHeartbeats 2000000 in
theorem f18 (m : Nat) (K O : Nat → Int) (S : Nat → ByteArray) (hm : m < 2 ^ 20) (hz : ∀ i, i < m → (S i).size ≤ 16000) :
    VFun (P ()) 18 [.d (.sl m 3 (tokF K S O))] (JoinOut (joinS K S m (sepR K S))) := by
  refine vfunK (Tf := @T) @tabOk 400 Tryd.func18 rfl rfl (Nat.le_of_ble_eq_true rfl) @fun ⟨_, _, _, _, _, _, _, _, _, _, _, _, _, _, _, _, _, _, _, _, _, _, _, _, _, _, _, _, _, _, _, _, _, _, _, _, _, _, wp, wf⟩ R hR => ?_
  cbv
  try simp only [wp, getL, takeL, dropL, TK.isAgg, reduceIte]
  replace hR := fun t e H h1 h2 => hR _ H _ (.tup2 (.d (.str t)) (.d (.int .i64 e))) ⟨t, e, h1, h2, rfl⟩
  obtain ⟨X, hX⟩ : ∃ X, X = joinS K S m (sepR K S) := ⟨_, rfl⟩
  rw [← hX] at hR
  have none' : X = none → ∀ H, R (A.tup [A.d (D.str ⟨⟨[]⟩⟩), A.d (D.int IntKind.i64 4)]) H := fun h H => hR _ _ H (fun _ => ⟨rfl, rfl⟩) (fun u hu => by rw [h] at hu; cases hu)
  refine ⟨fun h => ?_, fun h => ?_⟩
  · have h : ¬ m ≤ 6000 := (by (try simp only [wf, nc, nc', Int.toNat_natCast] at *); (try simp (disch := omega) only [w64, w32, wu8] at *); omega)
    have hx : X = none := by rw [hX, joinS, if_neg (fun c => h c.1)]
    (refine Later.mk ?_; cbv; try simp only [wp, getL, takeL, dropL, TK.isAgg, reduceIte])
    exact none' hx _
  · have h : m ≤ 6000 := (by (try simp only [wf, nc, nc', Int.toNat_natCast] at *); (try simp (disch := omega) only [w64, w32, wu8] at *); omega)
    obtain ⟨sp, hsp⟩ : ∃ sp, sp = sepR K S := ⟨_, rfl⟩
    have hall : (∀ i, i < m → aloneP (K i) (S i)) → X = joinG S sp m 0 ⟨#[]⟩ 0 := fun hc => by rw [hX, joinS, if_pos ⟨h, hc⟩, hsp]
    have hbad : ∀ i, i < m → ¬ aloneP (K i) (S i) → X = none := fun i hi hc => by rw [hX, joinS, if_neg (fun c => hc (c.2 i hi))]
    (refine Later.mk ?_; cbv; try simp only [wp, getL, takeL, dropL, TK.isAgg, reduceIte])
    refine loopK (Tf := @T) @tabOk 400 (fun y : Si => ⟨[.d (.sl m 3 (tokF K S O)), .undef, .undef, .undef, .d (.int .i64 y.i), .undef, .undef, .undef, .undef, .undef, .undef, .undef, .undef, .undef, .undef, .undef, .undef, .undef, .undef, .undef, .undef, .undef, .undef, .undef, .undef, .undef, .undef, .undef, .undef, .undef, .undef, .undef, .undef, .undef, .undef, .undef, .undef, .undef, .undef, .undef, .undef, .undef, .undef, .undef, .undef, .undef, .undef, .undef, .undef, .undef, .undef, .undef, .undef, .undef, .undef, .undef, .undef, .undef, .undef, .undef, .undef, .undef, .undef, .undef, .undef, .undef, .undef, .undef, .undef, .undef, .undef, .undef, .undef, .undef, .undef, .undef, .undef, .undef, .undef, .undef, .undef, .undef, .undef, .undef, .undef, .undef, .undef, .undef, .undef, .undef, .undef, .undef, .undef, .undef, .undef, .undef, .undef, .undef, .undef, .undef, .undef, .undef, .undef, .undef, .undef, .undef, .undef, .undef, .undef, .undef, .undef, .undef, .undef, .undef, .undef, .undef, .undef, .undef, .undef, .undef, .undef, .undef, .undef, .undef, .undef, .undef, .undef, .undef, .undef, .undef, .undef, .undef, .undef, .undef, .undef], []⟩) (fun y => m - y.i)
      (fun y => y.i ≤ m ∧ (∀ j, j < y.i → aloneP (K j) (S j))) ⟨0⟩
      ⟨Nat.zero_le _, fun j hj => absurd hj (Nat.not_lt_zero _)⟩ ?_ (fun y => rfl) @fun ⟨_, _, _, _, _, _, _, _, _, _, _, _, _, _, _, _, _, _, _, _, _, _, _, _, _, _, _, _, _, _, _, _, _, _, _, _, _, _, wpa, wfa⟩ ⟨i⟩ Bk hy hBk => ?_
    · (cbv; try simp only [wf, exD, exL, exT, exB, exA, leLs, leL_d, leL_undef, deq_refl, deq_int, deq_bool, deq_str, and_true, true_and, AObj.iter.injEq, nc, nc']; try simp (disch := omega) only [w64, w32, wu8])
      try rfl
    obtain ⟨y1, y4⟩ := hy
    dsimp only at y1 y4
    (cbv; try simp only [wp, wpa, getL, takeL, dropL, TK.isAgg, reduceIte])
    refine ⟨fun e0 => ?_, fun e0 => ?_⟩
    · have e0 : i < m := (by (try simp only [wf, wfa, nc, nc', Int.toNat_natCast] at *); (try simp (disch := omega) only [w64, w32, wu8] at *); omega)
      have hzi := hz i e0
      (refine Later.mk ?_; cbv; try simp only [wp, wpa, getL, takeL, dropL, TK.isAgg, reduceIte])
      repeat' first | with_reducible refine And.intro ?_ ?_ | intro c9
      all_goals first
        | exact (by (try simp only [wf, wfa, nc, nc', Int.toNat_natCast] at *); (try simp (disch := omega) only [w64, w32, wu8] at *); omega)
        | trivial
        | (exfalso; exact (by (try simp only [wf, wfa, nc, nc', Int.toNat_natCast] at *); (try simp (disch := omega) only [w64, w32, wu8] at *); omega))
        | skip
      refine (f11 _ (by ((try simp only [wf, wfa, nc, nc', Int.toNat_natCast] at *); (try simp (disch := omega) only [w64, w32, wu8] at *)); omega)).call ?_
      rintro _ ⟨n2, c2, a2, Kt, St, Ot, e1, e2, e3, e4, e5, e6, rfl⟩
      have hal : aloneP (K i) (S i) ↔ (c2 = 0 ∧ (decide (n2 = 1) && Tk.alike ⟨Kt, St, Ot⟩ ⟨fun j => K (i + j), fun j => S (i + j), fun j => O (i + j)⟩ n2) = true) := by
        ((try simp only [wf, wfa, nc, nc', Int.toNat_natCast] at *); (try simp (disch := omega) only [w64, w32, wu8] at *))
        rw [e1, e4, e5, map_kt_iff, e2, alone_iff]
        simp [ktL]
      have hl := split_len (S i)
      have hl : n2 ≤ (S i).size := by
        ((try simp only [wf, wfa, nc, nc', Int.toNat_natCast] at *); (try simp (disch := omega) only [w64, w32, wu8] at *))
        rw [e1]; exact hl
      have hS0 : aloneP (K i) (S i) → n2 = 1 ∧ St 0 = S i := fun hc => by
        ((try simp only [wf, wfa, nc, nc', Int.toNat_natCast] at *); (try simp (disch := omega) only [w64, w32, wu8] at *))
        rw [e1, e5]
        exact ⟨hc.2.1, hc.2.2.2⟩
      clear e1 e2 e3 e4 e5 e6
      (cbv; try simp only [wp, wpa, getL, takeL, dropL, TK.isAgg, reduceIte])
      refine ⟨fun hc => ?_, fun hc => ?_⟩
      · have hc : ¬ c2 = 0 := (by (try simp only [wf, wfa, nc, nc', Int.toNat_natCast] at *); (try simp (disch := omega) only [w64, w32, wu8] at *); omega)
        have hx : X = none := hbad i e0 (fun c => hc (hal.1 c).1)
        repeat' (with_reducible refine And.intro ?_ ?_)
        all_goals first
          | trivial
          | ((refine Later.mk ?_; cbv; try simp only [wp, wpa, getL, takeL, dropL, TK.isAgg, reduceIte])
             exact none' hx _)
      · have hc : c2 = 0 := (by (try simp only [wf, wfa, nc, nc', Int.toNat_natCast] at *); (try simp (disch := omega) only [w64, w32, wu8] at *); omega)
        repeat' (with_reducible refine And.intro ?_ ?_)
        all_goals first
          | exact (by (try simp only [wf, wfa, nc, nc', Int.toNat_natCast] at *); (try simp (disch := omega) only [w64, w32, wu8] at *); omega)
          | trivial
          | (refine (f15g i (i + 1) K O S (by omega) (by omega) (by ((try simp only [wf, wfa, nc, nc', Int.toNat_natCast] at *); (try simp (disch := omega) only [w64, w32, wu8] at *)); omega) (by ((try simp only [wf, wfa, nc, nc', Int.toNat_natCast] at *); (try simp (disch := omega) only [w64, w32, wu8] at *)))).call ?_
             rintro _ ⟨x, hx, rfl⟩
             rw [Nat.add_sub_cancel_left] at hx
             rw [← hx] at hal
             cases x
             · have hx : X = none := hbad i e0 (fun c => by simpa using (hal.1 c).2)
               (cbv; try simp only [wp, wpa, getL, takeL, dropL, TK.isAgg, reduceIte])
               repeat' (with_reducible refine And.intro ?_ ?_)
               all_goals first
                 | trivial
                 | ((refine Later.mk ?_; cbv; try simp only [wp, wpa, getL, takeL, dropL, TK.isAgg, reduceIte])
                    exact none' hx _)
             · have ha := hal.2 ⟨hc, rfl⟩
               obtain ⟨h1, h0⟩ := hS0 ha
               (cbv; try simp only [wp, wpa, getL, takeL, dropL, TK.isAgg, reduceIte])
               repeat' first | with_reducible refine And.intro ?_ ?_ | intro c9
               all_goals first
                 | exact (by (try simp only [wf, wfa, nc, nc', Int.toNat_natCast] at *); (try simp (disch := omega) only [w64, w32, wu8] at *); omega)
                 | trivial
                 | (exfalso
                    apply c9
                    ((try simp only [wf, wfa, nc, nc', Int.toNat_natCast] at *); (try simp (disch := omega) only [w64, w32, wu8] at *))
                    first
                      | exact h0
                      | (show St 0 = S i
                         exact h0)
                      | (show ((S i).size : Int) = ((St 0).size : Int)
                         rw [h0]))
                 | ((refine Later.mk ?_; cbv; try simp only [wp, wpa, getL, takeL, dropL, TK.isAgg, reduceIte])
                    refine hBk ⟨i + 1⟩ _ (by dsimp only; omega) ⟨by dsimp only; omega, fun j hj => ?_⟩ ?_
                    · dsimp only at hj
                      rcases Nat.lt_or_ge j i with hl | hl
                      · exact y4 j hl
                      · obtain rfl : j = i := by omega
                        exact ha
                    · (cbv; try simp only [wf, wfa, exD, exL, exT, exB, exA, leLs, leL_d, leL_undef, deq_refl, deq_int, deq_bool, deq_str, and_true, true_and, AObj.iter.injEq, nc, nc']; try simp (disch := omega) only [w64, w32, wu8])
                      omega))
    · have e0 : i = m := (by (try simp only [wf, wfa, nc, nc', Int.toNat_natCast] at *); (try simp (disch := omega) only [w64, w32, wu8] at *); omega)
      have hal : ∀ j, j < m → aloneP (K j) (S j) := by rw [← e0]; exact y4
      have hXG := hall hal
      clear hbad hall y4 hBk
      (refine Later.mk ?_; cbv; try simp only [wp, wpa, getL, takeL, dropL, TK.isAgg, reduceIte])
      refine loopK (Tf := @T) @tabOk 400 (fun y : Sf => ⟨[.d (.sl m 3 (tokF K S O)), .undef, .undef, .undef, .undef, .undef, .undef, .d (.str y.out), .d (.int .i64 y.f), .d (.int .i64 y.a), .d (.int .i64 y.i), .undef, .undef, .undef, .undef, .undef, .undef, .undef, .undef, .undef, .undef, .undef, .undef, .undef, .undef, .undef, .undef, .undef, .undef, .undef, .undef, .undef, .undef, .undef, .undef, .undef, .undef, .undef, .undef, .undef, .undef, .undef, .undef, .undef, .undef, .undef, .undef, .undef, .undef, .undef, .undef, .undef, .undef, .undef, .undef, .undef, .undef, .undef, .undef, .undef, .undef, .undef, .undef, .undef, .undef, .undef, .undef, .undef, .undef, .undef, .undef, .undef, .undef, .undef, .undef, .undef, .undef, .undef, .undef, .undef, .undef, .undef, .undef, .undef, .undef, .undef, .undef, .undef, .undef, .undef, .undef, .undef, .undef, .undef, .undef, .undef, .undef, .undef, .undef, .undef, .undef, .undef, .undef, .undef, .undef, .undef, .undef, .undef, .undef, .undef, .undef, .undef, .undef, .undef, .undef, .undef, .undef, .undef, .undef, .undef, .undef, .undef, .undef, .undef, .undef, .undef, .undef, .undef, .undef, .undef, .undef, .undef, .undef, .undef, .undef], []⟩) (fun y => m - y.i)
        (fun y => y.i ≤ m ∧ (y.a < y.i ∨ y.i = 0 ∧ y.a = 0) ∧ y.out.size ≤ 16000 ∧ (y.f ≤ y.out.size ∧ y.out.extract y.f y.out.size = catL (segL K S y.a y.i)) ∧ joinG S sp m 0 ⟨#[]⟩ 0 = joinG S sp (m - y.i) y.i y.out y.a) ⟨0, 0, 0, ⟨⟨[]⟩⟩⟩
        ⟨Nat.zero_le _, .inr ⟨rfl, rfl⟩, Nat.zero_le _, ⟨Nat.le_refl _, by rw [segL_nil]; rfl⟩, rfl⟩ ?_ (fun y => rfl) @fun ⟨_, _, _, _, _, _, _, _, _, _, _, _, _, _, _, _, _, _, _, _, _, _, _, _, _, _, _, _, _, _, _, _, _, _, _, _, _, _, wpb, wfb⟩ ⟨i, a, f, out⟩ Bk hy hBk => ?_
      · (cbv; try simp only [wf, wfa, exD, exL, exT, exB, exA, leLs, leL_d, leL_undef, deq_refl, deq_int, deq_bool, deq_str, and_true, true_and, AObj.iter.injEq, nc, nc']; try simp (disch := omega) only [w64, w32, wu8])
        repeat' first | (with_reducible refine And.intro ?_ ?_) | rfl | trivial
      obtain ⟨y1, y2, y3, ⟨y6, y7⟩, y5⟩ := hy
      dsimp only at y1 y2 y3 y5 y6 y7
      (cbv; try simp only [wp, wpb, getL, takeL, dropL, TK.isAgg, reduceIte])
      refine ⟨fun e0 => ?_, fun e0 => ?_⟩
      · have e0 : i < m := (by (try simp only [wf, wfb, nc, nc', Int.toNat_natCast] at *); (try simp (disch := omega) only [w64, w32, wu8] at *); omega)
        have hzi := hz i e0
        have hXn : joinG S sp m 0 ⟨#[]⟩ 0 = none → X = none := fun hn => by rw [hXG, hn]
        have hmi : m - i = (m - (i + 1)) + 1 := by omega
        have hstS : 0 < i ∧ sp a i → joinG S sp (m - i) i out a = if (out ++ ⟨#[32]⟩ ++ S i).size > 16000 then none else joinG S sp (m - (i + 1)) (i + 1) (out ++ ⟨#[32]⟩ ++ S i) i := fun c => by
          rw [hmi, joinG, if_pos c]
        have hstN : ¬ (0 < i ∧ sp a i) → joinG S sp (m - i) i out a = if (out ++ S i).size > 16000 then none else joinG S sp (m - (i + 1)) (i + 1) (out ++ S i) a := fun c => by
          rw [hmi, joinG, if_neg c]
        have hs1 : segL K S a (i + 1) = segL K S a i ++ [(K i, S i)] := segL_snoc K S a i (by omega)
        have hcs : catL (segL K S a i ++ [(K i, S i)]) = out.extract f out.size ++ S i := by rw [catL_snoc, ← y7]
        (refine Later.mk ?_; cbv; try simp only [wp, wpb, getL, takeL, dropL, TK.isAgg, reduceIte])
        refine ⟨fun c1 => ?_, fun c1 => ?_⟩
        · have c1 : 0 < i := (by (try simp only [wf, wfb, nc, nc', Int.toNat_natCast] at *); (try simp (disch := omega) only [w64, w32, wu8] at *); omega)
          (refine Later.mk ?_; cbv; try simp only [wp, wpb, getL, takeL, dropL, TK.isAgg, reduceIte])
          have hxe : (out.extract f out.size).size ≤ out.size := by rw [ByteArray.size_extract]; omega
          repeat' (with_reducible refine And.intro ?_ ?_)
          all_goals first
            | exact (by (try simp only [wf, wfb, nc, nc', Int.toNat_natCast] at *); (try simp (disch := omega) only [w64, w32, wu8] at *); omega)
            | trivial
            | (((try simp only [wf, wfb, nc, nc', Int.toNat_natCast] at *); (try simp (disch := omega) only [w64, w32, wu8] at *))
               omega)
            | (refine (f11 _ (by ((try simp only [wf, wfb, nc, nc', Int.toNat_natCast] at *); (try simp (disch := omega) only [w64, w32, wu8] at *)); rw [ByteArray.size_append]; omega)).call ?_
               rintro _ ⟨n2, c2, a2, Kt, St, Ot, e1, e2, e3, e4, e5, e6, rfl⟩
               have hw : wellB (segL K S a i ++ [(K i, S i)]) ↔ (c2 = 0 ∧ (decide (n2 = i + 1 - a) && Tk.alike ⟨Kt, St, Ot⟩ ⟨fun j => K (a + j), fun j => S (a + j), fun j => O (a + j)⟩ n2) = true) := by
                 ((try simp only [wf, wfb, nc, nc', Int.toNat_natCast] at *); (try simp (disch := omega) only [w64, w32, wu8] at *))
                 rw [e1, e4, e5, map_kt_iff, e2, wellB, hcs, ← hs1]
                 exact Iff.rfl
               have hl : n2 < 2 ^ 40 := by
                 ((try simp only [wf, wfb, nc, nc', Int.toNat_natCast] at *); (try simp (disch := omega) only [w64, w32, wu8] at *))
                 have := split_len (out.extract f out.size ++ S i)
                 rw [ByteArray.size_append] at this
                 omega
               clear e1 e2 e3 e4 e5 e6
               (cbv; try simp only [wp, wpb, getL, takeL, dropL, TK.isAgg, reduceIte])
               repeat' first | (with_reducible refine And.intro ?_ ?_) | (intro hc)
               all_goals first
                 | exact (by (try simp only [wf, wfb, nc, nc', Int.toNat_natCast] at *); (try simp (disch := omega) only [w64, w32, wu8] at *); omega)
                 | trivial
                 | (have hc : ¬ c2 = 0 := (by (try simp only [wf, wfb, nc, nc', Int.toNat_natCast] at *); (try simp (disch := omega) only [w64, w32, wu8] at *); omega)
                    have hys : 0 < i ∧ sp a i := ⟨c1, by rw [hsp]; exact .inr (fun c => hc (hw.1 c).1)⟩
                    repeat' (with_reducible refine And.intro ?_ ?_)
                    all_goals first
                      | trivial
                      | (obtain ⟨o2, ho2⟩ : ∃ o2, o2 = out ++ ⟨#[32]⟩ ++ S i := ⟨_, rfl⟩
                         obtain ⟨f2, hf2⟩ : ∃ f2, f2 = out.size + 1 := ⟨_, rfl⟩
                         have hz1 : (out ++ (⟨#[32]⟩ : ByteArray)).size = out.size + 1 := by rw [ByteArray.size_append]; rfl
                         have hz2 : o2.size = out.size + 1 + (S i).size := by rw [ho2, ByteArray.size_append, hz1]
                         (refine Later.mk ?_; cbv; try simp only [wp, wpb, getL, takeL, dropL, TK.isAgg, reduceIte])
                         repeat' first | with_reducible refine And.intro ?_ ?_ | intro c8
                         all_goals first
                           | exact (by (try simp only [wf, wfb, nc, nc', Int.toNat_natCast] at *); (try simp (disch := omega) only [w64, w32, wu8] at *); omega)
                           | trivial
                           | (((try simp only [wf, wfb, nc, nc', Int.toNat_natCast] at *); (try simp (disch := omega) only [w64, w32, wu8] at *))
                              decide)
                           | (((try simp only [wf, wfb, nc, nc', Int.toNat_natCast] at *); (try simp (disch := omega) only [w64, w32, wu8] at *))
                              rw [hz1]
                              omega)
                           | (have c5 : 16000 < o2.size := by
                                ((try simp only [wf, wfb, nc, nc', Int.toNat_natCast] at *); (try simp (disch := omega) only [w64, w32, wu8] at *))
                                rw [← ho2] at c8
                                omega
                              (refine Later.mk ?_; cbv; try simp only [wp, wpb, getL, takeL, dropL, TK.isAgg, reduceIte])
                              exact none' (hXn (by rw [y5, hstS hys, if_pos (by rw [← ho2]; exact c5)])) _)
                           | (have c5 : o2.size ≤ 16000 := by
                                ((try simp only [wf, wfb, nc, nc', Int.toNat_natCast] at *); (try simp (disch := omega) only [w64, w32, wu8] at *))
                                rw [← ho2] at c8
                                omega
                              (refine Later.mk ?_; cbv; try simp only [wp, wpb, getL, takeL, dropL, TK.isAgg, reduceIte])
                              refine hBk ⟨i + 1, i, f2, o2⟩ _ (by dsimp only; omega) ⟨by dsimp only; omega, .inl (by dsimp only; omega), c5, ⟨by dsimp only; omega, ?_⟩, ?_⟩ ?_
                              · dsimp only
                                rw [ho2, segL_snoc K S i i (Nat.le_refl _), segL_nil, List.nil_append, ext_app _ _ f2 (by omega), hf2, ← hz1, ext_nil]
                                show ByteArray.empty ++ S i = S i ++ ByteArray.empty
                                rw [ByteArray.empty_append, ByteArray.append_empty]
                              · dsimp only
                                rw [y5, hstS hys, if_neg (by rw [← ho2]; omega), ← ho2]
                              · (cbv; try simp only [wf, wfb, exD, exL, exT, exB, exA, leLs, leL_d, leL_undef, deq_refl, deq_int, deq_bool, deq_str, and_true, true_and, AObj.iter.injEq, nc, nc']; try simp (disch := omega) only [w64, w32, wu8])
                                rw [Int.toNat_natCast]
                                first
                                  | exact ⟨ho2.symm, by rw [hf2, hz1], by omega⟩
                                  | exact ⟨ho2.symm, by rw [hf2, hz1]; rfl, by omega⟩
                                  | trace_state)))
                 | (have hc : c2 = 0 := (by (try simp only [wf, wfb, nc, nc', Int.toNat_natCast] at *); (try simp (disch := omega) only [w64, w32, wu8] at *); omega)
                    refine (f15g a (i + 1) K O S hl (by omega) (by ((try simp only [wf, wfb, nc, nc', Int.toNat_natCast] at *); (try simp (disch := omega) only [w64, w32, wu8] at *)); omega) (by ((try simp only [wf, wfb, nc, nc', Int.toNat_natCast] at *); (try simp (disch := omega) only [w64, w32, wu8] at *)))).call ?_
                    rintro _ ⟨x, hx, rfl⟩
                    rw [← hx] at hw
                    cases x
                    · have hys : 0 < i ∧ sp a i := ⟨c1, by rw [hsp]; exact .inr (fun c => by simpa using (hw.1 c).2)⟩
                      (cbv; try simp only [wp, wpb, getL, takeL, dropL, TK.isAgg, reduceIte])
                      repeat' (with_reducible refine And.intro ?_ ?_)
                      all_goals first
                        | trivial
                        | (obtain ⟨o2, ho2⟩ : ∃ o2, o2 = out ++ ⟨#[32]⟩ ++ S i := ⟨_, rfl⟩
                           obtain ⟨f2, hf2⟩ : ∃ f2, f2 = out.size + 1 := ⟨_, rfl⟩
                           have hz1 : (out ++ (⟨#[32]⟩ : ByteArray)).size = out.size + 1 := by rw [ByteArray.size_append]; rfl
                           have hz2 : o2.size = out.size + 1 + (S i).size := by rw [ho2, ByteArray.size_append, hz1]
                           (refine Later.mk ?_; cbv; try simp only [wp, wpb, getL, takeL, dropL, TK.isAgg, reduceIte])
                           repeat' first | with_reducible refine And.intro ?_ ?_ | intro c8
                           all_goals first
                             | exact (by (try simp only [wf, wfb, nc, nc', Int.toNat_natCast] at *); (try simp (disch := omega) only [w64, w32, wu8] at *); omega)
                             | trivial
                             | (((try simp only [wf, wfb, nc, nc', Int.toNat_natCast] at *); (try simp (disch := omega) only [w64, w32, wu8] at *))
                                decide)
                             | (((try simp only [wf, wfb, nc, nc', Int.toNat_natCast] at *); (try simp (disch := omega) only [w64, w32, wu8] at *))
                                rw [hz1]
                                omega)
                             | (have c5 : 16000 < o2.size := by
                                  ((try simp only [wf, wfb, nc, nc', Int.toNat_natCast] at *); (try simp (disch := omega) only [w64, w32, wu8] at *))
                                  rw [← ho2] at c8
                                  omega
                                (refine Later.mk ?_; cbv; try simp only [wp, wpb, getL, takeL, dropL, TK.isAgg, reduceIte])
                                exact none' (hXn (by rw [y5, hstS hys, if_pos (by rw [← ho2]; exact c5)])) _)
                             | (have c5 : o2.size ≤ 16000 := by
                                  ((try simp only [wf, wfb, nc, nc', Int.toNat_natCast] at *); (try simp (disch := omega) only [w64, w32, wu8] at *))
                                  rw [← ho2] at c8
                                  omega
                                (refine Later.mk ?_; cbv; try simp only [wp, wpb, getL, takeL, dropL, TK.isAgg, reduceIte])
                                refine hBk ⟨i + 1, i, f2, o2⟩ _ (by dsimp only; omega) ⟨by dsimp only; omega, .inl (by dsimp only; omega), c5, ⟨by dsimp only; omega, ?_⟩, ?_⟩ ?_
                                · dsimp only
                                  rw [ho2, segL_snoc K S i i (Nat.le_refl _), segL_nil, List.nil_append, ext_app _ _ f2 (by omega), hf2, ← hz1, ext_nil]
                                  show ByteArray.empty ++ S i = S i ++ ByteArray.empty
                                  rw [ByteArray.empty_append, ByteArray.append_empty]
                                · dsimp only
                                  rw [y5, hstS hys, if_neg (by rw [← ho2]; omega), ← ho2]
                                · (cbv; try simp only [wf, wfb, exD, exL, exT, exB, exA, leLs, leL_d, leL_undef, deq_refl, deq_int, deq_bool, deq_str, and_true, true_and, AObj.iter.injEq, nc, nc']; try simp (disch := omega) only [w64, w32, wu8])
                                  rw [Int.toNat_natCast]
                                  first
                                    | exact ⟨ho2.symm, by rw [hf2, hz1], by omega⟩
                                    | exact ⟨ho2.symm, by rw [hf2, hz1]; rfl, by omega⟩
                                    | trace_state))
                    · have hw := hw.2 ⟨hc, rfl⟩
                      (cbv; try simp only [wp, wpb, getL, takeL, dropL, TK.isAgg, reduceIte])
                      repeat' (with_reducible refine And.intro ?_ ?_)
                      all_goals first
                        | exact (by (try simp only [wf, wfb, nc, nc', Int.toNat_natCast] at *); (try simp (disch := omega) only [w64, w32, wu8] at *); omega)
                        | trivial
                        | (refine (f33 _ _ _).call ?_
                           rintro _ ⟨b1, hb1, rfl⟩
                           have hb1 : b1 = decide (K i ≠ 4) := by
                             ((try simp only [wf, wfb, nc, nc', Int.toNat_natCast] at *); (try simp (disch := omega) only [w64, w32, wu8] at *))
                             exact hb1
                           cases b1
                           · have hns : ¬ (0 < i ∧ sp a i) := fun c => by
                               have c2 := c.2
                               rw [hsp] at c2
                               rcases c2 with d | d
                               · exact of_decide_eq_false hb1.symm d.2
                               · exact d hw
                             (cbv; try simp only [wp, wpb, getL, takeL, dropL, TK.isAgg, reduceIte])
                             repeat' (with_reducible refine And.intro ?_ ?_)
                             all_goals first
                               | trivial
                               | (obtain ⟨o2, ho2⟩ : ∃ o2, o2 = out ++ S i := ⟨_, rfl⟩
                                  have hz2 : o2.size = out.size + (S i).size := by rw [ho2, ByteArray.size_append]
                                  (refine Later.mk ?_; cbv; try simp only [wp, wpb, getL, takeL, dropL, TK.isAgg, reduceIte])
                                  repeat' first | with_reducible refine And.intro ?_ ?_ | intro c8
                                  all_goals first
                                    | exact (by (try simp only [wf, wfb, nc, nc', Int.toNat_natCast] at *); (try simp (disch := omega) only [w64, w32, wu8] at *); omega)
                                    | trivial
                                    | (have c5 : 16000 < o2.size := by
                                         ((try simp only [wf, wfb, nc, nc', Int.toNat_natCast] at *); (try simp (disch := omega) only [w64, w32, wu8] at *))
                                         rw [← ho2] at c8
                                         omega
                                       (refine Later.mk ?_; cbv; try simp only [wp, wpb, getL, takeL, dropL, TK.isAgg, reduceIte])
                                       exact none' (hXn (by rw [y5, hstN hns, if_pos (by rw [← ho2]; exact c5)])) _)
                                    | (have c5 : o2.size ≤ 16000 := by
                                         ((try simp only [wf, wfb, nc, nc', Int.toNat_natCast] at *); (try simp (disch := omega) only [w64, w32, wu8] at *))
                                         rw [← ho2] at c8
                                         omega
                                       (refine Later.mk ?_; cbv; try simp only [wp, wpb, getL, takeL, dropL, TK.isAgg, reduceIte])
                                       refine hBk ⟨i + 1, a, f, o2⟩ _ (by dsimp only; omega) ⟨by dsimp only; omega, .inl (by dsimp only; omega), c5, ⟨by dsimp only; omega, ?_⟩, ?_⟩ ?_
                                       · dsimp only
                                         rw [ho2, ext_app out (S i) f y6, hs1, hcs]
                                       · dsimp only
                                         rw [y5, hstN hns, if_neg (by rw [← ho2]; omega), ← ho2]
                                       · (cbv; try simp only [wf, wfb, exD, exL, exT, exB, exA, leLs, leL_d, leL_undef, deq_refl, deq_int, deq_bool, deq_str, and_true, true_and, AObj.iter.injEq, nc, nc']; try simp (disch := omega) only [w64, w32, wu8])
                                         rw [Int.toNat_natCast]
                                         exact ⟨ho2.symm, by omega⟩))
                           · have hb1 := of_decide_eq_true hb1.symm
                             (cbv; try simp only [wp, wpb, getL, takeL, dropL, TK.isAgg, reduceIte])
                             repeat' (with_reducible refine And.intro ?_ ?_)
                             all_goals first
                               | exact (by (try simp only [wf, wfb, nc, nc', Int.toNat_natCast] at *); (try simp (disch := omega) only [w64, w32, wu8] at *); omega)
                               | trivial
                               | (refine (f33 _ _ _).call ?_
                                  rintro _ ⟨b2, hb2, rfl⟩
                                  have hb2 : b2 = decide (K (i - 1) ≠ 4) := by
                                    ((try simp only [wf, wfb, nc, nc', Int.toNat_natCast] at *); (try simp (disch := omega) only [w64, w32, wu8] at *))
                                    rw [hb2, show ((i : Int) - 1).toNat = i - 1 by omega]
                                  cases b2
                                  · have hns : ¬ (0 < i ∧ sp a i) := fun c => by
                                      have c2 := c.2
                                      rw [hsp] at c2
                                      rcases c2 with d | d
                                      · exact of_decide_eq_false hb2.symm d.1
                                      · exact d hw
                                    (cbv; try simp only [wp, wpb, getL, takeL, dropL, TK.isAgg, reduceIte])
                                    repeat' (with_reducible refine And.intro ?_ ?_)
                                    all_goals first
                                      | trivial
                                      | (obtain ⟨o2, ho2⟩ : ∃ o2, o2 = out ++ S i := ⟨_, rfl⟩
                                         have hz2 : o2.size = out.size + (S i).size := by rw [ho2, ByteArray.size_append]
                                         (refine Later.mk ?_; cbv; try simp only [wp, wpb, getL, takeL, dropL, TK.isAgg, reduceIte])
                                         repeat' first | with_reducible refine And.intro ?_ ?_ | intro c8
                                         all_goals first
                                           | exact (by (try simp only [wf, wfb, nc, nc', Int.toNat_natCast] at *); (try simp (disch := omega) only [w64, w32, wu8] at *); omega)
                                           | trivial
                                           | (have c5 : 16000 < o2.size := by
                                                ((try simp only [wf, wfb, nc, nc', Int.toNat_natCast] at *); (try simp (disch := omega) only [w64, w32, wu8] at *))
                                                rw [← ho2] at c8
                                                omega
                                              (refine Later.mk ?_; cbv; try simp only [wp, wpb, getL, takeL, dropL, TK.isAgg, reduceIte])
                                              exact none' (hXn (by rw [y5, hstN hns, if_pos (by rw [← ho2]; exact c5)])) _)
                                           | (have c5 : o2.size ≤ 16000 := by
                                                ((try simp only [wf, wfb, nc, nc', Int.toNat_natCast] at *); (try simp (disch := omega) only [w64, w32, wu8] at *))
                                                rw [← ho2] at c8
                                                omega
                                              (refine Later.mk ?_; cbv; try simp only [wp, wpb, getL, takeL, dropL, TK.isAgg, reduceIte])
                                              refine hBk ⟨i + 1, a, f, o2⟩ _ (by dsimp only; omega) ⟨by dsimp only; omega, .inl (by dsimp only; omega), c5, ⟨by dsimp only; omega, ?_⟩, ?_⟩ ?_
                                              · dsimp only
                                                rw [ho2, ext_app out (S i) f y6, hs1, hcs]
                                              · dsimp only
                                                rw [y5, hstN hns, if_neg (by rw [← ho2]; omega), ← ho2]
                                              · (cbv; try simp only [wf, wfb, exD, exL, exT, exB, exA, leLs, leL_d, leL_undef, deq_refl, deq_int, deq_bool, deq_str, and_true, true_and, AObj.iter.injEq, nc, nc']; try simp (disch := omega) only [w64, w32, wu8])
                                                rw [Int.toNat_natCast]
                                                exact ⟨ho2.symm, by omega⟩))
                                  · have hys : 0 < i ∧ sp a i := ⟨c1, by rw [hsp]; exact .inl ⟨of_decide_eq_true hb2.symm, hb1⟩⟩
                                    (cbv; try simp only [wp, wpb, getL, takeL, dropL, TK.isAgg, reduceIte])
                                    repeat' (with_reducible refine And.intro ?_ ?_)
                                    all_goals first
                                      | trivial
                                      | (obtain ⟨o2, ho2⟩ : ∃ o2, o2 = out ++ ⟨#[32]⟩ ++ S i := ⟨_, rfl⟩
                                         obtain ⟨f2, hf2⟩ : ∃ f2, f2 = out.size + 1 := ⟨_, rfl⟩
                                         have hz1 : (out ++ (⟨#[32]⟩ : ByteArray)).size = out.size + 1 := by rw [ByteArray.size_append]; rfl
                                         have hz2 : o2.size = out.size + 1 + (S i).size := by rw [ho2, ByteArray.size_append, hz1]
                                         (refine Later.mk ?_; cbv; try simp only [wp, wpb, getL, takeL, dropL, TK.isAgg, reduceIte])
                                         repeat' first | with_reducible refine And.intro ?_ ?_ | intro c8
                                         all_goals first
                                           | exact (by (try simp only [wf, wfb, nc, nc', Int.toNat_natCast] at *); (try simp (disch := omega) only [w64, w32, wu8] at *); omega)
                                           | trivial
                                           | (((try simp only [wf, wfb, nc, nc', Int.toNat_natCast] at *); (try simp (disch := omega) only [w64, w32, wu8] at *))
                                              decide)
                                           | (((try simp only [wf, wfb, nc, nc', Int.toNat_natCast] at *); (try simp (disch := omega) only [w64, w32, wu8] at *))
                                              rw [hz1]
                                              omega)
                                           | (have c5 : 16000 < o2.size := by
                                                ((try simp only [wf, wfb, nc, nc', Int.toNat_natCast] at *); (try simp (disch := omega) only [w64, w32, wu8] at *))
                                                rw [← ho2] at c8
                                                omega
                                              (refine Later.mk ?_; cbv; try simp only [wp, wpb, getL, takeL, dropL, TK.isAgg, reduceIte])
                                              exact none' (hXn (by rw [y5, hstS hys, if_pos (by rw [← ho2]; exact c5)])) _)
                                           | (have c5 : o2.size ≤ 16000 := by
                                                ((try simp only [wf, wfb, nc, nc', Int.toNat_natCast] at *); (try simp (disch := omega) only [w64, w32, wu8] at *))
                                                rw [← ho2] at c8
                                                omega
                                              (refine Later.mk ?_; cbv; try simp only [wp, wpb, getL, takeL, dropL, TK.isAgg, reduceIte])
                                              refine hBk ⟨i + 1, i, f2, o2⟩ _ (by dsimp only; omega) ⟨by dsimp only; omega, .inl (by dsimp only; omega), c5, ⟨by dsimp only; omega, ?_⟩, ?_⟩ ?_
                                              · dsimp only
                                                rw [ho2, segL_snoc K S i i (Nat.le_refl _), segL_nil, List.nil_append, ext_app _ _ f2 (by omega), hf2, ← hz1, ext_nil]
                                                show ByteArray.empty ++ S i = S i ++ ByteArray.empty
                                                rw [ByteArray.empty_append, ByteArray.append_empty]
                                              · dsimp only
                                                rw [y5, hstS hys, if_neg (by rw [← ho2]; omega), ← ho2]
                                              · (cbv; try simp only [wf, wfb, exD, exL, exT, exB, exA, leLs, leL_d, leL_undef, deq_refl, deq_int, deq_bool, deq_str, and_true, true_and, AObj.iter.injEq, nc, nc']; try simp (disch := omega) only [w64, w32, wu8])
                                                rw [Int.toNat_natCast]
                                                first
                                                  | exact ⟨ho2.symm, by rw [hf2, hz1], by omega⟩
                                                  | exact ⟨ho2.symm, by rw [hf2, hz1]; rfl, by omega⟩
                                                  | trace_state))))))
        · have c1 : i = 0 := (by (try simp only [wf, wfb, nc, nc', Int.toNat_natCast] at *); (try simp (disch := omega) only [w64, w32, wu8] at *); omega)
          have hns : ¬ (0 < i ∧ sp a i) := fun c => by omega
          obtain ⟨o2, ho2⟩ : ∃ o2, o2 = out ++ S i := ⟨_, rfl⟩
          have hz2 : o2.size = out.size + (S i).size := by rw [ho2, ByteArray.size_append]
          (refine Later.mk ?_; cbv; try simp only [wp, wpb, getL, takeL, dropL, TK.isAgg, reduceIte])
          repeat' first | with_reducible refine And.intro ?_ ?_ | intro c8
          all_goals first
            | exact (by (try simp only [wf, wfb, nc, nc', Int.toNat_natCast] at *); (try simp (disch := omega) only [w64, w32, wu8] at *); omega)
            | trivial
            | (have c5 : 16000 < o2.size := by
                 ((try simp only [wf, wfb, nc, nc', Int.toNat_natCast] at *); (try simp (disch := omega) only [w64, w32, wu8] at *))
                 rw [← ho2] at c8
                 omega
               (refine Later.mk ?_; cbv; try simp only [wp, wpb, getL, takeL, dropL, TK.isAgg, reduceIte])
               exact none' (hXn (by rw [y5, hstN hns, if_pos (by rw [← ho2]; exact c5)])) _)
            | (have c5 : o2.size ≤ 16000 := by
                 ((try simp only [wf, wfb, nc, nc', Int.toNat_natCast] at *); (try simp (disch := omega) only [w64, w32, wu8] at *))
                 rw [← ho2] at c8
                 omega
               (refine Later.mk ?_; cbv; try simp only [wp, wpb, getL, takeL, dropL, TK.isAgg, reduceIte])
               refine hBk ⟨i + 1, a, f, o2⟩ _ (by dsimp only; omega) ⟨by dsimp only; omega, .inl (by dsimp only; omega), c5, ⟨by dsimp only; omega, ?_⟩, ?_⟩ ?_
               · dsimp only
                 rw [ho2, ext_app out (S i) f y6, hs1, hcs]
               · dsimp only
                 rw [y5, hstN hns, if_neg (by rw [← ho2]; omega), ← ho2]
               · (cbv; try simp only [wf, wfb, exD, exL, exT, exB, exA, leLs, leL_d, leL_undef, deq_refl, deq_int, deq_bool, deq_str, and_true, true_and, AObj.iter.injEq, nc, nc']; try simp (disch := omega) only [w64, w32, wu8])
                 rw [Int.toNat_natCast]
                 exact ⟨ho2.symm, by omega⟩)
      · have e0 : i = m := (by (try simp only [wf, wfb, nc, nc', Int.toNat_natCast] at *); (try simp (disch := omega) only [w64, w32, wu8] at *); omega)
        (refine Later.mk ?_; cbv; try simp only [wp, wpb, getL, takeL, dropL, TK.isAgg, reduceIte])
        have hx : X = some out := by
          rw [hXG, y5, e0, Nat.sub_self, joinG]
        exact hR _ _ _ (fun c => by rw [hx] at c; cases c) (fun u hu => by rw [hx] at hu; cases hu; exact ⟨rfl, rfl⟩)
end Go.VM
