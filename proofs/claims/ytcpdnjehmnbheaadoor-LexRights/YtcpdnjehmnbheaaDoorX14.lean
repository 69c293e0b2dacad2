/- Contracts of the functions that the law reaches: part of the proof (X14). -/
import Derived.Test.YtcpdnjehmnbheaaDoorX13
namespace Go.VM
open Go.Proofs Go
set_option maxRecDepth 100000
set_option linter.unusedVariables false
set_option linter.unusedSimpArgs false

theorem sign_iff (s : ByteArray) (k : Nat) (hk : k ≤ s.size) (p : ByteArray) : preB (s.extract k s.size) p = true ↔ p.size ≤ s.size - k ∧ s.extract k (k + p.size) = p := by
  refine ⟨sign_at s k hk p, fun ⟨h1, h2⟩ => ?_⟩
  have hz := ext_size s k hk
  simp only [preB, hz, Bool.and_eq_true, decide_eq_true_eq]
  refine ⟨h1, ?_⟩
  rw [ByteArray.extract_extract]
  simp only [Nat.add_zero]
  rw [Nat.min_eq_left (by omega)]
  exact h2
theorem signs_size2 : ∀ i, i < 17 → (nthS signsL i).size ≤ 2 := by decide

set_option maxHeartbeats 2000000
theorem f24 (s : ByteArray) (i : Int) (k : Nat) (hk : i = k) (h1 : k < s.size) (hs : s.size < 2 ^ 40) : VFun (P ()) 24 [.d (.str s), .d (.int .i64 i)] (fun r => ∃ x, x = tokR s k ∧ r = .tup [.agg [.d (.int .i64 x.kind), .d (.str x.text), .d (.int .i64 x.pos)], .agg [.d (.int .i64 x.code), .d (.int .i64 x.at')]]) := by
  refine vfun (Tf := @T) @tabOk Tryd.func24 rfl rfl (Nat.le_of_ble_eq_true rfl) @fun ⟨_, _, _, _, _, _, _, _, _, _, _, _, _, _, _, _, _, _, _, _, _, _, _, _, _, _, _, _, _, _, _, _, _, _, _, _, _, _, wp, wf⟩ R hR => ?_
  cbv
  try simp only [wp, getL, takeL, dropL, TK.isAgg, reduceIte]
  replace hR := fun x H h => hR _ H _ (.tup2 (.aggD [_, _, _]) (.aggD [_, _])) ⟨x, h, rfl⟩
  have hb : btF s i = btF s (k : Int) := by rw [hk]
  refine ⟨(by (try simp only [wf, nc, nc'] at *); (try simp (disch := omega) only [w64, w32, wu8] at *); omega), (by (try simp only [wf, nc, nc'] at *); (try simp (disch := omega) only [w64, w32, wu8] at *); omega), ?_⟩
  refine (f38 _).call ?_
  rintro _ ⟨l, hl, rfl⟩
  replace hl : l = letterB (btF s k) := by ((try simp only [wf, nc, nc'] at *); (try simp (disch := omega) only [w64, w32, wu8] at *)); rw [hl, hb]
  cases l <;> (cbv; try simp only [wp, getL, takeL, dropL, TK.isAgg, reduceIte])
  · refine ⟨(by (try simp only [wf, nc, nc'] at *); (try simp (disch := omega) only [w64, w32, wu8] at *); omega), (by (try simp only [wf, nc, nc'] at *); (try simp (disch := omega) only [w64, w32, wu8] at *); omega), ?_⟩
    refine (f39 _).call ?_
    rintro _ ⟨d, hd, rfl⟩
    replace hd : d = digitB (btF s k) := by ((try simp only [wf, nc, nc'] at *); (try simp (disch := omega) only [w64, w32, wu8] at *)); rw [hd, hb]
    cases d <;> (cbv; try simp only [wp, getL, takeL, dropL, TK.isAgg, reduceIte])
    · refine f41.call ?_
      rintro _ ⟨f, hf, rfl⟩
      (cbv; try simp only [wp, getL, takeL, dropL, TK.isAgg, reduceIte])
      refine loopV (Tf := @T) @tabOk (fun y : Nat => ⟨mk 154 [(0, .d (.str s)), (1, .d (.int .i64 i)), (4, .ptr 0 0), (5, .ptr 1 0), (9, .d (.sl 17 1 (strsG f))), (10, .d (.int .i64 y))], [.box [.d (.int .i64 0), .d (.str ⟨#[]⟩), .d (.int .i64 0)], .box [.d (.int .i64 0), .d (.int .i64 0)]]⟩) (fun y => 17 - y) (fun y => y ≤ 17 ∧ signF f (s.extract k s.size) y (17 - y) = signF f (s.extract k s.size) 0 17) 0 ⟨by omega, rfl⟩ ?_ (fun y => rfl) @fun ⟨_, _, _, _, _, _, _, _, _, _, _, _, _, _, _, _, _, _, _, _, _, _, _, _, _, _, _, _, _, _, _, _, _, _, _, _, _, _, wpa, wfa⟩ y Bk hy hBk => ?_
      · (cbv; try simp only [wf, exD, exL, exT, exB, exA, leLs, leL_d, leL_undef, deq_refl, deq_int, deq_bool, deq_str, and_true, true_and, AObj.iter.injEq, nc, nc']; try simp (disch := omega) only [w64, w32, wu8])
        rfl
      (cbv; try simp only [wp, wpa, getL, takeL, dropL, TK.isAgg, reduceIte])
      obtain ⟨y1, y2⟩ := hy
      have tok : tokR s k = if signF f (s.extract k s.size) 0 17 < 0 then { code := 110, at' := k }
        else { kind := 4, text := f (signF f (s.extract k s.size) 0 17).toNat, pos := k, fin := k + (f (signF f (s.extract k s.size) 0 17).toNat).size } := by rw [hf]; simp [tokR, ← hl, ← hd]
      rw [← y2] at tok
      have hu : y < 17 → signF f (s.extract k s.size) y (17 - y) = if preB (s.extract k s.size) (f y) = true then (y : Int) else signF f (s.extract k s.size) (y + 1) (17 - (y + 1)) := fun h => by
        rw [show 17 - y = 17 - (y + 1) + 1 by omega]
        rfl
      have hsz : y < 17 → (f y).size ≤ 2 := fun h => by rw [hf]; exact signs_size2 y h
      have hiff := sign_iff s k (by omega) (f y)
      obtain ⟨m, hm⟩ : ∃ m, m = (f y).size := ⟨_, rfl⟩
      (try simp only [nc, nc'] at *)
      have hw : y < 17 → IntKind.i64.wrap (i + m) = ((k + m : Nat) : Int) := fun h => by
        have := hsz h
        rw [w64 (by omega) (by omega)]; omega
      rw [← hm] at hsz hiff
      refine ⟨fun e0 => ?_, fun e0 => ?_⟩
      · have e0 : y < 17 := (by (try simp only [wf, wfa, nc, nc'] at *); (try simp (disch := omega) only [w64, w32, wu8] at *); omega)
        obtain ⟨y2', hy2⟩ : ∃ y2', y2' = y + 1 := ⟨_, rfl⟩
        have hw := hw e0
        have hsz := hsz e0
        have hu := hu e0
        have bk : ∀ s', ¬ preB (s.extract k s.size) (f y) = true → leS 0 ⟨mk 154 [(0, .d (.str s)), (1, .d (.int .i64 i)), (4, .ptr 0 0), (5, .ptr 1 0), (9, .d (.sl 17 1 (strsG f))), (10, .d (.int .i64 (y2' : Int)))], [.box [.d (.int .i64 0), .d (.str ⟨#[]⟩), .d (.int .i64 0)], .box [.d (.int .i64 0), .d (.int .i64 0)]]⟩ s' → Bk s' := fun s' hn hle => hBk y2' s' (by omega) ⟨by omega, by rw [← y2, hu, if_neg hn, hy2]⟩ hle
        have leaf : ∀ H, preB (s.extract k s.size) (f y) = true → R (A.tup [A.agg [A.d (D.int IntKind.i64 4), A.d (D.str (f y)), A.d (D.int IntKind.i64 i)], A.agg [A.d (D.int IntKind.i64 0), A.d (D.int IntKind.i64 0)]]) H := fun H hp => by
          rw [hu, if_pos hp, if_neg (by omega), Int.toNat_natCast] at tok
          have := hR _ H tok.symm
          rw [hk]
          exact this
        have hk3 : i.toNat = k := by omega
        refine ⟨(by (try simp only [wf, wfa, nc, nc'] at *); (try simp (disch := omega) only [w64, w32, wu8] at *); omega), (by (try simp only [wf, wfa, nc, nc'] at *); (try simp (disch := omega) only [w64, w32, wu8] at *); omega), fun c1 => ?_, fun c1 => ?_⟩
        all_goals
          have c1' := c1
          simp only [wfa, wf, nc, nc', Int.toNat_natCast, ← hm, hw] at c1'
        all_goals repeat' first | with_reducible refine And.intro ?_ ?_ | intro c2
        all_goals first
          | exact (by (try simp only [wf, wfa, nc, nc'] at *); (try simp (disch := omega) only [w64, w32, wu8] at *); omega)
          | trivial
          | (simp only [wfa, wf, nc, nc', Int.toNat_natCast, ← hm, hw]; omega)
          | (simp only [wfa, wf, nc, nc', Int.toNat_natCast, ← hm, hw, hk3] at c2 ⊢; exact leaf _ (hiff.2 ⟨by omega, c2⟩))
          | (refine bk _ (fun hp => ?_) ?_; (first | exact absurd (hiff.1 hp).1 (by omega) | (simp only [wfa, wf, nc, nc', Int.toNat_natCast, ← hm, hw, hk3] at c2; exact c2 (hiff.1 hp).2)); (cbv; try simp only [wf, wfa, exD, exL, exT, exB, exA, leLs, leL_d, leL_undef, deq_refl, deq_int, deq_bool, deq_str, and_true, true_and, AObj.iter.injEq, nc, nc']; try simp (disch := omega) only [w64, w32, wu8]); try omega; done)
      · have e0 : ¬ y < 17 := (by (try simp only [wf, wfa, nc, nc'] at *); (try simp (disch := omega) only [w64, w32, wu8] at *); omega)
        have : y = 17 := by omega
        rw [this] at tok
        have := hR _ [AObj.box [A.d (D.int IntKind.i64 0), A.d (D.str { data := { toList := [] } }), A.d (D.int IntKind.i64 0)], AObj.box [A.d (D.int IntKind.i64 110), A.d (D.int IntKind.i64 i)]] (tok.trans (if_pos (by show (-1 : Int) < 0; omega))).symm
        simp only [List.map, ← hk] at this
        exact this
    · have hE := spanEnd_bounds (fun i => digitB (btF s i)) s.size _ k rfl (by omega)
      have hE2 : k ≤ digitsE s k ∧ digitsE s k ≤ s.size := hE
      have hz : ∃ e, e = digitsE s k := ⟨_, rfl⟩
      obtain ⟨E, hz⟩ := hz
      rw [← hz] at hE2
      have tok : tokR s k = (if numF s k (E - k) 0 > 1000000000 then { code := 10, at' := k }
            else if letterB (atI s E) then { code := 110, at' := E }
            else { kind := 3, text := s.extract k E, pos := k, fin := E }) := by rw [hz]; simp [tokR, ← hl, ← hd]
      refine loopV (Tf := @T) @tabOk (fun y : Nat × Int => ⟨mk 154 [(0, .d (.str s)), (1, .d (.int .i64 i)), (4, .ptr 0 0), (5, .ptr 1 0), (6, .d (.int .i64 y.1)), (8, .d (.int .i64 y.2))], [.box [.d (.int .i64 0), .d (.str ⟨#[]⟩), .d (.int .i64 0)], .box [.d (.int .i64 0), .d (.int .i64 0)]]⟩) (fun y => s.size - y.1) (fun y => k ≤ y.1 ∧ y.1 ≤ s.size ∧ 0 ≤ y.2 ∧ y.2 ≤ 1000000001 ∧ digitsE s y.1 = E ∧ numF s y.1 (E - y.1) y.2 = numF s k (E - k) 0) (k, 0) ⟨by omega, by omega, by omega, by omega, hz.symm, rfl⟩ ?_ (fun y => rfl) @fun ⟨_, _, _, _, _, _, _, _, _, _, _, _, _, _, _, _, _, _, _, _, _, _, _, _, _, _, _, _, _, _, _, _, _, _, _, _, _, _, wpa, wfa⟩ ⟨j, n⟩ Bk hy hBk => ?_
      · (cbv; try simp only [wf, exD, exL, exT, exB, exA, leLs, leL_d, leL_undef, deq_refl, deq_int, deq_bool, deq_str, and_true, true_and, AObj.iter.injEq, nc, nc']; try simp (disch := omega) only [w64, w32, wu8])
        omega
      (cbv; try simp only [wp, wpa, getL, takeL, dropL, TK.isAgg, reduceIte])
      obtain ⟨y1, y2, y3, y4, y5, y6⟩ := hy
      dsimp only at y1 y2 y3 y4 y5 y6
      obtain ⟨j2, hj2⟩ : ∃ j2, j2 = j + 1 := ⟨_, rfl⟩
      have hu : digitsE s j = if j < s.size then (if digitB (btF s j) then digitsE s (j + 1) else j) else j := by
        rw [digitsE, spanEnd]
        by_cases h : j < s.size
        · rw [if_pos h, if_pos h]; rfl
        · rw [if_neg h, if_neg h]; omega
      have ex : (j < s.size → digitB (btF s j) = false) → E = j ∧ numF s k (E - k) 0 = n := fun h => by
        have e : E = j := by
          rw [← y5, hu]
          by_cases hj : j < s.size
          · rw [if_pos hj, h hj]; rfl
          · rw [if_neg hj]
        rw [← y6, e, Nat.sub_self]
        exact ⟨rfl, rfl⟩
      refine ⟨fun e0 => ⟨(by (try simp only [wf, wfa, nc, nc'] at *); (try simp (disch := omega) only [w64, w32, wu8] at *); omega), (by (try simp only [wf, wfa, nc, nc'] at *); (try simp (disch := omega) only [w64, w32, wu8] at *); omega), ?_⟩, fun e0 => ?_⟩
      · have e0 : j < s.size := (by (try simp only [wf, wfa, nc, nc'] at *); (try simp (disch := omega) only [w64, w32, wu8] at *); omega)
        refine (f39 _).call ?_
        rintro _ ⟨d2, hd2, rfl⟩
        replace hd2 : d2 = digitB (btF s j) := by ((try simp only [wf, wfa, nc, nc'] at *); (try simp (disch := omega) only [w64, w32, wu8] at *)); exact hd2
        cases d2 <;> (cbv; try simp only [wp, wpa, getL, takeL, dropL, TK.isAgg, reduceIte])
        · obtain ⟨ex1, ex2⟩ := ex fun _ => hd2.symm
          refine ⟨fun c1 => ?_, fun c1 => ?_⟩
          · have c1 : 1000000000 < n := (by (try simp only [wf, wfa, nc, nc'] at *); (try simp (disch := omega) only [w64, w32, wu8] at *); omega)
            rw [if_pos (by rw [ex2]; exact c1)] at tok
            have := hR _ [AObj.box [A.d (D.int IntKind.i64 0), A.d (D.str { data := { toList := [] } }), A.d (D.int IntKind.i64 0)], AObj.box [A.d (D.int IntKind.i64 10), A.d (D.int IntKind.i64 i)]] tok.symm
            simp only [List.map, ← hk] at this
            exact this
          · have c1 : ¬ 1000000000 < n := (by (try simp only [wf, wfa, nc, nc'] at *); (try simp (disch := omega) only [w64, w32, wu8] at *); omega)
            rw [if_neg (by rw [ex2]; exact c1), ex1] at tok
            refine (f37 s _ (by (try simp only [wf, wfa, nc, nc'] at *); (try simp (disch := omega) only [w64, w32, wu8] at *); omega)).call ?_
            rintro _ ⟨b, hb2, rfl⟩
            (cbv; try simp only [wp, wpa, getL, takeL, dropL, TK.isAgg, reduceIte])
            refine (f38 _).call ?_
            rintro _ ⟨l3, hl3, rfl⟩
            replace hl3 : l3 = letterB (atI s j) := by rw [hl3, hb2]; ((try simp only [wf, wfa, nc, nc'] at *); (try simp (disch := omega) only [w64, w32, wu8] at *))
            rw [← hl3] at tok
            cases l3 <;> (cbv; try simp only [wp, wpa, getL, takeL, dropL, TK.isAgg, reduceIte])
            · have ht : s.extract i.toNat (Int.toNat (j : Int)) = s.extract k j := by rw [hk]; simp
              have leaf : ∀ T H, T = s.extract k j → R (A.tup [A.agg [A.d (D.int IntKind.i64 3), A.d (D.str T), A.d (D.int IntKind.i64 i)], A.agg [A.d (D.int IntKind.i64 0), A.d (D.int IntKind.i64 0)]]) H := fun T H h => by
                have := hR _ H tok.symm
                simp only [List.map, ← hk] at this
                rw [h]
                exact this
              repeat' first | with_reducible refine And.intro ?_ ?_ | intro c9
              all_goals first
                | exact (by (try simp only [wf, wfa, nc, nc'] at *); (try simp (disch := omega) only [w64, w32, wu8] at *); omega)
                | trivial
                | (refine leaf _ _ ?_; ((try simp only [wf, wfa, nc, nc'] at *); (try simp (disch := omega) only [w64, w32, wu8] at *)); exact ht)
            · have leaf : ∀ K H, K = (j : Int) → R (A.tup [A.agg [A.d (D.int IntKind.i64 0), A.d (D.str { data := { toList := [] } }), A.d (D.int IntKind.i64 0)], A.agg [A.d (D.int IntKind.i64 110), A.d (D.int IntKind.i64 K)]]) H := fun K H h => by
                have := hR _ H tok.symm
                simp only [List.map, ← hk] at this
                rw [h]
                exact this
              exact leaf _ _ rfl
        · refine ⟨(by (try simp only [wf, wfa, nc, nc'] at *); (try simp (disch := omega) only [w64, w32, wu8] at *); omega), (by (try simp only [wf, wfa, nc, nc'] at *); (try simp (disch := omega) only [w64, w32, wu8] at *); omega), ?_⟩
          have hb1 : 48 ≤ btF s j ∧ btF s j ≤ 57 := by simpa [digitB] using hd2.symm
          obtain ⟨n2, hn2⟩ : ∃ n2, n2 = min (10 * n + (btF s j - 48)) 1000000001 := ⟨_, rfl⟩
          have hlt : j < E := by
            have h := hu
            rw [y5, if_pos e0, if_pos hd2.symm] at h
            have := (spanEnd_bounds (fun i => digitB (btF s i)) s.size _ (j + 1) rfl (by omega)).1
            unfold digitsE at h
            omega
          refine hBk (j2, n2) _ (by dsimp only; omega) ⟨by dsimp only; omega, by dsimp only; omega, by dsimp only; omega, by dsimp only; omega, by rw [hj2, ← y5, hu, if_pos e0, if_pos hd2.symm], ?_⟩ ?_
          · dsimp only
            rw [← y6, show E - j = E - (j + 1) + 1 by omega, hj2, hn2]
            rfl
          · (cbv; try simp only [wf, wfa, exD, exL, exT, exB, exA, leLs, leL_d, leL_undef, deq_refl, deq_int, deq_bool, deq_str, and_true, true_and, AObj.iter.injEq, nc, nc']; try simp (disch := omega) only [w64, w32, wu8])
            refine ⟨by omega, ?_⟩
            (try simp only [nc, nc'] at *)
            rw [wu8 (by omega) (by omega), w64 (x := btF s j - 48) (by omega) (by omega), w64 (by omega) (by omega)]
            split <;> omega
      · have e0 : ¬ j < s.size := (by (try simp only [wf, wfa, nc, nc'] at *); (try simp (disch := omega) only [w64, w32, wu8] at *); omega)
        obtain ⟨ex1, ex2⟩ := ex fun h => absurd h e0
        refine ⟨fun c1 => ?_, fun c1 => ?_⟩
        · have c1 : 1000000000 < n := (by (try simp only [wf, wfa, nc, nc'] at *); (try simp (disch := omega) only [w64, w32, wu8] at *); omega)
          rw [if_pos (by rw [ex2]; exact c1)] at tok
          have := hR _ [AObj.box [A.d (D.int IntKind.i64 0), A.d (D.str { data := { toList := [] } }), A.d (D.int IntKind.i64 0)], AObj.box [A.d (D.int IntKind.i64 10), A.d (D.int IntKind.i64 i)]] tok.symm
          simp only [List.map, ← hk] at this
          exact this
        · have c1 : ¬ 1000000000 < n := (by (try simp only [wf, wfa, nc, nc'] at *); (try simp (disch := omega) only [w64, w32, wu8] at *); omega)
          rw [if_neg (by rw [ex2]; exact c1), ex1] at tok
          refine (f37 s _ (by (try simp only [wf, wfa, nc, nc'] at *); (try simp (disch := omega) only [w64, w32, wu8] at *); omega)).call ?_
          rintro _ ⟨b, hb2, rfl⟩
          (cbv; try simp only [wp, wpa, getL, takeL, dropL, TK.isAgg, reduceIte])
          refine (f38 _).call ?_
          rintro _ ⟨l3, hl3, rfl⟩
          replace hl3 : l3 = letterB (atI s j) := by rw [hl3, hb2]; ((try simp only [wf, wfa, nc, nc'] at *); (try simp (disch := omega) only [w64, w32, wu8] at *))
          rw [← hl3] at tok
          cases l3 <;> (cbv; try simp only [wp, wpa, getL, takeL, dropL, TK.isAgg, reduceIte])
          · have ht : s.extract i.toNat (Int.toNat (j : Int)) = s.extract k j := by rw [hk]; simp
            have leaf : ∀ T H, T = s.extract k j → R (A.tup [A.agg [A.d (D.int IntKind.i64 3), A.d (D.str T), A.d (D.int IntKind.i64 i)], A.agg [A.d (D.int IntKind.i64 0), A.d (D.int IntKind.i64 0)]]) H := fun T H h => by
              have := hR _ H tok.symm
              simp only [List.map, ← hk] at this
              rw [h]
              exact this
            repeat' first | with_reducible refine And.intro ?_ ?_ | intro c9
            all_goals first
              | exact (by (try simp only [wf, wfa, nc, nc'] at *); (try simp (disch := omega) only [w64, w32, wu8] at *); omega)
              | trivial
              | (refine leaf _ _ ?_; ((try simp only [wf, wfa, nc, nc'] at *); (try simp (disch := omega) only [w64, w32, wu8] at *)); exact ht)
          · have leaf : ∀ K H, K = (j : Int) → R (A.tup [A.agg [A.d (D.int IntKind.i64 0), A.d (D.str { data := { toList := [] } }), A.d (D.int IntKind.i64 0)], A.agg [A.d (D.int IntKind.i64 110), A.d (D.int IntKind.i64 K)]]) H := fun K H h => by
              have := hR _ H tok.symm
              simp only [List.map, ← hk] at this
              rw [h]
              exact this
            exact leaf _ _ rfl
  · have hE := spanEnd_bounds (nameP s) s.size _ k rfl (by omega)
    have hE2 : k ≤ nameE s k ∧ nameE s k ≤ s.size := hE
    have hz : ∃ e, e = nameE s k := ⟨_, rfl⟩
    obtain ⟨E, hz⟩ := hz
    rw [← hz] at hE2
    have tok : tokR s k = { kind := if wordB (s.extract k E) then 2 else 1, text := s.extract k E, pos := k, fin := E } := by rw [hz]; simp [tokR, ← hl]
    refine loopV (Tf := @T) @tabOk (fun y : Nat => ⟨mk 154 [(0, .d (.str s)), (1, .d (.int .i64 i)), (4, .ptr 0 0), (5, .ptr 1 0), (6, .d (.int .i64 y))], [.box [.d (.int .i64 0), .d (.str ⟨#[]⟩), .d (.int .i64 0)], .box [.d (.int .i64 0), .d (.int .i64 0)]]⟩) (fun y => s.size - y) (fun y => k ≤ y ∧ y ≤ s.size ∧ nameE s y = E) k ⟨by omega, by omega, hz.symm⟩ ?_ (fun y => rfl) @fun ⟨_, _, _, _, _, _, _, _, _, _, _, _, _, _, _, _, _, _, _, _, _, _, _, _, _, _, _, _, _, _, _, _, _, _, _, _, _, _, wpa, wfa⟩ j Bk hy hBk => ?_
    · (cbv; try simp only [wf, exD, exL, exT, exB, exA, leLs, leL_d, leL_undef, deq_refl, deq_int, deq_bool, deq_str, and_true, true_and, AObj.iter.injEq, nc, nc']; try simp (disch := omega) only [w64, w32, wu8])
      omega
    (cbv; try simp only [wp, wpa, getL, takeL, dropL, TK.isAgg, reduceIte])
    obtain ⟨y1, y2, y3⟩ := hy
    obtain ⟨j2, hj2⟩ : ∃ j2, j2 = j + 1 := ⟨_, rfl⟩
    have hu : nameE s j = if j < s.size then (if nameP s j then nameE s (j + 1) else j) else j := by
      rw [nameE, spanEnd]
      by_cases h : j < s.size
      · rw [if_pos h, if_pos h]; rfl
      · rw [if_neg h, if_neg h]; omega
    have bk : nameP s j = true → j < s.size → ∀ s', leS 0 ⟨mk 154 [(0, .d (.str s)), (1, .d (.int .i64 i)), (4, .ptr 0 0), (5, .ptr 1 0), (6, .d (.int .i64 (j2 : Int)))], [.box [.d (.int .i64 0), .d (.str ⟨#[]⟩), .d (.int .i64 0)], .box [.d (.int .i64 0), .d (.int .i64 0)]]⟩ s' → Bk s' := fun h1 h2 s' hle => hBk j2 s' (by omega) ⟨by omega, by omega, by rw [hj2, ← y3, hu, if_pos h2, if_pos h1]⟩ hle
    have ex : (j < s.size → nameP s j = false) → E = j := fun h => by
      rw [← y3, hu]
      by_cases hj : j < s.size
      · rw [if_pos hj, h hj]; rfl
      · rw [if_neg hj]
    have leaf : ∀ K T H, E = j → K = (if wordB (s.extract k E) then (2 : Int) else 1) → T = s.extract k E → R (A.tup [A.agg [A.d (D.int IntKind.i64 K), A.d (D.str T), A.d (D.int IntKind.i64 i)], A.agg [A.d (D.int IntKind.i64 0), A.d (D.int IntKind.i64 0)]]) H := fun K T H h1 h2 h3 => by
      have := hR _ H tok.symm
      simp only [List.map, ← hk] at this
      rw [h2, h3]
      exact this
    refine ⟨fun e0 => ⟨(by (try simp only [wf, wfa, nc, nc'] at *); (try simp (disch := omega) only [w64, w32, wu8] at *); omega), (by (try simp only [wf, wfa, nc, nc'] at *); (try simp (disch := omega) only [w64, w32, wu8] at *); omega), ?_⟩, fun e0 => ?_⟩
    · have e0 : j < s.size := (by (try simp only [wf, wfa, nc, nc'] at *); (try simp (disch := omega) only [w64, w32, wu8] at *); omega)
      refine (f38 _).call ?_
      rintro _ ⟨l2, hl2, rfl⟩
      replace hl2 : l2 = letterB (btF s j) := by ((try simp only [wf, wfa, nc, nc'] at *); (try simp (disch := omega) only [w64, w32, wu8] at *)); exact hl2
      cases l2 <;> (cbv; try simp only [wp, wpa, getL, takeL, dropL, TK.isAgg, reduceIte])
      · refine ⟨(by (try simp only [wf, wfa, nc, nc'] at *); (try simp (disch := omega) only [w64, w32, wu8] at *); omega), (by (try simp only [wf, wfa, nc, nc'] at *); (try simp (disch := omega) only [w64, w32, wu8] at *); omega), ?_⟩
        refine (f39 _).call ?_
        rintro _ ⟨d2, hd2, rfl⟩
        replace hd2 : d2 = digitB (btF s j) := by ((try simp only [wf, wfa, nc, nc'] at *); (try simp (disch := omega) only [w64, w32, wu8] at *)); exact hd2
        cases d2 <;> (cbv; try simp only [wp, wpa, getL, takeL, dropL, TK.isAgg, reduceIte])
        · refine ⟨(by (try simp only [wf, wfa, nc, nc'] at *); (try simp (disch := omega) only [w64, w32, wu8] at *); omega), (by (try simp only [wf, wfa, nc, nc'] at *); (try simp (disch := omega) only [w64, w32, wu8] at *); omega), fun c1 => ?_, fun c1 => ⟨(by (try simp only [wf, wfa, nc, nc'] at *); (try simp (disch := omega) only [w64, w32, wu8] at *); omega), (by (try simp only [wf, wfa, nc, nc'] at *); (try simp (disch := omega) only [w64, w32, wu8] at *); omega), fun c2 => ?_, fun c2 => ?_⟩⟩
          · have c1 : btF s j = 39 := by ((try simp only [wf, wfa, nc, nc'] at *); (try simp (disch := omega) only [w64, w32, wu8] at *)); exact c1
            refine bk (by simp [nameP, c1]) e0 _ ?_
            (cbv; try simp only [wf, wfa, exD, exL, exT, exB, exA, leLs, leL_d, leL_undef, deq_refl, deq_int, deq_bool, deq_str, and_true, true_and, AObj.iter.injEq, nc, nc']; try simp (disch := omega) only [w64, w32, wu8])
            omega
          · have c2 : btF s j = 46 := by ((try simp only [wf, wfa, nc, nc'] at *); (try simp (disch := omega) only [w64, w32, wu8] at *)); exact c2
            refine (f37 s _ (by (try simp only [wf, wfa, nc, nc'] at *); (try simp (disch := omega) only [w64, w32, wu8] at *); omega)).call ?_
            rintro _ ⟨b, hb2, rfl⟩
            (cbv; try simp only [wp, wpa, getL, takeL, dropL, TK.isAgg, reduceIte])
            refine (f38 _).call ?_
            rintro _ ⟨l3, hl3, rfl⟩
            replace hl3 : l3 = letterB (atI s (j + 1)) := by rw [hl3, hb2]; ((try simp only [wf, wfa, nc, nc'] at *); (try simp (disch := omega) only [w64, w32, wu8] at *))
            cases l3 <;> (cbv; try simp only [wp, wpa, getL, takeL, dropL, TK.isAgg, reduceIte])
            · have e : E = j := ex fun _ => by simp only [nameP, ← hl2, ← hd2]; simp [c2, ← hl3]
              refine ⟨(by (try simp only [wf, wfa, nc, nc'] at *); (try simp (disch := omega) only [w64, w32, wu8] at *); omega), (by (try simp only [wf, wfa, nc, nc'] at *); (try simp (disch := omega) only [w64, w32, wu8] at *); omega), (by (try simp only [wf, wfa, nc, nc'] at *); (try simp (disch := omega) only [w64, w32, wu8] at *); omega), ?_⟩
              refine (f40 _).call ?_
              rintro _ ⟨b2, hb3, rfl⟩
              have ht : s.extract i.toNat (Int.toNat (j : Int)) = s.extract k E := by rw [hk, e]; simp
              replace hb3 : b2 = wordB (s.extract k E) := by ((try simp only [wf, wfa, nc, nc'] at *); (try simp (disch := omega) only [w64, w32, wu8] at *)); rw [hb3, ← ht]
              cases b2 <;> (cbv; try simp only [wp, wpa, getL, takeL, dropL, TK.isAgg, reduceIte])
              all_goals
                repeat' first | with_reducible refine And.intro ?_ ?_ | intro c9
                all_goals first
                  | exact (by (try simp only [wf, wfa, nc, nc'] at *); (try simp (disch := omega) only [w64, w32, wu8] at *); omega)
                  | trivial
                  | (refine leaf _ _ _ e ?_ ?_ <;> ((try simp only [wf, wfa, nc, nc'] at *); (try simp (disch := omega) only [w64, w32, wu8] at *)) <;> first | exact ht | simp [← hb3])
            · refine bk (by simp [nameP, c2, ← hl3]) e0 _ ?_
              (cbv; try simp only [wf, wfa, exD, exL, exT, exB, exA, leLs, leL_d, leL_undef, deq_refl, deq_int, deq_bool, deq_str, and_true, true_and, AObj.iter.injEq, nc, nc']; try simp (disch := omega) only [w64, w32, wu8])
              omega
          · have n1 : ¬ btF s j = 39 := by ((try simp only [wf, wfa, nc, nc'] at *); (try simp (disch := omega) only [w64, w32, wu8] at *)); omega
            have n2 : ¬ btF s j = 46 := by ((try simp only [wf, wfa, nc, nc'] at *); (try simp (disch := omega) only [w64, w32, wu8] at *)); omega
            have e : E = j := ex fun _ => by simp [nameP, ← hl2, ← hd2, n1, n2]
            refine ⟨(by (try simp only [wf, wfa, nc, nc'] at *); (try simp (disch := omega) only [w64, w32, wu8] at *); omega), (by (try simp only [wf, wfa, nc, nc'] at *); (try simp (disch := omega) only [w64, w32, wu8] at *); omega), (by (try simp only [wf, wfa, nc, nc'] at *); (try simp (disch := omega) only [w64, w32, wu8] at *); omega), ?_⟩
            refine (f40 _).call ?_
            rintro _ ⟨b2, hb3, rfl⟩
            have ht : s.extract i.toNat (Int.toNat (j : Int)) = s.extract k E := by rw [hk, e]; simp
            replace hb3 : b2 = wordB (s.extract k E) := by ((try simp only [wf, wfa, nc, nc'] at *); (try simp (disch := omega) only [w64, w32, wu8] at *)); rw [hb3, ← ht]
            cases b2 <;> (cbv; try simp only [wp, wpa, getL, takeL, dropL, TK.isAgg, reduceIte])
            all_goals
              repeat' first | with_reducible refine And.intro ?_ ?_ | intro c9
              all_goals first
                | exact (by (try simp only [wf, wfa, nc, nc'] at *); (try simp (disch := omega) only [w64, w32, wu8] at *); omega)
                | trivial
                | (refine leaf _ _ _ e ?_ ?_ <;> ((try simp only [wf, wfa, nc, nc'] at *); (try simp (disch := omega) only [w64, w32, wu8] at *)) <;> first | exact ht | simp [← hb3])
        · refine bk (by simp [nameP, ← hl2, ← hd2]) e0 _ ?_
          (cbv; try simp only [wf, wfa, exD, exL, exT, exB, exA, leLs, leL_d, leL_undef, deq_refl, deq_int, deq_bool, deq_str, and_true, true_and, AObj.iter.injEq, nc, nc']; try simp (disch := omega) only [w64, w32, wu8])
          omega
      · refine bk (by simp [nameP, ← hl2]) e0 _ ?_
        (cbv; try simp only [wf, wfa, exD, exL, exT, exB, exA, leLs, leL_d, leL_undef, deq_refl, deq_int, deq_bool, deq_str, and_true, true_and, AObj.iter.injEq, nc, nc']; try simp (disch := omega) only [w64, w32, wu8])
        omega
    · have e0 : ¬ j < s.size := (by (try simp only [wf, wfa, nc, nc'] at *); (try simp (disch := omega) only [w64, w32, wu8] at *); omega)
      have e : E = j := ex fun h => absurd h e0
      refine ⟨(by (try simp only [wf, wfa, nc, nc'] at *); (try simp (disch := omega) only [w64, w32, wu8] at *); omega), (by (try simp only [wf, wfa, nc, nc'] at *); (try simp (disch := omega) only [w64, w32, wu8] at *); omega), (by (try simp only [wf, wfa, nc, nc'] at *); (try simp (disch := omega) only [w64, w32, wu8] at *); omega), ?_⟩
      refine (f40 _).call ?_
      rintro _ ⟨b2, hb3, rfl⟩
      have ht : s.extract i.toNat (Int.toNat (j : Int)) = s.extract k E := by rw [hk, e]; simp
      replace hb3 : b2 = wordB (s.extract k E) := by ((try simp only [wf, wfa, nc, nc'] at *); (try simp (disch := omega) only [w64, w32, wu8] at *)); rw [hb3, ← ht]
      cases b2 <;> (cbv; try simp only [wp, wpa, getL, takeL, dropL, TK.isAgg, reduceIte])
      all_goals
        repeat' first | with_reducible refine And.intro ?_ ?_ | intro c9
        all_goals first
          | exact (by (try simp only [wf, wfa, nc, nc'] at *); (try simp (disch := omega) only [w64, w32, wu8] at *); omega)
          | trivial
          | (refine leaf _ _ _ e ?_ ?_ <;> ((try simp only [wf, wfa, nc, nc'] at *); (try simp (disch := omega) only [w64, w32, wu8] at *)) <;> first | exact ht | simp [← hb3])
end Go.VM
