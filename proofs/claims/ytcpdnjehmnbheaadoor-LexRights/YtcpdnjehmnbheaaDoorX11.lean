/- Contracts of the functions that the law reaches: part of the proof (X11). -/
import Derived.Test.YtcpdnjehmnbheaaDoorX10
namespace Go.VM
open Go.Proofs Go
set_option maxRecDepth 100000
set_option linter.unusedVariables false
set_option linter.unusedSimpArgs false

/-- a piece of a source, or a fault -/
structure Nx where
  kind : Int := 0
  text : ByteArray := eS
  pos : Int := 0
  com : Bool := false
  fin : Int := 0
  code : Int := 0
  at' : Int := 0
def Nx.out (x : Nx) : A := .tup [.agg [.d (.int .i64 x.kind), .d (.str x.text), .d (.int .i64 x.pos), .d (.bool x.com), .d (.int .i64 x.fin)], .agg [.d (.int .i64 x.code), .d (.int .i64 x.at')]]
/-- the token at a place at which neither a blank nor a comment begins -/
def tokR (s : ByteArray) (k : Nat) : Nx :=
  if letterB (btF s k) then { kind := if wordB (s.extract k (nameE s k)) then 2 else 1, text := s.extract k (nameE s k), pos := k, fin := nameE s k }
  else if digitB (btF s k) then
    (if numF s k (digitsE s k - k) 0 > 1000000000 then { code := 10, at' := k }
    else if letterB (atI s (digitsE s k)) then { code := 110, at' := digitsE s k }
    else { kind := 3, text := s.extract k (digitsE s k), pos := k, fin := digitsE s k })
  else if signF (nthS signsL) (s.extract k s.size) 0 17 < 0 then { code := 110, at' := k }
  else { kind := 4, text := nthS signsL (signF (nthS signsL) (s.extract k s.size) 0 17).toNat, pos := k, fin := k + (nthS signsL (signF (nthS signsL) (s.extract k s.size) 0 17).toNat).size }
def nextR (s : ByteArray) (k : Nat) : Nx :=
  if blankB (btF s k) then { fin := k + 1 }
  else if comB s k then (if comE s k < 0 then { code := 10, at' := k } else { com := true, fin := comE s k })
  else tokR s k

theorem spanEnd_all (p : Nat → Bool) (n : Nat) : ∀ (m i : Nat), n - i = m → ∀ j, i ≤ j → j < spanEnd p n i → p j = true
  | 0, i, hm, j, h1, h2 => by rw [spanEnd] at h2; split at h2 <;> omega
  | m + 1, i, hm, j, h1, h2 => by
    rw [spanEnd] at h2
    split at h2
    · split at h2
      · rename_i hp
        by_cases e : j = i
        · rw [e]; exact hp
        · exact spanEnd_all p n m (i + 1) (by omega) j (by omega) h2
      · omega
    · omega
theorem ext_bt2 (s : ByteArray) (k e j : Nat) (he : e ≤ s.size) (h : k + j < e) : btF (s.extract k e) j = btF s ((k + j : Nat) : Int) := by
  have hz : (s.extract k e).size = e - k := by simp [ByteArray.size_extract]; omega
  rw [btF_get _ _ (by omega : j < (s.extract k e).size), btF_get _ _ (by omega : k + j < s.size)]
  simp [ByteArray.getElem_extract]
theorem numF_ext (s : ByteArray) (k e : Nat) (he : e ≤ s.size) : ∀ (n j : Nat) (a : Int), k + j + n ≤ e → numF (s.extract k e) j n a = numF s (k + j) n a
  | 0, j, a, h => rfl
  | n + 1, j, a, h => by
    rw [numF, numF, ext_bt2 s k e j he (by omega), numF_ext s k e he n (j + 1) _ (by omega)]
    rfl
theorem signF_lt (f : Nat → ByteArray) (t : ByteArray) : ∀ (n j : Nat), signF f t j n < j + n
  | 0, j => by simp [signF]; omega
  | n + 1, j => by
    unfold signF
    have := signF_lt f t n (j + 1)
    split <;> omega
theorem signF_pre (f : Nat → ByteArray) (t : ByteArray) : ∀ (n j : Nat), 0 ≤ signF f t j n → preB t (f (signF f t j n).toNat) = true
  | 0, j, h => by simp [signF] at h
  | n + 1, j, h => by
    unfold signF at h ⊢
    split
    · rename_i hp; simpa using hp
    · rename_i hp
      rw [if_neg hp] at h
      exact signF_pre f t n (j + 1) h
theorem sign_at (s : ByteArray) (k : Nat) (hk : k ≤ s.size) (p : ByteArray) (h : preB (s.extract k s.size) p = true) : p.size ≤ s.size - k ∧ s.extract k (k + p.size) = p := by
  have hz := ext_size s k hk
  simp only [preB, hz, Bool.and_eq_true, decide_eq_true_eq] at h
  refine ⟨h.1, ?_⟩
  have h2 := h.2
  rw [ByteArray.extract_extract] at h2
  simp only [Nat.add_zero] at h2
  rw [Nat.min_eq_left (by omega)] at h2
  exact h2
theorem f36 (s : ByteArray) (i : Int) (k : Nat) (hk : i = k) (h1 : k < s.size) (hs : s.size < 2 ^ 40) : VFun (P ()) 36 [.d (.str s), .d (.int .i64 i)] (fun r => ∃ x, x = nextR s k ∧ r = x.out) := by
  refine vfun (Tf := @T) @tabOk Tryd.func36 rfl rfl (Nat.le_of_ble_eq_true rfl) @fun ⟨_, _, _, _, _, _, _, _, _, _, _, _, _, _, _, _, _, _, _, _, _, _, _, _, _, _, _, _, _, _, _, _, _, _, _, _, _, _, wp, wf⟩ R hR => ?_
  cbv
  try simp only [wp, getL, takeL, dropL, TK.isAgg, reduceIte]
  have hbk : btF s i = btF s (k : Int) := by rw [hk]
  have fin : ∀ (x : Nx) (H : AHeap), x = nextR s k → R x.out H := fun x H h => hR _ H _ (.tup2 (.aggD [_, _, _, _, _]) (.aggD [_, _])) ⟨x, h, rfl⟩
  clear hR
  refine ⟨(by (try simp only [wf, nc, nc'] at *); (try simp (disch := omega) only [w64, w32, wu8] at *); omega), (by (try simp only [wf, nc, nc'] at *); (try simp (disch := omega) only [w64, w32, wu8] at *); omega), ?_⟩
  refine (f52 _).call ?_
  rintro _ ⟨b, hb, rfl⟩
  replace hb : b = blankB (btF s k) := by ((try simp only [wf, nc, nc'] at *); (try simp (disch := omega) only [w64, w32, wu8] at *)); rw [hb, hbk]
  cases b <;> (cbv; try simp only [wp, getL, takeL, dropL, TK.isAgg, reduceIte])
  · refine (f53 s i k hk h1 hs).call ?_
    rintro _ ⟨x, c, hx, hc, rfl⟩
    cases c <;> (cbv; try simp only [wp, getL, takeL, dropL, TK.isAgg, reduceIte])
    · have hx' : x = k := by rw [hx]; simp [comB] at hc; simp [comE, hc.1, hc.2]
      refine ⟨fun h => absurd h (by (try simp only [wf, nc, nc'] at *); (try simp (disch := omega) only [w64, w32, wu8] at *); omega), fun _ => ?_⟩
      refine (f54 s i (by (try simp only [wf, nc, nc'] at *); (try simp (disch := omega) only [w64, w32, wu8] at *); omega)).call ?_
      rintro _ ⟨b, hb2, rfl⟩
      (cbv; try simp only [wp, getL, takeL, dropL, TK.isAgg, reduceIte])
      have hb3 : b = btF s k := by rw [hb2, atI, hk]; simp [h1]
      have hn : nextR s k = tokR s k := by simp [nextR, ← hb, ← hc]
      refine (f55 _).call ?_
      rintro _ ⟨l, hl, rfl⟩
      rw [hb3] at hl
      cases l <;> (cbv; try simp only [wp, getL, takeL, dropL, TK.isAgg, reduceIte])
      · refine (f57 _).call ?_
        rintro _ ⟨d, hd, rfl⟩
        rw [hb3] at hd
        cases d <;> (cbv; try simp only [wp, getL, takeL, dropL, TK.isAgg, reduceIte])
        · refine (CallW.of (f61 _) ?_)
          rintro _ _ ⟨rfl, f, hf, rfl⟩
          (cbv; try simp only [wp, getL, takeL, dropL, TK.isAgg, reduceIte])
          refine CallW.of (f60 s i k f hk (by omega)) ?_
          rintro _ _ ⟨rfl, x2, hx2, rfl⟩
          (cbv; try simp only [wp, getL, takeL, dropL, TK.isAgg, reduceIte])
          have hx3 : x2 = signF (nthS signsL) (s.extract k s.size) 0 17 := by rw [hx2, hf]
          have htok : tokR s k = (if x2 < 0 then { code := 110, at' := k }
            else { kind := 4, text := nthS signsL x2.toNat, pos := k, fin := k + (nthS signsL x2.toNat).size }) := by simp [tokR, ← hl, ← hd, ← hx3]
          refine ⟨fun h => ?_, fun h => ?_⟩
          · have h10 : ∀ H, R (Nx.out { code := 110, at' := i }) H := fun H => fin _ H (by rw [hn, htok, if_pos h, hk])
            repeat' first | exact h10 _ | refine ⟨?_, ?_⟩ | trivial
          · rw [if_neg (by omega)] at htok
            have hx4 : x2 < 17 := by rw [hx3]; exact signF_lt _ _ 17 0
            repeat' first | refine ⟨?_, ?_⟩ | trivial
            all_goals
              refine CallW.of (f61 _) ?_
              rintro _ _ ⟨rfl, f2, hf2, rfl⟩
              have sz : (f2 x2.toNat).size ≤ s.size - k ∧ s.extract k (k + (f2 x2.toNat).size) = f2 x2.toNat := by
                rw [hf2]
                exact sign_at s k (by omega) _ (by rw [hx3]; exact signF_pre _ _ 17 0 (by omega))
              obtain ⟨z1, z2⟩ := sz
              obtain ⟨m, hm⟩ : ∃ m, m = (f2 x2.toNat).size := ⟨_, rfl⟩
              rw [← hm] at z1 z2
              have leaf : ∀ (T : ByteArray) (E : Int) H, T = f2 x2.toNat → E = k + m → R (Nx.out ⟨4, T, i, false, E, 0, 0⟩) H := fun T E H h1 h2 => fin _ H (by rw [hn, htok, ← hf2, h1, h2, hk, hm])
              have hk2 : i = (k : Int) := hk
              have hw : IntKind.i64.wrap (i + m) = k + m := by rw [w64 (by omega) (by omega)]; omega
              (cbv; try simp only [wp, getL, takeL, dropL, TK.isAgg, reduceIte])
              repeat' first | refine ⟨?_, ?_⟩ | trivial
              all_goals first
                | exact (by (try simp only [wf, nc, nc'] at *); (try simp (disch := omega) only [w64, w32, wu8] at *); omega)
                | (((try simp only [wf, nc, nc'] at *); (try simp (disch := omega) only [w64, w32, wu8] at *)); rw [← hm]; omega)
                | (refine leaf _ _ _ ?_ ?_ <;> ((try simp only [wf, nc, nc'] at *); (try simp (disch := omega) only [w64, w32, wu8] at *)) <;> rw [← hm] <;> first | exact hw | (rw [show i.toNat = k by omega, show (i + (m : Int)).toNat = k + m by omega]; exact z2))
        · refine (f58 s i k hk (by omega) hs).call ?_
          rintro _ ⟨e, he, rfl⟩
          have hb4 : k ≤ digitsE s k ∧ digitsE s k ≤ s.size := spanEnd_bounds (fun i => digitB (btF s i)) s.size _ k rfl (by omega)
          have hall : ∀ j, k ≤ j → j < digitsE s k → digitB (btF s j) = true := spanEnd_all (fun i => digitB (btF s i)) s.size _ k rfl
          have he2 : (k : Int) ≤ e ∧ e ≤ s.size := by rw [he]; omega
          have ht : s.extract i.toNat e.toNat = s.extract k (digitsE s k) := by rw [hk, he]; simp
          have hz : (s.extract k (digitsE s k)).size = digitsE s k - k := by simp [ByteArray.size_extract]; omega
          have htok : tokR s k = (if numF s k (digitsE s k - k) 0 > 1000000000 then { code := 10, at' := k }
            else if letterB (atI s (digitsE s k)) then { code := 110, at' := digitsE s k }
            else { kind := 3, text := s.extract k (digitsE s k), pos := k, fin := digitsE s k }) := by simp [tokR, ← hl, ← hd]
          (cbv; try simp only [wp, getL, takeL, dropL, TK.isAgg, reduceIte])
          refine ⟨(by (try simp only [wf, nc, nc'] at *); (try simp (disch := omega) only [w64, w32, wu8] at *); omega), (by (try simp only [wf, nc, nc'] at *); (try simp (disch := omega) only [w64, w32, wu8] at *); omega), (by (try simp only [wf, nc, nc'] at *); (try simp (disch := omega) only [w64, w32, wu8] at *); omega), ?_⟩
          refine (f59 _ ?_ ?_).call ?_
          · ((try simp only [wf, nc, nc'] at *); (try simp (disch := omega) only [w64, w32, wu8] at *))
            rw [ht]
            intro j hj
            rw [hz] at hj
            rw [ext_bt2 s k _ j hb4.2 (by omega)]
            exact hall (k + j) (by omega) (by omega)
          · ((try simp only [wf, nc, nc'] at *); (try simp (disch := omega) only [w64, w32, wu8] at *))
            rw [ht, hz]
            omega
          · rintro _ ⟨lg, hlg, rfl⟩
            replace hlg : lg = decide (numF s k (digitsE s k - k) 0 > 1000000000) := by
              ((try simp only [wf, nc, nc'] at *); (try simp (disch := omega) only [w64, w32, wu8] at *))
              rw [hlg, ht, hz, numF_ext s k _ hb4.2 (digitsE s k - k) 0 0 (by omega)]
              rfl
            cases lg <;> (cbv; try simp only [wp, getL, takeL, dropL, TK.isAgg, reduceIte])
            · have hlg' : ¬ numF s k (digitsE s k - k) 0 > 1000000000 := by simpa using hlg.symm
              rw [if_neg hlg'] at htok
              refine (f54 s e (by (try simp only [wf, nc, nc'] at *); (try simp (disch := omega) only [w64, w32, wu8] at *); omega)).call ?_
              rintro _ ⟨c2, hc2, rfl⟩
              (cbv; try simp only [wp, getL, takeL, dropL, TK.isAgg, reduceIte])
              refine (f55 _).call ?_
              rintro _ ⟨l2, hl2, rfl⟩
              replace hl2 : l2 = letterB (atI s (digitsE s k)) := by rw [hl2, hc2, he]
              rw [← hl2] at htok
              cases l2 <;> (cbv; try simp only [wp, getL, takeL, dropL, TK.isAgg, reduceIte])
              · refine ⟨(by (try simp only [wf, nc, nc'] at *); (try simp (disch := omega) only [w64, w32, wu8] at *); omega), (by (try simp only [wf, nc, nc'] at *); (try simp (disch := omega) only [w64, w32, wu8] at *); omega), (by (try simp only [wf, nc, nc'] at *); (try simp (disch := omega) only [w64, w32, wu8] at *); omega), fin ⟨3, _, _, false, _, 0, 0⟩ _ ?_⟩
                rw [hn, htok, ← ht]
                ((try simp only [wf, nc, nc'] at *); (try simp (disch := omega) only [w64, w32, wu8] at *))
                simp [hk, he]
              · have h10 : ∀ H, R (Nx.out { code := 110, at' := e }) H := fun H => fin _ H (by rw [hn, htok, he]; rfl)
                repeat' first | exact h10 _ | refine ⟨?_, ?_⟩ | trivial
            · have hlg' : numF s k (digitsE s k - k) 0 > 1000000000 := by simpa using hlg.symm
              rw [if_pos hlg'] at htok
              have h10 : ∀ H, R (Nx.out { code := 10, at' := i }) H := fun H => fin _ H (by rw [hn, htok, hk])
              repeat' first | exact h10 _ | refine ⟨?_, ?_⟩ | trivial
      · refine (f56 s i k hk (by omega) hs).call ?_
        rintro _ ⟨e, he, rfl⟩
        have hb4 := spanEnd_bounds (nameP s) s.size _ k rfl (by omega)
        have ht : s.extract i.toNat e.toNat = s.extract k (nameE s k) := by rw [hk, he]; simp
        have htok : tokR s k = { kind := if wordB (s.extract k (nameE s k)) then 2 else 1, text := s.extract k (nameE s k), pos := k, fin := nameE s k } := by simp [tokR, ← hl]
        have he2 : (k : Int) ≤ e ∧ e ≤ s.size := by rw [he]; unfold nameE; omega
        (cbv; try simp only [wp, getL, takeL, dropL, TK.isAgg, reduceIte])
        refine ⟨(by (try simp only [wf, nc, nc'] at *); (try simp (disch := omega) only [w64, w32, wu8] at *); omega), (by (try simp only [wf, nc, nc'] at *); (try simp (disch := omega) only [w64, w32, wu8] at *); omega), (by (try simp only [wf, nc, nc'] at *); (try simp (disch := omega) only [w64, w32, wu8] at *); omega), ?_⟩
        refine (f25 _).call ?_
        rintro _ ⟨wd, hwd, rfl⟩
        replace hwd : wd = wordB (s.extract k (nameE s k)) := by ((try simp only [wf, nc, nc'] at *); (try simp (disch := omega) only [w64, w32, wu8] at *)); rw [hwd, ht]
        rw [← hwd] at htok
        have fit : ∀ q : Int, (q = if wd then 2 else 1) → ({ kind := q, text := s.extract i.toNat e.toNat, pos := i, fin := e } : Nx) = nextR s k := fun q hq => by
          rw [hn, htok, ht, hq, hk, he]
        cases wd <;> (cbv; try simp only [wp, getL, takeL, dropL, TK.isAgg, reduceIte])
        · refine ⟨(by (try simp only [wf, nc, nc'] at *); (try simp (disch := omega) only [w64, w32, wu8] at *); omega), (by (try simp only [wf, nc, nc'] at *); (try simp (disch := omega) only [w64, w32, wu8] at *); omega), (by (try simp only [wf, nc, nc'] at *); (try simp (disch := omega) only [w64, w32, wu8] at *); omega), fin ⟨1, _, _, false, _, 0, 0⟩ _ ?_⟩
          rw [← fit 1 rfl]
          ((try simp only [wf, nc, nc'] at *); (try simp (disch := omega) only [w64, w32, wu8] at *))
        · refine ⟨(by (try simp only [wf, nc, nc'] at *); (try simp (disch := omega) only [w64, w32, wu8] at *); omega), (by (try simp only [wf, nc, nc'] at *); (try simp (disch := omega) only [w64, w32, wu8] at *); omega), (by (try simp only [wf, nc, nc'] at *); (try simp (disch := omega) only [w64, w32, wu8] at *); omega), fin ⟨2, _, _, false, _, 0, 0⟩ _ ?_⟩
          rw [← fit 2 rfl]
          ((try simp only [wf, nc, nc'] at *); (try simp (disch := omega) only [w64, w32, wu8] at *))
    · refine ⟨fun h => ?_, fun h => ?_⟩
      · have hn : nextR s k = { code := 10, at' := k } := by simp [nextR, ← hb, ← hc, ← hx, h]
        have h10 : ∀ H, R (Nx.out { code := 10, at' := i }) H := fun H => fin _ H (by rw [hn, hk])
        repeat' first | exact h10 _ | refine ⟨?_, ?_⟩ | trivial
      · exact fin { com := true, fin := _ } _ (by simp [nextR, ← hb, ← hc, ← hx, show ¬ x < 0 by omega])
  · exact fin { fin := _ } _ (by simp [nextR, ← hb]; ((try simp only [wf, nc, nc'] at *); (try simp (disch := omega) only [w64, w32, wu8] at *)); omega)
end Go.VM
