/- Part of the proof: X11, X12, X13, X14, X15, X16. -/
import Derived.Test.YtcpdnjehmnbheaaDoorXG1
namespace Go.VM
open Go.Proofs Go
set_option maxRecDepth 100000
set_option linter.unusedVariables false
set_option linter.unusedSimpArgs false

/-- a piece of a source, or a fault -/
structure Nx where
  kind : Int := 0
  text : ByteArray := eS
  pos : Int := 0
  com : Bool := false
  fin : Int := 0
  code : Int := 0
  at' : Int := 0
def Nx.out (x : Nx) : A := .tup [.agg [.d (.int .i64 x.kind), .d (.str x.text), .d (.int .i64 x.pos), .d (.bool x.com), .d (.int .i64 x.fin)], .agg [.d (.int .i64 x.code), .d (.int .i64 x.at')]]
/-- the token at a place at which neither a blank nor a comment begins -/
def tokR (s : ByteArray) (k : Nat) : Nx :=
  if letterB (btF s k) then { kind := if wordB (s.extract k (nameE s k)) then 2 else 1, text := s.extract k (nameE s k), pos := k, fin := nameE s k }
  else if digitB (btF s k) then
    (if numF s k (digitsE s k - k) 0 > 1000000000 then { code := 10, at' := k }
    else if letterB (atI s (digitsE s k)) then { code := 110, at' := digitsE s k }
    else { kind := 3, text := s.extract k (digitsE s k), pos := k, fin := digitsE s k })
  else if signF (nthS signsL) (s.extract k s.size) 0 17 < 0 then { code := 110, at' := k }
  else { kind := 4, text := nthS signsL (signF (nthS signsL) (s.extract k s.size) 0 17).toNat, pos := k, fin := k + (nthS signsL (signF (nthS signsL) (s.extract k s.size) 0 17).toNat).size }
def nextR (s : ByteArray) (k : Nat) : Nx :=
  if blankB (btF s k) then { fin := k + 1 }
  else if comB s k then (if comE s k < 0 then { code := 10, at' := k } else { com := true, fin := comE s k })
  else tokR s k

theorem spanEnd_all (p : Nat → Bool) (n : Nat) : ∀ (m i : Nat), n - i = m → ∀ j, i ≤ j → j < spanEnd p n i → p j = true
  | 0, i, hm, j, h1, h2 => by rw [spanEnd] at h2; split at h2 <;> omega
  | m + 1, i, hm, j, h1, h2 => by
    rw [spanEnd] at h2
    split at h2
    · split at h2
      · rename_i hp
        by_cases e : j = i
        · rw [e]; exact hp
        · exact spanEnd_all p n m (i + 1) (by omega) j (by omega) h2
      · omega
    · omega
theorem ext_bt2 (s : ByteArray) (k e j : Nat) (he : e ≤ s.size) (h : k + j < e) : btF (s.extract k e) j = btF s ((k + j : Nat) : Int) := by
  have hz : (s.extract k e).size = e - k := by simp [ByteArray.size_extract]; omega
  rw [btF_get _ _ (by omega : j < (s.extract k e).size), btF_get _ _ (by omega : k + j < s.size)]
  simp [ByteArray.getElem_extract]
theorem numF_ext (s : ByteArray) (k e : Nat) (he : e ≤ s.size) : ∀ (n j : Nat) (a : Int), k + j + n ≤ e → numF (s.extract k e) j n a = numF s (k + j) n a
  | 0, j, a, h => rfl
  | n + 1, j, a, h => by
    rw [numF, numF, ext_bt2 s k e j he (by omega), numF_ext s k e he n (j + 1) _ (by omega)]
    rfl
theorem signF_lt (f : Nat → ByteArray) (t : ByteArray) : ∀ (n j : Nat), signF f t j n < j + n
  | 0, j => by simp [signF]; omega
  | n + 1, j => by
    unfold signF
    have := signF_lt f t n (j + 1)
    split <;> omega
theorem signF_pre (f : Nat → ByteArray) (t : ByteArray) : ∀ (n j : Nat), 0 ≤ signF f t j n → preB t (f (signF f t j n).toNat) = true
  | 0, j, h => by simp [signF] at h
  | n + 1, j, h => by
    unfold signF at h ⊢
    split
    · rename_i hp; simpa using hp
    · rename_i hp
      rw [if_neg hp] at h
      exact signF_pre f t n (j + 1) h
theorem sign_at (s : ByteArray) (k : Nat) (hk : k ≤ s.size) (p : ByteArray) (h : preB (s.extract k s.size) p = true) : p.size ≤ s.size - k ∧ s.extract k (k + p.size) = p := by
  have hz := ext_size s k hk
  simp only [preB, hz, Bool.and_eq_true, decide_eq_true_eq] at h
  refine ⟨h.1, ?_⟩
  have h2 := h.2
  rw [ByteArray.extract_extract] at h2
  simp only [Nat.add_zero] at h2
  rw [Nat.min_eq_left (by omega)] at h2
  exact h2
theorem f36 (s : ByteArray) (i : Int) (k : Nat) (hk : i = k) (h1 : k < s.size) (hs : s.size < 2 ^ 40) : VFun (P ()) 36 [.d (.str s), .d (.int .i64 i)] (fun r => ∃ x, x = nextR s k ∧ r = x.out) := by
  refine vfun (Tf := @T) @tabOk Tryd.func36 rfl rfl (Nat.le_of_ble_eq_true rfl) @fun ⟨_, _, _, _, _, _, _, _, _, _, _, _, _, _, _, _, _, _, _, _, _, _, _, _, _, _, _, _, _, _, _, _, _, _, _, _, _, _, wp, wf⟩ R hR => ?_
  cbv
  try simp only [wp, getL, takeL, dropL, TK.isAgg, reduceIte]
  have hbk : btF s i = btF s (k : Int) := by rw [hk]
  have fin : ∀ (x : Nx) (H : AHeap), x = nextR s k → R x.out H := fun x H h => hR _ H _ (.tup2 (.aggD [_, _, _, _, _]) (.aggD [_, _])) ⟨x, h, rfl⟩
  clear hR
  refine ⟨(by (try simp only [wf, nc, nc'] at *); (try simp (disch := omega) only [w64, w32, wu8] at *); omega), (by (try simp only [wf, nc, nc'] at *); (try simp (disch := omega) only [w64, w32, wu8] at *); omega), ?_⟩
  refine (f52 _).call ?_
  rintro _ ⟨b, hb, rfl⟩
  replace hb : b = blankB (btF s k) := by ((try simp only [wf, nc, nc'] at *); (try simp (disch := omega) only [w64, w32, wu8] at *)); rw [hb, hbk]
  cases b <;> (cbv; try simp only [wp, getL, takeL, dropL, TK.isAgg, reduceIte])
  · refine (f53 s i k hk h1 hs).call ?_
    rintro _ ⟨x, c, hx, hc, rfl⟩
    cases c <;> (cbv; try simp only [wp, getL, takeL, dropL, TK.isAgg, reduceIte])
    · have hx' : x = k := by rw [hx]; simp [comB] at hc; simp [comE, hc.1, hc.2]
      refine ⟨fun h => absurd h (by (try simp only [wf, nc, nc'] at *); (try simp (disch := omega) only [w64, w32, wu8] at *); omega), fun _ => ?_⟩
      refine (f54 s i (by (try simp only [wf, nc, nc'] at *); (try simp (disch := omega) only [w64, w32, wu8] at *); omega)).call ?_
      rintro _ ⟨b, hb2, rfl⟩
      (cbv; try simp only [wp, getL, takeL, dropL, TK.isAgg, reduceIte])
      have hb3 : b = btF s k := by rw [hb2, atI, hk]; simp [h1]
      have hn : nextR s k = tokR s k := by simp [nextR, ← hb, ← hc]
      refine (f55 _).call ?_
      rintro _ ⟨l, hl, rfl⟩
      rw [hb3] at hl
      cases l <;> (cbv; try simp only [wp, getL, takeL, dropL, TK.isAgg, reduceIte])
      · refine (f57 _).call ?_
        rintro _ ⟨d, hd, rfl⟩
        rw [hb3] at hd
        cases d <;> (cbv; try simp only [wp, getL, takeL, dropL, TK.isAgg, reduceIte])
        · refine (CallW.of (f61 _) ?_)
          rintro _ _ ⟨rfl, f, hf, rfl⟩
          (cbv; try simp only [wp, getL, takeL, dropL, TK.isAgg, reduceIte])
          refine CallW.of (f60 s i k f hk (by omega)) ?_
          rintro _ _ ⟨rfl, x2, hx2, rfl⟩
          (cbv; try simp only [wp, getL, takeL, dropL, TK.isAgg, reduceIte])
          have hx3 : x2 = signF (nthS signsL) (s.extract k s.size) 0 17 := by rw [hx2, hf]
          have htok : tokR s k = (if x2 < 0 then { code := 110, at' := k }
            else { kind := 4, text := nthS signsL x2.toNat, pos := k, fin := k + (nthS signsL x2.toNat).size }) := by simp [tokR, ← hl, ← hd, ← hx3]
          refine ⟨fun h => ?_, fun h => ?_⟩
          · have h10 : ∀ H, R (Nx.out { code := 110, at' := i }) H := fun H => fin _ H (by rw [hn, htok, if_pos h, hk])
            repeat' first | exact h10 _ | refine ⟨?_, ?_⟩ | trivial
          · rw [if_neg (by omega)] at htok
            have hx4 : x2 < 17 := by rw [hx3]; exact signF_lt _ _ 17 0
            repeat' first | refine ⟨?_, ?_⟩ | trivial
            all_goals
              refine CallW.of (f61 _) ?_
              rintro _ _ ⟨rfl, f2, hf2, rfl⟩
              have sz : (f2 x2.toNat).size ≤ s.size - k ∧ s.extract k (k + (f2 x2.toNat).size) = f2 x2.toNat := by
                rw [hf2]
                exact sign_at s k (by omega) _ (by rw [hx3]; exact signF_pre _ _ 17 0 (by omega))
              obtain ⟨z1, z2⟩ := sz
              obtain ⟨m, hm⟩ : ∃ m, m = (f2 x2.toNat).size := ⟨_, rfl⟩
              rw [← hm] at z1 z2
              have leaf : ∀ (T : ByteArray) (E : Int) H, T = f2 x2.toNat → E = k + m → R (Nx.out ⟨4, T, i, false, E, 0, 0⟩) H := fun T E H h1 h2 => fin _ H (by rw [hn, htok, ← hf2, h1, h2, hk, hm])
              have hk2 : i = (k : Int) := hk
              have hw : IntKind.i64.wrap (i + m) = k + m := by rw [w64 (by omega) (by omega)]; omega
              (cbv; try simp only [wp, getL, takeL, dropL, TK.isAgg, reduceIte])
              repeat' first | refine ⟨?_, ?_⟩ | trivial
              all_goals first
                | exact (by (try simp only [wf, nc, nc'] at *); (try simp (disch := omega) only [w64, w32, wu8] at *); omega)
                | (((try simp only [wf, nc, nc'] at *); (try simp (disch := omega) only [w64, w32, wu8] at *)); rw [← hm]; omega)
                | (refine leaf _ _ _ ?_ ?_ <;> ((try simp only [wf, nc, nc'] at *); (try simp (disch := omega) only [w64, w32, wu8] at *)) <;> rw [← hm] <;> first | exact hw | (rw [show i.toNat = k by omega, show (i + (m : Int)).toNat = k + m by omega]; exact z2))
        · refine (f58 s i k hk (by omega) hs).call ?_
          rintro _ ⟨e, he, rfl⟩
          have hb4 : k ≤ digitsE s k ∧ digitsE s k ≤ s.size := spanEnd_bounds (fun i => digitB (btF s i)) s.size _ k rfl (by omega)
          have hall : ∀ j, k ≤ j → j < digitsE s k → digitB (btF s j) = true := spanEnd_all (fun i => digitB (btF s i)) s.size _ k rfl
          have he2 : (k : Int) ≤ e ∧ e ≤ s.size := by rw [he]; omega
          have ht : s.extract i.toNat e.toNat = s.extract k (digitsE s k) := by rw [hk, he]; simp
          have hz : (s.extract k (digitsE s k)).size = digitsE s k - k := by simp [ByteArray.size_extract]; omega
          have htok : tokR s k = (if numF s k (digitsE s k - k) 0 > 1000000000 then { code := 10, at' := k }
            else if letterB (atI s (digitsE s k)) then { code := 110, at' := digitsE s k }
            else { kind := 3, text := s.extract k (digitsE s k), pos := k, fin := digitsE s k }) := by simp [tokR, ← hl, ← hd]
          (cbv; try simp only [wp, getL, takeL, dropL, TK.isAgg, reduceIte])
          refine ⟨(by (try simp only [wf, nc, nc'] at *); (try simp (disch := omega) only [w64, w32, wu8] at *); omega), (by (try simp only [wf, nc, nc'] at *); (try simp (disch := omega) only [w64, w32, wu8] at *); omega), (by (try simp only [wf, nc, nc'] at *); (try simp (disch := omega) only [w64, w32, wu8] at *); omega), ?_⟩
          refine (f59 _ ?_ ?_).call ?_
          · ((try simp only [wf, nc, nc'] at *); (try simp (disch := omega) only [w64, w32, wu8] at *))
            rw [ht]
            intro j hj
            rw [hz] at hj
            rw [ext_bt2 s k _ j hb4.2 (by omega)]
            exact hall (k + j) (by omega) (by omega)
          · ((try simp only [wf, nc, nc'] at *); (try simp (disch := omega) only [w64, w32, wu8] at *))
            rw [ht, hz]
            omega
          · rintro _ ⟨lg, hlg, rfl⟩
            replace hlg : lg = decide (numF s k (digitsE s k - k) 0 > 1000000000) := by
              ((try simp only [wf, nc, nc'] at *); (try simp (disch := omega) only [w64, w32, wu8] at *))
              rw [hlg, ht, hz, numF_ext s k _ hb4.2 (digitsE s k - k) 0 0 (by omega)]
              rfl
            cases lg <;> (cbv; try simp only [wp, getL, takeL, dropL, TK.isAgg, reduceIte])
            · have hlg' : ¬ numF s k (digitsE s k - k) 0 > 1000000000 := by simpa using hlg.symm
              rw [if_neg hlg'] at htok
              refine (f54 s e (by (try simp only [wf, nc, nc'] at *); (try simp (disch := omega) only [w64, w32, wu8] at *); omega)).call ?_
              rintro _ ⟨c2, hc2, rfl⟩
              (cbv; try simp only [wp, getL, takeL, dropL, TK.isAgg, reduceIte])
              refine (f55 _).call ?_
              rintro _ ⟨l2, hl2, rfl⟩
              replace hl2 : l2 = letterB (atI s (digitsE s k)) := by rw [hl2, hc2, he]
              rw [← hl2] at htok
              cases l2 <;> (cbv; try simp only [wp, getL, takeL, dropL, TK.isAgg, reduceIte])
              · refine ⟨(by (try simp only [wf, nc, nc'] at *); (try simp (disch := omega) only [w64, w32, wu8] at *); omega), (by (try simp only [wf, nc, nc'] at *); (try simp (disch := omega) only [w64, w32, wu8] at *); omega), (by (try simp only [wf, nc, nc'] at *); (try simp (disch := omega) only [w64, w32, wu8] at *); omega), fin ⟨3, _, _, false, _, 0, 0⟩ _ ?_⟩
                rw [hn, htok, ← ht]
                ((try simp only [wf, nc, nc'] at *); (try simp (disch := omega) only [w64, w32, wu8] at *))
                simp [hk, he]
              · have h10 : ∀ H, R (Nx.out { code := 110, at' := e }) H := fun H => fin _ H (by rw [hn, htok, he]; rfl)
                repeat' first | exact h10 _ | refine ⟨?_, ?_⟩ | trivial
            · have hlg' : numF s k (digitsE s k - k) 0 > 1000000000 := by simpa using hlg.symm
              rw [if_pos hlg'] at htok
              have h10 : ∀ H, R (Nx.out { code := 10, at' := i }) H := fun H => fin _ H (by rw [hn, htok, hk])
              repeat' first | exact h10 _ | refine ⟨?_, ?_⟩ | trivial
      · refine (f56 s i k hk (by omega) hs).call ?_
        rintro _ ⟨e, he, rfl⟩
        have hb4 := spanEnd_bounds (nameP s) s.size _ k rfl (by omega)
        have ht : s.extract i.toNat e.toNat = s.extract k (nameE s k) := by rw [hk, he]; simp
        have htok : tokR s k = { kind := if wordB (s.extract k (nameE s k)) then 2 else 1, text := s.extract k (nameE s k), pos := k, fin := nameE s k } := by simp [tokR, ← hl]
        have he2 : (k : Int) ≤ e ∧ e ≤ s.size := by rw [he]; unfold nameE; omega
        (cbv; try simp only [wp, getL, takeL, dropL, TK.isAgg, reduceIte])
        refine ⟨(by (try simp only [wf, nc, nc'] at *); (try simp (disch := omega) only [w64, w32, wu8] at *); omega), (by (try simp only [wf, nc, nc'] at *); (try simp (disch := omega) only [w64, w32, wu8] at *); omega), (by (try simp only [wf, nc, nc'] at *); (try simp (disch := omega) only [w64, w32, wu8] at *); omega), ?_⟩
        refine (f25 _).call ?_
        rintro _ ⟨wd, hwd, rfl⟩
        replace hwd : wd = wordB (s.extract k (nameE s k)) := by ((try simp only [wf, nc, nc'] at *); (try simp (disch := omega) only [w64, w32, wu8] at *)); rw [hwd, ht]
        rw [← hwd] at htok
        have fit : ∀ q : Int, (q = if wd then 2 else 1) → ({ kind := q, text := s.extract i.toNat e.toNat, pos := i, fin := e } : Nx) = nextR s k := fun q hq => by
          rw [hn, htok, ht, hq, hk, he]
        cases wd <;> (cbv; try simp only [wp, getL, takeL, dropL, TK.isAgg, reduceIte])
        · refine ⟨(by (try simp only [wf, nc, nc'] at *); (try simp (disch := omega) only [w64, w32, wu8] at *); omega), (by (try simp only [wf, nc, nc'] at *); (try simp (disch := omega) only [w64, w32, wu8] at *); omega), (by (try simp only [wf, nc, nc'] at *); (try simp (disch := omega) only [w64, w32, wu8] at *); omega), fin ⟨1, _, _, false, _, 0, 0⟩ _ ?_⟩
          rw [← fit 1 rfl]
          ((try simp only [wf, nc, nc'] at *); (try simp (disch := omega) only [w64, w32, wu8] at *))
        · refine ⟨(by (try simp only [wf, nc, nc'] at *); (try simp (disch := omega) only [w64, w32, wu8] at *); omega), (by (try simp only [wf, nc, nc'] at *); (try simp (disch := omega) only [w64, w32, wu8] at *); omega), (by (try simp only [wf, nc, nc'] at *); (try simp (disch := omega) only [w64, w32, wu8] at *); omega), fin ⟨2, _, _, false, _, 0, 0⟩ _ ?_⟩
          rw [← fit 2 rfl]
          ((try simp only [wf, nc, nc'] at *); (try simp (disch := omega) only [w64, w32, wu8] at *))
    · refine ⟨fun h => ?_, fun h => ?_⟩
      · have hn : nextR s k = { code := 10, at' := k } := by simp [nextR, ← hb, ← hc, ← hx, h]
        have h10 : ∀ H, R (Nx.out { code := 10, at' := i }) H := fun H => fin _ H (by rw [hn, hk])
        repeat' first | exact h10 _ | refine ⟨?_, ?_⟩ | trivial
      · exact fin { com := true, fin := _ } _ (by simp [nextR, ← hb, ← hc, ← hx, show ¬ x < 0 by omega])
  · exact fin { fin := _ } _ (by simp [nextR, ← hb]; ((try simp only [wf, nc, nc'] at *); (try simp (disch := omega) only [w64, w32, wu8] at *)); omega)
end Go.VM

namespace Go.VM
open Go.Proofs Go
set_option maxRecDepth 100000
set_option linter.unusedVariables false
set_option linter.unusedSimpArgs false

theorem blkE_bounds (s : ByteArray) : ∀ (m i d : Nat), s.size - i = m → blkE s i d = -1 ∨ ((i : Int) < blkE s i d ∧ blkE s i d ≤ s.size) := by
  intro m
  induction m using Nat.strongRecOn with
  | ind m ih =>
    intro i d hm
    rw [blkE]
    split
    · split
      · have := ih (s.size - (i + 2)) (by omega) (i + 2) (d + 1) rfl
        omega
      · split
        · split
          · omega
          · have := ih (s.size - (i + 2)) (by omega) (i + 2) (d - 1) rfl
            omega
        · have := ih (s.size - (i + 1)) (by omega) (i + 1) d rfl
          omega
    · exact .inl rfl

theorem comE_bounds (s : ByteArray) (k : Nat) (hk : k < s.size) (hc : comB s k = true) : comE s k = -1 ∨ ((k : Int) < comE s k ∧ comE s k ≤ s.size) := by
  unfold comB at hc
  unfold comE
  split
  · rename_i h
    have hb : btF s k = 45 := by simp [twoB] at h; exact h.1.2
    have := spanEnd_bounds (fun i => btF s i != 10) s.size _ (k + 1) rfl (by omega)
    have e : lineE s k = lineE s (k + 1) := by
      rw [lineE, spanEnd, if_pos hk, if_pos (by simp [hb])]
      rfl
    rw [e]
    unfold lineE
    omega
  · split
    · exact blkE_bounds s _ k 0 rfl
    · rename_i h1 h2
      simp [h1, h2] at hc

theorem signs_size : ∀ i, i < 17 → 1 ≤ (nthS signsL i).size := by decide

theorem next_fin (s : ByteArray) (k : Nat) (hk : k < s.size) : (nextR s k).code ≠ 0 ∨ ((k : Int) < (nextR s k).fin ∧ (nextR s k).fin ≤ s.size) := by
  unfold nextR
  split
  · right; simp; omega
  · split
    · split
      · left; simp
      · rename_i h1 h2
        have := comE_bounds s k hk h1
        right
        simp
        omega
    · unfold tokR
      split
      · rename_i h
        have hb := spanEnd_bounds (nameP s) s.size _ (k + 1) rfl (by omega)
        have e : nameE s k = nameE s (k + 1) := by
          rw [nameE, spanEnd, if_pos hk, if_pos (by simp [nameP, h])]
          rfl
        right
        simp only [e]
        unfold nameE
        omega
      · split
        · rename_i h
          have hb := spanEnd_bounds (fun i => digitB (btF s i)) s.size _ (k + 1) rfl (by omega)
          have e : digitsE s k = digitsE s (k + 1) := by
            rw [digitsE, spanEnd, if_pos hk, if_pos h]
            rfl
          split
          · left; simp
          · split
            · left; simp
            · right
              simp only [e]
              unfold digitsE
              omega
        · split
          · left; simp
          · rename_i h
            right
            have h1 := signF_lt (nthS signsL) (s.extract k s.size) 17 0
            have h2 := signs_size (signF (nthS signsL) (s.extract k s.size) 0 17).toNat (by omega)
            have h3 := (sign_at s k (by omega) _ (signF_pre (nthS signsL) (s.extract k s.size) 17 0 (by omega))).1
            simp only
            omega

/-- the tokens and the comments from a place on, or the first fault -/
def runT (s : ByteArray) : Nat → Nat → List Nx → List (Int × Int) → List Nx × List (Int × Int) × Int × Int
  | 0, _, T, C => (T, C, 0, 0)
  | f + 1, k, T, C =>
    if k < s.size then
      (if (nextR s k).code ≠ 0 then ([], [], (nextR s k).code, (nextR s k).at')
      else if (nextR s k).com then runT s f (nextR s k).fin.toNat T (C ++ [((k : Int), (nextR s k).fin)])
      else if (nextR s k).kind ≠ 0 then (if T.length = 6000 then ([], [], 2, k) else runT s f (nextR s k).fin.toNat (T ++ [nextR s k]) C)
      else runT s f (nextR s k).fin.toNat T C)
    else (T, C, 0, 0)
def splitS (s : ByteArray) : List Nx × List (Int × Int) × Int × Int := if s.size > 16000 then ([], [], 2, 0) else runT s s.size 0 [] []

def tokF (K : Nat → Int) (S : Nat → ByteArray) (O : Nat → Int) (i : Nat) : Nat → D
  | 0 => .int .i64 (K i)
  | 1 => .str (S i)
  | _ => .int .i64 (O i)
def kindsL (T : List Nx) (i : Nat) : Int := (T.getD i {}).kind
def textsL (T : List Nx) (i : Nat) : ByteArray := (T.getD i {}).text
def possL (T : List Nx) (i : Nat) : Int := (T.getD i {}).pos
def pairF (F G : Nat → Int) (i : Nat) : Nat → D
  | 0 => .int .i64 (F i)
  | _ => .int .i64 (G i)
def fstsL (C : List (Int × Int)) (i : Nat) : Int := (C.getD i (0, 0)).1
def sndsL (C : List (Int × Int)) (i : Nat) : Int := (C.getD i (0, 0)).2
def tokG (T : List Nx) : Nat → Nat → D := tokF (kindsL T) (textsL T) (possL T)
def pairG (C : List (Int × Int)) : Nat → Nat → D := pairF (fstsL C) (sndsL C)

theorem tok_app (T : List Nx) (x : Nx) (g : Nat → Nat → D) (hg : ∀ i j, i < T.length → j < 3 → Deq (g i j) (tokG T i j)) : ∀ i j, i < (T ++ [x]).length → j < 3 → Deq (appF T.length g (rowF 3 [.int .i64 x.kind, .str x.text, .int .i64 x.pos]) i j) (tokG (T ++ [x]) i j) := by
  intro i j hi hj
  simp only [List.length_append, List.length_singleton] at hi
  by_cases h : i < T.length
  · have e : tokG (T ++ [x]) i j = tokG T i j := by simp [tokG, kindsL, textsL, possL, tokF, List.getD_eq_getElem?_getD, List.getElem?_append, h]
    rw [e]
    simp only [appF, if_pos h]
    exact hg i j h hj
  · have hi' : i = T.length := by omega
    subst hi'
    refine .of_eq ?_
    match j, hj with
    | 0, _ => simp [appF, rowF, tokG, kindsL, tokF, List.getD_eq_getElem?_getD]
    | 1, _ => simp [appF, rowF, tokG, textsL, tokF, List.getD_eq_getElem?_getD]
    | 2, _ => simp [appF, rowF, tokG, possL, tokF, List.getD_eq_getElem?_getD]
theorem pair_app (C : List (Int × Int)) (x : Int × Int) (g : Nat → Nat → D) (hg : ∀ i j, i < C.length → j < 2 → Deq (g i j) (pairG C i j)) : ∀ i j, i < (C ++ [x]).length → j < 2 → Deq (appF C.length g (rowF 2 [.int .i64 x.1, .int .i64 x.2]) i j) (pairG (C ++ [x]) i j) := by
  intro i j hi hj
  simp only [List.length_append, List.length_singleton] at hi
  by_cases h : i < C.length
  · have e : pairG (C ++ [x]) i j = pairG C i j := by simp [pairG, fstsL, sndsL, pairF, List.getD_eq_getElem?_getD, List.getElem?_append, h]
    rw [e]
    simp only [appF, if_pos h]
    exact hg i j h hj
  · have hi' : i = C.length := by omega
    subst hi'
    refine .of_eq ?_
    match j, hj with
    | 0, _ => simp [appF, rowF, pairG, fstsL, pairF, List.getD_eq_getElem?_getD]
    | 1, _ => simp [appF, rowF, pairG, sndsL, pairF, List.getD_eq_getElem?_getD]

structure Sp where
  k : Nat
  n : Nat
  g : Nat → Nat → D
  m : Nat
  h : Nat → Nat → D

structure SpOk (s : ByteArray) (y : Sp) (T : List Nx) (C : List (Int × Int)) (f : Nat) : Prop where
  k : y.k ≤ s.size
  n : y.n = T.length
  m : y.m = C.length
  g : ∀ i j, i < T.length → j < 3 → Deq (y.g i j) (tokG T i j)
  h : ∀ i j, i < C.length → j < 2 → Deq (y.h i j) (pairG C i j)
  lt : T.length ≤ y.k
  lc : C.length ≤ y.k
  fu : s.size - y.k ≤ f
  run : runT s f y.k T C = splitS s

def SplitOut (s : ByteArray) (r : A) : Prop := ∃ T C c a K S O F G, (T, C, c, a) = splitS s ∧ K = kindsL T ∧ S = textsL T ∧ O = possL T ∧ F = fstsL C ∧ G = sndsL C ∧ r = .tup [.d (.sl T.length 3 (tokF K S O)), .d (.sl C.length 2 (pairF F G)), .agg [.d (.int .i64 c), .d (.int .i64 a)]]

theorem f22 (s : ByteArray) (hs : s.size < 2 ^ 40) : VFun (P ()) 22 [.d (.str s)] (SplitOut s) := by
  refine vfun (Tf := @T) @tabOk Tryd.func22 rfl rfl (Nat.le_of_ble_eq_true rfl) @fun ⟨_, _, _, _, _, _, _, _, _, _, _, _, _, _, _, _, _, _, _, _, _, _, _, _, _, _, _, _, _, _, _, _, _, _, _, _, _, _, wp, wf⟩ R hR => ?_
  cbv
  try simp only [wp, getL, takeL, dropL, TK.isAgg, reduceIte]
  have fault : ∀ c a H, splitS s = ([], [], c, a) → R (A.tup [A.nils, A.nils, A.agg [A.d (D.int IntKind.i64 c), A.d (D.int IntKind.i64 a)]]) H := fun c a H e =>
    hR _ H _ (.tup3 (.nils 3 _) (.nils 2 _) (.aggD [_, _])) ⟨[], [], c, a, _, _, _, _, _, e.symm, rfl, rfl, rfl, rfl, rfl, rfl⟩
  refine ⟨fun h => ?_, fun h => ?_⟩
  · exact fault 2 0 _ (by rw [splitS, if_pos (by (try simp only [wf, nc, nc'] at *); (try simp (disch := omega) only [w64, w32, wu8] at *); omega)])
  · have hsz : s.size ≤ 16000 := (by (try simp only [wf, nc, nc'] at *); (try simp (disch := omega) only [w64, w32, wu8] at *); omega)
    refine loopGhost 5 3 rfl ?_
    refine loopGhost 6 2 rfl ?_
    refine loopV (Tf := @T) @tabOk (fun y : Sp => ⟨mk 58 [(0, .d (.str s)), (4, .ptr 0 0), (5, .ref 1 0 y.n 3), (6, .ref 2 0 y.m 2), (7, .d (.int .i64 y.k))], [.box [.d (.int .i64 0), .d (.int .i64 0)], .arr y.n 3 y.g 0, .arr y.m 2 y.h 0]⟩) (fun y => s.size - y.k) (fun y => ∃ T C f, SpOk s y T C f) ⟨0, 0, fun _ _ => .nilp, 0, fun _ _ => .nilp⟩ ⟨[], [], s.size, Nat.zero_le _, rfl, rfl, fun i j h => absurd h (by simp), fun i j h => absurd h (by simp), Nat.zero_le _, Nat.zero_le _, by simp, by rw [splitS, if_neg (by omega)]⟩ ?_ (fun y => rfl) @fun ⟨_, _, _, _, _, _, _, _, _, _, _, _, _, _, _, _, _, _, _, _, _, _, _, _, _, _, _, _, _, _, _, _, _, _, _, _, _, _, wpa, wfa⟩ ⟨k, n, g, m, q⟩ Bk hy hBk => ?_
    · (cbv; try simp only [wf, exD, exL, exT, exB, exA, leLs, leL_d, leL_undef, deq_refl, deq_int, deq_bool, deq_str, and_true, true_and, AObj.iter.injEq, nc, nc']; try simp (disch := omega) only [w64, w32, wu8])
      simp
    (cbv; try simp only [wp, wpa, getL, takeL, dropL, TK.isAgg, reduceIte])
    obtain ⟨T, C, f, ⟨o1, o2, o3, o4, o5, o6, o7, o8, o9⟩⟩ := hy
    dsimp only at o1 o2 o3 o4 o5 o6 o7 o8 o9
    refine ⟨fun h => ?_, fun h => ?_⟩
    · have hk : k < s.size := by (try simp only [wf, wfa, nc, nc'] at *); omega
      obtain ⟨f', rfl⟩ : ∃ f', f = f' + 1 := ⟨f - 1, by omega⟩
      rw [runT, if_pos hk] at o9
      have hfin := next_fin s k hk
      refine (f36 s _ k rfl hk hs).call ?_
      rintro _ ⟨x, hx, rfl⟩
      rw [← hx] at o9 hfin
      obtain ⟨kind, text, pos, com, fin, code, at'⟩ := x
      dsimp only at o9 hfin
      cases com <;> (cbv; try simp only [wp, wpa, getL, takeL, dropL, TK.isAgg, reduceIte])
      · refine ⟨fun c0 => ?_, fun c0 => ?_⟩
        · rw [if_pos c0] at o9
          have := fun H => fault code at' H o9.symm
          repeat' first | exact this _ | refine ⟨?_, ?_⟩ | trivial
        · have hf2 := hfin.resolve_left (by simp [c0])
          (try simp only [nc] at hf2)
          obtain ⟨k2, hk2⟩ : ∃ k2 : Nat, fin = k2 := ⟨fin.toNat, by omega⟩
          rw [if_neg (by simp [c0]), if_neg (by simp), hk2, Int.toNat_natCast] at o9
          refine ⟨fun kd => ⟨fun n6 => ?_, fun n6 => ?_⟩, fun kd => ?_⟩
          · rw [if_pos kd, if_pos (by rw [← o2]; ((try simp only [wf, wfa, nc, nc'] at *); (try simp (disch := omega) only [w64, w32, wu8] at *)); omega)] at o9
            have := fun H => fault 2 k H o9.symm
            repeat' first | exact this _ | refine ⟨?_, ?_⟩ | trivial
          · rw [if_pos kd, if_neg (by rw [← o2]; ((try simp only [wf, wfa, nc, nc'] at *); (try simp (disch := omega) only [w64, w32, wu8] at *)); omega)] at o9
            obtain ⟨g2, hg2⟩ : ∃ g2, g2 = appF n g (rowF 3 [.int .i64 kind, .str text, .int .i64 pos]) := ⟨_, rfl⟩
            obtain ⟨n2, hn2⟩ : ∃ n2, n2 = n + 1 := ⟨_, rfl⟩
            have ap := tok_app T ⟨kind, text, pos, false, k2, code, at'⟩ g o4
            dsimp only at ap
            rw [← o2, ← hg2] at ap
            rw [hk2] at hf2
            have bk := fun s' => hBk ⟨k2, n2, g2, m, q⟩ s' (by dsimp only; omega) ⟨_, C, f', by dsimp only; omega, by simp [hn2, o2], o3, ap, o5, by simp; omega, by dsimp only; omega, by dsimp only; omega, o9⟩
            repeat' first | refine ⟨?_, ?_⟩ | trivial
            all_goals first
              | exact (by (try simp only [wf, wfa, nc, nc'] at *); (try simp (disch := omega) only [w64, w32, wu8] at *); omega)
              | (refine bk _ ?_; (cbv; try simp only [wf, wfa, exD, exL, exT, exB, exA, leLs, leL_d, leL_undef, deq_refl, deq_int, deq_bool, deq_str, and_true, true_and, AObj.iter.injEq, nc, nc']; try simp (disch := omega) only [w64, w32, wu8]); simp [hk2, deq_refl]; done)
              | (refine bk _ ?_; (cbv; try simp only [wf, wfa, exD, exL, exT, exB, exA, leLs, leL_d, leL_undef, deq_refl, deq_int, deq_bool, deq_str, and_true, true_and, AObj.iter.injEq, nc, nc']; try simp (disch := omega) only [w64, w32, wu8]); simp [hn2, hg2, hk2, deq_refl]; done)
          · rw [if_neg (by simp [kd])] at o9
            rw [hk2] at hf2
            have bk := fun s' => hBk ⟨k2, n, g, m, q⟩ s' (by dsimp only; omega) ⟨T, C, f', by dsimp only; omega, o2, o3, o4, o5, by dsimp only; omega, by dsimp only; omega, by dsimp only; omega, o9⟩
            repeat' first | refine ⟨?_, ?_⟩ | trivial
            all_goals first
              | exact (by (try simp only [wf, wfa, nc, nc'] at *); (try simp (disch := omega) only [w64, w32, wu8] at *); omega)
              | (refine bk _ ?_; (cbv; try simp only [wf, wfa, exD, exL, exT, exB, exA, leLs, leL_d, leL_undef, deq_refl, deq_int, deq_bool, deq_str, and_true, true_and, AObj.iter.injEq, nc, nc']; try simp (disch := omega) only [w64, w32, wu8]); simp [hk2, deq_refl]; done)
      · refine ⟨fun c0 => ?_, fun c0 => ?_⟩
        · rw [if_pos c0] at o9
          have := fun H => fault code at' H o9.symm
          repeat' first | exact this _ | refine ⟨?_, ?_⟩ | trivial
        · have hf2 := hfin.resolve_left (by simp [c0])
          (try simp only [nc] at hf2)
          obtain ⟨k2, hk2⟩ : ∃ k2 : Nat, fin = k2 := ⟨fin.toNat, by omega⟩
          rw [if_neg (by simp [c0]), if_pos rfl, hk2, Int.toNat_natCast] at o9
          obtain ⟨q2, hq2⟩ : ∃ q2, q2 = appF m q (rowF 2 [.int .i64 k, .int .i64 k2]) := ⟨_, rfl⟩
          obtain ⟨m2, hm2⟩ : ∃ m2, m2 = m + 1 := ⟨_, rfl⟩
          have ap := pair_app C ((k : Int), (k2 : Int)) q o5
          dsimp only at ap
          rw [← o3, ← hq2] at ap
          rw [hk2] at hf2
          have bk := fun s' => hBk ⟨k2, n, g, m2, q2⟩ s' (by dsimp only; omega) ⟨T, _, f', by dsimp only; omega, o2, by simp [hm2, o3], o4, ap, by dsimp only; omega, by simp; omega, by dsimp only; omega, o9⟩
          repeat' first | refine ⟨?_, ?_⟩ | trivial
          all_goals first
            | exact (by (try simp only [wf, wfa, nc, nc'] at *); (try simp (disch := omega) only [w64, w32, wu8] at *); omega)
            | (refine bk _ ?_; (cbv; try simp only [wf, wfa, exD, exL, exT, exB, exA, leLs, leL_d, leL_undef, deq_refl, deq_int, deq_bool, deq_str, and_true, true_and, AObj.iter.injEq, nc, nc']; try simp (disch := omega) only [w64, w32, wu8]); simp [hm2, hq2, hk2, deq_refl]; done)
    · have e0 : runT s f k T C = (T, C, 0, 0) := by
        cases f with
        | zero => rfl
        | succ f => rw [runT, if_neg (by (try simp only [wf, wfa, nc, nc'] at *); (try simp (disch := omega) only [w64, w32, wu8] at *); omega)]
      rw [e0] at o9
      have d1 : Deq (.sl n 3 g) (.sl T.length 3 (tokG T)) := by rw [o2]; exact .sl _ _ _ _ o4
      have d2 : Deq (.sl m 2 q) (.sl C.length 2 (pairG C)) := by rw [o3]; exact .sl _ _ _ _ o5
      exact hR _ _ _ (.tup3 (.deq _ _ _ (.ref0 1 n 3 n 0 g rfl rfl) d1) (.deq _ _ _ (.ref0 2 m 2 m 0 q rfl rfl) d2) (.aggD [_, _])) ⟨T, C, 0, 0, _, _, _, _, _, o9, rfl, rfl, rfl, rfl, rfl, rfl⟩
end Go.VM

namespace Go.VM
open Go.Proofs Go
set_option maxRecDepth 100000
set_option linter.unusedVariables false
set_option linter.unusedSimpArgs false

def TokOut (s : ByteArray) (r : A) : Prop := ∃ n c a K S O, n = (splitS s).1.length ∧ c = (splitS s).2.2.1 ∧ a = (splitS s).2.2.2 ∧ K = kindsL (splitS s).1 ∧ S = textsL (splitS s).1 ∧ O = possL (splitS s).1 ∧ r = .tup [.d (.sl n 3 (tokF K S O)), .agg [.d (.int .i64 c), .d (.int .i64 a)]]

theorem f10 (s : ByteArray) (hs : s.size < 2 ^ 40) : VFun (P ()) 10 [.d (.str s)] (TokOut s) := by
  refine vfun (Tf := @T) @tabOk Tryd.func10 rfl rfl (Nat.le_of_ble_eq_true rfl) @fun ⟨_, _, _, _, _, _, _, _, _, _, _, _, _, _, _, _, _, _, _, _, _, _, _, _, _, _, _, _, _, _, _, _, _, _, _, _, _, _, wp, wf⟩ R hR => ?_
  cbv
  try simp only [wp, getL, takeL, dropL, TK.isAgg, reduceIte]
  refine (f22 s hs).call ?_
  rintro _ ⟨T, C, c, a, K, S, O, F, G, h, hK, hS, hO, hF, hG, rfl⟩
  obtain ⟨n, hn⟩ : ∃ n, n = T.length := ⟨_, rfl⟩
  obtain ⟨m, hm⟩ : ∃ m, m = C.length := ⟨_, rfl⟩
  rw [← hn, ← hm]
  have leaf : ∀ H, R (A.tup [A.d (D.sl n 3 (tokF K S O)), A.agg [A.d (D.int IntKind.i64 c), A.d (D.int IntKind.i64 a)]]) H := fun H => 
    hR _ H _ (.tup2 (.d _) (.aggD [_, _])) ⟨n, c, a, K, S, O, by rw [← h, hn], by rw [← h], by rw [← h], by rw [← h, hK], by rw [← h, hS], by rw [← h, hO], rfl⟩
  generalize tokF K S O = TK at *
  generalize pairF F G = PF at *
  (cbv; try simp only [wp, getL, takeL, dropL, TK.isAgg, reduceIte])
  repeat' first | exact leaf _ | refine ⟨?_, ?_⟩ | trivial

end Go.VM

namespace Go.VM
open Go.Proofs Go
set_option maxRecDepth 100000
set_option linter.unusedVariables false
set_option linter.unusedSimpArgs false

theorem sign_iff (s : ByteArray) (k : Nat) (hk : k ≤ s.size) (p : ByteArray) : preB (s.extract k s.size) p = true ↔ p.size ≤ s.size - k ∧ s.extract k (k + p.size) = p := by
  refine ⟨sign_at s k hk p, fun ⟨h1, h2⟩ => ?_⟩
  have hz := ext_size s k hk
  simp only [preB, hz, Bool.and_eq_true, decide_eq_true_eq]
  refine ⟨h1, ?_⟩
  rw [ByteArray.extract_extract]
  simp only [Nat.add_zero]
  rw [Nat.min_eq_left (by omega)]
  exact h2
theorem signs_size2 : ∀ i, i < 17 → (nthS signsL i).size ≤ 2 := by decide

set_option maxHeartbeats 2000000
theorem f24 (s : ByteArray) (i : Int) (k : Nat) (hk : i = k) (h1 : k < s.size) (hs : s.size < 2 ^ 40) : VFun (P ()) 24 [.d (.str s), .d (.int .i64 i)] (fun r => ∃ x, x = tokR s k ∧ r = .tup [.agg [.d (.int .i64 x.kind), .d (.str x.text), .d (.int .i64 x.pos)], .agg [.d (.int .i64 x.code), .d (.int .i64 x.at')]]) := by
  refine vfun (Tf := @T) @tabOk Tryd.func24 rfl rfl (Nat.le_of_ble_eq_true rfl) @fun ⟨_, _, _, _, _, _, _, _, _, _, _, _, _, _, _, _, _, _, _, _, _, _, _, _, _, _, _, _, _, _, _, _, _, _, _, _, _, _, wp, wf⟩ R hR => ?_
  cbv
  try simp only [wp, getL, takeL, dropL, TK.isAgg, reduceIte]
  replace hR := fun x H h => hR _ H _ (.tup2 (.aggD [_, _, _]) (.aggD [_, _])) ⟨x, h, rfl⟩
  have hb : btF s i = btF s (k : Int) := by rw [hk]
  refine ⟨(by (try simp only [wf, nc, nc'] at *); (try simp (disch := omega) only [w64, w32, wu8] at *); omega), (by (try simp only [wf, nc, nc'] at *); (try simp (disch := omega) only [w64, w32, wu8] at *); omega), ?_⟩
  refine (f38 _).call ?_
  rintro _ ⟨l, hl, rfl⟩
  replace hl : l = letterB (btF s k) := by ((try simp only [wf, nc, nc'] at *); (try simp (disch := omega) only [w64, w32, wu8] at *)); rw [hl, hb]
  cases l <;> (cbv; try simp only [wp, getL, takeL, dropL, TK.isAgg, reduceIte])
  · refine ⟨(by (try simp only [wf, nc, nc'] at *); (try simp (disch := omega) only [w64, w32, wu8] at *); omega), (by (try simp only [wf, nc, nc'] at *); (try simp (disch := omega) only [w64, w32, wu8] at *); omega), ?_⟩
    refine (f39 _).call ?_
    rintro _ ⟨d, hd, rfl⟩
    replace hd : d = digitB (btF s k) := by ((try simp only [wf, nc, nc'] at *); (try simp (disch := omega) only [w64, w32, wu8] at *)); rw [hd, hb]
    cases d <;> (cbv; try simp only [wp, getL, takeL, dropL, TK.isAgg, reduceIte])
    · refine f41.call ?_
      rintro _ ⟨f, hf, rfl⟩
      (cbv; try simp only [wp, getL, takeL, dropL, TK.isAgg, reduceIte])
      refine loopV (Tf := @T) @tabOk (fun y : Nat => ⟨mk 154 [(0, .d (.str s)), (1, .d (.int .i64 i)), (4, .ptr 0 0), (5, .ptr 1 0), (9, .d (.sl 17 1 (strsG f))), (10, .d (.int .i64 y))], [.box [.d (.int .i64 0), .d (.str ⟨#[]⟩), .d (.int .i64 0)], .box [.d (.int .i64 0), .d (.int .i64 0)]]⟩) (fun y => 17 - y) (fun y => y ≤ 17 ∧ signF f (s.extract k s.size) y (17 - y) = signF f (s.extract k s.size) 0 17) 0 ⟨by omega, rfl⟩ ?_ (fun y => rfl) @fun ⟨_, _, _, _, _, _, _, _, _, _, _, _, _, _, _, _, _, _, _, _, _, _, _, _, _, _, _, _, _, _, _, _, _, _, _, _, _, _, wpa, wfa⟩ y Bk hy hBk => ?_
      · (cbv; try simp only [wf, exD, exL, exT, exB, exA, leLs, leL_d, leL_undef, deq_refl, deq_int, deq_bool, deq_str, and_true, true_and, AObj.iter.injEq, nc, nc']; try simp (disch := omega) only [w64, w32, wu8])
        rfl
      (cbv; try simp only [wp, wpa, getL, takeL, dropL, TK.isAgg, reduceIte])
      obtain ⟨y1, y2⟩ := hy
      have tok : tokR s k = if signF f (s.extract k s.size) 0 17 < 0 then { code := 110, at' := k }
        else { kind := 4, text := f (signF f (s.extract k s.size) 0 17).toNat, pos := k, fin := k + (f (signF f (s.extract k s.size) 0 17).toNat).size } := by rw [hf]; simp [tokR, ← hl, ← hd]
      rw [← y2] at tok
      have hu : y < 17 → signF f (s.extract k s.size) y (17 - y) = if preB (s.extract k s.size) (f y) = true then (y : Int) else signF f (s.extract k s.size) (y + 1) (17 - (y + 1)) := fun h => by
        rw [show 17 - y = 17 - (y + 1) + 1 by omega]
        rfl
      have hsz : y < 17 → (f y).size ≤ 2 := fun h => by rw [hf]; exact signs_size2 y h
      have hiff := sign_iff s k (by omega) (f y)
      obtain ⟨m, hm⟩ : ∃ m, m = (f y).size := ⟨_, rfl⟩
      (try simp only [nc, nc'] at *)
      have hw : y < 17 → IntKind.i64.wrap (i + m) = ((k + m : Nat) : Int) := fun h => by
        have := hsz h
        rw [w64 (by omega) (by omega)]; omega
      rw [← hm] at hsz hiff
      refine ⟨fun e0 => ?_, fun e0 => ?_⟩
      · have e0 : y < 17 := (by (try simp only [wf, wfa, nc, nc'] at *); (try simp (disch := omega) only [w64, w32, wu8] at *); omega)
        obtain ⟨y2', hy2⟩ : ∃ y2', y2' = y + 1 := ⟨_, rfl⟩
        have hw := hw e0
        have hsz := hsz e0
        have hu := hu e0
        have bk : ∀ s', ¬ preB (s.extract k s.size) (f y) = true → leS 0 ⟨mk 154 [(0, .d (.str s)), (1, .d (.int .i64 i)), (4, .ptr 0 0), (5, .ptr 1 0), (9, .d (.sl 17 1 (strsG f))), (10, .d (.int .i64 (y2' : Int)))], [.box [.d (.int .i64 0), .d (.str ⟨#[]⟩), .d (.int .i64 0)], .box [.d (.int .i64 0), .d (.int .i64 0)]]⟩ s' → Bk s' := fun s' hn hle => hBk y2' s' (by omega) ⟨by omega, by rw [← y2, hu, if_neg hn, hy2]⟩ hle
        have leaf : ∀ H, preB (s.extract k s.size) (f y) = true → R (A.tup [A.agg [A.d (D.int IntKind.i64 4), A.d (D.str (f y)), A.d (D.int IntKind.i64 i)], A.agg [A.d (D.int IntKind.i64 0), A.d (D.int IntKind.i64 0)]]) H := fun H hp => by
          rw [hu, if_pos hp, if_neg (by omega), Int.toNat_natCast] at tok
          have := hR _ H tok.symm
          rw [hk]
          exact this
        have hk3 : i.toNat = k := by omega
        refine ⟨(by (try simp only [wf, wfa, nc, nc'] at *); (try simp (disch := omega) only [w64, w32, wu8] at *); omega), (by (try simp only [wf, wfa, nc, nc'] at *); (try simp (disch := omega) only [w64, w32, wu8] at *); omega), fun c1 => ?_, fun c1 => ?_⟩
        all_goals
          have c1' := c1
          simp only [wfa, wf, nc, nc', Int.toNat_natCast, ← hm, hw] at c1'
        all_goals repeat' first | with_reducible refine And.intro ?_ ?_ | intro c2
        all_goals first
          | exact (by (try simp only [wf, wfa, nc, nc'] at *); (try simp (disch := omega) only [w64, w32, wu8] at *); omega)
          | trivial
          | (simp only [wfa, wf, nc, nc', Int.toNat_natCast, ← hm, hw]; omega)
          | (simp only [wfa, wf, nc, nc', Int.toNat_natCast, ← hm, hw, hk3] at c2 ⊢; exact leaf _ (hiff.2 ⟨by omega, c2⟩))
          | (refine bk _ (fun hp => ?_) ?_; (first | exact absurd (hiff.1 hp).1 (by omega) | (simp only [wfa, wf, nc, nc', Int.toNat_natCast, ← hm, hw, hk3] at c2; exact c2 (hiff.1 hp).2)); (cbv; try simp only [wf, wfa, exD, exL, exT, exB, exA, leLs, leL_d, leL_undef, deq_refl, deq_int, deq_bool, deq_str, and_true, true_and, AObj.iter.injEq, nc, nc']; try simp (disch := omega) only [w64, w32, wu8]); try omega; done)
      · have e0 : ¬ y < 17 := (by (try simp only [wf, wfa, nc, nc'] at *); (try simp (disch := omega) only [w64, w32, wu8] at *); omega)
        have : y = 17 := by omega
        rw [this] at tok
        have := hR _ [AObj.box [A.d (D.int IntKind.i64 0), A.d (D.str { data := { toList := [] } }), A.d (D.int IntKind.i64 0)], AObj.box [A.d (D.int IntKind.i64 110), A.d (D.int IntKind.i64 i)]] (tok.trans (if_pos (by show (-1 : Int) < 0; omega))).symm
        simp only [List.map, ← hk] at this
        exact this
    · have hE := spanEnd_bounds (fun i => digitB (btF s i)) s.size _ k rfl (by omega)
      have hE2 : k ≤ digitsE s k ∧ digitsE s k ≤ s.size := hE
      have hz : ∃ e, e = digitsE s k := ⟨_, rfl⟩
      obtain ⟨E, hz⟩ := hz
      rw [← hz] at hE2
      have tok : tokR s k = (if numF s k (E - k) 0 > 1000000000 then { code := 10, at' := k }
            else if letterB (atI s E) then { code := 110, at' := E }
            else { kind := 3, text := s.extract k E, pos := k, fin := E }) := by rw [hz]; simp [tokR, ← hl, ← hd]
      refine loopV (Tf := @T) @tabOk (fun y : Nat × Int => ⟨mk 154 [(0, .d (.str s)), (1, .d (.int .i64 i)), (4, .ptr 0 0), (5, .ptr 1 0), (6, .d (.int .i64 y.1)), (8, .d (.int .i64 y.2))], [.box [.d (.int .i64 0), .d (.str ⟨#[]⟩), .d (.int .i64 0)], .box [.d (.int .i64 0), .d (.int .i64 0)]]⟩) (fun y => s.size - y.1) (fun y => k ≤ y.1 ∧ y.1 ≤ s.size ∧ 0 ≤ y.2 ∧ y.2 ≤ 1000000001 ∧ digitsE s y.1 = E ∧ numF s y.1 (E - y.1) y.2 = numF s k (E - k) 0) (k, 0) ⟨by omega, by omega, by omega, by omega, hz.symm, rfl⟩ ?_ (fun y => rfl) @fun ⟨_, _, _, _, _, _, _, _, _, _, _, _, _, _, _, _, _, _, _, _, _, _, _, _, _, _, _, _, _, _, _, _, _, _, _, _, _, _, wpa, wfa⟩ ⟨j, n⟩ Bk hy hBk => ?_
      · (cbv; try simp only [wf, exD, exL, exT, exB, exA, leLs, leL_d, leL_undef, deq_refl, deq_int, deq_bool, deq_str, and_true, true_and, AObj.iter.injEq, nc, nc']; try simp (disch := omega) only [w64, w32, wu8])
        omega
      (cbv; try simp only [wp, wpa, getL, takeL, dropL, TK.isAgg, reduceIte])
      obtain ⟨y1, y2, y3, y4, y5, y6⟩ := hy
      dsimp only at y1 y2 y3 y4 y5 y6
      obtain ⟨j2, hj2⟩ : ∃ j2, j2 = j + 1 := ⟨_, rfl⟩
      have hu : digitsE s j = if j < s.size then (if digitB (btF s j) then digitsE s (j + 1) else j) else j := by
        rw [digitsE, spanEnd]
        by_cases h : j < s.size
        · rw [if_pos h, if_pos h]; rfl
        · rw [if_neg h, if_neg h]; omega
      have ex : (j < s.size → digitB (btF s j) = false) → E = j ∧ numF s k (E - k) 0 = n := fun h => by
        have e : E = j := by
          rw [← y5, hu]
          by_cases hj : j < s.size
          · rw [if_pos hj, h hj]; rfl
          · rw [if_neg hj]
        rw [← y6, e, Nat.sub_self]
        exact ⟨rfl, rfl⟩
      refine ⟨fun e0 => ⟨(by (try simp only [wf, wfa, nc, nc'] at *); (try simp (disch := omega) only [w64, w32, wu8] at *); omega), (by (try simp only [wf, wfa, nc, nc'] at *); (try simp (disch := omega) only [w64, w32, wu8] at *); omega), ?_⟩, fun e0 => ?_⟩
      · have e0 : j < s.size := (by (try simp only [wf, wfa, nc, nc'] at *); (try simp (disch := omega) only [w64, w32, wu8] at *); omega)
        refine (f39 _).call ?_
        rintro _ ⟨d2, hd2, rfl⟩
        replace hd2 : d2 = digitB (btF s j) := by ((try simp only [wf, wfa, nc, nc'] at *); (try simp (disch := omega) only [w64, w32, wu8] at *)); exact hd2
        cases d2 <;> (cbv; try simp only [wp, wpa, getL, takeL, dropL, TK.isAgg, reduceIte])
        · obtain ⟨ex1, ex2⟩ := ex fun _ => hd2.symm
          refine ⟨fun c1 => ?_, fun c1 => ?_⟩
          · have c1 : 1000000000 < n := (by (try simp only [wf, wfa, nc, nc'] at *); (try simp (disch := omega) only [w64, w32, wu8] at *); omega)
            rw [if_pos (by rw [ex2]; exact c1)] at tok
            have := hR _ [AObj.box [A.d (D.int IntKind.i64 0), A.d (D.str { data := { toList := [] } }), A.d (D.int IntKind.i64 0)], AObj.box [A.d (D.int IntKind.i64 10), A.d (D.int IntKind.i64 i)]] tok.symm
            simp only [List.map, ← hk] at this
            exact this
          · have c1 : ¬ 1000000000 < n := (by (try simp only [wf, wfa, nc, nc'] at *); (try simp (disch := omega) only [w64, w32, wu8] at *); omega)
            rw [if_neg (by rw [ex2]; exact c1), ex1] at tok
            refine (f37 s _ (by (try simp only [wf, wfa, nc, nc'] at *); (try simp (disch := omega) only [w64, w32, wu8] at *); omega)).call ?_
            rintro _ ⟨b, hb2, rfl⟩
            (cbv; try simp only [wp, wpa, getL, takeL, dropL, TK.isAgg, reduceIte])
            refine (f38 _).call ?_
            rintro _ ⟨l3, hl3, rfl⟩
            replace hl3 : l3 = letterB (atI s j) := by rw [hl3, hb2]; ((try simp only [wf, wfa, nc, nc'] at *); (try simp (disch := omega) only [w64, w32, wu8] at *))
            rw [← hl3] at tok
            cases l3 <;> (cbv; try simp only [wp, wpa, getL, takeL, dropL, TK.isAgg, reduceIte])
            · have ht : s.extract i.toNat (Int.toNat (j : Int)) = s.extract k j := by rw [hk]; simp
              have leaf : ∀ T H, T = s.extract k j → R (A.tup [A.agg [A.d (D.int IntKind.i64 3), A.d (D.str T), A.d (D.int IntKind.i64 i)], A.agg [A.d (D.int IntKind.i64 0), A.d (D.int IntKind.i64 0)]]) H := fun T H h => by
                have := hR _ H tok.symm
                simp only [List.map, ← hk] at this
                rw [h]
                exact this
              repeat' first | with_reducible refine And.intro ?_ ?_ | intro c9
              all_goals first
                | exact (by (try simp only [wf, wfa, nc, nc'] at *); (try simp (disch := omega) only [w64, w32, wu8] at *); omega)
                | trivial
                | (refine leaf _ _ ?_; ((try simp only [wf, wfa, nc, nc'] at *); (try simp (disch := omega) only [w64, w32, wu8] at *)); exact ht)
            · have leaf : ∀ K H, K = (j : Int) → R (A.tup [A.agg [A.d (D.int IntKind.i64 0), A.d (D.str { data := { toList := [] } }), A.d (D.int IntKind.i64 0)], A.agg [A.d (D.int IntKind.i64 110), A.d (D.int IntKind.i64 K)]]) H := fun K H h => by
                have := hR _ H tok.symm
                simp only [List.map, ← hk] at this
                rw [h]
                exact this
              exact leaf _ _ rfl
        · refine ⟨(by (try simp only [wf, wfa, nc, nc'] at *); (try simp (disch := omega) only [w64, w32, wu8] at *); omega), (by (try simp only [wf, wfa, nc, nc'] at *); (try simp (disch := omega) only [w64, w32, wu8] at *); omega), ?_⟩
          have hb1 : 48 ≤ btF s j ∧ btF s j ≤ 57 := by simpa [digitB] using hd2.symm
          obtain ⟨n2, hn2⟩ : ∃ n2, n2 = min (10 * n + (btF s j - 48)) 1000000001 := ⟨_, rfl⟩
          have hlt : j < E := by
            have h := hu
            rw [y5, if_pos e0, if_pos hd2.symm] at h
            have := (spanEnd_bounds (fun i => digitB (btF s i)) s.size _ (j + 1) rfl (by omega)).1
            unfold digitsE at h
            omega
          refine hBk (j2, n2) _ (by dsimp only; omega) ⟨by dsimp only; omega, by dsimp only; omega, by dsimp only; omega, by dsimp only; omega, by rw [hj2, ← y5, hu, if_pos e0, if_pos hd2.symm], ?_⟩ ?_
          · dsimp only
            rw [← y6, show E - j = E - (j + 1) + 1 by omega, hj2, hn2]
            rfl
          · (cbv; try simp only [wf, wfa, exD, exL, exT, exB, exA, leLs, leL_d, leL_undef, deq_refl, deq_int, deq_bool, deq_str, and_true, true_and, AObj.iter.injEq, nc, nc']; try simp (disch := omega) only [w64, w32, wu8])
            refine ⟨by omega, ?_⟩
            (try simp only [nc, nc'] at *)
            rw [wu8 (by omega) (by omega), w64 (x := btF s j - 48) (by omega) (by omega), w64 (by omega) (by omega)]
            split <;> omega
      · have e0 : ¬ j < s.size := (by (try simp only [wf, wfa, nc, nc'] at *); (try simp (disch := omega) only [w64, w32, wu8] at *); omega)
        obtain ⟨ex1, ex2⟩ := ex fun h => absurd h e0
        refine ⟨fun c1 => ?_, fun c1 => ?_⟩
        · have c1 : 1000000000 < n := (by (try simp only [wf, wfa, nc, nc'] at *); (try simp (disch := omega) only [w64, w32, wu8] at *); omega)
          rw [if_pos (by rw [ex2]; exact c1)] at tok
          have := hR _ [AObj.box [A.d (D.int IntKind.i64 0), A.d (D.str { data := { toList := [] } }), A.d (D.int IntKind.i64 0)], AObj.box [A.d (D.int IntKind.i64 10), A.d (D.int IntKind.i64 i)]] tok.symm
          simp only [List.map, ← hk] at this
          exact this
        · have c1 : ¬ 1000000000 < n := (by (try simp only [wf, wfa, nc, nc'] at *); (try simp (disch := omega) only [w64, w32, wu8] at *); omega)
          rw [if_neg (by rw [ex2]; exact c1), ex1] at tok
          refine (f37 s _ (by (try simp only [wf, wfa, nc, nc'] at *); (try simp (disch := omega) only [w64, w32, wu8] at *); omega)).call ?_
          rintro _ ⟨b, hb2, rfl⟩
          (cbv; try simp only [wp, wpa, getL, takeL, dropL, TK.isAgg, reduceIte])
          refine (f38 _).call ?_
          rintro _ ⟨l3, hl3, rfl⟩
          replace hl3 : l3 = letterB (atI s j) := by rw [hl3, hb2]; ((try simp only [wf, wfa, nc, nc'] at *); (try simp (disch := omega) only [w64, w32, wu8] at *))
          rw [← hl3] at tok
          cases l3 <;> (cbv; try simp only [wp, wpa, getL, takeL, dropL, TK.isAgg, reduceIte])
          · have ht : s.extract i.toNat (Int.toNat (j : Int)) = s.extract k j := by rw [hk]; simp
            have leaf : ∀ T H, T = s.extract k j → R (A.tup [A.agg [A.d (D.int IntKind.i64 3), A.d (D.str T), A.d (D.int IntKind.i64 i)], A.agg [A.d (D.int IntKind.i64 0), A.d (D.int IntKind.i64 0)]]) H := fun T H h => by
              have := hR _ H tok.symm
              simp only [List.map, ← hk] at this
              rw [h]
              exact this
            repeat' first | with_reducible refine And.intro ?_ ?_ | intro c9
            all_goals first
              | exact (by (try simp only [wf, wfa, nc, nc'] at *); (try simp (disch := omega) only [w64, w32, wu8] at *); omega)
              | trivial
              | (refine leaf _ _ ?_; ((try simp only [wf, wfa, nc, nc'] at *); (try simp (disch := omega) only [w64, w32, wu8] at *)); exact ht)
          · have leaf : ∀ K H, K = (j : Int) → R (A.tup [A.agg [A.d (D.int IntKind.i64 0), A.d (D.str { data := { toList := [] } }), A.d (D.int IntKind.i64 0)], A.agg [A.d (D.int IntKind.i64 110), A.d (D.int IntKind.i64 K)]]) H := fun K H h => by
              have := hR _ H tok.symm
              simp only [List.map, ← hk] at this
              rw [h]
              exact this
            exact leaf _ _ rfl
  · have hE := spanEnd_bounds (nameP s) s.size _ k rfl (by omega)
    have hE2 : k ≤ nameE s k ∧ nameE s k ≤ s.size := hE
    have hz : ∃ e, e = nameE s k := ⟨_, rfl⟩
    obtain ⟨E, hz⟩ := hz
    rw [← hz] at hE2
    have tok : tokR s k = { kind := if wordB (s.extract k E) then 2 else 1, text := s.extract k E, pos := k, fin := E } := by rw [hz]; simp [tokR, ← hl]
    refine loopV (Tf := @T) @tabOk (fun y : Nat => ⟨mk 154 [(0, .d (.str s)), (1, .d (.int .i64 i)), (4, .ptr 0 0), (5, .ptr 1 0), (6, .d (.int .i64 y))], [.box [.d (.int .i64 0), .d (.str ⟨#[]⟩), .d (.int .i64 0)], .box [.d (.int .i64 0), .d (.int .i64 0)]]⟩) (fun y => s.size - y) (fun y => k ≤ y ∧ y ≤ s.size ∧ nameE s y = E) k ⟨by omega, by omega, hz.symm⟩ ?_ (fun y => rfl) @fun ⟨_, _, _, _, _, _, _, _, _, _, _, _, _, _, _, _, _, _, _, _, _, _, _, _, _, _, _, _, _, _, _, _, _, _, _, _, _, _, wpa, wfa⟩ j Bk hy hBk => ?_
    · (cbv; try simp only [wf, exD, exL, exT, exB, exA, leLs, leL_d, leL_undef, deq_refl, deq_int, deq_bool, deq_str, and_true, true_and, AObj.iter.injEq, nc, nc']; try simp (disch := omega) only [w64, w32, wu8])
      omega
    (cbv; try simp only [wp, wpa, getL, takeL, dropL, TK.isAgg, reduceIte])
    obtain ⟨y1, y2, y3⟩ := hy
    obtain ⟨j2, hj2⟩ : ∃ j2, j2 = j + 1 := ⟨_, rfl⟩
    have hu : nameE s j = if j < s.size then (if nameP s j then nameE s (j + 1) else j) else j := by
      rw [nameE, spanEnd]
      by_cases h : j < s.size
      · rw [if_pos h, if_pos h]; rfl
      · rw [if_neg h, if_neg h]; omega
    have bk : nameP s j = true → j < s.size → ∀ s', leS 0 ⟨mk 154 [(0, .d (.str s)), (1, .d (.int .i64 i)), (4, .ptr 0 0), (5, .ptr 1 0), (6, .d (.int .i64 (j2 : Int)))], [.box [.d (.int .i64 0), .d (.str ⟨#[]⟩), .d (.int .i64 0)], .box [.d (.int .i64 0), .d (.int .i64 0)]]⟩ s' → Bk s' := fun h1 h2 s' hle => hBk j2 s' (by omega) ⟨by omega, by omega, by rw [hj2, ← y3, hu, if_pos h2, if_pos h1]⟩ hle
    have ex : (j < s.size → nameP s j = false) → E = j := fun h => by
      rw [← y3, hu]
      by_cases hj : j < s.size
      · rw [if_pos hj, h hj]; rfl
      · rw [if_neg hj]
    have leaf : ∀ K T H, E = j → K = (if wordB (s.extract k E) then (2 : Int) else 1) → T = s.extract k E → R (A.tup [A.agg [A.d (D.int IntKind.i64 K), A.d (D.str T), A.d (D.int IntKind.i64 i)], A.agg [A.d (D.int IntKind.i64 0), A.d (D.int IntKind.i64 0)]]) H := fun K T H h1 h2 h3 => by
      have := hR _ H tok.symm
      simp only [List.map, ← hk] at this
      rw [h2, h3]
      exact this
    refine ⟨fun e0 => ⟨(by (try simp only [wf, wfa, nc, nc'] at *); (try simp (disch := omega) only [w64, w32, wu8] at *); omega), (by (try simp only [wf, wfa, nc, nc'] at *); (try simp (disch := omega) only [w64, w32, wu8] at *); omega), ?_⟩, fun e0 => ?_⟩
    · have e0 : j < s.size := (by (try simp only [wf, wfa, nc, nc'] at *); (try simp (disch := omega) only [w64, w32, wu8] at *); omega)
      refine (f38 _).call ?_
      rintro _ ⟨l2, hl2, rfl⟩
      replace hl2 : l2 = letterB (btF s j) := by ((try simp only [wf, wfa, nc, nc'] at *); (try simp (disch := omega) only [w64, w32, wu8] at *)); exact hl2
      cases l2 <;> (cbv; try simp only [wp, wpa, getL, takeL, dropL, TK.isAgg, reduceIte])
      · refine ⟨(by (try simp only [wf, wfa, nc, nc'] at *); (try simp (disch := omega) only [w64, w32, wu8] at *); omega), (by (try simp only [wf, wfa, nc, nc'] at *); (try simp (disch := omega) only [w64, w32, wu8] at *); omega), ?_⟩
        refine (f39 _).call ?_
        rintro _ ⟨d2, hd2, rfl⟩
        replace hd2 : d2 = digitB (btF s j) := by ((try simp only [wf, wfa, nc, nc'] at *); (try simp (disch := omega) only [w64, w32, wu8] at *)); exact hd2
        cases d2 <;> (cbv; try simp only [wp, wpa, getL, takeL, dropL, TK.isAgg, reduceIte])
        · refine ⟨(by (try simp only [wf, wfa, nc, nc'] at *); (try simp (disch := omega) only [w64, w32, wu8] at *); omega), (by (try simp only [wf, wfa, nc, nc'] at *); (try simp (disch := omega) only [w64, w32, wu8] at *); omega), fun c1 => ?_, fun c1 => ⟨(by (try simp only [wf, wfa, nc, nc'] at *); (try simp (disch := omega) only [w64, w32, wu8] at *); omega), (by (try simp only [wf, wfa, nc, nc'] at *); (try simp (disch := omega) only [w64, w32, wu8] at *); omega), fun c2 => ?_, fun c2 => ?_⟩⟩
          · have c1 : btF s j = 39 := by ((try simp only [wf, wfa, nc, nc'] at *); (try simp (disch := omega) only [w64, w32, wu8] at *)); exact c1
            refine bk (by simp [nameP, c1]) e0 _ ?_
            (cbv; try simp only [wf, wfa, exD, exL, exT, exB, exA, leLs, leL_d, leL_undef, deq_refl, deq_int, deq_bool, deq_str, and_true, true_and, AObj.iter.injEq, nc, nc']; try simp (disch := omega) only [w64, w32, wu8])
            omega
          · have c2 : btF s j = 46 := by ((try simp only [wf, wfa, nc, nc'] at *); (try simp (disch := omega) only [w64, w32, wu8] at *)); exact c2
            refine (f37 s _ (by (try simp only [wf, wfa, nc, nc'] at *); (try simp (disch := omega) only [w64, w32, wu8] at *); omega)).call ?_
            rintro _ ⟨b, hb2, rfl⟩
            (cbv; try simp only [wp, wpa, getL, takeL, dropL, TK.isAgg, reduceIte])
            refine (f38 _).call ?_
            rintro _ ⟨l3, hl3, rfl⟩
            replace hl3 : l3 = letterB (atI s (j + 1)) := by rw [hl3, hb2]; ((try simp only [wf, wfa, nc, nc'] at *); (try simp (disch := omega) only [w64, w32, wu8] at *))
            cases l3 <;> (cbv; try simp only [wp, wpa, getL, takeL, dropL, TK.isAgg, reduceIte])
            · have e : E = j := ex fun _ => by simp only [nameP, ← hl2, ← hd2]; simp [c2, ← hl3]
              refine ⟨(by (try simp only [wf, wfa, nc, nc'] at *); (try simp (disch := omega) only [w64, w32, wu8] at *); omega), (by (try simp only [wf, wfa, nc, nc'] at *); (try simp (disch := omega) only [w64, w32, wu8] at *); omega), (by (try simp only [wf, wfa, nc, nc'] at *); (try simp (disch := omega) only [w64, w32, wu8] at *); omega), ?_⟩
              refine (f40 _).call ?_
              rintro _ ⟨b2, hb3, rfl⟩
              have ht : s.extract i.toNat (Int.toNat (j : Int)) = s.extract k E := by rw [hk, e]; simp
              replace hb3 : b2 = wordB (s.extract k E) := by ((try simp only [wf, wfa, nc, nc'] at *); (try simp (disch := omega) only [w64, w32, wu8] at *)); rw [hb3, ← ht]
              cases b2 <;> (cbv; try simp only [wp, wpa, getL, takeL, dropL, TK.isAgg, reduceIte])
              all_goals
                repeat' first | with_reducible refine And.intro ?_ ?_ | intro c9
                all_goals first
                  | exact (by (try simp only [wf, wfa, nc, nc'] at *); (try simp (disch := omega) only [w64, w32, wu8] at *); omega)
                  | trivial
                  | (refine leaf _ _ _ e ?_ ?_ <;> ((try simp only [wf, wfa, nc, nc'] at *); (try simp (disch := omega) only [w64, w32, wu8] at *)) <;> first | exact ht | simp [← hb3])
            · refine bk (by simp [nameP, c2, ← hl3]) e0 _ ?_
              (cbv; try simp only [wf, wfa, exD, exL, exT, exB, exA, leLs, leL_d, leL_undef, deq_refl, deq_int, deq_bool, deq_str, and_true, true_and, AObj.iter.injEq, nc, nc']; try simp (disch := omega) only [w64, w32, wu8])
              omega
          · have n1 : ¬ btF s j = 39 := by ((try simp only [wf, wfa, nc, nc'] at *); (try simp (disch := omega) only [w64, w32, wu8] at *)); omega
            have n2 : ¬ btF s j = 46 := by ((try simp only [wf, wfa, nc, nc'] at *); (try simp (disch := omega) only [w64, w32, wu8] at *)); omega
            have e : E = j := ex fun _ => by simp [nameP, ← hl2, ← hd2, n1, n2]
            refine ⟨(by (try simp only [wf, wfa, nc, nc'] at *); (try simp (disch := omega) only [w64, w32, wu8] at *); omega), (by (try simp only [wf, wfa, nc, nc'] at *); (try simp (disch := omega) only [w64, w32, wu8] at *); omega), (by (try simp only [wf, wfa, nc, nc'] at *); (try simp (disch := omega) only [w64, w32, wu8] at *); omega), ?_⟩
            refine (f40 _).call ?_
            rintro _ ⟨b2, hb3, rfl⟩
            have ht : s.extract i.toNat (Int.toNat (j : Int)) = s.extract k E := by rw [hk, e]; simp
            replace hb3 : b2 = wordB (s.extract k E) := by ((try simp only [wf, wfa, nc, nc'] at *); (try simp (disch := omega) only [w64, w32, wu8] at *)); rw [hb3, ← ht]
            cases b2 <;> (cbv; try simp only [wp, wpa, getL, takeL, dropL, TK.isAgg, reduceIte])
            all_goals
              repeat' first | with_reducible refine And.intro ?_ ?_ | intro c9
              all_goals first
                | exact (by (try simp only [wf, wfa, nc, nc'] at *); (try simp (disch := omega) only [w64, w32, wu8] at *); omega)
                | trivial
                | (refine leaf _ _ _ e ?_ ?_ <;> ((try simp only [wf, wfa, nc, nc'] at *); (try simp (disch := omega) only [w64, w32, wu8] at *)) <;> first | exact ht | simp [← hb3])
        · refine bk (by simp [nameP, ← hl2, ← hd2]) e0 _ ?_
          (cbv; try simp only [wf, wfa, exD, exL, exT, exB, exA, leLs, leL_d, leL_undef, deq_refl, deq_int, deq_bool, deq_str, and_true, true_and, AObj.iter.injEq, nc, nc']; try simp (disch := omega) only [w64, w32, wu8])
          omega
      · refine bk (by simp [nameP, ← hl2]) e0 _ ?_
        (cbv; try simp only [wf, wfa, exD, exL, exT, exB, exA, leLs, leL_d, leL_undef, deq_refl, deq_int, deq_bool, deq_str, and_true, true_and, AObj.iter.injEq, nc, nc']; try simp (disch := omega) only [w64, w32, wu8])
        omega
    · have e0 : ¬ j < s.size := (by (try simp only [wf, wfa, nc, nc'] at *); (try simp (disch := omega) only [w64, w32, wu8] at *); omega)
      have e : E = j := ex fun h => absurd h e0
      refine ⟨(by (try simp only [wf, wfa, nc, nc'] at *); (try simp (disch := omega) only [w64, w32, wu8] at *); omega), (by (try simp only [wf, wfa, nc, nc'] at *); (try simp (disch := omega) only [w64, w32, wu8] at *); omega), (by (try simp only [wf, wfa, nc, nc'] at *); (try simp (disch := omega) only [w64, w32, wu8] at *); omega), ?_⟩
      refine (f40 _).call ?_
      rintro _ ⟨b2, hb3, rfl⟩
      have ht : s.extract i.toNat (Int.toNat (j : Int)) = s.extract k E := by rw [hk, e]; simp
      replace hb3 : b2 = wordB (s.extract k E) := by ((try simp only [wf, wfa, nc, nc'] at *); (try simp (disch := omega) only [w64, w32, wu8] at *)); rw [hb3, ← ht]
      cases b2 <;> (cbv; try simp only [wp, wpa, getL, takeL, dropL, TK.isAgg, reduceIte])
      all_goals
        repeat' first | with_reducible refine And.intro ?_ ?_ | intro c9
        all_goals first
          | exact (by (try simp only [wf, wfa, nc, nc'] at *); (try simp (disch := omega) only [w64, w32, wu8] at *); omega)
          | trivial
          | (refine leaf _ _ _ e ?_ ?_ <;> ((try simp only [wf, wfa, nc, nc'] at *); (try simp (disch := omega) only [w64, w32, wu8] at *)) <;> first | exact ht | simp [← hb3])
end Go.VM

namespace Go.VM
open Go.Proofs Go
set_option maxRecDepth 100000
set_option linter.unusedVariables false
set_option linter.unusedSimpArgs false

theorem tok_shape (s : ByteArray) (k : Nat) (hk : k < s.size) : (tokR s k).com = false ∧ ((tokR s k).code ≠ 0 ∨ ((tokR s k).kind ≠ 0 ∧ (tokR s k).code = 0 ∧ (tokR s k).fin = k + (tokR s k).text.size ∧ (tokR s k).pos = k ∧ 1 ≤ (tokR s k).text.size ∧ (tokR s k).fin ≤ s.size ∧ (tokR s k).text = s.extract k (tokR s k).fin.toNat)) := by
  unfold tokR
  split
  · rename_i h
    refine ⟨rfl, .inr ?_⟩
    have hb := spanEnd_bounds (nameP s) s.size _ (k + 1) rfl (by omega)
    have e : nameE s k = nameE s (k + 1) := by
      rw [nameE, spanEnd, if_pos hk, if_pos (by simp [nameP, h])]
      rfl
    have hb2 : k + 1 ≤ nameE s (k + 1) ∧ nameE s (k + 1) ≤ s.size := hb
    have hz : (s.extract k (nameE s k)).size = nameE s k - k := by simp [ByteArray.size_extract]; omega
    refine ⟨by dsimp only; split <;> omega, rfl, ?_, rfl, ?_, ?_, ?_⟩ <;> dsimp only <;> first | (rw [hz]; omega) | omega | rfl
  · split
    · rename_i h
      have hb := spanEnd_bounds (fun i => digitB (btF s i)) s.size _ (k + 1) rfl (by omega)
      have e : digitsE s k = digitsE s (k + 1) := by
        rw [digitsE, spanEnd, if_pos hk, if_pos h]
        rfl
      have hb2 : k + 1 ≤ digitsE s (k + 1) ∧ digitsE s (k + 1) ≤ s.size := hb
      have hz : (s.extract k (digitsE s k)).size = digitsE s k - k := by simp [ByteArray.size_extract]; omega
      split
      · exact ⟨rfl, .inl (by simp)⟩
      · split
        · exact ⟨rfl, .inl (by simp)⟩
        · refine ⟨rfl, .inr ⟨by simp, rfl, ?_, rfl, ?_, ?_, ?_⟩⟩ <;> dsimp only <;> first | (rw [hz]; omega) | omega | rfl
    · split
      · exact ⟨rfl, .inl (by simp)⟩
      · rename_i h
        have h1 := signF_lt (nthS signsL) (s.extract k s.size) 17 0
        have h2 := signs_size (signF (nthS signsL) (s.extract k s.size) 0 17).toNat (by omega)
        have h3 := sign_at s k (by omega) _ (signF_pre (nthS signsL) (s.extract k s.size) 17 0 (by omega))
        refine ⟨rfl, .inr ⟨by simp, rfl, rfl, rfl, ?_, ?_, ?_⟩⟩ <;> dsimp only <;> first | omega | (refine h3.2.symm.trans ?_; congr 1)

theorem next_gap (s : ByteArray) (k : Nat) (hk : k < s.size) :
    (gapF s k = 10 ∧ (nextR s k).code = 10 ∧ (nextR s k).at' = k) ∨
    (gapF s k = 0 ∧ k < gapE s k ∧ gapE s k ≤ s.size ∧ (nextR s k).code = 0 ∧ (nextR s k).fin = gapE s k ∧ ((nextR s k).com = true ∨ ((nextR s k).com = false ∧ (nextR s k).kind = 0))) ∨
    (gapF s k = 0 ∧ gapE s k = k ∧ nextR s k = tokR s k) := by
  unfold nextR gapE gapF
  cases hb : blankB (btF s k) with
  | true => exact .inr (.inl ⟨by simp, by simp [hk]; omega, by simp [hk]; omega, by simp, by simp [hk], .inr (by simp)⟩)
  | false =>
    cases hc : comB s k with
    | true =>
      by_cases hn : comE s k < 0
      · exact .inl (by simp [hk, hn])
      · have := comE_bounds s k hk hc
        exact .inr (.inl ⟨by simp [hn], by simp [hk, hn]; omega, by simp [hk, hn]; omega, by simp [hn], by simp [hk, hn], .inl (by simp [hn])⟩)
    | false => exact .inr (.inr (by simp [hk]))

structure RtOk (s : ByteArray) (k n : Nat) (g : Nat → Nat → D) (T : List Nx) (C : List (Int × Int)) (f : Nat) : Prop where
  hk : k ≤ s.size
  hn : n = T.length
  hg : ∀ i j, i < T.length → j < 3 → Deq (g i j) (tokG T i j)
  lt : T.length ≤ k
  fu : s.size - k ≤ f
  run : runT s f k T C = splitS s

structure Rt where
  k : Nat
  n : Nat
  g : Nat → Nat → D

theorem f11 (s : ByteArray) (hs : s.size < 2 ^ 40) : VFun (P ()) 11 [.d (.str s)] (TokOut s) := by
  refine vfun (Tf := @T) @tabOk Tryd.func11 rfl rfl (Nat.le_of_ble_eq_true rfl) @fun ⟨_, _, _, _, _, _, _, _, _, _, _, _, _, _, _, _, _, _, _, _, _, _, _, _, _, _, _, _, _, _, _, _, _, _, _, _, _, _, wp, wf⟩ R hR => ?_
  cbv
  try simp only [wp, getL, takeL, dropL, TK.isAgg, reduceIte]
  have fault : ∀ c a H C, splitS s = ([], C, c, a) → R (A.tup [A.nils, A.agg [A.d (D.int IntKind.i64 c), A.d (D.int IntKind.i64 a)]]) H := fun c a H C e =>
    hR _ H _ (.tup2 (.nils 3 _) (.aggD [_, _])) ⟨0, c, a, _, _, _, by rw [e]; rfl, by rw [e], by rw [e], rfl, rfl, rfl, rfl⟩
  refine ⟨fun h => ?_, fun h => ?_⟩
  · exact fault 2 0 _ [] (by rw [splitS, if_pos (by (try simp only [wf, nc, nc'] at *); (try simp (disch := omega) only [w64, w32, wu8] at *); omega)])
  · have hsz : s.size ≤ 16000 := (by (try simp only [wf, nc, nc'] at *); (try simp (disch := omega) only [w64, w32, wu8] at *); omega)
    refine loopGhost 4 3 rfl ?_
    refine loopV (Tf := @T) @tabOk (fun y : Rt => ⟨mk 59 [(0, .d (.str s)), (3, .ptr 0 0), (4, .ref 1 0 y.n 3), (5, .d (.int .i64 y.k))], [.box [.d (.int .i64 0), .d (.int .i64 0)], .arr y.n 3 y.g 0]⟩) (fun y => s.size - y.k) (fun y => ∃ T C f, RtOk s y.k y.n y.g T C f) ⟨0, 0, fun _ _ => .nilp⟩ ⟨[], [], s.size, Nat.zero_le _, rfl, fun i j h => absurd h (by simp), Nat.zero_le _, by simp, by rw [splitS, if_neg (by omega)]⟩ ?_ (fun y => rfl) @fun ⟨_, _, _, _, _, _, _, _, _, _, _, _, _, _, _, _, _, _, _, _, _, _, _, _, _, _, _, _, _, _, _, _, _, _, _, _, _, _, wpa, wfa⟩ ⟨k, n, g⟩ Bk hy hBk => ?_
    · (cbv; try simp only [wf, exD, exL, exT, exB, exA, leLs, leL_d, leL_undef, deq_refl, deq_int, deq_bool, deq_str, and_true, true_and, AObj.iter.injEq, nc, nc']; try simp (disch := omega) only [w64, w32, wu8])
      simp
    (cbv; try simp only [wp, wpa, getL, takeL, dropL, TK.isAgg, reduceIte])
    obtain ⟨T, C, f, ⟨o1, o2, o4, o6, o8, o9⟩⟩ := hy
    dsimp only at o1 o2 o4 o6 o8 o9
    refine ⟨fun h => ?_, fun h => ?_⟩
    · have hk : k < s.size := by (try simp only [wf, wfa, nc, nc'] at *); omega
      obtain ⟨f', rfl⟩ : ∃ f', f = f' + 1 := ⟨f - 1, by omega⟩
      rw [runT, if_pos hk] at o9
      have gap := next_gap s k hk
      have shape := tok_shape s k hk
      refine (f23 s _ k rfl (by omega) hs).call ?_
      rintro _ ⟨x, e, hx, he, rfl⟩
      rw [← hx, ← he] at gap
      (cbv; try simp only [wp, wpa, getL, takeL, dropL, TK.isAgg, reduceIte])
      (try simp only [nc, nc'] at *)
      rcases gap with ⟨g1, g2, g3⟩ | ⟨g1, g2, g3, g4, g5, g6⟩ | ⟨g1, g2, g3⟩
      · rw [if_pos (by omega), g2, g3] at o9
        have := fun H => fault 10 k H _ o9.symm
        subst g1
        exact ⟨fun _ => this _, fun h => absurd h (by omega)⟩
      · obtain ⟨k2, hk2⟩ : ∃ k2 : Nat, x = k2 := ⟨x.toNat, by omega⟩
        rw [if_neg (by omega), g5, hk2, Int.toNat_natCast] at o9
        have run : ∃ C', runT s f' k2 T C' = splitS s := by
          rcases g6 with g6 | ⟨g6, g7⟩
          · rw [if_pos g6] at o9; exact ⟨_, o9⟩
          · rw [if_neg (by simp [g6]), if_neg (by omega)] at o9; exact ⟨_, o9⟩
        obtain ⟨C', run⟩ := run
        refine ⟨fun h => absurd g1 h, fun _ => ⟨fun _ => ?_, fun h => absurd h (by (try simp only [wf, wfa, nc, nc'] at *); (try simp (disch := omega) only [w64, w32, wu8] at *); omega)⟩⟩
        subst hk2
        refine hBk ⟨k2, n, g⟩ _ (by dsimp only; omega) ⟨T, C', f', by dsimp only; omega, o2, o4, by dsimp only; omega, by dsimp only; omega, run⟩ ?_
        (cbv; try simp only [wf, wfa, exD, exL, exT, exB, exA, leLs, leL_d, leL_undef, deq_refl, deq_int, deq_bool, deq_str, and_true, true_and, AObj.iter.injEq, nc, nc']; try simp (disch := omega) only [w64, w32, wu8])
        simp [deq_refl]
      · refine ⟨fun h => absurd g1 h, fun _ => ⟨fun h => absurd h (by (try simp only [wf, wfa, nc, nc'] at *); (try simp (disch := omega) only [w64, w32, wu8] at *); omega), fun _ => ?_⟩⟩
        refine (f24 s _ k rfl hk hs).call ?_
        rintro _ ⟨y, hy, rfl⟩
        rw [g3] at o9
        rw [← hy] at o9 shape
        obtain ⟨kind, text, pos, com, fin, code, at'⟩ := y
        dsimp only at o9 shape
        obtain ⟨rfl, shape⟩ := shape
        (cbv; try simp only [wp, wpa, getL, takeL, dropL, TK.isAgg, reduceIte])
        refine ⟨fun c0 => ?_, fun c0 => ?_⟩
        · rw [if_pos c0] at o9
          have := fun H => fault code at' H _ o9.symm
          repeat' first | exact this _ | refine ⟨?_, ?_⟩ | trivial
        · (try simp only [nc, nc'] at *)
          obtain ⟨s1, s2, s3, s4, s5, s6, s7⟩ := shape.resolve_left (by simp [c0])
          obtain ⟨m, hm⟩ : ∃ m, m = text.size := ⟨_, rfl⟩
          rw [← hm] at s3 s5
          obtain ⟨k2, hk2⟩ : ∃ k2 : Nat, fin = k2 := ⟨fin.toNat, by omega⟩
          rw [if_neg (by simp [c0]), if_neg (by simp), if_pos s1, hk2, Int.toNat_natCast] at o9
          refine ⟨fun n6 => ?_, fun n6 => ?_⟩
          · rw [if_pos (by rw [← o2]; ((try simp only [wf, wfa, nc, nc'] at *); (try simp (disch := omega) only [w64, w32, wu8] at *)); omega)] at o9
            have := fun H => fault 2 k H _ o9.symm
            repeat' first | exact this _ | refine ⟨?_, ?_⟩ | trivial
          · rw [if_neg (by rw [← o2]; ((try simp only [wf, wfa, nc, nc'] at *); (try simp (disch := omega) only [w64, w32, wu8] at *)); omega)] at o9
            obtain ⟨g2', hg2⟩ : ∃ g2, g2 = appF n g (rowF 3 [.int .i64 kind, .str text, .int .i64 pos]) := ⟨_, rfl⟩
            obtain ⟨n2, hn2⟩ : ∃ n2, n2 = n + 1 := ⟨_, rfl⟩
            have ap := tok_app T ⟨kind, text, pos, false, k2, code, at'⟩ g o4
            dsimp only at ap
            rw [← o2, ← hg2] at ap
            have hw : IntKind.i64.wrap ((k : Int) + text.size) = k2 := by rw [← hm, w64 (by omega) (by omega)]; omega
            have bk := fun s' => hBk ⟨k2, n2, g2'⟩ s' (by dsimp only; omega) ⟨_, C, f', by dsimp only; omega, by simp [hn2, o2], ap, by simp; omega, by dsimp only; omega, o9⟩
            repeat' first | refine ⟨?_, ?_⟩ | trivial
            all_goals first
              | exact (by (try simp only [wf, wfa, nc, nc'] at *); (try simp (disch := omega) only [w64, w32, wu8] at *); omega)
              | (refine bk _ ?_; (cbv; try simp only [wf, wfa, exD, exL, exT, exB, exA, leLs, leL_d, leL_undef, deq_refl, deq_int, deq_bool, deq_str, and_true, true_and, AObj.iter.injEq, nc, nc']; try simp (disch := omega) only [w64, w32, wu8]); (try simp only [nc, nc'] at *); simp [hn2, hg2, hw, deq_refl]; done)
    · have e0 : runT s f k T C = (T, C, 0, 0) := by
        cases f with
        | zero => rfl
        | succ f => rw [runT, if_neg (by (try simp only [wf, wfa, nc, nc'] at *); (try simp (disch := omega) only [w64, w32, wu8] at *); omega)]
      rw [e0] at o9
      have d1 : Deq (.sl n 3 g) (.sl T.length 3 (tokG T)) := by rw [o2]; exact .sl _ _ _ _ o4
      refine hR _ _ _ (.tup2 (.deq _ _ _ (.ref0 1 n 3 n 0 g rfl rfl) d1) (.aggD [_, _])) ⟨T.length, 0, 0, _, _, _, ?_, ?_, ?_, rfl, rfl, rfl, ?_⟩ <;> rw [← o9]
      rfl
end Go.VM

namespace Go.VM
open Go.Proofs Go
set_option maxRecDepth 100000
set_option linter.unusedVariables false
set_option linter.unusedSimpArgs false

structure Tk where
  K : Nat → Int
  S : Nat → ByteArray
  O : Nat → Int
def Tk.eqAt (a b : Tk) (i j : Nat) : Bool := a.K i == b.K j && decide (a.S i = b.S j) && a.O i == b.O j
/-- the first n tokens are the same -/
def Tk.same (a b : Tk) : Nat → Bool
  | 0 => true
  | n + 1 => a.same b n && a.eqAt b n n

theorem f12 (n m : Nat) (K K' O O' : Nat → Int) (S S' : Nat → ByteArray) (hn : n < 2 ^ 40) (hm : m < 2 ^ 40) : VFun (P ()) 12 [.d (.sl n 3 (tokF K S O)), .d (.sl m 3 (tokF K' S' O'))] (fun r => ∃ b : Bool, b = (decide (n = m) && Tk.same ⟨K, S, O⟩ ⟨K', S', O'⟩ n) ∧ r = .d (.bool b)) := by
  refine vfun (Tf := @T) @tabOk Tryd.func12 rfl rfl (Nat.le_of_ble_eq_true rfl) @fun ⟨_, _, _, _, _, _, _, _, _, _, _, _, _, _, _, _, _, _, _, _, _, _, _, _, _, _, _, _, _, _, _, _, _, _, _, _, _, _, wp, wf⟩ R hR => ?_
  cbv
  try simp only [wp, getL, takeL, dropL, TK.isAgg, reduceIte]
  replace hR := fun b H h => hR _ H _ (.d (.bool b)) ⟨b, h, rfl⟩
  refine ⟨fun h => ?_, fun h => ?_⟩
  · have h : ¬ n = m := (by (try simp only [wf, nc, nc'] at *); (try simp (disch := omega) only [w64, w32, wu8] at *); omega)
    exact hR _ _ (by simp [h])
  · have h : n = m := (by (try simp only [wf, nc, nc'] at *); (try simp (disch := omega) only [w64, w32, wu8] at *); omega)
    subst h
    refine loopV (Tf := @T) @tabOk (fun i : Nat => ⟨mk 26 [(0, .d (.sl n 3 (tokF K S O))), (1, .d (.sl n 3 (tokF K' S' O'))), (5, .d (.int .i64 i))], []⟩) (fun i => n - i) (fun i => i ≤ n ∧ Tk.same ⟨K, S, O⟩ ⟨K', S', O'⟩ i = true) 0 ⟨by omega, rfl⟩ ?_ (fun i => rfl) @fun ⟨_, _, _, _, _, _, _, _, _, _, _, _, _, _, _, _, _, _, _, _, _, _, _, _, _, _, _, _, _, _, _, _, _, _, _, _, _, _, wpa, wfa⟩ i Bk hi hBk => ?_
    · (cbv; try simp only [wf, exD, exL, exT, exB, exA, leLs, leL_d, leL_undef, deq_refl, deq_int, deq_bool, deq_str, and_true, true_and, AObj.iter.injEq, nc, nc']; try simp (disch := omega) only [w64, w32, wu8])
      rfl
    (cbv; try simp only [wp, wpa, getL, takeL, dropL, TK.isAgg, reduceIte])
    obtain ⟨y1, y2⟩ := hi
    obtain ⟨i2, hi2⟩ : ∃ i2, i2 = i + 1 := ⟨_, rfl⟩
    refine ⟨fun e0 => ?_, fun e0 => ?_⟩
    · have e0 : i < n := (by (try simp only [wf, wfa, nc, nc'] at *); (try simp (disch := omega) only [w64, w32, wu8] at *); omega)
      have mono : ∀ (a b : Tk) k n, a.same b (n + k) = true → a.same b n = true := fun a b k => by
        induction k with
        | zero => exact fun n h => h
        | succ k ih => exact fun n h => ih n (by have h : (a.same b (n + k) && a.eqAt b (n + k) (n + k)) = true := h; simp at h; exact h.1)
      have bk : Tk.eqAt ⟨K, S, O⟩ ⟨K', S', O'⟩ i i = true → ∀ s', leS 0 ⟨mk 26 [(0, .d (.sl n 3 (tokF K S O))), (1, .d (.sl n 3 (tokF K' S' O'))), (5, .d (.int .i64 i2))], []⟩ s' → Bk s' := fun h s' hle => hBk i2 s' (by omega) ⟨by omega, by rw [hi2, Tk.same, y2, h]; rfl⟩ hle
      have leaf : Tk.eqAt ⟨K, S, O⟩ ⟨K', S', O'⟩ i i = false → ∀ H, R (A.d (D.bool false)) H := fun h H => hR _ _ (by
        have : Tk.same ⟨K, S, O⟩ ⟨K', S', O'⟩ n = false := by
          rw [Bool.eq_false_iff]
          intro hs
          have := mono _ _ (n - (i + 1)) (i + 1) (by rw [show i + 1 + (n - (i + 1)) = n by omega]; exact hs)
          rw [Tk.same, h] at this
          simp at this
        rw [this]; simp)
      repeat' first | with_reducible refine And.intro ?_ ?_ | intro c9
      all_goals first
        | exact (by (try simp only [wf, wfa, nc, nc'] at *); (try simp (disch := omega) only [w64, w32, wu8] at *); omega)
        | trivial
        | (refine bk (by ((try simp only [wf, wfa, nc, nc'] at *); (try simp (disch := omega) only [w64, w32, wu8] at *)); simp only [Int.toNat_natCast] at *; simp [Tk.eqAt, *]) _ ?_; (cbv; try simp only [wf, wfa, exD, exL, exT, exB, exA, leLs, leL_d, leL_undef, deq_refl, deq_int, deq_bool, deq_str, and_true, true_and, AObj.iter.injEq, nc, nc']; try simp (disch := omega) only [w64, w32, wu8]); omega)
        | (refine leaf (by ((try simp only [wf, wfa, nc, nc'] at *); (try simp (disch := omega) only [w64, w32, wu8] at *)); simp only [Int.toNat_natCast] at *; rw [Bool.eq_false_iff]; intro hc; simp [Tk.eqAt] at hc; exact c9 ⟨hc.1.1, hc.1.2, hc.2⟩) _)
    · have e0 : i = n := (by (try simp only [wf, wfa, nc, nc'] at *); (try simp (disch := omega) only [w64, w32, wu8] at *); omega)
      refine hR _ _ ?_
      rw [← e0, y2]; simp
theorem awakeS : splitS ⟨#[112, 46, 49]⟩ = ([{ kind := 1, text := ⟨#[112]⟩, pos := 0, fin := 1 }, { kind := 4, text := ⟨#[46]⟩, pos := 1, fin := 2 }, { kind := 3, text := ⟨#[49]⟩, pos := 2, fin := 3 }], [], 0, 0) := by
  kernel_rfl
theorem awakeW : wordB ⟨#[100, 101, 102]⟩ = true := by kernel_rfl
theorem f13 : VFun (P ()) 13 [] (fun r => r = .d (.bool true)) := by
  refine vfun (Tf := @T) @tabOk Tryd.func13 rfl rfl (Nat.le_of_ble_eq_true rfl) @fun ⟨_, _, _, _, _, _, _, _, _, _, _, _, _, _, _, _, _, _, _, _, _, _, _, _, _, _, _, _, _, _, _, _, _, _, _, _, _, _, wp, wf⟩ R hR => ?_
  cbv
  try simp only [wp, getL, takeL, dropL, TK.isAgg, reduceIte]
  refine (f10 _ (by decide)).call ?_
  rintro _ ⟨n, c, a, K, S, O, h1, h2, h3, h4, h5, h6, rfl⟩
  rw [awakeS] at h1 h2 h3 h4 h5 h6
  dsimp only [List.length] at h1 h2 h3
  subst h1 h2 h3
  have k1 : K 1 = 4 := by rw [h4]; rfl
  have s2 : S 2 = ⟨#[49]⟩ := by rw [h5]; rfl
  clear h4 h5 h6
  (cbv; try simp only [wp, getL, takeL, dropL, TK.isAgg, reduceIte])
  repeat' first | with_reducible refine And.intro ?_ ?_ | intro c9
  all_goals first
    | exact (by (try simp only [wf, nc, nc'] at *); (try simp (disch := omega) only [w64, w32, wu8] at *); omega)
    | trivial
    | (exfalso; apply c9; (simp only [wf, nc, nc', Int.toNat_natCast, Int.toNat_one, show (2 : Int).toNat = 2 from rfl, k1, s2]); done)
    | (exfalso; apply c9; (simp only [wf, nc, nc', Int.toNat_natCast, Int.toNat_one, show (2 : Int).toNat = 2 from rfl, k1, s2]); rfl)
    | (refine (f25 _).call ?_
       rintro _ ⟨b, hb, rfl⟩
       rw [awakeW] at hb
       subst hb
       (cbv; try simp only [wp, getL, takeL, dropL, TK.isAgg, reduceIte])
       exact hR _ _ _ (.d _) rfl)
theorem run_len (s : ByteArray) : ∀ (f k : Nat) (T : List Nx) (C : List (Int × Int)), k ≤ s.size → T.length ≤ k → (runT s f k T C).1.length ≤ s.size
  | 0, k, T, C, h1, h2 => by simp [runT]; omega
  | f + 1, k, T, C, h1, h2 => by
    unfold runT
    split
    · rename_i hk
      have := next_fin s k hk
      split
      · simp
      · rename_i hc
        have := this.resolve_left hc
        split
        · exact run_len s f _ _ _ (by omega) (by omega)
        · split
          · split
            · simp
            · exact run_len s f _ _ _ (by omega) (by simp; omega)
          · exact run_len s f _ _ _ (by omega) (by omega)
    · simp; omega
theorem split_len (s : ByteArray) : (splitS s).1.length ≤ s.size := by
  unfold splitS
  split
  · simp
  · exact run_len s _ _ _ _ (by omega) (by simp)
theorem same_refl (a : Tk) : ∀ n, a.same a n = true
  | 0 => rfl
  | n + 1 => by simp [Tk.same, same_refl a n, Tk.eqAt]
theorem f3 (s : ByteArray) : VFun (P ()) 3 [.d (.str s)] (fun r => r = .d (.bool true)) := by
  refine vfun (Tf := @T) @tabOk Tryd.func3 rfl rfl (Nat.le_of_ble_eq_true rfl) @fun ⟨_, _, _, _, _, _, _, _, _, _, _, _, _, _, _, _, _, _, _, _, _, _, _, _, _, _, _, _, _, _, _, _, _, _, _, _, _, _, wp, wf⟩ R hR => ?_
  cbv
  try simp only [wp, getL, takeL, dropL, TK.isAgg, reduceIte]
  refine ⟨fun h => hR _ _ _ (.d _) rfl, fun h => ?_⟩
  have hs : s.size < 2 ^ 40 := (by (try simp only [wf, nc, nc'] at *); (try simp (disch := omega) only [w64, w32, wu8] at *); omega)
  refine (f10 _ hs).call ?_
  rintro _ ⟨n, c, a, K, S, O, h1, h2, h3, h4, h5, h6, rfl⟩
  (cbv; try simp only [wp, getL, takeL, dropL, TK.isAgg, reduceIte])
  refine (f11 _ hs).call ?_
  rintro _ ⟨n', c', a', K', S', O', h1', h2', h3', h4', h5', h6', rfl⟩
  rw [← h1] at h1'
  rw [← h2] at h2'
  rw [← h3] at h3'
  rw [← h4] at h4'
  rw [← h5] at h5'
  rw [← h6] at h6'
  subst h1' h2' h3' h4' h5' h6'
  have hl := split_len s
  rw [← h1] at hl
  (cbv; try simp only [wp, getL, takeL, dropL, TK.isAgg, reduceIte])
  refine (f12 _ _ _ _ _ _ _ _ (by omega) (by omega)).call ?_
  rintro _ ⟨b, hb, rfl⟩
  replace hb : b = true := by rw [hb, same_refl]; simp
  subst hb
  (cbv; try simp only [wp, getL, takeL, dropL, TK.isAgg, reduceIte])
  repeat' first | with_reducible refine And.intro ?_ ?_ | intro c9
  all_goals first
    | exact (by (try simp only [wf, nc, nc'] at *); (try simp (disch := omega) only [w64, w32, wu8] at *); omega)
    | trivial
    | (refine f13.call ?_
       rintro _ rfl
       (cbv; try simp only [wp, getL, takeL, dropL, TK.isAgg, reduceIte])
       exact hR _ _ _ (.d _) rfl)
    | (exfalso; first | exact absurd rfl c9 | (simp at c9; done) | (cases c9; done))
end Go.VM
