/- Contracts of the functions that the law reaches: part of the proof (X12). -/
import Derived.Test.YtcpdnjehmnbheaaDoorX11
namespace Go.VM
open Go.Proofs Go
set_option maxRecDepth 100000
set_option linter.unusedVariables false
set_option linter.unusedSimpArgs false

theorem blkE_bounds (s : ByteArray) : ∀ (m i d : Nat), s.size - i = m → blkE s i d = -1 ∨ ((i : Int) < blkE s i d ∧ blkE s i d ≤ s.size) := by
  intro m
  induction m using Nat.strongRecOn with
  | ind m ih =>
    intro i d hm
    rw [blkE]
    split
    · split
      · have := ih (s.size - (i + 2)) (by omega) (i + 2) (d + 1) rfl
        omega
      · split
        · split
          · omega
          · have := ih (s.size - (i + 2)) (by omega) (i + 2) (d - 1) rfl
            omega
        · have := ih (s.size - (i + 1)) (by omega) (i + 1) d rfl
          omega
    · exact .inl rfl

theorem comE_bounds (s : ByteArray) (k : Nat) (hk : k < s.size) (hc : comB s k = true) : comE s k = -1 ∨ ((k : Int) < comE s k ∧ comE s k ≤ s.size) := by
  unfold comB at hc
  unfold comE
  split
  · rename_i h
    have hb : btF s k = 45 := by simp [twoB] at h; exact h.1.2
    have := spanEnd_bounds (fun i => btF s i != 10) s.size _ (k + 1) rfl (by omega)
    have e : lineE s k = lineE s (k + 1) := by
      rw [lineE, spanEnd, if_pos hk, if_pos (by simp [hb])]
      rfl
    rw [e]
    unfold lineE
    omega
  · split
    · exact blkE_bounds s _ k 0 rfl
    · rename_i h1 h2
      simp [h1, h2] at hc

theorem signs_size : ∀ i, i < 17 → 1 ≤ (nthS signsL i).size := by decide

theorem next_fin (s : ByteArray) (k : Nat) (hk : k < s.size) : (nextR s k).code ≠ 0 ∨ ((k : Int) < (nextR s k).fin ∧ (nextR s k).fin ≤ s.size) := by
  unfold nextR
  split
  · right; simp; omega
  · split
    · split
      · left; simp
      · rename_i h1 h2
        have := comE_bounds s k hk h1
        right
        simp
        omega
    · unfold tokR
      split
      · rename_i h
        have hb := spanEnd_bounds (nameP s) s.size _ (k + 1) rfl (by omega)
        have e : nameE s k = nameE s (k + 1) := by
          rw [nameE, spanEnd, if_pos hk, if_pos (by simp [nameP, h])]
          rfl
        right
        simp only [e]
        unfold nameE
        omega
      · split
        · rename_i h
          have hb := spanEnd_bounds (fun i => digitB (btF s i)) s.size _ (k + 1) rfl (by omega)
          have e : digitsE s k = digitsE s (k + 1) := by
            rw [digitsE, spanEnd, if_pos hk, if_pos h]
            rfl
          split
          · left; simp
          · split
            · left; simp
            · right
              simp only [e]
              unfold digitsE
              omega
        · split
          · left; simp
          · rename_i h
            right
            have h1 := signF_lt (nthS signsL) (s.extract k s.size) 17 0
            have h2 := signs_size (signF (nthS signsL) (s.extract k s.size) 0 17).toNat (by omega)
            have h3 := (sign_at s k (by omega) _ (signF_pre (nthS signsL) (s.extract k s.size) 17 0 (by omega))).1
            simp only
            omega

/-- the tokens and the comments from a place on, or the first fault -/
def runT (s : ByteArray) : Nat → Nat → List Nx → List (Int × Int) → List Nx × List (Int × Int) × Int × Int
  | 0, _, T, C => (T, C, 0, 0)
  | f + 1, k, T, C =>
    if k < s.size then
      (if (nextR s k).code ≠ 0 then ([], [], (nextR s k).code, (nextR s k).at')
      else if (nextR s k).com then runT s f (nextR s k).fin.toNat T (C ++ [((k : Int), (nextR s k).fin)])
      else if (nextR s k).kind ≠ 0 then (if T.length = 6000 then ([], [], 2, k) else runT s f (nextR s k).fin.toNat (T ++ [nextR s k]) C)
      else runT s f (nextR s k).fin.toNat T C)
    else (T, C, 0, 0)
def splitS (s : ByteArray) : List Nx × List (Int × Int) × Int × Int := if s.size > 16000 then ([], [], 2, 0) else runT s s.size 0 [] []

def tokF (K : Nat → Int) (S : Nat → ByteArray) (O : Nat → Int) (i : Nat) : Nat → D
  | 0 => .int .i64 (K i)
  | 1 => .str (S i)
  | _ => .int .i64 (O i)
def kindsL (T : List Nx) (i : Nat) : Int := (T.getD i {}).kind
def textsL (T : List Nx) (i : Nat) : ByteArray := (T.getD i {}).text
def possL (T : List Nx) (i : Nat) : Int := (T.getD i {}).pos
def pairF (F G : Nat → Int) (i : Nat) : Nat → D
  | 0 => .int .i64 (F i)
  | _ => .int .i64 (G i)
def fstsL (C : List (Int × Int)) (i : Nat) : Int := (C.getD i (0, 0)).1
def sndsL (C : List (Int × Int)) (i : Nat) : Int := (C.getD i (0, 0)).2
def tokG (T : List Nx) : Nat → Nat → D := tokF (kindsL T) (textsL T) (possL T)
def pairG (C : List (Int × Int)) : Nat → Nat → D := pairF (fstsL C) (sndsL C)

theorem tok_app (T : List Nx) (x : Nx) (g : Nat → Nat → D) (hg : ∀ i j, i < T.length → j < 3 → Deq (g i j) (tokG T i j)) : ∀ i j, i < (T ++ [x]).length → j < 3 → Deq (appF T.length g (rowF 3 [.int .i64 x.kind, .str x.text, .int .i64 x.pos]) i j) (tokG (T ++ [x]) i j) := by
  intro i j hi hj
  simp only [List.length_append, List.length_singleton] at hi
  by_cases h : i < T.length
  · have e : tokG (T ++ [x]) i j = tokG T i j := by simp [tokG, kindsL, textsL, possL, tokF, List.getD_eq_getElem?_getD, List.getElem?_append, h]
    rw [e]
    simp only [appF, if_pos h]
    exact hg i j h hj
  · have hi' : i = T.length := by omega
    subst hi'
    refine .of_eq ?_
    match j, hj with
    | 0, _ => simp [appF, rowF, tokG, kindsL, tokF, List.getD_eq_getElem?_getD]
    | 1, _ => simp [appF, rowF, tokG, textsL, tokF, List.getD_eq_getElem?_getD]
    | 2, _ => simp [appF, rowF, tokG, possL, tokF, List.getD_eq_getElem?_getD]
theorem pair_app (C : List (Int × Int)) (x : Int × Int) (g : Nat → Nat → D) (hg : ∀ i j, i < C.length → j < 2 → Deq (g i j) (pairG C i j)) : ∀ i j, i < (C ++ [x]).length → j < 2 → Deq (appF C.length g (rowF 2 [.int .i64 x.1, .int .i64 x.2]) i j) (pairG (C ++ [x]) i j) := by
  intro i j hi hj
  simp only [List.length_append, List.length_singleton] at hi
  by_cases h : i < C.length
  · have e : pairG (C ++ [x]) i j = pairG C i j := by simp [pairG, fstsL, sndsL, pairF, List.getD_eq_getElem?_getD, List.getElem?_append, h]
    rw [e]
    simp only [appF, if_pos h]
    exact hg i j h hj
  · have hi' : i = C.length := by omega
    subst hi'
    refine .of_eq ?_
    match j, hj with
    | 0, _ => simp [appF, rowF, pairG, fstsL, pairF, List.getD_eq_getElem?_getD]
    | 1, _ => simp [appF, rowF, pairG, sndsL, pairF, List.getD_eq_getElem?_getD]

structure Sp where
  k : Nat
  n : Nat
  g : Nat → Nat → D
  m : Nat
  h : Nat → Nat → D

structure SpOk (s : ByteArray) (y : Sp) (T : List Nx) (C : List (Int × Int)) (f : Nat) : Prop where
  k : y.k ≤ s.size
  n : y.n = T.length
  m : y.m = C.length
  g : ∀ i j, i < T.length → j < 3 → Deq (y.g i j) (tokG T i j)
  h : ∀ i j, i < C.length → j < 2 → Deq (y.h i j) (pairG C i j)
  lt : T.length ≤ y.k
  lc : C.length ≤ y.k
  fu : s.size - y.k ≤ f
  run : runT s f y.k T C = splitS s

def SplitOut (s : ByteArray) (r : A) : Prop := ∃ T C c a K S O F G, (T, C, c, a) = splitS s ∧ K = kindsL T ∧ S = textsL T ∧ O = possL T ∧ F = fstsL C ∧ G = sndsL C ∧ r = .tup [.d (.sl T.length 3 (tokF K S O)), .d (.sl C.length 2 (pairF F G)), .agg [.d (.int .i64 c), .d (.int .i64 a)]]

theorem f22 (s : ByteArray) (hs : s.size < 2 ^ 40) : VFun (P ()) 22 [.d (.str s)] (SplitOut s) := by
  refine vfun (Tf := @T) @tabOk Tryd.func22 rfl rfl (Nat.le_of_ble_eq_true rfl) @fun ⟨_, _, _, _, _, _, _, _, _, _, _, _, _, _, _, _, _, _, _, _, _, _, _, _, _, _, _, _, _, _, _, _, _, _, _, _, _, _, wp, wf⟩ R hR => ?_
  cbv
  try simp only [wp, getL, takeL, dropL, TK.isAgg, reduceIte]
  have fault : ∀ c a H, splitS s = ([], [], c, a) → R (A.tup [A.nils, A.nils, A.agg [A.d (D.int IntKind.i64 c), A.d (D.int IntKind.i64 a)]]) H := fun c a H e =>
    hR _ H _ (.tup3 (.nils 3 _) (.nils 2 _) (.aggD [_, _])) ⟨[], [], c, a, _, _, _, _, _, e.symm, rfl, rfl, rfl, rfl, rfl, rfl⟩
  refine ⟨fun h => ?_, fun h => ?_⟩
  · exact fault 2 0 _ (by rw [splitS, if_pos (by (try simp only [wf, nc, nc'] at *); (try simp (disch := omega) only [w64, w32, wu8] at *); omega)])
  · have hsz : s.size ≤ 16000 := (by (try simp only [wf, nc, nc'] at *); (try simp (disch := omega) only [w64, w32, wu8] at *); omega)
    refine loopGhost 5 3 rfl ?_
    refine loopGhost 6 2 rfl ?_
    refine loopV (Tf := @T) @tabOk (fun y : Sp => ⟨mk 58 [(0, .d (.str s)), (4, .ptr 0 0), (5, .ref 1 0 y.n 3), (6, .ref 2 0 y.m 2), (7, .d (.int .i64 y.k))], [.box [.d (.int .i64 0), .d (.int .i64 0)], .arr y.n 3 y.g 0, .arr y.m 2 y.h 0]⟩) (fun y => s.size - y.k) (fun y => ∃ T C f, SpOk s y T C f) ⟨0, 0, fun _ _ => .nilp, 0, fun _ _ => .nilp⟩ ⟨[], [], s.size, Nat.zero_le _, rfl, rfl, fun i j h => absurd h (by simp), fun i j h => absurd h (by simp), Nat.zero_le _, Nat.zero_le _, by simp, by rw [splitS, if_neg (by omega)]⟩ ?_ (fun y => rfl) @fun ⟨_, _, _, _, _, _, _, _, _, _, _, _, _, _, _, _, _, _, _, _, _, _, _, _, _, _, _, _, _, _, _, _, _, _, _, _, _, _, wpa, wfa⟩ ⟨k, n, g, m, q⟩ Bk hy hBk => ?_
    · (cbv; try simp only [wf, exD, exL, exT, exB, exA, leLs, leL_d, leL_undef, deq_refl, deq_int, deq_bool, deq_str, and_true, true_and, AObj.iter.injEq, nc, nc']; try simp (disch := omega) only [w64, w32, wu8])
      simp
    (cbv; try simp only [wp, wpa, getL, takeL, dropL, TK.isAgg, reduceIte])
    obtain ⟨T, C, f, ⟨o1, o2, o3, o4, o5, o6, o7, o8, o9⟩⟩ := hy
    dsimp only at o1 o2 o3 o4 o5 o6 o7 o8 o9
    refine ⟨fun h => ?_, fun h => ?_⟩
    · have hk : k < s.size := by (try simp only [wf, wfa, nc, nc'] at *); omega
      obtain ⟨f', rfl⟩ : ∃ f', f = f' + 1 := ⟨f - 1, by omega⟩
      rw [runT, if_pos hk] at o9
      have hfin := next_fin s k hk
      refine (f36 s _ k rfl hk hs).call ?_
      rintro _ ⟨x, hx, rfl⟩
      rw [← hx] at o9 hfin
      obtain ⟨kind, text, pos, com, fin, code, at'⟩ := x
      dsimp only at o9 hfin
      cases com <;> (cbv; try simp only [wp, wpa, getL, takeL, dropL, TK.isAgg, reduceIte])
      · refine ⟨fun c0 => ?_, fun c0 => ?_⟩
        · rw [if_pos c0] at o9
          have := fun H => fault code at' H o9.symm
          repeat' first | exact this _ | refine ⟨?_, ?_⟩ | trivial
        · have hf2 := hfin.resolve_left (by simp [c0])
          (try simp only [nc] at hf2)
          obtain ⟨k2, hk2⟩ : ∃ k2 : Nat, fin = k2 := ⟨fin.toNat, by omega⟩
          rw [if_neg (by simp [c0]), if_neg (by simp), hk2, Int.toNat_natCast] at o9
          refine ⟨fun kd => ⟨fun n6 => ?_, fun n6 => ?_⟩, fun kd => ?_⟩
          · rw [if_pos kd, if_pos (by rw [← o2]; ((try simp only [wf, wfa, nc, nc'] at *); (try simp (disch := omega) only [w64, w32, wu8] at *)); omega)] at o9
            have := fun H => fault 2 k H o9.symm
            repeat' first | exact this _ | refine ⟨?_, ?_⟩ | trivial
          · rw [if_pos kd, if_neg (by rw [← o2]; ((try simp only [wf, wfa, nc, nc'] at *); (try simp (disch := omega) only [w64, w32, wu8] at *)); omega)] at o9
            obtain ⟨g2, hg2⟩ : ∃ g2, g2 = appF n g (rowF 3 [.int .i64 kind, .str text, .int .i64 pos]) := ⟨_, rfl⟩
            obtain ⟨n2, hn2⟩ : ∃ n2, n2 = n + 1 := ⟨_, rfl⟩
            have ap := tok_app T ⟨kind, text, pos, false, k2, code, at'⟩ g o4
            dsimp only at ap
            rw [← o2, ← hg2] at ap
            rw [hk2] at hf2
            have bk := fun s' => hBk ⟨k2, n2, g2, m, q⟩ s' (by dsimp only; omega) ⟨_, C, f', by dsimp only; omega, by simp [hn2, o2], o3, ap, o5, by simp; omega, by dsimp only; omega, by dsimp only; omega, o9⟩
            repeat' first | refine ⟨?_, ?_⟩ | trivial
            all_goals first
              | exact (by (try simp only [wf, wfa, nc, nc'] at *); (try simp (disch := omega) only [w64, w32, wu8] at *); omega)
              | (refine bk _ ?_; (cbv; try simp only [wf, wfa, exD, exL, exT, exB, exA, leLs, leL_d, leL_undef, deq_refl, deq_int, deq_bool, deq_str, and_true, true_and, AObj.iter.injEq, nc, nc']; try simp (disch := omega) only [w64, w32, wu8]); simp [hk2, deq_refl]; done)
              | (refine bk _ ?_; (cbv; try simp only [wf, wfa, exD, exL, exT, exB, exA, leLs, leL_d, leL_undef, deq_refl, deq_int, deq_bool, deq_str, and_true, true_and, AObj.iter.injEq, nc, nc']; try simp (disch := omega) only [w64, w32, wu8]); simp [hn2, hg2, hk2, deq_refl]; done)
          · rw [if_neg (by simp [kd])] at o9
            rw [hk2] at hf2
            have bk := fun s' => hBk ⟨k2, n, g, m, q⟩ s' (by dsimp only; omega) ⟨T, C, f', by dsimp only; omega, o2, o3, o4, o5, by dsimp only; omega, by dsimp only; omega, by dsimp only; omega, o9⟩
            repeat' first | refine ⟨?_, ?_⟩ | trivial
            all_goals first
              | exact (by (try simp only [wf, wfa, nc, nc'] at *); (try simp (disch := omega) only [w64, w32, wu8] at *); omega)
              | (refine bk _ ?_; (cbv; try simp only [wf, wfa, exD, exL, exT, exB, exA, leLs, leL_d, leL_undef, deq_refl, deq_int, deq_bool, deq_str, and_true, true_and, AObj.iter.injEq, nc, nc']; try simp (disch := omega) only [w64, w32, wu8]); simp [hk2, deq_refl]; done)
      · refine ⟨fun c0 => ?_, fun c0 => ?_⟩
        · rw [if_pos c0] at o9
          have := fun H => fault code at' H o9.symm
          repeat' first | exact this _ | refine ⟨?_, ?_⟩ | trivial
        · have hf2 := hfin.resolve_left (by simp [c0])
          (try simp only [nc] at hf2)
          obtain ⟨k2, hk2⟩ : ∃ k2 : Nat, fin = k2 := ⟨fin.toNat, by omega⟩
          rw [if_neg (by simp [c0]), if_pos rfl, hk2, Int.toNat_natCast] at o9
          obtain ⟨q2, hq2⟩ : ∃ q2, q2 = appF m q (rowF 2 [.int .i64 k, .int .i64 k2]) := ⟨_, rfl⟩
          obtain ⟨m2, hm2⟩ : ∃ m2, m2 = m + 1 := ⟨_, rfl⟩
          have ap := pair_app C ((k : Int), (k2 : Int)) q o5
          dsimp only at ap
          rw [← o3, ← hq2] at ap
          rw [hk2] at hf2
          have bk := fun s' => hBk ⟨k2, n, g, m2, q2⟩ s' (by dsimp only; omega) ⟨T, _, f', by dsimp only; omega, o2, by simp [hm2, o3], o4, ap, by dsimp only; omega, by simp; omega, by dsimp only; omega, o9⟩
          repeat' first | refine ⟨?_, ?_⟩ | trivial
          all_goals first
            | exact (by (try simp only [wf, wfa, nc, nc'] at *); (try simp (disch := omega) only [w64, w32, wu8] at *); omega)
            | (refine bk _ ?_; (cbv; try simp only [wf, wfa, exD, exL, exT, exB, exA, leLs, leL_d, leL_undef, deq_refl, deq_int, deq_bool, deq_str, and_true, true_and, AObj.iter.injEq, nc, nc']; try simp (disch := omega) only [w64, w32, wu8]); simp [hm2, hq2, hk2, deq_refl]; done)
    · have e0 : runT s f k T C = (T, C, 0, 0) := by
        cases f with
        | zero => rfl
        | succ f => rw [runT, if_neg (by (try simp only [wf, wfa, nc, nc'] at *); (try simp (disch := omega) only [w64, w32, wu8] at *); omega)]
      rw [e0] at o9
      have d1 : Deq (.sl n 3 g) (.sl T.length 3 (tokG T)) := by rw [o2]; exact .sl _ _ _ _ o4
      have d2 : Deq (.sl m 2 q) (.sl C.length 2 (pairG C)) := by rw [o3]; exact .sl _ _ _ _ o5
      exact hR _ _ _ (.tup3 (.deq _ _ _ (.ref0 1 n 3 n 0 g rfl rfl) d1) (.deq _ _ _ (.ref0 2 m 2 m 0 q rfl rfl) d2) (.aggD [_, _])) ⟨T, C, 0, 0, _, _, _, _, _, o9, rfl, rfl, rfl, rfl, rfl, rfl⟩
end Go.VM
