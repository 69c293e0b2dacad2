/- Part of the proof: X23. -/
import Derived.Test.YtcpdnjehmnbheaaDoorX22
namespace Go.VM
open Go.Proofs Go
set_option maxRecDepth 100000
set_option linter.unusedVariables false
set_option linter.unusedSimpArgs false

theorem sub_left (a x : ByteArray) : Sub (a ++ x) a 0 := sub_of_ext (by simp [ByteArray.size_append]) (by rw [Nat.zero_add]; exact ByteArray.extract_append_eq_left rfl)
theorem sub_right (a x : ByteArray) : Sub (a ++ x) x a.size := sub_of_ext (by simp [ByteArray.size_append]) (ByteArray.extract_append_eq_right rfl rfl)
theorem sh_zero (x : Nx) : x.sh 0 = x := by simp [Nx.sh]
/-- two sources with a line feed between them -/
theorem cat_toks {a b : ByteArray} {Ta Tb : List Nx} {Ca Cb : List (Int × Int)} (ha : Toks a 0 a.size Ta Ca) (hb : Toks b 0 b.size Tb Cb) :
    ∃ C, Toks (a ++ ⟨#[10]⟩ ++ b) 0 (a ++ ⟨#[10]⟩ ++ b).size (Ta ++ Tb.map (·.sh (a.size + 1))) C := by
  have z1 : (⟨#[10]⟩ : ByteArray).size = 1 := rfl
  have z2 : (a ++ ⟨#[10]⟩ ++ b).size = a.size + 1 + b.size := by rw [ByteArray.size_append, ByteArray.size_append, z1]
  have s1 : Sub (a ++ ⟨#[10]⟩ ++ b) a 0 := by rw [ByteArray.append_assoc]; exact sub_left _ _
  have s2 : Sub (a ++ ⟨#[10]⟩ ++ b) b (a.size + 1) := by
    have := sub_right (a ++ ⟨#[10]⟩) b
    rw [ByteArray.size_append, z1] at this
    exact this
  have b1 : btF (a ++ ⟨#[10]⟩ ++ b) ((a.size : Nat) : Int) = 10 := by
    have h1 := (sub_left (a ++ ⟨#[10]⟩) b).bt a.size (by rw [ByteArray.size_append, z1]; omega)
    have h2 := (sub_right a ⟨#[10]⟩).bt 0 (by rw [z1]; omega)
    rw [Nat.zero_add] at h1
    rw [Nat.add_zero] at h2
    rw [← h1, ← h2]
    rfl
  have t1 := s1.up (.inr (by rw [Nat.zero_add, b1]; rfl)) ha (.inr (.inr (by rw [Nat.zero_add]; exact b1)))
  have t2 := s2.up (.inl (by rw [z2])) hb (.inr (.inl (by rw [z2])))
  have e0 : Ta.map (·.sh 0) = Ta := by
    rw [List.map_congr_left (g := id) (fun x _ => sh_zero x), List.map_id]
  rw [Nat.zero_add, Nat.zero_add, e0] at t1
  rw [Nat.add_zero] at t2
  rw [z2]
  exact ⟨_, t1.app (.blank _ _ _ _ (by omega) (by rw [b1]; rfl) t2)⟩
theorem cat_split {a b : ByteArray} (ha : (splitS a).2.2.1 = 0) (hb : (splitS b).2.2.1 = 0) (h1 : a.size + 1 + b.size ≤ 16000) (h2 : (splitS a).1.length + (splitS b).1.length ≤ 6000) :
    ∃ C, splitS (a ++ ⟨#[10]⟩ ++ b) = ((splitS a).1 ++ (splitS b).1.map (·.sh (a.size + 1)), C, 0, 0) := by
  obtain ⟨t1, _, _⟩ := split_toks a ha
  obtain ⟨t2, _, _⟩ := split_toks b hb
  obtain ⟨C, t3⟩ := cat_toks t1 t2
  have z1 : (⟨#[10]⟩ : ByteArray).size = 1 := rfl
  exact ⟨C, toks_split t3 (by rw [ByteArray.size_append, ByteArray.size_append, z1]; omega) (by simp; omega)⟩
theorem app_left (T U : List Nx) (i : Nat) (h : i < T.length) : kindsL (T ++ U) i = kindsL T i ∧ textsL (T ++ U) i = textsL T i ∧ possL (T ++ U) i = possL T i := by
  simp [kindsL, textsL, possL, List.getD_eq_getElem?_getD, List.getElem?_append, h]
theorem app_right (T U : List Nx) (o i : Nat) (h : i < U.length) : kindsL (T ++ U.map (·.sh o)) (T.length + i) = kindsL U i ∧ textsL (T ++ U.map (·.sh o)) (T.length + i) = textsL U i ∧ possL (T ++ U.map (·.sh o)) (T.length + i) = possL U i + o := by
  simp [kindsL, textsL, possL, List.getD_eq_getElem?_getD, List.getElem?_append, h, Nx.sh]
theorem same_of (a b : Tk) : ∀ n, (∀ i, i < n → a.eqAt b i i = true) → a.same b n = true
  | 0, _ => rfl
  | n + 1, h => by simp [Tk.same, same_of a b n (fun i hi => h i (by omega)), h n (by omega)]


set_option maxHeartbeats 2000000
theorem f5 (s0 s1 : ByteArray) : VFun (P ()) 5 [.d (.str s0), .d (.str s1)] (fun r => r = .d (.bool true)) := by
  refine vfunK (Tf := @T) @tabOk 400 Tryd.func5 rfl rfl (Nat.le_of_ble_eq_true rfl) @fun ⟨_, _, _, _, _, _, _, _, _, _, _, _, _, _, _, _, _, _, _, _, _, _, _, _, _, _, _, _, _, _, _, _, _, _, _, _, _, _, wp, wf⟩ R hR => ?_
  cbv
  try simp only [wp, getL, takeL, dropL, TK.isAgg, reduceIte]
  refine ⟨fun c1 => ?_, fun c1 => ⟨fun c2 => ?_, fun c2 => ?_⟩⟩
  · (refine Later.mk ?_; cbv; try simp only [wp, getL, takeL, dropL, TK.isAgg, reduceIte])
    exact hR _ _ _ (.d _) rfl
  · (refine Later.mk ?_; cbv; try simp only [wp, getL, takeL, dropL, TK.isAgg, reduceIte])
    exact hR _ _ _ (.d _) rfl
  have hs0 : s0.size ≤ 7000 := (by (try simp only [wf, nc, nc'] at *); (try simp (disch := omega) only [w64, w32, wu8] at *); omega)
  have hs1 : s1.size ≤ 7000 := (by (try simp only [wf, nc, nc'] at *); (try simp (disch := omega) only [w64, w32, wu8] at *); omega)
  have l0 := split_len s0
  have l1 := split_len s1
  have cs := fun h1 h2 h3 => @cat_split s0 s1 h1 h2 (by omega) h3
  (refine Later.mk ?_; cbv; try simp only [wp, getL, takeL, dropL, TK.isAgg, reduceIte])
  refine (f10 _ (by omega)).call ?_
  rintro _ ⟨n, c, a, K, S, O, k1, k2, -, k4, k5, k6, rfl⟩
  (cbv; try simp only [wp, getL, takeL, dropL, TK.isAgg, reduceIte])
  refine (f10 _ (by omega)).call ?_
  rintro _ ⟨m, c', a', K', S', O', k1', k2', -, k4', k5', k6', rfl⟩
  (cbv; try simp only [wp, getL, takeL, dropL, TK.isAgg, reduceIte])
  rw [← k1] at l0
  rw [← k1'] at l1
  rw [← k1, ← k2, ← k1', ← k2'] at cs
  repeat' first | with_reducible refine And.intro ?_ ?_ | intro c9
  all_goals first
    | ((refine Later.mk ?_; cbv; try simp only [wp, getL, takeL, dropL, TK.isAgg, reduceIte])
       refine f13.call ?_
       rintro _ rfl
       (cbv; try simp only [wp, getL, takeL, dropL, TK.isAgg, reduceIte])
       exact hR _ _ _ (.d _) rfl)
    | skip
  obtain ⟨C, hC⟩ := cs (by (try simp only [wf, nc, nc', Int.toNat_natCast] at *); (try simp (disch := omega) only [w64, w32, wu8] at *); omega) (by (try simp only [wf, nc, nc', Int.toNat_natCast] at *); (try simp (disch := omega) only [w64, w32, wu8] at *); omega) (by (try simp only [wf, nc, nc', Int.toNat_natCast] at *); (try simp (disch := omega) only [w64, w32, wu8] at *); omega)
  (refine Later.mk ?_; cbv; try simp only [wp, getL, takeL, dropL, TK.isAgg, reduceIte])
  have hnl : (⟨⟨[10]⟩⟩ : ByteArray).size = 1 := rfl
  refine ⟨(by (try simp only [wf, nc, nc', Int.toNat_natCast] at *); (try simp (disch := omega) only [w64, w32, wu8] at *); omega), (by (try simp only [wf, nc, nc', Int.toNat_natCast] at *); (try simp (disch := omega) only [w64, w32, wu8] at *); omega), (by ((try simp only [wf, nc, nc', Int.toNat_natCast] at *); (try simp (disch := omega) only [w64, w32, wu8] at *)); simp only [ByteArray.size_append]; omega), (by (try simp only [wf, nc, nc', Int.toNat_natCast] at *); (try simp (disch := omega) only [w64, w32, wu8] at *); omega), ?_⟩
  refine (f10 _ ?_).call ?_
  · ((try simp only [wf, nc, nc', Int.toNat_natCast] at *); (try simp (disch := omega) only [w64, w32, wu8] at *))
    simp only [ByteArray.size_append]
    omega
  rintro _ ⟨p, c3, a3, Kp, Sp, Op, q1, q2, -, q4, q5, q6, rfl⟩
  have r1 : p = n + m := by ((try simp only [wf, nc, nc', Int.toNat_natCast] at *); (try simp (disch := omega) only [w64, w32, wu8] at *)); rw [q1, hC, List.length_append, List.length_map, ← k1, ← k1']
  have r2 : c3 = 0 := by ((try simp only [wf, nc, nc', Int.toNat_natCast] at *); (try simp (disch := omega) only [w64, w32, wu8] at *)); rw [q2, hC]
  have r3 : ∀ i, i < n → Kp i = K i ∧ Sp i = S i ∧ Op i = O i := by
    ((try simp only [wf, nc, nc', Int.toNat_natCast] at *); (try simp (disch := omega) only [w64, w32, wu8] at *))
    rw [q4, q5, q6, hC, k4, k5, k6, k1]
    exact fun i hi => app_left _ _ i hi
  have r4 : ∀ i, i < m → Kp (n + i) = K' i ∧ Sp (n + i) = S' i ∧ Op (n + i) = O' i + ((s0.size + 1 : Nat) : Int) := by
    ((try simp only [wf, nc, nc', Int.toNat_natCast] at *); (try simp (disch := omega) only [w64, w32, wu8] at *))
    rw [q4, q5, q6, hC, k4', k5', k6', k1, k1']
    exact fun i hi => app_right _ _ _ i hi
  have r5 : ∀ i, i < m → 0 ≤ O' i ∧ O' i ≤ s1.size := by
    intro i hi
    have hc' : (splitS s1).2.2.1 = 0 := by rw [← k2']; exact (by (try simp only [wf, nc, nc', Int.toNat_natCast] at *); (try simp (disch := omega) only [w64, w32, wu8] at *); omega)
    have hg := (split_toks s1 hc').1.gap (by omega) i (by omega)
    rw [← k1', ← k6'] at hg
    obtain ⟨_, b, _, _, g2, _, _, _, _, g7⟩ := hg
    have := (g7 hi).1
    omega
  subst r2
  clear q1 q2 q4 q5 q6 k4 k5 k6 k4' k5' k6'
  (cbv; try simp only [wp, getL, takeL, dropL, TK.isAgg, reduceIte])
  repeat' first | with_reducible refine And.intro ?_ ?_ | intro c9
  all_goals first
    | (exfalso; exact (by (try simp only [wf, nc, nc', Int.toNat_natCast] at *); (try simp (disch := omega) only [w64, w32, wu8] at *); omega))
    | exact (by (try simp only [wf, nc, nc', Int.toNat_natCast] at *); (try simp (disch := omega) only [w64, w32, wu8] at *); omega)
    | (exfalso; exact c9 rfl)
    | trivial
    | skip
  refine (f12 _ _ _ _ _ _ _ _ ?_ (by omega)).call ?_
  · exact (by (try simp only [wf, nc, nc', Int.toNat_natCast] at *); (try simp (disch := omega) only [w64, w32, wu8] at *); omega)
  rintro _ ⟨b, hb, rfl⟩
  have hb2 : b = true := by
    ((try simp only [wf, nc, nc', Int.toNat_natCast] at *); (try simp (disch := omega) only [w64, w32, wu8] at *))
    rw [hb, same_of _ _ _ (fun i hi => ?_)]
    · simp
    · obtain ⟨e1, e2, e3⟩ := r3 i (by omega)
      simp [Tk.eqAt, e1, e2, e3]
  subst hb2
  clear hb
  (cbv; try simp only [wp, getL, takeL, dropL, TK.isAgg, reduceIte])
  (refine Later.mk ?_; cbv; try simp only [wp, getL, takeL, dropL, TK.isAgg, reduceIte])
  refine loopK (Tf := @T) @tabOk 400 (fun i : Nat => ⟨mk 107 [(0, .d (.str s0)), (5, .d (.sl n 3 (tokF K S O))), (7, .d (.sl m 3 (tokF K' S' O'))), (9, .d (.sl p 3 (tokF Kp Sp Op))), (11, .d (.int .i64 i))], []⟩) (fun i => m - i) (fun i => i ≤ m) 0 (Nat.zero_le _) ?_ (fun i => rfl) @fun ⟨_, _, _, _, _, _, _, _, _, _, _, _, _, _, _, _, _, _, _, _, _, _, _, _, _, _, _, _, _, _, _, _, _, _, _, _, _, _, wpa, wfa⟩ i Bk hi hBk => ?_
  · (cbv; try simp only [wf, exD, exL, exT, exB, exA, leLs, leL_d, leL_undef, deq_refl, deq_int, deq_bool, deq_str, and_true, true_and, AObj.iter.injEq, nc, nc']; try simp (disch := omega) only [w64, w32, wu8])
    rfl
  (cbv; try simp only [wp, wpa, getL, takeL, dropL, TK.isAgg, reduceIte])
  refine ⟨fun e0 => ?_, fun e0 => ?_⟩
  · have e0 : i < m := (by (try simp only [wf, wfa, nc, nc', Int.toNat_natCast] at *); (try simp (disch := omega) only [w64, w32, wu8] at *); omega)
    obtain ⟨e1, e2, e3⟩ := r4 i e0
    obtain ⟨i2, hi2⟩ : ∃ i2, i2 = i + 1 := ⟨_, rfl⟩
    have bk := fun s' => hBk i2 s' (by omega) (by omega)
    obtain ⟨e4, e5⟩ := r5 i e0
    (try simp only [nc, nc'] at *)
    have hw : IntKind.i64.wrap ((n : Int) + i) = ((n + i : Nat) : Int) := by rw [w64 (by omega) (by omega)]; omega
    have hw1 : IntKind.i64.wrap (O' i + ((s0.size + 1 : Nat) : Int) - s0.size) = O' i + 1 := by rw [w64 (by omega) (by omega)]; omega
    have hw2 : IntKind.i64.wrap (IntKind.i64.wrap (O' i + ((s0.size + 1 : Nat) : Int) - s0.size) - 1) = O' i := by rw [hw1, w64 (by omega) (by omega)]; omega
    clear hw1
    (refine Later.mk ?_; cbv; try simp only [wp, wpa, getL, takeL, dropL, TK.isAgg, reduceIte])
    repeat' first | with_reducible refine And.intro ?_ ?_ | intro c9
    all_goals first
      | (exfalso; apply c9; refine ⟨?_, ?_, ?_⟩ <;> (simp only [wf, wfa, nc, nc', Int.toNat_natCast, hw, e1, e2, e3] <;> exact hw2))
      | (simp only [wf, wfa, nc, nc', Int.toNat_natCast, hw]; omega)
      | trivial
      | skip
    (refine Later.mk ?_; cbv; try simp only [wp, wpa, getL, takeL, dropL, TK.isAgg, reduceIte])
    refine bk _ ?_
    (cbv; try simp only [wf, wfa, exD, exL, exT, exB, exA, leLs, leL_d, leL_undef, deq_refl, deq_int, deq_bool, deq_str, and_true, true_and, AObj.iter.injEq, nc, nc']; try simp (disch := omega) only [w64, w32, wu8])
    omega
  · (refine Later.mk ?_; cbv; try simp only [wp, wpa, getL, takeL, dropL, TK.isAgg, reduceIte])
    refine f13.call ?_
    rintro _ rfl
    (cbv; try simp only [wp, wpa, getL, takeL, dropL, TK.isAgg, reduceIte])
    exact hR _ _ _ (.d _) rfl
end Go.VM
