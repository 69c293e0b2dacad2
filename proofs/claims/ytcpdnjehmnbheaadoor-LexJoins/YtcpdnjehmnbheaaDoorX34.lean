/- Part of the proof: X34. -/
import Derived.Test.YtcpdnjehmnbheaaDoorX32
import Derived.Test.YtcpdnjehmnbheaaDoorVBd
import Derived.Test.YtcpdnjehmnbheaaDoorLayBld
namespace Go.VM
open Go.Proofs Go
set_option maxRecDepth 100000
set_option linter.unusedVariables false
set_option linter.unusedSimpArgs false

def StripOut (s : ByteArray) (r : A) : Prop := ∃ (t : ByteArray) (c a : Int), c = (splitS s).2.2.1 ∧ a = (splitS s).2.2.2 ∧ (c = 0 → t = stripS s) ∧ (c ≠ 0 → t = ⟨#[]⟩) ∧ r = .tup [.d (.str t), .agg [.d (.int .i64 c), .d (.int .i64 a)]]

theorem bel2 (x y : D) : Bel 1 (.tup [.d x, .d y]) := .tup _ (fun k hk => match k, hk with | 0, _ => .d _ | 1, _ => .d _)

theorem f26 {c s : ByteArray} {H : AHeap} {o : Nat} {R : A → AHeap → Prop} (hlim : c.size + s.size ≤ 140737488355328) (ho : getL H o .dead = .bld c)
    (hR : ∀ n c', n = (s.size : Int) → c' = c ++ s → R (.tup [.d (.int .i64 n), .d .nili]) (setL H o (.bld c'))) : CallW P 26 [.ptr o 0, .d (.str s)] H R :=
  CallW.of ((vc_WriteString (P := P ()) Tryd.bld166 Tryd.bldExtra rfl rfl c s hlim).bld (ds := [.str s]) (bel2 _ _) (fun _ => rfl) ho) (by rintro r H' ⟨rfl, rfl⟩; exact hR _ _ rfl rfl)

theorem f27 {c : ByteArray} {n : Int} {H : AHeap} {o : Nat} {R : A → AHeap → Prop} (x : UInt8) (hx : n = x.toNat) (hlim : c.size + 1 ≤ 140737488355328) (ho : getL H o .dead = .bld c)
    (hR : ∀ c', c' = c ++ ⟨#[x]⟩ → R (.d .nili) (setL H o (.bld c'))) : CallW P 27 [.ptr o 0, .d (.int .u8 n)] H R :=
  CallW.of ((vc_WriteByte (P := P ()) Tryd.bld167 Tryd.bldExtra rfl rfl c x n hx hlim).bld (ds := [.int .u8 n]) (.d _) (fun _ => rfl) ho) (by rintro r H' ⟨rfl, rfl⟩; exact hR _ rfl)

theorem f28 {c : ByteArray} {H : AHeap} {o : Nat} {R : A → AHeap → Prop} (ho : getL H o .dead = .bld c)
    (hR : R (.d (.str c)) (setL H o (.bld c))) : CallW P 28 [.ptr o 0] H R :=
  CallW.of ((vc_String (P := P ()) Tryd.bld169 Tryd.bldExtra rfl rfl c).bld (ds := []) (.d _) (fun _ => rfl) ho) (by rintro r H' ⟨rfl, rfl⟩; exact hR)

theorem f32 {c : ByteArray} {H : AHeap} {o : Nat} {R : A → AHeap → Prop} (ho : getL H o .dead = .bld c)
    (hR : ∀ n, n = (c.size : Int) → R (.d (.int .i64 n)) (setL H o (.bld c))) : CallW P 32 [.ptr o 0] H R :=
  CallW.of ((vc_Len (P := P ()) Tryd.bld170 rfl c).bld (ds := []) (.d _) (fun _ => rfl) ho) (by rintro r H' ⟨rfl, rfl⟩; exact hR _ rfl)

theorem runT_ok0 (s : ByteArray) : ∀ (f k : Nat) (T : List Nx) (C : List (Int × Int)), (runT s f k T C).2.2.1 = 0 → (runT s f k T C).2.2.2 = 0
  | 0, k, T, C, _ => rfl
  | f + 1, k, T, C, h => by
    rw [runT] at h ⊢
    split at h
    · rename_i h1
      rw [if_pos h1]
      split at h
      · rename_i h2; exact absurd h h2
      · rename_i h2
        rw [if_neg h2]
        split at h
        · rename_i h3; rw [if_pos h3]; exact runT_ok0 s f _ _ _ h
        · rename_i h3
          rw [if_neg h3]
          split at h
          · rename_i h4
            rw [if_pos h4]
            split at h
            · exact absurd h (by simp)
            · rename_i h5; rw [if_neg h5]; exact runT_ok0 s f _ _ _ h
          · rename_i h4; rw [if_neg h4]; exact runT_ok0 s f _ _ _ h
    · rename_i h1; rw [if_neg h1]

theorem split_ok0 (s : ByteArray) (h : (splitS s).2.2.1 = 0) : (splitS s).2.2.2 = 0 := by
  unfold splitS at h ⊢
  split at h
  · exact absurd h (by decide)
  · rename_i h1; rw [if_neg h1]; exact runT_ok0 s _ _ _ _ h

structure Sb where
  k : Nat
  j : Nat
  u : ByteArray
set_option maxHeartbeats 2000000 in
theorem f14 (s : ByteArray) (hs : s.size < 2 ^ 40) : VFun (P ()) 14 [.d (.str s)] (StripOut s) := by
  refine vfunO (Tf := @T) @tabOk [(3, upF 0 3)] 400 Tryd.func14 rfl (fun {_} => by kernel_rfl) rfl (Nat.le_of_ble_eq_true rfl) @fun ⟨_, _, _, _, _, _, _, _, _, _, _, _, _, _, _, _, _, _, _, _, _, _, _, _, _, _, _, _, _, _, _, _, _, _, _, _, _, _, wp, wf⟩ R hR => ?_
  cbv
  try simp only [wp, getL, takeL, dropL, TK.isAgg, reduceIte]
  replace hR := fun t c a H h1 h2 h3 h4 => hR _ H _ (.tup2 (.d (.str t)) (.aggD [.int .i64 c, .int .i64 a])) ⟨t, c, a, h1, h2, h3, h4, rfl⟩
  simp only [List.map] at hR
  refine (f22 s hs).call ?_
  rintro _ ⟨Tk, C, c, a, K, S, O, F, G, k1, k2, k3, k4, k5, k6, rfl⟩
  have hnC : ∃ nC, nC = C.length := ⟨_, rfl⟩
  obtain ⟨nC, hnC⟩ := hnC
  rw [← hnC]
  generalize Tk.length = nT
  (cbv; try simp only [wp, getL, takeL, dropL, TK.isAgg, reduceIte])
  have k1' : splitS s = (Tk, C, c, a) := k1.symm
  rw [k1'] at hR
  dsimp only at hR
  refine ⟨fun hc => ?_, fun hc => ?_⟩
  · (refine Later.mk ?_; cbv; try simp only [wp, getL, takeL, dropL, TK.isAgg, reduceIte])
    have := fun H => hR ⟨#[]⟩ c a H rfl rfl (fun h => absurd h hc) (fun _ => rfl)
    repeat' first | exact this _ | (with_reducible refine And.intro ?_ ?_) | trivial
  · have hc : c = 0 := (by (try simp only [wf, nc, nc'] at *); (try simp (disch := omega) only [w64, w32, wu8] at *); omega)
    subst hc
    have ha0 := split_ok0 s (by rw [k1'])
    rw [k1'] at ha0
    have ha0 : a = 0 := ha0
    have hz := split_toks s (by rw [k1'])
    rw [k1'] at hz
    dsimp only at hz
    obtain ⟨ht, hz, hl6⟩ := hz
    have hF : ∀ i, F i = fstsL C i := fun i => by rw [k5]
    have hG : ∀ i, G i = sndsL C i := fun i => by rw [k6]
    have h0 : (⟨⟨[]⟩⟩ : ByteArray) ++ stripL s 0 C = stripS s := by
      have e : stripS s = stripL s 0 (splitS s).2.1 := rfl
      rw [e, k1']
      exact ByteArray.empty_append
    have hn0 : nC = 0 + C.length := by rw [Nat.zero_add]; exact hnC
    have hFG : ∀ i, i < C.length → F (0 + i) = fstsL C i ∧ G (0 + i) = sndsL C i := fun i _ => by rw [Nat.zero_add]; exact ⟨hF i, hG i⟩
    clear hl6 k5 k6
    (refine Later.mk ?_; cbv; try simp only [wp, getL, takeL, dropL, TK.isAgg, reduceIte])
    refine loopO (Tf := @T) @tabOk [(3, upF 0 3)] 400 (fun y : Sb => ⟨[.d (.str s), .undef, .undef, .ptr 0 0, .undef, .d (.sl nC 2 (pairF F G)), .ptr 1 0, .ptr 2 0, .d (.int .i64 y.k), .undef, .undef, .undef, .undef, .undef, .undef, .undef, .undef, .undef, .undef, .undef, .undef, .d (.sl nC 2 (pairF F G)), .d (.int .i64 nC), .d (.int .i64 y.j), .undef, .undef, .undef, .undef, .undef, .undef, .undef, .undef, .undef, .undef, .undef, .undef, .undef, .undef, .undef, .undef, .undef, .undef, .undef], [.box [.d (.int .i64 0), .d (.int .i64 0)], .box [.d (.int .i64 0), .d (.int .i64 a)], .bld y.u]⟩) (fun y => s.size - y.k)
      (fun y => y.k ≤ s.size ∧ (y.u.size ≤ y.k ∧ y.j ≤ y.k) ∧ ∃ T1 C1, Toks s y.k s.size T1 C1 ∧ nC = y.j + C1.length ∧ (∀ i, i < C1.length → F (y.j + i) = fstsL C1 i ∧ G (y.j + i) = sndsL C1 i) ∧ y.u ++ stripL s y.k C1 = stripS s) ⟨0, 0, ⟨⟨[]⟩⟩⟩
      ⟨Nat.zero_le _, ⟨Nat.le_refl _, Nat.le_refl _⟩, _, _, ht, hn0, hFG, h0⟩ (fun {_} => by kernel_rfl) ?_ (fun y => rfl) @fun ⟨_, _, _, _, _, _, _, _, _, _, _, _, _, _, _, _, _, _, _, _, _, _, _, _, _, _, _, _, _, _, _, _, _, _, _, _, _, _, wpa, wfa⟩ ⟨k, j, u⟩ Bk hy hBk => ?_
    · (cbv; try simp only [wf, exD, exL, exT, exB, exA, leLs, leL_d, leL_undef, deq_refl, deq_int, deq_bool, deq_str, and_true, true_and, AObj.iter.injEq, nc, nc']; try simp (disch := omega) only [w64, w32, wu8])
      exact ⟨rfl, rfl⟩
    (cbv; try simp only [wp, wpa, getL, takeL, dropL, TK.isAgg, reduceIte])
    obtain ⟨y1, ⟨y0, yj⟩, T1, C1, y2, y3, y4, y5⟩ := hy
    dsimp only at y1 y0 yj y2 y3 y4 y5
    refine ⟨fun e0 => ?_, fun e0 => ?_⟩
    · have e0 : j < nC := (by (try simp only [wf, wfa, nc, nc', Int.toNat_natCast] at *); (try simp (disch := omega) only [w64, w32, wu8] at *); omega)
      (refine Later.mk ?_; cbv; try simp only [wp, wpa, getL, takeL, dropL, TK.isAgg, reduceIte])
      cases C1 with
      | nil => simp at y3; omega
      | cons c1 C2 =>
      obtain ⟨b, e', Ta, Tb, q1, q2, q3, q4, q5, q6, q7⟩ := y2.first c1 C2 rfl y1
      subst q1
      obtain ⟨p1, p2⟩ := y4 0 (by simp)
      rw [Nat.add_zero] at p1 p2
      have p1 : F j = b := p1
      have p2 : G j = e' := p2
      have p3 : (F j).toNat = b := by rw [p1]; exact Int.toNat_natCast b
      have hse : (s.extract k b).size = b - k := by rw [ByteArray.size_extract]; omega
      repeat' first | with_reducible refine And.intro ?_ ?_ | intro c9
      all_goals first | exact (by (try simp only [wf, wfa, nc, nc', Int.toNat_natCast] at *); (try simp (disch := omega) only [w64, w32, wu8] at *); omega) | skip
      refine f26 ?_ rfl ?_
      · ((try simp only [wf, wfa, nc, nc', Int.toNat_natCast] at *); (try simp (disch := omega) only [w64, w32, wu8] at *))
        rw [p3, hse]; omega
      intro n1 u1 hn1 hu1
      have hu1 : u1 = u ++ s.extract k b := by
        ((try simp only [wf, wfa, nc, nc', Int.toNat_natCast] at *); (try simp (disch := omega) only [w64, w32, wu8] at *))
        rw [hu1, p3]
      have hs1 : u1.size = u.size + (b - k) := by rw [hu1, ByteArray.size_append, hse]
      clear hn1
      (cbv; try simp only [wp, wpa, getL, takeL, dropL, TK.isAgg, reduceIte])
      refine f27 32 rfl ?_ rfl ?_
      · omega
      intro u2 hu2
      have hs2 : u2.size = u1.size + 1 := by rw [hu2, ByteArray.size_append]; rfl
      (cbv; try simp only [wp, wpa, getL, takeL, dropL, TK.isAgg, reduceIte])
      have hst : u2 ++ stripL s e' C2 = stripS s := by
        rw [← y5, hu2, hu1]
        simp only [stripL, Int.toNat_natCast, ByteArray.append_assoc]
      refine hBk ⟨e', j + 1, u2⟩ _ (by dsimp only; omega) ⟨by dsimp only; omega, ⟨by dsimp only; omega, by dsimp only; omega⟩, Tb, C2, q4, by rw [y3, List.length_cons]; dsimp only; omega, fun i hi => ?_, hst⟩ ?_
      · have := y4 (i + 1) (by simpa using hi)
        dsimp only
        rw [show j + 1 + i = j + (i + 1) by omega]
        exact this
      · (cbv; try simp only [wf, wfa, exD, exL, exT, exB, exA, leLs, leL_d, leL_undef, deq_refl, deq_int, deq_bool, deq_str, and_true, true_and, AObj.iter.injEq, nc, nc']; try simp (disch := omega) only [w64, w32, wu8])
        rw [Int.toNat_natCast, p2]
        exact ⟨rfl, by omega⟩
    · have e0 : j = nC := (by (try simp only [wf, wfa, nc, nc', Int.toNat_natCast] at *); (try simp (disch := omega) only [w64, w32, wu8] at *); omega)
      have hC1 : C1 = [] := by
        cases C1 with
        | nil => rfl
        | cons c1 C2 => rw [List.length_cons] at y3; omega
      subst hC1
      have hu : u ++ s.extract k s.size = stripS s := y5
      have hse : (s.extract k s.size).size = s.size - k := by rw [ByteArray.size_extract]; omega
      (refine Later.mk ?_; cbv; try simp only [wp, wpa, getL, takeL, dropL, TK.isAgg, reduceIte])
      repeat' first | with_reducible refine And.intro ?_ ?_ | intro c9
      all_goals first | exact (by (try simp only [wf, wfa, nc, nc', Int.toNat_natCast] at *); (try simp (disch := omega) only [w64, w32, wu8] at *); omega) | skip
      refine f26 ?_ rfl ?_
      · ((try simp only [wf, wfa, nc, nc', Int.toNat_natCast] at *); (try simp (disch := omega) only [w64, w32, wu8] at *))
        rw [hse]; omega
      intro n1 u1 hn1 hu1
      have hu1 : u1 = stripS s := by
        ((try simp only [wf, wfa, nc, nc', Int.toNat_natCast] at *); (try simp (disch := omega) only [w64, w32, wu8] at *))
        rw [hu1, hu]
      clear hn1
      (cbv; try simp only [wp, wpa, getL, takeL, dropL, TK.isAgg, reduceIte])
      refine f28 rfl ?_
      (cbv; try simp only [wp, wpa, getL, takeL, dropL, TK.isAgg, reduceIte])
      have := fun H => hR u1 0 0 H rfl ha0.symm (fun _ => hu1) (fun h => absurd rfl h)
      repeat' first | exact this _ | (with_reducible refine And.intro ?_ ?_) | trivial
end Go.VM
