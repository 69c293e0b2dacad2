/- Part of the proof: LB5, LB6, LB7. -/
import Derived.Test.YtfbecfnagidioaaGreatDoorGX10
namespace Go.VM
open Go.Proofs Go
set_option maxRecDepth 100000
set_option linter.unusedVariables false
set_option linter.unusedSimpArgs false
theorem mx_map_add (p : Int) (l : List Pt) (v : Int) : mx (l.map fun x => (x.1, x.2 + p)) v = (mx l v).map (· + p) := by
  induction l with
  | nil => rfl
  | cons x l ih =>
    simp only [List.map_cons, mx, ih]
    by_cases h : x.1 = v
    · rw [if_pos h, if_pos h]
      cases mx l v with
      | none => rfl
      | some y => simp only [omax, Option.map_some, Option.some.injEq]; omega
    · rw [if_neg h, if_neg h]
      simp only [omax_none']
theorem lst_add_map (V P0 : Nat → Int) (p : Int) : ∀ n, lst V (fun i => P0 i + p) n = (lst V P0 n).map fun x => (x.1, x.2 + p)
  | 0 => rfl
  | n + 1 => by simp only [lst, List.map_append, lst_add_map V P0 p n, List.map_cons, List.map_nil]
/-- the first i with a number added -/
def addU (P0 : Nat → Int) (p : Int) (i : Nat) : Nat → Int := fun k => if k < i then P0 k + p else P0 k
theorem addU_step (V P0 : Nat → Int) (p : Int) (i : Nat) (x j : Nat) (hj : j < 2) : updF (lvF V (addU P0 p i)) i 1 (.int .i64 (P0 i + p)) x j = lvF V (addU P0 p (i + 1)) x j := by
  match j, hj with
  | 0, _ => simp [updF, lvF]
  | 1, _ =>
    simp only [updF, lvF, addU]
    by_cases h : x = i
    · subst h; simp
    · simp only [h, false_and, if_false]
      by_cases h2 : x < i
      · rw [if_pos h2, if_pos (by omega)]
      · rw [if_neg h2, if_neg (by omega)]
theorem addU_at (P0 : Nat → Int) (p : Int) (i : Nat) : addU P0 p i i = P0 i := if_neg (Nat.lt_irrefl _)
structure Jy where
  a : Nat
  b : Nat
  la : Nat
  lb : Nat
  m : Nat
  V : Nat → Int
  P : Nat → Int
/-- a list of parts from a place on -/
def frm (f : Nat → Int) (i : Nat) : Nat → Int := fun k => f (i + k)
theorem frm_zero (f : Nat → Int) : frm f 0 = f := by funext k; simp [frm]
theorem frm_at (f : Nat → Int) (i : Nat) : frm f i 0 = f i := rfl
theorem lst_frm (V P : Nat → Int) (i l : Nat) : lst (frm V i) (frm P i) (l + 1) = (V i, P i) :: lst (frm V (i + 1)) (frm P (i + 1)) l := by
  rw [lst_cons]
  congr 1
  exact lst_congr fun k _ => ⟨by unfold frm; rw [show i + 1 + k = i + (k + 1) by omega], by unfold frm; rw [show i + 1 + k = i + (k + 1) by omega]⟩
theorem sl_sh (V P : Nat → Int) (l i : Nat) : Deq (.sl l 2 (shF (lvF (frm V i) (frm P i)) 1)) (.sl l 2 (lvF (frm V (i + 1)) (frm P (i + 1)))) := by
  refine .sl _ _ _ _ fun x j hx hj => .of_eq ?_
  match j, hj with
  | 0, _ => show D.int .i64 (V (i + (1 + x))) = D.int .i64 (V (i + 1 + x)); rw [Nat.add_assoc]
  | 1, _ => show D.int .i64 (P (i + (1 + x))) = D.int .i64 (P (i + 1 + x)); rw [Nat.add_assoc]
def cat3 (f : Nat → Int) (k : Nat) (g : Nat → Int) (i la : Nat) (h : Nat → Int) (j : Nat) : Nat → Int := fun x => if x < k + la then (if x < k then f x else frm g i (x - k)) else frm h j (x - (k + la))
theorem cat3_app (V1 P1 V P0 V' P' : Nat → Int) (k i la j x y : Nat) (hy : y < 2) : appF (k + la) (appF k (lvF V1 P1) (lvF (frm V i) (frm P0 i))) (lvF (frm V' j) (frm P' j)) x y = lvF (cat3 V1 k V i la V' j) (cat3 P1 k P0 i la P' j) x y := by
  unfold appF cat3
  match y, hy with
  | 0, _ =>
    simp only [lvF]
    split
    · split <;> rfl
    · rfl
  | 1, _ =>
    simp only [lvF]
    split
    · split <;> rfl
    · rfl
theorem cat3_lst (V1 P1 V P0 V' P' : Nat → Int) (k i la j lb : Nat) : lst (cat3 V1 k V i la V' j) (cat3 P1 k P0 i la P' j) (k + la + lb) = lst V1 P1 k ++ lst (frm V i) (frm P0 i) la ++ lst (frm V' j) (frm P' j) lb := by
  rw [lst_add, lst_add]
  congr 1
  · congr 1
    · exact lst_congr fun x hx => ⟨by unfold cat3; rw [if_pos (by omega), if_pos hx], by unfold cat3; rw [if_pos (by omega), if_pos hx]⟩
    · exact lst_congr fun x hx => ⟨by unfold cat3; rw [if_pos (by omega), if_neg (by omega)]; congr 1; omega, by unfold cat3; rw [if_pos (by omega), if_neg (by omega)]; congr 1; omega⟩
  · exact lst_congr fun x hx => ⟨by unfold cat3; rw [if_neg (by omega)]; congr 1; omega, by unfold cat3; rw [if_neg (by omega)]; congr 1; omega⟩
set_option maxHeartbeats 4000000 in
theorem joined0 (n m : Nat) (V P0 V' P' : Nat → Int) (hn : n < 2 ^ 20) (hm : m < 2 ^ 20) : VCalls (P ()) 86 [.d (.sl n 2 (lvF V P0)), .d (.sl m 2 (lvF V' P')), .clo 87 [] [], .clo 88 [] []] []
    (fun r H => ∃ k V1 P1 i j la lb K g G, lst V1 P1 k ++ lst (frm V i) (frm P0 i) la ++ lst (frm V' j) (frm P' j) lb = joinL (lst V P0 n) (lst V' P' m) ∧ k + la + lb ≤ n + m ∧ K = k + la + lb ∧
      g = appF (k + la) (appF k (lvF V1 P1) (lvF (frm V i) (frm P0 i))) (lvF (frm V' j) (frm P' j)) ∧ r = .ref 0 0 K 2 ∧ H = [.arr K 2 g 0] ++ G) := by
  refine VCalls_of_Wo (Tf := @T) @tabOk [] 400 Tryz.func86 rfl (fun {_} => by kernel_rfl) (Nat.le_of_ble_eq_true rfl) @fun ⟨_, _, _, _, _, _, _, _, _, _, _, _, _, _, _, _, _, _, _, _, _, _, _, _, _, _, _, _, _, _, _, _, _, _, _, _, _, _, wp, wf⟩ nH R hnH hR => ?_
  subst hnH
  cbv
  try simp only [wp, (show ∀ n : Nat, _ = n from fun n => wf.2.2.2.2.2.2.2.2.2.2.2.2.2.1 (Int.ofNat n)), getL, takeL, dropL, TK.isAgg, reduceIte]
  replace hR := fun k V1 P1 i j la lb K g G h1 h2 h3 h4 => hR (.ref 0 0 K 2) _ ⟨k, V1, P1, i, j, la, lb, K, g, G, h1, h2, h3, h4, rfl, rfl⟩
  repeat' first | with_reducible refine And.intro ?_ ?_ | intro c9
  all_goals first | exact (by (try simp only [wf, nc, nc', Int.toNat_natCast, bsz, ByteArray.size_append, List.length_cons, List.length_nil] at *); (try simp (disch := omega) only [w64, w32, wu8] at *); first | done | omega) | trivial | skip
  all_goals
    refine loopO (Tf := @T) @tabOk [] 400 (fun y : Jy => ⟨[.d (.sl y.la 2 (lvF (frm V y.a) (frm P0 y.a))), .d (.sl y.lb 2 (lvF (frm V' y.b) (frm P' y.b))), .clo 87 [] [], .clo 88 [] [], .undef, .undef, .undef, .undef, .undef, .ref 0 0 y.m 2, .undef, .undef, .undef, .undef, .undef, .undef, .undef, .undef, .undef, .undef, .undef, .undef, .undef, .undef, .undef, .undef, .undef, .undef, .undef, .undef, .undef, .undef, .undef, .undef, .undef, .undef, .undef, .undef, .undef, .undef, .undef, .undef, .undef, .undef, .undef, .undef, .undef, .undef, .undef, .undef, .undef, .undef, .undef, .undef, .undef, .undef, .undef, .undef, .undef, .undef, .undef, .undef, .undef, .undef, .undef, .undef, .undef, .undef, .undef, .undef, .undef, .undef, .undef, .undef, .undef, .undef, .undef, .undef], [.arr y.m 2 (lvF y.V y.P) 0]⟩) (fun y => y.la + y.lb) (fun y => y.a + y.la = n ∧ y.b + y.lb = m ∧ y.m ≤ y.a + y.b ∧ joinL (lst V P0 n) (lst V' P' m) = lst y.V y.P y.m ++ joinL (lst (frm V y.a) (frm P0 y.a) y.la) (lst (frm V' y.b) (frm P' y.b) y.lb)) ⟨0, 0, n, m, 0, V, P0⟩ ⟨Nat.zero_add _, Nat.zero_add _, Nat.zero_le _, ?_⟩ (fun {_} => by kernel_rfl) ?_ (fun i => by kernel_rfl) @fun ⟨_, _, _, _, _, _, _, _, _, _, _, _, _, _, _, _, _, _, _, _, _, _, _, _, _, _, _, _, _, _, _, _, _, _, _, _, _, _, wpa, wfa⟩ ⟨i, j, la, lb, k, V1, P1⟩ Bk hi hBk => ?_
    · simp only [frm_zero]; rfl
    · (cbv; try simp only [wf, exD, exL, exT, exB, exA, leLs, leL_d, leL_undef, leL_nils, leA_nils, deq_refl, deq_int, deq_bool, deq_str, and_true, true_and, AObj.iter.injEq, nc, nc']; try simp (disch := omega) only [w64, w32, wu8])
      simp only [frm_zero]
      exact ⟨⟨.refl _, .refl _, rfl⟩, rfl, Nat.le_refl _, Nat.le_refl _, fun i j hi => absurd hi (Nat.not_lt_zero _)⟩
    obtain ⟨i1, i2, i3, i4⟩ := hi
    dsimp only at i1 i2 i3 i4
    have sa := fun l => sl_sh V P0 l i
    have sb := fun l => sl_sh V' P' l j
    obtain ⟨fv, hfv⟩ : ∃ fv, fv = frm V i := ⟨_, rfl⟩
    obtain ⟨fp, hfp⟩ : ∃ fp, fp = frm P0 i := ⟨_, rfl⟩
    obtain ⟨gv, hgv⟩ : ∃ gv, gv = frm V' j := ⟨_, rfl⟩
    obtain ⟨gp, hgp⟩ : ∃ gp, gp = frm P' j := ⟨_, rfl⟩
    have vi : fv 0 = V i := by rw [hfv]; rfl
    have pi : fp 0 = P0 i := by rw [hfp]; rfl
    have vj : gv 0 = V' j := by rw [hgv]; rfl
    have pj : gp 0 = P' j := by rw [hgp]; rfl
    rw [← hfv, ← hfp] at sa
    rw [← hgv, ← hgp] at sb
    have j1 : ∀ la2, la = la2 + 1 → V i < V' j → ∀ lb2, lb = lb2 + 1 → lst V1 P1 k ++ joinL (lst (frm V i) (frm P0 i) la) (lst (frm V' j) (frm P' j) lb) = lst V1 P1 k ++ [(V i, P0 i)] ++ joinL (lst (frm V (i + 1)) (frm P0 (i + 1)) la2) (lst (frm V' j) (frm P' j) lb) := fun la2 h1 h lb2 h2 => by
      rw [h1, h2, lst_frm, lst_frm V', joinL_cons, if_pos h, List.append_assoc]; rfl
    have j2 : ∀ la2, la = la2 + 1 → V' j < V i → ∀ lb2, lb = lb2 + 1 → lst V1 P1 k ++ joinL (lst (frm V i) (frm P0 i) la) (lst (frm V' j) (frm P' j) lb) = lst V1 P1 k ++ [(V' j, P' j)] ++ joinL (lst (frm V i) (frm P0 i) la) (lst (frm V' (j + 1)) (frm P' (j + 1)) lb2) := fun la2 h1 h lb2 h2 => by
      rw [h1, h2, lst_frm, lst_frm V', joinL_cons, if_neg (by dsimp only; omega), if_pos h, List.append_assoc]; rfl
    have j3 : ∀ la2, la = la2 + 1 → V i = V' j → ∀ lb2, lb = lb2 + 1 → ∀ q, q = max (P0 i) (P' j) → lst V1 P1 k ++ joinL (lst (frm V i) (frm P0 i) la) (lst (frm V' j) (frm P' j) lb) = lst V1 P1 k ++ [(V i, q)] ++ joinL (lst (frm V (i + 1)) (frm P0 (i + 1)) la2) (lst (frm V' (j + 1)) (frm P' (j + 1)) lb2) := fun la2 h1 h lb2 h2 q hq => by
      rw [h1, h2, lst_frm, lst_frm V', joinL_cons, if_neg (by dsimp only; omega), if_neg (by dsimp only; omega), List.append_assoc, hq]; rfl
    rw [← hfv, ← hfp, ← hgv, ← hgp]
    (cbv; try simp only [wp, (show ∀ n : Nat, _ = n from fun n => wf.2.2.2.2.2.2.2.2.2.2.2.2.2.1 (Int.ofNat n)), (show _ = (0 : Nat) from wf.2.2.2.2.2.2.2.2.2.2.2.2.2.1 0), wpa, (show ∀ n : Nat, _ = n from fun n => wfa.2.2.2.2.2.2.2.2.2.2.2.2.2.1 (Int.ofNat n)), (show _ = (0 : Nat) from wfa.2.2.2.2.2.2.2.2.2.2.2.2.2.1 0), getL, takeL, dropL, TK.isAgg, reduceIte])
    repeat' first | with_reducible refine And.intro ?_ ?_ | intro c9
    all_goals first | exact (by (try simp only [wf, wfa, nc, nc', Int.toNat_natCast, bsz, ByteArray.size_append, List.length_cons, List.length_nil] at *); (try simp (disch := omega) only [w64, w32, wu8] at *); first | done | omega) | trivial | skip
    · (refine Later.mk ?_; cbv; try simp only [wp, (show ∀ n : Nat, _ = n from fun n => wf.2.2.2.2.2.2.2.2.2.2.2.2.2.1 (Int.ofNat n)), (show _ = (0 : Nat) from wf.2.2.2.2.2.2.2.2.2.2.2.2.2.1 0), wpa, (show ∀ n : Nat, _ = n from fun n => wfa.2.2.2.2.2.2.2.2.2.2.2.2.2.1 (Int.ofNat n)), (show _ = (0 : Nat) from wfa.2.2.2.2.2.2.2.2.2.2.2.2.2.1 0), getL, takeL, dropL, TK.isAgg, reduceIte])
      repeat' first | with_reducible refine And.intro ?_ ?_ | intro c9
      all_goals first | exact (by (try simp only [wf, wfa, nc, nc', Int.toNat_natCast, bsz, ByteArray.size_append, List.length_cons, List.length_nil] at *); (try simp (disch := omega) only [w64, w32, wu8] at *); first | done | omega) | trivial | skip
      all_goals
        have hla : 0 < la := (by (try simp only [wf, wfa, nc, nc', Int.toNat_natCast, bsz, ByteArray.size_append, List.length_cons, List.length_nil] at *); (try simp (disch := omega) only [w64, w32, wu8] at *); first | done | omega)
        have hlb : 0 < lb := (by (try simp only [wf, wfa, nc, nc', Int.toNat_natCast, bsz, ByteArray.size_append, List.length_cons, List.length_nil] at *); (try simp (disch := omega) only [w64, w32, wu8] at *); first | done | omega)
        obtain ⟨la2, ha2⟩ : ∃ la2, la = la2 + 1 := ⟨la - 1, by omega⟩
        obtain ⟨lb2, hb2⟩ : ∃ lb2, lb = lb2 + 1 := ⟨lb - 1, by omega⟩
      all_goals
        obtain ⟨q0, hq0⟩ : ∃ q0, q0 = max (P0 i) (P' j) := ⟨_, rfl⟩
        refine (variable1 _ _).call ?_
        rintro _ rfl
        (cbv; try simp only [wp, (show ∀ n : Nat, _ = n from fun n => wf.2.2.2.2.2.2.2.2.2.2.2.2.2.1 (Int.ofNat n)), (show _ = (0 : Nat) from wf.2.2.2.2.2.2.2.2.2.2.2.2.2.1 0), wpa, (show ∀ n : Nat, _ = n from fun n => wfa.2.2.2.2.2.2.2.2.2.2.2.2.2.1 (Int.ofNat n)), (show _ = (0 : Nat) from wfa.2.2.2.2.2.2.2.2.2.2.2.2.2.1 0), getL, takeL, dropL, TK.isAgg, reduceIte])
        repeat' first | trivial | with_reducible refine And.intro ?_ ?_ | intro c9
      all_goals
        refine (variable1 _ _).call ?_
        rintro _ rfl
        (cbv; try simp only [wp, (show ∀ n : Nat, _ = n from fun n => wf.2.2.2.2.2.2.2.2.2.2.2.2.2.1 (Int.ofNat n)), (show _ = (0 : Nat) from wf.2.2.2.2.2.2.2.2.2.2.2.2.2.1 0), wpa, (show ∀ n : Nat, _ = n from fun n => wfa.2.2.2.2.2.2.2.2.2.2.2.2.2.1 (Int.ofNat n)), (show _ = (0 : Nat) from wfa.2.2.2.2.2.2.2.2.2.2.2.2.2.1 0), getL, takeL, dropL, TK.isAgg, reduceIte])
        repeat' first | trivial | with_reducible refine And.intro ?_ ?_ | intro c9
      all_goals
        refine (Compare _ _).call ?_
        rintro _ ⟨z, hz, rfl⟩
        rw [vi, vj] at hz
        (cbv; try simp only [wp, (show ∀ n : Nat, _ = n from fun n => wf.2.2.2.2.2.2.2.2.2.2.2.2.2.1 (Int.ofNat n)), (show _ = (0 : Nat) from wf.2.2.2.2.2.2.2.2.2.2.2.2.2.1 0), wpa, (show ∀ n : Nat, _ = n from fun n => wfa.2.2.2.2.2.2.2.2.2.2.2.2.2.1 (Int.ofNat n)), (show _ = (0 : Nat) from wfa.2.2.2.2.2.2.2.2.2.2.2.2.2.1 0), getL, takeL, dropL, TK.isAgg, reduceIte])
        refine ⟨fun c9 => ?_, fun c9 => ?_⟩
        · have hv : V i < V' j := by
            rw [hz] at c9
            split at c9
            · assumption
            · split at c9 <;> omega
          (refine Later.mk ?_; cbv; try simp only [wp, (show ∀ n : Nat, _ = n from fun n => wf.2.2.2.2.2.2.2.2.2.2.2.2.2.1 (Int.ofNat n)), (show _ = (0 : Nat) from wf.2.2.2.2.2.2.2.2.2.2.2.2.2.1 0), wpa, (show ∀ n : Nat, _ = n from fun n => wfa.2.2.2.2.2.2.2.2.2.2.2.2.2.1 (Int.ofNat n)), (show _ = (0 : Nat) from wfa.2.2.2.2.2.2.2.2.2.2.2.2.2.1 0), getL, takeL, dropL, TK.isAgg, reduceIte])
          apply both
          case h =>
              intro key
              repeat' first | (clear key; trivial) | with_reducible refine And.intro ?_ ?_ | (show Bk _; exact key) | (clear key; show _ ≤ _; exact (by (try simp only [wf, wfa, nc, nc', Int.toNat_natCast, bsz, ByteArray.size_append, List.length_cons, List.length_nil] at *); (try simp (disch := omega) only [w64, w32, wu8] at *); first | done | omega)) | (clear key; show _ < _; exact (by (try simp only [wf, wfa, nc, nc', Int.toNat_natCast, bsz, ByteArray.size_append, List.length_cons, List.length_nil] at *); (try simp (disch := omega) only [w64, w32, wu8] at *); first | done | omega)) | (clear key; show _ = _; exact (by (try simp only [wf, wfa, nc, nc', Int.toNat_natCast, bsz, ByteArray.size_append, List.length_cons, List.length_nil] at *); (try simp (disch := omega) only [w64, w32, wu8] at *); first | done | omega))
          case g =>
              refine hBk ⟨i + 1, j, la2, lb, k + 1, ext V1 k (V i), ext P1 k (P0 i)⟩ _ (by dsimp only; omega) ⟨by dsimp only; omega, by dsimp only; omega, by dsimp only; omega, by dsimp only; rw [lst_ext, i4]; exact j1 la2 ha2 hv lb2 hb2⟩ ?_
              (cbv; try simp only [wf, wfa, exD, exL, exT, exB, exA, leLs, leL_d, leL_undef, leL_nils, leA_nils, deq_refl, deq_int, deq_bool, deq_str, and_true, true_and, AObj.iter.injEq, nc, nc']; try simp (disch := omega) only [w64, w32, wu8])
              ((try simp only [wf, wfa, nc, nc', Int.toNat_natCast, bsz, ByteArray.size_append, List.length_cons, List.length_nil] at *); (try simp (disch := omega) only [w64, w32, wu8] at *))
              refine ⟨⟨?_, ?_⟩, Nat.le_refl _, Nat.zero_le _, fun x y hx hy => ?_⟩
              · rw [ha2]; exact sa la2
              · rw [hgv, hgp]; exact .refl _
              · rw [vi, pi]
                exact .of_eq (ext_row _ _ _ _ _ x y hx hy)
        · (refine Later.mk ?_; cbv; try simp only [wp, (show ∀ n : Nat, _ = n from fun n => wf.2.2.2.2.2.2.2.2.2.2.2.2.2.1 (Int.ofNat n)), (show _ = (0 : Nat) from wf.2.2.2.2.2.2.2.2.2.2.2.2.2.1 0), wpa, (show ∀ n : Nat, _ = n from fun n => wfa.2.2.2.2.2.2.2.2.2.2.2.2.2.1 (Int.ofNat n)), (show _ = (0 : Nat) from wfa.2.2.2.2.2.2.2.2.2.2.2.2.2.1 0), getL, takeL, dropL, TK.isAgg, reduceIte])
          refine ⟨fun c9 => ?_, fun c9 => ?_⟩
          · have hv : V' j < V i := by
              rw [hz] at c9
              split at c9
              · omega
              · split at c9
                · assumption
                · omega
            (refine Later.mk ?_; cbv; try simp only [wp, (show ∀ n : Nat, _ = n from fun n => wf.2.2.2.2.2.2.2.2.2.2.2.2.2.1 (Int.ofNat n)), (show _ = (0 : Nat) from wf.2.2.2.2.2.2.2.2.2.2.2.2.2.1 0), wpa, (show ∀ n : Nat, _ = n from fun n => wfa.2.2.2.2.2.2.2.2.2.2.2.2.2.1 (Int.ofNat n)), (show _ = (0 : Nat) from wfa.2.2.2.2.2.2.2.2.2.2.2.2.2.1 0), getL, takeL, dropL, TK.isAgg, reduceIte])
            apply both
            case h =>
              intro key
              repeat' first | (clear key; trivial) | with_reducible refine And.intro ?_ ?_ | (show Bk _; exact key) | (clear key; show _ ≤ _; exact (by (try simp only [wf, wfa, nc, nc', Int.toNat_natCast, bsz, ByteArray.size_append, List.length_cons, List.length_nil] at *); (try simp (disch := omega) only [w64, w32, wu8] at *); first | done | omega)) | (clear key; show _ < _; exact (by (try simp only [wf, wfa, nc, nc', Int.toNat_natCast, bsz, ByteArray.size_append, List.length_cons, List.length_nil] at *); (try simp (disch := omega) only [w64, w32, wu8] at *); first | done | omega)) | (clear key; show _ = _; exact (by (try simp only [wf, wfa, nc, nc', Int.toNat_natCast, bsz, ByteArray.size_append, List.length_cons, List.length_nil] at *); (try simp (disch := omega) only [w64, w32, wu8] at *); first | done | omega))
            case g =>
              refine hBk ⟨i, j + 1, la, lb2, k + 1, ext V1 k (V' j), ext P1 k (P' j)⟩ _ (by dsimp only; omega) ⟨by dsimp only; omega, by dsimp only; omega, by dsimp only; omega, by dsimp only; rw [lst_ext, i4]; exact j2 la2 ha2 hv lb2 hb2⟩ ?_
              (cbv; try simp only [wf, wfa, exD, exL, exT, exB, exA, leLs, leL_d, leL_undef, leL_nils, leA_nils, deq_refl, deq_int, deq_bool, deq_str, and_true, true_and, AObj.iter.injEq, nc, nc']; try simp (disch := omega) only [w64, w32, wu8])
              ((try simp only [wf, wfa, nc, nc', Int.toNat_natCast, bsz, ByteArray.size_append, List.length_cons, List.length_nil] at *); (try simp (disch := omega) only [w64, w32, wu8] at *))
              refine ⟨⟨?_, ?_⟩, Nat.le_refl _, Nat.zero_le _, fun x y hx hy => ?_⟩
              · rw [hfv, hfp]; exact .refl _
              · rw [hb2]; exact sb lb2
              · rw [vj, pj]
                exact .of_eq (ext_row _ _ _ _ _ x y hx hy)
          · have hv : V i = V' j := by
              rw [hz] at c9
              split at c9
              · omega
              · split at c9 <;> omega
            (refine Later.mk ?_; cbv; try simp only [wp, (show ∀ n : Nat, _ = n from fun n => wf.2.2.2.2.2.2.2.2.2.2.2.2.2.1 (Int.ofNat n)), (show _ = (0 : Nat) from wf.2.2.2.2.2.2.2.2.2.2.2.2.2.1 0), wpa, (show ∀ n : Nat, _ = n from fun n => wfa.2.2.2.2.2.2.2.2.2.2.2.2.2.1 (Int.ofNat n)), (show _ = (0 : Nat) from wfa.2.2.2.2.2.2.2.2.2.2.2.2.2.1 0), getL, takeL, dropL, TK.isAgg, reduceIte])
            apply both
            case h =>
              intro key
              repeat' first | (clear key; trivial) | with_reducible refine And.intro ?_ ?_ | (show Bk _; exact key) | (refine (greater _ _ _ _).call ?_; rintro _ ⟨q, hq, rfl⟩; rw [pi, pj, ← hq0] at hq; subst hq; (cbv; try simp only [wp, (show ∀ n : Nat, _ = n from fun n => wf.2.2.2.2.2.2.2.2.2.2.2.2.2.1 (Int.ofNat n)), (show _ = (0 : Nat) from wf.2.2.2.2.2.2.2.2.2.2.2.2.2.1 0), wpa, (show ∀ n : Nat, _ = n from fun n => wfa.2.2.2.2.2.2.2.2.2.2.2.2.2.1 (Int.ofNat n)), (show _ = (0 : Nat) from wfa.2.2.2.2.2.2.2.2.2.2.2.2.2.1 0), getL, takeL, dropL, TK.isAgg, reduceIte])) | (clear key; show _ ≤ _; exact (by (try simp only [wf, wfa, nc, nc', Int.toNat_natCast, bsz, ByteArray.size_append, List.length_cons, List.length_nil] at *); (try simp (disch := omega) only [w64, w32, wu8] at *); first | done | omega)) | (clear key; show _ < _; exact (by (try simp only [wf, wfa, nc, nc', Int.toNat_natCast, bsz, ByteArray.size_append, List.length_cons, List.length_nil] at *); (try simp (disch := omega) only [w64, w32, wu8] at *); first | done | omega)) | (clear key; show _ = _; exact (by (try simp only [wf, wfa, nc, nc', Int.toNat_natCast, bsz, ByteArray.size_append, List.length_cons, List.length_nil] at *); (try simp (disch := omega) only [w64, w32, wu8] at *); first | done | omega))
            case g =>
              refine hBk ⟨i + 1, j + 1, la2, lb2, k + 1, ext V1 k (V i), ext P1 k q0⟩ _ (by dsimp only; omega) ⟨by dsimp only; omega, by dsimp only; omega, by dsimp only; omega, by dsimp only; rw [lst_ext, i4]; exact j3 la2 ha2 hv lb2 hb2 q0 hq0⟩ ?_
              (cbv; try simp only [wf, wfa, exD, exL, exT, exB, exA, leLs, leL_d, leL_undef, leL_nils, leA_nils, deq_refl, deq_int, deq_bool, deq_str, and_true, true_and, AObj.iter.injEq, nc, nc']; try simp (disch := omega) only [w64, w32, wu8])
              ((try simp only [wf, wfa, nc, nc', Int.toNat_natCast, bsz, ByteArray.size_append, List.length_cons, List.length_nil] at *); (try simp (disch := omega) only [w64, w32, wu8] at *))
              refine ⟨⟨?_, ?_⟩, Nat.le_refl _, Nat.zero_le _, fun x y hx hy => ?_⟩
              · rw [ha2]; exact sa la2
              · rw [hb2]; exact sb lb2
              · rw [vi]
                exact .of_eq (ext_row _ _ _ _ _ x y hx hy)
    · have e9 : lb = 0 := (by (try simp only [wf, wfa, nc, nc', Int.toNat_natCast, bsz, ByteArray.size_append, List.length_cons, List.length_nil] at *); (try simp (disch := omega) only [w64, w32, wu8] at *); first | done | omega)
      (refine Later.mk ?_; cbv; try simp only [wp, (show ∀ n : Nat, _ = n from fun n => wf.2.2.2.2.2.2.2.2.2.2.2.2.2.1 (Int.ofNat n)), (show _ = (0 : Nat) from wf.2.2.2.2.2.2.2.2.2.2.2.2.2.1 0), wpa, (show ∀ n : Nat, _ = n from fun n => wfa.2.2.2.2.2.2.2.2.2.2.2.2.2.1 (Int.ofNat n)), (show _ = (0 : Nat) from wfa.2.2.2.2.2.2.2.2.2.2.2.2.2.1 0), getL, takeL, dropL, TK.isAgg, reduceIte])
      repeat' first | with_reducible refine And.intro ?_ ?_ | intro c9
      all_goals first | exact (by (try simp only [wf, wfa, nc, nc', Int.toNat_natCast, bsz, ByteArray.size_append, List.length_cons, List.length_nil] at *); (try simp (disch := omega) only [w64, w32, wu8] at *); first | done | omega) | trivial | skip
      ((try simp only [wf, wfa, nc, nc', Int.toNat_natCast, bsz, ByteArray.size_append, List.length_cons, List.length_nil] at *); (try simp (disch := omega) only [w64, w32, wu8] at *))
      exact hR k V1 P1 i j la lb _ _ [] (by rw [i4, e9]; simp [lst, joinL_nil]) (by omega) rfl (by rw [hfv, hfp, hgv, hgp])
    · have e9 : la = 0 := (by (try simp only [wf, wfa, nc, nc', Int.toNat_natCast, bsz, ByteArray.size_append, List.length_cons, List.length_nil] at *); (try simp (disch := omega) only [w64, w32, wu8] at *); first | done | omega)
      (refine Later.mk ?_; cbv; try simp only [wp, (show ∀ n : Nat, _ = n from fun n => wf.2.2.2.2.2.2.2.2.2.2.2.2.2.1 (Int.ofNat n)), (show _ = (0 : Nat) from wf.2.2.2.2.2.2.2.2.2.2.2.2.2.1 0), wpa, (show ∀ n : Nat, _ = n from fun n => wfa.2.2.2.2.2.2.2.2.2.2.2.2.2.1 (Int.ofNat n)), (show _ = (0 : Nat) from wfa.2.2.2.2.2.2.2.2.2.2.2.2.2.1 0), getL, takeL, dropL, TK.isAgg, reduceIte])
      repeat' first | with_reducible refine And.intro ?_ ?_ | intro c9
      all_goals first | exact (by (try simp only [wf, wfa, nc, nc', Int.toNat_natCast, bsz, ByteArray.size_append, List.length_cons, List.length_nil] at *); (try simp (disch := omega) only [w64, w32, wu8] at *); first | done | omega) | trivial | skip
      ((try simp only [wf, wfa, nc, nc', Int.toNat_natCast, bsz, ByteArray.size_append, List.length_cons, List.length_nil] at *); (try simp (disch := omega) only [w64, w32, wu8] at *))
      exact hR k V1 P1 i j la lb _ _ [] (by rw [i4, e9]; simp [lst, joinL_nil']) (by omega) rfl (by rw [hfv, hfp, hgv, hgp])
theorem joined (n m : Nat) (V P0 V' P' : Nat → Int) (hn : n < 2 ^ 20) (hm : m < 2 ^ 20) : VCalls (P ()) 86 [.d (.sl n 2 (lvF V P0)), .d (.sl m 2 (lvF V' P')), .clo 87 [] [], .clo 88 [] []] []
    (fun r H => ∃ k V2 P2, lst V2 P2 k = joinL (lst V P0 n) (lst V' P' m) ∧ k ≤ n + m ∧ r = .ref 0 0 k 2 ∧ H = [.arr k 2 (lvF V2 P2) 0]) :=
  (joined0 n m V P0 V' P' hn hm).less fun r H h => by
    obtain ⟨k, V1, P1, i, j, la, lb, K, g, G, h1, h2, rfl, rfl, rfl, rfl⟩ := h
    refine ⟨[.arr (k + la + lb) 2 (lvF (cat3 V1 k V i la V' j) (cat3 P1 k P0 i la P' j)) 0], ⟨⟨_, 0, rfl, Nat.le_refl _, Nat.zero_le _, fun x y hx hy => .of_eq (cat3_app _ _ _ _ _ _ _ _ _ _ x y hy)⟩, trivial⟩, Nat.zero_le _, rfl, rfl, k + la + lb, _, _, ?_, h2, rfl, rfl⟩
    rw [← h1]
    exact cat3_lst _ _ _ _ _ _ _ _ _ _ _
end Go.VM

namespace Go.VM
open Go.Proofs Go
set_option maxRecDepth 100000
set_option linter.unusedVariables false
set_option linter.unusedSimpArgs false
def catF (f : Nat → Int) (n : Nat) (g : Nat → Int) : Nat → Int := fun x => if x < n then f x else g (x - n)
theorem catF_app (V P V' P' : Nat → Int) (n x j : Nat) (hj : j < 2) : appF n (lvF V P) (lvF V' P') x j = lvF (catF V n V') (catF P n P') x j := by
  unfold appF catF
  match j, hj with
  | 0, _ => simp only [lvF]; split <;> rfl
  | 1, _ => simp only [lvF]; split <;> rfl
theorem catF_lst (V P V' P' : Nat → Int) (n m : Nat) : lst (catF V n V') (catF P n P') (n + m) = lst V P n ++ lst V' P' m := by
  rw [lst_add]
  congr 1
  · exact lst_congr fun x hx => ⟨if_pos hx, if_pos hx⟩
  · exact lst_congr fun x hx => ⟨by unfold catF; rw [if_neg (by omega)]; congr 1; omega, by unfold catF; rw [if_neg (by omega)]; congr 1; omega⟩
theorem CanR.of {c : Int} {f g : Int → Option Int} {r : A} (h : CanR c f r) (e : ∀ v, f v = g v) : CanR c g r := by
  obtain ⟨q, h1, h2, h3⟩ := h; exact ⟨q, h1, fun v => (h2 v).trans (e v), h3⟩
end Go.VM

namespace Go.VM
open Go.Proofs Go
set_option maxRecDepth 100000
set_option linter.unusedVariables false
set_option linter.unusedSimpArgs false
/-- two results that are the same -/
def Same2 (r r' : A) : Prop := ∃ c n V P e c' n' V' P', r = .tup [lv c n V P, .d (.int .i64 e)] ∧ r' = .tup [lv c' n' V' P', .d (.int .i64 e)] ∧ n < 2 ^ 61 ∧ n' < 2 ^ 61 ∧ c = c' ∧ lst V P n = lst V' P' n'
theorem LvRes.same {o : Option (Int × List Pt)} {e : Int} {r r' : A} (h : LvRes o e r) (h' : LvRes o e r') : Same2 r r' := by
  obtain ⟨c, n, V, P, e1, rfl, h1, h2, h3⟩ := h
  obtain ⟨c', n', V', P', e1', rfl, h1', h2', h3'⟩ := h'
  cases o with
  | none =>
    obtain ⟨rfl, rfl, rfl⟩ := h2 rfl
    obtain ⟨rfl, rfl, rfl⟩ := h2' rfl
    exact ⟨_, _, _, _, _, _, _, _, _, rfl, rfl, h1, h1', rfl, rfl⟩
  | some x =>
    obtain ⟨rfl, rfl, h4⟩ := h3 x rfl
    obtain ⟨rfl, rfl, h4'⟩ := h3' x rfl
    exact ⟨_, _, _, _, _, _, _, _, _, rfl, rfl, h1, h1', rfl, h4.trans h4'.symm⟩
theorem CanR.same {c : Int} {f : Int → Option Int} {r r' : A} (h : CanR c f r) (h' : CanR c f r') : Same2 r r' := by
  obtain ⟨q, h1, h2, h3⟩ := h
  obtain ⟨q', h1', h2', h3'⟩ := h'
  have e := asc_ext h1 h1' fun v => (h2 v).trans (h2' v).symm
  subst e
  exact h3.same h3'
theorem OpR.same {ok : Prop} {c : Int} {f : Int → Option Int} {r r' : A} (h : OpR ok c f r) (h' : OpR ok c f r') : Same2 r r' := by
  rcases h with ⟨h, h1⟩ | ⟨h, h1⟩ <;> rcases h' with ⟨h', h1'⟩ | ⟨h', h1'⟩
  · exact h1.same h1'
  · exact absurd h' h
  · exact absurd h h'
  · exact h1.same h1'
theorem OpR.form {ok : Prop} {c : Int} {f : Int → Option Int} {r : A} (h : OpR ok c f r) : ∃ c n V P e, r = .tup [lv c n V P, .d (.int .i64 e)] ∧ n < 2 ^ 61 := by
  obtain ⟨c, n, V, P, e, _, _, _, _, h1, _, h2, _⟩ := h.same h
  exact ⟨c, n, V, P, e, h1, h2⟩
theorem OpR.pair {ok : Prop} {c : Int} {f : Int → Option Int} {c1 : Int} {n1 : Nat} {V1 P1 : Nat → Int} {e1 : Int} {r' : A} (h : OpR ok c f (.tup [lv c1 n1 V1 P1, .d (.int .i64 e1)])) (h' : OpR ok c f r') :
    ∃ c2 n2 V2 P2, r' = .tup [lv c2 n2 V2 P2, .d (.int .i64 e1)] ∧ n2 < 2 ^ 61 ∧ e1 = e1 ∧ c1 = c2 ∧ lst V1 P1 n1 = lst V2 P2 n2 := by
  obtain ⟨c, n, V, P, e, c2, n2, V2, P2, h1, rfl, h3, h4, h5, h6⟩ := h.same h'
  simp only [lv, A.tup.injEq, List.cons.injEq, A.agg.injEq, A.d.injEq, D.int.injEq, D.sl.injEq, true_and, and_true] at h1
  obtain ⟨⟨rfl, rfl, hf⟩, rfl⟩ := h1
  refine ⟨c2, n2, V2, P2, rfl, h4, rfl, h5, h6 ▸ lst_congr fun k _ => ⟨?_, ?_⟩⟩
  · have := congrFun (congrFun hf k) 0
    simpa [lvF] using this
  · have := congrFun (congrFun hf k) 1
    simpa [lvF] using this
end Go.VM
