/- Part of the proof: LB5, LB6, LB7, LB8, LB9, LA2. -/
import Derived.Test.YtjfkhhenccochaaDoorGX9
import Derived.Test.YtjfkhhenccochaaDoorGX8
import Derived.Test.YtjfkhhenccochaaDoorGV6
namespace Go.VM
open Go.Proofs Go
set_option maxRecDepth 100000
set_option linter.unusedVariables false
set_option linter.unusedSimpArgs false
theorem mx_map_add (p : Int) (l : List Pt) (v : Int) : mx (l.map fun x => (x.1, x.2 + p)) v = (mx l v).map (· + p) := by
  induction l with
  | nil => rfl
  | cons x l ih =>
    simp only [List.map_cons, mx, ih]
    by_cases h : x.1 = v
    · rw [if_pos h, if_pos h]
      cases mx l v with
      | none => rfl
      | some y => simp only [omax, Option.map_some, Option.some.injEq]; omega
    · rw [if_neg h, if_neg h]
      simp only [omax_none']
theorem lst_add_map (V P0 : Nat → Int) (p : Int) : ∀ n, lst V (fun i => P0 i + p) n = (lst V P0 n).map fun x => (x.1, x.2 + p)
  | 0 => rfl
  | n + 1 => by simp only [lst, List.map_append, lst_add_map V P0 p n, List.map_cons, List.map_nil]
/-- the first i with a number added -/
def addU (P0 : Nat → Int) (p : Int) (i : Nat) : Nat → Int := fun k => if k < i then P0 k + p else P0 k
theorem addU_step (V P0 : Nat → Int) (p : Int) (i : Nat) (x j : Nat) (hj : j < 2) : updF (lvF V (addU P0 p i)) i 1 (.int .i64 (P0 i + p)) x j = lvF V (addU P0 p (i + 1)) x j := by
  match j, hj with
  | 0, _ => simp [updF, lvF]
  | 1, _ =>
    simp only [updF, lvF, addU]
    by_cases h : x = i
    · subst h; simp
    · simp only [h, false_and, if_false]
      by_cases h2 : x < i
      · rw [if_pos h2, if_pos (by omega)]
      · rw [if_neg h2, if_neg (by omega)]
theorem addU_at (P0 : Nat → Int) (p : Int) (i : Nat) : addU P0 p i i = P0 i := if_neg (Nat.lt_irrefl _)
theorem plus (c : Int) (n : Nat) (V P0 : Nat → Int) (p : Int) (v : ValidP c n V P0) (hp : 0 ≤ p ∧ p ≤ 100000) : VFun (P ()) 40 [lv c n V P0, .d (.int .i64 p)] (CanR (c + p) (mx (lst V (fun i => P0 i + p) n))) := by
  refine vfunO (Tf := @T) @tabOk [] 400 Tryd.func40 rfl (fun {_} => by kernel_rfl) rfl (Nat.le_of_ble_eq_true rfl) @fun ⟨_, _, _, _, _, _, _, _, _, _, _, _, _, _, _, _, _, _, _, _, _, _, _, _, _, _, _, _, _, _, _, _, _, _, _, _, _, _, wp, wf⟩ R hR => ?_
  cbv
  try simp only [wp, (show ∀ n : Nat, _ = n from fun n => wf.2.2.2.2.2.2.2.2.2.2.2.2.2.1 (Int.ofNat n)), getL, takeL, dropL, TK.isAgg, reduceIte]
  have h8 := v.2.2.1
  have c0 := v.1
  have c1 := v.2.1
  refine CallW.within (SortedO n V P0 v.2.2.1) [] rfl trivial rfl ?_
  rintro _ _ ⟨V', P', h1, h2, rfl, rfl⟩
  refine ⟨[_], [], rfl, Nat.zero_le _, ⟨Nat.zero_le _, trivial⟩, rfl, ?_⟩
  have hb : ∀ i, i < n → 0 ≤ P' i ∧ P' i ≤ 1000 := fun i hi => by
    obtain ⟨j, hj, e⟩ := lst_mem.1 (h1.mem_iff.1 (lst_mem.2 ⟨i, hi, rfl⟩))
    obtain ⟨p1, p2, p3, p4, _⟩ := v.2.2.2 j hj
    have e2 : P' i = P0 j := congrArg Prod.snd e
    omega
  (cbv; try simp only [wp, (show ∀ n : Nat, _ = n from fun n => wf.2.2.2.2.2.2.2.2.2.2.2.2.2.1 (Int.ofNat n)), (show _ = (0 : Nat) from wf.2.2.2.2.2.2.2.2.2.2.2.2.2.1 0), getL, takeL, dropL, TK.isAgg, reduceIte])
  refine loopO (Tf := @T) @tabOk [] 400 (fun i : Nat => ⟨[.undef, .d (.int .i64 p), .ptr 0 0, .undef, .ptr 1 0, .undef, .ref 2 0 n 2, .undef, .undef, .undef, .undef, .undef, .d (.int .i64 n), .d (.int .i64 i), .undef, .undef, .undef, .undef, .undef, .undef, .undef, .undef, .undef, .undef, .undef, .undef, .undef, .undef, .undef, .undef, .undef, .undef, .undef, .undef], [.box [.d (.int .i64 c), .d (.sl n 2 (lvF V P0))], .box [.d (.int .i64 0), .d (.sl 0 2 (lvF V P0))], .arr n 2 (lvF V' (addU P' p i)) 0]⟩) (fun i => n - i) (fun i => i ≤ n) 0 (Nat.zero_le _) (fun {_} => by kernel_rfl) ?_ (fun i => by kernel_rfl) @fun ⟨_, _, _, _, _, _, _, _, _, _, _, _, _, _, _, _, _, _, _, _, _, _, _, _, _, _, _, _, _, _, _, _, _, _, _, _, _, _, wpa, wfa⟩ i Bk hi hBk => ?_
  · (cbv; try simp only [wf, exD, exL, exT, exB, exA, leLs, leL_d, leL_undef, leL_nils, leA_nils, deq_refl, deq_int, deq_bool, deq_str, and_true, true_and, AObj.iter.injEq, nc, nc']; try simp (disch := omega) only [w64, w32, wu8])
    exact ⟨rfl, Nat.le_refl _, Nat.zero_le _, fun x j hx hj => .of_eq (by match j, hj with | 0, _ => rfl | 1, _ => simp [lvF, addU])⟩
  have hA := addU_at P' p i
  obtain ⟨pi, hpi⟩ : ∃ pi, pi = addU P' p := ⟨_, rfl⟩
  rw [← hpi] at hA
  rw [← hpi] at hBk ⊢
  (cbv; try simp only [wp, (show ∀ n : Nat, _ = n from fun n => wf.2.2.2.2.2.2.2.2.2.2.2.2.2.1 (Int.ofNat n)), (show _ = (0 : Nat) from wf.2.2.2.2.2.2.2.2.2.2.2.2.2.1 0), wpa, (show ∀ n : Nat, _ = n from fun n => wfa.2.2.2.2.2.2.2.2.2.2.2.2.2.1 (Int.ofNat n)), (show _ = (0 : Nat) from wfa.2.2.2.2.2.2.2.2.2.2.2.2.2.1 0), getL, takeL, dropL, TK.isAgg, reduceIte])
  refine ⟨fun e => ?_, fun e => ?_⟩
  · have e : i < n := (by (try simp only [wf, wfa, nc, nc', Int.toNat_natCast, bsz, ByteArray.size_append, List.length_cons, List.length_nil] at *); (try simp (disch := omega) only [w64, w32, wu8] at *); first | done | omega)
    have := hb i e
    (refine Later.mk ?_; cbv; try simp only [wp, (show ∀ n : Nat, _ = n from fun n => wf.2.2.2.2.2.2.2.2.2.2.2.2.2.1 (Int.ofNat n)), (show _ = (0 : Nat) from wf.2.2.2.2.2.2.2.2.2.2.2.2.2.1 0), wpa, (show ∀ n : Nat, _ = n from fun n => wfa.2.2.2.2.2.2.2.2.2.2.2.2.2.1 (Int.ofNat n)), (show _ = (0 : Nat) from wfa.2.2.2.2.2.2.2.2.2.2.2.2.2.1 0), getL, takeL, dropL, TK.isAgg, reduceIte])
    repeat' first | with_reducible refine And.intro ?_ ?_ | intro c9
    all_goals first | exact (by (try simp only [wf, wfa, nc, nc', Int.toNat_natCast, bsz, ByteArray.size_append, List.length_cons, List.length_nil] at *); (try simp (disch := omega) only [w64, w32, wu8] at *); first | done | omega) | trivial | skip
    refine hBk (i + 1) _ (by omega) (by omega) ?_
    (cbv; try simp only [wf, wfa, exD, exL, exT, exB, exA, leLs, leL_d, leL_undef, leL_nils, leA_nils, deq_refl, deq_int, deq_bool, deq_str, and_true, true_and, AObj.iter.injEq, nc, nc']; try simp (disch := omega) only [w64, w32, wu8])
    ((try simp only [wf, wfa, nc, nc', Int.toNat_natCast, bsz, ByteArray.size_append, List.length_cons, List.length_nil] at *); (try simp (disch := omega) only [w64, w32, wu8] at *))
    rw [hA]
    exact ⟨by omega, Nat.le_refl _, Nat.zero_le _, fun x j hx hj => .of_eq (by rw [hpi]; exact addU_step V' P' p i x j hj)⟩
  · obtain rfl : i = n := (by (try simp only [wf, wfa, nc, nc', Int.toNat_natCast, bsz, ByteArray.size_append, List.length_cons, List.length_nil] at *); (try simp (disch := omega) only [w64, w32, wu8] at *); first | done | omega)
    (refine Later.mk ?_; cbv; try simp only [wp, (show ∀ n : Nat, _ = n from fun n => wf.2.2.2.2.2.2.2.2.2.2.2.2.2.1 (Int.ofNat n)), (show _ = (0 : Nat) from wf.2.2.2.2.2.2.2.2.2.2.2.2.2.1 0), wpa, (show ∀ n : Nat, _ = n from fun n => wfa.2.2.2.2.2.2.2.2.2.2.2.2.2.1 (Int.ofNat n)), (show _ = (0 : Nat) from wfa.2.2.2.2.2.2.2.2.2.2.2.2.2.1 0), getL, takeL, dropL, TK.isAgg, reduceIte])
    repeat' first | trivial | with_reducible refine And.intro ?_ ?_ | intro c9
    (refine CallW.frz @fun ⟨_, _, _, _, _, _, _, _, _, _, _, _, _, _, _, _, _, _, _, _, _, _, _, _, _, _, _, _, _, _, _, _, _, _, _, _, _, _, wpz, wfz⟩ => ?_; cbv; try simp only [wpz, wp, (show ∀ n : Nat, _ = n from fun n => wfz.2.2.2.2.2.2.2.2.2.2.2.2.2.1 (Int.ofNat n)), getL, takeL, dropL, TK.isAgg, reduceIte])
    repeat' first | trivial | with_reducible refine And.intro ?_ ?_ | intro c9
    have el : lst V' (pi i) i = lst V' (fun k => P' k + p) i := lst_congr fun k hk => ⟨rfl, by rw [hpi]; exact if_pos hk⟩
    refine CallW.args (args' := [.d (.int .i64 (c + p)), .d (.sl i 2 (lvF V' (pi i)))]) (fun {_ _} => ⟨(Deq.of_eq (congrArg (D.int .i64) (by (try simp only [wf, wfa, nc, nc', Int.toNat_natCast, bsz, ByteArray.size_append, List.length_cons, List.length_nil] at *); (try simp (disch := omega) only [w64, w32, wu8] at *); first | done | omega))), .refl _, trivial⟩) ((canonical (c + p) i V' (pi i) (by omega)).call ?_)
    intro r hr
    have ⟨c2, n2, V2, P2, e2, e3, _⟩ := hr
    subst e3
    (cbv; try simp only [wp, (show ∀ n : Nat, _ = n from fun n => wf.2.2.2.2.2.2.2.2.2.2.2.2.2.1 (Int.ofNat n)), (show _ = (0 : Nat) from wf.2.2.2.2.2.2.2.2.2.2.2.2.2.1 0), wpa, (show ∀ n : Nat, _ = n from fun n => wfa.2.2.2.2.2.2.2.2.2.2.2.2.2.1 (Int.ofNat n)), (show _ = (0 : Nat) from wfa.2.2.2.2.2.2.2.2.2.2.2.2.2.1 0), getL, takeL, dropL, TK.isAgg, reduceIte])
    refine hR _ _ _ (hr.frz _) ⟨_, ?_, fun v => ?_, hr⟩
    · rw [el]
      have ha := sorted_asc h1 (fun i k a b => (v.2.2.2 i b).2.2.2.2 k a) h2
      exact lst_asc fun k l h3 h4 => asc_dist ha k l h3 h4
    · rw [el, lst_add_map, lst_add_map]
      exact mx_perm (h1.map _) v
theorem Suc (c : Int) (n : Nat) (V P0 : Nat → Int) (hn : n < 2 ^ 63) : VFun (P ()) 21 [lv c n V P0] (OpR (ValidP c n V P0) (c + 1) (mx (lst V (fun i => P0 i + 1) n))) := by
  refine vfunO (Tf := @T) @tabOk [] 400 Tryd.func21 rfl (fun {_} => by kernel_rfl) rfl (Nat.le_of_ble_eq_true rfl) @fun ⟨_, _, _, _, _, _, _, _, _, _, _, _, _, _, _, _, _, _, _, _, _, _, _, _, _, _, _, _, _, _, _, _, _, _, _, _, _, _, wp, wf⟩ R hR => ?_
  cbv
  try simp only [wp, (show ∀ n : Nat, _ = n from fun n => wf.2.2.2.2.2.2.2.2.2.2.2.2.2.1 (Int.ofNat n)), getL, takeL, dropL, TK.isAgg, reduceIte]
  refine (Valid c n V P0 hn).call ?_
  rintro _ ⟨b, hb, rfl⟩
  rcases hb.dich with ⟨rfl, v⟩ | ⟨rfl, v⟩ <;> clear hb <;> (cbv; try simp only [wp, (show ∀ n : Nat, _ = n from fun n => wf.2.2.2.2.2.2.2.2.2.2.2.2.2.1 (Int.ofNat n)), (show _ = (0 : Nat) from wf.2.2.2.2.2.2.2.2.2.2.2.2.2.1 0), getL, takeL, dropL, TK.isAgg, reduceIte]) <;> (refine Later.mk ?_; cbv; try simp only [wp, (show ∀ n : Nat, _ = n from fun n => wf.2.2.2.2.2.2.2.2.2.2.2.2.2.1 (Int.ofNat n)), (show _ = (0 : Nat) from wf.2.2.2.2.2.2.2.2.2.2.2.2.2.1 0), getL, takeL, dropL, TK.isAgg, reduceIte])
  · refine (plus c n V P0 1 v (by decide)).call ?_
    intro r hr
    have ⟨q, _, _, c2, n2, V2, P2, e2, e3, _⟩ := hr
    subst e3
    (cbv; try simp only [wp, (show ∀ n : Nat, _ = n from fun n => wf.2.2.2.2.2.2.2.2.2.2.2.2.2.1 (Int.ofNat n)), (show _ = (0 : Nat) from wf.2.2.2.2.2.2.2.2.2.2.2.2.2.1 0), getL, takeL, dropL, TK.isAgg, reduceIte])
    repeat' first | trivial | with_reducible refine And.intro ?_ ?_ | intro c9
    all_goals exact hR _ _ _ (hr.frz _) (.inr ⟨v, hr⟩)
  · exact hR _ _ _ (frz_err 4 _) (.inl ⟨v, .err 4⟩)
structure Jy where
  a : Nat
  b : Nat
  la : Nat
  lb : Nat
  m : Nat
  V : Nat → Int
  P : Nat → Int
/-- a list of parts from a place on -/
def frm (f : Nat → Int) (i : Nat) : Nat → Int := fun k => f (i + k)
theorem frm_zero (f : Nat → Int) : frm f 0 = f := by funext k; simp [frm]
theorem frm_at (f : Nat → Int) (i : Nat) : frm f i 0 = f i := rfl
theorem lst_frm (V P : Nat → Int) (i l : Nat) : lst (frm V i) (frm P i) (l + 1) = (V i, P i) :: lst (frm V (i + 1)) (frm P (i + 1)) l := by
  rw [lst_cons]
  congr 1
  exact lst_congr fun k _ => ⟨by unfold frm; rw [show i + 1 + k = i + (k + 1) by omega], by unfold frm; rw [show i + 1 + k = i + (k + 1) by omega]⟩
theorem sl_sh (V P : Nat → Int) (l i : Nat) : Deq (.sl l 2 (shF (lvF (frm V i) (frm P i)) 1)) (.sl l 2 (lvF (frm V (i + 1)) (frm P (i + 1)))) := by
  refine .sl _ _ _ _ fun x j hx hj => .of_eq ?_
  match j, hj with
  | 0, _ => show D.int .i64 (V (i + (1 + x))) = D.int .i64 (V (i + 1 + x)); rw [Nat.add_assoc]
  | 1, _ => show D.int .i64 (P (i + (1 + x))) = D.int .i64 (P (i + 1 + x)); rw [Nat.add_assoc]
def cat3 (f : Nat → Int) (k : Nat) (g : Nat → Int) (i la : Nat) (h : Nat → Int) (j : Nat) : Nat → Int := fun x => if x < k + la then (if x < k then f x else frm g i (x - k)) else frm h j (x - (k + la))
theorem cat3_app (V1 P1 V P0 V' P' : Nat → Int) (k i la j x y : Nat) (hy : y < 2) : appF (k + la) (appF k (lvF V1 P1) (lvF (frm V i) (frm P0 i))) (lvF (frm V' j) (frm P' j)) x y = lvF (cat3 V1 k V i la V' j) (cat3 P1 k P0 i la P' j) x y := by
  unfold appF cat3
  match y, hy with
  | 0, _ =>
    simp only [lvF]
    split
    · split <;> rfl
    · rfl
  | 1, _ =>
    simp only [lvF]
    split
    · split <;> rfl
    · rfl
theorem cat3_lst (V1 P1 V P0 V' P' : Nat → Int) (k i la j lb : Nat) : lst (cat3 V1 k V i la V' j) (cat3 P1 k P0 i la P' j) (k + la + lb) = lst V1 P1 k ++ lst (frm V i) (frm P0 i) la ++ lst (frm V' j) (frm P' j) lb := by
  rw [lst_add, lst_add]
  congr 1
  · congr 1
    · exact lst_congr fun x hx => ⟨by unfold cat3; rw [if_pos (by omega), if_pos hx], by unfold cat3; rw [if_pos (by omega), if_pos hx]⟩
    · exact lst_congr fun x hx => ⟨by unfold cat3; rw [if_pos (by omega), if_neg (by omega)]; congr 1; omega, by unfold cat3; rw [if_pos (by omega), if_neg (by omega)]; congr 1; omega⟩
  · exact lst_congr fun x hx => ⟨by unfold cat3; rw [if_neg (by omega)]; congr 1; omega, by unfold cat3; rw [if_neg (by omega)]; congr 1; omega⟩
set_option maxHeartbeats 4000000 in
theorem joined0 (n m : Nat) (V P0 V' P' : Nat → Int) (hn : n < 2 ^ 20) (hm : m < 2 ^ 20) : VCalls (P ()) 45 [.d (.sl n 2 (lvF V P0)), .d (.sl m 2 (lvF V' P')), .clo 47 [] [], .clo 48 [] []] []
    (fun r H => ∃ k V1 P1 i j la lb K g G, lst V1 P1 k ++ lst (frm V i) (frm P0 i) la ++ lst (frm V' j) (frm P' j) lb = joinL (lst V P0 n) (lst V' P' m) ∧ k + la + lb ≤ n + m ∧ K = k + la + lb ∧
      g = appF (k + la) (appF k (lvF V1 P1) (lvF (frm V i) (frm P0 i))) (lvF (frm V' j) (frm P' j)) ∧ r = .ref 0 0 K 2 ∧ H = [.arr K 2 g 0] ++ G) := by
  refine VCalls_of_Wo (Tf := @T) @tabOk [] 400 Tryd.func45 rfl (fun {_} => by kernel_rfl) (Nat.le_of_ble_eq_true rfl) @fun ⟨_, _, _, _, _, _, _, _, _, _, _, _, _, _, _, _, _, _, _, _, _, _, _, _, _, _, _, _, _, _, _, _, _, _, _, _, _, _, wp, wf⟩ nH R hnH hR => ?_
  subst hnH
  cbv
  try simp only [wp, (show ∀ n : Nat, _ = n from fun n => wf.2.2.2.2.2.2.2.2.2.2.2.2.2.1 (Int.ofNat n)), getL, takeL, dropL, TK.isAgg, reduceIte]
  replace hR := fun k V1 P1 i j la lb K g G h1 h2 h3 h4 => hR (.ref 0 0 K 2) _ ⟨k, V1, P1, i, j, la, lb, K, g, G, h1, h2, h3, h4, rfl, rfl⟩
  repeat' first | with_reducible refine And.intro ?_ ?_ | intro c9
  all_goals first | exact (by (try simp only [wf, nc, nc', Int.toNat_natCast, bsz, ByteArray.size_append, List.length_cons, List.length_nil] at *); (try simp (disch := omega) only [w64, w32, wu8] at *); first | done | omega) | trivial | skip
  all_goals
    refine loopO (Tf := @T) @tabOk [] 400 (fun y : Jy => ⟨[.d (.sl y.la 2 (lvF (frm V y.a) (frm P0 y.a))), .d (.sl y.lb 2 (lvF (frm V' y.b) (frm P' y.b))), .clo 47 [] [], .clo 48 [] [], .undef, .undef, .undef, .undef, .undef, .ref 0 0 y.m 2, .undef, .undef, .undef, .undef, .undef, .undef, .undef, .undef, .undef, .undef, .undef, .undef, .undef, .undef, .undef, .undef, .undef, .undef, .undef, .undef, .undef, .undef, .undef, .undef, .undef, .undef, .undef, .undef, .undef, .undef, .undef, .undef, .undef, .undef, .undef, .undef, .undef, .undef, .undef, .undef, .undef, .undef, .undef, .undef, .undef, .undef, .undef, .undef, .undef, .undef, .undef, .undef, .undef, .undef, .undef, .undef, .undef, .undef, .undef, .undef, .undef, .undef, .undef, .undef, .undef, .undef, .undef, .undef], [.arr y.m 2 (lvF y.V y.P) 0]⟩) (fun y => y.la + y.lb) (fun y => y.a + y.la = n ∧ y.b + y.lb = m ∧ y.m ≤ y.a + y.b ∧ joinL (lst V P0 n) (lst V' P' m) = lst y.V y.P y.m ++ joinL (lst (frm V y.a) (frm P0 y.a) y.la) (lst (frm V' y.b) (frm P' y.b) y.lb)) ⟨0, 0, n, m, 0, V, P0⟩ ⟨Nat.zero_add _, Nat.zero_add _, Nat.zero_le _, ?_⟩ (fun {_} => by kernel_rfl) ?_ (fun i => by kernel_rfl) @fun ⟨_, _, _, _, _, _, _, _, _, _, _, _, _, _, _, _, _, _, _, _, _, _, _, _, _, _, _, _, _, _, _, _, _, _, _, _, _, _, wpa, wfa⟩ ⟨i, j, la, lb, k, V1, P1⟩ Bk hi hBk => ?_
    · simp only [frm_zero]; rfl
    · (cbv; try simp only [wf, exD, exL, exT, exB, exA, leLs, leL_d, leL_undef, leL_nils, leA_nils, deq_refl, deq_int, deq_bool, deq_str, and_true, true_and, AObj.iter.injEq, nc, nc']; try simp (disch := omega) only [w64, w32, wu8])
      simp only [frm_zero]
      exact ⟨⟨.refl _, .refl _, rfl⟩, rfl, Nat.le_refl _, Nat.le_refl _, fun i j hi => absurd hi (Nat.not_lt_zero _)⟩
    obtain ⟨i1, i2, i3, i4⟩ := hi
    dsimp only at i1 i2 i3 i4
    have sa := fun l => sl_sh V P0 l i
    have sb := fun l => sl_sh V' P' l j
    obtain ⟨fv, hfv⟩ : ∃ fv, fv = frm V i := ⟨_, rfl⟩
    obtain ⟨fp, hfp⟩ : ∃ fp, fp = frm P0 i := ⟨_, rfl⟩
    obtain ⟨gv, hgv⟩ : ∃ gv, gv = frm V' j := ⟨_, rfl⟩
    obtain ⟨gp, hgp⟩ : ∃ gp, gp = frm P' j := ⟨_, rfl⟩
    have vi : fv 0 = V i := by rw [hfv]; rfl
    have pi : fp 0 = P0 i := by rw [hfp]; rfl
    have vj : gv 0 = V' j := by rw [hgv]; rfl
    have pj : gp 0 = P' j := by rw [hgp]; rfl
    rw [← hfv, ← hfp] at sa
    rw [← hgv, ← hgp] at sb
    have j1 : ∀ la2, la = la2 + 1 → V i < V' j → ∀ lb2, lb = lb2 + 1 → lst V1 P1 k ++ joinL (lst (frm V i) (frm P0 i) la) (lst (frm V' j) (frm P' j) lb) = lst V1 P1 k ++ [(V i, P0 i)] ++ joinL (lst (frm V (i + 1)) (frm P0 (i + 1)) la2) (lst (frm V' j) (frm P' j) lb) := fun la2 h1 h lb2 h2 => by
      rw [h1, h2, lst_frm, lst_frm V', joinL_cons, if_pos h, List.append_assoc]; rfl
    have j2 : ∀ la2, la = la2 + 1 → V' j < V i → ∀ lb2, lb = lb2 + 1 → lst V1 P1 k ++ joinL (lst (frm V i) (frm P0 i) la) (lst (frm V' j) (frm P' j) lb) = lst V1 P1 k ++ [(V' j, P' j)] ++ joinL (lst (frm V i) (frm P0 i) la) (lst (frm V' (j + 1)) (frm P' (j + 1)) lb2) := fun la2 h1 h lb2 h2 => by
      rw [h1, h2, lst_frm, lst_frm V', joinL_cons, if_neg (by dsimp only; omega), if_pos h, List.append_assoc]; rfl
    have j3 : ∀ la2, la = la2 + 1 → V i = V' j → ∀ lb2, lb = lb2 + 1 → ∀ q, q = max (P0 i) (P' j) → lst V1 P1 k ++ joinL (lst (frm V i) (frm P0 i) la) (lst (frm V' j) (frm P' j) lb) = lst V1 P1 k ++ [(V i, q)] ++ joinL (lst (frm V (i + 1)) (frm P0 (i + 1)) la2) (lst (frm V' (j + 1)) (frm P' (j + 1)) lb2) := fun la2 h1 h lb2 h2 q hq => by
      rw [h1, h2, lst_frm, lst_frm V', joinL_cons, if_neg (by dsimp only; omega), if_neg (by dsimp only; omega), List.append_assoc, hq]; rfl
    rw [← hfv, ← hfp, ← hgv, ← hgp]
    (cbv; try simp only [wp, (show ∀ n : Nat, _ = n from fun n => wf.2.2.2.2.2.2.2.2.2.2.2.2.2.1 (Int.ofNat n)), (show _ = (0 : Nat) from wf.2.2.2.2.2.2.2.2.2.2.2.2.2.1 0), wpa, (show ∀ n : Nat, _ = n from fun n => wfa.2.2.2.2.2.2.2.2.2.2.2.2.2.1 (Int.ofNat n)), (show _ = (0 : Nat) from wfa.2.2.2.2.2.2.2.2.2.2.2.2.2.1 0), getL, takeL, dropL, TK.isAgg, reduceIte])
    repeat' first | with_reducible refine And.intro ?_ ?_ | intro c9
    all_goals first | exact (by (try simp only [wf, wfa, nc, nc', Int.toNat_natCast, bsz, ByteArray.size_append, List.length_cons, List.length_nil] at *); (try simp (disch := omega) only [w64, w32, wu8] at *); first | done | omega) | trivial | skip
    · (refine Later.mk ?_; cbv; try simp only [wp, (show ∀ n : Nat, _ = n from fun n => wf.2.2.2.2.2.2.2.2.2.2.2.2.2.1 (Int.ofNat n)), (show _ = (0 : Nat) from wf.2.2.2.2.2.2.2.2.2.2.2.2.2.1 0), wpa, (show ∀ n : Nat, _ = n from fun n => wfa.2.2.2.2.2.2.2.2.2.2.2.2.2.1 (Int.ofNat n)), (show _ = (0 : Nat) from wfa.2.2.2.2.2.2.2.2.2.2.2.2.2.1 0), getL, takeL, dropL, TK.isAgg, reduceIte])
      repeat' first | with_reducible refine And.intro ?_ ?_ | intro c9
      all_goals first | exact (by (try simp only [wf, wfa, nc, nc', Int.toNat_natCast, bsz, ByteArray.size_append, List.length_cons, List.length_nil] at *); (try simp (disch := omega) only [w64, w32, wu8] at *); first | done | omega) | trivial | skip
      all_goals
        have hla : 0 < la := (by (try simp only [wf, wfa, nc, nc', Int.toNat_natCast, bsz, ByteArray.size_append, List.length_cons, List.length_nil] at *); (try simp (disch := omega) only [w64, w32, wu8] at *); first | done | omega)
        have hlb : 0 < lb := (by (try simp only [wf, wfa, nc, nc', Int.toNat_natCast, bsz, ByteArray.size_append, List.length_cons, List.length_nil] at *); (try simp (disch := omega) only [w64, w32, wu8] at *); first | done | omega)
        obtain ⟨la2, ha2⟩ : ∃ la2, la = la2 + 1 := ⟨la - 1, by omega⟩
        obtain ⟨lb2, hb2⟩ : ∃ lb2, lb = lb2 + 1 := ⟨lb - 1, by omega⟩
      all_goals
        obtain ⟨q0, hq0⟩ : ∃ q0, q0 = max (P0 i) (P' j) := ⟨_, rfl⟩
        refine (variable1 _ _).call ?_
        rintro _ rfl
        (cbv; try simp only [wp, (show ∀ n : Nat, _ = n from fun n => wf.2.2.2.2.2.2.2.2.2.2.2.2.2.1 (Int.ofNat n)), (show _ = (0 : Nat) from wf.2.2.2.2.2.2.2.2.2.2.2.2.2.1 0), wpa, (show ∀ n : Nat, _ = n from fun n => wfa.2.2.2.2.2.2.2.2.2.2.2.2.2.1 (Int.ofNat n)), (show _ = (0 : Nat) from wfa.2.2.2.2.2.2.2.2.2.2.2.2.2.1 0), getL, takeL, dropL, TK.isAgg, reduceIte])
        repeat' first | trivial | with_reducible refine And.intro ?_ ?_ | intro c9
      all_goals
        refine (variable1 _ _).call ?_
        rintro _ rfl
        (cbv; try simp only [wp, (show ∀ n : Nat, _ = n from fun n => wf.2.2.2.2.2.2.2.2.2.2.2.2.2.1 (Int.ofNat n)), (show _ = (0 : Nat) from wf.2.2.2.2.2.2.2.2.2.2.2.2.2.1 0), wpa, (show ∀ n : Nat, _ = n from fun n => wfa.2.2.2.2.2.2.2.2.2.2.2.2.2.1 (Int.ofNat n)), (show _ = (0 : Nat) from wfa.2.2.2.2.2.2.2.2.2.2.2.2.2.1 0), getL, takeL, dropL, TK.isAgg, reduceIte])
        repeat' first | trivial | with_reducible refine And.intro ?_ ?_ | intro c9
      all_goals
        refine (Compare _ _).call ?_
        rintro _ ⟨z, hz, rfl⟩
        rw [vi, vj] at hz
        (cbv; try simp only [wp, (show ∀ n : Nat, _ = n from fun n => wf.2.2.2.2.2.2.2.2.2.2.2.2.2.1 (Int.ofNat n)), (show _ = (0 : Nat) from wf.2.2.2.2.2.2.2.2.2.2.2.2.2.1 0), wpa, (show ∀ n : Nat, _ = n from fun n => wfa.2.2.2.2.2.2.2.2.2.2.2.2.2.1 (Int.ofNat n)), (show _ = (0 : Nat) from wfa.2.2.2.2.2.2.2.2.2.2.2.2.2.1 0), getL, takeL, dropL, TK.isAgg, reduceIte])
        refine ⟨fun c9 => ?_, fun c9 => ?_⟩
        · have hv : V i < V' j := by
            rw [hz] at c9
            split at c9
            · assumption
            · split at c9 <;> omega
          (refine Later.mk ?_; cbv; try simp only [wp, (show ∀ n : Nat, _ = n from fun n => wf.2.2.2.2.2.2.2.2.2.2.2.2.2.1 (Int.ofNat n)), (show _ = (0 : Nat) from wf.2.2.2.2.2.2.2.2.2.2.2.2.2.1 0), wpa, (show ∀ n : Nat, _ = n from fun n => wfa.2.2.2.2.2.2.2.2.2.2.2.2.2.1 (Int.ofNat n)), (show _ = (0 : Nat) from wfa.2.2.2.2.2.2.2.2.2.2.2.2.2.1 0), getL, takeL, dropL, TK.isAgg, reduceIte])
          apply both
          case h =>
              intro key
              repeat' first | (clear key; trivial) | with_reducible refine And.intro ?_ ?_ | (show Bk _; exact key) | (clear key; show _ ≤ _; exact (by (try simp only [wf, wfa, nc, nc', Int.toNat_natCast, bsz, ByteArray.size_append, List.length_cons, List.length_nil] at *); (try simp (disch := omega) only [w64, w32, wu8] at *); first | done | omega)) | (clear key; show _ < _; exact (by (try simp only [wf, wfa, nc, nc', Int.toNat_natCast, bsz, ByteArray.size_append, List.length_cons, List.length_nil] at *); (try simp (disch := omega) only [w64, w32, wu8] at *); first | done | omega)) | (clear key; show _ = _; exact (by (try simp only [wf, wfa, nc, nc', Int.toNat_natCast, bsz, ByteArray.size_append, List.length_cons, List.length_nil] at *); (try simp (disch := omega) only [w64, w32, wu8] at *); first | done | omega))
          case g =>
              refine hBk ⟨i + 1, j, la2, lb, k + 1, ext V1 k (V i), ext P1 k (P0 i)⟩ _ (by dsimp only; omega) ⟨by dsimp only; omega, by dsimp only; omega, by dsimp only; omega, by dsimp only; rw [lst_ext, i4]; exact j1 la2 ha2 hv lb2 hb2⟩ ?_
              (cbv; try simp only [wf, wfa, exD, exL, exT, exB, exA, leLs, leL_d, leL_undef, leL_nils, leA_nils, deq_refl, deq_int, deq_bool, deq_str, and_true, true_and, AObj.iter.injEq, nc, nc']; try simp (disch := omega) only [w64, w32, wu8])
              ((try simp only [wf, wfa, nc, nc', Int.toNat_natCast, bsz, ByteArray.size_append, List.length_cons, List.length_nil] at *); (try simp (disch := omega) only [w64, w32, wu8] at *))
              refine ⟨⟨?_, ?_⟩, Nat.le_refl _, Nat.zero_le _, fun x y hx hy => ?_⟩
              · rw [ha2]; exact sa la2
              · rw [hgv, hgp]; exact .refl _
              · rw [vi, pi]
                exact .of_eq (ext_row _ _ _ _ _ x y hx hy)
        · (refine Later.mk ?_; cbv; try simp only [wp, (show ∀ n : Nat, _ = n from fun n => wf.2.2.2.2.2.2.2.2.2.2.2.2.2.1 (Int.ofNat n)), (show _ = (0 : Nat) from wf.2.2.2.2.2.2.2.2.2.2.2.2.2.1 0), wpa, (show ∀ n : Nat, _ = n from fun n => wfa.2.2.2.2.2.2.2.2.2.2.2.2.2.1 (Int.ofNat n)), (show _ = (0 : Nat) from wfa.2.2.2.2.2.2.2.2.2.2.2.2.2.1 0), getL, takeL, dropL, TK.isAgg, reduceIte])
          refine ⟨fun c9 => ?_, fun c9 => ?_⟩
          · have hv : V' j < V i := by
              rw [hz] at c9
              split at c9
              · omega
              · split at c9
                · assumption
                · omega
            (refine Later.mk ?_; cbv; try simp only [wp, (show ∀ n : Nat, _ = n from fun n => wf.2.2.2.2.2.2.2.2.2.2.2.2.2.1 (Int.ofNat n)), (show _ = (0 : Nat) from wf.2.2.2.2.2.2.2.2.2.2.2.2.2.1 0), wpa, (show ∀ n : Nat, _ = n from fun n => wfa.2.2.2.2.2.2.2.2.2.2.2.2.2.1 (Int.ofNat n)), (show _ = (0 : Nat) from wfa.2.2.2.2.2.2.2.2.2.2.2.2.2.1 0), getL, takeL, dropL, TK.isAgg, reduceIte])
            apply both
            case h =>
              intro key
              repeat' first | (clear key; trivial) | with_reducible refine And.intro ?_ ?_ | (show Bk _; exact key) | (clear key; show _ ≤ _; exact (by (try simp only [wf, wfa, nc, nc', Int.toNat_natCast, bsz, ByteArray.size_append, List.length_cons, List.length_nil] at *); (try simp (disch := omega) only [w64, w32, wu8] at *); first | done | omega)) | (clear key; show _ < _; exact (by (try simp only [wf, wfa, nc, nc', Int.toNat_natCast, bsz, ByteArray.size_append, List.length_cons, List.length_nil] at *); (try simp (disch := omega) only [w64, w32, wu8] at *); first | done | omega)) | (clear key; show _ = _; exact (by (try simp only [wf, wfa, nc, nc', Int.toNat_natCast, bsz, ByteArray.size_append, List.length_cons, List.length_nil] at *); (try simp (disch := omega) only [w64, w32, wu8] at *); first | done | omega))
            case g =>
              refine hBk ⟨i, j + 1, la, lb2, k + 1, ext V1 k (V' j), ext P1 k (P' j)⟩ _ (by dsimp only; omega) ⟨by dsimp only; omega, by dsimp only; omega, by dsimp only; omega, by dsimp only; rw [lst_ext, i4]; exact j2 la2 ha2 hv lb2 hb2⟩ ?_
              (cbv; try simp only [wf, wfa, exD, exL, exT, exB, exA, leLs, leL_d, leL_undef, leL_nils, leA_nils, deq_refl, deq_int, deq_bool, deq_str, and_true, true_and, AObj.iter.injEq, nc, nc']; try simp (disch := omega) only [w64, w32, wu8])
              ((try simp only [wf, wfa, nc, nc', Int.toNat_natCast, bsz, ByteArray.size_append, List.length_cons, List.length_nil] at *); (try simp (disch := omega) only [w64, w32, wu8] at *))
              refine ⟨⟨?_, ?_⟩, Nat.le_refl _, Nat.zero_le _, fun x y hx hy => ?_⟩
              · rw [hfv, hfp]; exact .refl _
              · rw [hb2]; exact sb lb2
              · rw [vj, pj]
                exact .of_eq (ext_row _ _ _ _ _ x y hx hy)
          · have hv : V i = V' j := by
              rw [hz] at c9
              split at c9
              · omega
              · split at c9 <;> omega
            (refine Later.mk ?_; cbv; try simp only [wp, (show ∀ n : Nat, _ = n from fun n => wf.2.2.2.2.2.2.2.2.2.2.2.2.2.1 (Int.ofNat n)), (show _ = (0 : Nat) from wf.2.2.2.2.2.2.2.2.2.2.2.2.2.1 0), wpa, (show ∀ n : Nat, _ = n from fun n => wfa.2.2.2.2.2.2.2.2.2.2.2.2.2.1 (Int.ofNat n)), (show _ = (0 : Nat) from wfa.2.2.2.2.2.2.2.2.2.2.2.2.2.1 0), getL, takeL, dropL, TK.isAgg, reduceIte])
            apply both
            case h =>
              intro key
              repeat' first | (clear key; trivial) | with_reducible refine And.intro ?_ ?_ | (show Bk _; exact key) | (refine (greater _ _ _ _).call ?_; rintro _ ⟨q, hq, rfl⟩; rw [pi, pj, ← hq0] at hq; subst hq; (cbv; try simp only [wp, (show ∀ n : Nat, _ = n from fun n => wf.2.2.2.2.2.2.2.2.2.2.2.2.2.1 (Int.ofNat n)), (show _ = (0 : Nat) from wf.2.2.2.2.2.2.2.2.2.2.2.2.2.1 0), wpa, (show ∀ n : Nat, _ = n from fun n => wfa.2.2.2.2.2.2.2.2.2.2.2.2.2.1 (Int.ofNat n)), (show _ = (0 : Nat) from wfa.2.2.2.2.2.2.2.2.2.2.2.2.2.1 0), getL, takeL, dropL, TK.isAgg, reduceIte])) | (clear key; show _ ≤ _; exact (by (try simp only [wf, wfa, nc, nc', Int.toNat_natCast, bsz, ByteArray.size_append, List.length_cons, List.length_nil] at *); (try simp (disch := omega) only [w64, w32, wu8] at *); first | done | omega)) | (clear key; show _ < _; exact (by (try simp only [wf, wfa, nc, nc', Int.toNat_natCast, bsz, ByteArray.size_append, List.length_cons, List.length_nil] at *); (try simp (disch := omega) only [w64, w32, wu8] at *); first | done | omega)) | (clear key; show _ = _; exact (by (try simp only [wf, wfa, nc, nc', Int.toNat_natCast, bsz, ByteArray.size_append, List.length_cons, List.length_nil] at *); (try simp (disch := omega) only [w64, w32, wu8] at *); first | done | omega))
            case g =>
              refine hBk ⟨i + 1, j + 1, la2, lb2, k + 1, ext V1 k (V i), ext P1 k q0⟩ _ (by dsimp only; omega) ⟨by dsimp only; omega, by dsimp only; omega, by dsimp only; omega, by dsimp only; rw [lst_ext, i4]; exact j3 la2 ha2 hv lb2 hb2 q0 hq0⟩ ?_
              (cbv; try simp only [wf, wfa, exD, exL, exT, exB, exA, leLs, leL_d, leL_undef, leL_nils, leA_nils, deq_refl, deq_int, deq_bool, deq_str, and_true, true_and, AObj.iter.injEq, nc, nc']; try simp (disch := omega) only [w64, w32, wu8])
              ((try simp only [wf, wfa, nc, nc', Int.toNat_natCast, bsz, ByteArray.size_append, List.length_cons, List.length_nil] at *); (try simp (disch := omega) only [w64, w32, wu8] at *))
              refine ⟨⟨?_, ?_⟩, Nat.le_refl _, Nat.zero_le _, fun x y hx hy => ?_⟩
              · rw [ha2]; exact sa la2
              · rw [hb2]; exact sb lb2
              · rw [vi]
                exact .of_eq (ext_row _ _ _ _ _ x y hx hy)
    · have e9 : lb = 0 := (by (try simp only [wf, wfa, nc, nc', Int.toNat_natCast, bsz, ByteArray.size_append, List.length_cons, List.length_nil] at *); (try simp (disch := omega) only [w64, w32, wu8] at *); first | done | omega)
      (refine Later.mk ?_; cbv; try simp only [wp, (show ∀ n : Nat, _ = n from fun n => wf.2.2.2.2.2.2.2.2.2.2.2.2.2.1 (Int.ofNat n)), (show _ = (0 : Nat) from wf.2.2.2.2.2.2.2.2.2.2.2.2.2.1 0), wpa, (show ∀ n : Nat, _ = n from fun n => wfa.2.2.2.2.2.2.2.2.2.2.2.2.2.1 (Int.ofNat n)), (show _ = (0 : Nat) from wfa.2.2.2.2.2.2.2.2.2.2.2.2.2.1 0), getL, takeL, dropL, TK.isAgg, reduceIte])
      repeat' first | with_reducible refine And.intro ?_ ?_ | intro c9
      all_goals first | exact (by (try simp only [wf, wfa, nc, nc', Int.toNat_natCast, bsz, ByteArray.size_append, List.length_cons, List.length_nil] at *); (try simp (disch := omega) only [w64, w32, wu8] at *); first | done | omega) | trivial | skip
      ((try simp only [wf, wfa, nc, nc', Int.toNat_natCast, bsz, ByteArray.size_append, List.length_cons, List.length_nil] at *); (try simp (disch := omega) only [w64, w32, wu8] at *))
      exact hR k V1 P1 i j la lb _ _ [] (by rw [i4, e9]; simp [lst, joinL_nil]) (by omega) rfl (by rw [hfv, hfp, hgv, hgp])
    · have e9 : la = 0 := (by (try simp only [wf, wfa, nc, nc', Int.toNat_natCast, bsz, ByteArray.size_append, List.length_cons, List.length_nil] at *); (try simp (disch := omega) only [w64, w32, wu8] at *); first | done | omega)
      (refine Later.mk ?_; cbv; try simp only [wp, (show ∀ n : Nat, _ = n from fun n => wf.2.2.2.2.2.2.2.2.2.2.2.2.2.1 (Int.ofNat n)), (show _ = (0 : Nat) from wf.2.2.2.2.2.2.2.2.2.2.2.2.2.1 0), wpa, (show ∀ n : Nat, _ = n from fun n => wfa.2.2.2.2.2.2.2.2.2.2.2.2.2.1 (Int.ofNat n)), (show _ = (0 : Nat) from wfa.2.2.2.2.2.2.2.2.2.2.2.2.2.1 0), getL, takeL, dropL, TK.isAgg, reduceIte])
      repeat' first | with_reducible refine And.intro ?_ ?_ | intro c9
      all_goals first | exact (by (try simp only [wf, wfa, nc, nc', Int.toNat_natCast, bsz, ByteArray.size_append, List.length_cons, List.length_nil] at *); (try simp (disch := omega) only [w64, w32, wu8] at *); first | done | omega) | trivial | skip
      ((try simp only [wf, wfa, nc, nc', Int.toNat_natCast, bsz, ByteArray.size_append, List.length_cons, List.length_nil] at *); (try simp (disch := omega) only [w64, w32, wu8] at *))
      exact hR k V1 P1 i j la lb _ _ [] (by rw [i4, e9]; simp [lst, joinL_nil']) (by omega) rfl (by rw [hfv, hfp, hgv, hgp])
theorem joined (n m : Nat) (V P0 V' P' : Nat → Int) (hn : n < 2 ^ 20) (hm : m < 2 ^ 20) : VCalls (P ()) 45 [.d (.sl n 2 (lvF V P0)), .d (.sl m 2 (lvF V' P')), .clo 47 [] [], .clo 48 [] []] []
    (fun r H => ∃ k V2 P2, lst V2 P2 k = joinL (lst V P0 n) (lst V' P' m) ∧ k ≤ n + m ∧ r = .ref 0 0 k 2 ∧ H = [.arr k 2 (lvF V2 P2) 0]) :=
  (joined0 n m V P0 V' P' hn hm).less fun r H h => by
    obtain ⟨k, V1, P1, i, j, la, lb, K, g, G, h1, h2, rfl, rfl, rfl, rfl⟩ := h
    refine ⟨[.arr (k + la + lb) 2 (lvF (cat3 V1 k V i la V' j) (cat3 P1 k P0 i la P' j)) 0], ⟨⟨_, 0, rfl, Nat.le_refl _, Nat.zero_le _, fun x y hx hy => .of_eq (cat3_app _ _ _ _ _ _ _ _ _ _ x y hy)⟩, trivial⟩, Nat.zero_le _, rfl, rfl, k + la + lb, _, _, ?_, h2, rfl, rfl⟩
    rw [← h1]
    exact cat3_lst _ _ _ _ _ _ _ _ _ _ _
end Go.VM

namespace Go.VM
open Go.Proofs Go
set_option maxRecDepth 100000
set_option linter.unusedVariables false
set_option linter.unusedSimpArgs false
set_option maxHeartbeats 4000000 in
theorem Max (c c' : Int) (n n' : Nat) (V P0 V' P' : Nat → Int) (hn : n < 2 ^ 63) (hn' : n' < 2 ^ 63) : VFun (P ()) 23 [lv c n V P0, lv c' n' V' P'] (OpR (ValidP c n V P0 ∧ ValidP c' n' V' P') (max c c') (fun v => omax (mx (lst V P0 n) v) (mx (lst V' P' n') v))) := by
  refine vfunO (Tf := fun {_} _ => fzT [2, 3] (T ())) (fun {_} => tabOk.frz [2, 3]) [] 400 Tryd.func23 rfl (fun {_} => by kernel_rfl) rfl (Nat.le_of_ble_eq_true rfl) @fun ⟨_, _, _, _, _, _, _, _, _, _, _, _, _, _, _, _, _, _, _, _, _, _, _, _, _, _, _, _, _, _, _, _, _, _, _, _, _, _, wp, wf⟩ R hR => ?_
  cbv
  try simp only [wp, (show ∀ n : Nat, _ = n from fun n => wf.2.2.2.2.2.2.2.2.2.2.2.2.2.1 (Int.ofNat n)), getL, takeL, dropL, TK.isAgg, reduceIte]
  refine (Valid c n V P0 hn).call ?_
  rintro _ ⟨b, hb, rfl⟩
  rcases hb.dich with ⟨rfl, v⟩ | ⟨rfl, v⟩ <;> clear hb <;> (cbv; try simp only [wp, (show ∀ n : Nat, _ = n from fun n => wf.2.2.2.2.2.2.2.2.2.2.2.2.2.1 (Int.ofNat n)), (show _ = (0 : Nat) from wf.2.2.2.2.2.2.2.2.2.2.2.2.2.1 0), getL, takeL, dropL, TK.isAgg, reduceIte])
  · refine (Valid c' n' V' P' hn').call ?_
    rintro _ ⟨b, hb, rfl⟩
    rcases hb.dich with ⟨rfl, v'⟩ | ⟨rfl, v'⟩ <;> clear hb <;> (cbv; try simp only [wp, (show ∀ n : Nat, _ = n from fun n => wf.2.2.2.2.2.2.2.2.2.2.2.2.2.1 (Int.ofNat n)), (show _ = (0 : Nat) from wf.2.2.2.2.2.2.2.2.2.2.2.2.2.1 0), getL, takeL, dropL, TK.isAgg, reduceIte]) <;> (refine Later.mk ?_; cbv; try simp only [wp, (show ∀ n : Nat, _ = n from fun n => wf.2.2.2.2.2.2.2.2.2.2.2.2.2.1 (Int.ofNat n)), (show _ = (0 : Nat) from wf.2.2.2.2.2.2.2.2.2.2.2.2.2.1 0), getL, takeL, dropL, TK.isAgg, reduceIte])
    · have h8 := v.2.2.1
      have h8' := v'.2.2.1
      repeat' first | trivial | with_reducible refine And.intro ?_ ?_ | intro c9
      refine CallW.within (SortedO n V P0 h8) [] rfl trivial rfl ?_
      rintro _ _ ⟨V1, P1, h1, h2, rfl, rfl⟩
      refine ⟨[_], [], rfl, Nat.zero_le _, ⟨Nat.zero_le _, trivial⟩, rfl, ?_⟩
      (cbv; try simp only [wp, (show ∀ n : Nat, _ = n from fun n => wf.2.2.2.2.2.2.2.2.2.2.2.2.2.1 (Int.ofNat n)), (show _ = (0 : Nat) from wf.2.2.2.2.2.2.2.2.2.2.2.2.2.1 0), getL, takeL, dropL, TK.isAgg, reduceIte])
      repeat' first | trivial | with_reducible refine And.intro ?_ ?_ | intro c9
      refine CallW.within (SortedO n' V' P' h8') [] rfl trivial rfl ?_
      rintro _ _ ⟨V2, P2, h1', h2', rfl, rfl⟩
      refine ⟨[_], [], rfl, Nat.zero_le _, ⟨Nat.zero_le _, trivial⟩, rfl, ?_⟩
      (cbv; try simp only [wp, (show ∀ n : Nat, _ = n from fun n => wf.2.2.2.2.2.2.2.2.2.2.2.2.2.1 (Int.ofNat n)), (show _ = (0 : Nat) from wf.2.2.2.2.2.2.2.2.2.2.2.2.2.1 0), getL, takeL, dropL, TK.isAgg, reduceIte])
      repeat' first | trivial | with_reducible refine And.intro ?_ ?_ | intro c9
      (refine CallW.frz @fun ⟨_, _, _, _, _, _, _, _, _, _, _, _, _, _, _, _, _, _, _, _, _, _, _, _, _, _, _, _, _, _, _, _, _, _, _, _, _, _, wpz, wfz⟩ => ?_; cbv; try simp only [wpz, wp, (show ∀ n : Nat, _ = n from fun n => wfz.2.2.2.2.2.2.2.2.2.2.2.2.2.1 (Int.ofNat n)), getL, takeL, dropL, TK.isAgg, reduceIte])
      repeat' first | trivial | with_reducible refine And.intro ?_ ?_ | intro c9
      refine CallW.within (joined n n' V1 P1 V2 P2 (by omega) (by omega)) [] rfl trivial rfl ?_
      rintro _ _ ⟨k, V3, P3, h3, h4, rfl, rfl⟩
      refine ⟨[_], [], rfl, Nat.zero_le _, ⟨Nat.zero_le _, trivial⟩, rfl, ?_⟩
      (cbv; try simp only [wp, (show ∀ n : Nat, _ = n from fun n => wf.2.2.2.2.2.2.2.2.2.2.2.2.2.1 (Int.ofNat n)), (show _ = (0 : Nat) from wf.2.2.2.2.2.2.2.2.2.2.2.2.2.1 0), getL, takeL, dropL, TK.isAgg, reduceIte])
      repeat' first | trivial | with_reducible refine And.intro ?_ ?_ | intro c9
      (refine CallW.frz @fun ⟨_, _, _, _, _, _, _, _, _, _, _, _, _, _, _, _, _, _, _, _, _, _, _, _, _, _, _, _, _, _, _, _, _, _, _, _, _, _, wpz, wfz⟩ => ?_; cbv; try simp only [wpz, wp, (show ∀ n : Nat, _ = n from fun n => wfz.2.2.2.2.2.2.2.2.2.2.2.2.2.1 (Int.ofNat n)), getL, takeL, dropL, TK.isAgg, reduceIte])
      repeat' first | trivial | with_reducible refine And.intro ?_ ?_ | intro c9
      refine CallW.args (args' := [.d (.int .i64 (max c c')), .d (.sl k 2 (lvF V3 P3))]) (fun {_ _} => ⟨?_, .refl _, trivial⟩) ((canonical (max c c') k V3 P3 (by omega)).call ?_)
      · refine Deq.of_eq (congrArg (D.int .i64) ?_)
        ((try simp only [wf, nc, nc', Int.toNat_natCast, bsz, ByteArray.size_append, List.length_cons, List.length_nil] at *); (try simp (disch := omega) only [w64, w32, wu8] at *))
        omega
      intro r hr
      have ⟨c2, n2, V4, P4, e2, e, _⟩ := hr
      subst e
      (cbv; try simp only [wp, (show ∀ n : Nat, _ = n from fun n => wf.2.2.2.2.2.2.2.2.2.2.2.2.2.1 (Int.ofNat n)), (show _ = (0 : Nat) from wf.2.2.2.2.2.2.2.2.2.2.2.2.2.1 0), getL, takeL, dropL, TK.isAgg, reduceIte])
      rw [h3] at hr
      have hj := joinL_spec (sorted_asc h1 (fun i k a b => (v.2.2.2 i b).2.2.2.2 k a) h2) (sorted_asc h1' (fun i k a b => (v'.2.2.2 i b).2.2.2.2 k a) h2')
      repeat' first | trivial | with_reducible refine And.intro ?_ ?_ | intro c9
      all_goals exact hR _ _ _ (hr.frz _) (.inr ⟨⟨v, v'⟩, _, hj.1, fun x => by rw [hj.2, mx_perm h1, mx_perm h1'], hr⟩)
    · exact hR _ _ _ (frz_err 4 _) (.inl ⟨fun h => v' h.2, .err 4⟩)
  · (refine Later.mk ?_; cbv; try simp only [wp, (show ∀ n : Nat, _ = n from fun n => wf.2.2.2.2.2.2.2.2.2.2.2.2.2.1 (Int.ofNat n)), (show _ = (0 : Nat) from wf.2.2.2.2.2.2.2.2.2.2.2.2.2.1 0), getL, takeL, dropL, TK.isAgg, reduceIte])
    exact hR _ _ _ (frz_err 4 _) (.inl ⟨fun h => v h.1, .err 4⟩)
def catF (f : Nat → Int) (n : Nat) (g : Nat → Int) : Nat → Int := fun x => if x < n then f x else g (x - n)
theorem catF_app (V P V' P' : Nat → Int) (n x j : Nat) (hj : j < 2) : appF n (lvF V P) (lvF V' P') x j = lvF (catF V n V') (catF P n P') x j := by
  unfold appF catF
  match j, hj with
  | 0, _ => simp only [lvF]; split <;> rfl
  | 1, _ => simp only [lvF]; split <;> rfl
theorem catF_lst (V P V' P' : Nat → Int) (n m : Nat) : lst (catF V n V') (catF P n P') (n + m) = lst V P n ++ lst V' P' m := by
  rw [lst_add]
  congr 1
  · exact lst_congr fun x hx => ⟨if_pos hx, if_pos hx⟩
  · exact lst_congr fun x hx => ⟨by unfold catF; rw [if_neg (by omega)]; congr 1; omega, by unfold catF; rw [if_neg (by omega)]; congr 1; omega⟩
theorem CanR.of {c : Int} {f g : Int → Option Int} {r : A} (h : CanR c f r) (e : ∀ v, f v = g v) : CanR c g r := by
  obtain ⟨q, h1, h2, h3⟩ := h; exact ⟨q, h1, fun v => (h2 v).trans (e v), h3⟩
set_option maxHeartbeats 4000000 in
theorem RMax (c c' : Int) (n n' : Nat) (V P0 V' P' : Nat → Int) (hn : n < 2 ^ 63) (hn' : n' < 2 ^ 63) : VFun (P ()) 24 [lv c n V P0, lv c' n' V' P'] (OpR (ValidP c n V P0 ∧ ValidP c' n' V' P') (max c c') (fun v => omax (mx (lst V P0 n) v) (mx (lst V' P' n') v))) := by
  refine vfunO (Tf := fun {_} _ => fzT [2, 3] (T ())) (fun {_} => tabOk.frz [2, 3]) [] 400 Tryd.func24 rfl (fun {_} => by kernel_rfl) rfl (Nat.le_of_ble_eq_true rfl) @fun ⟨_, _, _, _, _, _, _, _, _, _, _, _, _, _, _, _, _, _, _, _, _, _, _, _, _, _, _, _, _, _, _, _, _, _, _, _, _, _, wp, wf⟩ R hR => ?_
  cbv
  try simp only [wp, (show ∀ n : Nat, _ = n from fun n => wf.2.2.2.2.2.2.2.2.2.2.2.2.2.1 (Int.ofNat n)), getL, takeL, dropL, TK.isAgg, reduceIte]
  refine (RValid c n V P0 hn).call ?_
  rintro _ ⟨b, hb, rfl⟩
  rcases hb.dich with ⟨rfl, v⟩ | ⟨rfl, v⟩ <;> clear hb <;> (cbv; try simp only [wp, (show ∀ n : Nat, _ = n from fun n => wf.2.2.2.2.2.2.2.2.2.2.2.2.2.1 (Int.ofNat n)), (show _ = (0 : Nat) from wf.2.2.2.2.2.2.2.2.2.2.2.2.2.1 0), getL, takeL, dropL, TK.isAgg, reduceIte])
  · refine (RValid c' n' V' P' hn').call ?_
    rintro _ ⟨b, hb, rfl⟩
    rcases hb.dich with ⟨rfl, v'⟩ | ⟨rfl, v'⟩ <;> clear hb <;> (cbv; try simp only [wp, (show ∀ n : Nat, _ = n from fun n => wf.2.2.2.2.2.2.2.2.2.2.2.2.2.1 (Int.ofNat n)), (show _ = (0 : Nat) from wf.2.2.2.2.2.2.2.2.2.2.2.2.2.1 0), getL, takeL, dropL, TK.isAgg, reduceIte]) <;> (refine Later.mk ?_; cbv; try simp only [wp, (show ∀ n : Nat, _ = n from fun n => wf.2.2.2.2.2.2.2.2.2.2.2.2.2.1 (Int.ofNat n)), (show _ = (0 : Nat) from wf.2.2.2.2.2.2.2.2.2.2.2.2.2.1 0), getL, takeL, dropL, TK.isAgg, reduceIte])
    · have h8 := v.2.2.1
      have h8' := v'.2.2.1
      repeat' first | trivial | with_reducible refine And.intro ?_ ?_ | intro c9
      refine CallW.within (rmore c n V P0 P0 0 (by omega) (fun i hi => by have := v.2.2.2 i hi; obtain ⟨p1, p2, p3, p4, _⟩ := this; omega) (by decide) (fun i _ => (Int.add_zero _).symm)) [] rfl trivial rfl ?_
      rintro _ _ ⟨G, rfl, rfl⟩
      refine ⟨[_, _], G, rfl, Nat.zero_le _, ⟨trivial, Nat.zero_le _, trivial⟩, rfl, ?_⟩
      (cbv; try simp only [wp, (show ∀ n : Nat, _ = n from fun n => wf.2.2.2.2.2.2.2.2.2.2.2.2.2.1 (Int.ofNat n)), (show _ = (0 : Nat) from wf.2.2.2.2.2.2.2.2.2.2.2.2.2.1 0), getL, takeL, dropL, TK.isAgg, reduceIte])
      repeat' first | trivial | with_reducible refine And.intro ?_ ?_ | intro c9
      refine CallW.within (rmore c' n' V' P' P' 0 (by omega) (fun i hi => by have := v'.2.2.2 i hi; obtain ⟨p1, p2, p3, p4, _⟩ := this; omega) (by decide) (fun i _ => (Int.add_zero _).symm)) [] rfl trivial rfl ?_
      rintro _ _ ⟨G', rfl, rfl⟩
      refine ⟨[_, _], G', rfl, Nat.zero_le _, ⟨trivial, Nat.zero_le _, trivial⟩, rfl, ?_⟩
      (cbv; try simp only [wp, (show ∀ n : Nat, _ = n from fun n => wf.2.2.2.2.2.2.2.2.2.2.2.2.2.1 (Int.ofNat n)), (show _ = (0 : Nat) from wf.2.2.2.2.2.2.2.2.2.2.2.2.2.1 0), getL, takeL, dropL, TK.isAgg, reduceIte])
      repeat' first | trivial | with_reducible refine And.intro ?_ ?_ | intro c9
      all_goals first | exact (by (try simp only [wf, nc, nc', Int.toNat_natCast, bsz, ByteArray.size_append, List.length_cons, List.length_nil] at *); (try simp (disch := omega) only [w64, w32, wu8] at *); first | done | omega) | skip
      (refine CallW.frz @fun ⟨_, _, _, _, _, _, _, _, _, _, _, _, _, _, _, _, _, _, _, _, _, _, _, _, _, _, _, _, _, _, _, _, _, _, _, _, _, _, wpz, wfz⟩ => ?_; cbv; try simp only [wpz, wp, (show ∀ n : Nat, _ = n from fun n => wfz.2.2.2.2.2.2.2.2.2.2.2.2.2.1 (Int.ofNat n)), getL, takeL, dropL, TK.isAgg, reduceIte])
      repeat' first | trivial | with_reducible refine And.intro ?_ ?_ | intro c9
      refine CallW.args (args' := [.d (.int .i64 (max c c')), .d (.sl (n + n') 2 (lvF (catF V n V') (catF P0 n P')))]) (fun {_ _} => ⟨?_, ?_, trivial⟩) ((rcanonical (max c c') (n + n') _ _ (by omega) (by have := v.1; omega)).call ?_)
      · refine Deq.of_eq (congrArg (D.int .i64) ?_)
        ((try simp only [wf, nc, nc', Int.toNat_natCast, bsz, ByteArray.size_append, List.length_cons, List.length_nil] at *); (try simp (disch := omega) only [w64, w32, wu8] at *))
        omega
      · ((try simp only [wf, nc, nc', Int.toNat_natCast, bsz, ByteArray.size_append, List.length_cons, List.length_nil] at *); (try simp (disch := omega) only [w64, w32, wu8] at *))
        exact .sl _ _ _ _ fun x j _ hj => .of_eq (catF_app _ _ _ _ _ x j hj)
      rintro _ ⟨c2, m, V2, P2, h1, h2, h3, rfl⟩
      rw [catF_lst] at h1 h3
      (cbv; try simp only [wp, (show ∀ n : Nat, _ = n from fun n => wf.2.2.2.2.2.2.2.2.2.2.2.2.2.1 (Int.ofNat n)), (show _ = (0 : Nat) from wf.2.2.2.2.2.2.2.2.2.2.2.2.2.1 0), getL, takeL, dropL, TK.isAgg, reduceIte])
      repeat' first | trivial | with_reducible refine And.intro ?_ ?_ | intro c9
      refine (fits c2 m V2 P2 (by omega)).call ?_
      intro r hr
      have ⟨c3, n3, V3, P3, e2, e, _⟩ := hr
      subst e
      (cbv; try simp only [wp, (show ∀ n : Nat, _ = n from fun n => wf.2.2.2.2.2.2.2.2.2.2.2.2.2.1 (Int.ofNat n)), (show _ = (0 : Nat) from wf.2.2.2.2.2.2.2.2.2.2.2.2.2.1 0), getL, takeL, dropL, TK.isAgg, reduceIte])
      repeat' first | trivial | with_reducible refine And.intro ?_ ?_ | intro c9
      all_goals exact hR _ _ _ (hr.frz _) (.inr ⟨⟨v, v'⟩, (rcf h1 h3 hr).of fun x => mx_append _ _ _⟩)
    · exact hR _ _ _ (frz_err 4 _) (.inl ⟨fun h => v' h.2, .err 4⟩)
  · (refine Later.mk ?_; cbv; try simp only [wp, (show ∀ n : Nat, _ = n from fun n => wf.2.2.2.2.2.2.2.2.2.2.2.2.2.1 (Int.ofNat n)), (show _ = (0 : Nat) from wf.2.2.2.2.2.2.2.2.2.2.2.2.2.1 0), getL, takeL, dropL, TK.isAgg, reduceIte])
    exact hR _ _ _ (frz_err 4 _) (.inl ⟨fun h => v h.1, .err 4⟩)
end Go.VM

namespace Go.VM
open Go.Proofs Go
set_option maxRecDepth 100000
set_option linter.unusedVariables false
set_option linter.unusedSimpArgs false
/-- two results that are the same -/
def Same2 (r r' : A) : Prop := ∃ c n V P e c' n' V' P', r = .tup [lv c n V P, .d (.int .i64 e)] ∧ r' = .tup [lv c' n' V' P', .d (.int .i64 e)] ∧ n < 2 ^ 61 ∧ n' < 2 ^ 61 ∧ c = c' ∧ lst V P n = lst V' P' n'
theorem LvRes.same {o : Option (Int × List Pt)} {e : Int} {r r' : A} (h : LvRes o e r) (h' : LvRes o e r') : Same2 r r' := by
  obtain ⟨c, n, V, P, e1, rfl, h1, h2, h3⟩ := h
  obtain ⟨c', n', V', P', e1', rfl, h1', h2', h3'⟩ := h'
  cases o with
  | none =>
    obtain ⟨rfl, rfl, rfl⟩ := h2 rfl
    obtain ⟨rfl, rfl, rfl⟩ := h2' rfl
    exact ⟨_, _, _, _, _, _, _, _, _, rfl, rfl, h1, h1', rfl, rfl⟩
  | some x =>
    obtain ⟨rfl, rfl, h4⟩ := h3 x rfl
    obtain ⟨rfl, rfl, h4'⟩ := h3' x rfl
    exact ⟨_, _, _, _, _, _, _, _, _, rfl, rfl, h1, h1', rfl, h4.trans h4'.symm⟩
theorem CanR.same {c : Int} {f : Int → Option Int} {r r' : A} (h : CanR c f r) (h' : CanR c f r') : Same2 r r' := by
  obtain ⟨q, h1, h2, h3⟩ := h
  obtain ⟨q', h1', h2', h3'⟩ := h'
  have e := asc_ext h1 h1' fun v => (h2 v).trans (h2' v).symm
  subst e
  exact h3.same h3'
theorem OpR.same {ok : Prop} {c : Int} {f : Int → Option Int} {r r' : A} (h : OpR ok c f r) (h' : OpR ok c f r') : Same2 r r' := by
  rcases h with ⟨h, h1⟩ | ⟨h, h1⟩ <;> rcases h' with ⟨h', h1'⟩ | ⟨h', h1'⟩
  · exact h1.same h1'
  · exact absurd h' h
  · exact absurd h h'
  · exact h1.same h1'
theorem OpR.form {ok : Prop} {c : Int} {f : Int → Option Int} {r : A} (h : OpR ok c f r) : ∃ c n V P e, r = .tup [lv c n V P, .d (.int .i64 e)] ∧ n < 2 ^ 61 := by
  obtain ⟨c, n, V, P, e, _, _, _, _, h1, _, h2, _⟩ := h.same h
  exact ⟨c, n, V, P, e, h1, h2⟩
theorem OpR.pair {ok : Prop} {c : Int} {f : Int → Option Int} {c1 : Int} {n1 : Nat} {V1 P1 : Nat → Int} {e1 : Int} {r' : A} (h : OpR ok c f (.tup [lv c1 n1 V1 P1, .d (.int .i64 e1)])) (h' : OpR ok c f r') :
    ∃ c2 n2 V2 P2, r' = .tup [lv c2 n2 V2 P2, .d (.int .i64 e1)] ∧ n2 < 2 ^ 61 ∧ e1 = e1 ∧ c1 = c2 ∧ lst V1 P1 n1 = lst V2 P2 n2 := by
  obtain ⟨c, n, V, P, e, c2, n2, V2, P2, h1, rfl, h3, h4, h5, h6⟩ := h.same h'
  simp only [lv, A.tup.injEq, List.cons.injEq, A.agg.injEq, A.d.injEq, D.int.injEq, D.sl.injEq, true_and, and_true] at h1
  obtain ⟨⟨rfl, rfl, hf⟩, rfl⟩ := h1
  refine ⟨c2, n2, V2, P2, rfl, h4, rfl, h5, h6 ▸ lst_congr fun k _ => ⟨?_, ?_⟩⟩
  · have := congrFun (congrFun hf k) 0
    simpa [lvF] using this
  · have := congrFun (congrFun hf k) 1
    simpa [lvF] using this
theorem same (c c' : Int) (n n' : Nat) (V P0 V' P' : Nat → Int) (e f : Int) (hn : n < 2 ^ 62) (hn' : n' < 2 ^ 62) : VFun (P ()) 25 [lv c n V P0, lv c' n' V' P', .d (.int .i64 e), .d (.int .i64 f)] (fun r => ∃ b : Bool, (b = true ↔ e = f ∧ c = c' ∧ lst V P0 n = lst V' P' n') ∧ r = .d (.bool b)) := by
  refine vfunO (Tf := fun {_} _ => fzT [4, 5] (T ())) (fun {_} => tabOk.frz [4, 5]) [] 400 Tryd.func25 rfl (fun {_} => by kernel_rfl) rfl (Nat.le_of_ble_eq_true rfl) @fun ⟨_, _, _, _, _, _, _, _, _, _, _, _, _, _, _, _, _, _, _, _, _, _, _, _, _, _, _, _, _, _, _, _, _, _, _, _, _, _, wp, wf⟩ R hR => ?_
  cbv
  try simp only [wp, (show ∀ n : Nat, _ = n from fun n => wf.2.2.2.2.2.2.2.2.2.2.2.2.2.1 (Int.ofNat n)), getL, takeL, dropL, TK.isAgg, reduceIte]
  replace hR := fun b H h => hR _ H _ (.d (.bool b)) ⟨b, h, rfl⟩
  repeat' first | with_reducible refine And.intro ?_ ?_ | intro c9
  · have c9 : e = f := (by (try simp only [wf, nc, nc', Int.toNat_natCast, bsz, ByteArray.size_append, List.length_cons, List.length_nil] at *); (try simp (disch := omega) only [w64, w32, wu8] at *); first | done | omega)
    refine (EqLevel c c' n n' V P0 V' P' hn hn').call ?_
    rintro _ ⟨b, hb, rfl⟩
    (cbv; try simp only [wp, (show ∀ n : Nat, _ = n from fun n => wf.2.2.2.2.2.2.2.2.2.2.2.2.2.1 (Int.ofNat n)), (show _ = (0 : Nat) from wf.2.2.2.2.2.2.2.2.2.2.2.2.2.1 0), getL, takeL, dropL, TK.isAgg, reduceIte])
    repeat' first | trivial | with_reducible refine And.intro ?_ ?_ | intro c9
    all_goals exact hR _ _ ⟨fun h => ⟨c9, hb.1 h⟩, fun h => hb.2 h.2⟩
  · have c9 : ¬ e = f := (by (try simp only [wf, nc, nc', Int.toNat_natCast, bsz, ByteArray.size_append, List.length_cons, List.length_nil] at *); (try simp (disch := omega) only [w64, w32, wu8] at *); first | done | omega)
    exact hR _ _ (iffF fun h => c9 h.1)
end Go.VM

namespace Go.VM
open Go.Proofs Go
set_option maxRecDepth 100000
set_option linter.unusedVariables false
set_option linter.unusedSimpArgs false
theorem rmoreF (c : Int) (n : Nat) (V P0 Q : Nat → Int) (p : Int) (hn : n < 2 ^ 20) (hp : ∀ i, i < n → -100000 ≤ P0 i ∧ P0 i ≤ 100000) (hp2 : -100000 ≤ p ∧ p ≤ 100000) (hQ : ∀ i, i < n → Q i = P0 i + p) : VFun (P ()) 43 [lv c n V P0, .d (.int .i64 p)] (fun r => r = .d (.sl n 2 (lvF V Q))) :=
  VCalls.pure rfl (rmore c n V P0 Q p hn hp hp2 hQ) fun r H h => by
    obtain ⟨G, rfl, rfl⟩ := h
    exact ⟨_, .ref0 1 n 2 n 0 _ rfl rfl, rfl⟩
theorem VCalls.pureC [Glb] {P : Program} {K : FuncId} {args : List A} {R1 : A → AHeap → Prop} (h : VCalls P K args [] R1) (hb : belA.belAs 0 args = true) (hren : ren.renL (fun i => i) args = args) {S : A → Prop} (hr : ∀ r H', R1 r H' → ∃ y, FrzM 0 (fun i => i) H' r y ∧ S y) : VFun P K args S := fun H => by
  have h1 : VCalls P K (ren.renL (fun i => i) args) H (fun r H' => H' = H ∧ S r) := by
    refine h.frame H (fun i => i) (fun i j hi => absurd hi (Nat.not_lt_zero _)) (fun i x hx => by simp at hx) (fun i x hx => by simp at hx) (fun k hk => belAs_ok hb k hk) fun r1 H1' hR => ?_
    obtain ⟨y, h1, h2⟩ := hr r1 H1' hR
    refine Ops.exists_one.elim fun inst => ?_
    let lim : Lim := ⟨fun _ _ => True⟩
    exact ⟨y, [], H, h1, Nat.le_refl _, fun i _ hi => absurd hi (Nat.not_lt_zero _), trivial, fun i x hx => by simp at hx, by simp, fun i x hx => by simp at hx, fun o ho _ => rfl, rfl, h2⟩
  rwa [hren] at h1
theorem joinedF (n m : Nat) (V P0 V' P' : Nat → Int) (hn : n < 2 ^ 20) (hm : m < 2 ^ 20) : VFun (P ()) 45 [.d (.sl n 2 (lvF V P0)), .d (.sl m 2 (lvF V' P')), .clo 47 [] [], .clo 48 [] []]
    (fun r => ∃ k V2 P2, lst V2 P2 k = joinL (lst V P0 n) (lst V' P' m) ∧ k ≤ n + m ∧ r = .d (.sl k 2 (lvF V2 P2))) :=
  (joined n m V P0 V' P' hn hm).pureC rfl rfl fun r H h => by
    obtain ⟨k, V2, P2, h1, h2, rfl, rfl⟩ := h
    exact ⟨_, .ref0 0 k 2 k 0 _ (Nat.zero_le _) rfl rfl, k, V2, P2, h1, h2, rfl⟩
/-- the levels that are put in are valid -/
def SubP (c : Int) (n : Nat) (V P0 : Nat → Int) (m : Nat) (C : Nat → Int) (N : Nat → Nat) (W Q : Nat → Nat → Int) : Prop := ValidP c n V P0 ∧ ∀ i, i < n → V i < m → ValidP (C (V i).toNat) (N (V i).toNat) (W (V i).toNat) (Q (V i).toNat)
def SubR (c : Int) (n : Nat) (V P0 : Nat → Int) (m : Nat) (C : Nat → Int) (N : Nat → Nat) (W Q : Nat → Nat → Int) : A → Prop := OpR (SubP c n V P0 m C N W Q) (sc m C c (lst V P0 n)) (mx (big m (fun i => lst (W i) (Q i) (N i)) (lst V P0 n)))
structure Uy where
  i : Nat
  k : Nat
  c : Int
  V : Nat → Int
  P : Nat → Int
set_option maxHeartbeats 4000000 in
theorem RSubst (c : Int) (n : Nat) (V P0 : Nat → Int) (m : Nat) (C : Nat → Int) (N : Nat → Nat) (W Q : Nat → Nat → Int) (hn : n < 2 ^ 63) (hm : m < 2 ^ 63) (hN : ∀ i, i < m → N i < 2 ^ 63) : VFun (P ()) 27 [lv c n V P0, .d (.sl m 2 (lsF C N W Q))] (SubR c n V P0 m C N W Q) := by
  refine vfunO (Tf := fun {_} _ => fzT [2] (T ())) (fun {_} => tabOk.frz [2]) [(13, upF 0 12), (14, upF 0 11)] 400 Tryd.func27 rfl (fun {_} => by kernel_rfl) rfl (Nat.le_of_ble_eq_true rfl) @fun ⟨_, _, _, _, _, _, _, _, _, _, _, _, _, _, _, _, _, _, _, _, _, _, _, _, _, _, _, _, _, _, _, _, _, _, _, _, _, _, wp, wf⟩ R hR => ?_
  cbv
  try simp only [wp, (show ∀ n : Nat, _ = n from fun n => wf.2.2.2.2.2.2.2.2.2.2.2.2.2.1 (Int.ofNat n)), getL, takeL, dropL, TK.isAgg, reduceIte]
  refine (RValid c n V P0 hn).call ?_
  rintro _ ⟨b, hb, rfl⟩
  rcases hb.dich with ⟨rfl, v⟩ | ⟨rfl, v⟩ <;> clear hb <;> (cbv; try simp only [wp, (show ∀ n : Nat, _ = n from fun n => wf.2.2.2.2.2.2.2.2.2.2.2.2.2.1 (Int.ofNat n)), (show _ = (0 : Nat) from wf.2.2.2.2.2.2.2.2.2.2.2.2.2.1 0), getL, takeL, dropL, TK.isAgg, reduceIte])
  all_goals (refine Later.mk ?_; cbv; try simp only [wp, (show ∀ n : Nat, _ = n from fun n => wf.2.2.2.2.2.2.2.2.2.2.2.2.2.1 (Int.ofNat n)), (show _ = (0 : Nat) from wf.2.2.2.2.2.2.2.2.2.2.2.2.2.1 0), getL, takeL, dropL, TK.isAgg, reduceIte])
  · have h8 := v.2.2.1
    have h0 := v.1
    repeat' first | trivial | with_reducible refine And.intro ?_ ?_ | intro c9
    refine loopGhost 7 2 rfl ?_
    refine loopO (Tf := fun {_} _ => fzT [2] (T ())) (fun {_} => tabOk.frz [2]) [(13, upF 0 12), (14, upF 0 11)] 400 (fun y : Uy => ⟨[.undef, .d (.sl m 2 (lsF C N W Q)), .iptr (fun x j => getL [.int .i64 c, .sl n 2 (lvF V P0)] j .nilp) 0 0 2, .undef, .ptr 0 0, .d (.int .i64 0), .d (.int .i64 y.c), .ref 1 0 y.k 2, .d (.int .i64 y.i), .undef, .undef, .undef, .undef, .undef, .undef, .undef, .undef, .undef, .undef, .undef, .undef, .undef, .undef, .undef, .undef, .undef, .undef, .undef, .undef, .undef, .undef, .undef, .undef, .undef, .undef, .undef, .undef, .undef, .undef, .undef, .undef, .undef, .undef, .undef, .undef, .undef, .undef, .undef, .undef, .undef, .undef, .undef, .undef, .undef, .undef, .undef, .undef, .undef, .undef, .undef, .undef, .undef, .undef, .undef, .undef, .undef, .undef, .undef, .undef, .undef, .undef, .undef], [.box [.d (.int .i64 0), .d (.sl 0 2 (lvF V P0))], .arr y.k 2 (lvF y.V y.P) 0]⟩) (fun y => n - y.i) (fun y => y.i ≤ n ∧ y.k ≤ 8 * y.i ∧ lst y.V y.P y.k = big m (fun i => lst (W i) (Q i) (N i)) (lst V P0 y.i) ∧ y.c = sc m C c (lst V P0 y.i) ∧ ∀ i, i < y.i → V i < m → ValidP (C (V i).toNat) (N (V i).toNat) (W (V i).toNat) (Q (V i).toNat)) ⟨0, 0, c, V, P0⟩ ⟨Nat.zero_le _, Nat.zero_le _, rfl, rfl, fun k hk => absurd hk (Nat.not_lt_zero _)⟩ (fun {_} => by kernel_rfl) ?_ (fun i => by kernel_rfl) @fun ⟨_, _, _, _, _, _, _, _, _, _, _, _, _, _, _, _, _, _, _, _, _, _, _, _, _, _, _, _, _, _, _, _, _, _, _, _, _, _, wpa, wfa⟩ ⟨i, k, c1, V1, P1⟩ Bk hi hBk => ?_
    · (cbv; try simp only [wf, exD, exL, exT, exB, exA, leLs, leL_d, leL_undef, leL_nils, leA_nils, deq_refl, deq_int, deq_bool, deq_str, and_true, true_and, AObj.iter.injEq, nc, nc']; try simp (disch := omega) only [w64, w32, wu8])
      exact ⟨rfl, Nat.le_refl _, Nat.le_refl _, fun i j hi => absurd hi (Nat.not_lt_zero _)⟩
    obtain ⟨i1, i2, i3, i4, i5⟩ := hi
    dsimp only at i1 i2 i3 i4 i5
    (cbv; try simp only [wp, (show ∀ n : Nat, _ = n from fun n => wf.2.2.2.2.2.2.2.2.2.2.2.2.2.1 (Int.ofNat n)), (show _ = (0 : Nat) from wf.2.2.2.2.2.2.2.2.2.2.2.2.2.1 0), wpa, (show ∀ n : Nat, _ = n from fun n => wfa.2.2.2.2.2.2.2.2.2.2.2.2.2.1 (Int.ofNat n)), (show _ = (0 : Nat) from wfa.2.2.2.2.2.2.2.2.2.2.2.2.2.1 0), getL, takeL, dropL, TK.isAgg, reduceIte])
    refine ⟨fun e => ?_, fun e => ?_⟩
    · have e : i < n := (by (try simp only [wf, wfa, nc, nc', Int.toNat_natCast, bsz, ByteArray.size_append, List.length_cons, List.length_nil] at *); (try simp (disch := omega) only [w64, w32, wu8] at *); first | done | omega)
      (refine Later.mk ?_; cbv; try simp only [wp, (show ∀ n : Nat, _ = n from fun n => wf.2.2.2.2.2.2.2.2.2.2.2.2.2.1 (Int.ofNat n)), (show _ = (0 : Nat) from wf.2.2.2.2.2.2.2.2.2.2.2.2.2.1 0), wpa, (show ∀ n : Nat, _ = n from fun n => wfa.2.2.2.2.2.2.2.2.2.2.2.2.2.1 (Int.ofNat n)), (show _ = (0 : Nat) from wfa.2.2.2.2.2.2.2.2.2.2.2.2.2.1 0), getL, takeL, dropL, TK.isAgg, reduceIte])
      repeat' first | with_reducible refine And.intro ?_ ?_ | intro c9
      all_goals first | exact (by (try simp only [wf, wfa, nc, nc', Int.toNat_natCast, bsz, ByteArray.size_append, List.length_cons, List.length_nil] at *); (try simp (disch := omega) only [w64, w32, wu8] at *); first | done | omega) | trivial | skip
      · have hV : ¬ V i < m := (by (try simp only [wf, wfa, nc, nc', Int.toNat_natCast, bsz, ByteArray.size_append, List.length_cons, List.length_nil] at *); (try simp (disch := omega) only [w64, w32, wu8] at *); first | done | omega)
        (refine Later.mk ?_; cbv; try simp only [wp, (show ∀ n : Nat, _ = n from fun n => wf.2.2.2.2.2.2.2.2.2.2.2.2.2.1 (Int.ofNat n)), (show _ = (0 : Nat) from wf.2.2.2.2.2.2.2.2.2.2.2.2.2.1 0), wpa, (show ∀ n : Nat, _ = n from fun n => wfa.2.2.2.2.2.2.2.2.2.2.2.2.2.1 (Int.ofNat n)), (show _ = (0 : Nat) from wfa.2.2.2.2.2.2.2.2.2.2.2.2.2.1 0), getL, takeL, dropL, TK.isAgg, reduceIte])
        repeat' first | with_reducible refine And.intro ?_ ?_ | intro c9
        all_goals first | exact (by (try simp only [wf, wfa, nc, nc', Int.toNat_natCast, bsz, ByteArray.size_append, List.length_cons, List.length_nil] at *); (try simp (disch := omega) only [w64, w32, wu8] at *); first | done | omega) | trivial | skip
        refine hBk ⟨i + 1, k + 1, c1, ext V1 k (V i), ext P1 k (P0 i)⟩ _ (by dsimp only; omega) ⟨by dsimp only; omega, by dsimp only; omega, by dsimp only; rw [lst_ext, lst, big_snoc, i3]; unfold big1; rw [if_neg hV], by dsimp only; rw [lst, sc_snoc, if_neg hV]; exact i4, fun j hj hj2 => ?_⟩ ?_
        · by_cases e2 : j = i
          · subst e2; exact absurd hj2 hV
          · exact i5 j (by dsimp only at hj; omega) hj2
        · (cbv; try simp only [wf, wfa, exD, exL, exT, exB, exA, leLs, leL_d, leL_undef, leL_nils, leA_nils, deq_refl, deq_int, deq_bool, deq_str, and_true, true_and, AObj.iter.injEq, nc, nc']; try simp (disch := omega) only [w64, w32, wu8])
          ((try simp only [wf, wfa, nc, nc', Int.toNat_natCast, bsz, ByteArray.size_append, List.length_cons, List.length_nil] at *); (try simp (disch := omega) only [w64, w32, wu8] at *))
          exact ⟨by omega, Nat.le_refl _, Nat.zero_le _, fun x j hx hj => .of_eq (ext_row _ _ _ _ _ x j hx hj)⟩
      · have hV : V i < m := (by (try simp only [wf, wfa, nc, nc', Int.toNat_natCast, bsz, ByteArray.size_append, List.length_cons, List.length_nil] at *); (try simp (disch := omega) only [w64, w32, wu8] at *); first | done | omega)
        have hV0 : 0 ≤ V i := (v.2.2.2 i e).1
        have hNi := hN (V i).toNat (by omega)
        have vi := (v.2.2.2 i e).2.2
        have key6 : SubP c n V P0 m C N W Q → ValidP (C (V i).toNat) (N (V i).toNat) (W (V i).toNat) (Q (V i).toNat) := fun h => h.2 i e hV
        (refine Later.mk ?_; cbv; try simp only [wp, (show ∀ n : Nat, _ = n from fun n => wf.2.2.2.2.2.2.2.2.2.2.2.2.2.1 (Int.ofNat n)), (show _ = (0 : Nat) from wf.2.2.2.2.2.2.2.2.2.2.2.2.2.1 0), wpa, (show ∀ n : Nat, _ = n from fun n => wfa.2.2.2.2.2.2.2.2.2.2.2.2.2.1 (Int.ofNat n)), (show _ = (0 : Nat) from wfa.2.2.2.2.2.2.2.2.2.2.2.2.2.1 0), getL, takeL, dropL, TK.isAgg, reduceIte])
        repeat' first | with_reducible refine And.intro ?_ ?_ | intro c9
        all_goals first | exact (by (try simp only [wf, wfa, nc, nc', Int.toNat_natCast, bsz, ByteArray.size_append, List.length_cons, List.length_nil] at *); (try simp (disch := omega) only [w64, w32, wu8] at *); first | done | omega) | trivial | skip
        obtain ⟨z, hz⟩ : ∃ z, z = (V i).toNat := ⟨_, rfl⟩
        have hz2 : V i = z := by omega
        rw [← hz] at hNi key6
        refine (RValid _ _ _ _ (by ((try simp only [wf, wfa, nc, nc', Int.toNat_natCast, bsz, ByteArray.size_append, List.length_cons, List.length_nil] at *); (try simp (disch := omega) only [w64, w32, wu8] at *)); rw [← hz]; exact hNi)).call ?_
        rintro _ ⟨b, hb, rfl⟩
        rcases hb.dich with ⟨rfl, v'⟩ | ⟨rfl, v'⟩ <;> clear hb <;> (cbv; try simp only [wp, (show ∀ n : Nat, _ = n from fun n => wf.2.2.2.2.2.2.2.2.2.2.2.2.2.1 (Int.ofNat n)), (show _ = (0 : Nat) from wf.2.2.2.2.2.2.2.2.2.2.2.2.2.1 0), wpa, (show ∀ n : Nat, _ = n from fun n => wfa.2.2.2.2.2.2.2.2.2.2.2.2.2.1 (Int.ofNat n)), (show _ = (0 : Nat) from wfa.2.2.2.2.2.2.2.2.2.2.2.2.2.1 0), getL, takeL, dropL, TK.isAgg, reduceIte])
        · have v2 : ValidP (C z) (N z) (W z) (Q z) := by
            ((try simp only [wf, wfa, nc, nc', Int.toNat_natCast, bsz, ByteArray.size_append, List.length_cons, List.length_nil] at *); (try simp (disch := omega) only [w64, w32, wu8] at *))
            rw [← hz] at v'
            exact v'
          have hb : ∀ j, j < N z → 0 ≤ Q z j ∧ Q z j ≤ 1000 := fun j hj => ⟨(v2.2.2.2 j hj).2.2.1, (v2.2.2.2 j hj).2.2.2.1⟩
          have hN8 := v2.2.2.1
          have hC := v2.2.1
          have hC0 := v2.1
          clear v'
          (refine Later.mk ?_; cbv; try simp only [wp, (show ∀ n : Nat, _ = n from fun n => wf.2.2.2.2.2.2.2.2.2.2.2.2.2.1 (Int.ofNat n)), (show _ = (0 : Nat) from wf.2.2.2.2.2.2.2.2.2.2.2.2.2.1 0), wpa, (show ∀ n : Nat, _ = n from fun n => wfa.2.2.2.2.2.2.2.2.2.2.2.2.2.1 (Int.ofNat n)), (show _ = (0 : Nat) from wfa.2.2.2.2.2.2.2.2.2.2.2.2.2.1 0), getL, takeL, dropL, TK.isAgg, reduceIte])
          repeat' first | with_reducible refine And.intro ?_ ?_ | intro c9
          all_goals first | exact (by (try simp only [wf, wfa, nc, nc', Int.toNat_natCast, bsz, ByteArray.size_append, List.length_cons, List.length_nil] at *); (try simp (disch := omega) only [w64, w32, wu8] at *); first | done | omega) | trivial | skip
          obtain ⟨qf, hqf⟩ : ∃ qf, qf = fun j => Q z j + P0 i := ⟨_, rfl⟩
          refine (rmoreF _ _ _ _ qf _ (by ((try simp only [wf, wfa, nc, nc', Int.toNat_natCast, bsz, ByteArray.size_append, List.length_cons, List.length_nil] at *); (try simp (disch := omega) only [w64, w32, wu8] at *)); rw [← hz]; omega) (fun j hj => by ((try simp only [wf, wfa, nc, nc', Int.toNat_natCast, bsz, ByteArray.size_append, List.length_cons, List.length_nil] at *); (try simp (disch := omega) only [w64, w32, wu8] at *)); rw [← hz] at hj ⊢; have := hb j hj; omega) (by omega) (fun j _ => by ((try simp only [wf, wfa, nc, nc', Int.toNat_natCast, bsz, ByteArray.size_append, List.length_cons, List.length_nil] at *); (try simp (disch := omega) only [w64, w32, wu8] at *)); rw [← hz, hqf])).call ?_
          rintro _ rfl
          (cbv; try simp only [wp, (show ∀ n : Nat, _ = n from fun n => wf.2.2.2.2.2.2.2.2.2.2.2.2.2.1 (Int.ofNat n)), (show _ = (0 : Nat) from wf.2.2.2.2.2.2.2.2.2.2.2.2.2.1 0), wpa, (show ∀ n : Nat, _ = n from fun n => wfa.2.2.2.2.2.2.2.2.2.2.2.2.2.1 (Int.ofNat n)), (show _ = (0 : Nat) from wfa.2.2.2.2.2.2.2.2.2.2.2.2.2.1 0), getL, takeL, dropL, TK.isAgg, reduceIte])
          repeat' first | with_reducible refine And.intro ?_ ?_ | intro c9
          all_goals first | exact (by (try simp only [wf, wfa, nc, nc', Int.toNat_natCast, bsz, ByteArray.size_append, List.length_cons, List.length_nil] at *); (try simp (disch := omega) only [w64, w32, wu8] at *); first | done | omega) | trivial | skip
          · ((try simp only [wf, wfa, nc, nc', Int.toNat_natCast, bsz, ByteArray.size_append, List.length_cons, List.length_nil] at *); (try simp (disch := omega) only [w64, w32, wu8] at *))
            rw [← hz]
            omega
          have happ := fun x j hj => catF_app V1 P1 (W z) qf k x j hj
          have hlst := catF_lst V1 P1 (W z) qf k (N z)
          obtain ⟨k2, hk2⟩ : ∃ k2, k2 = k + N z := ⟨_, rfl⟩
          obtain ⟨c2, hc2⟩ : ∃ c2, c2 = max c1 (C z + P0 i) := ⟨_, rfl⟩
          obtain ⟨fv, hfv⟩ : ∃ fv, fv = catF V1 k (W z) := ⟨_, rfl⟩
          obtain ⟨fp, hfp⟩ : ∃ fp, fp = catF P1 k qf := ⟨_, rfl⟩
          rw [← hfv, ← hfp] at happ hlst
          rw [← hk2] at hlst
          refine hBk ⟨i + 1, k2, c2, fv, fp⟩ _ (by dsimp only; omega) ⟨by dsimp only; omega, by dsimp only; omega, ?_, ?_, fun j hj hj2 => ?_⟩ ?_
          · dsimp only
            rw [hlst, lst, big_snoc, i3]
            unfold big1
            rw [if_pos hV]
            dsimp only
            rw [← hz, hqf, lst_add_map]
          · dsimp only
            rw [lst, sc_snoc, if_pos hV, ← i4, hc2]
            dsimp only
            rw [← hz]
          · by_cases e2 : j = i
            · subst e2; rw [← hz]; exact v2
            · exact i5 j (by dsimp only at hj; omega) hj2
          · (cbv; try simp only [wf, wfa, exD, exL, exT, exB, exA, leLs, leL_d, leL_undef, leL_nils, leA_nils, deq_refl, deq_int, deq_bool, deq_str, and_true, true_and, AObj.iter.injEq, nc, nc']; try simp (disch := omega) only [w64, w32, wu8])
            ((try simp only [wf, wfa, nc, nc', Int.toNat_natCast, bsz, ByteArray.size_append, List.length_cons, List.length_nil] at *); (try simp (disch := omega) only [w64, w32, wu8] at *))
            rw [← hz]
            ((try simp only [wf, wfa, nc, nc', Int.toNat_natCast, bsz, ByteArray.size_append, List.length_cons, List.length_nil] at *); (try simp (disch := omega) only [w64, w32, wu8] at *))
            exact ⟨⟨by rw [hc2]; split <;> omega, by rw [hk2], by omega⟩, hk2.symm, Nat.le_refl _, Nat.zero_le _, fun x j hx hj => .of_eq (happ x j hj)⟩
        · (refine Later.mk ?_; cbv; try simp only [wp, (show ∀ n : Nat, _ = n from fun n => wf.2.2.2.2.2.2.2.2.2.2.2.2.2.1 (Int.ofNat n)), (show _ = (0 : Nat) from wf.2.2.2.2.2.2.2.2.2.2.2.2.2.1 0), wpa, (show ∀ n : Nat, _ = n from fun n => wfa.2.2.2.2.2.2.2.2.2.2.2.2.2.1 (Int.ofNat n)), (show _ = (0 : Nat) from wfa.2.2.2.2.2.2.2.2.2.2.2.2.2.1 0), getL, takeL, dropL, TK.isAgg, reduceIte])
          repeat' first | trivial | with_reducible refine And.intro ?_ ?_ | intro c9
          all_goals exact hR _ _ _ (frz_err 4 _) (.inl ⟨fun h => v' (by have h7 := key6 h; ((try simp only [wf, wfa, nc, nc', Int.toNat_natCast, bsz, ByteArray.size_append, List.length_cons, List.length_nil] at *); (try simp (disch := omega) only [w64, w32, wu8] at *)); rw [← hz]; exact h7), .err 4⟩)
    · obtain rfl : i = n := (by (try simp only [wf, wfa, nc, nc', Int.toNat_natCast, bsz, ByteArray.size_append, List.length_cons, List.length_nil] at *); (try simp (disch := omega) only [w64, w32, wu8] at *); first | done | omega)
      (refine Later.mk ?_; cbv; try simp only [wp, (show ∀ n : Nat, _ = n from fun n => wf.2.2.2.2.2.2.2.2.2.2.2.2.2.1 (Int.ofNat n)), (show _ = (0 : Nat) from wf.2.2.2.2.2.2.2.2.2.2.2.2.2.1 0), wpa, (show ∀ n : Nat, _ = n from fun n => wfa.2.2.2.2.2.2.2.2.2.2.2.2.2.1 (Int.ofNat n)), (show _ = (0 : Nat) from wfa.2.2.2.2.2.2.2.2.2.2.2.2.2.1 0), getL, takeL, dropL, TK.isAgg, reduceIte])
      repeat' first | trivial | with_reducible refine And.intro ?_ ?_ | intro c9
      (refine CallW.frz @fun ⟨_, _, _, _, _, _, _, _, _, _, _, _, _, _, _, _, _, _, _, _, _, _, _, _, _, _, _, _, _, _, _, _, _, _, _, _, _, _, wpz, wfz⟩ => ?_; cbv; try simp only [wpz, wp, (show ∀ n : Nat, _ = n from fun n => wfz.2.2.2.2.2.2.2.2.2.2.2.2.2.1 (Int.ofNat n)), getL, takeL, dropL, TK.isAgg, reduceIte])
      repeat' first | trivial | with_reducible refine And.intro ?_ ?_ | intro c9
      refine (rcanonical c1 k V1 P1 (by omega) (by have := sc_ge m C c (lst V P0 i); omega)).call ?_
      rintro _ ⟨c2, m2, V2, P2, h1, h2, h3, rfl⟩
      (cbv; try simp only [wp, (show ∀ n : Nat, _ = n from fun n => wf.2.2.2.2.2.2.2.2.2.2.2.2.2.1 (Int.ofNat n)), (show _ = (0 : Nat) from wf.2.2.2.2.2.2.2.2.2.2.2.2.2.1 0), wpa, (show ∀ n : Nat, _ = n from fun n => wfa.2.2.2.2.2.2.2.2.2.2.2.2.2.1 (Int.ofNat n)), (show _ = (0 : Nat) from wfa.2.2.2.2.2.2.2.2.2.2.2.2.2.1 0), getL, takeL, dropL, TK.isAgg, reduceIte])
      repeat' first | trivial | with_reducible refine And.intro ?_ ?_ | intro c9
      refine (fits c2 m2 V2 P2 (by omega)).call ?_
      intro r hr
      have ⟨c3, n3, V3, P3, e2, e, _⟩ := hr
      subst e
      (cbv; try simp only [wp, (show ∀ n : Nat, _ = n from fun n => wf.2.2.2.2.2.2.2.2.2.2.2.2.2.1 (Int.ofNat n)), (show _ = (0 : Nat) from wf.2.2.2.2.2.2.2.2.2.2.2.2.2.1 0), wpa, (show ∀ n : Nat, _ = n from fun n => wfa.2.2.2.2.2.2.2.2.2.2.2.2.2.1 (Int.ofNat n)), (show _ = (0 : Nat) from wfa.2.2.2.2.2.2.2.2.2.2.2.2.2.1 0), getL, takeL, dropL, TK.isAgg, reduceIte])
      repeat' first | trivial | with_reducible refine And.intro ?_ ?_ | intro c9
      all_goals exact hR _ _ _ (hr.frz _) (.inr ⟨⟨v, i5⟩, by rw [← i3, ← i4]; exact rcf h1 h3 hr⟩)
  · exact hR _ _ _ (frz_err 4 _) (.inl ⟨fun h => v h.1, .err 4⟩)
end Go.VM

namespace Go.VM
open Go.Proofs Go
set_option maxRecDepth 100000
set_option linter.unusedVariables false
set_option linter.unusedSimpArgs false
theorem lref (o a b c : Nat) : leL (.ref o a b c) (.ref o a b c) := rfl
theorem row1 (v p : Int) (i j : Nat) (hi : i < 1) (hj : j < 2) : rowF 2 [.int .i64 v, .int .i64 p] i j = lvF (fun _ => v) (fun _ => p) i j := by
  obtain rfl : i = 0 := by omega
  match j, hj with
  | 0, _ => rfl
  | 1, _ => rfl
set_option maxHeartbeats 4000000 in
theorem Subst (c : Int) (n : Nat) (V P0 : Nat → Int) (m : Nat) (C : Nat → Int) (N : Nat → Nat) (W Q : Nat → Nat → Int) (hn : n < 2 ^ 63) (hm : m < 2 ^ 63) (hN : ∀ i, i < m → N i < 2 ^ 63) : VFun (P ()) 26 [lv c n V P0, .d (.sl m 2 (lsF C N W Q))] (SubR c n V P0 m C N W Q) := by
  refine vfunO (Tf := fun {_} _ => fzT [2] (T ())) (fun {_} => tabOk.frz [2]) [(20, upF 0 11)] 400 Tryd.func26 rfl (fun {_} => by kernel_rfl) rfl (Nat.le_of_ble_eq_true rfl) @fun ⟨_, _, _, _, _, _, _, _, _, _, _, _, _, _, _, _, _, _, _, _, _, _, _, _, _, _, _, _, _, _, _, _, _, _, _, _, _, _, wp, wf⟩ R hR => ?_
  cbv
  try simp only [wp, (show ∀ n : Nat, _ = n from fun n => wf.2.2.2.2.2.2.2.2.2.2.2.2.2.1 (Int.ofNat n)), getL, takeL, dropL, TK.isAgg, reduceIte]
  refine (Valid c n V P0 hn).call ?_
  rintro _ ⟨b, hb, rfl⟩
  rcases hb.dich with ⟨rfl, v⟩ | ⟨rfl, v⟩ <;> clear hb <;> (cbv; try simp only [wp, (show ∀ n : Nat, _ = n from fun n => wf.2.2.2.2.2.2.2.2.2.2.2.2.2.1 (Int.ofNat n)), (show _ = (0 : Nat) from wf.2.2.2.2.2.2.2.2.2.2.2.2.2.1 0), getL, takeL, dropL, TK.isAgg, reduceIte])
  all_goals (refine Later.mk ?_; cbv; try simp only [wp, (show ∀ n : Nat, _ = n from fun n => wf.2.2.2.2.2.2.2.2.2.2.2.2.2.1 (Int.ofNat n)), (show _ = (0 : Nat) from wf.2.2.2.2.2.2.2.2.2.2.2.2.2.1 0), getL, takeL, dropL, TK.isAgg, reduceIte])
  · have h8 := v.2.2.1
    have h0 := v.1
    have hv0 : ∀ i, i < n → 0 ≤ V i := fun i hi => (v.2.2.2 i hi).1
    repeat' first | trivial | with_reducible refine And.intro ?_ ?_ | intro c9
    refine loopO (Tf := fun {_} _ => fzT [2] (T ())) (fun {_} => tabOk.frz [2]) [(20, upF 0 11)] 400 (fun i : Nat => ⟨[.undef, .d (.sl m 2 (lsF C N W Q)), .iptr (fun x j => getL [.int .i64 c, .sl n 2 (lvF V P0)] j .nilp) 0 0 2, .undef, .ptr 0 0, .d (.int .i64 0), .undef, .undef, .undef, .undef, .undef, .undef, .undef, .undef, .undef, .undef, .undef, .undef, .undef, .undef, .d (.sl n 2 (lvF V P0)), .d (.int .i64 n), .d (.int .i64 i), .undef, .undef, .undef, .undef, .undef, .undef, .undef, .undef, .undef, .undef, .undef, .undef, .undef, .undef, .undef, .undef, .undef, .undef, .undef, .undef, .undef, .undef, .undef, .undef, .undef, .undef, .undef, .undef, .undef, .undef, .undef, .undef, .undef, .undef, .undef, .undef, .undef, .undef, .undef, .undef, .undef, .undef, .undef, .undef, .undef, .undef, .undef, .undef, .undef, .undef, .undef, .undef, .undef, .undef, .undef, .undef, .undef, .undef, .undef, .undef, .undef, .undef, .undef, .undef, .undef, .undef, .undef, .undef, .undef, .undef, .undef, .undef, .undef, .undef, .undef, .undef, .undef, .undef, .undef], [.box [.d (.int .i64 0), .d (.sl 0 2 (lvF V P0))]]⟩) (fun i => n - i) (fun i => i ≤ n ∧ ∀ j, j < i → V j < m → ValidP (C (V j).toNat) (N (V j).toNat) (W (V j).toNat) (Q (V j).toNat)) 0 ⟨Nat.zero_le _, fun k hk => absurd hk (Nat.not_lt_zero _)⟩ (fun {_} => by kernel_rfl) ?_ (fun i => by kernel_rfl) @fun ⟨_, _, _, _, _, _, _, _, _, _, _, _, _, _, _, _, _, _, _, _, _, _, _, _, _, _, _, _, _, _, _, _, _, _, _, _, _, _, wpa, wfa⟩ i Bk hi hBk => ?_
    · ((cbv; try simp only [wf, exD, exL, exT, exB, exA, leLs, leL_d, leL_undef, leL_nils, leA_nils, deq_refl, deq_int, deq_bool, deq_str, and_true, true_and, AObj.iter.injEq, nc, nc']; try simp (disch := omega) only [w64, w32, wu8]); first | done | rfl | omega | (simp; done) | (simp; omega) | skip)
    obtain ⟨i1, i5⟩ := hi
    (cbv; try simp only [wp, (show ∀ n : Nat, _ = n from fun n => wf.2.2.2.2.2.2.2.2.2.2.2.2.2.1 (Int.ofNat n)), (show _ = (0 : Nat) from wf.2.2.2.2.2.2.2.2.2.2.2.2.2.1 0), wpa, (show ∀ n : Nat, _ = n from fun n => wfa.2.2.2.2.2.2.2.2.2.2.2.2.2.1 (Int.ofNat n)), (show _ = (0 : Nat) from wfa.2.2.2.2.2.2.2.2.2.2.2.2.2.1 0), getL, takeL, dropL, TK.isAgg, reduceIte])
    refine ⟨fun e => ?_, fun e => ?_⟩
    · have e : i < n := (by (try simp only [wf, wfa, nc, nc', Int.toNat_natCast, bsz, ByteArray.size_append, List.length_cons, List.length_nil] at *); (try simp (disch := omega) only [w64, w32, wu8] at *); first | done | omega)
      have hv0i := hv0 i e
      obtain ⟨z, hz⟩ : ∃ z, z = (V i).toNat := ⟨_, rfl⟩
      (refine Later.mk ?_; cbv; try simp only [wp, (show ∀ n : Nat, _ = n from fun n => wf.2.2.2.2.2.2.2.2.2.2.2.2.2.1 (Int.ofNat n)), (show _ = (0 : Nat) from wf.2.2.2.2.2.2.2.2.2.2.2.2.2.1 0), wpa, (show ∀ n : Nat, _ = n from fun n => wfa.2.2.2.2.2.2.2.2.2.2.2.2.2.1 (Int.ofNat n)), (show _ = (0 : Nat) from wfa.2.2.2.2.2.2.2.2.2.2.2.2.2.1 0), getL, takeL, dropL, TK.isAgg, reduceIte])
      repeat' first | with_reducible refine And.intro ?_ ?_ | intro c9
      all_goals first | exact (by (try simp only [wf, wfa, nc, nc', Int.toNat_natCast, bsz, ByteArray.size_append, List.length_cons, List.length_nil] at *); (try simp (disch := omega) only [w64, w32, wu8] at *); first | done | omega) | trivial | skip
      · have hV : V i < m := (by (try simp only [wf, wfa, nc, nc', Int.toNat_natCast, bsz, ByteArray.size_append, List.length_cons, List.length_nil] at *); (try simp (disch := omega) only [w64, w32, wu8] at *); first | done | omega)
        have key6 : SubP c n V P0 m C N W Q → ValidP (C (V i).toNat) (N (V i).toNat) (W (V i).toNat) (Q (V i).toNat) := fun h => h.2 i e hV
        have hNi := hN (V i).toNat (by omega)
        rw [← hz] at hNi key6
        refine (Valid _ _ _ _ (by ((try simp only [wf, wfa, nc, nc', Int.toNat_natCast, bsz, ByteArray.size_append, List.length_cons, List.length_nil] at *); (try simp (disch := omega) only [w64, w32, wu8] at *)); rw [← hz]; exact hNi)).call ?_
        rintro _ ⟨b, hb, rfl⟩
        rcases hb.dich with ⟨rfl, v'⟩ | ⟨rfl, v'⟩ <;> clear hb <;> (cbv; try simp only [wp, (show ∀ n : Nat, _ = n from fun n => wf.2.2.2.2.2.2.2.2.2.2.2.2.2.1 (Int.ofNat n)), (show _ = (0 : Nat) from wf.2.2.2.2.2.2.2.2.2.2.2.2.2.1 0), wpa, (show ∀ n : Nat, _ = n from fun n => wfa.2.2.2.2.2.2.2.2.2.2.2.2.2.1 (Int.ofNat n)), (show _ = (0 : Nat) from wfa.2.2.2.2.2.2.2.2.2.2.2.2.2.1 0), getL, takeL, dropL, TK.isAgg, reduceIte]) <;> (refine Later.mk ?_; cbv; try simp only [wp, (show ∀ n : Nat, _ = n from fun n => wf.2.2.2.2.2.2.2.2.2.2.2.2.2.1 (Int.ofNat n)), (show _ = (0 : Nat) from wf.2.2.2.2.2.2.2.2.2.2.2.2.2.1 0), wpa, (show ∀ n : Nat, _ = n from fun n => wfa.2.2.2.2.2.2.2.2.2.2.2.2.2.1 (Int.ofNat n)), (show _ = (0 : Nat) from wfa.2.2.2.2.2.2.2.2.2.2.2.2.2.1 0), getL, takeL, dropL, TK.isAgg, reduceIte])
        · refine hBk (i + 1) _ (by omega) ⟨by omega, fun j hj hj2 => ?_⟩ ?_
          · by_cases e2 : j = i
            · subst e2
              ((try simp only [wf, wfa, nc, nc', Int.toNat_natCast, bsz, ByteArray.size_append, List.length_cons, List.length_nil] at *); (try simp (disch := omega) only [w64, w32, wu8] at *))
              exact v'
            · exact i5 j (by omega) hj2
          · ((cbv; try simp only [wf, wfa, exD, exL, exT, exB, exA, leLs, leL_d, leL_undef, leL_nils, leA_nils, deq_refl, deq_int, deq_bool, deq_str, and_true, true_and, AObj.iter.injEq, nc, nc']; try simp (disch := omega) only [w64, w32, wu8]); first | done | rfl | omega | (simp; done) | (simp; omega) | skip)
        · repeat' first | trivial | with_reducible refine And.intro ?_ ?_ | intro c9
          all_goals exact hR _ _ _ (frz_err 4 _) (.inl ⟨fun h => v' (by have h7 := key6 h; ((try simp only [wf, wfa, nc, nc', Int.toNat_natCast, bsz, ByteArray.size_append, List.length_cons, List.length_nil] at *); (try simp (disch := omega) only [w64, w32, wu8] at *)); rw [← hz]; exact h7), .err 4⟩)
      · have hV : ¬ V i < m := (by (try simp only [wf, wfa, nc, nc', Int.toNat_natCast, bsz, ByteArray.size_append, List.length_cons, List.length_nil] at *); (try simp (disch := omega) only [w64, w32, wu8] at *); first | done | omega)
        (refine Later.mk ?_; cbv; try simp only [wp, (show ∀ n : Nat, _ = n from fun n => wf.2.2.2.2.2.2.2.2.2.2.2.2.2.1 (Int.ofNat n)), (show _ = (0 : Nat) from wf.2.2.2.2.2.2.2.2.2.2.2.2.2.1 0), wpa, (show ∀ n : Nat, _ = n from fun n => wfa.2.2.2.2.2.2.2.2.2.2.2.2.2.1 (Int.ofNat n)), (show _ = (0 : Nat) from wfa.2.2.2.2.2.2.2.2.2.2.2.2.2.1 0), getL, takeL, dropL, TK.isAgg, reduceIte])
        refine hBk (i + 1) _ (by omega) ⟨by omega, fun j hj hj2 => ?_⟩ ?_
        · by_cases e2 : j = i
          · subst e2; exact absurd hj2 hV
          · exact i5 j (by omega) hj2
        · ((cbv; try simp only [wf, wfa, exD, exL, exT, exB, exA, leLs, leL_d, leL_undef, leL_nils, leA_nils, deq_refl, deq_int, deq_bool, deq_str, and_true, true_and, AObj.iter.injEq, nc, nc']; try simp (disch := omega) only [w64, w32, wu8]); first | done | rfl | omega | (simp; done) | (simp; omega) | skip)
    · obtain rfl : n = i := (by (try simp only [wf, wfa, nc, nc', Int.toNat_natCast, bsz, ByteArray.size_append, List.length_cons, List.length_nil] at *); (try simp (disch := omega) only [w64, w32, wu8] at *); first | done | omega)
      (refine Later.mk ?_; cbv; try simp only [wp, (show ∀ n : Nat, _ = n from fun n => wf.2.2.2.2.2.2.2.2.2.2.2.2.2.1 (Int.ofNat n)), (show _ = (0 : Nat) from wf.2.2.2.2.2.2.2.2.2.2.2.2.2.1 0), wpa, (show ∀ n : Nat, _ = n from fun n => wfa.2.2.2.2.2.2.2.2.2.2.2.2.2.1 (Int.ofNat n)), (show _ = (0 : Nat) from wfa.2.2.2.2.2.2.2.2.2.2.2.2.2.1 0), getL, takeL, dropL, TK.isAgg, reduceIte])
      repeat' first | trivial | with_reducible refine And.intro ?_ ?_ | intro c9
      clear hBk
      refine (Sorted _ V P0 h8).call ?_
      rintro _ ⟨V', P', h1, h2, rfl⟩
      (cbv; try simp only [wp, (show ∀ n : Nat, _ = n from fun n => wf.2.2.2.2.2.2.2.2.2.2.2.2.2.1 (Int.ofNat n)), (show _ = (0 : Nat) from wf.2.2.2.2.2.2.2.2.2.2.2.2.2.1 0), wpa, (show ∀ n : Nat, _ = n from fun n => wfa.2.2.2.2.2.2.2.2.2.2.2.2.2.1 (Int.ofNat n)), (show _ = (0 : Nat) from wfa.2.2.2.2.2.2.2.2.2.2.2.2.2.1 0), getL, takeL, dropL, TK.isAgg, reduceIte])
      repeat' first | trivial | with_reducible refine And.intro ?_ ?_ | intro c9
      have hs : ∀ j, j < n → 0 ≤ V' j ∧ 0 ≤ P' j ∧ P' j ≤ 1000 ∧ (V' j < m → ValidP (C (V' j).toNat) (N (V' j).toNat) (W (V' j).toNat) (Q (V' j).toNat)) := fun j hj => by
        obtain ⟨l, hl, e⟩ := lst_mem.1 (h1.mem_iff.1 (lst_mem.2 ⟨j, hj, rfl⟩))
        obtain ⟨p1, p2, p3, p4, _⟩ := v.2.2.2 l hl
        obtain ⟨e1, e2⟩ := Prod.mk.inj e
        rw [e1, e2]
        exact ⟨p1, p3, p4, i5 l hl⟩
      refine loopO (Tf := fun {_} _ => fzT [2] (T ())) (fun {_} => tabOk.frz [2]) [(20, upF 0 11)] 400 (fun y : Uy => ⟨[.undef, .d (.sl m 2 (lsF C N W Q)), .undef, .undef, .ptr 0 0, .d (.int .i64 0), .undef, .undef, .d (.int .i64 y.c), .d (.sl y.k 2 (lvF y.V y.P)), .undef, .undef, .undef, .undef, .undef, .undef, .undef, .undef, .undef, .undef, .undef, .undef, .undef, .undef, .undef, .undef, .undef, .undef, .undef, .undef, .undef, .undef, .undef, .undef, .undef, .undef, .undef, .undef, .undef, .undef, .undef, .undef, .undef, .undef, .undef, .undef, .d (.sl n 2 (lvF V' P')), .d (.int .i64 n), .d (.int .i64 y.i), .undef, .undef, .undef, .undef, .undef, .undef, .undef, .undef, .undef, .undef, .undef, .undef, .undef, .undef, .undef, .undef, .undef, .undef, .undef, .undef, .undef, .undef, .undef, .undef, .undef, .undef, .undef, .undef, .undef, .undef, .undef, .undef, .undef, .undef, .undef, .undef, .undef, .undef, .undef, .undef, .undef, .undef, .undef, .undef, .undef, .undef, .undef, .undef, .undef, .undef, .undef, .undef, .undef], [.box [.d (.int .i64 0), .d (.sl 0 2 (lvF V P0))]]⟩) (fun y => n - y.i) (fun y => y.i ≤ n ∧ y.k ≤ 8 * y.i ∧ asc (lst y.V y.P y.k) ∧ (∀ v, mx (lst y.V y.P y.k) v = mx (big m (fun i => lst (W i) (Q i) (N i)) (lst V' P' y.i)) v) ∧ ScOk m C c (lst V' P' y.i) y.c) ⟨0, 0, c, V, P0⟩ ⟨Nat.zero_le _, Nat.zero_le _, by simp [asc, lst], fun v => rfl, .nil m C c⟩ (fun {_} => by kernel_rfl) ?_ (fun i => by kernel_rfl) @fun ⟨_, _, _, _, _, _, _, _, _, _, _, _, _, _, _, _, _, _, _, _, _, _, _, _, _, _, _, _, _, _, _, _, _, _, _, _, _, _, wpb, wfb⟩ ⟨i, k, c1, V1, P1⟩ Bk hi hBk => ?_
      · ((cbv; try simp only [wf, wfa, exD, exL, exT, exB, exA, leLs, leL_d, leL_undef, leL_nils, leA_nils, deq_refl, deq_int, deq_bool, deq_str, and_true, true_and, AObj.iter.injEq, nc, nc']; try simp (disch := omega) only [w64, w32, wu8]); first | done | rfl | omega | (simp; done) | (simp; omega) | skip)
      obtain ⟨j1, j2, j3, j4, j5⟩ := hi
      dsimp only at j1 j2 j3 j4 j5
      (cbv; try simp only [wp, (show ∀ n : Nat, _ = n from fun n => wf.2.2.2.2.2.2.2.2.2.2.2.2.2.1 (Int.ofNat n)), (show _ = (0 : Nat) from wf.2.2.2.2.2.2.2.2.2.2.2.2.2.1 0), wpa, (show ∀ n : Nat, _ = n from fun n => wfa.2.2.2.2.2.2.2.2.2.2.2.2.2.1 (Int.ofNat n)), (show _ = (0 : Nat) from wfa.2.2.2.2.2.2.2.2.2.2.2.2.2.1 0), wpb, (show ∀ n : Nat, _ = n from fun n => wfb.2.2.2.2.2.2.2.2.2.2.2.2.2.1 (Int.ofNat n)), (show _ = (0 : Nat) from wfb.2.2.2.2.2.2.2.2.2.2.2.2.2.1 0), getL, takeL, dropL, TK.isAgg, reduceIte])
      refine ⟨fun e => ?_, fun e => ?_⟩
      · have e : i < n := (by (try simp only [wf, wfa, wfb, nc, nc', Int.toNat_natCast, bsz, ByteArray.size_append, List.length_cons, List.length_nil] at *); (try simp (disch := omega) only [w64, w32, wu8] at *); first | done | omega)
        obtain ⟨s1, s2, s3, s4⟩ := hs i e
        (refine Later.mk ?_; cbv; try simp only [wp, (show ∀ n : Nat, _ = n from fun n => wf.2.2.2.2.2.2.2.2.2.2.2.2.2.1 (Int.ofNat n)), (show _ = (0 : Nat) from wf.2.2.2.2.2.2.2.2.2.2.2.2.2.1 0), wpa, (show ∀ n : Nat, _ = n from fun n => wfa.2.2.2.2.2.2.2.2.2.2.2.2.2.1 (Int.ofNat n)), (show _ = (0 : Nat) from wfa.2.2.2.2.2.2.2.2.2.2.2.2.2.1 0), wpb, (show ∀ n : Nat, _ = n from fun n => wfb.2.2.2.2.2.2.2.2.2.2.2.2.2.1 (Int.ofNat n)), (show _ = (0 : Nat) from wfb.2.2.2.2.2.2.2.2.2.2.2.2.2.1 0), getL, takeL, dropL, TK.isAgg, reduceIte])
        repeat' first | with_reducible refine And.intro ?_ ?_ | intro c9
        all_goals first | exact (by (try simp only [wf, wfa, wfb, nc, nc', Int.toNat_natCast, bsz, ByteArray.size_append, List.length_cons, List.length_nil] at *); (try simp (disch := omega) only [w64, w32, wu8] at *); first | done | omega) | trivial | skip
        · have hV : V' i < m := (by (try simp only [wf, wfa, wfb, nc, nc', Int.toNat_natCast, bsz, ByteArray.size_append, List.length_cons, List.length_nil] at *); (try simp (disch := omega) only [w64, w32, wu8] at *); first | done | omega)
          obtain ⟨z, hz⟩ : ∃ z, z = (V' i).toNat := ⟨_, rfl⟩
          have hz2 : V' i = z := by omega
          have v2 := s4 hV
          rw [← hz] at v2
          have hb : ∀ j, j < N z → 0 ≤ Q z j ∧ Q z j ≤ 1000 := fun j hj => ⟨(v2.2.2.2 j hj).2.2.1, (v2.2.2.2 j hj).2.2.2.1⟩
          have hN8 := v2.2.2.1
          have hC := v2.2.1
          have hC0 := v2.1
          (refine Later.mk ?_; cbv; try simp only [wp, (show ∀ n : Nat, _ = n from fun n => wf.2.2.2.2.2.2.2.2.2.2.2.2.2.1 (Int.ofNat n)), (show _ = (0 : Nat) from wf.2.2.2.2.2.2.2.2.2.2.2.2.2.1 0), wpa, (show ∀ n : Nat, _ = n from fun n => wfa.2.2.2.2.2.2.2.2.2.2.2.2.2.1 (Int.ofNat n)), (show _ = (0 : Nat) from wfa.2.2.2.2.2.2.2.2.2.2.2.2.2.1 0), wpb, (show ∀ n : Nat, _ = n from fun n => wfb.2.2.2.2.2.2.2.2.2.2.2.2.2.1 (Int.ofNat n)), (show _ = (0 : Nat) from wfb.2.2.2.2.2.2.2.2.2.2.2.2.2.1 0), getL, takeL, dropL, TK.isAgg, reduceIte])
          repeat' first | with_reducible refine And.intro ?_ ?_ | intro c9
          all_goals first | exact (by (try simp only [wf, wfa, wfb, nc, nc', Int.toNat_natCast, bsz, ByteArray.size_append, List.length_cons, List.length_nil] at *); (try simp (disch := omega) only [w64, w32, wu8] at *); first | done | omega) | trivial | skip
          refine CallW.within (SortedO _ _ _ (by ((try simp only [wf, wfa, wfb, nc, nc', Int.toNat_natCast, bsz, ByteArray.size_append, List.length_cons, List.length_nil] at *); (try simp (disch := omega) only [w64, w32, wu8] at *)); rw [← hz]; exact hN8)) [] rfl trivial rfl ?_
          rintro _ _ ⟨V2, P2, g1, g2, rfl, rfl⟩
          refine ⟨[_], [], rfl, Nat.zero_le _, ⟨Nat.zero_le _, trivial⟩, rfl, ?_⟩
          (cbv; try simp only [wp, (show ∀ n : Nat, _ = n from fun n => wf.2.2.2.2.2.2.2.2.2.2.2.2.2.1 (Int.ofNat n)), (show _ = (0 : Nat) from wf.2.2.2.2.2.2.2.2.2.2.2.2.2.1 0), wpa, (show ∀ n : Nat, _ = n from fun n => wfa.2.2.2.2.2.2.2.2.2.2.2.2.2.1 (Int.ofNat n)), (show _ = (0 : Nat) from wfa.2.2.2.2.2.2.2.2.2.2.2.2.2.1 0), wpb, (show ∀ n : Nat, _ = n from fun n => wfb.2.2.2.2.2.2.2.2.2.2.2.2.2.1 (Int.ofNat n)), (show _ = (0 : Nat) from wfb.2.2.2.2.2.2.2.2.2.2.2.2.2.1 0), getL, takeL, dropL, TK.isAgg, reduceIte])
          repeat' first | with_reducible refine And.intro ?_ ?_ | intro c9
          all_goals first | exact (by (try simp only [wf, wfa, wfb, nc, nc', Int.toNat_natCast, bsz, ByteArray.size_append, List.length_cons, List.length_nil] at *); (try simp (disch := omega) only [w64, w32, wu8] at *); first | done | omega) | trivial | skip
          have hb2 : ∀ j, j < N z → 0 ≤ P2 j ∧ P2 j ≤ 1000 := fun j hj => by
            have g1 : (lst V2 P2 (N z)).Perm (lst (W z) (Q z) (N z)) := by
              ((try simp only [wf, wfa, wfb, nc, nc', Int.toNat_natCast, bsz, ByteArray.size_append, List.length_cons, List.length_nil] at *); (try simp (disch := omega) only [w64, w32, wu8] at *))
              rw [← hz] at g1
              exact g1
            obtain ⟨l, hl, e⟩ := lst_mem.1 (g1.mem_iff.1 (lst_mem.2 ⟨j, hj, rfl⟩))
            rw [(Prod.mk.inj e).2]
            exact hb l hl
          obtain ⟨N0, hN0⟩ : ∃ N0, N0 = N z := ⟨_, rfl⟩
          have g1' : (lst V2 P2 N0).Perm (lst (W z) (Q z) N0) := by
            ((try simp only [wf, wfa, wfb, nc, nc', Int.toNat_natCast, bsz, ByteArray.size_append, List.length_cons, List.length_nil] at *); (try simp (disch := omega) only [w64, w32, wu8] at *))
            rw [← hz, ← hN0] at g1
            exact g1
          have g2' : upTo V2 N0 := by
            ((try simp only [wf, wfa, wfb, nc, nc', Int.toNat_natCast, bsz, ByteArray.size_append, List.length_cons, List.length_nil] at *); (try simp (disch := omega) only [w64, w32, wu8] at *))
            rw [← hz, ← hN0] at g2
            exact g2
          have hqa : asc (lst V2 P2 N0) := sorted_asc g1' (fun i k a b => (v2.2.2.2 i (by omega)).2.2.2.2 k a) g2'
          obtain ⟨c3, hc3⟩ : ∃ c3, c3 = max c1 (C z + P' i) := ⟨_, rfl⟩
          have hsc : ScOk m C c (lst V' P' (i + 1)) c3 := by
            have := j5.put (x := (V' i, P' i)) hV
            dsimp only at this
            rw [← hz, ← hc3] at this
            exact this
          have hq : ∀ v, mx (big1 m (fun i => lst (W i) (Q i) (N i)) (V' i, P' i)) v = mx ((lst V2 P2 N0).map fun x => (x.1, x.2 + P' i)) v := fun v => by
            unfold big1
            rw [if_pos hV]
            dsimp only
            rw [← hz, ← hN0]
            exact (mx_perm (g1'.map _) v).symm
          rw [← hN0] at hb2 hN8
          refine loopO (Tf := fun {_} _ => fzT [2] (T ())) (fun {_} => tabOk.frz [2]) [(20, upF 0 11)] 400 (fun j : Nat => ⟨[.undef, .d (.sl m 2 (lsF C N W Q)), .undef, .undef, .ptr 0 0, .d (.int .i64 0), .undef, .undef, .d (.int .i64 c1), .d (.sl k 2 (lvF V1 P1)), .undef, .ptr 1 0, .ptr 3 0, .ref 4 0 (N0) 2, .undef, .undef, .undef, .undef, .undef, .undef, .undef, .undef, .undef, .undef, .undef, .undef, .undef, .undef, .undef, .undef, .undef, .undef, .undef, .undef, .undef, .undef, .undef, .undef, .undef, .undef, .undef, .undef, .undef, .undef, .undef, .undef, .d (.sl n 2 (lvF V' P')), .d (.int .i64 n), .d (.int .i64 i), .undef, .undef, .undef, .undef, .undef, .undef, .undef, .undef, .undef, .undef, .undef, .undef, .undef, .undef, .undef, .undef, .undef, .undef, .undef, .undef, .undef, .undef, .d (.int .i64 (N0 : Nat)), .d (.int .i64 j), .undef, .undef, .undef, .undef, .undef, .undef, .undef, .undef, .undef, .undef, .undef, .undef, .undef, .undef, .undef, .undef, .undef, .undef, .undef, .undef, .undef, .undef, .undef, .undef, .undef, .undef, .undef, .undef, .undef], [.box [.d (.int .i64 0), .d (.sl 0 2 (lvF V P0))], .box [.d (.int .i64 (V' i)), .d (.int .i64 (P' i))], .arr 1 2 (lvF (fun _ => V' i) fun _ => 0) 0, .box [.d (.int .i64 (C z)), .d (.sl N0 2 (lvF (W z) (Q z)))], .arr (N0) 2 (lvF V2 (addU P2 (P' i) j)) 0]⟩) (fun j => N0 - j) (fun j => j ≤ N0) 0 (Nat.zero_le _) (fun {_} => by kernel_rfl) ?_ (fun i => by kernel_rfl) @fun ⟨_, _, _, _, _, _, _, _, _, _, _, _, _, _, _, _, _, _, _, _, _, _, _, _, _, _, _, _, _, _, _, _, _, _, _, _, _, _, wpc, wfc⟩ j Bk2 hj hBk2 => ?_
          · (cbv; try simp only [wf, wfa, wfb, exD, exL, exT, exB, exA, leLs, leL_d, leL_undef, leL_nils, leA_nils, deq_refl, deq_int, deq_bool, deq_str, and_true, true_and, AObj.iter.injEq, nc, nc']; try simp (disch := omega) only [w64, w32, wu8])
            ((try simp only [wf, wfa, wfb, nc, nc', Int.toNat_natCast, bsz, ByteArray.size_append, List.length_cons, List.length_nil] at *); (try simp (disch := omega) only [w64, w32, wu8] at *))
            rw [← hz, ← hN0]
            exact ⟨⟨rfl, rfl, rfl⟩, ⟨Nat.le_refl _, Nat.zero_le _, fun x j hx hj => .of_eq (row1 _ _ x j hx hj)⟩, ⟨rfl, .refl _⟩, rfl, Nat.le_refl _, Nat.zero_le _, fun x j hx hj => .of_eq (by match j, hj with | 0, _ => rfl | 1, _ => simp [lvF, addU])⟩
          have hA := addU_at P2 (P' i) j
          obtain ⟨pi, hpi⟩ : ∃ pi, pi = addU P2 (P' i) := ⟨_, rfl⟩
          rw [← hpi] at hA
          rw [← hpi] at hBk2 ⊢
          (cbv; try simp only [wp, (show ∀ n : Nat, _ = n from fun n => wf.2.2.2.2.2.2.2.2.2.2.2.2.2.1 (Int.ofNat n)), (show _ = (0 : Nat) from wf.2.2.2.2.2.2.2.2.2.2.2.2.2.1 0), wpa, (show ∀ n : Nat, _ = n from fun n => wfa.2.2.2.2.2.2.2.2.2.2.2.2.2.1 (Int.ofNat n)), (show _ = (0 : Nat) from wfa.2.2.2.2.2.2.2.2.2.2.2.2.2.1 0), wpb, (show ∀ n : Nat, _ = n from fun n => wfb.2.2.2.2.2.2.2.2.2.2.2.2.2.1 (Int.ofNat n)), (show _ = (0 : Nat) from wfb.2.2.2.2.2.2.2.2.2.2.2.2.2.1 0), wpc, (show ∀ n : Nat, _ = n from fun n => wfc.2.2.2.2.2.2.2.2.2.2.2.2.2.1 (Int.ofNat n)), (show _ = (0 : Nat) from wfc.2.2.2.2.2.2.2.2.2.2.2.2.2.1 0), getL, takeL, dropL, TK.isAgg, reduceIte])
          refine ⟨fun e2 => ?_, fun e2 => ?_⟩
          · have e2 : j < N0 := (by (try simp only [wf, wfa, wfb, wfc, nc, nc', Int.toNat_natCast, bsz, ByteArray.size_append, List.length_cons, List.length_nil] at *); (try simp (disch := omega) only [w64, w32, wu8] at *); first | done | omega)
            have := hb2 j e2
            (refine Later.mk ?_; cbv; try simp only [wp, (show ∀ n : Nat, _ = n from fun n => wf.2.2.2.2.2.2.2.2.2.2.2.2.2.1 (Int.ofNat n)), (show _ = (0 : Nat) from wf.2.2.2.2.2.2.2.2.2.2.2.2.2.1 0), wpa, (show ∀ n : Nat, _ = n from fun n => wfa.2.2.2.2.2.2.2.2.2.2.2.2.2.1 (Int.ofNat n)), (show _ = (0 : Nat) from wfa.2.2.2.2.2.2.2.2.2.2.2.2.2.1 0), wpb, (show ∀ n : Nat, _ = n from fun n => wfb.2.2.2.2.2.2.2.2.2.2.2.2.2.1 (Int.ofNat n)), (show _ = (0 : Nat) from wfb.2.2.2.2.2.2.2.2.2.2.2.2.2.1 0), wpc, (show ∀ n : Nat, _ = n from fun n => wfc.2.2.2.2.2.2.2.2.2.2.2.2.2.1 (Int.ofNat n)), (show _ = (0 : Nat) from wfc.2.2.2.2.2.2.2.2.2.2.2.2.2.1 0), getL, takeL, dropL, TK.isAgg, reduceIte])
            repeat' first | with_reducible refine And.intro ?_ ?_ | intro c9
            all_goals first | exact (by (try simp only [wf, wfa, wfb, wfc, nc, nc', Int.toNat_natCast, bsz, ByteArray.size_append, List.length_cons, List.length_nil] at *); (try simp (disch := omega) only [w64, w32, wu8] at *); first | done | omega) | trivial | skip
            refine hBk2 (j + 1) _ (by omega) (by omega) ?_
            (cbv; try simp only [wf, wfa, wfb, wfc, exD, exL, exT, exB, exA, leLs, leL_d, leL_undef, leL_nils, leA_nils, deq_refl, deq_int, deq_bool, deq_str, and_true, true_and, AObj.iter.injEq, nc, nc']; try simp (disch := omega) only [w64, w32, wu8])
            ((try simp only [wf, wfa, wfb, wfc, nc, nc', Int.toNat_natCast, bsz, ByteArray.size_append, List.length_cons, List.length_nil] at *); (try simp (disch := omega) only [w64, w32, wu8] at *))
            rw [hA]
            refine ⟨by omega, ⟨Nat.le_refl _, Nat.zero_le _, fun _ _ _ _ => trivial⟩, Nat.le_refl _, Nat.zero_le _, fun x j2 hx hj => .of_eq ?_⟩
            rw [hpi]
            exact addU_step V2 P2 (P' i) j x j2 hj
          · obtain rfl : j = N0 := (by (try simp only [wf, wfa, wfb, wfc, nc, nc', Int.toNat_natCast, bsz, ByteArray.size_append, List.length_cons, List.length_nil] at *); (try simp (disch := omega) only [w64, w32, wu8] at *); first | done | omega)
            have el : lst V2 (pi j) j = (lst V2 P2 j).map fun x => (x.1, x.2 + P' i) := by
              rw [← lst_add_map]
              exact lst_congr fun k hk => ⟨rfl, by rw [hpi]; exact if_pos hk⟩
            have hqa2 : asc (lst V2 (pi j) j) := lst_asc fun k l h3 h4 => asc_dist hqa k l h3 h4
            have fin : ∀ k3 V3 P3, lst V3 P3 k3 = joinL (lst V1 P1 k) (lst V2 (pi j) j) → asc (lst V3 P3 k3) ∧ ∀ v, mx (lst V3 P3 k3) v = mx (big m (fun i => lst (W i) (Q i) (N i)) (lst V' P' (i + 1))) v := fun k3 V3 P3 h => by
              have hj := joinL_spec j3 hqa2
              rw [h]
              refine ⟨hj.1, fun v => ?_⟩
              rw [hj.2, j4, lst, big_snoc, mx_append, hq, el]
            (refine Later.mk ?_; cbv; try simp only [wp, (show ∀ n : Nat, _ = n from fun n => wf.2.2.2.2.2.2.2.2.2.2.2.2.2.1 (Int.ofNat n)), (show _ = (0 : Nat) from wf.2.2.2.2.2.2.2.2.2.2.2.2.2.1 0), wpa, (show ∀ n : Nat, _ = n from fun n => wfa.2.2.2.2.2.2.2.2.2.2.2.2.2.1 (Int.ofNat n)), (show _ = (0 : Nat) from wfa.2.2.2.2.2.2.2.2.2.2.2.2.2.1 0), wpb, (show ∀ n : Nat, _ = n from fun n => wfb.2.2.2.2.2.2.2.2.2.2.2.2.2.1 (Int.ofNat n)), (show _ = (0 : Nat) from wfb.2.2.2.2.2.2.2.2.2.2.2.2.2.1 0), wpc, (show ∀ n : Nat, _ = n from fun n => wfc.2.2.2.2.2.2.2.2.2.2.2.2.2.1 (Int.ofNat n)), (show _ = (0 : Nat) from wfc.2.2.2.2.2.2.2.2.2.2.2.2.2.1 0), getL, takeL, dropL, TK.isAgg, reduceIte])
            repeat' first | trivial | with_reducible refine And.intro ?_ ?_ | intro c9
            all_goals (refine CallW.frz @fun ⟨_, _, _, _, _, _, _, _, _, _, _, _, _, _, _, _, _, _, _, _, _, _, _, _, _, _, _, _, _, _, _, _, _, _, _, _, _, _, wpz, wfz⟩ => ?_; cbv; try simp only [wpz, wp, (show ∀ n : Nat, _ = n from fun n => wfz.2.2.2.2.2.2.2.2.2.2.2.2.2.1 (Int.ofNat n)), getL, takeL, dropL, TK.isAgg, reduceIte])
            all_goals repeat' first | trivial | with_reducible refine And.intro ?_ ?_ | intro c9
            all_goals
              refine (joinedF _ _ _ _ _ _ (by omega) (by omega)).call ?_
              rintro _ ⟨k3, V3, P3, h3, h4, rfl⟩
              (cbv; try simp only [wp, (show ∀ n : Nat, _ = n from fun n => wf.2.2.2.2.2.2.2.2.2.2.2.2.2.1 (Int.ofNat n)), (show _ = (0 : Nat) from wf.2.2.2.2.2.2.2.2.2.2.2.2.2.1 0), wpa, (show ∀ n : Nat, _ = n from fun n => wfa.2.2.2.2.2.2.2.2.2.2.2.2.2.1 (Int.ofNat n)), (show _ = (0 : Nat) from wfa.2.2.2.2.2.2.2.2.2.2.2.2.2.1 0), wpb, (show ∀ n : Nat, _ = n from fun n => wfb.2.2.2.2.2.2.2.2.2.2.2.2.2.1 (Int.ofNat n)), (show _ = (0 : Nat) from wfb.2.2.2.2.2.2.2.2.2.2.2.2.2.1 0), wpc, (show ∀ n : Nat, _ = n from fun n => wfc.2.2.2.2.2.2.2.2.2.2.2.2.2.1 (Int.ofNat n)), (show _ = (0 : Nat) from wfc.2.2.2.2.2.2.2.2.2.2.2.2.2.1 0), getL, takeL, dropL, TK.isAgg, reduceIte])
              repeat' first | trivial | with_reducible refine And.intro ?_ ?_ | intro c9
            all_goals
              first
              | exact (by (try simp only [wf, wfa, wfb, wfc, nc, nc', Int.toNat_natCast, bsz, ByteArray.size_append, List.length_cons, List.length_nil] at *); (try simp (disch := omega) only [w64, w32, wu8] at *); first | done | omega)
              | refine hBk ⟨i + 1, k3, c3, V3, P3⟩ _ (by dsimp only; omega) ⟨by dsimp only; omega, by dsimp only; omega, (fin _ _ _ h3).1, (fin _ _ _ h3).2, hsc⟩ ?_
            all_goals
              (cbv; try simp only [wf, wfa, wfb, wfc, exD, exL, exT, exB, exA, leLs, leL_d, leL_undef, leL_nils, leA_nils, deq_refl, deq_int, deq_bool, deq_str, and_true, true_and, AObj.iter.injEq, nc, nc']; try simp (disch := omega) only [w64, w32, wu8])
              ((try simp only [wf, wfa, wfb, wfc, nc, nc', Int.toNat_natCast, bsz, ByteArray.size_append, List.length_cons, List.length_nil] at *); (try simp (disch := omega) only [w64, w32, wu8] at *))
              exact ⟨by rw [hc3]; split <;> omega, by omega⟩
        · have hV : ¬ V' i < m := (by (try simp only [wf, wfa, wfb, nc, nc', Int.toNat_natCast, bsz, ByteArray.size_append, List.length_cons, List.length_nil] at *); (try simp (disch := omega) only [w64, w32, wu8] at *); first | done | omega)
          (refine Later.mk ?_; cbv; try simp only [wp, (show ∀ n : Nat, _ = n from fun n => wf.2.2.2.2.2.2.2.2.2.2.2.2.2.1 (Int.ofNat n)), (show _ = (0 : Nat) from wf.2.2.2.2.2.2.2.2.2.2.2.2.2.1 0), wpa, (show ∀ n : Nat, _ = n from fun n => wfa.2.2.2.2.2.2.2.2.2.2.2.2.2.1 (Int.ofNat n)), (show _ = (0 : Nat) from wfa.2.2.2.2.2.2.2.2.2.2.2.2.2.1 0), wpb, (show ∀ n : Nat, _ = n from fun n => wfb.2.2.2.2.2.2.2.2.2.2.2.2.2.1 (Int.ofNat n)), (show _ = (0 : Nat) from wfb.2.2.2.2.2.2.2.2.2.2.2.2.2.1 0), getL, takeL, dropL, TK.isAgg, reduceIte])
          repeat' first | with_reducible refine And.intro ?_ ?_ | intro c9
          all_goals first | exact (by (try simp only [wf, wfa, wfb, nc, nc', Int.toNat_natCast, bsz, ByteArray.size_append, List.length_cons, List.length_nil] at *); (try simp (disch := omega) only [w64, w32, wu8] at *); first | done | omega) | trivial | skip
          (refine CallW.frz @fun ⟨_, _, _, _, _, _, _, _, _, _, _, _, _, _, _, _, _, _, _, _, _, _, _, _, _, _, _, _, _, _, _, _, _, _, _, _, _, _, wpz, wfz⟩ => ?_; cbv; try simp only [wpz, wp, (show ∀ n : Nat, _ = n from fun n => wfz.2.2.2.2.2.2.2.2.2.2.2.2.2.1 (Int.ofNat n)), getL, takeL, dropL, TK.isAgg, reduceIte])
          repeat' first | trivial | with_reducible refine And.intro ?_ ?_ | intro c9
          refine CallW.args (args' := [.d (.sl 1 2 (lvF (fun _ => V' i) fun _ => 0))]) (fun {_ _} => ⟨?_, trivial⟩) (CallW.within (SortedO 1 (fun _ => V' i) (fun _ => 0) (by decide)) [] rfl trivial rfl ?_)
          · ((try simp only [wf, wfa, wfb, nc, nc', Int.toNat_natCast, bsz, ByteArray.size_append, List.length_cons, List.length_nil] at *); (try simp (disch := omega) only [w64, w32, wu8] at *))
            exact .sl _ _ _ _ fun x j hx hj => .of_eq (row1 _ _ x j hx hj)
          rintro _ _ ⟨V2, P2, g1, g2, rfl, rfl⟩
          refine ⟨[_], [], rfl, Nat.zero_le _, ⟨Nat.zero_le _, trivial⟩, rfl, ?_⟩
          (cbv; try simp only [wp, (show ∀ n : Nat, _ = n from fun n => wf.2.2.2.2.2.2.2.2.2.2.2.2.2.1 (Int.ofNat n)), (show _ = (0 : Nat) from wf.2.2.2.2.2.2.2.2.2.2.2.2.2.1 0), wpa, (show ∀ n : Nat, _ = n from fun n => wfa.2.2.2.2.2.2.2.2.2.2.2.2.2.1 (Int.ofNat n)), (show _ = (0 : Nat) from wfa.2.2.2.2.2.2.2.2.2.2.2.2.2.1 0), wpb, (show ∀ n : Nat, _ = n from fun n => wfb.2.2.2.2.2.2.2.2.2.2.2.2.2.1 (Int.ofNat n)), (show _ = (0 : Nat) from wfb.2.2.2.2.2.2.2.2.2.2.2.2.2.1 0), getL, takeL, dropL, TK.isAgg, reduceIte])
          repeat' first | with_reducible refine And.intro ?_ ?_ | intro c9
          all_goals first | exact (by (try simp only [wf, wfa, wfb, nc, nc', Int.toNat_natCast, bsz, ByteArray.size_append, List.length_cons, List.length_nil] at *); (try simp (disch := omega) only [w64, w32, wu8] at *); first | done | omega) | trivial | skip
          have g1' := g1
          have hb2 : ∀ j, j < 1 → 0 ≤ P2 j ∧ P2 j ≤ 1000 := fun j hj => by
            obtain ⟨l, hl, e⟩ := lst_mem.1 (g1.mem_iff.1 (lst_mem.2 ⟨j, hj, rfl⟩))
            rw [(Prod.mk.inj e).2]
            exact ⟨Int.le_refl _, by decide⟩
          have hqa : asc (lst V2 P2 1) := sorted_asc g1 (fun k l h3 h4 => by omega) g2
          obtain ⟨c3, hc3⟩ : ∃ c3, c3 = max c1 (P' i) := ⟨_, rfl⟩
          have hsc : ScOk m C c (lst V' P' (i + 1)) c3 := by
            have := j5.stay (x := (V' i, P' i)) hV
            dsimp only at this
            rw [← hc3] at this
            exact this
          have hq : ∀ v, mx (big1 m (fun i => lst (W i) (Q i) (N i)) (V' i, P' i)) v = mx ((lst V2 P2 1).map fun x => (x.1, x.2 + P' i)) v := fun v => by
            unfold big1
            rw [if_neg hV, mx_perm (g1.map _) v]
            simp [lst]
          obtain ⟨N0, hN0⟩ : ∃ N0 : Nat, N0 = 1 := ⟨_, rfl⟩
          have hN8 : N0 ≤ 8 := by omega
          rw [← hN0] at hb2 hqa hq
          refine loopO (Tf := fun {_} _ => fzT [2] (T ())) (fun {_} => tabOk.frz [2]) [(20, upF 0 11)] 400 (fun j : Nat => ⟨[.undef, .d (.sl m 2 (lsF C N W Q)), .undef, .undef, .ptr 0 0, .d (.int .i64 0), .undef, .undef, .d (.int .i64 c1), .d (.sl k 2 (lvF V1 P1)), .undef, .ptr 1 0, .ptr 3 0, .ref 4 0 (N0) 2, .undef, .undef, .undef, .undef, .undef, .undef, .undef, .undef, .undef, .undef, .undef, .undef, .undef, .undef, .undef, .undef, .undef, .undef, .undef, .undef, .undef, .undef, .undef, .undef, .undef, .undef, .undef, .undef, .undef, .undef, .undef, .undef, .d (.sl n 2 (lvF V' P')), .d (.int .i64 n), .d (.int .i64 i), .undef, .undef, .undef, .undef, .undef, .undef, .undef, .undef, .undef, .undef, .undef, .undef, .undef, .undef, .undef, .undef, .undef, .undef, .undef, .undef, .undef, .undef, .d (.int .i64 (N0 : Nat)), .d (.int .i64 j), .undef, .undef, .undef, .undef, .undef, .undef, .undef, .undef, .undef, .undef, .undef, .undef, .undef, .undef, .undef, .undef, .undef, .undef, .undef, .undef, .undef, .undef, .undef, .undef, .undef, .undef, .undef, .undef, .undef], [.box [.d (.int .i64 0), .d (.sl 0 2 (lvF V P0))], .box [.d (.int .i64 (V' i)), .d (.int .i64 (P' i))], .arr 1 2 (lvF (fun _ => V' i) fun _ => 0) 1, .box [.d (.int .i64 0), .ref 2 0 1 2], .arr (N0) 2 (lvF V2 (addU P2 (P' i) j)) 0]⟩) (fun j => N0 - j) (fun j => j ≤ N0) 0 (Nat.zero_le _) (fun {_} => by kernel_rfl) ?_ (fun i => by kernel_rfl) @fun ⟨_, _, _, _, _, _, _, _, _, _, _, _, _, _, _, _, _, _, _, _, _, _, _, _, _, _, _, _, _, _, _, _, _, _, _, _, _, _, wpc, wfc⟩ j Bk2 hj hBk2 => ?_
          · subst hN0
            (cbv; try simp only [wf, wfa, wfb, exD, exL, exT, exB, exA, leLs, leL_d, leL_undef, leL_nils, leA_nils, deq_refl, deq_int, deq_bool, deq_str, and_true, true_and, AObj.iter.injEq, nc, nc']; try simp (disch := omega) only [w64, w32, wu8])
            ((try simp only [wf, wfa, wfb, nc, nc', Int.toNat_natCast, bsz, ByteArray.size_append, List.length_cons, List.length_nil] at *); (try simp (disch := omega) only [w64, w32, wu8] at *))
            
            exact ⟨rfl, ⟨Nat.le_refl _, Nat.le_refl _, fun x j hx hj => .of_eq (row1 _ _ x j hx hj)⟩, lref _ _ _ _, Nat.le_refl _, Nat.zero_le _, fun x j hx hj => .of_eq (by match j, hj with | 0, _ => rfl | 1, _ => simp [lvF, addU])⟩
          have hA := addU_at P2 (P' i) j
          obtain ⟨pi, hpi⟩ : ∃ pi, pi = addU P2 (P' i) := ⟨_, rfl⟩
          rw [← hpi] at hA
          rw [← hpi] at hBk2 ⊢
          (cbv; try simp only [wp, (show ∀ n : Nat, _ = n from fun n => wf.2.2.2.2.2.2.2.2.2.2.2.2.2.1 (Int.ofNat n)), (show _ = (0 : Nat) from wf.2.2.2.2.2.2.2.2.2.2.2.2.2.1 0), wpa, (show ∀ n : Nat, _ = n from fun n => wfa.2.2.2.2.2.2.2.2.2.2.2.2.2.1 (Int.ofNat n)), (show _ = (0 : Nat) from wfa.2.2.2.2.2.2.2.2.2.2.2.2.2.1 0), wpb, (show ∀ n : Nat, _ = n from fun n => wfb.2.2.2.2.2.2.2.2.2.2.2.2.2.1 (Int.ofNat n)), (show _ = (0 : Nat) from wfb.2.2.2.2.2.2.2.2.2.2.2.2.2.1 0), wpc, (show ∀ n : Nat, _ = n from fun n => wfc.2.2.2.2.2.2.2.2.2.2.2.2.2.1 (Int.ofNat n)), (show _ = (0 : Nat) from wfc.2.2.2.2.2.2.2.2.2.2.2.2.2.1 0), getL, takeL, dropL, TK.isAgg, reduceIte])
          refine ⟨fun e2 => ?_, fun e2 => ?_⟩
          · have e2 : j < N0 := (by (try simp only [wf, wfa, wfb, wfc, nc, nc', Int.toNat_natCast, bsz, ByteArray.size_append, List.length_cons, List.length_nil] at *); (try simp (disch := omega) only [w64, w32, wu8] at *); first | done | omega)
            have := hb2 j e2
            (refine Later.mk ?_; cbv; try simp only [wp, (show ∀ n : Nat, _ = n from fun n => wf.2.2.2.2.2.2.2.2.2.2.2.2.2.1 (Int.ofNat n)), (show _ = (0 : Nat) from wf.2.2.2.2.2.2.2.2.2.2.2.2.2.1 0), wpa, (show ∀ n : Nat, _ = n from fun n => wfa.2.2.2.2.2.2.2.2.2.2.2.2.2.1 (Int.ofNat n)), (show _ = (0 : Nat) from wfa.2.2.2.2.2.2.2.2.2.2.2.2.2.1 0), wpb, (show ∀ n : Nat, _ = n from fun n => wfb.2.2.2.2.2.2.2.2.2.2.2.2.2.1 (Int.ofNat n)), (show _ = (0 : Nat) from wfb.2.2.2.2.2.2.2.2.2.2.2.2.2.1 0), wpc, (show ∀ n : Nat, _ = n from fun n => wfc.2.2.2.2.2.2.2.2.2.2.2.2.2.1 (Int.ofNat n)), (show _ = (0 : Nat) from wfc.2.2.2.2.2.2.2.2.2.2.2.2.2.1 0), getL, takeL, dropL, TK.isAgg, reduceIte])
            repeat' first | with_reducible refine And.intro ?_ ?_ | intro c9
            all_goals first | exact (by (try simp only [wf, wfa, wfb, wfc, nc, nc', Int.toNat_natCast, bsz, ByteArray.size_append, List.length_cons, List.length_nil] at *); (try simp (disch := omega) only [w64, w32, wu8] at *); first | done | omega) | trivial | skip
            refine hBk2 (j + 1) _ (by omega) (by omega) ?_
            (cbv; try simp only [wf, wfa, wfb, wfc, exD, exL, exT, exB, exA, leLs, leL_d, leL_undef, leL_nils, leA_nils, deq_refl, deq_int, deq_bool, deq_str, and_true, true_and, AObj.iter.injEq, nc, nc']; try simp (disch := omega) only [w64, w32, wu8])
            ((try simp only [wf, wfa, wfb, wfc, nc, nc', Int.toNat_natCast, bsz, ByteArray.size_append, List.length_cons, List.length_nil] at *); (try simp (disch := omega) only [w64, w32, wu8] at *))
            rw [hA]
            refine ⟨by omega, ⟨Nat.le_refl _, Nat.le_refl _, fun _ _ _ _ => trivial⟩, lref _ _ _ _, Nat.le_refl _, Nat.zero_le _, fun x j2 hx hj => .of_eq ?_⟩
            rw [hpi]
            exact addU_step V2 P2 (P' i) j x j2 hj
          · obtain rfl : j = N0 := (by (try simp only [wf, wfa, wfb, wfc, nc, nc', Int.toNat_natCast, bsz, ByteArray.size_append, List.length_cons, List.length_nil] at *); (try simp (disch := omega) only [w64, w32, wu8] at *); first | done | omega)
            have el : lst V2 (pi j) j = (lst V2 P2 j).map fun x => (x.1, x.2 + P' i) := by
              rw [← lst_add_map]
              exact lst_congr fun k hk => ⟨rfl, by rw [hpi]; exact if_pos hk⟩
            have hqa2 : asc (lst V2 (pi j) j) := lst_asc fun k l h3 h4 => asc_dist hqa k l h3 h4
            have fin : ∀ k3 V3 P3, lst V3 P3 k3 = joinL (lst V1 P1 k) (lst V2 (pi j) j) → asc (lst V3 P3 k3) ∧ ∀ v, mx (lst V3 P3 k3) v = mx (big m (fun i => lst (W i) (Q i) (N i)) (lst V' P' (i + 1))) v := fun k3 V3 P3 h => by
              have hj := joinL_spec j3 hqa2
              rw [h]
              refine ⟨hj.1, fun v => ?_⟩
              rw [hj.2, j4, lst, big_snoc, mx_append, hq, el]
            (refine Later.mk ?_; cbv; try simp only [wp, (show ∀ n : Nat, _ = n from fun n => wf.2.2.2.2.2.2.2.2.2.2.2.2.2.1 (Int.ofNat n)), (show _ = (0 : Nat) from wf.2.2.2.2.2.2.2.2.2.2.2.2.2.1 0), wpa, (show ∀ n : Nat, _ = n from fun n => wfa.2.2.2.2.2.2.2.2.2.2.2.2.2.1 (Int.ofNat n)), (show _ = (0 : Nat) from wfa.2.2.2.2.2.2.2.2.2.2.2.2.2.1 0), wpb, (show ∀ n : Nat, _ = n from fun n => wfb.2.2.2.2.2.2.2.2.2.2.2.2.2.1 (Int.ofNat n)), (show _ = (0 : Nat) from wfb.2.2.2.2.2.2.2.2.2.2.2.2.2.1 0), wpc, (show ∀ n : Nat, _ = n from fun n => wfc.2.2.2.2.2.2.2.2.2.2.2.2.2.1 (Int.ofNat n)), (show _ = (0 : Nat) from wfc.2.2.2.2.2.2.2.2.2.2.2.2.2.1 0), getL, takeL, dropL, TK.isAgg, reduceIte])
            repeat' first | trivial | with_reducible refine And.intro ?_ ?_ | intro c9
            all_goals (refine CallW.frz @fun ⟨_, _, _, _, _, _, _, _, _, _, _, _, _, _, _, _, _, _, _, _, _, _, _, _, _, _, _, _, _, _, _, _, _, _, _, _, _, _, wpz, wfz⟩ => ?_; cbv; try simp only [wpz, wp, (show ∀ n : Nat, _ = n from fun n => wfz.2.2.2.2.2.2.2.2.2.2.2.2.2.1 (Int.ofNat n)), getL, takeL, dropL, TK.isAgg, reduceIte])
            all_goals repeat' first | trivial | with_reducible refine And.intro ?_ ?_ | intro c9
            all_goals
              refine (joinedF _ _ _ _ _ _ (by omega) (by omega)).call ?_
              rintro _ ⟨k3, V3, P3, h3, h4, rfl⟩
              (cbv; try simp only [wp, (show ∀ n : Nat, _ = n from fun n => wf.2.2.2.2.2.2.2.2.2.2.2.2.2.1 (Int.ofNat n)), (show _ = (0 : Nat) from wf.2.2.2.2.2.2.2.2.2.2.2.2.2.1 0), wpa, (show ∀ n : Nat, _ = n from fun n => wfa.2.2.2.2.2.2.2.2.2.2.2.2.2.1 (Int.ofNat n)), (show _ = (0 : Nat) from wfa.2.2.2.2.2.2.2.2.2.2.2.2.2.1 0), wpb, (show ∀ n : Nat, _ = n from fun n => wfb.2.2.2.2.2.2.2.2.2.2.2.2.2.1 (Int.ofNat n)), (show _ = (0 : Nat) from wfb.2.2.2.2.2.2.2.2.2.2.2.2.2.1 0), wpc, (show ∀ n : Nat, _ = n from fun n => wfc.2.2.2.2.2.2.2.2.2.2.2.2.2.1 (Int.ofNat n)), (show _ = (0 : Nat) from wfc.2.2.2.2.2.2.2.2.2.2.2.2.2.1 0), getL, takeL, dropL, TK.isAgg, reduceIte])
              repeat' first | trivial | with_reducible refine And.intro ?_ ?_ | intro c9
            all_goals
              first
              | exact (by (try simp only [wf, wfa, wfb, wfc, nc, nc', Int.toNat_natCast, bsz, ByteArray.size_append, List.length_cons, List.length_nil] at *); (try simp (disch := omega) only [w64, w32, wu8] at *); first | done | omega)
              | refine hBk ⟨i + 1, k3, c3, V3, P3⟩ _ (by dsimp only; omega) ⟨by dsimp only; omega, by dsimp only; omega, (fin _ _ _ h3).1, (fin _ _ _ h3).2, hsc⟩ ?_
            all_goals
              (cbv; try simp only [wf, wfa, wfb, wfc, exD, exL, exT, exB, exA, leLs, leL_d, leL_undef, leL_nils, leA_nils, deq_refl, deq_int, deq_bool, deq_str, and_true, true_and, AObj.iter.injEq, nc, nc']; try simp (disch := omega) only [w64, w32, wu8])
              ((try simp only [wf, wfa, wfb, wfc, nc, nc', Int.toNat_natCast, bsz, ByteArray.size_append, List.length_cons, List.length_nil] at *); (try simp (disch := omega) only [w64, w32, wu8] at *))
              exact ⟨by rw [hc3]; split <;> omega, by omega⟩
      · obtain rfl : n = i := (by (try simp only [wf, wfa, wfb, nc, nc', Int.toNat_natCast, bsz, ByteArray.size_append, List.length_cons, List.length_nil] at *); (try simp (disch := omega) only [w64, w32, wu8] at *); first | done | omega)
        (refine Later.mk ?_; cbv; try simp only [wp, (show ∀ n : Nat, _ = n from fun n => wf.2.2.2.2.2.2.2.2.2.2.2.2.2.1 (Int.ofNat n)), (show _ = (0 : Nat) from wf.2.2.2.2.2.2.2.2.2.2.2.2.2.1 0), wpa, (show ∀ n : Nat, _ = n from fun n => wfa.2.2.2.2.2.2.2.2.2.2.2.2.2.1 (Int.ofNat n)), (show _ = (0 : Nat) from wfa.2.2.2.2.2.2.2.2.2.2.2.2.2.1 0), wpb, (show ∀ n : Nat, _ = n from fun n => wfb.2.2.2.2.2.2.2.2.2.2.2.2.2.1 (Int.ofNat n)), (show _ = (0 : Nat) from wfb.2.2.2.2.2.2.2.2.2.2.2.2.2.1 0), getL, takeL, dropL, TK.isAgg, reduceIte])
        repeat' first | trivial | with_reducible refine And.intro ?_ ?_ | intro c9
        refine (canonical c1 k V1 P1 (by omega)).call ?_
        intro r hr
        have ⟨c2, n2, V4, P4, e2, e3, _⟩ := hr
        subst e3
        rw [j5.canon j4] at hr
        (cbv; try simp only [wp, (show ∀ n : Nat, _ = n from fun n => wf.2.2.2.2.2.2.2.2.2.2.2.2.2.1 (Int.ofNat n)), (show _ = (0 : Nat) from wf.2.2.2.2.2.2.2.2.2.2.2.2.2.1 0), wpa, (show ∀ n : Nat, _ = n from fun n => wfa.2.2.2.2.2.2.2.2.2.2.2.2.2.1 (Int.ofNat n)), (show _ = (0 : Nat) from wfa.2.2.2.2.2.2.2.2.2.2.2.2.2.1 0), wpb, (show ∀ n : Nat, _ = n from fun n => wfb.2.2.2.2.2.2.2.2.2.2.2.2.2.1 (Int.ofNat n)), (show _ = (0 : Nat) from wfb.2.2.2.2.2.2.2.2.2.2.2.2.2.1 0), getL, takeL, dropL, TK.isAgg, reduceIte])
        repeat' first | trivial | with_reducible refine And.intro ?_ ?_ | intro c9
        all_goals exact hR _ _ _ (hr.frz _) (.inr ⟨⟨v, i5⟩, _, j3, fun v => by rw [j4 v]; exact mx_perm (big_perm _ _ h1) v, by rw [← sc_perm m C c h1]; exact hr⟩)
  · exact hR _ _ _ (frz_err 4 _) (.inl ⟨fun h => v h.1, .err 4⟩)
end Go.VM

namespace Go.VM
open Go.Proofs Go
set_option maxRecDepth 100000
set_option linter.unusedVariables false
set_option linter.unusedSimpArgs false
theorem EvalR_eq {c : Int} {n : Nat} {V P0 : Nat → Int} {m : Nat} {N : Nat → Int} {r r' : A} (h : EvalR c n V P0 m N r) (h' : EvalR c n V P0 m N r') : ∃ x e : Int, r = .tup [.d (.int .i64 x), .d (.int .i64 e)] ∧ r' = .tup [.d (.int .i64 x), .d (.int .i64 e)] := by
  obtain ⟨x, e, rfl, h1, h2⟩ := h
  obtain ⟨x', e', rfl, h1', h2'⟩ := h'
  by_cases v : ValidP c n V P0
  · cases hy : evalF V P0 m N c n with
    | none =>
      obtain ⟨rfl, rfl⟩ := (h2 v).1 hy
      obtain ⟨rfl, rfl⟩ := (h2' v).1 hy
      exact ⟨_, _, rfl, rfl⟩
    | some y =>
      obtain ⟨rfl, rfl⟩ := (h2 v).2 y hy
      obtain ⟨rfl, rfl⟩ := (h2' v).2 x hy
      exact ⟨_, _, rfl, rfl⟩
  · obtain ⟨rfl, rfl⟩ := h1 v
    obtain ⟨rfl, rfl⟩ := h1' v
    exact ⟨_, _, rfl, rfl⟩
theorem lawEvals (c : Int) (n : Nat) (V P0 : Nat → Int) (m : Nat) (N : Nat → Int) (hn : n < 2 ^ 63) (hm : m < 2 ^ 63) : VFun (P ()) 4 [lv c n V P0, .d (.sl m 1 (nsF .i64 N))] (fun r => r = .d (.bool true)) := by
  refine vfunO (Tf := @T) @tabOk [] 400 Tryd.func4 rfl (fun {_} => by kernel_rfl) rfl (Nat.le_of_ble_eq_true rfl) @fun ⟨_, _, _, _, _, _, _, _, _, _, _, _, _, _, _, _, _, _, _, _, _, _, _, _, _, _, _, _, _, _, _, _, _, _, _, _, _, _, wp, wf⟩ R hR => ?_
  cbv
  try simp only [wp, (show ∀ n : Nat, _ = n from fun n => wf.2.2.2.2.2.2.2.2.2.2.2.2.2.1 (Int.ofNat n)), getL, takeL, dropL, TK.isAgg, reduceIte]
  replace hR := fun H => hR _ H _ (.d (.bool true)) rfl
  (refine CallW.frz @fun ⟨_, _, _, _, _, _, _, _, _, _, _, _, _, _, _, _, _, _, _, _, _, _, _, _, _, _, _, _, _, _, _, _, _, _, _, _, _, _, wpz, wfz⟩ => ?_; cbv; try simp only [wpz, wp, (show ∀ n : Nat, _ = n from fun n => wfz.2.2.2.2.2.2.2.2.2.2.2.2.2.1 (Int.ofNat n)), getL, takeL, dropL, TK.isAgg, reduceIte])
  repeat' first | trivial | with_reducible refine And.intro ?_ ?_ | intro c9
  refine wide1 (n := n) (by omega) (by ((try simp only [wf, wfz, nc, nc', Int.toNat_natCast, bsz, ByteArray.size_append, List.length_cons, List.length_nil] at *); (try simp (disch := omega) only [w64, w32, wu8] at *)); rfl) ?_
  intro b hb
  cases b <;> (cbv; try simp only [wp, (show ∀ n : Nat, _ = n from fun n => wf.2.2.2.2.2.2.2.2.2.2.2.2.2.1 (Int.ofNat n)), (show _ = (0 : Nat) from wf.2.2.2.2.2.2.2.2.2.2.2.2.2.1 0), getL, takeL, dropL, TK.isAgg, reduceIte])
  · obtain w1 := hb rfl
    clear hb
    repeat' first | trivial | with_reducible refine And.intro ?_ ?_ | intro c9
    all_goals (refine Later.mk ?_; cbv; try simp only [wp, (show ∀ n : Nat, _ = n from fun n => wf.2.2.2.2.2.2.2.2.2.2.2.2.2.1 (Int.ofNat n)), (show _ = (0 : Nat) from wf.2.2.2.2.2.2.2.2.2.2.2.2.2.1 0), getL, takeL, dropL, TK.isAgg, reduceIte])
    all_goals first
      | exact hR _
      | skip
    have w2 : m ≤ 2000 := (by (try simp only [wf, nc, nc', Int.toNat_natCast, bsz, ByteArray.size_append, List.length_cons, List.length_nil] at *); (try simp (disch := omega) only [w64, w32, wu8] at *); first | done | omega)
    refine (Eval c n V P0 m N (by omega) (by omega)).call ?_
    intro r hr
    refine (EvalR_eq hr hr).elim fun x h => h.elim fun e h => ?_
    obtain ⟨rfl, _⟩ := h
    (cbv; try simp only [wp, (show ∀ n : Nat, _ = n from fun n => wf.2.2.2.2.2.2.2.2.2.2.2.2.2.1 (Int.ofNat n)), (show _ = (0 : Nat) from wf.2.2.2.2.2.2.2.2.2.2.2.2.2.1 0), getL, takeL, dropL, TK.isAgg, reduceIte])
    refine (REval c n V P0 m N (by omega) (by omega)).call ?_
    intro r' hr'
    obtain ⟨x', e', h1, rfl⟩ := EvalR_eq hr hr'
    cases h1
    clear hr hr'
    (cbv; try simp only [wp, (show ∀ n : Nat, _ = n from fun n => wf.2.2.2.2.2.2.2.2.2.2.2.2.2.1 (Int.ofNat n)), (show _ = (0 : Nat) from wf.2.2.2.2.2.2.2.2.2.2.2.2.2.1 0), getL, takeL, dropL, TK.isAgg, reduceIte])
    repeat' first
      | trivial
      | with_reducible refine And.intro ?_ ?_
      | exact hR _
      | (intro c9; first | exact absurd rfl c9 | skip)
      | (refine awake.call ?_
         rintro _ rfl
         (cbv; try simp only [wp, (show ∀ n : Nat, _ = n from fun n => wf.2.2.2.2.2.2.2.2.2.2.2.2.2.1 (Int.ofNat n)), (show _ = (0 : Nat) from wf.2.2.2.2.2.2.2.2.2.2.2.2.2.1 0), getL, takeL, dropL, TK.isAgg, reduceIte]))
      | (refine Later.mk ?_; cbv; try simp only [wp, (show ∀ n : Nat, _ = n from fun n => wf.2.2.2.2.2.2.2.2.2.2.2.2.2.1 (Int.ofNat n)), (show _ = (0 : Nat) from wf.2.2.2.2.2.2.2.2.2.2.2.2.2.1 0), getL, takeL, dropL, TK.isAgg, reduceIte])
    all_goals trace_state
  · repeat' first | trivial | with_reducible refine And.intro ?_ ?_ | intro c9
    all_goals (refine Later.mk ?_; cbv; try simp only [wp, (show ∀ n : Nat, _ = n from fun n => wf.2.2.2.2.2.2.2.2.2.2.2.2.2.1 (Int.ofNat n)), (show _ = (0 : Nat) from wf.2.2.2.2.2.2.2.2.2.2.2.2.2.1 0), getL, takeL, dropL, TK.isAgg, reduceIte])
    all_goals exact hR _
end Go.VM
