/- The words, read back: numbers that fit, bytes, runes. -/
import Derived.Test.YtcpdnjehmnbheaaDoorVP
import Derived.Test.YtcpdnjehmnbheaaDoorVX
import Derived.Laws.RangeString
import Derived.Laws.RangeAny
set_option linter.unusedSimpArgs false
set_option linter.unusedVariables false
namespace Go.VM

theorem nc (n : Nat) : @NatCast.natCast Int instNatCastInt n = @Nat.cast Int instNatCastInt n := rfl
theorem nc' (n : Nat) : Int.ofNat n = @Nat.cast Int instNatCastInt n := rfl

theorem w64 {x : Int} (h1 : -9223372036854775808 ≤ x) (h2 : x ≤ 9223372036854775807) : IntKind.i64.wrap x = x := by
  simp only [IntKind.wrap, IntKind.bits, IntKind.signed]
  simp
  omega
theorem w32 {x : Int} (h1 : -2147483648 ≤ x) (h2 : x ≤ 2147483647) : IntKind.i32.wrap x = x := by
  simp only [IntKind.wrap, IntKind.bits, IntKind.signed]
  simp
  omega
theorem wu8 {x : Int} (h1 : 0 ≤ x) (h2 : x ≤ 255) : IntKind.u8.wrap x = x := by
  simp only [IntKind.wrap, IntKind.bits, IntKind.signed]
  simp
  omega
theorem wu32 {x : Int} (h1 : 0 ≤ x) (h2 : x ≤ 4294967295) : IntKind.u32.wrap x = x := by
  simp only [IntKind.wrap, IntKind.bits, IntKind.signed]
  simp
  omega

theorem btF_lo (s : ByteArray) (i : Int) : 0 ≤ btF s i := Int.natCast_nonneg _
theorem btF_hi (s : ByteArray) (i : Int) : btF s i ≤ 255 := by
  have := (s.data.toList.getD i.toNat 0).toNat_lt
  unfold btF
  omega

theorem btF_get (s : ByteArray) (i : Nat) (h : i < s.size) : btF s i = (s[i]'h).toNat := by
  have hd : i < s.data.toList.length := by simpa using h
  unfold btF
  rw [Int.toNat_natCast, List.getD_eq_getElem?_getD, List.getElem?_eq_getElem hd]
  simp [ByteArray.getElem_eq_getElem_data]

/-- a rune at a byte below 128 -/
theorem rune_low (s : ByteArray) (i : Nat) (h : i < s.size) (ha : btF s i < 128) : runeF s i = btF s i ∧ widthF s i = 1 := by
  rw [btF_get s i h] at *
  unfold runeF widthF
  rw [decode_ascii s i h (by omega)]
  simp
/-- a rune at a byte from 128 on -/
theorem rune_high (s : ByteArray) (i : Nat) (h : i < s.size) (ha : 128 ≤ btF s i) : 128 ≤ runeF s i ∧ 1 ≤ widthF s i := by
  rw [btF_get s i h] at ha
  unfold runeF widthF
  have := decode_high s i h (by omega)
  omega

theorem rune_p (q : Int → Bool) (hq : ∀ c, 128 ≤ c → q c = false) (t : ByteArray) (p : Nat) (h : p < t.size) : q (runeF t p) = q (btF t p) ∧ (q (btF t p) = true → widthF t p = 1 ∧ runeF t p = btF t p) := by
  by_cases ha : btF t p < 128
  · obtain ⟨h1, h2⟩ := rune_low t p h ha
    exact ⟨by rw [h1], fun _ => ⟨h2, h1⟩⟩
  · obtain ⟨h1, h2⟩ := rune_high t p h (by omega)
    have := hq _ (show 128 ≤ btF t p by omega)
    exact ⟨by rw [hq _ h1, this], fun h => by rw [this] at h; cases h⟩

end Go.VM
