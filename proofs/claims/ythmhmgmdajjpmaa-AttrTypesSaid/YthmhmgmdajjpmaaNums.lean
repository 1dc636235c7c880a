/- Numbers in bytes: plain laws. -/
import Derived.Test.YthmhmgmdajjpmaaDat
import Derived.Laws.BitsAllLaws
namespace Go.Proofs.Ythmhmgmdajjpmaa
set_option linter.unusedVariables false
set_option linter.unusedSimpArgs false

theorem or_add (a b n : Nat) (h : b < 2 ^ n) : a * 2 ^ n ||| b = a * 2 ^ n + b := by
  rw [Nat.mul_comm]
  exact (Nat.two_pow_add_eq_or_of_lt h a).symm

theorem ofInt_i64 (a : Nat) (ha : a < 9223372036854775808) : (BitVec.ofInt 64 (a : Int)).toNat = a := by
  rw [BitVec.ofInt_natCast, BitVec.toNat_ofNat]; exact Nat.mod_eq_of_lt (by omega)
theorem i64_or_nat (a b : Nat) (ha : a < 9223372036854775808) (hb : b < 9223372036854775808) : bits .or .i64 (a : Int) (b : Int) = ((a ||| b : Nat) : Int) := by
  have hx : a ||| b < 2 ^ 63 := Nat.or_lt_two_pow (by omega) (by omega)
  show IntKind.i64.wrap ((BitVec.ofInt 64 (a : Int) ||| BitVec.ofInt 64 (b : Int)).toNat : Int) = _
  rw [BitVec.toNat_or, ofInt_i64 a ha, ofInt_i64 b hb, IntKind.wrap_i64]
  omega

theorem or_parts {A B : Int} {a b n : Nat} (hA : A = ((a * 2 ^ n : Nat) : Int)) (hB : B = (b : Int)) (hb : b < 2 ^ n) : ((A.toNat ||| B.toNat : Nat) : Int) = A + B := by
  subst hA hB
  rw [Int.toNat_natCast, Int.toNat_natCast, or_add a b n hb]
  rfl

theorem u16_or_add {x y : Int} (h0 : 0 ≤ x) (h1 : x < 256) (h2 : 0 ≤ y) (h3 : y < 256) : bits .or .u16 (x * 256) y = x * 256 + y := by
  rw [u16_or _ _ (by omega) (by omega) (by omega) (by omega)]
  exact or_parts (a := x.toNat) (b := y.toNat) (n := 8) (by omega) (by omega) (by omega)

theorem i64_or (a b : Int) (h1 : 0 ≤ a) (h2 : a < 9223372036854775808) (h3 : 0 ≤ b) (h4 : b < 9223372036854775808) : bits .or .i64 a b = ((a.toNat ||| b.toNat : Nat) : Int) := by
  obtain ⟨A, rfl⟩ := Int.eq_ofNat_of_zero_le h1
  obtain ⟨B, rfl⟩ := Int.eq_ofNat_of_zero_le h3
  simpa using i64_or_nat A B (by omega) (by omega)

theorem i64_or_add2 {x y : Int} (h0 : 0 ≤ x) (h1 : x < 256) (h2 : 0 ≤ y) (h3 : y < 256) : bits .or .i64 (x * 256) y = x * 256 + y := by
  rw [i64_or _ _ (by omega) (by omega) (by omega) (by omega)]
  exact or_parts (a := x.toNat) (b := y.toNat) (n := 8) (by omega) (by omega) (by omega)

def num4 (x y z t : Int) : Int := x * 16777216 + y * 65536 + z * 256 + t

section
variable {x y z t : Int} (x0 : 0 ≤ x) (x1 : x < 256) (y0 : 0 ≤ y) (y1 : y < 256) (z0 : 0 ≤ z) (z1 : z < 256) (t0 : 0 ≤ t) (t1 : t < 256)
include x0 x1 y0 y1 z0 z1 t0 t1

theorem u32_or_add : bits .or .u32 (bits .or .u32 (bits .or .u32 (x * 16777216) (y * 65536)) (z * 256)) t = num4 x y z t := by
  have e1 : bits .or .u32 (x * 16777216) (y * 65536) = x * 16777216 + y * 65536 := by
    rw [u32_or _ _ (by omega) (by omega) (by omega) (by omega)]
    exact or_parts (a := x.toNat) (b := (y * 65536).toNat) (n := 24) (by omega) (by omega) (by omega)
  have e2 : bits .or .u32 (x * 16777216 + y * 65536) (z * 256) = x * 16777216 + y * 65536 + z * 256 := by
    rw [u32_or _ _ (by omega) (by omega) (by omega) (by omega)]
    exact or_parts (a := (x * 256 + y).toNat) (b := (z * 256).toNat) (n := 16) (by omega) (by omega) (by omega)
  rw [e1, e2, u32_or _ _ (by omega) (by omega) (by omega) (by omega)]
  exact or_parts (a := (x * 65536 + y * 256 + z).toNat) (b := t.toNat) (n := 8) (by omega) (by omega) (by omega)

theorem i64_or_add : bits .or .i64 (bits .or .i64 (bits .or .i64 (x * 16777216) (y * 65536)) (z * 256)) t = num4 x y z t := by
  have e1 : bits .or .i64 (x * 16777216) (y * 65536) = x * 16777216 + y * 65536 := by
    rw [i64_or _ _ (by omega) (by omega) (by omega) (by omega)]
    exact or_parts (a := x.toNat) (b := (y * 65536).toNat) (n := 24) (by omega) (by omega) (by omega)
  have e2 : bits .or .i64 (x * 16777216 + y * 65536) (z * 256) = x * 16777216 + y * 65536 + z * 256 := by
    rw [i64_or _ _ (by omega) (by omega) (by omega) (by omega)]
    exact or_parts (a := (x * 256 + y).toNat) (b := (z * 256).toNat) (n := 16) (by omega) (by omega) (by omega)
  rw [e1, e2, i64_or _ _ (by omega) (by omega) (by omega) (by omega)]
  exact or_parts (a := (x * 65536 + y * 256 + z).toNat) (b := t.toNat) (n := 8) (by omega) (by omega) (by omega)
end

/-- The four bytes of a number. -/
def of32 (v : Int) : List Int := [v / 16777216 % 256, v / 65536 % 256, v / 256 % 256, v % 256]
def of16 (v : Int) : List Int := [v / 256 % 256, v % 256]
theorem of32_byt (v : Int) : Byt (of32 v) := by intro x hx; simp [of32] at hx; omega
theorem of16_byt (v : Int) : Byt (of16 v) := by intro x hx; simp [of16] at hx; omega
theorem of32_mod (v : Int) : of32 (v % 4294967296) = of32 v := by unfold of32; congr 1; omega; congr 1; omega; congr 1; omega; congr 1; omega
end Go.Proofs.Ythmhmgmdajjpmaa
