/- Walk of rows.four: four bytes at once are 32 steps of the register. -/
import Derived.Test.YtdhokdjmobmpoaaWk1
namespace Go.Proofs.Ytdhokdjmobmpoaa.Crc
open Go.RowKit

theorem word_bits (x a b c d : Nat) (hx : x < 4294967296) (ha : a < 256) (hb : b < 256) (hc : c < 256) (hd : d < 256) :
    Go.bits .xor .u32 (x : Int) (Go.bits .or .u32 (Go.bits .or .u32 (Go.bits .or .u32 ((a : Int) % 4294967296) ((b : Int) % 4294967296 * 256 % 4294967296))
      ((c : Int) % 4294967296 * 65536 % 4294967296)) ((d : Int) % 4294967296 * 16777216 % 4294967296)) = ((x ^^^ word4 a b c d : Nat) : Int) := by
  have ea : (a : Int) % (4294967296 : Int) = (a : Int) := by omega
  have eb : (b : Int) % (4294967296 : Int) * (256 : Int) % (4294967296 : Int) = ((b <<< 8 : Nat) : Int) := by rw [Nat.shiftLeft_eq]; omega
  have ec : (c : Int) % (4294967296 : Int) * (65536 : Int) % (4294967296 : Int) = ((c <<< 16 : Nat) : Int) := by rw [Nat.shiftLeft_eq]; omega
  have ed : (d : Int) % (4294967296 : Int) * (16777216 : Int) % (4294967296 : Int) = ((d <<< 24 : Nat) : Int) := by rw [Nat.shiftLeft_eq]; omega
  rw [ea, eb, ec, ed]
  have l1 : b <<< 8 < 4294967296 := by rw [Nat.shiftLeft_eq]; omega
  have l2 : c <<< 16 < 4294967296 := by rw [Nat.shiftLeft_eq]; omega
  have l3 : d <<< 24 < 4294967296 := by rw [Nat.shiftLeft_eq]; omega
  have m1 : a ||| b <<< 8 < 4294967296 := Nat.or_lt_two_pow (n := 32) (by omega) l1
  have m2 : a ||| b <<< 8 ||| c <<< 16 < 4294967296 := Nat.or_lt_two_pow (n := 32) m1 l2
  have m3 : a ||| b <<< 8 ||| c <<< 16 ||| d <<< 24 < 4294967296 := Nat.or_lt_two_pow (n := 32) m2 l3
  rw [u32_or_nat a _ (by omega) l1, u32_or_nat _ _ m1 l2, u32_or_nat _ _ m2 l3, u32_xor_nat _ _ hx m3]
  rfl

theorem word4_lt (a b c d : Nat) (ha : a < 256) (hb : b < 256) (hc : c < 256) (hd : d < 256) : word4 a b c d < 4294967296 := by
  have l1 : b <<< 8 < 4294967296 := by rw [Nat.shiftLeft_eq]; omega
  have l2 : c <<< 16 < 4294967296 := by rw [Nat.shiftLeft_eq]; omega
  have l3 : d <<< 24 < 4294967296 := by rw [Nat.shiftLeft_eq]; omega
  exact Nat.or_lt_two_pow (n := 32) (Nat.or_lt_two_pow (n := 32) (Nat.or_lt_two_pow (n := 32) (by omega) l1) l2) l3

theorem and255 (y : Nat) (h : y < 4294967296) : Go.bits .and .u32 (y : Int) 255 = ((y % 256 : Nat) : Int) := by
  have := u32_and_nat y 255 h (by decide)
  rw [show (255 : Nat) = 2 ^ 8 - 1 from rfl, Nat.and_two_pow_sub_one_eq_mod] at this
  exact this

theorem xor3 (a b c d : Nat) (ha : a < 2 ^ 32) (hb : b < 2 ^ 32) (hc : c < 2 ^ 32) (hd : d < 2 ^ 32) :
    Go.bits .xor .u32 (Go.bits .xor .u32 (Go.bits .xor .u32 (a : Int) (b : Int)) (c : Int)) (d : Int) = ((a ^^^ b ^^^ c ^^^ d : Nat) : Int) := by
  have m1 := Nat.xor_lt_two_pow ha hb
  have m2 := Nat.xor_lt_two_pow m1 hc
  rw [u32_xor_nat a b ha hb, u32_xor_nat _ c m1 hc, u32_xor_nat _ d m2 hd]

set_option maxHeartbeats 400000 in
theorem four_calls (B x : Nat) (s : ByteArray) (w : World) (hx : x < 4294967296) (hs : 4 ≤ s.size) (ht : Tab w B) :
    Calls Try.prog 19 #[.pointer (some ⟨B, 0, none⟩), .int .u32 (x : Int), .string s] w fun e w' => e = .returned (.int .u32 ((sts 32 (x ^^^ word4 s[0].toNat s[1].toNat s[2].toNat s[3].toNat) : Nat) : Int)) ∧ ∃ n, w' = w.drewN n := by
  have HT := Lib.hid ht
  clear ht
  have i0 : 0 < s.size := by omega
  have i1 : 1 < s.size := by omega
  have i2 : 2 < s.size := by omega
  have i3 : 3 < s.size := by omega
  have j1 : (1 : Int) < (s.size : Int) := by omega
  have j2 : (2 : Int) < (s.size : Int) := by omega
  have j3 : (3 : Int) < (s.size : Int) := by omega
  go_enter Try.func19, Try.ntmps19
  go_wp2
  go_quiet (fail)
  go_wp2
  rw [word_bits x _ _ _ _ hx s[0].toNat_lt s[1].toNat_lt s[2].toNat_lt s[3].toNat_lt]
  have hy : x ^^^ word4 s[0].toNat s[1].toNat s[2].toNat s[3].toNat < 4294967296 :=
    Nat.xor_lt_two_pow (n := 32) hx (word4_lt _ _ _ _ s[0].toNat_lt s[1].toNat_lt s[2].toNat_lt s[3].toNat_lt)
  generalize hye : x ^^^ word4 s[0].toNat s[1].toNat s[2].toNat s[3].toNat = y at *
  have HY := Lib.hid hye
  clear hye
  have e0 := and255 y hy
  have e1 : Go.bits .and .u32 ((y : Int) / 256) 255 = _ := and255 (y / 256) (by omega)
  have e2 : Go.bits .and .u32 ((y : Int) / 65536) 255 = _ := and255 (y / 65536) (by omega)
  have hf := four_tabs y
  have b0 : y % 256 < 256 := by omega
  have b1 : y / 256 % 256 < 256 := by omega
  have b2 : y / 65536 % 256 < 256 := by omega
  have b3 : y / 16777216 < 256 := by omega
  have e3 : (y : Int) / 16777216 = ((y / 16777216 : Nat) : Int) := by omega
  generalize y % 256 = p0 at *
  generalize y / 256 % 256 = p1 at *
  generalize y / 65536 % 256 = p2 at *
  generalize y / 16777216 = p3 at *
  have c3 := HT.out 3 p0 (by omega) b0
  have c2 := HT.out 2 p1 (by omega) b1
  have c1 := HT.out 1 p2 (by omega) b2
  have c0 := HT.out 0 p3 (by omega) b3
  have hx3 := xor3 (tb 3 p0) (tb 2 p1) (tb 1 p2) (tb 0 p3) (tb_lt _ _ b0) (tb_lt _ _ b1) (tb_lt _ _ b2) (tb_lt _ _ b3)
  rw [hf] at hx3
  have HX := Lib.hid hx3
  clear hx3 hf
  generalize tb 3 p0 = q0 at *
  generalize tb 2 p1 = q1 at *
  generalize tb 1 p2 = q2 at *
  generalize tb 0 p3 = q3 at *
  simp only [Nat.zero_mul, Nat.zero_add, Nat.one_mul, Nat.reduceMul] at c0 c1 c2 c3
  go_quiet (fail)
  go_wp2
  go_ret
  exact ⟨ret_u32 (by rw [HX.out, HY.out]), _, World.drewN_drewN _ _ _⟩

end Go.Proofs.Ytdhokdjmobmpoaa.Crc
