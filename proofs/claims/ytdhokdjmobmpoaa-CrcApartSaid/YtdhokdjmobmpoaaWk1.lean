/- Walks of crc.first and rows.one: what they answer; no condition but the numbers' bounds. -/
import Derived.Test.YtdhokdjmobmpoaaProg
import Derived.Test.YtdhokdjmobmpoaaCrcPlain
import Derived.WalkKit
import Derived.Laws.BitsAllLaws
import Derived.Lib.Hide
import Derived.Deep.QuietTactic
import Derived.BigQuiet
namespace Go.Proofs.Ytdhokdjmobmpoaa.Crc
open Go.RowKit

theorem ret_u32 {a b : Int} (h : a = b) : Ending.returned (.int .u32 a) = .returned (.int .u32 b) := by rw [h]

theorem sts_succ (k b : Nat) : sts (k + 1) b = st (sts k b) := by rw [sts_add]; rfl

theorem and1 (x : Nat) (h : x < 2 ^ 32) : Go.bits .and .u32 (x : Int) 1 = ((x % 2 : Nat) : Int) := by
  have := u32_and_nat x 1 (by omega) (by omega)
  rw [Nat.and_one_is_mod] at this
  exact this

theorem xorpoly (x : Nat) (h : x < 2 ^ 32) : Go.bits .xor .u32 (x : Int) 3988292384 = ((x ^^^ poly : Nat) : Int) :=
  u32_xor_nat x poly (by omega) (by decide)

set_option maxHeartbeats 400000 in
theorem first_calls (b : Nat) (w : World) (hb : b < 256) :
    Calls Try.prog 18 #[.int .u32 (b : Int)] w fun e w' => e = .returned (.int .u32 ((sts 8 b : Nat) : Int)) ∧ w = w' := by
  go_enter Try.func18, Try.ntmps18
  go_wp2
  go_loop [0, 4] (fun x i => ∃ k : Nat, k ≤ 8 ∧ i = .int .i64 k ∧ x = .int .u32 ((sts k b : Nat) : Int)) (fun _ i => 8 - (intOf i).toNat)
  case atStart => exact ⟨0, Nat.zero_le _, rfl, rfl⟩
  case round =>
    obtain ⟨k, hk, rfl, rfl⟩ := hrel
    have hx : sts k b < 2 ^ 32 := sts_lt k (by omega)
    have hs := sts_succ k b
    have HS := Lib.hid hs
    clear hs
    generalize hxe : sts k b = x at *
    have HE := Lib.hid hxe
    clear hxe
    by_cases hlt : k < 8
    · have ha := and1 x hx
      by_cases hodd : x % 2 = 1
      · have hq : (Go.bits .and .u32 (x : Int) 1 == 1) = true := by rw [ha, hodd]; rfl
        clear ha
        have hst : st x = (x / 2) ^^^ poly := by unfold st; rw [if_pos hodd]
        have hxp := xorpoly (x / 2) (by omega)
        have HX := Lib.hid hxp
        clear hxp hodd
        go_wp2
        go_round
        case rel => exact ⟨k + 1, by omega, by go_num, by rw [HS.out, hst, ← HX.out]; go_num⟩
        case measure => simp [intOf]; omega
      · have hq : (Go.bits .and .u32 (x : Int) 1 == 1) = false := by
          rw [ha, show x % 2 = 0 from by omega]; rfl
        clear ha
        have hst : st x = x / 2 := by unfold st; rw [if_neg hodd, Nat.xor_zero]
        clear hodd
        go_wp2
        go_round
        case rel => exact ⟨k + 1, by omega, by go_num, by rw [HS.out, hst]; go_num⟩
        case measure => simp [intOf]; omega
    · obtain rfl : k = 8 := by omega
      go_wp2
      go_ret
      exact ⟨ret_u32 (by rw [HE.out]), rfl⟩

/-- block B holds the four tables -/
def Tab (w : World) (B : Nat) : Prop := ∀ k b : Nat, k < 4 → b < 256 → w.cell? ⟨B, k * 256 + b, none⟩ = some (.int .u32 ((tb k b : Nat) : Int))


set_option maxHeartbeats 400000 in
theorem one_calls (B x : Nat) (c : Nat) (w : World) (hx : x < 4294967296) (hc : c < 256) (ht : Tab w B) :
    Calls Try.prog 20 #[.pointer (some ⟨B, 0, none⟩), .int .u32 (x : Int), .int .u8 (c : Int)] w fun e w' => e = .returned (.int .u32 ((sts 8 (x ^^^ c) : Nat) : Int)) ∧ w = w' := by
  have h1 := one_eq x c hc
  have hj : (x % 256) ^^^ c < 256 := Nat.xor_lt_two_pow (n := 8) (by omega) hc
  have he : Go.bits .xor .u8 ((x : Int) % 256) (c : Int) = (((x % 256) ^^^ c : Nat) : Int) := u8_xor_nat (x % 256) c (by omega) hc
  generalize (x % 256) ^^^ c = j at *
  have hcell := ht 0 j (by omega) hj
  have hlt := tb_lt 0 j hj
  generalize tb 0 j = v at *
  have hv : Go.bits .xor .u32 (v : Int) ((x : Int) / 256) = ((v ^^^ (x / 256) : Nat) : Int) := u32_xor_nat v (x / 256) (by omega) (by omega)
  have H1 := Lib.hid h1
  clear h1 ht hlt
  simp only [Nat.zero_mul, Nat.zero_add] at hcell
  go_enter Try.func20, Try.ntmps20
  go_wp2
  go_ret
  exact ⟨ret_u32 (by rw [H1.out]), rfl⟩

end Go.Proofs.Ytdhokdjmobmpoaa.Crc
