/- Walks of Table.At and of the document's own Sum and At. -/
import Derived.Test.YtdhokdjmobmpoaaWk4
namespace Go.Proofs.Ytdhokdjmobmpoaa.Crc
open Go.RowKit

theorem ret_i64 {a b : Int} (h : a = b) : Ending.returned (.int .i64 a) = .returned (.int .i64 b) := by rw [h]

set_option maxRecDepth 100000 in
set_option maxHeartbeats 400000 in
theorem sum_nil (B cap : Nat) (a : Option Addr) (w : World) :
    Calls Try.prog 12 #[.pointer (some ⟨B, 0, none⟩), .slice a 0 cap] w fun e w' => e = .returned (.int .i64 ((sum [] : Nat) : Int)) ∧ w' = w := by
  go_enter Try.func12, Try.ntmps12
  go_wp2
  go_loop [5, 13] (fun x i => x = .int .u32 4294967295 ∧ i = .int .i64 0) (fun _ _ => 0)
  case atStart => exact ⟨rfl, rfl⟩
  case round =>
    obtain ⟨rfl, rfl⟩ := hrel
    go_wp2
    go_ret
    exact ⟨ret_i64 (not_sum []), rfl⟩

set_option maxRecDepth 100000 in
set_option maxHeartbeats 400000 in
theorem sum_off (v : Value) (w : World) :
    Calls Try.prog 12 #[.pointer none, v] w fun e w' => e = .returned (.int .i64 0) ∧ w' = w := by
  go_enter Try.func12, Try.ntmps12
  go_wp2
  go_ret
  exact ⟨rfl, rfl⟩

theorem i64_xor_nat (a b : Nat) (ha : a < 2 ^ 63) (hb : b < 2 ^ 63) : Go.bits .xor .i64 (a : Int) (b : Int) = ((a ^^^ b : Nat) : Int) := by
  have hx := Nat.xor_lt_two_pow ha hb
  have ha' : a % 2 ^ 64 = a := Nat.mod_eq_of_lt (by omega)
  have hb' : b % 2 ^ 64 = b := Nat.mod_eq_of_lt (by omega)
  show IntKind.i64.wrap ((BitVec.ofInt 64 (a : Int) ^^^ BitVec.ofInt 64 (b : Int)).toNat : Int) = _
  rw [BitVec.toNat_xor, BitVec.ofInt_natCast, BitVec.ofInt_natCast, BitVec.toNat_ofNat, BitVec.toNat_ofNat, ha', hb', IntKind.wrap_i64]
  omega

theorem i64poly (x : Nat) (h : x < 4294967296) : Go.bits .xor .i64 (x : Int) 3988292384 = ((x ^^^ poly : Nat) : Int) :=
  i64_xor_nat x poly (by omega) (by decide)

set_option maxRecDepth 100000 in
set_option maxHeartbeats 400000 in
theorem refAt (k b : Nat) (w : World) (hk : k < 4) (hb : b < 256) :
    Calls Try.prog 14 #[.int .i64 (k : Int), .int .i64 (b : Int)] w fun e w' => e = .returned (.int .i64 ((tb k b : Nat) : Int)) ∧ w' = w := by
  go_enter Try.func14, Try.ntmps14
  go_wp2
  go_loop [1, 5] (fun x i => ∃ j : Nat, j ≤ 8 * (k + 1) ∧ i = .int .i64 j ∧ x = .int .i64 ((sts j b : Nat) : Int)) (fun _ i => 8 * (k + 1) - (intOf i).toNat)
  case atStart => exact ⟨0, Nat.zero_le _, rfl, rfl⟩
  case round =>
    obtain ⟨j, hj, rfl, rfl⟩ := hrel
    have hx : sts j b < 4294967296 := sts_lt j (by omega)
    have hs := sts_succ j b
    have HS := Lib.hid hs
    clear hs
    generalize hxe : sts j b = x at *
    have HE := Lib.hid hxe
    clear hxe
    by_cases hlt : j < 8 * (k + 1)
    · have d1 : decide ((j : Int) < 8 * ((k : Int) + 1)) = true := by simp; omega
      by_cases hodd : x % 2 = 1
      · have hq : ((x : Int) % 2 == 1) = true := beq_iff_eq.2 (by omega)
        have hst : st x = (x / 2) ^^^ poly := by unfold st; rw [if_pos hodd]
        have hxp := i64poly (x / 2) (by omega)
        have HX := Lib.hid hxp
        clear hxp hodd
        go_wp2
        go_round
        case rel => exact ⟨j + 1, by omega, by go_num, by rw [HS.out, hst, ← HX.out]; go_num⟩
        case measure => simp [intOf]; omega
      · have hq : ((x : Int) % 2 == 1) = false := by rw [beq_eq_false_iff_ne]; omega
        have hst : st x = x / 2 := by unfold st; rw [if_neg hodd, Nat.xor_zero]
        clear hodd
        go_wp2
        go_round
        case rel => exact ⟨j + 1, by omega, by go_num, by rw [HS.out, hst]; go_num⟩
        case measure => simp [intOf]; omega
    · have d1 : decide ((j : Int) < 8 * ((k : Int) + 1)) = false := by simp; omega
      have HJ := Lib.hid (show j = 8 * (k + 1) by omega)
      go_wp2
      go_ret
      exact ⟨ret_i64 (by rw [← HE.out, HJ.out]; rfl), rfl⟩

set_option maxRecDepth 100000 in
set_option maxHeartbeats 400000 in
theorem at_calls (B k b : Nat) (w : World) (hk : k < 4) (hb : b < 256) (ht : Tab w B) :
    Calls Try.prog 13 #[.pointer (some ⟨B, 0, none⟩), .int .i64 (k : Int), .int .i64 (b : Int)] w fun e w' => e = .returned (.int .i64 ((tb k b : Nat) : Int)) ∧ w' = w := by
  have hc := ht k b hk hb
  have hl := tb_lt k b hb
  have hkI : (k : Int) < 4 := by omega
  have hbI : (b : Int) < 256 := by omega
  clear ht
  generalize tb k b = v at *
  go_enter Try.func13, Try.ntmps13
  go_wp2
  go_ret
  exact ⟨rfl, rfl⟩


set_option maxRecDepth 100000 in
set_option maxHeartbeats 400000 in
theorem at_nil (k b : Int) (w : World) :
    Calls Try.prog 13 #[.pointer none, .int .i64 k, .int .i64 b] w fun e w' => e = .returned (.int .i64 0) ∧ w' = w := by
  go_enter Try.func13, Try.ntmps13
  go_wp2
  go_ret
  exact ⟨rfl, rfl⟩

set_option maxRecDepth 100000 in
set_option maxHeartbeats 400000 in
theorem at_out (B : Nat) (k b : Int) (w : World) (h : k < 0 ∨ 4 ≤ k ∨ b < 0 ∨ 256 ≤ b) :
    Calls Try.prog 13 #[.pointer (some ⟨B, 0, none⟩), .int .i64 k, .int .i64 b] w fun e w' => e = .returned (.int .i64 0) ∧ w' = w := by
  by_cases h1 : k < 0
  · go_enter Try.func13, Try.ntmps13
    go_wp2
    go_ret
    exact ⟨rfl, rfl⟩
  · by_cases h2 : 4 ≤ k
    · go_enter Try.func13, Try.ntmps13
      go_wp2
      go_ret
      exact ⟨rfl, rfl⟩
    · by_cases h3 : b < 0
      · go_enter Try.func13, Try.ntmps13
        go_wp2
        go_ret
        exact ⟨rfl, rfl⟩
      · have h4 : 256 ≤ b := by omega
        go_enter Try.func13, Try.ntmps13
        go_wp2
        go_ret
        exact ⟨rfl, rfl⟩

set_option maxRecDepth 100000 in
set_option maxHeartbeats 400000 in
theorem refSum (s : ByteArray) (w : World) (hs : s.size ≤ 140737488355328) :
    Calls Try.prog 9 #[.string s] w fun e w' => e = .returned (.int .i64 ((sum s.data.toList : Nat) : Int)) ∧ w' = w := by
  go_enter Try.func9, Try.ntmps9
  go_wp2
  go_loop [3, 4] (fun x i => ∃ j : Nat, j ≤ s.size ∧ i = .int .i64 j ∧ x = .int .i64 ((fold 4294967295 (s.data.toList.take j) : Nat) : Int)) (fun _ i => s.size - (intOf i).toNat)
  case atStart => exact ⟨0, Nat.zero_le _, rfl, rfl⟩
  case round =>
    obtain ⟨j, hj, rfl, rfl⟩ := hrel
    have hz : fold 4294967295 (s.data.toList.take j) < 4294967296 := fold_lt _ (by decide)
    by_cases hjl : j < s.size
    · have hst := fold_take_succ 4294967295 s j hjl
      have HST := Lib.hid hst
      clear hst
      generalize fold 4294967295 (s.data.toList.take j) = z at *
      have hjI : (j : Int) < (s.size : Int) := by omega
      have hbb := s[j].toNat_lt
      have d5 : decide ((j : Int) < (s.size : Int)) = true := by simp; omega
      have e1 := i64_xor_nat z s[j].toNat (by omega) (by omega)
      have hy : z ^^^ s[j].toNat < 4294967296 := Nat.xor_lt_two_pow (n := 32) hz (by omega)
      generalize z ^^^ s[j].toNat = y at *
      go_wp2
      go_loop [3, 5] (fun x i => ∃ q : Nat, q ≤ 8 ∧ i = .int .i64 q ∧ x = .int .i64 ((sts q y : Nat) : Int)) (fun _ i => 8 - (intOf i).toNat)
      case atStart => exact ⟨0, Nat.zero_le _, rfl, rfl⟩
      case round =>
        obtain ⟨q, hq8, rfl, rfl⟩ := hrel
        have hx : sts q y < 4294967296 := sts_lt q hy
        have hs := sts_succ q y
        have HS := Lib.hid hs
        clear hs
        generalize hxe : sts q y = x at *
        have HE := Lib.hid hxe
        clear hxe
        by_cases hlt : q < 8
        · have d1 : decide ((q : Int) < 8) = true := by simp; omega
          by_cases hodd : x % 2 = 1
          · have hq : ((x : Int) % 2 == 1) = true := beq_iff_eq.2 (by omega)
            have hst : st x = (x / 2) ^^^ poly := by unfold st; rw [if_pos hodd]
            have hxp := i64poly (x / 2) (by omega)
            have HX := Lib.hid hxp
            clear hxp hodd
            go_wp2
            go_round
            case rel => exact ⟨q + 1, by omega, by go_num, by rw [HS.out, hst, ← HX.out]; go_num⟩
            case measure => simp [intOf]; omega
          · have hq : ((x : Int) % 2 == 1) = false := by rw [beq_eq_false_iff_ne]; omega
            have hst : st x = x / 2 := by unfold st; rw [if_neg hodd, Nat.xor_zero]
            clear hodd
            go_wp2
            go_round
            case rel => exact ⟨q + 1, by omega, by go_num, by rw [HS.out, hst]; go_num⟩
            case measure => simp [intOf]; omega
        · have d1 : decide ((q : Int) < 8) = false := by simp; omega
          have HQ := Lib.hid (show q = 8 by omega)
          go_wp2
          go_round
          case rel => exact ⟨j + 1, by omega, by go_num, by rw [HST.out, ← HE.out, HQ.out]⟩
          case measure => simp [intOf]; omega
    · have d5 : decide ((j : Int) < (s.size : Int)) = false := by simp; omega
      have HJ := Lib.hid (show j = s.size by omega)
      go_wp2
      go_ret
      refine ⟨ret_i64 ?_, rfl⟩
      rw [HJ.out, List.take_of_length_le (by simp)]
      have := fold_le s.data.toList
      unfold sum
      omega

end Go.Proofs.Ytdhokdjmobmpoaa.Crc
