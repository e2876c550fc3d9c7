/- Walks of the document's Digits. -/
import Derived.Test.YtphilpjglajffaaGreatDoorLw2
import Derived.Test.YtphilpjglajffaaGreatDoorShelf
namespace Go.Proofs.YtphilpjglajffaaGreatDoor.Lin
open Go.RowKit

theorem dig_ext (d : Nat) (h : d < 10) : (⟨#[48, 49, 50, 51, 52, 53, 54, 55, 56, 57]⟩ : ByteArray).extract d (d + 1) = ⟨⟨[UInt8.ofNat (48 + d)]⟩⟩ := by
  have : d = 0 ∨ d = 1 ∨ d = 2 ∨ d = 3 ∨ d = 4 ∨ d = 5 ∨ d = 6 ∨ d = 7 ∨ d = 8 ∨ d = 9 := by omega
  rcases this with rfl | rfl | rfl | rfl | rfl | rfl | rfl | rfl | rfl | rfl <;> rfl

theorem itoa_small (n : Nat) (h : n < 10) : Lib.itoa (n : Int) = [UInt8.ofNat (48 + n)] := by
  unfold Lib.itoa
  rw [if_neg (by omega), Int.toNat_natCast, Lib.decDigits, dif_pos h]
theorem itoa_big (n : Nat) (h : ¬ n < 10) : Lib.itoa (n : Int) = Lib.itoa ((n / 10 : Nat) : Int) ++ [UInt8.ofNat (48 + n % 10)] := by
  unfold Lib.itoa
  rw [if_neg (by omega), if_neg (by omega), Int.toNat_natCast, Int.toNat_natCast]
  conv => lhs; rw [Lib.decDigits, dif_neg h]
theorem itoa_neg_small (n : Nat) (h0 : 0 < n) (h : n < 10) : Lib.itoa (-(n : Int)) = [45, UInt8.ofNat (48 + n)] := by
  unfold Lib.itoa
  rw [if_pos (by omega), Int.natAbs_neg, Int.natAbs_natCast, Lib.decDigits, dif_pos h]
theorem itoa_neg_big (n : Nat) (h : ¬ n < 10) : Lib.itoa (-(n : Int)) = Lib.itoa (-((n / 10 : Nat) : Int)) ++ [UInt8.ofNat (48 + n % 10)] := by
  unfold Lib.itoa
  rw [if_pos (by omega), if_pos (by omega), Int.natAbs_neg, Int.natAbs_natCast, Int.natAbs_neg, Int.natAbs_natCast]
  conv => lhs; rw [Lib.decDigits, dif_neg h]
  rfl

theorem append_bytes (a b : ByteArray) : a ++ b = ⟨⟨a.data.toList ++ b.data.toList⟩⟩ := by
  apply ByteArray.ext
  apply Array.ext'
  simp
theorem ret_text {a b : ByteArray} (h : a = b) : Ending.returned (.string a) = .returned (.string b) := by rw [h]

theorem decDigits_length (k : Nat) : ∀ n : Nat, n ≤ k → n < 10 ^ 19 → (Lib.decDigits n).length ≤ 20 := by
  have key : ∀ (d n : Nat), n < 10 ^ d → (Lib.decDigits n).length ≤ d + 1 := by
    intro d
    induction d with
    | zero => intro n h; rw [Lib.decDigits, dif_pos (by omega)]; simp
    | succ d ih =>
      intro n h
      rw [Lib.decDigits]
      split
      · simp
      · rw [List.length_append]
        have := ih (n / 10) (by rw [Nat.pow_succ] at h; omega)
        simp; omega
  intro n _ h
  exact key 19 n h
theorem itoa_length (n : Int) (h0 : -1125899906842624 ≤ n) (h1 : n ≤ 1125899906842624) : (Lib.itoa n).length ≤ 21 := by
  unfold Lib.itoa
  split
  · have := decDigits_length _ n.natAbs (Nat.le_refl _) (by omega)
    simp; omega
  · have := decDigits_length _ n.toNat (Nat.le_refl _) (by omega)
    omega

/-- a digit -/
def dgB (d : Nat) : ByteArray := ⟨⟨[UInt8.ofNat (48 + d)]⟩⟩
/-- a number's digits -/
def itoaB (n : Int) : ByteArray := ⟨⟨Lib.itoa n⟩⟩
theorem itoaB_size (n : Int) (h0 : -1125899906842624 ≤ n) (h1 : n ≤ 1125899906842624) : (itoaB n).size ≤ 21 := itoa_length n h0 h1
theorem itoaB_small (n : Nat) (h : n < 10) : itoaB (n : Int) = dgB n := by unfold itoaB; rw [itoa_small n h]; rfl
theorem itoaB_big (n : Nat) (h : ¬ n < 10) : itoaB (n : Int) = itoaB ((n / 10 : Nat) : Int) ++ dgB (n % 10) := by rw [append_bytes]; unfold itoaB; rw [itoa_big n h]; rfl
theorem itoaB_neg_small (n : Nat) (h0 : 0 < n) (h : n < 10) : itoaB (-(n : Int)) = ⟨#[45]⟩ ++ dgB n := by rw [append_bytes]; unfold itoaB; rw [itoa_neg_small n h0 h]; rfl
theorem itoaB_neg_big (n : Nat) (h : ¬ n < 10) : itoaB (-(n : Int)) = itoaB (-((n / 10 : Nat) : Int)) ++ dgB (n % 10) := by rw [append_bytes]; unfold itoaB; rw [itoa_neg_big n h]; rfl

theorem slice_dig (d : Nat) (h : d < 10) (x y : Int) (hx : x = d) (hy : y = d + 1) (W : World) :
    (Instr.slice 9 (.string ⟨#[48, 49, 50, 51, 52, 53, 54, 55, 56, 57]⟩) (some (.int .i64 x)) (some (.int .i64 y)) none).run Tryz.prog W = .ok (.string (dgB d)) W := by
  subst hx hy
  unfold dgB
  rw [← dig_ext d h]
  have hs : (⟨#[48, 49, 50, 51, 52, 53, 54, 55, 56, 57]⟩ : ByteArray).size = 10 := rfl
  have h1 : (0 : Int) ≤ (d : Int) + 1 := by omega
  have h2 : (d : Int) + 1 ≤ 10 := by omega
  have h3 : (0 : Int) ≤ (d : Int) := by omega
  have h4 : (d : Int) ≤ ((d : Int) + 1).toNat := by omega
  have h5 : ((d : Int) + 1).toNat = d + 1 := by omega
  simp [Instr.slice, run_underlying Tryz.underlying9, Instr.sliceBounds, Instr.sliceBound, asIntOf, hs, h1, h2, h3, h4, h5]

set_option maxRecDepth 100000 in
set_option maxHeartbeats 400000 in
theorem digits_pos (k : Nat) : ∀ (n : Nat) (w : World), n ≤ k → n ≤ 1125899906842624 →
    Calls Tryz.prog 17 #[.int .i64 (n : Int)] w fun e w' => e = .returned (.string (itoaB (n : Int))) ∧ w = w' := by
  induction k with
  | zero =>
    intro n w hk hn
    obtain rfl : n = 0 := by omega
    go_enter Tryz.func17, Tryz.ntmps17
    go_wp2_with fail
    go_ret
    exact ⟨ret_text (by rw [itoaB_small 0 (by omega)]; rfl), rfl⟩
  | succ k ih =>
    intro n w hk hn
    have hsl := slice_dig (n % 10) (by omega) ((n : Int) % 10) ((n : Int) % 10 + 1) (by omega) (by omega)
    by_cases h10 : n < 10
    · have HI := Lib.hid (itoaB_small n h10)
      rw [show n % 10 = n from by omega] at hsl
      generalize dgB n = B at *
      clear ih
      go_enter Tryz.func17, Tryz.ntmps17
      go_wp2_with fail
      go_ret
      exact ⟨ret_text HI.out.symm, rfl⟩
    · have hq : (n : Int) / 10 = ((n / 10 : Nat) : Int) := by omega
      have HI := Lib.hid (itoaB_big n h10)
      have hc := fun w => ih (n / 10) w (by omega) (by omega)
      have hz1 := itoaB_size ((n / 10 : Nat) : Int) (by omega) (by omega)
      have hz2 : (dgB (n % 10)).size ≤ 1 := Nat.le_refl 1
      generalize itoaB ((n / 10 : Nat) : Int) = A at *
      generalize dgB (n % 10) = B at *
      have HC : Hid (∀ w, Calls Tryz.prog 17 #[.int .i64 ((n / 10 : Nat) : Int)] w fun e w' => e = .returned (.string A) ∧ w = w') := Lib.hid hc
      clear ih hc
      have d1 : decide ((n : Int) < 10) = false := by simp; omega
      have hmb : n / 10 ≤ 1125899906842624 := by omega
      generalize hm : n / 10 = m at *
      clear hm
      go_enter Tryz.func17, Tryz.ntmps17
      go_wp2_with fail
      refine (HC.out _).mono ?_
      rintro e w' ⟨rfl, rfl⟩
      go_wp2_with fail
      go_ret
      exact ⟨ret_text HI.out.symm, rfl⟩

set_option maxRecDepth 100000 in
set_option maxHeartbeats 400000 in
theorem digits_neg (k : Nat) : ∀ (n : Nat) (w : World), n ≤ k → 0 < n → n ≤ 1125899906842624 →
    Calls Tryz.prog 17 #[.int .i64 (-(n : Int))] w fun e w' => e = .returned (.string (itoaB (-(n : Int)))) ∧ w = w' := by
  induction k with
  | zero => intro n w hk h0 hn; omega
  | succ k ih =>
    intro n w hk h0 hn
    have hrem : (-(n : Int)).tmod 10 = -((n % 10 : Nat) : Int) := by rw [Int.neg_tmod]; simp [Int.tmod]
    have hquo : (-(n : Int)).tdiv 10 = -((n / 10 : Nat) : Int) := by rw [Int.neg_tdiv]; simp [Int.tdiv]
    have hsl := slice_dig (n % 10) (by omega) ((n : Int) % 10) (1 + (n : Int) % 10) (by omega) (by omega)
    by_cases h10 : n < 10
    · have HI := Lib.hid (itoaB_neg_small n h0 h10)
      have hz2 : (dgB n).size ≤ 1 := Nat.le_refl 1
      rw [show n % 10 = n from by omega] at hsl
      generalize dgB n = B at *
      clear ih
      go_enter Tryz.func17, Tryz.ntmps17
      go_wp2_with fail
      go_ret
      exact ⟨ret_text HI.out.symm, rfl⟩
    · have HI := Lib.hid (itoaB_neg_big n h10)
      have hc := fun w => ih (n / 10) w (by omega) (by omega) (by omega)
      have hz1 := itoaB_size (-((n / 10 : Nat) : Int)) (by omega) (by omega)
      have hz2 : (dgB (n % 10)).size ≤ 1 := Nat.le_refl 1
      generalize itoaB (-((n / 10 : Nat) : Int)) = A at *
      generalize dgB (n % 10) = B at *
      have HC : Hid (∀ w, Calls Tryz.prog 17 #[.int .i64 (-((n / 10 : Nat) : Int))] w fun e w' => e = .returned (.string A) ∧ w = w') := Lib.hid hc
      clear ih hc
      have d1 : decide ((n : Int) < 10) = false := by simp; omega
      have hmb : n / 10 ≤ 1125899906842624 := by omega
      generalize hm : n / 10 = m at *
      clear hm
      go_enter Tryz.func17, Tryz.ntmps17
      go_wp2_with fail
      refine (HC.out _).mono ?_
      rintro e w' ⟨rfl, rfl⟩
      go_wp2_with fail
      go_ret
      exact ⟨ret_text HI.out.symm, rfl⟩

theorem digits_calls (n : Int) (w : World) (h0 : -1125899906842624 ≤ n) (h1 : n ≤ 1125899906842624) :
    Calls Tryz.prog 17 #[.int .i64 n] w fun e w' => e = .returned (.string (itoaB n)) ∧ w = w' := by
  by_cases h : 0 ≤ n
  · obtain ⟨k, rfl⟩ := Int.eq_ofNat_of_zero_le h
    exact digits_pos k k w (Nat.le_refl _) (by omega)
  · obtain ⟨k, hk⟩ := Int.eq_ofNat_of_zero_le (show 0 ≤ -n by omega)
    obtain rfl : n = -(k : Int) := by omega
    exact digits_neg k k w (Nat.le_refl _) (by omega) (by omega)
end Go.Proofs.YtphilpjglajffaaGreatDoor.Lin
