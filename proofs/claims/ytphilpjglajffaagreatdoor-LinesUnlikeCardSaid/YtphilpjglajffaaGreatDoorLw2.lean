/- Walks of the reference's Hex and Even. -/
import Derived.Test.YtphilpjglajffaaGreatDoorLw1
namespace Go.Proofs.YtphilpjglajffaaGreatDoor.Lin
open Go.RowKit

def digs : ByteArray := ⟨#[48, 49, 50, 51, 52, 53, 54, 55, 56, 57, 97, 98, 99, 100, 101, 102]⟩

theorem below_drewN {n : Nat} {w w1 : World} (h : Below n w w1) (m : Nat) : Below n w (w1.drewN m) := ⟨h.os, h.tape, h.output, h.size, h.block⟩

theorem dig_cut (n : Nat) (h : n < 16) : digs.extract n (n + 1) = ⟨⟨[dig n]⟩⟩ := by
  have : n = 0 ∨ n = 1 ∨ n = 2 ∨ n = 3 ∨ n = 4 ∨ n = 5 ∨ n = 6 ∨ n = 7 ∨ n = 8 ∨ n = 9 ∨ n = 10 ∨ n = 11 ∨ n = 12 ∨ n = 13 ∨ n = 14 ∨ n = 15 := by omega
  rcases this with rfl | rfl | rfl | rfl | rfl | rfl | rfl | rfl | rfl | rfl | rfl | rfl | rfl | rfl | rfl | rfl <;> decide

theorem cut_run (x : Int) (n : Nat) (hx : x = n) (h : n < 16) (W : World) :
    (Instr.slice 9 (.string ⟨#[48, 49, 50, 51, 52, 53, 54, 55, 56, 57, 97, 98, 99, 100, 101, 102]⟩) (some (.int .i64 x)) (some (.int .i64 (x + 1))) none).run Tryz.prog W = .ok (.string ⟨⟨[dig n]⟩⟩) W := by
  subst hx
  have e := dig_cut n h
  unfold digs at e
  have h1 : (0 : Int) ≤ (n : Int) + 1 ∧ (n : Int) + 1 ≤ ((⟨#[48, 49, 50, 51, 52, 53, 54, 55, 56, 57, 97, 98, 99, 100, 101, 102]⟩ : ByteArray).size : Nat) := by
    have : (⟨#[48, 49, 50, 51, 52, 53, 54, 55, 56, 57, 97, 98, 99, 100, 101, 102]⟩ : ByteArray).size = 16 := rfl
    omega
  have h2 : (0 : Int) ≤ (n : Int) ∧ (n : Int) ≤ (((n : Int) + 1).toNat : Nat) := by omega
  have h3 : ((n : Int) + 1).toNat = n + 1 := by omega
  simp only [Instr.slice, Sem.run_bind, run_underlying Tryz.underlying9, Result.andThen_ok, Option.isSome_none, Bool.false_eq_true, if_false, Instr.sliceBounds, Instr.sliceBound, asIntOf, Sem.run_pure, if_pos h1, if_pos h2]
  rw [h3, Int.toNat_natCast, e]

set_option maxRecDepth 100000 in
set_option maxHeartbeats 1000000 in
theorem rhex_calls (s : ByteArray) (w : World) (hs : s.size ≤ 1048576) :
    Calls Tryz.prog 15 #[.string s] w fun e w' => e = .returned (.string ⟨⟨hexW s.data.toList⟩⟩) ∧ Below w.heap.size w w' := by
  go_enter Tryz.func15, Tryz.ntmps15
  by_cases h0 : s.data.toList = []
  · have hne : s.toList.isEmpty = true := by rw [ByteArray.toList_eq, h0]; rfl
    go_wp2
    go_ret
    exact ⟨by rw [h0]; rfl, Below.refl _ _⟩
  · have hne : s.toList.isEmpty = false := by rw [ByteArray.toList_eq]; simpa using h0
    have hlen : s.data.toList.length = s.size := by simp
    go_wp2
    go_loopw [4, 5] (fun v i w1 => ∃ k : Nat, k ≤ s.size ∧ i = .int .i64 k ∧ v = .string ⟨⟨hexL (s.data.toList.take k)⟩⟩ ∧ Below w.heap.size w w1) (fun _ i _ => s.size - (intOf i).toNat)
    case atStart => exact ⟨0, Nat.zero_le _, rfl, rfl, Below.refl _ _⟩
    case round =>
      obtain ⟨k, hk, rfl, rfl, hbel⟩ := hrel
      by_cases hlt : k < s.size
      · have hx : (s[k]'hlt).toNat < 256 := (s[k]'hlt).toNat_lt
        have hts : (⟨⟨hexL (s.data.toList.take k)⟩⟩ : ByteArray).size = 2 * k := by
          show (hexL (s.data.toList.take k)).length = 2 * k
          rw [hexL_length, List.length_take]; omega
        go_wp2
        go_quiet (fail)
        go_wp2
        have hb2 : Below w.heap.size w (wr.drewN nq) := below_drewN hbel nq
        generalize wr.drewN nq = w2 at *
        have c1 := cut_run (((s[k]'hlt).toNat : Int) / 16) ((s[k]'hlt).toNat / 16) (by omega) (by omega)
        have c2 := cut_run (((s[k]'hlt).toNat : Int) % 16) ((s[k]'hlt).toNat % 16) (by omega) (by omega)
        have p1 : (0 : Int) ≤ ((s[k]'hlt).toNat : Int) / 16 + 1 ∧ ((s[k]'hlt).toNat : Int) / 16 + 1 ≤ 16 := by omega
        have p2 : (0 : Int) ≤ ((s[k]'hlt).toNat : Int) % 16 + 1 ∧ ((s[k]'hlt).toNat : Int) % 16 + 1 ≤ 16 := by omega
        go_region
        go_wp2
        go_roundw
        case rel =>
          refine ⟨k + 1, by omega, by simp, ?_, hb2.drew⟩
          have hl : k < s.data.toList.length := by simpa using hlt
          rw [hexL_take _ k hl]
          congr 1
          apply ByteArray.ext; apply Array.ext'
          simp [hexB]
          exact ⟨rfl, rfl⟩
        case measure => simp [intOf]; omega
      · have hke : k = s.size := by omega
        go_wp2
        go_ret
        refine ⟨?_, hbel⟩
        rw [hke, ← hlen, List.take_length]
        unfold hexW
        rw [if_neg h0]
        rfl

theorem isHex_of (b : UInt8) (h : (48 ≤ b.toNat ∧ b.toNat ≤ 57) ∨ (97 ≤ b.toNat ∧ b.toNat ≤ 102)) : isHex b = true := by
  unfold isHex
  rcases h with ⟨h1, h2⟩ | ⟨h1, h2⟩ <;> simp [h1, h2]
theorem isHex_no (b : UInt8) (h : ¬ ((48 ≤ b.toNat ∧ b.toNat ≤ 57) ∨ (97 ≤ b.toNat ∧ b.toNat ≤ 102))) : isHex b = false := by
  unfold isHex
  simp only [Bool.or_eq_false_iff, Bool.and_eq_false_iff, decide_eq_false_iff_not]
  omega
theorem all_step (s : ByteArray) (k : Nat) (hlt : k < s.size) (h : (s.data.toList.take k).all isHex = true) (hb : isHex (s[k]'hlt) = true) : (s.data.toList.take (k + 1)).all isHex = true := by
  have hl : k < s.data.toList.length := by simpa using hlt
  rw [List.take_succ_eq_append_getElem hl, List.all_append, h]
  simp only [List.all_cons, List.all_nil, Bool.and_true, Bool.true_and]
  exact hb
theorem even_bad (s : ByteArray) (k : Nat) (hlt : k < s.size) (hd : ¬ s.data.toList = [46]) (hb : isHex (s[k]'hlt) = false) : evenW s.data.toList = false := by
  have hl : k < s.data.toList.length := by simpa using hlt
  have : s.data.toList.all isHex = false := by
    cases hx : s.data.toList.all isHex with
    | false => rfl
    | true =>
      have := List.all_eq_true.1 hx _ (List.getElem_mem hl)
      rw [show s.data.toList[k] = s[k]'hlt from rfl, hb] at this
      cases this
  unfold evenW
  rw [decide_eq_false hd, this]
  simp
theorem even_good (s : ByteArray) (h2 : s.size % 2 = 0) (h0 : ¬ s.size = 0) (h : s.data.toList.all isHex = true) : evenW s.data.toList = true := by
  have hlen : s.data.toList.length = s.size := by simp
  have hnil : s.data.toList ≠ [] := fun e => h0 (by rw [← hlen, e]; rfl)
  unfold evenW
  rw [h, hlen, decide_eq_true hnil, decide_eq_true h2]
  simp

set_option maxRecDepth 100000 in
set_option maxHeartbeats 1000000 in
theorem even_calls (s : ByteArray) (w : World) (hs : s.size ≤ 1048576) :
    Calls Tryz.prog 16 #[.string s] w fun e w' => e = .returned (.bool (evenW s.data.toList)) ∧ w' = w := by
  go_enter Tryz.func16, Tryz.ntmps16
  by_cases hd : s.data.toList = [46]
  · have hdot : (s.toList == [46]) = true := by rw [ByteArray.toList_eq, hd]; rfl
    go_wp2
    go_ret
    exact ⟨by rw [hd]; rfl, rfl⟩
  · have hdot : (s.toList == [46]) = false := by rw [ByteArray.toList_eq]; simpa using hd
    by_cases h0 : s.size = 0
    · have h0' : ((s.size : Int) == 0) = true := by rw [h0]; rfl
      go_wp2
      go_ret
      have hl : s.data.toList = [] := List.eq_nil_of_length_eq_zero (by simpa using h0)
      exact ⟨by rw [hl]; rfl, rfl⟩
    · have h0' : ((s.size : Int) == 0) = false := by simpa using h0
      have hlen : s.data.toList.length = s.size := by simp
      have hnil : s.data.toList ≠ [] := fun e => h0 (by rw [← hlen, e]; rfl)
      by_cases hodd : s.size % 2 = 1
      · have hodd' : ((s.size : Int) % 2 != 0) = true := by simp; omega
        go_wp2
        go_ret
        refine ⟨?_, rfl⟩
        have : evenW s.data.toList = false := by
          unfold evenW
          rw [decide_eq_false hd, hlen]
          simp [hodd]
        rw [this]
        rfl
      · have hodd' : ((s.size : Int) % 2 != 0) = false := by simp; omega
        go_wp2
        go_loop [3] (fun i => ∃ k : Nat, k ≤ s.size ∧ i = .int .i64 k ∧ (s.data.toList.take k).all isHex = true) (fun i => s.size - (intOf i).toNat)
        case atStart => exact ⟨0, Nat.zero_le _, rfl, rfl⟩
        case round =>
          obtain ⟨k, hk, rfl, hall⟩ := hrel
          by_cases hlt : k < s.size
          · have hx : (s[k]'hlt).toNat < 256 := (s[k]'hlt).toNat_lt
            by_cases c1 : (48 : Int) ≤ ((s[k]'hlt).toNat : Int) <;> by_cases c2 : ((s[k]'hlt).toNat : Int) ≤ 57 <;> by_cases c3 : (97 : Int) ≤ ((s[k]'hlt).toNat : Int) <;> by_cases c4 : ((s[k]'hlt).toNat : Int) ≤ 102
            all_goals try (exfalso; omega)
            all_goals go_wp2
            all_goals first
              | (go_ret
                 refine ⟨?_, rfl⟩
                 rw [even_bad s k hlt hd (isHex_no _ (by omega))]
                 rfl)
              | (refine ⟨⟨k + 1, by omega, by simp, all_step s k hlt hall (isHex_of _ (by omega))⟩, by simp [intOf]; omega⟩)
          · have hke : k = s.size := by omega
            go_wp2
            go_ret
            refine ⟨?_, rfl⟩
            rw [even_good s (by omega) h0 (by rw [hke, ← hlen, List.take_length] at hall; exact hall)]
            rfl
end Go.Proofs.YtphilpjglajffaaGreatDoor.Lin
