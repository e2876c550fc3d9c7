/- The walk of LinesHex. -/
import Derived.Test.YtphilpjglajffaaGreatDoorLw3
import Derived.Test.YtphilpjglajffaaGreatDoorAwake2
namespace Go.Proofs.YtphilpjglajffaaGreatDoor.Lin
open Go.RowKit

theorem hexW_length (l : List UInt8) : (hexW l).length ≤ 2 * l.length + 1 := by
  unfold hexW
  split
  · simp
  · rw [hexL_length]; omega

theorem back_calls (s : ByteArray) (w : World) (hs : s.size ≤ 1000) :
    Calls Tryz.prog 14 #[.string ⟨⟨hexW s.data.toList⟩⟩] w fun e w' => e = .returned (.tuple #[.string s, .bool true]) ∧ Below w.heap.size w w' := by
  have hl := hexW_length s.data.toList
  have h := unhex_calls ⟨⟨hexW s.data.toList⟩⟩ w (by show (hexW s.data.toList).length ≤ _; simp at hl; omega)
  refine h.mono ?_
  rintro e w' ⟨rfl, hb⟩
  refine ⟨?_, hb⟩
  rw [show (⟨⟨hexW s.data.toList⟩⟩ : ByteArray).data.toList = hexW s.data.toList from rfl, unhex_hex]

set_option maxRecDepth 100000 in
set_option maxHeartbeats 4000000 in
theorem law_calls (s t : ByteArray) {tp : TypeId} {p : Value} (w : World) (hw : w.cell? ⟨2, 0, none⟩ = some (.iface tp p)) (h2 : 2 < w.heap.size) :
    Calls Tryz.prog 4 #[.string s, .string t] w fun e w' => e = .returned (.bool true) ∧ Below w.heap.size w w' := by
  go_enter Tryz.func4, Tryz.ntmps4
  by_cases hs : s.size ≤ 1000
  · by_cases ht : t.size ≤ 1000
    · have hs' : decide ((1000 : Int) < (s.size : Int)) = false := decide_eq_false (by omega)
      have ht' : decide ((1000 : Int) < (t.size : Int)) = false := decide_eq_false (by omega)
      have hu := unhex_any t.data.toList
      go_wp2_with fail
      refine (Go.Ev.awake_calls hw h2).mono ?_
      rintro e w1 ⟨rfl, hb1⟩
      go_wp2_with fail
      refine (hex_calls s _ (by omega)).mono ?_
      rintro e w2 ⟨rfl, hb2⟩
      go_wp2_with fail
      refine (back_calls s _ hs).mono ?_
      rintro e w3 ⟨rfl, hb3⟩
      go_wp2_with fail
      refine (rhex_calls s _ (by omega)).mono ?_
      rintro e w4 ⟨rfl, hb4⟩
      go_wp2_with fail
      have hun := unhex_calls t w4 (by omega)
      cases hp : unhexW t.data.toList with
      | mk y is =>
        rw [hp] at hun hu
        obtain ⟨u1, u2, u3⟩ := hu
        simp only at u1 u2 u3 hun
        have hev := u1.symm
        clear u1
        cases is with
        | false =>
          have hy := u2 rfl
          subst hy
          refine hun.mono ?_
          rintro e w5 ⟨rfl, hb5⟩
          go_wp2_with fail
          refine (even_calls t _ (by omega)).mono ?_
          rintro e w6 ⟨rfl, rfl⟩
          rw [hev]
          go_wp2_with fail
          go_ret
          exact ⟨rfl, (((hb1.trans (hb2.mono hb1.size)).trans (hb3.mono (Nat.le_trans hb1.size hb2.size))).trans (hb4.mono (Nat.le_trans (Nat.le_trans hb1.size hb2.size) hb3.size))).trans (hb5.mono (Nat.le_trans (Nat.le_trans (Nat.le_trans hb1.size hb2.size) hb3.size) hb4.size))⟩
        | true =>
          have hy := u3 rfl
          have hyl : y.length ≤ 1048576 := by
            have h1 := congrArg List.length hy
            by_cases h0 : y = []
            · rw [h0]; simp
            · unfold hexW at h1
              rw [if_neg h0, hexL_length] at h1
              simp at h1
              omega
          refine hun.mono ?_
          rintro e w5 ⟨rfl, hb5⟩
          go_wp2_with fail
          refine (even_calls t _ (by omega)).mono ?_
          rintro e w6 ⟨rfl, rfl⟩
          rw [hev]
          go_wp2_with fail
          refine (rhex_calls ⟨⟨y⟩⟩ _ hyl).mono ?_
          rintro e w7 ⟨rfl, hb7⟩
          have hcmp : (hexW y == t.toList) = true := by rw [ByteArray.toList_eq, hy]; simp
          go_wp2_with fail
          go_ret
          exact ⟨rfl, ((((hb1.trans (hb2.mono hb1.size)).trans (hb3.mono (Nat.le_trans hb1.size hb2.size))).trans (hb4.mono (Nat.le_trans (Nat.le_trans hb1.size hb2.size) hb3.size))).trans (hb5.mono (Nat.le_trans (Nat.le_trans (Nat.le_trans hb1.size hb2.size) hb3.size) hb4.size))).trans (hb7.mono (Nat.le_trans (Nat.le_trans (Nat.le_trans (Nat.le_trans hb1.size hb2.size) hb3.size) hb4.size) hb5.size))⟩
    · have hs' : decide ((1000 : Int) < (s.size : Int)) = false := decide_eq_false (by omega)
      have ht' : decide ((1000 : Int) < (t.size : Int)) = true := decide_eq_true (by omega)
      go_wp2_with fail
      refine (Go.Ev.awake_calls hw h2).mono ?_
      rintro e w1 ⟨rfl, hb1⟩
      go_wp2_with fail
      go_ret
      exact ⟨rfl, hb1⟩
  · have hs' : decide ((1000 : Int) < (s.size : Int)) = true := decide_eq_true (by omega)
    go_wp2_with fail
    refine (Go.Ev.awake_calls hw h2).mono ?_
    rintro e w1 ⟨rfl, hb1⟩
    go_wp2_with fail
    go_ret
    exact ⟨rfl, hb1⟩
end Go.Proofs.YtphilpjglajffaaGreatDoor.Lin
