/- Walks of the names' functions. -/
import Derived.Test.YtphilpjglajffaaGreatDoorEa
import Derived.Test.YtphilpjglajffaaGreatDoorShelf2
import Derived.Laws.RangeAny
namespace Go.Proofs.YtphilpjglajffaaGreatDoor.Lin
open Go.RowKit

def allSign (s : ByteArray) : Bool := s.data.toList.all fun b => signI b.toNat
theorem allSign_iff (s : ByteArray) : allSign s = true ↔ ∀ i, (h : i < s.size) → signI (s[i]'h).toNat = true := by
  unfold allSign
  rw [List.all_eq_true]
  constructor
  · intro h i hi
    exact h _ (by rw [Array.mem_toList_iff]; exact Array.getElem_mem (xs := s.data) hi)
  · intro h b hb
    rw [Array.mem_toList_iff] at hb
    obtain ⟨i, hi, rfl⟩ := Array.getElem_of_mem hb
    exact h i hi
theorem signI_high (c : Nat) (h : 128 ≤ c) : signI (c : Int) = false := by
  unfold signI
  simp
  omega
theorem idxFrom_sign (s : ByteArray) : ∀ f pos, s.size - pos ≤ f → (Lib.idxFuncFrom (fun r => !signI (r : Int)) true s f pos < 0 ↔ ∀ i, pos ≤ i → (h : i < s.size) → signI (s[i]'h).toNat = true)
  | 0, pos, hf => by
    unfold Lib.idxFuncFrom
    exact ⟨fun _ i hi h => by omega, fun _ => by omega⟩
  | f + 1, pos, hf => by
    unfold Lib.idxFuncFrom
    by_cases hp : pos < s.size
    · rw [if_pos hp]
      by_cases ha : (s[pos]'hp).toNat < 128
      · rw [decode_ascii s pos hp ha]
        cases hs : signI ((s[pos]'hp).toNat : Int) with
        | true =>
          simp only [Bool.not_true, Bool.false_eq_true, if_false]
          rw [idxFrom_sign s f (pos + 1) (by omega)]
          constructor
          · intro h i hi hlt
            rcases Nat.eq_or_lt_of_le hi with rfl | h1
            · exact hs
            · exact h i h1 hlt
          · intro h i hi hlt
            exact h i (by omega) hlt
        | false =>
          simp only [Bool.not_false, if_true]
          constructor
          · intro h; omega
          · intro h
            rw [h pos (Nat.le_refl _) hp] at hs
            simp at hs
      · have hd := decode_high s pos hp (by omega)
        rw [signI_high _ hd.1]
        simp only [Bool.not_false, if_true]
        constructor
        · intro h; omega
        · intro h
          have h1 := h pos (Nat.le_refl _) hp
          rw [signI_high _ (by omega)] at h1
          simp at h1
    · rw [if_neg hp]
      exact ⟨fun _ i hi h => by omega, fun _ => by omega⟩
theorem idx_sign (s : ByteArray) : decide (Lib.idxFunc (fun r => !signI (r : Int)) true s < 0) = allSign s := by
  rw [Bool.eq_iff_iff, decide_eq_true_eq, allSign_iff]
  unfold Lib.idxFunc
  rw [idxFrom_sign s s.size 0 (by omega)]
  exact ⟨fun h i hi => h i (Nat.zero_le _) hi, fun h i _ hi => h i hi⟩

theorem unsign_at (w : World) : PredAt Tryz.prog 86 #[] encR (fun r => !signI (r : Int)) w := fun W r _ => by
  unfold FnGives
  refine (unsign_calls r W).mono ?_
  rintro e w' ⟨rfl, rfl⟩
  exact ⟨rfl, 0, rfl⟩

/-- a plain name? -/
def plainB (s : ByteArray) : Bool := decide (s.size ≠ 0) && (decide (s.size ≤ 16) && allSign s)
theorem plain_calls' (s : ByteArray) (w : World) : Calls Tryz.prog 65 #[.string s] w fun e w' => e = .returned (.bool (plainB s)) ∧ Below w.heap.size w w' := by
  unfold plainB
  have hC := Tryz.strings_IndexFunc 86 #[] (enters_of Tryz.func86 (by kernel_rfl) rfl) _ s w (unsign_at w)
  have HI := Lib.hid (idx_sign s)
  generalize Lib.idxFunc (fun r => !signI (r : Int)) true s = X at *
  have HC := Lib.hid hC
  clear hC
  by_cases h1 : s.size = 0 <;> by_cases h2 : s.size ≤ 16
  all_goals
    have hne := is_empty s
    simp only [h1, decide_true, decide_false] at hne
    have h3 : ((s.size : Int) ≤ 16) = (s.size ≤ 16) := by simp; omega
    simp only [h2] at h3
    go_enter Tryz.func65, Tryz.ntmps65
    go_wp2_with fail
  all_goals first | (exfalso; omega) | skip
  all_goals first
    | (refine HC.out.mono ?_
       rintro e w' ⟨rfl, hb⟩
       have HB := Lib.hid hb
       clear hb
       go_wp2_with fail
       go_ret
       refine ⟨ret_bool ?_, HB.out⟩
       rw [HI.out]
       simp [h1, h2])
    | (go_ret; refine ⟨ret_bool ?_, Below.refl _ _⟩; simp [h1, h2])

def groupB (s : ByteArray) : Bool := plainB s && decide (s.size ≤ 8)
theorem group_calls (s : ByteArray) (w : World) : Calls Tryz.prog 45 #[.string s] w fun e w' => e = .returned (.bool (groupB s)) ∧ Below w.heap.size w w' := by
  unfold groupB
  go_enter Tryz.func45, Tryz.ntmps45
  go_wp2_with fail
  refine (plain_calls' s _).mono ?_
  rintro e w3 ⟨rfl, hb⟩
  have HB := Lib.hid hb
  clear hb
  have h3 : ((s.size : Int) ≤ 8) = (s.size ≤ 8) := by simp; omega
  cases hp : plainB s <;> by_cases h2 : s.size ≤ 8
  all_goals
    simp only [h2] at h3
    go_wp2_with fail
    go_ret
    refine ⟨ret_bool ?_, HB.out⟩
    simp [h2, hp]

def tagB (s : ByteArray) : Bool := decide (s.size = 0) || plainB s
theorem tag_calls (s : ByteArray) (w : World) : Calls Tryz.prog 43 #[.string s] w fun e w' => e = .returned (.bool (tagB s)) ∧ Below w.heap.size w w' := by
  unfold tagB
  by_cases h1 : s.size = 0
  all_goals
    have hne := is_empty s
    simp only [h1, decide_true, decide_false] at hne
    go_enter Tryz.func43, Tryz.ntmps43
    go_wp2_with fail
  · go_ret
    refine ⟨ret_bool ?_, Below.refl _ _⟩
    simp [h1]
  · refine (plain_calls' s _).mono ?_
    rintro e w3 ⟨rfl, hb⟩
    have HB := Lib.hid hb
    clear hb
    go_wp2_with fail
    go_ret
    refine ⟨ret_bool ?_, HB.out⟩
    simp [h1]

def retryB : ByteArray := ⟨#[37, 114, 101, 116, 114, 121, 37]⟩
def deadB : ByteArray := ⟨#[37, 100, 101, 97, 100, 37]⟩
def cutB (s p : ByteArray) : ByteArray := ⟨(Lib.trimPrefix s.data.toList p.data.toList).toArray⟩
def hasB (s p : ByteArray) : Bool := Lib.hasPrefix s.data.toList p.data.toList
def headB (s p : ByteArray) : Bool := hasB s p && groupB (cutB s p)
def ownTopic (s : ByteArray) : Bool := headB s retryB || headB s deadB
theorem cut_calls (s p : ByteArray) (w : World) : Calls Tryz.prog 92 #[.string s, .string p] w fun e w' => e = .returned (.tuple #[.string (cutB s p), .bool (hasB s p)]) ∧ w' = w := Tryz.strings_CutPrefix s p w
def ofW (s : ByteArray) : ByteArray := if headB s retryB then cutB s retryB else if headB s deadB then cutB s deadB else ⟨#[]⟩

set_option maxHeartbeats 1000000 in
theorem of_calls (s : ByteArray) (w : World) : Calls Tryz.prog 72 #[.string s] w fun e w' => e = .returned (.tuple #[.string (ofW s), .bool (ownTopic s)]) ∧ Below w.heap.size w w' := by
  have HA : Hid (Below w.heap.size w (w.alloc (.cells #[.string retryB, .string deadB] 9))) := Lib.hid ((Below.refl _ _).alloc (Nat.le_refl _) _)
  go_enter Tryz.func72, Tryz.ntmps72
  go_wp2_with fail
  refine wp_loop_rounds 3 ?_
  rw [rounds_succ]
  go_wp2_with fail
  refine (cut_calls s retryB _).mono ?_
  rintro e w3 ⟨rfl, rfl⟩
  cases hh : hasB s retryB
  · go_wp2_with fail
    rw [rounds_succ]
    go_wp2_with fail
    refine (cut_calls s deadB _).mono ?_
    rintro e w3 ⟨rfl, rfl⟩
    cases hd : hasB s deadB
    · go_wp2_with fail
      rw [rounds_succ]
      go_wp2_with fail
      go_ret2
      exact ⟨by simp [ofW, ownTopic, headB, hh, hd], HA.out⟩
    · go_wp2_with fail
      refine (group_calls _ _).mono ?_
      rintro e w4 ⟨rfl, hb⟩
      have HB := Lib.hid (HA.out.trans (hb.mono HA.out.size))
      clear hb
      cases hg : groupB (cutB s deadB)
      · go_wp2_with fail
        rw [rounds_succ]
        go_wp2_with fail
        go_ret2
        exact ⟨by simp [ofW, ownTopic, headB, hh, hd, hg], HB.out⟩
      · go_wp2_with fail
        go_ret2
        exact ⟨by simp [ofW, ownTopic, headB, hh, hd, hg], HB.out⟩
  · go_wp2_with fail
    refine (group_calls _ _).mono ?_
    rintro e w4 ⟨rfl, hb⟩
    have c1 : w4.cell? ⟨w.heap.size, 1, none⟩ = some (.string deadB) := (hb.cell (by simp)).trans (by simp; rfl)
    have HB := Lib.hid (HA.out.trans (hb.mono HA.out.size))
    clear hb
    cases hg : groupB (cutB s retryB)
    · go_wp2_with fail
      rw [rounds_succ]
      go_wp2_with fail
      refine (cut_calls s deadB _).mono ?_
      rintro e w5 ⟨rfl, rfl⟩
      cases hd : hasB s deadB
      · go_wp2_with fail
        rw [rounds_succ]
        go_wp2_with fail
        go_ret2
        exact ⟨by simp [ofW, ownTopic, headB, hh, hd, hg], HB.out⟩
      · go_wp2_with fail
        refine (group_calls _ _).mono ?_
        rintro e w4 ⟨rfl, hb⟩
        have HC := Lib.hid (HB.out.trans (hb.mono HB.out.size))
        clear hb
        cases hg2 : groupB (cutB s deadB)
        · go_wp2_with fail
          rw [rounds_succ]
          go_wp2_with fail
          go_ret2
          exact ⟨by simp [ofW, ownTopic, headB, hh, hd, hg, hg2], HC.out⟩
        · go_wp2_with fail
          go_ret2
          exact ⟨by simp [ofW, ownTopic, headB, hh, hd, hg, hg2], HC.out⟩
    · go_wp2_with fail
      go_ret2
      exact ⟨by simp [ofW, ownTopic, headB, hh, hg], HB.out⟩

def topicB (s : ByteArray) : Bool := ownTopic s || plainB s
theorem topic_calls (s : ByteArray) (w : World) : Calls Tryz.prog 44 #[.string s] w fun e w' => e = .returned (.bool (topicB s)) ∧ Below w.heap.size w w' := by
  unfold topicB
  go_enter Tryz.func44, Tryz.ntmps44
  go_wp2_with fail
  refine (of_calls s _).mono ?_
  rintro e w3 ⟨rfl, hb⟩
  have HB := Lib.hid hb
  clear hb
  cases ho : ownTopic s
  · go_wp2_with fail
    refine (plain_calls' s _).mono ?_
    rintro e w4 ⟨rfl, hb⟩
    have HC := Lib.hid (HB.out.trans (hb.mono HB.out.size))
    clear hb
    go_wp2_with fail
    go_ret
    exact ⟨ret_bool (by simp [ho]), HC.out⟩
  · go_wp2_with fail
    go_ret
    exact ⟨ret_bool (by simp [ho]), HB.out⟩

end Go.Proofs.YtphilpjglajffaaGreatDoor.Lin
