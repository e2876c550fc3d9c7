/- What CrcSeals wants of the plain law and of Open. -/
import Derived.Test.YtdhokdjmobmpoaaWk8
namespace Go.Proofs.Ytdhokdjmobmpoaa.Crc
open Go.RowKit

/-- a text, sealed -/
def sealL (l : List UInt8) : List UInt8 := wordL (sum l) ++ l

theorem wordL_length (n : Nat) : (wordL n).length = 4 := rfl
theorem wordL_inj {a b : Nat} (ha : a < 4294967296) (hb : b < 4294967296) (h : wordL a = wordL b) : a = b := by
  unfold wordL at h
  simp only [List.cons.injEq, and_true] at h
  obtain ⟨h0, h1, h2, h3⟩ := h
  have g (x y : Nat) (hx : x < 256) (hy : y < 256) (h : UInt8.ofNat x = UInt8.ofNat y) : x = y := by
    have := congrArg UInt8.toNat h
    rw [UInt8.toNat_ofNat', UInt8.toNat_ofNat'] at this
    omega
  have e0 := g _ _ (by omega) (by omega) h0
  have e1 := g _ _ (by omega) (by omega) h1
  have e2 := g _ _ (by omega) (by omega) h2
  have e3 := g _ _ (by omega) (by omega) h3
  omega

/-- is it a sealed text? -/
def isSeal (l : List UInt8) : Bool := decide (4 ≤ l.length) && decide (l.take 4 = wordL (sum (l.drop 4)))

theorem isSeal_seal (l : List UInt8) : isSeal (sealL l) = true := by
  unfold isSeal sealL
  simp [wordL_length]
  rw [List.take_append_of_le_length (by simp [wordL]), List.drop_append_of_le_length (by simp [wordL])]
  simp [wordL]

theorem isSeal_iff (l : List UInt8) (h : 4 ≤ l.length) : isSeal l = decide (sealL (l.drop 4) = l) := by
  unfold isSeal sealL
  rw [decide_eq_true h, Bool.true_and]
  rw [decide_eq_decide]
  constructor
  · intro e; rw [← e, List.take_append_drop]
  · intro e
    have := congrArg (List.take 4) e
    rw [← this, List.take_append_of_le_length (by simp [wordL])]
    rfl

theorem xor_ne (a b : UInt8) (h : b ≠ 0) : a ^^^ b ≠ a := fun e => by
  have h1 : (a ^^^ b) ^^^ a = a ^^^ a := by rw [e]
  rw [UInt8.xor_comm a b, UInt8.xor_assoc, UInt8.xor_self, UInt8.xor_zero] at h1
  exact h h1

/-- one byte turned: no sealed text -/
theorem turned_not (l : List UInt8) (k : Nat) (b : UInt8) (hk : k < (sealL l).length) (hb : b ≠ 0) : isSeal ((sealL l).set k ((sealL l)[k] ^^^ b)) = false := by
  have hne := xor_ne (sealL l)[k] b hb
  generalize hx : (sealL l)[k] ^^^ b = x at *
  unfold isSeal
  have hlen : ((sealL l).set k x).length = 4 + l.length := by simp [sealL, wordL_length]
  rw [decide_eq_true (by omega), Bool.true_and, decide_eq_false_iff_not]
  intro he
  by_cases h4 : k < 4
  · rw [List.drop_set_of_lt h4] at he
    have hd : (sealL l).drop 4 = l := by
      unfold sealL; rw [List.drop_append_of_le_length (by simp [wordL])]; simp [wordL]
    rw [hd] at he
    have := congrArg (fun l => l[k]?) he
    simp only [List.getElem?_take, h4, if_true] at this
    rw [List.getElem?_set_self hk] at this
    have hg : (sealL l)[k]? = (wordL (sum l))[k]? := by
      unfold sealL; rw [List.getElem?_append_left (by rw [wordL_length]; exact h4)]
    rw [← hg, List.getElem?_eq_getElem hk] at this
    exact hne (Option.some.inj this)
  · have h4' : 4 ≤ k := by omega
    have ht : ((sealL l).set k x).take 4 = wordL (sum l) := by
      rw [List.take_set_of_le h4']
      unfold sealL; rw [List.take_append_of_le_length (by simp [wordL])]; rfl
    have hd : ((sealL l).set k x).drop 4 = l.set (k - 4) x := by
      rw [List.drop_set, if_neg (by omega)]
      congr 1
    rw [ht, hd] at he
    have hs := wordL_inj (sum_lt _) (sum_lt _) he
    have hkl : k - 4 < l.length := by simp [sealL, wordL_length] at hk; omega
    have hl : l = l.take (k - 4) ++ l[k - 4] :: l.drop (k - 4 + 1) := by simp
    have hl2 : l.set (k - 4) x = l.take (k - 4) ++ x :: l.drop (k - 4 + 1) := by rw [List.set_eq_take_append_cons_drop, if_pos hkl]
    rw [hl2] at hs
    have hs2 : sum (l.take (k - 4) ++ l[k - 4] :: l.drop (k - 4 + 1)) = sum (l.take (k - 4) ++ x :: l.drop (k - 4 + 1)) := by rw [← hl]; exact hs
    have hxe := sum_turned _ _ _ _ hs2
    have hg : (sealL l)[k] = l[k - 4] := by
      have : (sealL l)[k]? = l[k - 4]? := by unfold sealL; rw [List.getElem?_append_right (by rw [wordL_length]; exact h4'), wordL_length]
      rw [List.getElem?_eq_getElem hk, List.getElem?_eq_getElem hkl] at this
      exact Option.some.inj this
    exact hne (by rw [hg]; exact hxe.symm)

set_option maxRecDepth 100000 in
theorem open_off (s : ByteArray) (w : World) :
    Calls Try.prog 16 #[.pointer none, .string s] w fun e w' => e = .returned (.tuple #[.string ⟨#[]⟩, .bool false]) ∧ Below w.heap.size w w' := by
  go_enter Try.func16, Try.ntmps16
  go_wp2_with fail
  go_quiet (fail)
  go_wp2_with fail
  go_ret2
  exact ⟨rfl, below_drewN' _ _ _⟩

set_option maxRecDepth 100000 in
theorem open_short (B : Nat) (s : ByteArray) (w : World) (h : s.size < 4) :
    Calls Try.prog 16 #[.pointer (some ⟨B, 0, none⟩), .string s] w fun e w' => e = .returned (.tuple #[.string ⟨#[]⟩, .bool false]) ∧ Below w.heap.size w w' := by
  have d4 : decide ((s.size : Int) < 4) = true := by simp; omega
  go_enter Try.func16, Try.ntmps16
  go_wp2_with fail
  go_quiet (fail)
  go_wp2_with fail
  go_ret2
  exact ⟨rfl, below_drewN' _ _ _⟩

theorem size_list (s : ByteArray) : s.data.toList.length = s.size := by simp

theorem open_any (B : Nat) (s : ByteArray) (w : World) (ht : Tab w B) (hs : s.size ≤ 140737488355328) (h4 : 4 ≤ s.size) :
    Calls Try.prog 16 #[.pointer (some ⟨B, 0, none⟩), .string s] w fun e w' => e = .returned (if (!isSeal s.data.toList) = false then .tuple #[.string (s.extract 4 s.size), .bool true] else .tuple #[.string ⟨#[]⟩, .bool false]) ∧ Below w.heap.size w w' := by
  obtain ⟨a, b, c, d, hl⟩ : ∃ a b c d, s.data.toList.take 4 = [a, b, c, d] := by
    have h4' : 4 ≤ s.data.toList.length := by rw [size_list]; exact h4
    match s.data.toList, h4' with
    | a :: b :: c :: d :: _, _ => exact ⟨a, b, c, d, rfl⟩
  refine open_calls B s a b c d w ht hs h4 hl (sum (s.data.toList.drop 4)) (sum_lt _) (by rw [ext_list]) _ ?_
  unfold isSeal
  rw [hl, size_list, decide_eq_true h4, Bool.true_and]

theorem open_yes (B : Nat) (s : ByteArray) (w : World) (ht : Tab w B) (hs : s.size ≤ 140737488355328) (h : isSeal s.data.toList = true) :
    Calls Try.prog 16 #[.pointer (some ⟨B, 0, none⟩), .string s] w fun e w' => e = .returned (.tuple #[.string (s.extract 4 s.size), .bool true]) ∧ Below w.heap.size w w' := by
  have h4 : 4 ≤ s.size := by
    unfold isSeal at h
    simp only [Bool.and_eq_true, decide_eq_true_eq, size_list] at h
    exact h.1
  have := open_any B s w ht hs h4
  rw [h] at this
  exact this
theorem open_no (B : Nat) (s : ByteArray) (w : World) (ht : Tab w B) (hs : s.size ≤ 140737488355328) (h : isSeal s.data.toList = false) :
    Calls Try.prog 16 #[.pointer (some ⟨B, 0, none⟩), .string s] w fun e w' => e = .returned (.tuple #[.string ⟨#[]⟩, .bool false]) ∧ Below w.heap.size w w' := by
  by_cases h4 : 4 ≤ s.size
  · have := open_any B s w ht hs h4
    rw [h] at this
    exact this
  · exact open_short B s w (by omega)
end Go.Proofs.Ytdhokdjmobmpoaa.Crc
