/- What a text's word is: plain Lean, no program in sight. -/
namespace Go.Proofs.YtphilpjglajffaaGreatDoor.Lin

/-- a digit's letter -/
def dig (n : Nat) : UInt8 := ([48, 49, 50, 51, 52, 53, 54, 55, 56, 57, 97, 98, 99, 100, 101, 102] : List UInt8).getD n 0
def hexB (b : UInt8) : List UInt8 := [dig (b.toNat / 16), dig (b.toNat % 16)]
def hexL (l : List UInt8) : List UInt8 := l.flatMap hexB
/-- a text's word -/
def hexW (l : List UInt8) : List UInt8 := if l = [] then [46] else hexL l

theorem hexL_nil : hexL [] = [] := rfl
theorem hexL_cons (b : UInt8) (l : List UInt8) : hexL (b :: l) = dig (b.toNat / 16) :: dig (b.toNat % 16) :: hexL l := rfl
theorem hexL_append (a b : List UInt8) : hexL (a ++ b) = hexL a ++ hexL b := by simp [hexL]
theorem hexL_length (l : List UInt8) : (hexL l).length = 2 * l.length := by
  induction l with
  | nil => rfl
  | cons b l ih => rw [hexL_cons]; simp [ih]; omega
theorem hexL_take (l : List UInt8) (k : Nat) (h : k < l.length) : hexL (l.take (k + 1)) = hexL (l.take k) ++ hexB l[k] := by
  rw [List.take_succ_eq_append_getElem h, hexL_append]; simp [hexL]

/-! ### reading a word -/
def isHex (b : UInt8) : Bool := (decide (48 ≤ b.toNat) && decide (b.toNat ≤ 57)) || (decide (97 ≤ b.toNat) && decide (b.toNat ≤ 102))
/-- is it a text's word? -/
def evenW (l : List UInt8) : Bool := decide (l = [46]) || (decide (l ≠ []) && decide (l.length % 2 = 0) && l.all isHex)

/-- where a letter stands among the digits -/
def val (b : UInt8) : Option Nat := if 48 ≤ b.toNat ∧ b.toNat ≤ 57 then some (b.toNat - 48) else if 97 ≤ b.toNat ∧ b.toNat ≤ 102 then some (b.toNat - 87) else none

def dec : List UInt8 → Option (List UInt8)
  | a :: b :: r => match val a, val b, dec r with
    | some x, some y, some t => some (UInt8.ofNat (x * 16 + y) :: t)
    | _, _, _ => none
  | _ => some []

def unhexW (l : List UInt8) : List UInt8 × Bool :=
  if l = [46] then ([], true) else match dec l with
    | none => ([], false)
    | some b => if b = [] ∨ hexW b ≠ l then ([], false) else (b, true)

theorem u8_cases {p : UInt8 → Prop} (h : ∀ n : Fin 256, p (UInt8.ofNat n.val)) (b : UInt8) : p b := by
  have := h ⟨b.toNat, b.toNat_lt⟩
  simpa using this

theorem val_dig : ∀ n : Fin 16, val (dig n.val) = some n.val := by decide
theorem val_dig' (n : Nat) (h : n < 16) : val (dig n) = some n := val_dig ⟨n, h⟩

theorem dig_val (b : UInt8) : ∀ n, val b = some n → dig n = b ∧ n < 16 := by
  refine u8_cases (p := fun b => ∀ n, val b = some n → dig n = b ∧ n < 16) ?_ b
  have key : ∀ m : Fin 256, (match val (UInt8.ofNat m.val) with | some n => decide (dig n = UInt8.ofNat m.val) && decide (n < 16) | none => true) = true := by decide +kernel
  intro m n hn
  have := key m
  rw [hn] at this
  simpa using this

theorem val_isHex (b : UInt8) : isHex b = (val b).isSome := by
  unfold isHex val
  by_cases h1 : 48 ≤ b.toNat ∧ b.toNat ≤ 57
  · rw [if_pos h1]; simp [h1.1, h1.2]
  · rw [if_neg h1]
    by_cases h2 : 97 ≤ b.toNat ∧ b.toNat ≤ 102
    · rw [if_pos h2]; simp [h2.1, h2.2]
    · rw [if_neg h2]
      simp only [Option.isSome_none, Bool.or_eq_false_iff, Bool.and_eq_false_iff, decide_eq_false_iff_not]
      omega

theorem byte_parts (b : UInt8) : UInt8.ofNat (b.toNat / 16 * 16 + b.toNat % 16) = b := by
  rw [Nat.div_add_mod' b.toNat 16]; simp

theorem dec_hexL : ∀ l, dec (hexL l) = some l
  | [] => rfl
  | b :: l => by
    have hb := b.toNat_lt
    rw [hexL_cons, dec, val_dig' _ (by omega), val_dig' _ (by omega), dec_hexL l]
    simp only [byte_parts]

theorem hexB_of (x y : Nat) (hx : x < 16) (hy : y < 16) : hexB (UInt8.ofNat (x * 16 + y)) = [dig x, dig y] := by
  have h : (UInt8.ofNat (x * 16 + y)).toNat = x * 16 + y := by
    rw [UInt8.toNat_ofNat']; omega
  unfold hexB
  rw [h]
  congr 2
  · congr 1; omega
  · congr 2; omega

/-- an even number of digits is a word -/
theorem dec_even : ∀ (n : Nat) (l : List UInt8), l.length = 2 * n → l.all isHex = true → ∃ b, dec l = some b ∧ hexL b = l ∧ b.length = n
  | 0, l, h, _ => by
    have := List.eq_nil_of_length_eq_zero h
    subst this; exact ⟨[], rfl, rfl, rfl⟩
  | n + 1, l, h, hh => by
    match l, h, hh with
    | [], h, _ => simp at h
    | [_], h, _ => simp at h; omega
    | a :: c :: r, h, hh =>
      simp only [List.all_cons, Bool.and_eq_true] at hh
      obtain ⟨h1, h2, h3⟩ := hh
      obtain ⟨b, d1, d2, d3⟩ := dec_even n r (by simp at h; omega) h3
      rw [val_isHex] at h1 h2
      obtain ⟨x, hx⟩ := Option.isSome_iff_exists.1 h1
      obtain ⟨y, hy⟩ := Option.isSome_iff_exists.1 h2
      obtain ⟨e1, l1⟩ := dig_val a x hx
      obtain ⟨e2, l2⟩ := dig_val c y hy
      refine ⟨UInt8.ofNat (x * 16 + y) :: b, by rw [dec, hx, hy, d1], ?_, by simp [d3]⟩
      show hexB _ ++ hexL b = _
      rw [hexB_of x y l1 l2, d2, e1, e2]; rfl

theorem isHex_dig : ∀ n : Fin 16, isHex (dig n.val) = true := by decide
theorem hexL_all : ∀ l, (hexL l).all isHex = true
  | [] => rfl
  | b :: l => by
    have hb := b.toNat_lt
    rw [hexL_cons]
    simp only [List.all_cons, hexL_all l, Bool.and_true]
    rw [isHex_dig ⟨b.toNat / 16, by omega⟩, isHex_dig ⟨b.toNat % 16, by omega⟩]; rfl

theorem hexL_ne_dot (l : List UInt8) : hexL l ≠ [46] := fun h => by
  have := congrArg List.length h
  rw [hexL_length] at this; simp at this; omega

/-- a text's word is read back -/
theorem unhex_hex (l : List UInt8) : unhexW (hexW l) = (l, true) := by
  unfold unhexW
  by_cases h0 : l = []
  · subst h0; rfl
  · have hw : hexW l = hexL l := by unfold hexW; rw [if_neg h0]
    rw [hw, if_neg (hexL_ne_dot l), dec_hexL]
    simp only
    rw [if_neg]
    rintro (h | h)
    · exact h0 h
    · exact h hw

/-- any word is a text's, or none's -/
theorem unhex_any (l : List UInt8) : (unhexW l).2 = evenW l ∧ ((unhexW l).2 = false → (unhexW l).1 = []) ∧ ((unhexW l).2 = true → hexW (unhexW l).1 = l) := by
  unfold unhexW
  by_cases hd : l = [46]
  · subst hd; exact ⟨rfl, by simp, fun _ => rfl⟩
  · rw [if_neg hd]
    by_cases he : l ≠ [] ∧ l.length % 2 = 0 ∧ l.all isHex = true
    · obtain ⟨h1, h2, h3⟩ := he
      obtain ⟨b, d1, d2, d3⟩ := dec_even (l.length / 2) l (by omega) h3
      have hb : b ≠ [] := fun e => by subst e; exact h1 d2.symm
      have hw : hexW b = l := by unfold hexW; rw [if_neg hb]; exact d2
      have : ¬ (b = [] ∨ hexW b ≠ l) := by rintro (h | h); exact hb h; exact h hw
      rw [d1]
      simp only [if_neg this]
      refine ⟨?_, by simp, fun _ => hw⟩
      unfold evenW
      simp [h1, h2, h3]
    · have hev : evenW l = false := by
        unfold evenW
        rw [decide_eq_false hd, Bool.false_or]
        cases hx : (decide (l ≠ []) && decide (l.length % 2 = 0) && l.all isHex) with
        | false => rfl
        | true =>
          simp only [Bool.and_eq_true, decide_eq_true_eq] at hx
          exact absurd ⟨hx.1.1, hx.1.2, hx.2⟩ he
      rw [hev]
      cases hdc : dec l with
      | none => exact ⟨rfl, fun _ => rfl, fun h => by simp at h⟩
      | some b =>
        have : b = [] ∨ hexW b ≠ l := by
          by_cases hb : b = []
          · exact .inl hb
          · refine .inr fun hw => he ?_
            have hw' : hexL b = l := by unfold hexW at hw; rw [if_neg hb] at hw; exact hw
            refine ⟨fun e => ?_, ?_, ?_⟩
            · rw [e] at hw'
              have := congrArg List.length hw'
              rw [hexL_length] at this
              exact hb (List.eq_nil_of_length_eq_zero (by have h2 : ([] : List UInt8).length = 0 := rfl; omega))
            · rw [← hw', hexL_length]; omega
            · rw [← hw']; exact hexL_all b
        simp only [if_pos this]
        exact ⟨by simp, fun _ => by simp, fun h => by simp at h⟩
end Go.Proofs.YtphilpjglajffaaGreatDoor.Lin
