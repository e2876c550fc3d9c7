/- Plain: what a played event's sizes are; numbers' digits. | Plain: lists joined, and split again. | Plain: what stands in words. | Plain: numbers' words, keys' words. | Plain: topics' and filters' words. | Plain: unlike events have unlike lines. | Plain: a line is its words, joined. | Plain: unlike events have unlike lines. | Plain: unlike events have unlike lines: the law. | Plain: an event that has a line is told. -/
import Derived.Test.YtphilpjglajffaaGreatDoorEn
import Derived.Lib.Join
import Derived.Test.YtphilpjglajffaaGreatDoorEo
namespace Go.Proofs.YtphilpjglajffaaGreatDoor.Lin
open Go.RowKit

theorem great_mild {r : Raw} {keys tags : List ByteArray} (h : greatB r keys tags = false) : Mild r ∧ (∀ k ∈ keys, k.size ≤ 1000) ∧ ∀ k ∈ tags, k.size ≤ 1000 := by
  unfold greatB at h
  simp only [Bool.or_eq_false_iff, decide_eq_false_iff_not, Bool.not_eq_false', List.all_eq_true, decide_eq_true_eq, List.mem_append] at h
  obtain ⟨h1, h2, h3, h4, h5, h6, h7, h8, h9⟩ := h
  exact ⟨⟨by omega, by omega, by omega, by omega, by omega, by omega, by omega, by omega⟩, fun k hk => h9 k (.inl hk), fun k hk => h9 k (.inr hk)⟩

theorem ofInt_zero (a : Int) (ha : -9223372036854775808 ≤ a ∧ a ≤ 9223372036854775807) (h : BitVec.ofInt 64 a = 0#64) : a = 0 := by
  have h1 := congrArg BitVec.toNat h
  rw [BitVec.toNat_ofInt] at h1
  have h2 : ((a % ((2 ^ 64 : Nat) : Int)).toNat) = 0 := h1
  have h3 : ((2 ^ 64 : Nat) : Int) = 18446744073709551616 := by decide
  rw [h3] at h2
  omega
/-- bits of one or of the other -/
theorem or_zero (a b : Int) (ha : -9223372036854775808 ≤ a ∧ a ≤ 9223372036854775807) (hb : -9223372036854775808 ≤ b ∧ b ≤ 9223372036854775807) : Go.bits .or .i64 a b = 0 ↔ a = 0 ∧ b = 0 := by
  constructor
  · intro h
    unfold Go.bits at h
    change IntKind.i64.wrap ((BitVec.ofInt 64 a ||| BitVec.ofInt 64 b).toNat : Int) = 0 at h
    have hlt := (BitVec.ofInt 64 a ||| BitVec.ofInt 64 b).isLt
    rw [IntKind.wrap_i64] at h
    have hz : (BitVec.ofInt 64 a ||| BitVec.ofInt 64 b).toNat = 0 := by omega
    have h0 : BitVec.ofInt 64 a ||| BitVec.ofInt 64 b = 0#64 := BitVec.eq_of_toNat_eq (by rw [hz]; rfl)
    obtain ⟨x, y⟩ := BitVec.or_eq_zero_iff.1 h0
    exact ⟨ofInt_zero a ha x, ofInt_zero b hb y⟩
  · rintro ⟨rfl, rfl⟩; decide

theorem or_small {a b : Int} (ha : SmallI a) (hb : SmallI b) : Go.bits .or .i64 a b = 0 ↔ a = 0 ∧ b = 0 :=
  or_zero a b ⟨by have := ha.1; omega, by have := ha.2; omega⟩ ⟨by have := hb.1; omega, by have := hb.2; omega⟩
theorem bits_range (a b : Int) : -9223372036854775808 ≤ Go.bits .or .i64 a b ∧ Go.bits .or .i64 a b ≤ 9223372036854775807 := by
  unfold Go.bits
  change -9223372036854775808 ≤ IntKind.i64.wrap ((BitVec.ofInt 64 a ||| BitVec.ofInt 64 b).toNat : Int) ∧ IntKind.i64.wrap ((BitVec.ofInt 64 a ||| BitVec.ofInt 64 b).toNat : Int) ≤ 9223372036854775807
  have hlt := (BitVec.ofInt 64 a ||| BitVec.ofInt 64 b).isLt
  rw [IntKind.wrap_i64]
  omega
theorem small_range {a : Int} (ha : SmallI a) : -9223372036854775808 ≤ a ∧ a ≤ 9223372036854775807 := ⟨by have := ha.1; omega, by have := ha.2; omega⟩
theorem bits4_zero {r : Raw} (h1 : SmallI r.q) (h2 : SmallI r.n) (h3 : SmallI r.pos) (h4 : SmallI r.lack) : bits4 r = 0 ↔ r.q = 0 ∧ r.n = 0 ∧ r.pos = 0 ∧ r.lack = 0 := by
  unfold bits4
  rw [or_zero _ _ (bits_range _ _) (small_range h4), or_zero _ _ (bits_range _ _) (small_range h3), or_small h1 h2]
  constructor
  · rintro ⟨⟨⟨a, b⟩, c⟩, d⟩; exact ⟨a, b, c, d⟩
  · rintro ⟨a, b, c, d⟩; exact ⟨⟨⟨a, b⟩, c⟩, d⟩

theorem size_zero {a : ByteArray} (h : a.size = 0) : a = ⟨#[]⟩ := by
  apply ByteArray.ext
  apply Array.ext'
  have : a.data.toList.length = 0 := by rw [len_size]; exact h
  exact List.eq_nil_of_length_eq_zero this

/-- nothing of its own but a kind -/
structure Bare (r : Raw) : Prop where
  q : r.q = 0
  n : r.n = 0
  pos : r.pos = 0
  lack : r.lack = 0
  topic : r.topic = ⟨#[]⟩
  group : r.group = ⟨#[]⟩
  tag : r.tag = ⟨#[]⟩
  key : r.key = ⟨#[]⟩
  body : r.body = ⟨#[]⟩
  ks : r.ks.n = 0
  ts : r.ts.n = 0
  ps : r.ps.n = 0
  sync : r.sync = false
theorem bare_of {r : Raw} (h1 : SmallI r.q) (h2 : SmallI r.n) (h3 : SmallI r.pos) (h4 : SmallI r.lack) (h : emptyB r = true) : Bare r := by
  unfold emptyB at h
  simp only [Bool.and_eq_true, decide_eq_true_eq, Bool.not_eq_true'] at h
  obtain ⟨a, b, c, d⟩ := h
  obtain ⟨e1, e2, e3, e4⟩ := (bits4_zero h1 h2 h3 h4).1 a
  exact ⟨e1, e2, e3, e4, size_zero (by omega), size_zero (by omega), size_zero (by omega), size_zero (by omega), size_zero (by omega), by omega, by omega, by omega, d⟩

end Go.Proofs.YtphilpjglajffaaGreatDoor.Lin

namespace Go.Proofs.YtphilpjglajffaaGreatDoor.Lin

def splitL (c : UInt8) : List UInt8 → List (List UInt8)
  | [] => [[]]
  | b :: l => if b = c then [] :: splitL c l else match splitL c l with
    | [] => [[b]]
    | x :: r => (b :: x) :: r
theorem splitL_ne (c : UInt8) : ∀ l, splitL c l ≠ []
  | [] => by simp [splitL]
  | b :: l => by
    unfold splitL
    split
    · simp
    · split <;> simp
theorem splitL_app (c : UInt8) (l : List UInt8) (y : List UInt8) (r : List (List UInt8)) (h : splitL c l = y :: r) : ∀ x : List UInt8, c ∉ x → splitL c (x ++ l) = (x ++ y) :: r
  | [], _ => h
  | b :: x, hx => by
    have hb : ¬ b = c := fun e => hx (by rw [e]; simp)
    have ih := splitL_app c l y r h x (fun e => hx (by simp [e]))
    show splitL c (b :: (x ++ l)) = _
    unfold splitL
    rw [if_neg hb, ih]
    rfl
theorem splitL_alone (c : UInt8) (x : List UInt8) (hx : c ∉ x) : splitL c x = [x] := by
  have := splitL_app c [] [] [] rfl x hx
  simpa using this
theorem join_two (x y : List UInt8) (r : List (List UInt8)) (sep : List UInt8) : Lib.join (x :: y :: r) sep = x ++ (sep ++ Lib.join (y :: r) sep) := by
  rw [Lib.join_cons, Lib.join_cons]
  unfold Lib.joinTail
  simp
/-- what was joined is split again -/
theorem split_join (c : UInt8) : ∀ (xs : List (List UInt8)), xs ≠ [] → (∀ x ∈ xs, c ∉ x) → splitL c (Lib.join xs [c]) = xs
  | [], h, _ => absurd rfl h
  | [x], _, h => by rw [Lib.join_one]; exact splitL_alone c x (h x (by simp))
  | x :: y :: r, _, h => by
    have ih := split_join c (y :: r) (by simp) (fun z hz => h z (by simp [hz]))
    rw [join_two]
    have h1 : splitL c ([c] ++ Lib.join (y :: r) [c]) = [] :: (y :: r) := by
      show splitL c (c :: Lib.join (y :: r) [c]) = _
      unfold splitL
      rw [if_pos rfl, ih]
    have := splitL_app c _ [] (y :: r) h1 x (h x (by simp))
    simpa using this
theorem join_inj (c : UInt8) {xs ys : List (List UInt8)} (hx : xs ≠ []) (hy : ys ≠ []) (h1 : ∀ x ∈ xs, c ∉ x) (h2 : ∀ x ∈ ys, c ∉ x) (h : Lib.join xs [c] = Lib.join ys [c]) : xs = ys := by
  rw [← split_join c xs hx h1, ← split_join c ys hy h2, h]
/-- a last word that is words itself -/
theorem join_last (sep : List UInt8) (ys : List (List UInt8)) (hy : ys ≠ []) : ∀ xs : List (List UInt8), Lib.join (xs ++ [Lib.join ys sep]) sep = Lib.join (xs ++ ys) sep
  | [] => by simp [Lib.join_one]
  | [x] => by
    match ys, hy with
    | y :: r, _ =>
      show Lib.join (x :: [Lib.join (y :: r) sep]) sep = Lib.join (x :: y :: r) sep
      rw [join_two, join_two, Lib.join_one]
  | x :: z :: xs => by
    have ih := join_last sep ys hy (z :: xs)
    show Lib.join (x :: z :: (xs ++ [Lib.join ys sep])) sep = Lib.join (x :: z :: (xs ++ ys)) sep
    rw [join_two, join_two]
    exact congrArg (fun t => x ++ (sep ++ t)) ih
/-- with a wide separator -/
def between (m : List UInt8) : List (List UInt8) → List (List UInt8)
  | [] => []
  | [x] => [x]
  | x :: y :: r => x :: m :: between m (y :: r)
theorem join_wide (s m : List UInt8) : ∀ xs : List (List UInt8), Lib.join xs (s ++ (m ++ s)) = Lib.join (between m xs) s
  | [] => rfl
  | [x] => by rw [between, Lib.join_one, Lib.join_one]
  | x :: y :: r => by
    have ih := join_wide s m (y :: r)
    rw [join_two, ih, between]
    match hb : between m (y :: r) with
    | [] => cases r <;> simp [between] at hb
    | z :: t => rw [join_two, join_two]; simp
theorem between_inj (m : List UInt8) : ∀ xs ys : List (List UInt8), between m xs = between m ys → xs = ys
  | [], [], _ => rfl
  | [], [y], h => by simp [between] at h
  | [], _ :: _ :: _, h => by simp [between] at h
  | [x], [], h => by simp [between] at h
  | _ :: _ :: _, [], h => by simp [between] at h
  | [x], [y], h => by simpa [between] using h
  | [x], _ :: _ :: _, h => by simp [between] at h
  | _ :: _ :: _, [y], h => by simp [between] at h
  | x :: y :: r, x' :: y' :: r', h => by
    simp only [between, List.cons.injEq, true_and] at h
    obtain ⟨h1, h2⟩ := h
    rw [h1, between_inj m (y :: r) (y' :: r') h2]
end Go.Proofs.YtphilpjglajffaaGreatDoor.Lin

namespace Go.Proofs.YtphilpjglajffaaGreatDoor.Lin

/-- no space -/
def NoSp (x : List UInt8) : Prop := (32 : UInt8) ∉ x

theorem sign_ne (b : UInt8) (h : signI b.toNat = true) : b ≠ 32 ∧ b ≠ 46 ∧ b ≠ 37 ∧ b ≠ 124 := by
  refine ⟨?_, ?_, ?_, ?_⟩ <;> (rintro rfl; revert h; decide)
theorem plain_chars {s : ByteArray} (h : plainB s = true) : (∀ b ∈ s.data.toList, signI b.toNat = true) ∧ s.size ≠ 0 := by
  unfold plainB at h
  simp only [Bool.and_eq_true, decide_eq_true_eq] at h
  obtain ⟨h1, _, h3⟩ := h
  unfold allSign at h3
  rw [List.all_eq_true] at h3
  exact ⟨h3, h1⟩
theorem plain_nosp {s : ByteArray} (h : plainB s = true) : NoSp s.data.toList := fun hm => (sign_ne 32 ((plain_chars h).1 32 hm)).1 rfl
theorem group_nosp {s : ByteArray} (h : groupB s = true) : NoSp s.data.toList ∧ s.size ≠ 0 := by
  unfold groupB at h
  simp only [Bool.and_eq_true] at h
  exact ⟨plain_nosp h.1, (plain_chars h.1).2⟩
theorem tagW_nosp {s : ByteArray} (h : tagB s = true) : NoSp (plainW s).data.toList := by
  unfold tagB at h
  unfold plainW
  by_cases hz : s.size = 0
  · rw [if_pos hz]; unfold NoSp; decide
  · rw [if_neg hz]
    simp only [Bool.or_eq_true, decide_eq_true_eq, hz, false_or] at h
    exact plain_nosp h
theorem tagW_inj {s t : ByteArray} (hs : tagB s = true) (ht : tagB t = true) (h : plainW s = plainW t) : s = t := by
  have key : ∀ u : ByteArray, tagB u = true → u.size ≠ 0 → u ≠ ⟨#[46]⟩ := by
    rintro u hu hz rfl
    revert hu
    decide
  unfold plainW at h
  by_cases h1 : s.size = 0 <;> by_cases h2 : t.size = 0
  · rw [size_zero h1, size_zero h2]
  · rw [if_pos h1, if_neg h2] at h; exact absurd h.symm (key t ht h2)
  · rw [if_neg h1, if_pos h2] at h; exact absurd h (key s hs h1)
  · rwa [if_neg h1, if_neg h2] at h

theorem dig_ne : ∀ n : Fin 16, dig n.val ≠ 32 ∧ dig n.val ≠ 46 ∧ dig n.val ≠ 44 := by decide
theorem hexL_chars : ∀ (l : List UInt8) (b : UInt8), b ∈ hexL l → b ≠ 32 ∧ b ≠ 46 ∧ b ≠ 44
  | [], b, h => by simp [hexL] at h
  | c :: l, b, h => by
    have hc := c.toNat_lt
    rw [hexL_cons] at h
    rcases List.mem_cons.1 h with rfl | h
    · exact dig_ne ⟨c.toNat / 16, by omega⟩
    · rcases List.mem_cons.1 h with rfl | h
      · exact dig_ne ⟨c.toNat % 16, by omega⟩
      · exact hexL_chars l b h
theorem hexW_nosp (l : List UInt8) : NoSp (hexW l) := by
  unfold hexW NoSp
  split
  · decide
  · intro h; exact (hexL_chars l 32 h).1 rfl
theorem hexW_nocomma (l : List UInt8) : (44 : UInt8) ∉ hexW l := by
  unfold hexW
  split
  · decide
  · intro h; exact (hexL_chars l 44 h).2.2 rfl
theorem hexW_inj {a b : List UInt8} (h : hexW a = hexW b) : a = b := by
  have h1 := unhex_hex a
  rw [h, unhex_hex b] at h1
  simpa using h1.symm
theorem hexS_inj {a b : ByteArray} (h : hexS a = hexS b) : a = b := by
  have h1 : hexW a.data.toList = hexW b.data.toList := congrArg (fun x : ByteArray => x.data.toList) h
  exact ByteArray.ext (Array.ext' (hexW_inj h1))
theorem bitB_inj {a b : Bool} (h : bitB a = bitB b) : a = b := by cases a <;> cases b <;> first | rfl | (revert h; decide)
theorem bitsW_inj {a b : List Bool} (h : bitsW a = bitsW b) : a = b := by
  unfold bitsW at h
  have h46 : ∀ l : List Bool, (46 : UInt8) ∉ l.map bitB := by
    intro l hm
    obtain ⟨x, _, hx⟩ := List.mem_map.1 hm
    cases x <;> (revert hx; decide)
  by_cases h1 : a = [] <;> by_cases h2 : b = []
  · rw [h1, h2]
  · rw [if_pos h1, if_neg h2] at h
    have := congrArg (fun x : ByteArray => x.data.toList) h
    exact absurd (show (46 : UInt8) ∈ b.map bitB by rw [← show [46] = b.map bitB from this]; simp) (h46 b)
  · rw [if_neg h1, if_pos h2] at h
    have := congrArg (fun x : ByteArray => x.data.toList) h
    exact absurd (show (46 : UInt8) ∈ a.map bitB by rw [show a.map bitB = [46] from this]; simp) (h46 a)
  · rw [if_neg h1, if_neg h2] at h
    have := congrArg (fun x : ByteArray => x.data.toList) h
    have h3 : a.map bitB = b.map bitB := this
    exact List.map_inj_right (fun x y => bitB_inj) |>.1 h3
theorem bitsW_nosp (l : List Bool) : NoSp (bitsW l).data.toList := by
  unfold bitsW NoSp
  split
  · decide
  · intro hm
    have hm : (32 : UInt8) ∈ l.map bitB := hm
    obtain ⟨x, _, hx⟩ := List.mem_map.1 hm
    cases x <;> (revert hx; decide)
end Go.Proofs.YtphilpjglajffaaGreatDoor.Lin

namespace Go.Proofs.YtphilpjglajffaaGreatDoor.Lin

def decVal (l : List UInt8) : Nat := l.foldl (fun a b => a * 10 + (b.toNat - 48)) 0
theorem digit_nat (d : Nat) (h : d < 10) : (UInt8.ofNat (48 + d)).toNat = 48 + d := by
  rw [UInt8.toNat_ofNat']; omega
theorem decVal_digits : ∀ (k u : Nat), u ≤ k → decVal (Lib.decDigits u) = u
  | 0, u, h => by
    have : u = 0 := by omega
    subst this
    rw [Lib.decDigits, dif_pos (by omega)]; rfl
  | k + 1, u, h => by
    rw [Lib.decDigits]
    by_cases hu : u < 10
    · rw [dif_pos hu]
      unfold decVal
      simp only [List.foldl_cons, List.foldl_nil]
      rw [digit_nat u hu]; omega
    · rw [dif_neg hu]
      have ih := decVal_digits k (u / 10) (by omega)
      unfold decVal at ih ⊢
      rw [List.foldl_append, ih]
      simp only [List.foldl_cons, List.foldl_nil]
      rw [digit_nat (u % 10) (by omega)]; omega
theorem digits_chars : ∀ (k u : Nat), u ≤ k → ∀ b ∈ Lib.decDigits u, 48 ≤ b.toNat ∧ b.toNat ≤ 57
  | 0, u, h => by
    have : u = 0 := by omega
    subst this
    rw [Lib.decDigits, dif_pos (by omega)]
    intro b hb
    simp at hb
    subst hb
    decide
  | k + 1, u, h => by
    rw [Lib.decDigits]
    by_cases hu : u < 10
    · rw [dif_pos hu]
      intro b hb
      simp only [List.mem_singleton] at hb
      rw [hb, digit_nat u hu]; omega
    · rw [dif_neg hu]
      intro b hb
      rcases List.mem_append.1 hb with hb | hb
      · exact digits_chars k (u / 10) (by omega) b hb
      · simp only [List.mem_singleton] at hb
        rw [hb, digit_nat (u % 10) (by omega)]; omega
theorem dec_inj {u v : Nat} (h : Lib.decDigits u = Lib.decDigits v) : u = v := by
  rw [← decVal_digits u u (Nat.le_refl _), h, decVal_digits v v (Nat.le_refl _)]
theorem no_minus (u : Nat) (l : List UInt8) : Lib.decDigits u ≠ 45 :: l := fun h => by
  have := digits_chars u u (Nat.le_refl _) 45 (by rw [h]; simp)
  revert this; decide
theorem itoa_inj {a b : Int} (h : Lib.itoa a = Lib.itoa b) : a = b := by
  unfold Lib.itoa at h
  by_cases h1 : a < 0 <;> by_cases h2 : b < 0
  · rw [if_pos h1, if_pos h2] at h
    have := dec_inj (List.cons.inj h).2
    omega
  · rw [if_pos h1, if_neg h2] at h; exact absurd h.symm (no_minus _ _)
  · rw [if_neg h1, if_pos h2] at h; exact absurd h (no_minus _ _)
  · rw [if_neg h1, if_neg h2] at h
    have := dec_inj h
    omega
theorem itoaB_inj {a b : Int} (h : itoaB a = itoaB b) : a = b := by
  have h1 : (itoaB a).data.toList = (itoaB b).data.toList := by rw [h]
  exact itoa_inj h1
theorem itoa_nosp (a : Int) : NoSp (itoaB a).data.toList := by
  intro hm
  have hm : (32 : UInt8) ∈ Lib.itoa a := hm
  unfold Lib.itoa at hm
  split at hm
  · rcases List.mem_cons.1 hm with h | h
    · revert h; decide
    · have := digits_chars _ _ (Nat.le_refl _) 32 h
      revert this; decide
  · have := digits_chars _ _ (Nat.le_refl _) 32 hm
    revert this; decide

theorem hexW_head {a : List UInt8} (h : a ≠ []) : ∃ x y r, hexW a = x :: y :: r ∧ x ≠ 46 := by
  match a, h with
  | c :: l, _ =>
    refine ⟨_, _, _, rfl, ?_⟩
    exact (hexL_chars (c :: l) _ (by rw [hexL_cons]; simp)).2.1
theorem join_head (x : List UInt8) (r : List (List UInt8)) (sep : List UInt8) (c d : UInt8) (t : List UInt8) (h : x = c :: d :: t) : ∃ u, Lib.join (x :: r) sep = c :: d :: u := by
  rw [Lib.join_cons, h]
  exact ⟨_, rfl⟩
theorem keysW_inj {a b : List ByteArray} (ha : ∀ k ∈ a, k.size ≠ 0) (hb : ∀ k ∈ b, k.size ≠ 0) (h : keysW a = keysW b) : a = b := by
  have ne : ∀ l : List ByteArray, l ≠ [] → (∀ k ∈ l, k.size ≠ 0) → joinS (l.map hexS) ⟨#[44]⟩ ≠ ⟨#[46]⟩ := by
    intro l hl hk he
    match l, hl with
    | k :: r, _ =>
      have hkz : k.data.toList ≠ [] := fun e => hk k (by simp) (by rw [← len_size, e]; rfl)
      obtain ⟨x, y, t, hx, _⟩ := hexW_head hkz
      have h1 : (joinS ((k :: r).map hexS) ⟨#[44]⟩).data.toList = [46] := by rw [he]
      have h2 : Lib.join (hexW k.data.toList :: (r.map hexS).map (·.data.toList)) [44] = [46] := by simpa [joinS, hexS] using h1
      obtain ⟨u, hu⟩ := join_head _ ((r.map hexS).map (·.data.toList)) [44] x y t hx
      rw [hu] at h2
      simp at h2
  unfold keysW at h
  by_cases h1 : a = [] <;> by_cases h2 : b = []
  · rw [h1, h2]
  · rw [if_pos h1, if_neg h2] at h; exact absurd h.symm (ne b h2 hb)
  · rw [if_neg h1, if_pos h2] at h; exact absurd h (ne a h1 ha)
  · rw [if_neg h1, if_neg h2] at h
    have h3 : (joinS (a.map hexS) ⟨#[44]⟩).data.toList = (joinS (b.map hexS) ⟨#[44]⟩).data.toList := by rw [h]
    have h4 : Lib.join ((a.map hexS).map (·.data.toList)) [44] = Lib.join ((b.map hexS).map (·.data.toList)) [44] := h3
    have nc : ∀ l : List ByteArray, ∀ x ∈ (l.map hexS).map (·.data.toList), (44 : UInt8) ∉ x := by
      intro l x hx
      obtain ⟨y, hy, rfl⟩ := List.mem_map.1 hx
      obtain ⟨z, _, rfl⟩ := List.mem_map.1 hy
      exact hexW_nocomma _
    have h5 := join_inj 44 (by simpa using h1) (by simpa using h2) (nc a) (nc b) h4
    rw [List.map_map, List.map_map] at h5
    refine (List.map_inj_right ?_).1 h5
    intro x y hxy
    exact hexS_inj (ByteArray.ext (Array.ext' hxy))
theorem joinTail_mem (sep : List UInt8) (c : UInt8) (hs : c ∉ sep) : ∀ r : List (List UInt8), (∀ x ∈ r, c ∉ x) → c ∉ Lib.joinTail sep r
  | [], _ => by simp [Lib.joinTail]
  | x :: r, h => by
    have ih := joinTail_mem sep c hs r fun y hy => h y (by simp [hy])
    have hx := h x (by simp)
    unfold Lib.joinTail at ih ⊢
    simp only [List.map_cons, List.flatten_cons, List.mem_append, not_or]
    exact ⟨⟨hs, hx⟩, ih⟩
theorem join_mem (sep : List UInt8) (c : UInt8) (hs : c ∉ sep) (r : List (List UInt8)) (h : ∀ x ∈ r, c ∉ x) : c ∉ Lib.join r sep := by
  cases r with
  | nil => simp [Lib.join_nil]
  | cons x r =>
    rw [Lib.join_cons, List.mem_append, not_or]
    exact ⟨h x (by simp), joinTail_mem sep c hs r fun y hy => h y (by simp [hy])⟩
theorem keysW_nosp (a : List ByteArray) : NoSp (keysW a).data.toList := by
  unfold keysW
  split
  · unfold NoSp; decide
  · show (32 : UInt8) ∉ Lib.join ((a.map hexS).map (·.data.toList)) [44]
    refine join_mem [44] 32 (by decide) _ fun x hx => ?_
    obtain ⟨y, hy, rfl⟩ := List.mem_map.1 hx
    obtain ⟨z, _, rfl⟩ := List.mem_map.1 hy
    exact hexW_nosp _
end Go.Proofs.YtphilpjglajffaaGreatDoor.Lin

namespace Go.Proofs.YtphilpjglajffaaGreatDoor.Lin

theorem head_chars {s p : ByteArray} (hp : NoSp p.data.toList) (h : headB s p = true) : NoSp s.data.toList ∧ s.size ≠ 0 := by
  unfold headB at h
  simp only [Bool.and_eq_true] at h
  obtain ⟨h1, h2⟩ := h
  obtain ⟨h3, h4⟩ := group_nosp h2
  have h1' : p.data.toList.isPrefixOf s.data.toList = true := h1
  rw [List.isPrefixOf_iff_prefix] at h1'
  obtain ⟨t, ht⟩ := h1'
  have hc : (cutB s p).data.toList = t := by
    show Lib.trimPrefix s.data.toList p.data.toList = t
    unfold Lib.trimPrefix
    rw [if_pos (show Lib.hasPrefix s.data.toList p.data.toList = true from h1), ← ht, List.drop_left]
  rw [hc] at h3
  have hsz : (cutB s p).size = t.length := by rw [← len_size, hc]
  refine ⟨?_, ?_⟩
  · rw [← ht]
    intro hm
    rcases List.mem_append.1 hm with hm | hm
    · exact hp hm
    · exact h3 hm
  · rw [← len_size, ← ht, List.length_append]; omega
theorem topic_nosp {s : ByteArray} (h : topicB s = true) : NoSp s.data.toList ∧ s.size ≠ 0 := by
  unfold topicB ownTopic at h
  simp only [Bool.or_eq_true] at h
  rcases h with (h | h) | h
  · exact head_chars (by unfold NoSp retryB; decide) h
  · exact head_chars (by unfold NoSp deadB; decide) h
  · exact ⟨plain_nosp h, (plain_chars h).2⟩

theorem filterW_words {l : List ByteArray} (hl : l ≠ []) : (filterW l).data.toList = Lib.join (between [124, 124] (l.map (·.data.toList))) [32] := by
  unfold filterW
  rw [if_neg hl]
  exact join_wide [32] [124, 124] (l.map (·.data.toList))
/-- a filter's words -/
def filterT (l : List ByteArray) : List (List UInt8) := if l = [] then [[42]] else between [124, 124] (l.map (·.data.toList))
theorem filterT_ne (l : List ByteArray) : filterT l ≠ [] := by
  unfold filterT
  split
  · simp
  · match l with
    | [] => contradiction
    | [x] => simp [between]
    | x :: y :: r => simp [between]
theorem filterW_join (l : List ByteArray) : (filterW l).data.toList = Lib.join (filterT l) [32] := by
  unfold filterT
  by_cases h : l = []
  · rw [if_pos h, h]; rfl
  · rw [if_neg h]; exact filterW_words h
theorem between_mem (m : List UInt8) : ∀ (l : List (List UInt8)) (x : List UInt8), x ∈ between m l → x = m ∨ x ∈ l
  | [], x, h => by simp [between] at h
  | [y], x, h => by simp only [between, List.mem_singleton] at h; exact .inr (by simp [h])
  | y :: z :: r, x, h => by
    simp only [between, List.mem_cons] at h
    rcases h with h | h | h
    · exact .inr (by simp [h])
    · exact .inl h
    · rcases between_mem m (z :: r) x h with h | h
      · exact .inl h
      · exact .inr (List.mem_cons_of_mem _ h)
theorem filterT_nosp {l : List ByteArray} (h : l.all plainB = true) : ∀ x ∈ filterT l, NoSp x := by
  intro x hx
  unfold filterT at hx
  by_cases hl : l = []
  · rw [if_pos hl] at hx; simp only [List.mem_singleton] at hx; rw [hx]; unfold NoSp; decide
  · rw [if_neg hl] at hx
    rcases between_mem _ _ _ hx with hx | hx
    · rw [hx]; unfold NoSp; decide
    · obtain ⟨y, hy, rfl⟩ := List.mem_map.1 hx
      rw [List.all_eq_true] at h
      exact plain_nosp (h y hy)
theorem filterT_inj {a b : List ByteArray} (ha : a.all plainB = true) (hb : b.all plainB = true) (h : filterT a = filterT b) : a = b := by
  have ne : ∀ l : List ByteArray, l.all plainB = true → l ≠ [] → between [124, 124] (l.map (·.data.toList)) ≠ [[42]] := by
    intro l hp hl he
    match l, hl with
    | [x], _ =>
      simp only [List.map_cons, List.map_nil, between, List.cons.injEq, and_true] at he
      simp only [List.all_cons, List.all_nil, Bool.and_true] at hp
      have := (plain_chars hp).1 42 (by rw [he]; simp)
      revert this; decide
    | x :: y :: r, _ => simp [between] at he
  unfold filterT at h
  by_cases h1 : a = [] <;> by_cases h2 : b = []
  · rw [h1, h2]
  · rw [if_pos h1, if_neg h2] at h; exact absurd h.symm (ne b hb h2)
  · rw [if_neg h1, if_pos h2] at h; exact absurd h (ne a ha h1)
  · rw [if_neg h1, if_neg h2] at h
    have h3 := between_inj _ _ _ h
    exact (List.map_inj_right (fun x y hxy => ByteArray.ext (Array.ext' hxy))).1 h3
end Go.Proofs.YtphilpjglajffaaGreatDoor.Lin

namespace Go.Proofs.YtphilpjglajffaaGreatDoor.Lin

/-- one field, of a letter -/
def fieldEq (r r' : Raw) (keys tags keys' tags' : List ByteArray) (keep keep' : List Bool) (c : UInt8) : Prop :=
  if c = 84 then r.topic = r'.topic else if c = 71 then r.group = r'.group else if c = 81 then r.q = r'.q else if c = 78 then r.n = r'.n
  else if c = 65 then r.pos = r'.pos else if c = 76 then r.lack = r'.lack else if c = 116 then r.tag = r'.tag else if c = 107 then keys = keys'
  else if c = 98 then r.body = r'.body else if c = 120 then r.key = r'.key else if c = 112 then keep = keep' else if c = 102 then tags = tags'
  else r.sync = r'.sync

def tokC (r : Raw) (keys tags : List ByteArray) (keep : List Bool) (c : UInt8) : List (List UInt8) :=
  if c = 102 then filterT tags else if c = 115 then (if r.sync then [syncS.data.toList] else []) else [(wordB r keys tags keep c).data.toList]
def tokL (r : Raw) (keys tags : List ByteArray) (keep : List Bool) (l : List UInt8) : List (List UInt8) := l.flatMap (tokC r keys tags keep)

/-- what rightB lets in, of a letter's own -/
structure Fit (r : Raw) (keys tags : List ByteArray) (l : List UInt8) : Prop where
  topic : (84 : UInt8) ∈ l → topicB r.topic = true
  group : (71 : UInt8) ∈ l → groupB r.group = true
  tag : tagB r.tag = true
  keys : ∀ k ∈ keys, k.size ≠ 0
  tags : tags.all plainB = true

theorem text_ext {a b : ByteArray} (h : a.data.toList = b.data.toList) : a = b := ByteArray.ext (Array.ext' h)

theorem word_inj {r r' : Raw} {keys tags keys' tags' : List ByteArray} {keep keep' : List Bool} {l : List UInt8} (f : Fit r keys tags l) (f' : Fit r' keys' tags' l) (c : UInt8) (hc : c ∈ letters) (h1 : c ≠ 102) (h2 : c ≠ 115)
    (h : (wordB r keys tags keep c).data.toList = (wordB r' keys' tags' keep' c).data.toList) : fieldEq r r' keys tags keys' tags' keep keep' c := by
  have h := text_ext h
  rcases letter_cases hc with e | e | e | e | e | e | e | e | e | e | e | e | e <;> subst e
  · exact h
  · exact h
  · exact itoaB_inj h
  · exact itoaB_inj h
  · exact itoaB_inj h
  · exact itoaB_inj h
  · exact tagW_inj f.tag f'.tag h
  · exact keysW_inj f.keys f'.keys h
  · exact hexS_inj h
  · exact hexS_inj h
  · exact bitsW_inj h
  · exact absurd rfl h1
  · exact absurd rfl h2

/-- letters of many words, or of none, stand last -/
def okL : List UInt8 → Bool
  | [] => true
  | [_] => true
  | c :: d :: l => decide (c ≠ 102) && (decide (c ≠ 115) && okL (d :: l))
theorem tokC_one (r : Raw) (keys tags : List ByteArray) (keep : List Bool) (c : UInt8) (h1 : c ≠ 102) (h2 : c ≠ 115) : tokC r keys tags keep c = [(wordB r keys tags keep c).data.toList] := by
  unfold tokC; rw [if_neg h1, if_neg h2]
theorem tokC_inj {r r' : Raw} {keys tags keys' tags' : List ByteArray} {keep keep' : List Bool} {l : List UInt8} (f : Fit r keys tags l) (f' : Fit r' keys' tags' l) (c : UInt8) (hc : c ∈ letters)
    (h : tokC r keys tags keep c = tokC r' keys' tags' keep' c) : fieldEq r r' keys tags keys' tags' keep keep' c := by
  by_cases h1 : c = 102
  · subst h1
    exact filterT_inj f.tags f'.tags h
  · by_cases h2 : c = 115
    · subst h2
      have h : (if r.sync then [syncS.data.toList] else []) = (if r'.sync then [syncS.data.toList] else []) := h
      show r.sync = r'.sync
      cases hs : r.sync <;> cases hs' : r'.sync <;> first | rfl | (rw [hs, hs'] at h; simp at h)
    · rw [tokC_one _ _ _ _ _ h1 h2, tokC_one _ _ _ _ _ h1 h2] at h
      exact word_inj f f' c hc h1 h2 (List.cons.inj h).1
theorem tok_inj {r r' : Raw} {keys tags keys' tags' : List ByteArray} {keep keep' : List Bool} {l0 : List UInt8} (f : Fit r keys tags l0) (f' : Fit r' keys' tags' l0) : ∀ l : List UInt8, okL l = true → (∀ c ∈ l, c ∈ letters) →
    tokL r keys tags keep l = tokL r' keys' tags' keep' l → ∀ c ∈ l, fieldEq r r' keys tags keys' tags' keep keep' c
  | [], _, _, _, c, hc => by simp at hc
  | [d], _, hl, h, c, hc => by
    simp only [List.mem_singleton] at hc
    subst hc
    have h : tokC r keys tags keep c = tokC r' keys' tags' keep' c := by simpa [tokL] using h
    exact tokC_inj f f' c (hl c (by simp)) h
  | d :: e :: l, ho, hl, h, c, hc => by
    simp only [okL, Bool.and_eq_true, decide_eq_true_eq] at ho
    obtain ⟨h1, h2, h3⟩ := ho
    have hx : ∀ (r : Raw) (keys tags : List ByteArray) (keep : List Bool), tokL r keys tags keep (d :: e :: l) = (wordB r keys tags keep d).data.toList :: tokL r keys tags keep (e :: l) := by
      intro r keys tags keep
      show tokC r keys tags keep d ++ tokL r keys tags keep (e :: l) = _
      rw [tokC_one _ _ _ _ _ h1 h2]; rfl
    rw [hx, hx] at h
    obtain ⟨ha, hb⟩ := List.cons.inj h
    rcases List.mem_cons.1 hc with rfl | hc
    · exact word_inj f f' c (hl c (by simp)) h1 h2 ha
    · exact tok_inj f f' (e :: l) h3 (fun x hx => hl x (by simp [hx])) hb c hc
theorem verb_ok (k : Nat) (hk : k < 16) : okL (verbT.getD k ([], [])).2 = true := by
  have : k = 0 ∨ k = 1 ∨ k = 2 ∨ k = 3 ∨ k = 4 ∨ k = 5 ∨ k = 6 ∨ k = 7 ∨ k = 8 ∨ k = 9 ∨ k = 10 ∨ k = 11 ∨ k = 12 ∨ k = 13 ∨ k = 14 ∨ k = 15 := by omega
  rcases this with rfl | rfl | rfl | rfl | rfl | rfl | rfl | rfl | rfl | rfl | rfl | rfl | rfl | rfl | rfl | rfl <;> decide

end Go.Proofs.YtphilpjglajffaaGreatDoor.Lin

namespace Go.Proofs.YtphilpjglajffaaGreatDoor.Lin

theorem dec_ne (u : Nat) : Lib.decDigits u ≠ [] := by
  rw [Lib.decDigits]
  split
  · simp
  · simp
theorem itoa_ne (a : Int) : (itoaB a).size ≠ 0 := by
  rw [← len_size]
  show (Lib.itoa a).length ≠ 0
  unfold Lib.itoa
  split
  · simp
  · intro h; exact dec_ne _ (List.eq_nil_of_length_eq_zero h)
theorem hexS_ne (s : ByteArray) : (hexS s).size ≠ 0 := by
  rw [← len_size]
  show (hexW s.data.toList).length ≠ 0
  unfold hexW
  split
  · simp
  · next h => rw [hexL_length]; intro e; exact h (List.eq_nil_of_length_eq_zero (by omega))
theorem plainW_ne (s : ByteArray) : (plainW s).size ≠ 0 := by
  unfold plainW
  split
  · show (1 : Nat) ≠ 0; decide
  · next h => exact h
theorem bitsW_ne (l : List Bool) : (bitsW l).size ≠ 0 := by
  rw [← len_size]
  unfold bitsW
  split
  · show (1 : Nat) ≠ 0; decide
  · next h =>
    show (l.map bitB).length ≠ 0
    rw [List.length_map]; intro e; exact h (List.eq_nil_of_length_eq_zero e)
theorem join_ne (x : List UInt8) (r : List (List UInt8)) (sep : List UInt8) (h : x ≠ []) : (Lib.join (x :: r) sep).length ≠ 0 := by
  rw [Lib.join_cons, List.length_append]
  intro e
  exact h (List.eq_nil_of_length_eq_zero (by omega))
theorem keysW_ne (l : List ByteArray) : (keysW l).size ≠ 0 := by
  rw [← len_size]
  unfold keysW
  split
  · show (1 : Nat) ≠ 0; decide
  · next h =>
    match l, h with
    | k :: r, _ =>
      show (Lib.join (hexW k.data.toList :: (r.map hexS).map (·.data.toList)) [44]).length ≠ 0
      refine join_ne _ _ _ fun e => hexS_ne k ?_
      rw [← len_size]
      show (hexW k.data.toList).length = 0
      rw [e]; rfl
theorem filterW_ne {l : List ByteArray} (h : l.all plainB = true) : (filterW l).size ≠ 0 := by
  rw [← len_size, filterW_join]
  unfold filterT
  by_cases hl : l = []
  · rw [if_pos hl]; decide
  · rw [if_neg hl]
    have ne : ∀ x ∈ l, x.data.toList ≠ [] := fun x hx e => by
      rw [List.all_eq_true] at h
      exact (plain_chars (h x hx)).2 (by rw [← len_size, e]; rfl)
    match l, hl with
    | [x], _ => exact join_ne _ _ _ (ne x (by simp))
    | x :: y :: r, _ => exact join_ne _ _ _ (ne x (by simp))

theorem word_ne {r : Raw} {keys tags : List ByteArray} {keep : List Bool} {l : List UInt8} (f : Fit r keys tags l) (c : UInt8) (hl : c ∈ l) (hc : c ∈ letters) (h1 : c ≠ 102) (h2 : c ≠ 115) : (wordB r keys tags keep c).size ≠ 0 := by
  rcases letter_cases hc with e | e | e | e | e | e | e | e | e | e | e | e | e <;> subst e
  · exact (topic_nosp (f.topic hl)).2
  · exact (group_nosp (f.group hl)).2
  · exact itoa_ne _
  · exact itoa_ne _
  · exact itoa_ne _
  · exact itoa_ne _
  · exact plainW_ne _
  · exact keysW_ne _
  · exact hexS_ne _
  · exact hexS_ne _
  · exact bitsW_ne _
  · exact absurd rfl h1
  · exact absurd rfl h2

theorem filter_one (x : ByteArray) (h : x.size ≠ 0) (l : List ByteArray) : (x :: l).filter nonE = x :: l.filter nonE := by
  rw [List.filter_cons]; unfold nonE; simp [h]

theorem words_join {r : Raw} {keys tags : List ByteArray} {keep : List Bool} {l0 : List UInt8} (f : Fit r keys tags l0) : ∀ (l : List UInt8), okL l = true → (∀ c ∈ l, c ∈ l0 ∧ c ∈ letters) → ∀ pre : List (List UInt8),
    Lib.join (pre ++ ((l.map (wordB r keys tags keep)).filter nonE).map (·.data.toList)) [32] = Lib.join (pre ++ tokL r keys tags keep l) [32]
  | [], _, _, _ => rfl
  | [c], _, hl, pre => by
    have hc := hl c (by simp)
    have htk : tokL r keys tags keep [c] = tokC r keys tags keep c := by simp [tokL]
    rw [htk]
    by_cases h1 : c = 102
    · subst h1
      have hw : wordB r keys tags keep 102 = filterW tags := rfl
      have ht : tokC r keys tags keep 102 = filterT tags := rfl
      rw [List.map_cons, List.map_nil, hw, filter_one _ (filterW_ne f.tags), ht]
      show Lib.join (pre ++ [(filterW tags).data.toList]) [32] = _
      rw [filterW_join]
      exact join_last [32] (filterT tags) (filterT_ne tags) pre
    · by_cases h2 : c = 115
      · subst h2
        have hw : wordB r keys tags keep 115 = if r.sync then syncS else ⟨#[]⟩ := rfl
        have ht : tokC r keys tags keep 115 = if r.sync then [syncS.data.toList] else [] := rfl
        rw [List.map_cons, List.map_nil, hw, ht]
        cases r.sync <;> rfl
      · rw [List.map_cons, List.map_nil, filter_one _ (word_ne f c hc.1 hc.2 h1 h2), tokC_one _ _ _ _ _ h1 h2]
        rfl
  | c :: d :: l, ho, hl, pre => by
    simp only [okL, Bool.and_eq_true, decide_eq_true_eq] at ho
    obtain ⟨h1, h2, h3⟩ := ho
    have hc := hl c (by simp)
    have ih := words_join (keep := keep) f (d :: l) h3 (fun x hx => hl x (by simp [hx])) (pre ++ [(wordB r keys tags keep c).data.toList])
    rw [List.map_cons, filter_one _ (word_ne f c hc.1 hc.2 h1 h2), List.map_cons]
    have htk : tokL r keys tags keep (c :: d :: l) = (wordB r keys tags keep c).data.toList :: tokL r keys tags keep (d :: l) := by
      show tokC r keys tags keep c ++ tokL r keys tags keep (d :: l) = _
      rw [tokC_one _ _ _ _ _ h1 h2]; rfl
    rw [htk]
    simpa using ih
end Go.Proofs.YtphilpjglajffaaGreatDoor.Lin

namespace Go.Proofs.YtphilpjglajffaaGreatDoor.Lin

theorem without_keep {α : Type} (F : Raw → α) (L : UInt8) (hF : ∀ r c, c ∈ letters → c ≠ L → F (r.clear c) = F r) : ∀ (l : List UInt8) (r : Raw), (∀ c ∈ l, c ∈ letters) → L ∉ l → F (r.without l) = F r
  | [], _, _, _ => rfl
  | c :: l, r, hl, hn => by
    have ih := without_keep F L hF l (r.clear c) (fun x hx => hl x (by simp [hx])) (fun h => hn (by simp [h]))
    show F ((r.clear c).without l) = F r
    rw [ih]
    exact hF r c (hl c (by simp)) (fun e => hn (by simp [e]))
theorem keep_topic (r : Raw) (c : UInt8) (hc : c ∈ letters) (h : c ≠ 84) : (r.clear c).topic = r.topic := by
  rcases letter_cases hc with e | e | e | e | e | e | e | e | e | e | e | e | e <;> subst e <;> first | rfl | exact absurd rfl h
theorem keep_group (r : Raw) (c : UInt8) (hc : c ∈ letters) (h : c ≠ 71) : (r.clear c).group = r.group := by
  rcases letter_cases hc with e | e | e | e | e | e | e | e | e | e | e | e | e <;> subst e <;> first | rfl | exact absurd rfl h
theorem keep_q (r : Raw) (c : UInt8) (hc : c ∈ letters) (h : c ≠ 81) : (r.clear c).q = r.q := by
  rcases letter_cases hc with e | e | e | e | e | e | e | e | e | e | e | e | e <;> subst e <;> first | rfl | exact absurd rfl h
theorem keep_n (r : Raw) (c : UInt8) (hc : c ∈ letters) (h : c ≠ 78) : (r.clear c).n = r.n := by
  rcases letter_cases hc with e | e | e | e | e | e | e | e | e | e | e | e | e <;> subst e <;> first | rfl | exact absurd rfl h
theorem keep_pos (r : Raw) (c : UInt8) (hc : c ∈ letters) (h : c ≠ 65) : (r.clear c).pos = r.pos := by
  rcases letter_cases hc with e | e | e | e | e | e | e | e | e | e | e | e | e <;> subst e <;> first | rfl | exact absurd rfl h
theorem keep_lack (r : Raw) (c : UInt8) (hc : c ∈ letters) (h : c ≠ 76) : (r.clear c).lack = r.lack := by
  rcases letter_cases hc with e | e | e | e | e | e | e | e | e | e | e | e | e <;> subst e <;> first | rfl | exact absurd rfl h
theorem keep_tag (r : Raw) (c : UInt8) (hc : c ∈ letters) (h : c ≠ 116) : (r.clear c).tag = r.tag := by
  rcases letter_cases hc with e | e | e | e | e | e | e | e | e | e | e | e | e <;> subst e <;> first | rfl | exact absurd rfl h
theorem keep_ks (r : Raw) (c : UInt8) (hc : c ∈ letters) (h : c ≠ 107) : (r.clear c).ks = r.ks := by
  rcases letter_cases hc with e | e | e | e | e | e | e | e | e | e | e | e | e <;> subst e <;> first | rfl | exact absurd rfl h
theorem keep_body (r : Raw) (c : UInt8) (hc : c ∈ letters) (h : c ≠ 98) : (r.clear c).body = r.body := by
  rcases letter_cases hc with e | e | e | e | e | e | e | e | e | e | e | e | e <;> subst e <;> first | rfl | exact absurd rfl h
theorem keep_key (r : Raw) (c : UInt8) (hc : c ∈ letters) (h : c ≠ 120) : (r.clear c).key = r.key := by
  rcases letter_cases hc with e | e | e | e | e | e | e | e | e | e | e | e | e <;> subst e <;> first | rfl | exact absurd rfl h
theorem keep_ps (r : Raw) (c : UInt8) (hc : c ∈ letters) (h : c ≠ 112) : (r.clear c).ps = r.ps := by
  rcases letter_cases hc with e | e | e | e | e | e | e | e | e | e | e | e | e <;> subst e <;> first | rfl | exact absurd rfl h
theorem keep_ts (r : Raw) (c : UInt8) (hc : c ∈ letters) (h : c ≠ 102) : (r.clear c).ts = r.ts := by
  rcases letter_cases hc with e | e | e | e | e | e | e | e | e | e | e | e | e <;> subst e <;> first | rfl | exact absurd rfl h
theorem keep_sync (r : Raw) (c : UInt8) (hc : c ∈ letters) (h : c ≠ 115) : (r.clear c).sync = r.sync := by
  rcases letter_cases hc with e | e | e | e | e | e | e | e | e | e | e | e | e <;> subst e <;> first | rfl | exact absurd rfl h
theorem keep_kind (r : Raw) (c : UInt8) (hc : c ∈ letters) : (r.clear c).kind = r.kind := by
  rcases letter_cases hc with e | e | e | e | e | e | e | e | e | e | e | e | e <;> subst e <;> rfl

/-- an event that is told -/
structure Told (r : Raw) (keys tags : List ByteArray) (keep : List Bool) (k : Nat) : Prop where
  kind : r.kind = k
  k1 : 1 ≤ k
  k2 : k ≤ 15
  fit : Fit r keys tags (verbT.getD k ([], [])).2
  bare : Bare (r.without (verbT.getD k ([], [])).2)
  kl : keys.length = r.ks.n
  tl : tags.length = r.ts.n
  pl : keep.length = r.ps.n
  line : eventB r keys tags keep = joinS (wordsL r keys tags keep (bs (verbT.getD k ([], [])).1) (verbT.getD k ([], [])).2) ⟨#[32]⟩

theorem told_line {r : Raw} {keys tags : List ByteArray} {keep : List Bool} {k : Nat} (h : Told r keys tags keep k) :
    (eventB r keys tags keep).data.toList = Lib.join ((verbT.getD k ([], [])).1 :: tokL r keys tags keep (verbT.getD k ([], [])).2) [32] := by
  rw [h.line]
  have hw := words_join (keep := keep) h.fit (verbT.getD k ([], [])).2 (verb_ok k (by have := h.k2; omega)) (fun c hc => ⟨hc, verb_letters k (by have := h.k2; omega) c hc⟩) [(verbT.getD k ([], [])).1]
  exact hw
theorem names_nosp (k : Nat) (hk : k < 16) : NoSp (verbT.getD k ([], [])).1 := by
  unfold NoSp
  have : k = 0 ∨ k = 1 ∨ k = 2 ∨ k = 3 ∨ k = 4 ∨ k = 5 ∨ k = 6 ∨ k = 7 ∨ k = 8 ∨ k = 9 ∨ k = 10 ∨ k = 11 ∨ k = 12 ∨ k = 13 ∨ k = 14 ∨ k = 15 := by omega
  rcases this with rfl | rfl | rfl | rfl | rfl | rfl | rfl | rfl | rfl | rfl | rfl | rfl | rfl | rfl | rfl | rfl <;> decide
theorem names_inj : ∀ k k' : Fin 16, (verbT.getD k.val ([], [])).1 = (verbT.getD k'.val ([], [])).1 → k = k' := by decide +kernel

theorem word_nosp {r : Raw} {keys tags : List ByteArray} {keep : List Bool} {l : List UInt8} (f : Fit r keys tags l) (c : UInt8) (hl : c ∈ l) (hc : c ∈ letters) : ∀ x ∈ tokC r keys tags keep c, NoSp x := by
  intro x hx
  rcases letter_cases hc with e | e | e | e | e | e | e | e | e | e | e | e | e <;> subst e
  · rw [tokC_one _ _ _ _ _ (by decide) (by decide), List.mem_singleton] at hx; rw [hx]; exact (topic_nosp (f.topic hl)).1
  · rw [tokC_one _ _ _ _ _ (by decide) (by decide), List.mem_singleton] at hx; rw [hx]; exact (group_nosp (f.group hl)).1
  · rw [tokC_one _ _ _ _ _ (by decide) (by decide), List.mem_singleton] at hx; rw [hx]; exact itoa_nosp _
  · rw [tokC_one _ _ _ _ _ (by decide) (by decide), List.mem_singleton] at hx; rw [hx]; exact itoa_nosp _
  · rw [tokC_one _ _ _ _ _ (by decide) (by decide), List.mem_singleton] at hx; rw [hx]; exact itoa_nosp _
  · rw [tokC_one _ _ _ _ _ (by decide) (by decide), List.mem_singleton] at hx; rw [hx]; exact itoa_nosp _
  · rw [tokC_one _ _ _ _ _ (by decide) (by decide), List.mem_singleton] at hx; rw [hx]; exact tagW_nosp f.tag
  · rw [tokC_one _ _ _ _ _ (by decide) (by decide), List.mem_singleton] at hx; rw [hx]; exact keysW_nosp _
  · rw [tokC_one _ _ _ _ _ (by decide) (by decide), List.mem_singleton] at hx; rw [hx]; exact hexW_nosp _
  · rw [tokC_one _ _ _ _ _ (by decide) (by decide), List.mem_singleton] at hx; rw [hx]; exact hexW_nosp _
  · rw [tokC_one _ _ _ _ _ (by decide) (by decide), List.mem_singleton] at hx; rw [hx]; exact bitsW_nosp _
  · exact filterT_nosp f.tags x hx
  · have hx : x ∈ (if r.sync then [syncS.data.toList] else []) := hx
    cases hs : r.sync
    · rw [hs] at hx; simp at hx
    · rw [hs] at hx; simp only [if_true, List.mem_singleton] at hx; rw [hx]; unfold NoSp; decide

end Go.Proofs.YtphilpjglajffaaGreatDoor.Lin

namespace Go.Proofs.YtphilpjglajffaaGreatDoor.Lin

theorem tokL_nosp {r : Raw} {keys tags : List ByteArray} {keep : List Bool} {k : Nat} (h : Told r keys tags keep k) : ∀ x ∈ (verbT.getD k ([], [])).1 :: tokL r keys tags keep (verbT.getD k ([], [])).2, (32 : UInt8) ∉ x := by
  intro x hx
  have hk : k < 16 := by have := h.k2; omega
  rcases List.mem_cons.1 hx with rfl | hx
  · exact names_nosp k hk
  · obtain ⟨c, hc, hx⟩ := List.mem_flatMap.1 hx
    exact word_nosp h.fit c hc (verb_letters k hk c hc) x hx

theorem told_fields {r r' : Raw} {keys tags keys' tags' : List ByteArray} {keep keep' : List Bool} {k k' : Nat} (h : Told r keys tags keep k) (h' : Told r' keys' tags' keep' k') (he : eventB r keys tags keep = eventB r' keys' tags' keep') :
    sameB r r' keys tags keys' tags' keep keep' = true := by
  have h1 := told_line h
  rw [he, told_line h'] at h1
  have h2 := join_inj 32 (by simp) (by simp) (tokL_nosp h') (tokL_nosp h) h1
  obtain ⟨h3, h4⟩ := List.cons.inj h2
  have hkk : k = k' := by
    have := names_inj ⟨k', by have := h'.k2; omega⟩ ⟨k, by have := h.k2; omega⟩ h3
    exact (Fin.mk.inj_iff.1 this).symm
  subst hkk
  have hk : k < 16 := by have := h.k2; omega
  have hlt := verb_letters k hk
  have hf := tok_inj (keep := keep) (keep' := keep') h.fit h'.fit (verbT.getD k ([], [])).2 (verb_ok k hk) hlt h4.symm
  have hb := h.bare
  have hb' := h'.bare
  generalize (verbT.getD k ([], [])).2 = ls at *
  have e_topic : r.topic = r'.topic := by
    by_cases hm : (84 : UInt8) ∈ ls
    · exact hf 84 hm
    · rw [← without_keep Raw.topic 84 keep_topic ls r hlt hm, ← without_keep Raw.topic 84 keep_topic ls r' hlt hm, hb.topic, hb'.topic]
  have e_group : r.group = r'.group := by
    by_cases hm : (71 : UInt8) ∈ ls
    · exact hf 71 hm
    · rw [← without_keep Raw.group 71 keep_group ls r hlt hm, ← without_keep Raw.group 71 keep_group ls r' hlt hm, hb.group, hb'.group]
  have e_q : r.q = r'.q := by
    by_cases hm : (81 : UInt8) ∈ ls
    · exact hf 81 hm
    · rw [← without_keep Raw.q 81 keep_q ls r hlt hm, ← without_keep Raw.q 81 keep_q ls r' hlt hm, hb.q, hb'.q]
  have e_n : r.n = r'.n := by
    by_cases hm : (78 : UInt8) ∈ ls
    · exact hf 78 hm
    · rw [← without_keep Raw.n 78 keep_n ls r hlt hm, ← without_keep Raw.n 78 keep_n ls r' hlt hm, hb.n, hb'.n]
  have e_pos : r.pos = r'.pos := by
    by_cases hm : (65 : UInt8) ∈ ls
    · exact hf 65 hm
    · rw [← without_keep Raw.pos 65 keep_pos ls r hlt hm, ← without_keep Raw.pos 65 keep_pos ls r' hlt hm, hb.pos, hb'.pos]
  have e_lack : r.lack = r'.lack := by
    by_cases hm : (76 : UInt8) ∈ ls
    · exact hf 76 hm
    · rw [← without_keep Raw.lack 76 keep_lack ls r hlt hm, ← without_keep Raw.lack 76 keep_lack ls r' hlt hm, hb.lack, hb'.lack]
  have e_tag : r.tag = r'.tag := by
    by_cases hm : (116 : UInt8) ∈ ls
    · exact hf 116 hm
    · rw [← without_keep Raw.tag 116 keep_tag ls r hlt hm, ← without_keep Raw.tag 116 keep_tag ls r' hlt hm, hb.tag, hb'.tag]
  have e_body : r.body = r'.body := by
    by_cases hm : (98 : UInt8) ∈ ls
    · exact hf 98 hm
    · rw [← without_keep Raw.body 98 keep_body ls r hlt hm, ← without_keep Raw.body 98 keep_body ls r' hlt hm, hb.body, hb'.body]
  have e_key : r.key = r'.key := by
    by_cases hm : (120 : UInt8) ∈ ls
    · exact hf 120 hm
    · rw [← without_keep Raw.key 120 keep_key ls r hlt hm, ← without_keep Raw.key 120 keep_key ls r' hlt hm, hb.key, hb'.key]
  have e_sync : r.sync = r'.sync := by
    by_cases hm : (115 : UInt8) ∈ ls
    · exact hf 115 hm
    · rw [← without_keep Raw.sync 115 keep_sync ls r hlt hm, ← without_keep Raw.sync 115 keep_sync ls r' hlt hm, hb.sync, hb'.sync]
  have e_keys : keys = keys' := by
    by_cases hm : (107 : UInt8) ∈ ls
    · exact hf 107 hm
    · have z : r.ks.n = 0 := by rw [← without_keep Raw.ks 107 keep_ks ls r hlt hm]; exact hb.ks
      have z' : r'.ks.n = 0 := by rw [← without_keep Raw.ks 107 keep_ks ls r' hlt hm]; exact hb'.ks
      rw [List.eq_nil_of_length_eq_zero (h.kl.trans z), List.eq_nil_of_length_eq_zero (h'.kl.trans z')]
  have e_tags : tags = tags' := by
    by_cases hm : (102 : UInt8) ∈ ls
    · exact hf 102 hm
    · have z : r.ts.n = 0 := by rw [← without_keep Raw.ts 102 keep_ts ls r hlt hm]; exact hb.ts
      have z' : r'.ts.n = 0 := by rw [← without_keep Raw.ts 102 keep_ts ls r' hlt hm]; exact hb'.ts
      rw [List.eq_nil_of_length_eq_zero (h.tl.trans z), List.eq_nil_of_length_eq_zero (h'.tl.trans z')]
  have e_keep : keep = keep' := by
    by_cases hm : (112 : UInt8) ∈ ls
    · exact hf 112 hm
    · have z : r.ps.n = 0 := by rw [← without_keep Raw.ps 112 keep_ps ls r hlt hm]; exact hb.ps
      have z' : r'.ps.n = 0 := by rw [← without_keep Raw.ps 112 keep_ps ls r' hlt hm]; exact hb'.ps
      rw [List.eq_nil_of_length_eq_zero (h.pl.trans z), List.eq_nil_of_length_eq_zero (h'.pl.trans z')]
  unfold sameB
  simp only [Bool.and_eq_true, decide_eq_true_eq]
  exact ⟨e_keep, h.kind.trans h'.kind.symm, e_q, e_n, e_pos, e_lack, e_topic, e_group, e_tag, e_key, e_body, e_keys, e_tags, e_sync⟩

theorem fields_told {r r' : Raw} {keys tags keys' tags' : List ByteArray} {keep keep' : List Bool} {k k' : Nat} (h : Told r keys tags keep k) (h' : Told r' keys' tags' keep' k') (hs : sameB r r' keys tags keys' tags' keep keep' = true) :
    eventB r keys tags keep = eventB r' keys' tags' keep' := by
  unfold sameB at hs
  simp only [Bool.and_eq_true, decide_eq_true_eq] at hs
  obtain ⟨rfl, e0, e1, e2, e3, e4, e5, e6, e7, e8, e9, rfl, rfl, e10⟩ := hs
  have hkk : k = k' := by have a := h.kind; have b := h'.kind; rw [a, b] at e0; omega
  subst hkk
  rw [h.line, h'.line]
  have hw : wordB r keys tags keep = wordB r' keys tags keep := by
    funext c
    unfold wordB
    rw [e1, e2, e3, e4, e5, e6, e7, e8, e9, e10]
  unfold wordsL
  rw [hw]

end Go.Proofs.YtphilpjglajffaaGreatDoor.Lin

namespace Go.Proofs.YtphilpjglajffaaGreatDoor.Lin

theorem has_T (k : Nat) (hk : k < 16) : (84 : UInt8) ∈ (verbT.getD k ([], [])).2 → hasC (bs (verbT.getD k ([], [])).2) 84 = true := by
  have : k = 0 ∨ k = 1 ∨ k = 2 ∨ k = 3 ∨ k = 4 ∨ k = 5 ∨ k = 6 ∨ k = 7 ∨ k = 8 ∨ k = 9 ∨ k = 10 ∨ k = 11 ∨ k = 12 ∨ k = 13 ∨ k = 14 ∨ k = 15 := by omega
  rcases this with rfl | rfl | rfl | rfl | rfl | rfl | rfl | rfl | rfl | rfl | rfl | rfl | rfl | rfl | rfl | rfl <;> decide +kernel
theorem has_G (k : Nat) (hk : k < 16) : (71 : UInt8) ∈ (verbT.getD k ([], [])).2 → hasC (bs (verbT.getD k ([], [])).2) 71 = true := by
  have : k = 0 ∨ k = 1 ∨ k = 2 ∨ k = 3 ∨ k = 4 ∨ k = 5 ∨ k = 6 ∨ k = 7 ∨ k = 8 ∨ k = 9 ∨ k = 10 ∨ k = 11 ∨ k = 12 ∨ k = 13 ∨ k = 14 ∨ k = 15 := by omega
  rcases this with rfl | rfl | rfl | rfl | rfl | rfl | rfl | rfl | rfl | rfl | rfl | rfl | rfl | rfl | rfl | rfl <;> decide +kernel

theorem small0 : SmallI 0 := ⟨by decide, by decide⟩
theorem small_keep (F : Raw → Int) (hF : ∀ r c, c ∈ letters → F (r.clear c) = F r ∨ F (r.clear c) = 0) : ∀ (l : List UInt8) (r : Raw), (∀ c ∈ l, c ∈ letters) → SmallI (F r) → SmallI (F (r.without l))
  | [], _, _, h => h
  | c :: l, r, hl, h => by
    refine small_keep F hF l (r.clear c) (fun x hx => hl x (by simp [hx])) ?_
    rcases hF r c (hl c (by simp)) with e | e <;> rw [e]
    · exact h
    · exact small0
theorem cl_q (r : Raw) (c : UInt8) (hc : c ∈ letters) : (r.clear c).q = r.q ∨ (r.clear c).q = 0 := by
  rcases letter_cases hc with e | e | e | e | e | e | e | e | e | e | e | e | e <;> subst e <;> first | exact .inl rfl | exact .inr rfl
theorem cl_n (r : Raw) (c : UInt8) (hc : c ∈ letters) : (r.clear c).n = r.n ∨ (r.clear c).n = 0 := by
  rcases letter_cases hc with e | e | e | e | e | e | e | e | e | e | e | e | e <;> subst e <;> first | exact .inl rfl | exact .inr rfl
theorem cl_pos (r : Raw) (c : UInt8) (hc : c ∈ letters) : (r.clear c).pos = r.pos ∨ (r.clear c).pos = 0 := by
  rcases letter_cases hc with e | e | e | e | e | e | e | e | e | e | e | e | e <;> subst e <;> first | exact .inl rfl | exact .inr rfl
theorem cl_lack (r : Raw) (c : UInt8) (hc : c ∈ letters) : (r.clear c).lack = r.lack ∨ (r.clear c).lack = 0 := by
  rcases letter_cases hc with e | e | e | e | e | e | e | e | e | e | e | e | e <;> subst e <;> first | exact .inl rfl | exact .inr rfl

theorem new_plain {tags : List ByteArray} (h : newE tags = 0) : tags.all plainB = true := by
  unfold newE at h
  by_cases h1 : tags.all plainB = false
  · rw [if_pos h1] at h; exact absurd h (by decide)
  · simpa using h1

theorem told_of {r : Raw} {keys tags : List ByteArray} {keep : List Bool} (hm : Mild r) (hk : ∀ x ∈ keys, x.size ≤ 1000) (ht : ∀ x ∈ tags, x.size ≤ 1000) (kl : keys.length = r.ks.n) (tl : tags.length = r.ts.n) (pl : keep.length = r.ps.n)
    (h : eventB r keys tags keep ≠ ⟨#[]⟩) : ∃ k, Told r keys tags keep k := by
  by_cases hkd : r.kind < 1 ∨ 15 < r.kind
  · exact absurd (by unfold eventB; rw [if_pos hkd]) h
  · have he : eventB r keys tags keep = if (rightB r keys tags (bs (verbT.getD r.kind.toNat ([], [])).2) && emptyB (r.without (verbT.getD r.kind.toNat ([], [])).2)) = false then ⟨#[]⟩ else joinS (wordsL r keys tags keep (bs (verbT.getD r.kind.toNat ([], [])).1) (verbT.getD r.kind.toNat ([], [])).2) ⟨#[32]⟩ := by
      unfold eventB; rw [if_neg hkd]
    obtain ⟨k, hkn⟩ : ∃ k, r.kind.toNat = k := ⟨_, rfl⟩
    rw [hkn] at he
    have hk16 : k < 16 := by omega
    by_cases hr : (rightB r keys tags (bs (verbT.getD k ([], [])).2) && emptyB (r.without (verbT.getD k ([], [])).2)) = false
    · rw [if_pos hr] at he; exact absurd he h
    · rw [if_neg hr] at he
      simp only [Bool.not_eq_false, Bool.and_eq_true] at hr
      obtain ⟨h1, h2⟩ := hr
      have T := right_tellable h1 hm hk ht
      have hlt := verb_letters k hk16
      have hbare := bare_of (small_keep Raw.q cl_q _ r hlt T.q) (small_keep Raw.n cl_n _ r hlt T.n) (small_keep Raw.pos cl_pos _ r hlt T.pos) (small_keep Raw.lack cl_lack _ r hlt T.lack) h2
      unfold rightB at h1
      by_cases g1 : (numsB r && (tagB r.tag && decide (newE tags = 0))) = false
      · rw [if_pos g1] at h1; simp at h1
      · rw [if_neg g1] at h1
        by_cases g2 : ((hasC (bs (verbT.getD k ([], [])).2) 84 && !topicB r.topic) || (hasC (bs (verbT.getD k ([], [])).2) 71 && !groupB r.group)) = true
        · rw [if_pos g2] at h1; simp at h1
        · rw [if_neg g2] at h1
          simp only [Bool.not_eq_false, Bool.and_eq_true, decide_eq_true_eq] at g1
          simp only [Bool.and_eq_true, List.all_eq_true] at h1
          refine ⟨k, by omega, by omega, by omega, ⟨fun hx => ?_, fun hx => ?_, g1.2.1, fun x hx => ?_, new_plain g1.2.2⟩, hbare, kl, tl, pl, he⟩
          · have := has_T k hk16 hx
            cases ht' : topicB r.topic
            · exact absurd (by rw [this, ht']; rfl) g2
            · rfl
          · have := has_G k hk16 hx
            cases ht' : groupB r.group
            · exact absurd (by rw [this, ht']; simp) g2
            · rfl
          · have := h1.2.2.2.2 x hx
            intro hz
            unfold badB at this
            rw [decide_eq_true hz] at this
            simp at this

/-- THE PLAIN LAW: unlike events that have lines have unlike ones -/
theorem unlike_plain {r r' : Raw} {keys tags keys' tags' : List ByteArray} {keep keep' : List Bool} (hm : Mild r) (hk : ∀ x ∈ keys, x.size ≤ 1000) (ht : ∀ x ∈ tags, x.size ≤ 1000) (kl : keys.length = r.ks.n) (tl : tags.length = r.ts.n) (pl : keep.length = r.ps.n)
    (hm' : Mild r') (hk' : ∀ x ∈ keys', x.size ≤ 1000) (ht' : ∀ x ∈ tags', x.size ≤ 1000) (kl' : keys'.length = r'.ks.n) (tl' : tags'.length = r'.ts.n) (pl' : keep'.length = r'.ps.n)
    (h : eventB r keys tags keep ≠ ⟨#[]⟩) (h' : eventB r' keys' tags' keep' ≠ ⟨#[]⟩) : decide (eventB r keys tags keep = eventB r' keys' tags' keep') = sameB r r' keys tags keys' tags' keep keep' := by
  obtain ⟨k, T⟩ := told_of hm hk ht kl tl pl h
  obtain ⟨k', T'⟩ := told_of hm' hk' ht' kl' tl' pl' h'
  rw [Bool.eq_iff_iff, decide_eq_true_eq]
  exact ⟨told_fields T T', fields_told T T'⟩
end Go.Proofs.YtphilpjglajffaaGreatDoor.Lin
