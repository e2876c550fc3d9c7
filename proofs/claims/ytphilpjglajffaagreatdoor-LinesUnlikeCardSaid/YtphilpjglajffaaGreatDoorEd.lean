/- Walks: are two lists of texts one; keys' and truths' words. -/
import Derived.Test.YtphilpjglajffaaGreatDoorEc
import Derived.BigQuiet
namespace Go.Proofs.YtphilpjglajffaaGreatDoor.Lin
open Go.RowKit

theorem str_eq (a b : ByteArray) : (a.toList == b.toList) = decide (a = b) := by
  rw [ByteArray.toList_eq, ByteArray.toList_eq, Bool.eq_iff_iff]
  simp only [beq_iff_eq, decide_eq_true_eq]
  exact ⟨fun h => ByteArray.ext (Array.ext' h), fun h => by rw [h]⟩
theorem str_ne (a b : ByteArray) : (a.toList != b.toList) = !decide (a = b) := by
  rw [bne, str_eq]

theorem take_eq_step {α : Type} (l m : List α) (k : Nat) (h : k < l.length) (h' : k < m.length) (hp : l.take k = m.take k) (he : l[k] = m[k]) : l.take (k + 1) = m.take (k + 1) := by
  rw [List.take_succ_eq_append_getElem h, List.take_succ_eq_append_getElem h', hp, he]

set_option maxRecDepth 100000 in
set_option maxHeartbeats 1000000 in
theorem same_calls (a : Option Addr) (n c : Nat) (l : List ByteArray) (a' : Option Addr) (n' c' : Nat) (l' : List ByteArray) (w : World) (hl : StrsIn w ⟨a, n, c⟩ l) (hl' : StrsIn w ⟨a', n', c'⟩ l') (hn1 : n ≤ 9223372036854775807) :
    Calls Tryz.prog 35 #[.slice a n c, .slice a' n' c'] w fun e w' => e = .returned (.bool (decide (l = l'))) ∧ Below w.heap.size w w' := by
  have HN : Hid (n = l.length) := Lib.hid hl.1
  have HN' : Hid (n' = l'.length) := Lib.hid hl'.1
  have HL := Lib.hid hl
  have HL' := Lib.hid hl'
  clear hl hl'
  by_cases hnn : n = n'
  · have hz : ((n : Int) = (n' : Int)) = True := by simp [hnn]
    have hz2 : ((n : Int) != (n' : Int)) = false := by simp [hnn]
    have HNN := Lib.hid hnn
    clear hnn
    go_enter Tryz.func35, Tryz.ntmps35
    go_wp2_with fail
    go_loopw [5] (fun i wr => ∃ k : Nat, k ≤ n ∧ i = .int .i64 k ∧ Hid (l.take k = l'.take k) ∧ Hid (Below w.heap.size w wr)) (fun i _ => n - (intOf i).toNat)
    case atStart => exact ⟨0, Nat.zero_le _, rfl, Lib.hid rfl, Lib.hid (Below.refl _ _)⟩
    case round =>
      obtain ⟨k, hk, rfl, HE, HW⟩ := hrel
      by_cases hlt : k < n
      · have d1 : decide ((k : Int) < (n : Int)) = true := by simp; omega
        have hki : (k : Int) < (n : Int) := by omega
        have hki' : (k : Int) < (n' : Int) := by rw [← HNN.out]; omega
        have hlt' : k < n' := by rw [← HNN.out]; exact hlt
        have hkl : k < l.length := by rw [← HN.out]; exact hlt
        have hkl' : k < l'.length := by rw [← HN'.out, ← HNN.out]; exact hlt
        obtain ⟨b, off, rfl, hcell⟩ := (HL.out.below HW.out).at k hkl
        obtain ⟨b', off', rfl, hcell'⟩ := (HL'.out.below HW.out).at k hkl'
        have HS := Lib.hid (take_eq_step l l' k hkl hkl' HE.out)
        have HT : Hid (¬ l[k] = l'[k] → ¬ l = l') := Lib.hid fun hne he => hne (by subst he; rfl)
        generalize l[k] = m at *
        generalize l'[k] = m' at *
        clear hkl hkl'
        have hse := str_eq m m'
        by_cases hm : m = m'
        · replace hse : (m.toList == m'.toList) = true := by rw [hse]; simp [hm]
          go_wp2_with fail
          go_quiet (fail)
          go_wp2_with fail
          go_roundw
          case rel => exact ⟨k + 1, by omega, by go_num, Lib.hid (HS.out hm), Lib.hid (HW.out.trans (below_drewN (Below.refl _ _) _))⟩
          case measure => simp [intOf]; omega
        · replace hse : (m.toList == m'.toList) = false := by rw [hse]; simp [hm]
          go_wp2_with fail
          go_quiet (fail)
          go_wp2_with fail
          go_ret
          refine ⟨ret_bool ?_, HW.out.trans (below_drewN (Below.refl _ _) _)⟩
          simp [HT.out hm]
      · have d1 : decide ((k : Int) < (n : Int)) = false := by simp; omega
        have HK := Lib.hid (show k = n by omega)
        go_wp2_with fail
        go_ret
        refine ⟨ret_bool ?_, HW.out⟩
        have := HE.out
        rw [HK.out, HN.out, List.take_length, ← HN.out, HNN.out, HN'.out, List.take_length] at this
        simp [this]
  · have hz : ((n : Int) = (n' : Int)) = False := by simp; omega
    have hz2 : ((n : Int) != (n' : Int)) = true := by simp; omega
    have HNN := Lib.hid hnn
    clear hnn
    go_enter Tryz.func35, Tryz.ntmps35
    go_wp2_with fail
    go_ret
    refine ⟨ret_bool ?_, Below.refl _ _⟩
    have : ¬ l = l' := fun he => HNN.out (by rw [HN.out, HN'.out, he])
    simp [this]


/-! ### keys' word -/
def strsV (l : List ByteArray) : List Value := l.map .string
def hexS (k : ByteArray) : ByteArray := ⟨⟨hexW k.data.toList⟩⟩
def joinS (xs : List ByteArray) (sep : ByteArray) : ByteArray := ⟨(Lib.join (xs.map (·.data.toList)) sep.data.toList).toArray⟩
def keysW (l : List ByteArray) : ByteArray := if l = [] then ⟨#[46]⟩ else joinS (l.map hexS) ⟨#[44]⟩

theorem own_below {w w' : World} {base : Nat} {e : TypeId} {size n : Nat} {v : Value} {xs : List Value} (h : w.ownsRow base e size v n xs) (hb : Below w.heap.size w w') : w'.ownsRow base e size v n xs := by
  obtain ⟨h1, h2⟩ := h
  refine ⟨h1, ?_⟩
  rcases h2 with h2 | ⟨g, cap, cur, rfl, hg, hw, r⟩
  · exact .inl h2
  · exact .inr ⟨g, cap, cur, rfl, hg, (hb.block g (Array.getElem?_eq_some_iff.1 hw).1).trans hw, r⟩

theorem strInfo : (Tryz.prog.info? 9).map (fun i => (i.zero, i.size, i.bytes)) = some (some (.string ⟨#[]⟩), 1, 16) := by kernel_rfl

/-- one text appended to an own row -/
theorem app_str {ops : Array Oper} {rest : List Oper} {o : Oper} {a : Act} {Q : Exit → Act → World → Prop} {w0 W : World} (base : Nat) (hgd : o.guard = none) (s x : Operand)
    (ho : o.op = .call { callee := .builtin .append, args := #[s, x], argTypes := #[22, 22] }) (v y : Value) (n : Nat) (xs : List Value) (hs : a.eval s = v) (hx : a.eval x = .slice (some ⟨W.heap.size, 0, none⟩) 1 1)
    (h1 : y.oneCell' = true) (HO : W.ownsRow base 9 1 v n xs) (HB : Below base w0 W) (hbase : base ≤ W.heap.size) (hl : n + 1 ≤ 1099511627776)
    (h : ∀ g cap w1, w1.ownsRow base 9 1 (.slice (some ⟨g, 0, none⟩) (n + 1) cap) (n + 1) (xs ++ [y]) → Below base w0 w1 → wpList Tryz.prog ops Q rest (a.put o.dst (.slice (some ⟨g, 0, none⟩) (n + 1) cap)) w1) :
    wpList Tryz.prog ops Q (o :: rest) a (W.alloc (.cells #[y] 9)) := by
  obtain ⟨i0, hi, hzz⟩ := Option.map_eq_some_iff.1 strInfo
  simp only [Prod.mk.injEq] at hzz
  obtain ⟨hz0, hz1, hz2⟩ := hzz
  refine wpList_append_lies (P := Tryz.prog) (W.alloc (.cells #[y] 9)) hgd s x 22 ho base 9 i0 _ 1 16 Tryz.underlying22 hi hz0 hz1 hz2 rfl (by omega) v n xs hs (HO.alloc _) ⟨W.heap.size, 0, none⟩ 1 1 [y] hx (by simp)
    (by simpa using World.news_of_block (cs := #[y]) (t := 9) (fr := (0, 0)) (heap_alloc_new W (.cells #[y] 9))) (by simpa using h1) (by omega) (by simp only [maxLen]; omega) (by omega) (by simp; omega) _ rfl ?_
  intro g cap w1 hown hg _ _
  exact h g cap w1 hown ((HB.alloc hbase _).grown hg (by simp; omega) (own_base HO))

/-- one byte appended to an own row -/
theorem app_byte {ops : Array Oper} {rest : List Oper} {o : Oper} {a : Act} {Q : Exit → Act → World → Prop} {w0 W : World} (base : Nat) (hgd : o.guard = none) (s x : Operand)
    (ho : o.op = .call { callee := .builtin .append, args := #[s, x], argTypes := #[61, 61] }) (v y : Value) (n : Nat) (xs : List Value) (hs : a.eval s = v) (hx : a.eval x = .slice (some ⟨W.heap.size, 0, none⟩) 1 1)
    (h1 : y.oneCell' = true) (HO : W.ownsRow base 5 1 v n xs) (HB : Below base w0 W) (hbase : base ≤ W.heap.size) (hl : n + 1 ≤ 1099511627776)
    (h : ∀ g cap w1, w1.ownsRow base 5 1 (.slice (some ⟨g, 0, none⟩) (n + 1) cap) (n + 1) (xs ++ [y]) → Below base w0 w1 → wpList Tryz.prog ops Q rest (a.put o.dst (.slice (some ⟨g, 0, none⟩) (n + 1) cap)) w1) :
    wpList Tryz.prog ops Q (o :: rest) a (W.alloc (.cells #[y] 5)) := by
  obtain ⟨i0, hi, hzz⟩ := Option.map_eq_some_iff.1 byteInfo
  simp only [Prod.mk.injEq] at hzz
  obtain ⟨hz0, hz1, hz2⟩ := hzz
  refine wpList_append_lies (P := Tryz.prog) (W.alloc (.cells #[y] 5)) hgd s x 61 ho base 5 i0 _ 1 1 Tryz.underlying61 hi hz0 hz1 hz2 rfl (by omega) v n xs hs (HO.alloc _) ⟨W.heap.size, 0, none⟩ 1 1 [y] hx (by simp)
    (by simpa using World.news_of_block (cs := #[y]) (t := 5) (fr := (0, 0)) (heap_alloc_new W (.cells #[y] 5))) (by simpa using h1) (by omega) (by simp only [maxLen]; omega) (by omega) (by simp; omega) _ rfl ?_
  intro g cap w1 hown hg _ _
  exact h g cap w1 hown ((HB.alloc hbase _).grown hg (by simp; omega) (own_base HO))

theorem joinTail_le (sep : List UInt8) (B : Nat) : ∀ r : List (List UInt8), (∀ x ∈ r, x.length ≤ B) → (Lib.joinTail sep r).length ≤ r.length * (sep.length + B)
  | [], _ => by simp [Lib.joinTail]
  | x :: r, h => by
    have h1 := h x (by simp)
    have h2 := joinTail_le sep B r fun y hy => h y (by simp [hy])
    unfold Lib.joinTail at h2 ⊢
    simp only [List.map_cons, List.flatten_cons, List.length_append, List.length_cons, Nat.succ_mul]
    omega
theorem join_le (sep : List UInt8) (B : Nat) (r : List (List UInt8)) (h : ∀ x ∈ r, x.length ≤ B) : (Lib.join r sep).length ≤ r.length * (sep.length + B) := by
  cases r with
  | nil => simp [Lib.join_nil]
  | cons x r =>
    rw [Lib.join_cons, List.length_append]
    have h1 := h x (by simp)
    have h2 := joinTail_le sep B r fun y hy => h y (by simp [hy])
    simp only [List.length_cons, Nat.succ_mul]
    omega
theorem hexW_le (l : List UInt8) : (hexW l).length ≤ 2 * l.length + 1 := by
  unfold hexW
  split
  · simp
  · rw [hexL_length]; omega
theorem len_size (x : ByteArray) : x.data.toList.length = x.size := by simp

theorem join_own (g n cap : Nat) (xs : List ByteArray) (sep : ByteArray) (w : World) (base : Nat) (ho : w.ownsRow base 9 1 (.slice (some ⟨g, 0, none⟩) n cap) n (strsV xs)) (hB : ∀ x ∈ xs, x.size ≤ 100000) (hs : sep.size ≤ 100) (hn : n ≤ 1000000) :
    Calls Tryz.prog 24 #[.slice (some ⟨g, 0, none⟩) n cap, .string sep] w fun e w' => e = .returned (.string (joinS xs sep)) ∧ Below w.heap.size w w' := by
  have hx : xs.length = n := by have := ho.1; simpa [strsV] using this
  subst hx
  obtain ⟨_, hr⟩ := ho
  rcases hr with ⟨hv, _⟩ | ⟨g', cap', cur, hv, hg, hw, h1, h2, h3, h4⟩
  · simp at hv
  · simp only [Value.slice.injEq, Option.some.injEq, Addr.mk.injEq, and_true, true_and] at hv
    obtain ⟨rfl, rfl⟩ := hv
    refine Tryz.strings_Join g 0 cap xs sep w ?_ (Array.getElem?_eq_some_iff.1 hw).1 (by omega) h1 ?_
    · intro j x hj
      rw [Nat.zero_add, cell_of_row w g j cur 9 (0, 0) hw]
      have hjl : j < xs.length := by
        rcases Nat.lt_or_ge j xs.length with h | h
        · exact h
        · rw [List.getElem?_eq_none h] at hj; simp at hj
      have : (cur.toList.take (xs.length * 1))[j]? = some (.string x) := by rw [h4]; simp [strsV, hj]
      rw [List.getElem?_take] at this
      simp only [Nat.mul_one, if_pos hjl] at this
      simpa using this
    · refine Nat.le_trans (join_le _ 100000 _ ?_) ?_
      · intro x hx
        obtain ⟨y, hy, rfl⟩ := List.mem_map.1 hx
        rw [len_size]
        exact hB y hy
      · rw [List.length_map, len_size]
        refine Nat.le_trans (Nat.mul_le_mul hn (show sep.size + 100000 ≤ 100100 by omega)) (by omega)

set_option maxRecDepth 100000 in
set_option maxHeartbeats 1000000 in
theorem keys_calls (a : Option Addr) (n c : Nat) (l : List ByteArray) (w : World) (hl : StrsIn w ⟨a, n, c⟩ l) (hn1 : n ≤ 20) (hs : ∀ k ∈ l, k.size ≤ 1000) :
    Calls Tryz.prog 48 #[.slice a n c] w fun e w' => e = .returned (.string (keysW l)) ∧ Below w.heap.size w w' := by
  have HN : Hid (n = l.length) := Lib.hid hl.1
  have HSZ := Lib.hid hs
  have HL := Lib.hid hl
  clear hl hs
  go_enter Tryz.func48, Tryz.ntmps48
  go_wp2_with fail
  go_loopw [3, 8] (fun v i wr => ∃ k : Nat, k ≤ n ∧ i = .int .i64 k ∧ Hid (wr.ownsRow w.heap.size 9 1 v k (strsV ((l.take k).map hexS))) ∧ Hid (Below w.heap.size w wr)) (fun _ i _ => n - (intOf i).toNat)
  case atStart => exact ⟨0, Nat.zero_le _, rfl, Lib.hid ⟨rfl, .inl ⟨rfl, rfl⟩⟩, Lib.hid (Below.refl _ _)⟩
  case round =>
    obtain ⟨k, hk, rfl, HO, HW⟩ := hrel
    by_cases hlt : k < n
    · have d1 : decide ((k : Int) < (n : Int)) = true := by simp; omega
      have hki : (k : Int) < (n : Int) := by omega
      have hkl : k < l.length := by rw [← HN.out]; exact hlt
      obtain ⟨b, off, rfl, hcell⟩ := (HL.out.below HW.out).at k hkl
      have hms := HSZ.out _ (List.getElem_mem hkl)
      have HS : Hid (strsV ((l.take (k + 1)).map hexS) = strsV ((l.take k).map hexS) ++ [.string (hexS l[k])]) := Lib.hid (by rw [List.take_succ_eq_append_getElem hkl, List.map_append]; unfold strsV; rw [List.map_append]; rfl)
      generalize l[k] = m at *
      clear hkl
      go_wp2_with fail
      refine (hex_calls m _ (by omega)).mono ?_
      rintro e w3 ⟨rfl, hb3⟩
      have HO3 := Lib.hid (own_below HO.out (hb3.mono (Nat.le_refl _)))
      have HW3 := Lib.hid (HW.out.trans (hb3.mono HW.out.size))
      clear hb3
      go_wp2_with (at_builtin; refine app_str w.heap.size (by rfl) _ _ (by rfl) u3 (.string (hexS m)) k _ (by rfl) (by rfl) (by rfl) HO3.out HW3.out HW3.out.size (by omega) ?_; intro g cap w4 hown4 hbel4; have HO4 := Lib.hid hown4; have HW4 := Lib.hid hbel4; clear hown4 hbel4)
      go_roundw
      case rel => exact ⟨k + 1, by omega, by go_num, Lib.hid (by rw [HS.out]; exact HO4.out), HW4⟩
      case measure => simp [intOf]; omega
    · have d1 : decide ((k : Int) < (n : Int)) = false := by simp; omega
      have HK := Lib.hid (show k = n by omega)
      have hk0 := HO.out.2
      rcases hk0 with ⟨rfl, h0⟩ | ⟨g, cap, cur, rfl, _⟩
      · have h0' : ((k : Int) = 0) = True := by simp [h0]
        go_wp2_with fail
        go_ret
        refine ⟨ret_text ?_, HW.out⟩
        have : l = [] := List.eq_nil_of_length_eq_zero (by rw [← HN.out, ← HK.out, h0])
        rw [this]; rfl
      · by_cases h0 : k = 0
        · have d0 : ((k : Int) == 0) = true := by simp [h0]
          go_wp2_with fail
          go_ret
          refine ⟨ret_text ?_, HW.out⟩
          have : l = [] := List.eq_nil_of_length_eq_zero (by rw [← HN.out, ← HK.out, h0])
          rw [this]; rfl
        · have d0 : ((k : Int) == 0) = false := by simp; omega
          have HO2 := HO.out
          rw [HK.out, HN.out, List.take_length] at HO2
          have HJ := Lib.hid (join_own g _ cap _ ⟨#[44]⟩ wr w.heap.size HO2 (by
            intro x hx
            obtain ⟨y, hy, rfl⟩ := List.mem_map.1 hx
            have := HSZ.out y hy
            have h2 := hexW_le y.data.toList
            rw [len_size] at h2
            show (hexW y.data.toList).length ≤ _
            omega) (by decide) (by rw [← HN.out]; omega))
          rw [← HN.out, ← HK.out] at HJ
          clear HO2
          go_wp2_with fail
          refine HJ.out.mono ?_
          rintro e w3 ⟨rfl, hb3⟩
          have HW3 := Lib.hid (HW.out.trans (hb3.mono HW.out.size))
          clear hb3
          go_wp2_with fail
          go_ret
          refine ⟨ret_text ?_, HW3.out⟩
          unfold keysW
          rw [if_neg (fun hl => h0 (by rw [HK.out, HN.out, hl]; rfl))]


/-! ### truths' word -/
/-- a slice of truths, read in a world -/
def BoolsIn (w : World) (s : Sl) (l : List Bool) : Prop :=
  s.n = l.length ∧ (l = [] ∨ ∃ b off, s.a = some ⟨b, off, none⟩ ∧ ∀ i (h : i < l.length), w.cell? ⟨b, off + i, none⟩ = some (.bool l[i]))
theorem BoolsIn.below {w w' : World} {s : Sl} {l : List Bool} (h : BoolsIn w s l) (hb : Below w.heap.size w w') : BoolsIn w' s l := by
  obtain ⟨h0, h⟩ := h
  refine ⟨h0, ?_⟩
  rcases h with h | ⟨b, off, hv, hc⟩
  · exact .inl h
  · exact .inr ⟨b, off, hv, fun i hi => (hb.cell (cell_lt (hc i hi))).trans (hc i hi)⟩
theorem BoolsIn.at {w : World} {a : Option Addr} {n c : Nat} {l : List Bool} (h : BoolsIn w ⟨a, n, c⟩ l) (k : Nat) (hk : k < l.length) :
    ∃ b off, a = some ⟨b, off, none⟩ ∧ w.cell? ⟨b, off + k, none⟩ = some (.bool l[k]) := by
  rcases h.2 with rfl | ⟨b, off, hv, hc⟩
  · simp at hk
  · exact ⟨b, off, hv, hc k hk⟩
def bitB (b : Bool) : UInt8 := if b then 49 else 48
def bitsW (l : List Bool) : ByteArray := if l = [] then ⟨#[46]⟩ else ⟨⟨l.map bitB⟩⟩
theorem by8_snoc (l : List UInt8) (b : UInt8) : by8 (l ++ [b]) = by8 l ++ [.int .u8 b.toNat] := by simp [by8]

set_option maxRecDepth 100000 in
set_option maxHeartbeats 1000000 in
theorem bits_calls (a : Option Addr) (n c : Nat) (l : List Bool) (w : World) (hl : BoolsIn w ⟨a, n, c⟩ l) (hn1 : n ≤ 1000) :
    Calls Tryz.prog 49 #[.slice a n c] w fun e w' => e = .returned (.string (bitsW l)) ∧ Below w.heap.size w w' := by
  have HN : Hid (n = l.length) := Lib.hid hl.1
  have HL := Lib.hid hl
  clear hl
  go_enter Tryz.func49, Tryz.ntmps49
  go_wp2_with fail
  go_loopw [3, 9] (fun v i wr => ∃ k : Nat, k ≤ n ∧ i = .int .i64 k ∧ Hid (wr.ownsRow w.heap.size 5 1 v k (by8 ((l.take k).map bitB))) ∧ Hid (Below w.heap.size w wr)) (fun _ i _ => n - (intOf i).toNat)
  case atStart => exact ⟨0, Nat.zero_le _, rfl, Lib.hid ⟨rfl, .inl ⟨rfl, rfl⟩⟩, Lib.hid (Below.refl _ _)⟩
  case round =>
    obtain ⟨k, hk, rfl, HO, HW⟩ := hrel
    by_cases hlt : k < n
    · have d1 : decide ((k : Int) < (n : Int)) = true := by simp; omega
      have hki : (k : Int) < (n : Int) := by omega
      have hkl : k < l.length := by rw [← HN.out]; exact hlt
      obtain ⟨b, off, rfl, hcell⟩ := (HL.out.below HW.out).at k hkl
      have HS : Hid (by8 ((l.take (k + 1)).map bitB) = by8 ((l.take k).map bitB) ++ [.int .u8 (bitB l[k]).toNat]) := Lib.hid (by rw [List.take_succ_eq_append_getElem hkl, List.map_append]; exact by8_snoc _ _)
      generalize l[k] = m at *
      clear hkl
      cases m
      · go_wp2_with (at_builtin; refine app_byte w.heap.size (by rfl) _ _ (by rfl) u3 (.int .u8 48) k _ (by rfl) (by rfl) (by rfl) HO.out HW.out HW.out.size (by omega) ?_; intro g cap w4 hown4 hbel4; have HO4 := Lib.hid hown4; have HW4 := Lib.hid hbel4; clear hown4 hbel4)
        go_roundw
        case rel => exact ⟨k + 1, by omega, by go_num, Lib.hid (by rw [HS.out]; exact HO4.out), HW4⟩
        case measure => simp [intOf]; omega
      · go_wp2_with (at_builtin; refine app_byte w.heap.size (by rfl) _ _ (by rfl) u3 (.int .u8 49) k _ (by rfl) (by rfl) (by rfl) HO.out HW.out HW.out.size (by omega) ?_; intro g cap w4 hown4 hbel4; have HO4 := Lib.hid hown4; have HW4 := Lib.hid hbel4; clear hown4 hbel4)
        go_roundw
        case rel => exact ⟨k + 1, by omega, by go_num, Lib.hid (by rw [HS.out]; exact HO4.out), HW4⟩
        case measure => simp [intOf]; omega
    · have d1 : decide ((k : Int) < (n : Int)) = false := by simp; omega
      have HK := Lib.hid (show k = n by omega)
      have hk0 := HO.out.2
      rcases hk0 with ⟨rfl, h0⟩ | ⟨g, cap, cur, rfl, _⟩
      · have h0' : ((k : Int) = 0) = True := by simp [h0]
        go_wp2_with fail
        go_ret
        refine ⟨ret_text ?_, HW.out⟩
        have : l = [] := List.eq_nil_of_length_eq_zero (by rw [← HN.out, ← HK.out, h0])
        rw [this]; rfl
      · by_cases h0 : k = 0
        · have d0 : ((k : Int) == 0) = true := by simp [h0]
          go_wp2_with fail
          go_ret
          refine ⟨ret_text ?_, HW.out⟩
          have : l = [] := List.eq_nil_of_length_eq_zero (by rw [← HN.out, ← HK.out, h0])
          rw [this]; rfl
        · have d0 : ((k : Int) == 0) = false := by simp; omega
          have HO2 := HO.out
          rw [HK.out, HN.out, List.take_length] at HO2
          rw [← HN.out, ← HK.out] at HO2
          have hcv := conv_bytes HO2 (by omega)
          clear HO2
          go_wp2_with fail
          go_ret
          refine ⟨ret_text ?_, HW.out⟩
          unfold bitsW
          rw [if_neg (fun hl => h0 (by rw [HK.out, HN.out, hl]; rfl))]

end Go.Proofs.YtphilpjglajffaaGreatDoor.Lin
