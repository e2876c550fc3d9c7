/- Walk of lines.Unhex. -/
import Derived.Test.YtphilpjglajffaaGreatDoorLw2
import Derived.Test.YtphilpjglajffaaGreatDoorShelf
namespace Go.Proofs.YtphilpjglajffaaGreatDoor.Lin
open Go.RowKit

/-! ### plain: reading goes pair by pair -/
theorem dec_append : ∀ (n : Nat) (p q : List UInt8), p.length = 2 * n → dec (p ++ q) = match dec p, dec q with | some a, some b => some (a ++ b) | _, _ => none
  | 0, p, q, h => by
    have := List.eq_nil_of_length_eq_zero h
    subst this
    show dec q = match some [], dec q with | some a, some b => some (a ++ b) | _, _ => none
    cases dec q <;> rfl
  | n + 1, p, q, h => by
    match p, h with
    | [], h => simp at h
    | [_], h => simp at h; omega
    | a :: c :: r, h =>
      have ih := dec_append n r q (by simp at h; omega)
      show dec (a :: c :: (r ++ q)) = _
      rw [dec, dec, ih]
      cases val a <;> cases val c <;> cases dec r <;> cases dec q <;> rfl

theorem take_two (l : List UInt8) (k : Nat) (h : 2 * k + 1 < l.length) : l.take (2 * (k + 1)) = l.take (2 * k) ++ [l[2 * k], l[2 * k + 1]] := by
  rw [show 2 * (k + 1) = 2 * k + 1 + 1 from by omega, List.take_succ_eq_append_getElem h, List.take_succ_eq_append_getElem (by omega), List.append_assoc]
  rfl

theorem dec_step (l : List UInt8) (k : Nat) (b : List UInt8) (x y : Nat) (h : 2 * k + 1 < l.length) (hb : dec (l.take (2 * k)) = some b) (hx : val l[2 * k] = some x) (hy : val l[2 * k + 1] = some y) :
    dec (l.take (2 * (k + 1))) = some (b ++ [UInt8.ofNat (x * 16 + y)]) := by
  rw [take_two l k h, dec_append k _ _ (by rw [List.length_take]; omega), hb]
  simp [dec, hx, hy]

theorem dec_stop (l : List UInt8) (k : Nat) (h : 2 * k + 1 < l.length) (hn : val l[2 * k] = none ∨ val l[2 * k + 1] = none) : dec l = none := by
  conv => lhs; rw [← List.take_append_drop (2 * k) l]
  rw [dec_append k _ _ (by rw [List.length_take]; omega)]
  have hd : l.drop (2 * k) = l[2 * k] :: l[2 * k + 1] :: l.drop (2 * k + 2) := by
    rw [List.drop_eq_getElem_cons (by omega : 2 * k < l.length), List.drop_eq_getElem_cons h]
  rw [hd, dec]
  rcases hn with hn | hn
  · rw [hn]; cases dec (l.take (2 * k)) <;> rfl
  · rw [hn]; cases val l[2 * k] <;> cases dec (l.take (2 * k)) <;> rfl

theorem dec_end (l : List UInt8) (k : Nat) (b : List UInt8) (h1 : 2 * k ≤ l.length) (h2 : ¬ 2 * k + 1 < l.length) (hb : dec (l.take (2 * k)) = some b) : dec l = some b := by
  conv => lhs; rw [← List.take_append_drop (2 * k) l]
  rw [dec_append k _ _ (by rw [List.length_take]; omega), hb]
  have : (l.drop (2 * k)).length ≤ 1 := by rw [List.length_drop]; omega
  match hq : l.drop (2 * k), this with
  | [], _ => simp [dec]
  | [_], _ => simp [dec]

/-! ### a letter's place -/
def vi (b : UInt8) : Int := match val b with | some n => (n : Int) | none => -1

theorem vi_index (b : UInt8) : Lib.indexByte [48, 49, 50, 51, 52, 53, 54, 55, 56, 57, 97, 98, 99, 100, 101, 102] b = vi b := by
  refine u8_cases (p := fun b => Lib.indexByte [48, 49, 50, 51, 52, 53, 54, 55, 56, 57, 97, 98, 99, 100, 101, 102] b = vi b) ?_ b
  decide +kernel

theorem idx_calls (b : UInt8) (w : World) :
    Calls Tryz.prog 36 #[.string ⟨#[48, 49, 50, 51, 52, 53, 54, 55, 56, 57, 97, 98, 99, 100, 101, 102]⟩, .int .u8 (b.toNat : Int)] w fun e w' => e = .returned (.int .i64 (vi b)) ∧ w = w' := by
  refine (Tryz.strings_IndexByte _ _ w).mono ?_
  rintro e w' ⟨rfl, rfl⟩
  refine ⟨?_, rfl⟩
  have : ((b.toNat : Int)).toNat.toUInt8 = b := by simp
  rw [this, ← vi_index]

theorem sidx_run (s : ByteArray) (x : Int) (n : Nat) (hx : x = n) (h : n < s.size) (W : World) : (Instr.index 9 (.string s) (.int .i64 x)).run Tryz.prog W = .ok (.int .u8 ((s[n]'h).toNat : Int)) W := by
  subst hx
  have h0 : (0 : Int) ≤ (n : Int) := by omega
  have hsk : s[n]? = some (s[n]'h) := getElem?_pos s n h
  simp only [Instr.index, asIntOf, Sem.run_bind, Sem.run_pure, Result.andThen_ok, run_underlying Tryz.underlying9, if_pos h0, Int.toNat_natCast, hsk]

theorem wpList_app {ops : Array Oper} {rest : List Oper} {o : Oper} {a : Act} {Q : Exit → Act → World → Prop} {w0 W : World} (base : Nat) (hgd : o.guard = none) (s x : Operand)
    (ho : o.op = .call { callee := .builtin .append, args := #[s, x], argTypes := #[61, 61] }) (v : Value) (n m : Nat) (xs ys : List Value) (hs : a.eval s = v) (hx : a.eval x = .slice (some ⟨W.heap.size, 0, none⟩) m m) (hys : ys.length = m) (hm : 0 < m)
    (h1 : ∀ u ∈ ys, u.oneCell' = true) (HO : W.ownsRow base 5 1 v n xs) (HB : Below base w0 W) (hbase : base ≤ W.heap.size) (hl : n + m ≤ 1099511627776)
    (h : ∀ g cap w1, w1.ownsRow base 5 1 (.slice (some ⟨g, 0, none⟩) (n + m) cap) (n + m) (xs ++ ys) → Below base w0 w1 → wpList Tryz.prog ops Q rest (a.put o.dst (.slice (some ⟨g, 0, none⟩) (n + m) cap)) w1) :
    wpList Tryz.prog ops Q (o :: rest) a (W.alloc (.cells ys.toArray 5)) := by
  obtain ⟨i0, hi, hzz⟩ := Option.map_eq_some_iff.1 byteInfo
  simp only [Prod.mk.injEq] at hzz
  obtain ⟨hz0, hz1, hz2⟩ := hzz
  refine wpList_append_lies (P := Tryz.prog) (W.alloc (.cells ys.toArray 5)) hgd s x 61 ho base 5 i0 _ 1 1 Tryz.underlying61 hi hz0 hz1 hz2 rfl (by omega) v n xs hs (HO.alloc _) ⟨W.heap.size, 0, none⟩ m m ys hx (by omega)
    (by simpa using World.news_of_block (cs := ys.toArray) (t := 5) (fr := (0, 0)) (heap_alloc_new W (.cells ys.toArray 5))) h1 hm (by simp only [maxLen]; omega) (by omega) (by simp; omega) _ rfl ?_
  intro g cap w1 hown hg _ _
  exact h g cap w1 hown ((HB.alloc hbase _).grown hg (by simp; omega) (own_base HO))

theorem own_below {w w' : World} {base : Nat} {e : TypeId} {size n : Nat} {v : Value} {xs : List Value} (h : w.ownsRow base e size v n xs) (hb : Below w.heap.size w w') : w'.ownsRow base e size v n xs := by
  obtain ⟨h1, h2⟩ := h
  refine ⟨h1, ?_⟩
  rcases h2 with h2 | ⟨g, cap, cur, rfl, hg, hw, r⟩
  · exact .inl h2
  · exact .inr ⟨g, cap, cur, rfl, hg, (hb.block g (Array.getElem?_eq_some_iff.1 hw).1).trans hw, r⟩

theorem or_nibbles (x y : Nat) (hx : x < 16) (hy : y < 16) : Go.bits .or .i64 ((x : Int) * 16) (y : Int) % 256 = ((UInt8.ofNat (x * 16 + y)).toNat : Int) := by
  have key : ∀ a b : Fin 16, Go.bits .or .i64 ((a.val : Int) * 16) (b.val : Int) % 256 = ((UInt8.ofNat (a.val * 16 + b.val)).toNat : Int) := by decide +kernel
  exact key ⟨x, hx⟩ ⟨y, hy⟩

set_option maxRecDepth 100000 in
set_option maxHeartbeats 16000000 in
theorem unhex_calls (s : ByteArray) (w : World) (hs : s.size ≤ 1048576) :
    Calls Tryz.prog 14 #[.string s] w fun e w' => e = .returned (.tuple #[.string ⟨⟨(unhexW s.data.toList).1⟩⟩, .bool (unhexW s.data.toList).2]) ∧ Below w.heap.size w w' := by
  go_enter Tryz.func14, Tryz.ntmps14
  by_cases hd : s.data.toList = [46]
  · have hdot : (s.toList == [46]) = true := by rw [ByteArray.toList_eq, hd]; rfl
    go_wp2
    go_ret2
    exact ⟨by rw [hd]; rfl, Below.refl _ _⟩
  · have hdot : (s.toList == [46]) = false := by rw [ByteArray.toList_eq]; simpa using hd
    have hlen : s.data.toList.length = s.size := by simp
    go_wp2
    go_loopw [4, 5] (fun v i w1 => ∃ (k : Nat) (b : List UInt8), 2 * k ≤ s.size ∧ i = .int .i64 (2 * (k : Int) + 1) ∧ dec (s.data.toList.take (2 * k)) = some b ∧ b.length = k ∧ w1.ownsRow w.heap.size 5 1 v k (by8 b) ∧ Below w.heap.size w w1) (fun _ i _ => s.size + 1 - (intOf i).toNat)
    case atStart => exact ⟨0, [], Nat.zero_le _, rfl, rfl, rfl, ⟨rfl, .inl ⟨rfl, rfl⟩⟩, Below.refl _ _⟩
    case round =>
      obtain ⟨k, b, hk, rfl, hdec, hbl, hown, hbel⟩ := hrel
      by_cases hlt : 2 * k + 1 < s.size
      · have hlt' : (2 * (k : Int) + 1) < (s.size : Int) := by omega
        have wr0 : IntKind.i64.wrap (2 * (k : Int)) = 2 * (k : Int) := by rw [IntKind.wrap_i64]; omega
        have i0 := sidx_run s (2 * (k : Int)) (2 * k) (by omega) (by omega)
        have i0' := sidx_run s (2 * (k : Int) + 1 - 1) (2 * k) (by omega) (by omega)
        have i1 := sidx_run s (2 * (k : Int) + 1) (2 * k + 1) (by omega) hlt
        have c1 := idx_calls (s[2 * k]'(by omega))
        have c2 := idx_calls (s[2 * k + 1]'hlt)
        have hl1 : 2 * k + 1 < s.data.toList.length := by omega
        cases hx : val (s[2 * k]'(by omega)) with
        | none =>
          have hst : unhexW s.data.toList = ([], false) := by
            unfold unhexW; rw [if_neg hd, dec_stop s.data.toList k hl1 (.inl hx)]
          rw [show vi (s[2 * k]'(by omega)) = -1 from by unfold vi; rw [hx]] at c1
          go_wp2
          go_region_with (first
            | (go_at_call 36; refine (c1 _).mono ?_; rintro e w' ⟨rfl, rfl⟩)
            | (go_at_call 36; refine (c2 _).mono ?_; rintro e w' ⟨rfl, rfl⟩))
          all_goals go_wp2
          all_goals go_ret2
          all_goals exact ⟨by rw [hst]; rfl, hbel.drew⟩
        | some x =>
          rw [show vi (s[2 * k]'(by omega)) = (x : Int) from by unfold vi; rw [hx]] at c1
          have hx16 := (dig_val _ x hx).2
          have hx0 : decide ((x : Int) < 0) = false := decide_eq_false (by omega)
          cases hy : val (s[2 * k + 1]'hlt) with
          | none =>
            have hst : unhexW s.data.toList = ([], false) := by
              unfold unhexW; rw [if_neg hd, dec_stop s.data.toList k hl1 (.inr hy)]
            rw [show vi (s[2 * k + 1]'hlt) = -1 from by unfold vi; rw [hy]] at c2
            go_wp2
            go_region_with (first
              | (go_at_call 36; refine (c1 _).mono ?_; rintro e w' ⟨rfl, rfl⟩)
              | (go_at_call 36; refine (c2 _).mono ?_; rintro e w' ⟨rfl, rfl⟩))
            all_goals go_wp2
            all_goals go_ret2
            all_goals exact ⟨by rw [hst]; rfl, hbel.drew⟩
          | some y =>
            rw [show vi (s[2 * k + 1]'hlt) = (y : Int) from by unfold vi; rw [hy]] at c2
            have hy16 := (dig_val _ y hy).2
            have hy0 : decide ((y : Int) < 0) = false := decide_eq_false (by omega)
            go_wp2
            go_region_with (first
              | (go_at_call 36; refine (c1 _).mono ?_; rintro e w' ⟨rfl, rfl⟩)
              | (go_at_call 36; refine (c2 _).mono ?_; rintro e w' ⟨rfl, rfl⟩))
            all_goals (have HO : wr.drew.ownsRow w.heap.size 5 1 u4 k (by8 b) := hown.drew)
            all_goals (have HB : Below w.heap.size w wr.drew := hbel.drew)
            all_goals go_wp2_with (at_builtin; refine wpList_app w.heap.size (by rfl) _ _ (by rfl) u4 k 1 _ [_] (by rfl) (by rfl) (by rfl) (by decide) (by simp [Value.oneCell']) HO HB HB.size (by omega) ?_; intro g cap w1 hown1 hbel1)
            all_goals refine ⟨⟨k + 1, b ++ [UInt8.ofNat (x * 16 + y)], by omega, by congr 1 <;> omega, dec_step s.data.toList k b x y hl1 hdec hx hy, by simp [hbl], ?_, hbel1⟩, by simp [intOf]; omega⟩
            all_goals (rw [or_nibbles x y hx16 hy16] at hown1; have hby : by8 (b ++ [UInt8.ofNat (x * 16 + y)]) = by8 b ++ [.int .u8 ((UInt8.ofNat (x * 16 + y)).toNat : Int)] := by simp [by8])
            all_goals (rw [hby]; exact hown1)
      · have hlt' : ¬ (2 * (k : Int) + 1) < (s.size : Int) := by omega
        have hend := dec_end s.data.toList k b (by omega) (by omega) hdec
        rcases hown.2 with ⟨rfl, hk0⟩ | ⟨gb, cap, cur, rfl, _⟩
        · have hb0 : b = [] := List.eq_nil_of_length_eq_zero (by omega)
          have hst : unhexW s.data.toList = ([], false) := by
            unfold unhexW; rw [if_neg hd, hend]; simp [hb0]
          go_wp2
          go_ret2
          exact ⟨by first | rfl | (rw [hst]; rfl), hbel⟩
        · rcases Nat.eq_zero_or_pos k with hk0 | hk0
          · have hb0 : b = [] := List.eq_nil_of_length_eq_zero (by omega)
            have hst : unhexW s.data.toList = ([], false) := by
              unfold unhexW; rw [if_neg hd, hend]; simp [hb0]
            have hkz : ((k : Int) == 0) = true := by rw [hk0]; rfl
            go_wp2
            go_ret2
            exact ⟨by first | rfl | (rw [hst]; rfl), hbel⟩
          · have hkz : ((k : Int) == 0) = false := by simp; omega
            have hcv := conv_bytes hown hk0
            have hbs : (⟨⟨b⟩⟩ : ByteArray).size ≤ 1048576 := by show b.length ≤ 1048576; omega
            by_cases heq : hexW b = s.data.toList
            · have hst : unhexW s.data.toList = (b, true) := by
                unfold unhexW; rw [if_neg hd, hend]
                have : ¬ (b = [] ∨ hexW b ≠ s.data.toList) := by
                  rintro (h | h)
                  · rw [h] at hbl; simp at hbl; omega
                  · exact h heq
                simp only [if_neg this]
              have hne : (hexW b == s.toList) = true := by rw [ByteArray.toList_eq]; simpa using heq
              go_wp2_with (go_at_call 13; refine (hex_calls ⟨⟨b⟩⟩ _ hbs).mono ?_; rintro e w' ⟨rfl, hb2⟩; have hcv2 := conv_bytes (own_below hown hb2) hk0)
              go_ret2
              exact ⟨by first | rfl | (rw [hst]; rfl), hbel.trans (hb2.mono hbel.size)⟩
            · have hst : unhexW s.data.toList = ([], false) := by
                unfold unhexW; rw [if_neg hd, hend]
                simp only [if_pos (Or.inr heq : b = [] ∨ hexW b ≠ s.data.toList)]
              have hne : (hexW b == s.toList) = false := by rw [ByteArray.toList_eq]; simpa using heq
              go_wp2_with (go_at_call 13; refine (hex_calls ⟨⟨b⟩⟩ _ hbs).mono ?_; rintro e w' ⟨rfl, hb2⟩; have hcv2 := conv_bytes (own_below hown hb2) hk0)
              go_ret2
              exact ⟨by first | rfl | (rw [hst]; rfl), hbel.trans (hb2.mono hbel.size)⟩
end Go.Proofs.YtphilpjglajffaaGreatDoor.Lin
