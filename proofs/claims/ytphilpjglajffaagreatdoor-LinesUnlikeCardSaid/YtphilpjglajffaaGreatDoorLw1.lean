/- Walks of lines.Hex. -/
import Derived.Test.YtphilpjglajffaaGreatDoorProg
import Derived.Test.YtphilpjglajffaaGreatDoorLinPlain
import Derived.WalkKit
import Derived.Laws.BitsAllLaws
import Derived.Lib.Hide
import Derived.Deep.QuietTactic
import Derived.BigQuiet
import Derived.StillTailTactics
import Derived.Deep.AppendLies
import Derived.Deep.RegionLaw
import Derived.BigRegion
import Derived.Lib.ConvBytes
import Derived.Laws.BytesArg
namespace Go.Proofs.YtphilpjglajffaaGreatDoor.Lin
open Go.RowKit

def by8 (l : List UInt8) : List Value := l.map fun b => Value.int .u8 b.toNat


theorem dig_at (n : Nat) (h : n < 16) : (⟨#[48, 49, 50, 51, 52, 53, 54, 55, 56, 57, 97, 98, 99, 100, 101, 102]⟩ : ByteArray)[n]? = some (dig n) := by
  have : n = 0 ∨ n = 1 ∨ n = 2 ∨ n = 3 ∨ n = 4 ∨ n = 5 ∨ n = 6 ∨ n = 7 ∨ n = 8 ∨ n = 9 ∨ n = 10 ∨ n = 11 ∨ n = 12 ∨ n = 13 ∨ n = 14 ∨ n = 15 := by omega
  rcases this with rfl | rfl | rfl | rfl | rfl | rfl | rfl | rfl | rfl | rfl | rfl | rfl | rfl | rfl | rfl | rfl <;> rfl

theorem byte_at (s : ByteArray) (k : Nat) (h : k < s.data.toList.length) : s[k]? = some s.data.toList[k] := by
  have h2 : k < s.size := by simpa using h
  rw [getElem?_pos s k h2]; rfl

theorem own_base {w : World} {base : Nat} {e : TypeId} {size n : Nat} {v : Value} {xs : List Value} (h : w.ownsRow base e size v n xs) (k : Nat) (hk : v.ownBlock = some k) : base ≤ k := by
  rcases h.2 with ⟨rfl, _⟩ | ⟨g, cap, cur, rfl, hb, _⟩
  · simp [Value.ownBlock] at hk
  · simp [Value.ownBlock] at hk; omega

theorem dig_int (x : Int) (n : Nat) (hx : x = n) (h : n < 16) (hp : x.toNat < (⟨#[48, 49, 50, 51, 52, 53, 54, 55, 56, 57, 97, 98, 99, 100, 101, 102]⟩ : ByteArray).size) :
    ((⟨#[48, 49, 50, 51, 52, 53, 54, 55, 56, 57, 97, 98, 99, 100, 101, 102]⟩ : ByteArray)[x.toNat]'hp) = dig n := by
  subst hx
  have := dig_at n h
  rw [getElem?_pos _ n (by simpa using hp)] at this
  exact Option.some.inj this

theorem hex_step {W : World} {base : Nat} {v : Value} (s : ByteArray) (k : Nat) (hlt : k < s.size) (x y : Int) (hx : x = (dig ((s[k]'hlt).toNat / 16)).toNat) (hy : y = (dig ((s[k]'hlt).toNat % 16)).toNat)
    (h : W.ownsRow base 5 1 v (2 * k + 2) (by8 (hexL (s.data.toList.take k)) ++ [.int .u8 x, .int .u8 y])) : W.ownsRow base 5 1 v (2 * (k + 1)) (by8 (hexL (s.data.toList.take (k + 1)))) := by
  have hl : k < s.data.toList.length := by simpa using hlt
  rw [hexL_take _ k hl]
  have e : by8 (hexL (s.data.toList.take k) ++ hexB s.data.toList[k]) = by8 (hexL (s.data.toList.take k)) ++ [.int .u8 x, .int .u8 y] := by
    rw [hx, hy]
    simp only [by8, List.map_append, hexB, List.map_cons, List.map_nil]
    rfl
  rw [e]
  exact h

theorem and15 (x : Nat) (h : x < 256) : Go.bits .and .u8 (x : Int) 15 = ((x % 16 : Nat) : Int) := by
  have := u8_and_nat x 15 h (by omega)
  rw [show x &&& 15 = x % 16 from Nat.and_two_pow_sub_one_eq_mod x 4] at this
  exact this

theorem by8_ints (l : List UInt8) : by8 l = (l.map fun b => (b.toNat : Int)).map (Value.int .u8) := by simp [by8]

theorem bytes_back (l : List UInt8) : (⟨ByteArray.empty.data ++ (List.map (fun n : Int => UInt8.ofNat n.toNat) (l.map fun b => (b.toNat : Int))).toArray⟩ : ByteArray) = ⟨⟨l⟩⟩ := by
  apply ByteArray.ext
  apply Array.ext'
  have hid : List.map ((fun n : Int => UInt8.ofNat n.toNat) ∘ fun b : UInt8 => ((b.toNat : Nat) : Int)) l = l := by
    conv => rhs; rw [← List.map_id l]
    exact List.map_congr_left fun b _ => by simp
  simp only [ByteArray.empty, ByteArray.emptyWithCapacity, List.map_map, hid]
  simp
  rfl

theorem conv_bytes {W : World} {base : Nat} {v : Value} {n : Nat} {l : List UInt8} (h : W.ownsRow base 5 1 v n (by8 l)) (hn : 0 < n) : (convert 61 9 v).run Tryz.prog W = .ok (.string ⟨⟨l⟩⟩) W := by
  have hl : l.length = n := by have := h.1; simpa [by8] using this
  rcases h.2 with ⟨_, h0⟩ | ⟨g, cap, cur, rfl, _, hg, _, _, _, hcur⟩
  · omega
  · have hload : (loadCells ⟨g, 0, none⟩ n).run Tryz.prog W = .ok (by8 l).toArray W := by
      have := run_loadCells_list (P := Tryz.prog) W ⟨g, 0, none⟩ (by8 l) (fun j v hv => by
        have hadd : (⟨g, 0, none⟩ : Addr).add j = ⟨g, j, none⟩ := by unfold Addr.add; split <;> simp_all
        rw [hadd, cell_of_row W g j cur 5 (0, 0) hg]
        rw [← hcur, List.getElem?_take] at hv
        split at hv
        · simpa using hv
        · simp at hv)
      rw [show (by8 l).length = n from by simp [by8, hl]] at this
      exact this
    have h1 := run_convert_bytes_string (P := Tryz.prog) W 61 9 5 (some ⟨g, 0, none⟩) n cap Tryz.underlying61 Tryz.underlying5 Tryz.underlying9
    have h2 := run_bytesToString (P := Tryz.prog) W ⟨g, 0, none⟩ n cap (l.map fun b => (b.toNat : Int)) (by rw [← by8_ints]; exact hload)
    rw [h1, h2, foldl_push_bytes]
    rw [bytes_back l]

theorem byteInfo : (Tryz.prog.info? 5).map (fun i => (i.zero, i.size, i.bytes)) = some (some (.int .u8 0), 1, 1) := by kernel_rfl

/-- bytes appended, at a step of a region that draws: they stand in a block of their own -/
theorem step_app {ops : Array Oper} {o : Oper} {a : Act} {Q : Exit → Act → World → Prop} {K : Act → World → Prop} {E : Prop} {w0 W : World} (base : Nat) (hgd : o.guard = none) (s x : Operand)
    (ho : o.op = .call { callee := .builtin .append, args := #[s, x], argTypes := #[61, 61] }) (v : Value) (n m : Nat) (xs ys : List Value) (hs : a.eval s = v) (hx : a.eval x = .slice (some ⟨W.heap.size, 0, none⟩) m m) (hys : ys.length = m) (hm : 0 < m)
    (h1 : ∀ u ∈ ys, u.oneCell' = true) (HO : W.ownsRow base 5 1 v n xs) (HB : Below base w0 W) (hbase : base ≤ W.heap.size) (hl : n + m ≤ 1099511627776)
    (h : ∀ g cap w1, w1.ownsRow base 5 1 (.slice (some ⟨g, 0, none⟩) (n + m) cap) (n + m) (xs ++ ys) → Below base w0 w1 → K (a.put o.dst (.slice (some ⟨g, 0, none⟩) (n + m) cap)) w1) :
    if Region.wanted o (yielded ops a.tmps) = true then Oper.wp Tryz.prog o a (W.alloc (.cells ys.toArray 5)) K Q else E := by
  obtain ⟨i0, hi, hzz⟩ := Option.map_eq_some_iff.1 byteInfo
  simp only [Prod.mk.injEq] at hzz
  obtain ⟨hz0, hz1, hz2⟩ := hzz
  have hw : Region.wanted o (yielded ops a.tmps) = true := by simp [Region.wanted, hgd]
  rw [if_pos hw]
  refine wp_append_lies (P := Tryz.prog) (W.alloc (.cells ys.toArray 5)) s x 61 ho base 5 i0 _ 1 1 Tryz.underlying61 hi hz0 hz1 hz2 rfl (by omega) v n xs hs (HO.alloc _) ⟨W.heap.size, 0, none⟩ m m ys hx (by omega)
    (by simpa using World.news_of_block (cs := ys.toArray) (t := 5) (fr := (0, 0)) (heap_alloc_new W (.cells ys.toArray 5))) h1 hm (by simp only [maxLen]; omega) (by omega) (by simp; omega) _ rfl ?_
  intro g cap w1 hown hg _ _
  exact h g cap w1 hown ((HB.alloc hbase _).grown hg (by simp; omega) (own_base HO))

set_option maxRecDepth 100000 in
set_option maxHeartbeats 1000000 in
theorem hex_calls (s : ByteArray) (w : World) (hs : s.size ≤ 1048576) :
    Calls Tryz.prog 13 #[.string s] w fun e w' => e = .returned (.string ⟨⟨hexW s.data.toList⟩⟩) ∧ Below w.heap.size w w' := by
  go_enter Tryz.func13, Tryz.ntmps13
  by_cases h0 : s.data.toList = []
  · have hne : s.toList.isEmpty = true := by rw [ByteArray.toList_eq, h0]; rfl
    go_wp2
    go_ret
    exact ⟨by rw [h0]; rfl, Below.refl _ _⟩
  · have hne : s.toList.isEmpty = false := by rw [ByteArray.toList_eq]; simpa using h0
    have hlen : s.data.toList.length = s.size := by simp
    go_wp2
    go_loopw [3, 9] (fun v i w1 => ∃ k : Nat, k ≤ s.size ∧ i = .int .i64 k ∧ w1.ownsRow w.heap.size 5 1 v (2 * k) (by8 (hexL (s.data.toList.take k))) ∧ Below w.heap.size w w1) (fun _ i _ => s.size - (intOf i).toNat)
    case atStart => exact ⟨0, Nat.zero_le _, rfl, ⟨rfl, .inl ⟨rfl, rfl⟩⟩, Below.refl _ _⟩
    case round =>
      obtain ⟨k, hk, rfl, hown, hbel⟩ := hrel
      by_cases hlt : k < s.size
      · have hx : (s[k]'hlt).toNat < 256 := (s[k]'hlt).toNat_lt
        have q1 : (0 : Int) ≤ ((s[k]'hlt).toNat : Int) / 16 ∧ ((s[k]'hlt).toNat : Int) / 16 < 16 := by omega
        have ha : Go.bits .and .u8 ((s[k]'hlt).toNat : Int) 15 = (((s[k]'hlt).toNat % 16 : Nat) : Int) := and15 _ hx
        have q2 : (0 : Int) ≤ Go.bits .and .u8 ((s[k]'hlt).toNat : Int) 15 ∧ Go.bits .and .u8 ((s[k]'hlt).toNat : Int) 15 < 16 := by rw [ha]; omega
        have HA := Lib.hid ha
        clear ha
        go_wp2
        have HO : wr.drew.ownsRow w.heap.size 5 1 u3 (2 * k) (by8 (hexL (s.data.toList.take k))) := hown.drew
        have HB : Below w.heap.size w wr.drew := hbel.drew
        go_region_law ((refine step_app w.heap.size (by rfl) _ _ (by rfl) u3 (2 * k) 2 _ [_, _] (by rfl) (by rfl) (by rfl) (by decide) (by simp [Value.oneCell']) HO HB HB.size (by omega) ?_; intro g cap w1 hown1 hbel1))
        all_goals go_wp2
        all_goals go_roundw
        all_goals first
          | (refine ⟨k + 1, by omega, by simp, hex_step s k hlt _ _ ?_ ?_ hown1, hbel1⟩
             · rw [dig_int _ ((s[k]'hlt).toNat / 16) (by omega) (by omega)]
             · rw [dig_int _ ((s[k]'hlt).toNat % 16) HA.out (by omega)])
          | (simp [intOf]; omega)
      · have hke : k = s.size := by omega
        have hpos : 0 < s.size := by
          rcases Nat.eq_zero_or_pos s.size with h1 | h1
          · exact absurd (List.eq_nil_of_length_eq_zero (by rw [hlen]; exact h1)) h0
          · exact h1
        have hcv := conv_bytes hown (by omega)
        go_wp2
        go_ret
        refine ⟨?_, hbel⟩
        rw [hke, ← hlen, List.take_length]
        unfold hexW
        rw [if_neg h0]
        rfl
end Go.Proofs.YtphilpjglajffaaGreatDoor.Lin
