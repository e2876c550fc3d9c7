/- Walks: tag.New, Filter.Text. -/
import Derived.Test.YtphilpjglajffaaGreatDoorEg
import Derived.Test.YtphilpjglajffaaGreatDoorEd
import Derived.Test.YtphilpjglajffaaGreatDoorIter
namespace Go.Proofs.YtphilpjglajffaaGreatDoor.Lin
open Go.RowKit Go.Maps Go.Sort Go.Shelf

def sortL (zs : List ByteArray) : List (List UInt8) := (zs.map bytesL).mergeSort (fun x y => decide (x ≤ y))
theorem enc_map (zs : List ByteArray) : (zs.map bytesL).map encStr = strsV zs := by
  rw [List.map_map]; rfl

theorem sorted_calls (a : Option Addr) (n c : Nat) (zs : List ByteArray) (w : World) (B : Nat) (hB : B < w.heap.size) (hm : w.cell? ⟨B, 0, none⟩ = some (.slice a n c)) (hl : StrsIn w ⟨a, n, c⟩ zs) (hn1 : n ≤ 100) :
    Calls Tryz.prog 66 #[.func (.func 90) #[] #[.pointer (some ⟨B, 0, none⟩)]] w fun e w' => ∃ v, e = .returned v ∧ w'.ownsRow w.heap.size 9 1 v zs.length ((sortL zs).map encStr) ∧ RowKit.Below w.heap.size w w' := by
  have hlen : (zs.map bytesL).length = n := by rw [List.length_map]; exact hl.1.symm
  have h := sorted_in Tryz.sorted66 1 (Tryz.sorts66 _) (enters_of Tryz.func89 (by kernel_rfl) rfl) 90 #[.pointer (some ⟨B, 0, none⟩)] (enters_of Tryz.func90 (by kernel_rfl) rfl) (zs.map bytesL) n (by unfold maxLen; omega) (by omega) (by omega) w
    (fun l J W hW hJ hY h0 => values_gives a n c zs w B hB hm hl hn1 1 l J W hW hJ hY h0)
  refine (callsIn_wide.1 h).mono ?_
  rintro e w' ⟨v, rfl, hrow, _, hb⟩
  refine ⟨v, rfl, ?_, hb⟩
  rw [List.length_map] at hrow
  exact hrow

theorem sortL_length (zs : List ByteArray) : (sortL zs).length = zs.length := by simp [sortL]

/-- how many differ -/
def kinds (zs : List ByteArray) : Nat := (Lib.compact (sortL zs)).length

theorem kinds_nil : kinds [] = 0 := by simp [kinds, sortL, Lib.compact, Lib.compactUpTo]

theorem compact_calls (v : Value) (zs : List ByteArray) (w : World) (base : Nat) (ho : w.ownsRow base 9 1 v zs.length ((sortL zs).map encStr)) (hn1 : zs.length ≤ 100) (hbase : base ≤ w.heap.size) :
    Calls Tryz.prog 68 #[v] w fun e w' => ∃ a c, e = .returned (.slice a (kinds zs) c) ∧ RowKit.Below base w w' := by
  rcases ho.2 with ⟨rfl, hz⟩ | ⟨gb, cap, cur, rfl, hb0, hgb, r1, r2, r3, r4⟩
  · have hzs : zs = [] := List.eq_nil_of_length_eq_zero hz
    subst hzs
    refine (Tryz.slices_Compact_string_empty none 0 w).mono ?_
    rintro e w' ⟨rfl, rfl⟩
    exact ⟨none, 0, by rw [kinds_nil], RowKit.Below.refl _ _⟩
  · have hH : Holds encStr w gb 0 (sortL zs).toArray := holds_of_block hgb (by rw [sortL_length]; simpa using r4)
    have hC := Tryz.slices_Compact_string gb 0 cap (sortL zs) w hH (by rw [sortL_length]; omega) (by rw [sortL_length]; exact r1)
    rw [sortL_length] at hC
    refine hC.mono ?_
    rintro e w' ⟨rfl, q, rfl⟩
    refine ⟨_, _, rfl, ?_⟩
    have hg := grownBy_sorted (w := w) (g := gb) (n := q) (os := #[]) (Lib.compact (sortL zs) ++ List.replicate (zs.length - (Lib.compact (sortL zs)).length) []).toArray
    rw [grow_empty] at hg
    exact (RowKit.Below.refl base w).grown hg hbase (fun j hj => by cases hj; exact hb0)

theorem clone_calls (a : Option Addr) (n c : Nat) (zs : List ByteArray) (w : World) (hl : StrsIn w ⟨a, n, c⟩ zs) (hnone : a = none → n = 0) (hn1 : n ≤ 100) :
    Calls Tryz.prog 69 #[.slice a n c] w fun e w' => ∃ v, e = .returned v ∧ w'.ownsRow w.heap.size 9 1 v zs.length (strsV zs) ∧ RowKit.Below w.heap.size w w' := by
  obtain ⟨h0, h⟩ := hl
  change n = zs.length at h0
  cases a with
  | none =>
    have hn0 := hnone rfl
    have hzs : zs = [] := List.eq_nil_of_length_eq_zero (by omega)
    subst hzs
    refine (Tryz.slices_Clone_string_nil n c w).mono ?_
    rintro e w' ⟨rfl, rfl⟩
    exact ⟨_, rfl, ⟨rfl, .inl ⟨rfl, rfl⟩⟩, RowKit.Below.refl _ _⟩
  | some ad =>
    rcases h with hzs | ⟨b, off, hv, hc⟩
    · subst hzs
      have hn0 : n = 0 := h0
      subst hn0
      refine (Tryz.slices_Clone_string_zero ad c w).mono ?_
      rintro e w' ⟨v, rfl, ho, _, hb⟩
      exact ⟨_, rfl, ho, hb⟩
    · injection hv with hv
      subst hv
      refine (Tryz.slices_Clone_string b off n c zs w (by omega) (by omega) (fun j hj => ?_)).mono ?_
      · rw [hc j hj]; simp [List.getD, hj]
      · rintro e w' ⟨v, rfl, ho, _, hb⟩
        rw [h0, List.take_length] at ho
        exact ⟨_, rfl, ho, hb⟩

/-- what a filter's text is -/
def filterW (zs : List ByteArray) : ByteArray := if zs = [] then ⟨#[42]⟩ else joinS zs ⟨#[32, 124, 124, 32]⟩
/-- a filter, in a world -/
def FilterAt (w : World) (p : Value) (zs : List ByteArray) : Prop := ∃ B base v, p = .pointer (some ⟨B, 0, none⟩) ∧ w.cell? ⟨B, 0, none⟩ = some v ∧ w.ownsRow base 9 1 v zs.length (strsV zs)

set_option maxRecDepth 100000 in
theorem text_calls (p : Value) (zs : List ByteArray) (w : World) (hf : FilterAt w p zs) (hn1 : zs.length ≤ 100) (hs : ∀ k ∈ zs, k.size ≤ 1000) :
    Calls Tryz.prog 50 #[p] w fun e w' => e = .returned (.string (filterW zs)) ∧ RowKit.Below w.heap.size w w' := by
  obtain ⟨B, base, v, rfl, hc, ho⟩ := hf
  have HO := Lib.hid ho
  have HS := Lib.hid hs
  rcases ho.2 with ⟨rfl, hz⟩ | ⟨gb, cap, cur, rfl, _⟩
  · have hzs : zs = [] := List.eq_nil_of_length_eq_zero hz
    subst hzs
    clear ho hs hz hn1
    go_enter Tryz.func50, Tryz.ntmps50
    go_wp2_with fail
    go_ret
    exact ⟨rfl, RowKit.Below.refl _ _⟩
  · clear ho hs
    by_cases hz : zs.length = 0
    · have hzs : zs = [] := List.eq_nil_of_length_eq_zero hz
      subst hzs
      clear hn1 hz
      go_enter Tryz.func50, Tryz.ntmps50
      go_wp2_with fail
      go_ret
      exact ⟨rfl, RowKit.Below.refl _ _⟩
    · have d0 : ((zs.length : Int) == 0) = false := by rw [beq_eq_false_iff_ne]; omega
      have HJ := Lib.hid (join_own gb zs.length cap zs ⟨#[32, 124, 124, 32]⟩ w base HO.out (fun x hx => by have := HS.out x hx; omega) (by decide) (by omega))
      have HE : Hid (filterW zs = joinS zs ⟨#[32, 124, 124, 32]⟩) := Lib.hid (by unfold filterW; rw [if_neg (fun h => hz (by rw [h]; rfl))])
      generalize zs.length = n at *
      go_enter Tryz.func50, Tryz.ntmps50
      go_wp2_with fail
      refine HJ.out.mono ?_
      rintro e w3 ⟨rfl, hb3⟩
      have HB := Lib.hid hb3
      clear hb3
      go_wp2_with fail
      go_ret
      exact ⟨ret_text HE.out.symm, HB.out⟩


theorem values_calls (a : Option Addr) (n c : Nat) (w : World) :
    Calls Tryz.prog 67 #[.slice a n c] w fun e w' => e = .returned (.func (.func 90) #[] #[.pointer (some ⟨w.heap.size, 0, none⟩)]) ∧ w' = w.alloc (.cells #[.slice a n c] 22) := by
  go_enter Tryz.func67, Tryz.ntmps67
  go_wp2_with fail
  go_ret
  exact ⟨rfl, rfl⟩

/-- what is told of a filter of tags -/
def newE (zs : List ByteArray) : Int := if zs.all plainB = false then 11 else if kinds zs < zs.length then 10 else if 4 < zs.length then 6 else 0

set_option maxRecDepth 100000 in
set_option maxHeartbeats 1000000 in
theorem new_calls (a : Option Addr) (n c : Nat) (zs : List ByteArray) (w : World) (hl : StrsIn w ⟨a, n, c⟩ zs) (hnone : a = none → n = 0) (hn1 : n ≤ 100) :
    Calls Tryz.prog 41 #[.slice a n c] w fun e w' => ∃ p, e = .returned (.tuple #[p, .int .i64 (newE zs)]) ∧ (newE zs = 0 → FilterAt w' p zs) ∧ RowKit.Below w.heap.size w w' := by
  have HN : Hid (n = zs.length) := Lib.hid hl.1
  have HL := Lib.hid hl
  have HNO := Lib.hid hnone
  have hA := all_calls a n c zs w hl (by omega)
  have HA := Lib.hid hA
  have HE : Hid (newE zs = if zs.all plainB = false then 11 else if kinds zs < zs.length then 10 else if 4 < zs.length then 6 else 0) := Lib.hid rfl
  have hn2 : Hid (n ≤ 100) := Lib.hid hn1
  clear hl hnone hA
  go_enter Tryz.func41, Tryz.ntmps41
  go_wp2_with fail
  refine HA.out.mono ?_
  rintro e w1 ⟨rfl, hb1⟩
  have HB1 := Lib.hid hb1
  clear hb1
  cases hall : zs.all plainB
  · have HX : Hid (newE zs = 11) := Lib.hid (by rw [HE.out, if_pos hall])
    go_wp2_with fail
    go_ret2
    exact ⟨.pointer none, by rw [HX.out]; rfl, fun h => by rw [HX.out] at h; exact absurd h (by decide), HB1.out⟩
  · go_wp2_with fail
    refine (values_calls a n c _).mono ?_
    rintro e w2 ⟨rfl, rfl⟩
    have hs1 := sorted_calls a n c zs (w1.alloc (.cells #[.slice a n c] 22)) w1.heap.size (by simp) (by simp) (HL.out.below (HB1.out.alloc HB1.out.size _)) hn2.out
    have HS1 := Lib.hid hs1
    have HB2 : Hid (RowKit.Below w.heap.size w (w1.alloc (.cells #[.slice a n c] 22))) := Lib.hid (HB1.out.alloc HB1.out.size _)
    clear hs1
    generalize w1.alloc (.cells #[.slice a n c] 22) = w2 at *
    go_wp2_with fail
    refine HS1.out.mono ?_
    rintro e w3 ⟨v, rfl, hown, hb3⟩
    have HO := Lib.hid hown
    have HB3 := Lib.hid (HB2.out.trans (hb3.mono HB2.out.size))
    have HC := Lib.hid (compact_calls v zs w3 w2.heap.size hown (by have := hn2.out; have := HN.out; omega) hb3.size)
    have HB23 := Lib.hid HB2.out.size
    clear hown hb3
    go_wp2_with fail
    refine HC.out.mono ?_
    rintro e w4 ⟨a4, c4, rfl, hb4⟩
    have HB4 := Lib.hid (HB3.out.trans (hb4.mono HB23.out))
    clear hb4
    by_cases hk : kinds zs < zs.length
    · have HX : Hid (newE zs = 10) := Lib.hid (by rw [HE.out, if_neg (by rw [hall]; decide), if_pos hk])
      have d1 : kinds zs < n := by rw [HN.out]; exact hk
      go_wp2_with fail
      go_ret2
      exact ⟨.pointer none, by rw [HX.out]; rfl, fun h => by rw [HX.out] at h; exact absurd h (by decide), HB4.out⟩
    · have d1 : ¬ kinds zs < n := by rw [HN.out]; exact hk
      by_cases h4 : 4 < zs.length
      · have HX : Hid (newE zs = 6) := Lib.hid (by rw [HE.out, if_neg (by rw [hall]; decide), if_neg hk, if_pos h4])
        have d2 : decide ((4 : Int) < (n : Int)) = true := by have := HN.out; simp; omega
        go_wp2_with fail
        go_ret2
        exact ⟨.pointer none, by rw [HX.out]; rfl, fun h => by rw [HX.out] at h; exact absurd h (by decide), HB4.out⟩
      · have HX : Hid (newE zs = 0) := Lib.hid (by rw [HE.out, if_neg (by rw [hall]; decide), if_neg hk, if_neg h4])
        have d2 : decide ((4 : Int) < (n : Int)) = false := by have := HN.out; simp; omega
        have HCL := Lib.hid (clone_calls a n c zs w4 (HL.out.below HB4.out) HNO.out hn2.out)
        go_wp2_with fail
        refine HCL.out.mono ?_
        rintro e w5 ⟨v5, rfl, ho5, hb5⟩
        have HB5 := Lib.hid (HB4.out.trans (hb5.mono HB4.out.size))
        have HO5 := Lib.hid ho5
        clear ho5 hb5
        have hbx : RowKit.Below w5.heap.size w5 (w5.alloc (.cells #[v5] 90)) := (RowKit.Below.refl _ _).alloc (Nat.le_refl _) _
        have HF : Hid (FilterAt (w5.alloc (.cells #[v5] 90)) (.pointer (some ⟨w5.heap.size, 0, none⟩)) zs) := Lib.hid ⟨w5.heap.size, w4.heap.size, v5, rfl, by simp, HO5.out.alloc _⟩
        have HB6 := Lib.hid (HB5.out.trans (hbx.mono HB5.out.size))
        clear hbx
        rcases HO5.out.2 with ⟨rfl, _⟩ | ⟨g5, cap5, cur5, rfl, _⟩
        · go_wp2_with fail
          go_ret2
          exact ⟨.pointer (some ⟨w5.heap.size, 0, none⟩), by rw [HX.out]; rfl, fun _ => HF.out, HB6.out⟩
        · go_wp2_with fail
          go_ret2
          exact ⟨.pointer (some ⟨w5.heap.size, 0, none⟩), by rw [HX.out]; rfl, fun _ => HF.out, HB6.out⟩

end Go.Proofs.YtphilpjglajffaaGreatDoor.Lin
