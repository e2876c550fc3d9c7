/- Walks of crc.Sum and of the law's own example (awake). -/
import Derived.Test.YtdhokdjmobmpoaaWk5
namespace Go.Proofs.Ytdhokdjmobmpoaa.Crc
open Go.RowKit

/-- a slice of texts, read in a world -/
def StrsIn (w : World) (v : Value) (ss : List ByteArray) : Prop :=
  ss.length ≤ 140737488355328 ∧ (∀ s ∈ ss, s.size ≤ 140737488355328) ∧
  ((∃ a cap, v = .slice a 0 cap ∧ ss = []) ∨
   ∃ b off cap, v = .slice (some ⟨b, off, none⟩) ss.length cap ∧ ∀ i (h : i < ss.length), w.cell? ⟨b, off + i, none⟩ = some (.string ss[i]))

theorem cell_lt {w : World} {a : Addr} {v : Value} (h : w.cell? a = some v) : a.block < w.heap.size := by
  unfold World.cell? at h
  rcases Nat.lt_or_ge a.block w.heap.size with h' | h'
  · exact h'
  · rw [Array.getElem?_eq_none h'] at h; simp at h

theorem StrsIn.below {w w' : World} {v : Value} {ss : List ByteArray} (h : StrsIn w v ss) (hb : Below w.heap.size w w') : StrsIn w' v ss := by
  obtain ⟨h1, h2, h3⟩ := h
  refine ⟨h1, h2, ?_⟩
  rcases h3 with h3 | ⟨b, off, cap, hv, hc⟩
  · exact Or.inl h3
  · exact Or.inr ⟨b, off, cap, hv, fun i hi => by rw [hb.cell (cell_lt (hc i hi))]; exact hc i hi⟩

theorem StrsIn.drewN {w : World} {v : Value} {ss : List ByteArray} (h : StrsIn w v ss) (n : Nat) : StrsIn (w.drewN n) v ss := h

theorem Tab.lt {w : World} {B : Nat} (h : Tab w B) : B < w.heap.size := cell_lt (h 0 0 (by omega) (by omega))

theorem Tab.below {w w' : World} {B : Nat} (h : Tab w B) (hb : Below w.heap.size w w') : Tab w' B :=
  fun k b hk h2 => by rw [hb.cell (cell_lt (h k b hk h2))]; exact h k b hk h2

theorem Tab.alloc {w : World} {B : Nat} (h : Tab w B) (o : Obj) : Tab (w.alloc o) B := h.below ((Below.refl _ _).alloc (Nat.le_refl _) _)

theorem below_drewN {w w' : World} (h : ∃ n, w' = w.drewN n) (B : Nat) : Below B w w' := by
  obtain ⟨n, rfl⟩ := h
  exact ⟨rfl, rfl, rfl, Nat.le_refl _, fun _ _ => rfl⟩

theorem below_drewN' (w : World) (n B : Nat) : Below B w (w.drewN n) := ⟨rfl, rfl, rfl, Nat.le_refl _, fun _ _ => rfl⟩

theorem sum_any (B : Nat) (v : Value) (ss : List ByteArray) (w : World) (ht : Tab w B) (hs : StrsIn w v ss) :
    Calls Try.prog 12 #[.pointer (some ⟨B, 0, none⟩), v] w fun e w' => e = .returned (.int .i64 ((sum (cat ss) : Nat) : Int)) ∧ ∃ n, w' = w.drewN n := by
  obtain ⟨h1, h2, ⟨a, cap, rfl, rfl⟩ | ⟨b, off, cap, rfl, hc⟩⟩ := hs
  · exact (sum_nil B cap a w).mono fun _ _ ⟨h, h'⟩ => ⟨h, 0, h'⟩
  · exact sum_some B b off cap ss w ht h1 h2 hc

set_option maxRecDepth 100000 in
set_option maxHeartbeats 400000 in
theorem sum_top (v : Value) (ss : List ByteArray) (w : World) (hs : StrsIn w v ss) :
    Calls Try.prog 11 #[v] w fun e w' => e = .returned (.int .i64 ((sum (cat ss) : Nat) : Int)) ∧ Below w.heap.size w w' := by
  have HS := Lib.hid hs
  clear hs
  go_enter Try.func11, Try.ntmps11
  go_wp2_with fail
  refine (new_calls _).mono ?_
  rintro e w1 ⟨B, hB, rfl, ht, hb⟩
  have HT := Lib.hid ht
  have HB := Lib.hid hb
  clear ht hb
  go_wp2_with fail
  refine (sum_any B v ss _ HT.out (HS.out.below HB.out)).mono ?_
  rintro e w2 ⟨rfl, hd⟩
  have HD := Lib.hid hd
  clear hd
  go_wp2
  go_ret
  exact ⟨rfl, HB.out.trans (below_drewN HD.out _)⟩

theorem cell_new (w : World) (cs : Array Value) (T : TypeId) (i : Nat) : (w.alloc (.cells cs T)).cell? ⟨w.heap.size, i, none⟩ = cs[i]? := by simp

theorem strs_new1 (w : World) (s : ByteArray) (h : s.size ≤ 140737488355328) :
    StrsIn (w.alloc (.cells #[.string s] 9)) (.slice (some ⟨w.heap.size, 0, none⟩) 1 1) [s] := by
  refine ⟨by simp, by simpa using h, Or.inr ⟨_, 0, 1, rfl, fun i hi => ?_⟩⟩
  rw [Nat.zero_add, cell_new]
  match i, hi with
  | 0, _ => rfl

theorem strs_new2 (w : World) (s t : ByteArray) (h : s.size ≤ 140737488355328) (h' : t.size ≤ 140737488355328) :
    StrsIn (w.alloc (.cells #[.string s, .string t] 9)) (.slice (some ⟨w.heap.size, 0, none⟩) 2 2) [s, t] := by
  refine ⟨by simp, by simp [h, h'], Or.inr ⟨_, 0, 2, rfl, fun i hi => ?_⟩⟩
  rw [Nat.zero_add, cell_new]
  match i, hi with
  | 0, _ => rfl
  | 1, _ => rfl

theorem sum9 : sum (cat [⟨#[49, 50, 51, 52, 53, 54, 55, 56, 57]⟩]) = 3421780262 := by decide +kernel
theorem sum54 : sum (cat [⟨#[49, 50, 51, 52, 53]⟩, ⟨#[54, 55, 56, 57]⟩]) = 3421780262 := by decide +kernel

theorem alloc_below {w w' : World} {o : Obj} (h : Below (w.alloc o).heap.size (w.alloc o) w') : Below w.heap.size w w' :=
  ((Below.refl _ _).alloc (Nat.le_refl _) _).trans (h.mono (by simp))

set_option maxRecDepth 100000 in
set_option maxHeartbeats 400000 in
theorem awake_calls (w : World) :
    Calls Try.prog 8 #[] w fun e w' => e = .returned (.bool true) ∧ Below w.heap.size w w' := by
  go_enter Try.func8, Try.ntmps8
  go_wp2_with fail
  refine (sum_top _ _ _ (strs_new1 w _ (by decide))).mono ?_
  rintro e w1 ⟨rfl, hb⟩
  rw [sum9]
  have HB := Lib.hid (alloc_below hb)
  clear hb
  go_wp2_with fail
  refine (new_calls _).mono ?_
  rintro e w2 ⟨B, hB, rfl, ht, hb⟩
  have HT := Lib.hid ht
  have HB2 := Lib.hid hb
  clear ht hb
  go_wp2_with fail
  refine (sum_any B _ _ _ (HT.out.alloc _) (strs_new2 w2 _ _ (by decide) (by decide))).mono ?_
  rintro e w3 ⟨rfl, hd⟩
  rw [sum54]
  have HB3 := Lib.hid (alloc_below (below_drewN hd _))
  clear hd
  go_wp2
  go_ret
  exact ⟨rfl, HB.out.trans ((HB2.out.mono HB.out.size).trans (HB3.out.mono (Nat.le_trans HB.out.size HB2.out.size)))⟩

end Go.Proofs.Ytdhokdjmobmpoaa.Crc
