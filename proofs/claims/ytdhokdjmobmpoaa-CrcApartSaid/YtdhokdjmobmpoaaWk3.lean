/- Walk of crc.New: it makes four tables, whatever the memory. -/
import Derived.Test.YtdhokdjmobmpoaaWk2
import Derived.StillTailTactics
import Derived.Below
import Derived.Laws.Rows
import Derived.Deep.RegionHeld3
namespace Go.Proofs.Ytdhokdjmobmpoaa.Crc
open Go.RowKit

/-- block B is a row of cells, known whole -/
def Blk (w : World) (B : Nat) (T : TypeId) (cs : Array Value) : Prop := w.heap[B]? = some (.cells cs T (0, 0))

theorem Blk.cell {w : World} {B T i : Nat} {cs : Array Value} {v : Value} (h : Blk w B T cs) (hv : cs[i]? = some v) : w.cell? ⟨B, i, none⟩ = some v := by
  unfold Blk at h
  unfold World.cell?
  simp [h, hv]

theorem Blk.free {w : World} {B T i : Nat} {cs : Array Value} (h : Blk w B T cs) : w.frozen? ⟨B, i, none⟩ = false := by
  unfold Blk at h
  unfold World.frozen?
  simp [h]

theorem Blk.set {w : World} {B T i : Nat} {cs : Array Value} (h : Blk w B T cs) (v : Value) : Blk (w.setCell ⟨B, i, none⟩ v) B T (cs.setIfInBounds i v) := by
  unfold Blk at h ⊢
  exact heap_setCell_same w B i cs T v h

theorem Blk.new (w : World) (T : TypeId) (cs : Array Value) : Blk (w.alloc (.cells cs T)) w.heap.size T cs := by
  show (w.heap.push _)[w.heap.size]? = _
  rw [Array.getElem?_push, if_pos rfl]

theorem Blk.drew {w : World} {B T : Nat} {cs : Array Value} (h : Blk w B T cs) : Blk w.drew B T cs := h

theorem Blk.lt {w : World} {B T : Nat} {cs : Array Value} (h : Blk w B T cs) : B < w.heap.size := by
  unfold Blk at h
  exact (Array.getElem?_eq_some_iff.1 h).1

/-- the cells of a table, the first n of them filled -/
structure Filled (cs : Array Value) (n : Nat) : Prop where
  size : cs.size = 1024
  done : ∀ i, i < n → cs[i]? = some (.int .u32 ((tb (i / 256) (i % 256) : Nat) : Int))
  more : ∀ i : Nat, i < 1024 → ∃ m : Int, cs[i]? = some (.int .u32 m)

def zeros : Array Value := Array.replicate 1024 (.int .u32 0)

theorem Filled.zero : Filled zeros 0 := by
  refine ⟨by simp [zeros], fun i h => absurd h (by omega), fun i h => ⟨0, ?_⟩⟩
  unfold zeros
  rw [Array.getElem?_replicate, if_pos h]

theorem Filled.step {cs : Array Value} {n : Nat} (h : Filled cs n) (hn : n < 1024) {v : Int} (hv : v = ((tb (n / 256) (n % 256) : Nat) : Int)) : Filled (cs.setIfInBounds n (.int .u32 v)) (n + 1) := by
  subst hv
  refine ⟨by rw [Array.size_setIfInBounds]; exact h.size, fun i hi => ?_, fun i hi => ?_⟩
  · rw [Array.getElem?_setIfInBounds]
    by_cases e : n = i
    · subst e; rw [if_pos rfl, if_pos (by rw [h.size]; omega)]
    · rw [if_neg e]; exact h.done i (by omega)
  · rw [Array.getElem?_setIfInBounds]
    by_cases e : n = i
    · subst e; rw [if_pos rfl, if_pos (by rw [h.size]; omega)]; exact ⟨_, rfl⟩
    · rw [if_neg e]; exact h.more i hi

theorem tab_of {w : World} {B T : Nat} {cs : Array Value} (h : Blk w B T cs) (hf : Filled cs 1024) : Tab w B := by
  intro k b hk hb
  refine h.cell ?_
  rw [hf.done (k * 256 + b) (by omega), show (k * 256 + b) / 256 = k from by omega, show (k * 256 + b) % 256 = b from by omega]

theorem zero45 (w : World) : Sem.run Try.prog (zeroValue 45) w = .ok (.agg zeros) w := by kernel_rfl

theorem first_still (n : Int) (b : Nat) (w : World) (hn : n = (b : Int)) (hb : b < 256) :
    Calls Try.prog 18 #[.int .u32 n] w fun e w' => e = .returned (.int .u32 ((sts 8 b : Nat) : Int)) ∧ w' = w := by
  subst hn
  exact (first_calls b w hb).mono fun _ _ ⟨h1, h2⟩ => ⟨h1, h2.symm⟩

set_option maxRecDepth 100000 in
set_option maxHeartbeats 400000 in
theorem new_calls (w : World) :
    Calls Try.prog 10 #[] w fun e w' => ∃ B, w.heap.size ≤ B ∧ e = .returned (.pointer (some ⟨B, 0, none⟩)) ∧ Tab w' B ∧ Below w.heap.size w w' := by
  have hb := zero45
  go_enter Try.func10, Try.ntmps10
  go_wp2
  go_loopw [8] (fun i wr => ∃ k : Nat, k ≤ 256 ∧ i = .int .i64 k ∧ (∃ cs, Blk wr w.heap.size 45 cs ∧ Filled cs k) ∧ Below w.heap.size w wr) (fun i _ => 256 - (intOf i).toNat)
  case atStart =>
    exact ⟨0, by omega, rfl, ⟨zeros, Blk.new _ _ _, Filled.zero⟩, (Below.refl _ _).alloc (Nat.le_refl _) _⟩
  case round =>
    obtain ⟨k, hk, rfl, ⟨cs, hblk, hf⟩, hbel⟩ := hrel
    have HB := Lib.hid hblk
    have HF := Lib.hid hf
    have HL := Lib.hid hbel
    by_cases hlt : k < 256
    · obtain ⟨m, hm⟩ := hf.more k (by omega)
      have hcell := hblk.cell hm
      have hfree := hblk.free (i := k)
      clear hblk hf hm hbel
      go_wp2_with fail
      refine wp_region_still_tail 9 (by kernel_rfl) (by kernel_rfl) ?_
      simp only [List.take_succ_cons, List.take_zero, List.drop_succ_cons, List.drop_zero]
      change wpStill _ _ wr.drew _ _ _
      repeat still_step
      still_call (first_still _ k _ (by rw [IntKind.wrap_u32]; omega) (by omega))
      repeat still_step
      refine wpStill_nil ?_
      go_wp2
      go_roundw
      case rel =>
        have hnext := HF.out.step (n := k) (by omega) (v := ((sts 8 k : Nat) : Int)) (by rw [show k / 256 = 0 from by omega, show k % 256 = k from by omega]; rfl)
        exact ⟨k + 1, by omega, by go_num, ⟨_, (HB.out.set _).drew, hnext⟩, (HL.out.setCell (Nat.le_refl _) _).drew⟩
      case measure => simp [intOf]; omega
    · have HK := Lib.hid (show k = 256 by omega)
      have hge : 256 ≤ k := by omega
      clear hblk hf hbel
      go_wp2
      go_loopw [3] (fun i wr => ∃ j : Nat, j ≤ 3 ∧ i = .int .i64 ((j : Int) + 1) ∧ (∃ cs, Blk wr w.heap.size 45 cs ∧ Filled cs (256 * (j + 1))) ∧ Below w.heap.size w wr) (fun i _ => 4 - (intOf i).toNat)
      case atStart => exact ⟨0, by omega, rfl, ⟨cs, HB.out, by have := HF.out; rw [HK.out] at this; exact this⟩, HL.out⟩
      case round =>
        clear HB HF HL HK
        obtain ⟨j, hj, rfl, ⟨cs, hblk, hf⟩, hbel⟩ := hrel
        have HB := Lib.hid hblk
        have HF := Lib.hid hf
        have HL := Lib.hid hbel
        clear hblk hf hbel
        by_cases hj3 : j < 3
        · have d3 : decide ((j : Int) + 1 < 4) = true := by simp; omega
          go_wp2
          obtain ⟨wo, rfl⟩ : ∃ wo : World, wo = wr := ⟨_, rfl⟩
          go_loopw [25] (fun i wr => ∃ k : Nat, k ≤ 256 ∧ i = .int .i64 k ∧ (∃ cs, Blk wr w.heap.size 45 cs ∧ Filled cs ((j + 1) * 256 + k)) ∧ Below w.heap.size w wr) (fun i _ => 256 - (intOf i).toNat)
          case atStart => exact ⟨0, by omega, rfl, ⟨cs, HB.out, by rw [Nat.add_zero, Nat.mul_comm]; exact HF.out⟩, HL.out⟩
          case round =>
            clear HB HF HL
            obtain ⟨k, hk, rfl, ⟨cs, hblk, hf⟩, hbel⟩ := hrel
            have HB := Lib.hid hblk
            have HF := Lib.hid hf
            have HL := Lib.hid hbel
            by_cases hlt : k < 256
            · have h1 := hf.done (j * 256 + k) (by omega)
              rw [show (j * 256 + k) / 256 = j from by omega, show (j * 256 + k) % 256 = k from by omega] at h1
              have hv := tb_lt j k hlt
              have hs := tb_succ j k
              generalize tb j k = v at *
              have h2 := hf.done (v % 256) (by omega)
              rw [show v % 256 / 256 = 0 from by omega, show v % 256 % 256 = v % 256 from by omega] at h2
              have hu := tb_lt 0 (v % 256) (by omega)
              have e1 := and255 v hv
              have hp : v % 256 < 256 := by omega
              generalize v % 256 = p at *
              generalize tb 0 p = u at *
              have e2 : Go.bits .xor .u32 (u : Int) ((v : Int) / 256) = ((u ^^^ (v / 256) : Nat) : Int) := u32_xor_nat u (v / 256) hu (by omega)
              rw [← hs] at e2
              have HS := Lib.hid hs
              clear hs
              obtain ⟨m, h3⟩ := hf.more ((j + 1) * 256 + k) (by omega)
              have hcell1 := hblk.cell h1
              have hcell2 := hblk.cell h2
              have hcell3 := hblk.cell h3
              have hfree := hblk.free (i := (j + 1) * 256 + k)
              clear h1 h2 h3 hblk hf hbel
              have q1 : (p : Int) < 256 := by omega
              have q2 : (k : Int) < 256 := by omega
              have q3 : (j : Int) + 1 < 4 := by omega
              have q4 : (0 : Int) ≤ (j : Int) + 1 := by omega
              go_wp2_with fail
              refine wp_region_still_tail 18 (by kernel_rfl) (by kernel_rfl) ?_
              simp only [List.take_succ_cons, List.take_zero, List.drop_succ_cons, List.drop_zero]
              change wpStill _ _ wr.drew _ _ _
              repeat still_step
              refine wpStill_nil ?_
              go_wp2
              go_roundw
              case rel =>
                have hnext := HF.out.step (n := (j + 1) * 256 + k) (by omega) (v := ((tb (j + 1) k : Nat) : Int)) (by rw [show ((j + 1) * 256 + k) / 256 = j + 1 from by omega, show ((j + 1) * 256 + k) % 256 = k from by omega])
                exact ⟨k + 1, by omega, by go_num, ⟨_, (HB.out.set _).drew, hnext⟩, (HL.out.setCell (Nat.le_refl _) _).drew⟩
              case measure => simp [intOf]; omega
            · have HK := Lib.hid (show k = 256 by omega)
              have hge : 256 ≤ k := by omega
              clear hblk hf hbel
              go_wp2
              go_roundw
              case rel => exact ⟨j + 1, by omega, by go_num, ⟨cs, HB.out, by have := HF.out; rw [HK.out, show (j + 1) * 256 + 256 = 256 * (j + 1 + 1) from by omega] at this; exact this⟩, HL.out⟩
              case measure => simp [intOf]; omega
        · obtain rfl : j = 3 := by omega
          go_wp2
          go_ret
          exact ⟨_, Nat.le_refl _, rfl, tab_of HB.out HF.out, HL.out⟩

end Go.Proofs.Ytdhokdjmobmpoaa.Crc
