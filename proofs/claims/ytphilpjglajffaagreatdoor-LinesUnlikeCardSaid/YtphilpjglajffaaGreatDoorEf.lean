/- Walk: an event without what its line tells. -/
import Derived.Test.YtphilpjglajffaaGreatDoorEe
import Derived.WalkSmall
import Derived.Deep.MidRow
import Derived.Laws.NewBlocks
namespace Go.Proofs.YtphilpjglajffaaGreatDoor.Lin
open Go.RowKit

/-- what a letter stands for, taken away -/
def Raw.clear (r : Raw) (c : UInt8) : Raw :=
  if c = 84 then { r with topic := ⟨#[]⟩ } else if c = 71 then { r with group := ⟨#[]⟩ } else if c = 81 then { r with q := 0 } else if c = 78 then { r with n := 0 }
  else if c = 65 then { r with pos := 0 } else if c = 76 then { r with lack := 0 } else if c = 116 then { r with tag := ⟨#[]⟩ } else if c = 107 then { r with ks := ⟨none, 0, 0⟩ }
  else if c = 98 then { r with body := ⟨#[]⟩ } else if c = 120 then { r with key := ⟨#[]⟩ } else if c = 112 then { r with ps := ⟨none, 0, 0⟩ } else if c = 102 then { r with ts := ⟨none, 0, 0⟩ }
  else { r with sync := false }
def Raw.without (r : Raw) (l : List UInt8) : Raw := l.foldl Raw.clear r
theorem without_take (r : Raw) (l : List UInt8) (k : Nat) (h : k < l.length) : r.without (l.take (k + 1)) = (r.without (l.take k)).clear l[k] := by
  unfold Raw.without
  rw [List.take_succ_eq_append_getElem h, List.foldl_append]; rfl

def zeroRaw : Raw := ⟨0, 0, 0, 0, 0, ⟨#[]⟩, ⟨#[]⟩, ⟨#[]⟩, ⟨#[]⟩, ⟨#[]⟩, ⟨none, 0, 0⟩, ⟨none, 0, 0⟩, ⟨none, 0, 0⟩, false⟩
def letters : List UInt8 := [84, 71, 81, 78, 65, 76, 116, 107, 98, 120, 112, 102, 115]
/-- the world in the loop -/
def wdW (w : World) (r : Raw) (s : ByteArray) (k : Nat) : World := ((w.alloc (.cells r.cells.toArray 25)).alloc (.cells zeroRaw.cells.toArray 25)).iter s k

theorem wd_size (w : World) (r : Raw) (s : ByteArray) (k : Nat) : (wdW w r s k).heap.size = w.heap.size + 1 + 1 + 1 := by simp [wdW, World.iter]
theorem cells_size (r : Raw) : r.cells.toArray.size = 14 := rfl
theorem wd_block (w : World) (r : Raw) (s : ByteArray) (k : Nat) : (wdW w r s k).heap[w.heap.size]? = some (.cells r.cells.toArray 25 (0, 0)) := by
  simp only [wdW, World.iter, World.alloc]
  rw [Array.getElem?_push_lt (by simp; omega), Array.getElem_push_lt (by simp), Array.getElem_push_eq]
theorem wd_cell (w : World) (r : Raw) (s : ByteArray) (k j : Nat) : (wdW w r s k).cell? ⟨w.heap.size, j, none⟩ = r.cells.toArray[j]? := cell_of_row _ _ _ _ _ _ (wd_block w r s k)
theorem wd_frozen (w : World) (r : Raw) (s : ByteArray) (k j : Nat) : (wdW w r s k).frozen? ⟨w.heap.size, j, none⟩ = false := by
  simp [World.frozen?, wd_block]
theorem wd_set (w : World) (r r' : Raw) (s : ByteArray) (k i : Nat) (v : Value) (h : r'.cells = r.cells.set i v) : (wdW w r s k).setCell ⟨w.heap.size, i, none⟩ v = wdW w r' s k := by
  unfold wdW
  rw [h]
  simp only [World.iter]
  rw [World.setCell_alloc_past _ _ _ _ (by simp; omega), World.setCell_alloc_past _ _ _ _ (by simp), World.setCell_alloc_at _ _ _ _ _ rfl]
  simp
theorem wd_next (w : World) (r : Raw) (s : ByteArray) (k : Nat) (ty : TypeId) (h : k < s.size) (ha : (s[k]'h).toNat < 128) :
    (Instr.next (.pointer (some ⟨w.heap.size + 1 + 1, 0, none⟩)) true ty).run Tryz.prog (wdW w r s k) = .ok (.tuple #[.bool true, .int .i64 k, .int .i32 (s[k]'h).toNat]) (wdW w r s (k + 1)) := by
  have := run_next_ascii (P := Tryz.prog) ((w.alloc (.cells r.cells.toArray 25)).alloc (.cells zeroRaw.cells.toArray 25)) s k ty h ha
  simpa [wdW] using this
theorem wd_end (w : World) (r : Raw) (s : ByteArray) (k : Nat) (ty : TypeId) (h : ¬ k < s.size) :
    (Instr.next (.pointer (some ⟨w.heap.size + 1 + 1, 0, none⟩)) true ty).run Tryz.prog (wdW w r s k) = .ok (.tuple #[.bool false]) (wdW w r s k) := by
  have := run_next_end (P := Tryz.prog) ((w.alloc (.cells r.cells.toArray 25)).alloc (.cells zeroRaw.cells.toArray 25)) s k ty h
  simpa [wdW] using this
theorem wd_pos (w : World) (r : Raw) (s : ByteArray) (k : Nat) : (wdW w r s k).iterPos (w.heap.size + 1 + 1) = k := by
  refine iterPos_of (s := s) ?_
  have := World.iter_heap ((w.alloc (.cells r.cells.toArray 25)).alloc (.cells zeroRaw.cells.toArray 25)) s k
  simpa [wdW] using this

/-- the world at its end -/
def wdZ (w : World) (r : Raw) (s : ByteArray) (k : Nat) : World := ((w.alloc (.cells r.cells.toArray 25)).alloc (.cells r.cells.toArray 25)).iter s k
def setAll : Array Value → Nat → List Value → Array Value
  | z, _, [] => z
  | z, i, v :: r => setAll (z.setIfInBounds i v) (i + 1) r
theorem fill_at (X : World) (o : Obj) : ∀ (vs : List Value) (z : Array Value) (i : Nat), ((X.alloc (.cells z 25)).alloc o).setCells X.heap.size i vs = (X.alloc (.cells (setAll z i vs) 25)).alloc o
  | [], _, _ => rfl
  | v :: r, z, i => by
    rw [World.setCells, World.setCell_alloc_past _ _ _ _ (by simp), World.setCell_alloc_at _ _ _ _ _ rfl, fill_at X o r]
    rfl
theorem setAll_raw (r : Raw) : setAll zeroRaw.cells.toArray 0 r.cells = r.cells.toArray := by
  unfold Raw.cells
  simp [setAll, zeroRaw]
theorem wd_fill (w : World) (r : Raw) (s : ByteArray) (k : Nat) : (wdW w r s k).setCells (w.heap.size + 1) 0 r.cells = wdZ w r s k := by
  have hs : (w.alloc (.cells r.cells.toArray 25)).heap.size = w.heap.size + 1 := by simp
  unfold wdW wdZ World.iter
  rw [← hs, fill_at, setAll_raw]
theorem wd_range (w : World) (r : Raw) (s : ByteArray) (k : Nat) : (wdW w r s k).rangeAt w.heap.size 0 r.cells := fun j v hj => by
  rw [Nat.zero_add, wd_cell]; simpa using hj
theorem wd_block2 (w : World) (r : Raw) (s : ByteArray) (k : Nat) : (wdW w r s k).heap[w.heap.size + 1]? = some (.cells zeroRaw.cells.toArray 25 (0, 0)) := by
  simp only [wdW, World.iter, World.alloc]
  rw [Array.getElem?_push_lt (by simp)]
  simp [Array.getElem_push]
theorem wd_there (w : World) (r : Raw) (s : ByteArray) (k : Nat) : (wdW w r s k).there (w.heap.size + 1) 0 14 := fun j hj => by
  rw [Nat.zero_add]
  refine ⟨?_, by simp [World.frozen?, wd_block2]⟩
  rw [cell_of_row _ _ _ _ _ _ (wd_block2 w r s k)]
  rw [Array.getElem?_eq_getElem (by exact hj)]; rfl
theorem wdZ_block (w : World) (r : Raw) (s : ByteArray) (k : Nat) : (wdZ w r s k).heap[w.heap.size + 1]? = some (.cells r.cells.toArray 25 (0, 0)) := by
  simp only [wdZ, World.iter, World.alloc]
  rw [Array.getElem?_push_lt (by simp)]
  simp [Array.getElem_push]
theorem wdZ_below (w : World) (r : Raw) (s : ByteArray) (k : Nat) : Below w.heap.size w (wdZ w r s k) :=
  (((Below.refl _ _).alloc (Nat.le_refl _) _).alloc (by simp) _).alloc (by simp; omega) _
theorem raw_one (r : Raw) : r.cells.toArray.all (·.oneCell') = true := by simp [Raw.cells, Value.oneCell']
theorem size25 : (Tryz.prog.info? 25).map (·.size) = some 14 := by kernel_rfl

theorem letter_cases {c : UInt8} (h : c ∈ letters) : c = 84 ∨ c = 71 ∨ c = 81 ∨ c = 78 ∨ c = 65 ∨ c = 76 ∨ c = 116 ∨ c = 107 ∨ c = 98 ∨ c = 120 ∨ c = 112 ∨ c = 102 ∨ c = 115 := by
  simpa [letters] using h
theorem letter_low {c : UInt8} (h : c ∈ letters) : c.toNat < 128 := by
  rcases letter_cases h with h | h | h | h | h | h | h | h | h | h | h | h | h <;> subst h <;> decide

set_option maxRecDepth 100000 in
set_option maxHeartbeats 4000000 in
theorem without_calls (r : Raw) (s : ByteArray) (w : World) (hs : ∀ i, (h : i < s.size) → s[i] ∈ letters) :
    Calls Tryz.prog 22 #[r.val, .string s] w fun e w' => e = .returned (r.without s.data.toList).val ∧ Below w.heap.size w w' := by
  have HS := Lib.hid hs
  clear hs
  unfold Raw.val
  go_enter Tryz.func22, Tryz.ntmps22
  go_wp2_with fail
  go_loopw [6] (fun _ wr => ∃ k, k ≤ s.size ∧ Hid (wr = wdW w (r.without (s.data.toList.take k)) s k)) (fun _ wr => s.size - wr.iterPos (w.heap.size + 1 + 1))
  case atStart => exact ⟨0, Nat.zero_le _, Lib.hid rfl⟩
  case round =>
    obtain ⟨k, hk, HW⟩ := hrel
    have HP : Hid (wr.iterPos (w.heap.size + 1 + 1) = k) := Lib.hid (by rw [HW.out]; exact wd_pos _ _ _ _)
    by_cases hlt : k < s.size
    · have hc := HS.out k hlt
      have HC : Hid (r.without (s.data.toList.take (k + 1)) = (r.without (s.data.toList.take k)).clear (s[k]'hlt)) := Lib.hid (without_take r s.data.toList k (by rw [len_size]; exact hlt))
      have hnx : ∀ ty, (Instr.next (.pointer (some ⟨w.heap.size + 1 + 1, 0, none⟩)) true ty).run Tryz.prog wr = .ok (.tuple #[.bool true, .int .i64 k, .int .i32 (s[k]'hlt).toNat]) (wdW w (r.without (s.data.toList.take k)) s (k + 1)) := fun ty => by rw [HW.out]; exact wd_next _ _ _ _ _ hlt (letter_low hc)
      generalize r.without (s.data.toList.take k) = q at *
      obtain ⟨q', HQ⟩ : ∃ q', Hid (r.without (s.data.toList.take (k + 1)) = q') := ⟨_, Lib.hid rfl⟩
      rw [HQ.out] at HC
      obtain ⟨W, HWW⟩ : ∃ W, Hid (wdW w q s (k + 1) = W) := ⟨_, Lib.hid rfl⟩
      rw [HWW.out] at hnx
      have fz : ∀ j, W.frozen? ⟨w.heap.size, j, none⟩ = false := fun j => by rw [← HWW.out]; exact wd_frozen _ _ _ _ _
      have HF := Lib.hid fz
      have HCL : Hid (∀ j, W.cell? ⟨w.heap.size, j, none⟩ = q.cells.toArray[j]?) := Lib.hid fun j => by rw [← HWW.out]; exact wd_cell _ _ _ _ _
      clear fz
      generalize s[k] = c at *
      rcases letter_cases hc with h | h | h | h | h | h | h | h | h | h | h | h | h
      · subst h
        have f5 := HF.out 5
        have c5 : W.cell? ⟨w.heap.size, 5, none⟩ = some (.string q.topic) := HCL.out 5
        have HE : Hid (W.setCell ⟨w.heap.size, 5, none⟩ (.string ⟨#[]⟩) = wdW w q' s (k + 1)) := Lib.hid (by rw [← HWW.out, HC.out]; exact wd_set w q (q.clear 84) s (k + 1) 5 _ rfl)
        go_wp2_with fail
        refine ⟨⟨k + 1, by omega, Lib.hid (by rw [HE.out, ← HQ.out])⟩, ?_⟩
        rw [HE.out, wd_pos, HP.out]
        omega
      · subst h
        have f5 := HF.out 6
        have c5 : W.cell? ⟨w.heap.size, 6, none⟩ = some (.string q.group) := HCL.out 6
        have HE : Hid (W.setCell ⟨w.heap.size, 6, none⟩ (.string ⟨#[]⟩) = wdW w q' s (k + 1)) := Lib.hid (by rw [← HWW.out, HC.out]; exact wd_set w q (q.clear 71) s (k + 1) 6 _ rfl)
        go_wp2_with fail
        refine ⟨⟨k + 1, by omega, Lib.hid (by rw [HE.out, ← HQ.out])⟩, ?_⟩
        rw [HE.out, wd_pos, HP.out]
        omega
      · subst h
        have f5 := HF.out 1
        have c5 : W.cell? ⟨w.heap.size, 1, none⟩ = some (.int .i64 q.q) := HCL.out 1
        have HE : Hid (W.setCell ⟨w.heap.size, 1, none⟩ (.int .i64 0) = wdW w q' s (k + 1)) := Lib.hid (by rw [← HWW.out, HC.out]; exact wd_set w q (q.clear 81) s (k + 1) 1 _ rfl)
        go_wp2_with fail
        refine ⟨⟨k + 1, by omega, Lib.hid (by rw [HE.out, ← HQ.out])⟩, ?_⟩
        rw [HE.out, wd_pos, HP.out]
        omega
      · subst h
        have f5 := HF.out 2
        have c5 : W.cell? ⟨w.heap.size, 2, none⟩ = some (.int .i64 q.n) := HCL.out 2
        have HE : Hid (W.setCell ⟨w.heap.size, 2, none⟩ (.int .i64 0) = wdW w q' s (k + 1)) := Lib.hid (by rw [← HWW.out, HC.out]; exact wd_set w q (q.clear 78) s (k + 1) 2 _ rfl)
        go_wp2_with fail
        refine ⟨⟨k + 1, by omega, Lib.hid (by rw [HE.out, ← HQ.out])⟩, ?_⟩
        rw [HE.out, wd_pos, HP.out]
        omega
      · subst h
        have f5 := HF.out 3
        have c5 : W.cell? ⟨w.heap.size, 3, none⟩ = some (.int .i64 q.pos) := HCL.out 3
        have HE : Hid (W.setCell ⟨w.heap.size, 3, none⟩ (.int .i64 0) = wdW w q' s (k + 1)) := Lib.hid (by rw [← HWW.out, HC.out]; exact wd_set w q (q.clear 65) s (k + 1) 3 _ rfl)
        go_wp2_with fail
        refine ⟨⟨k + 1, by omega, Lib.hid (by rw [HE.out, ← HQ.out])⟩, ?_⟩
        rw [HE.out, wd_pos, HP.out]
        omega
      · subst h
        have f5 := HF.out 4
        have c5 : W.cell? ⟨w.heap.size, 4, none⟩ = some (.int .i64 q.lack) := HCL.out 4
        have HE : Hid (W.setCell ⟨w.heap.size, 4, none⟩ (.int .i64 0) = wdW w q' s (k + 1)) := Lib.hid (by rw [← HWW.out, HC.out]; exact wd_set w q (q.clear 76) s (k + 1) 4 _ rfl)
        go_wp2_with fail
        refine ⟨⟨k + 1, by omega, Lib.hid (by rw [HE.out, ← HQ.out])⟩, ?_⟩
        rw [HE.out, wd_pos, HP.out]
        omega
      · subst h
        have f5 := HF.out 7
        have c5 : W.cell? ⟨w.heap.size, 7, none⟩ = some (.string q.tag) := HCL.out 7
        have HE : Hid (W.setCell ⟨w.heap.size, 7, none⟩ (.string ⟨#[]⟩) = wdW w q' s (k + 1)) := Lib.hid (by rw [← HWW.out, HC.out]; exact wd_set w q (q.clear 116) s (k + 1) 7 _ rfl)
        go_wp2_with fail
        refine ⟨⟨k + 1, by omega, Lib.hid (by rw [HE.out, ← HQ.out])⟩, ?_⟩
        rw [HE.out, wd_pos, HP.out]
        omega
      · subst h
        have f5 := HF.out 10
        have c5 : W.cell? ⟨w.heap.size, 10, none⟩ = some (.slice q.ks.a q.ks.n q.ks.c) := HCL.out 10
        have HE : Hid (W.setCell ⟨w.heap.size, 10, none⟩ (.slice none 0 0) = wdW w q' s (k + 1)) := Lib.hid (by rw [← HWW.out, HC.out]; exact wd_set w q (q.clear 107) s (k + 1) 10 _ rfl)
        go_wp2_with fail
        refine ⟨⟨k + 1, by omega, Lib.hid (by rw [HE.out, ← HQ.out])⟩, ?_⟩
        rw [HE.out, wd_pos, HP.out]
        omega
      · subst h
        have f5 := HF.out 9
        have c5 : W.cell? ⟨w.heap.size, 9, none⟩ = some (.string q.body) := HCL.out 9
        have HE : Hid (W.setCell ⟨w.heap.size, 9, none⟩ (.string ⟨#[]⟩) = wdW w q' s (k + 1)) := Lib.hid (by rw [← HWW.out, HC.out]; exact wd_set w q (q.clear 98) s (k + 1) 9 _ rfl)
        go_wp2_with fail
        refine ⟨⟨k + 1, by omega, Lib.hid (by rw [HE.out, ← HQ.out])⟩, ?_⟩
        rw [HE.out, wd_pos, HP.out]
        omega
      · subst h
        have f5 := HF.out 8
        have c5 : W.cell? ⟨w.heap.size, 8, none⟩ = some (.string q.key) := HCL.out 8
        have HE : Hid (W.setCell ⟨w.heap.size, 8, none⟩ (.string ⟨#[]⟩) = wdW w q' s (k + 1)) := Lib.hid (by rw [← HWW.out, HC.out]; exact wd_set w q (q.clear 120) s (k + 1) 8 _ rfl)
        go_wp2_with fail
        refine ⟨⟨k + 1, by omega, Lib.hid (by rw [HE.out, ← HQ.out])⟩, ?_⟩
        rw [HE.out, wd_pos, HP.out]
        omega
      · subst h
        have f5 := HF.out 12
        have c5 : W.cell? ⟨w.heap.size, 12, none⟩ = some (.slice q.ps.a q.ps.n q.ps.c) := HCL.out 12
        have HE : Hid (W.setCell ⟨w.heap.size, 12, none⟩ (.slice none 0 0) = wdW w q' s (k + 1)) := Lib.hid (by rw [← HWW.out, HC.out]; exact wd_set w q (q.clear 112) s (k + 1) 12 _ rfl)
        go_wp2_with fail
        refine ⟨⟨k + 1, by omega, Lib.hid (by rw [HE.out, ← HQ.out])⟩, ?_⟩
        rw [HE.out, wd_pos, HP.out]
        omega
      · subst h
        have f5 := HF.out 11
        have c5 : W.cell? ⟨w.heap.size, 11, none⟩ = some (.slice q.ts.a q.ts.n q.ts.c) := HCL.out 11
        have HE : Hid (W.setCell ⟨w.heap.size, 11, none⟩ (.slice none 0 0) = wdW w q' s (k + 1)) := Lib.hid (by rw [← HWW.out, HC.out]; exact wd_set w q (q.clear 102) s (k + 1) 11 _ rfl)
        go_wp2_with fail
        refine ⟨⟨k + 1, by omega, Lib.hid (by rw [HE.out, ← HQ.out])⟩, ?_⟩
        rw [HE.out, wd_pos, HP.out]
        omega
      · subst h
        have f5 := HF.out 13
        have c5 : W.cell? ⟨w.heap.size, 13, none⟩ = some (.bool q.sync) := HCL.out 13
        have HE : Hid (W.setCell ⟨w.heap.size, 13, none⟩ (.bool false) = wdW w q' s (k + 1)) := Lib.hid (by rw [← HWW.out, HC.out]; exact wd_set w q (q.clear 115) s (k + 1) 13 _ rfl)
        go_wp2_with fail
        refine ⟨⟨k + 1, by omega, Lib.hid (by rw [HE.out, ← HQ.out])⟩, ?_⟩
        rw [HE.out, wd_pos, HP.out]
        omega
    · have hnx : ∀ ty, (Instr.next (.pointer (some ⟨w.heap.size + 1 + 1, 0, none⟩)) true ty).run Tryz.prog wr = .ok (.tuple #[.bool false]) wr := fun ty => by rw [HW.out]; exact wd_end _ _ _ _ _ hlt
      have HK := Lib.hid (show k = s.size by omega)
      obtain ⟨q, HQ⟩ : ∃ q, Hid (r.without (s.data.toList.take k) = q) := ⟨_, Lib.hid rfl⟩
      rw [HQ.out] at HW
      go_upto_region 30 with fail
      refine wp_region_lit ?_
      refine wpList_load_mid (by rfl) 25 _ (by rfl) w.heap.size 0 (by rfl) q.cells _ (by rw [HW.out]; exact wd_range _ _ _ _) Tryz.underlying25 (by rfl) size25 ?_
      refine wpList_store_mid (by rfl) 25 _ _ (by rfl) (w.heap.size + 1) 0 q.cells.toArray (by rfl) (by rfl) (by rw [HW.out]; exact wd_there _ _ _ _) size25 (raw_one q) ?_
      refine wpList_nil ?_
      have HZ : Hid (wr.setCells (w.heap.size + 1) 0 q.cells.toArray.toList = wdZ w q s k) := Lib.hid (by rw [HW.out]; exact wd_fill w q s k)
      rw [HZ.out]
      obtain ⟨Z, HZZ⟩ : ∃ Z, Hid (wdZ w q s k = Z) := ⟨_, Lib.hid rfl⟩
      rw [HZZ.out]
      have hzb : Z.heap[w.heap.size + 1]? = some (.cells q.cells.toArray 25 (0, 0)) := by rw [← HZZ.out]; exact wdZ_block _ _ _ _
      go_wp2_with fail
      (try simp only [Exit.inBlock, Exit.then])
      refine bodyPost_ret (v := q.val) (results_cell_row rfl _ _ (w.heap.size + 1) 25 q.cells.toArray (0, 0) _ (by rfl) hzb Tryz.underlying25 (by rfl) size25) rfl ?_
      refine ⟨?_, by rw [← HZZ.out]; exact wdZ_below _ _ _ _⟩
      have h := HQ.out
      rw [HK.out, ← len_size, List.take_length] at h
      rw [h]; rfl

end Go.Proofs.YtphilpjglajffaaGreatDoor.Lin
