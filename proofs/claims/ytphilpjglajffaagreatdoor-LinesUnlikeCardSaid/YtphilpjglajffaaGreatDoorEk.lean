/- An event's line: plain parts. -/
import Derived.Test.YtphilpjglajffaaGreatDoorEj
namespace Go.Proofs.YtphilpjglajffaaGreatDoor.Lin
open Go.RowKit

/-- the verbs lie there -/
def VerbsAt (w : World) (k : Nat) (nm ls : ByteArray) (b : Nat) : Prop := w.cell? ⟨b, k * 2, none⟩ = some (.string nm) ∧ w.cell? ⟨b, k * 2 + 1, none⟩ = some (.string ls)
theorem verb_cell (k : Nat) (hk : k < 16) : verbCells.toArray[k * 2]? = some (.string (bs (verbT.getD k ([], [])).1)) ∧ verbCells.toArray[k * 2 + 1]? = some (.string (bs (verbT.getD k ([], [])).2)) := by
  have : k = 0 ∨ k = 1 ∨ k = 2 ∨ k = 3 ∨ k = 4 ∨ k = 5 ∨ k = 6 ∨ k = 7 ∨ k = 8 ∨ k = 9 ∨ k = 10 ∨ k = 11 ∨ k = 12 ∨ k = 13 ∨ k = 14 ∨ k = 15 := by omega
  rcases this with rfl | rfl | rfl | rfl | rfl | rfl | rfl | rfl | rfl | rfl | rfl | rfl | rfl | rfl | rfl | rfl <;> exact ⟨rfl, rfl⟩
theorem verbs_at (k : Nat) (hk : k < 16) (w : World) : Calls Tryz.prog 19 #[] w fun e w' => ∃ b, e = .returned (.slice (some ⟨b, 0, none⟩) 16 16) ∧ VerbsAt w' k (bs (verbT.getD k ([], [])).1) (bs (verbT.getD k ([], [])).2) b ∧ Below w.heap.size w w' := by
  refine (verbs_calls w).mono ?_
  rintro e w' ⟨rfl, rfl⟩
  refine ⟨_, rfl, ⟨?_, ?_⟩, (Below.refl _ _).alloc (Nat.le_refl _) _⟩
  · rw [cell_of_row _ _ _ _ _ _ (heap_alloc_new w _)]; exact (verb_cell k hk).1
  · rw [cell_of_row _ _ _ _ _ _ (heap_alloc_new w _)]; exact (verb_cell k hk).2
theorem VerbsAt.below {w w' : World} {k : Nat} {nm ls : ByteArray} {b : Nat} (h : VerbsAt w k nm ls b) (hb : Below w.heap.size w w') : VerbsAt w' k nm ls b :=
  ⟨(hb.cell (cell_lt h.1)).trans h.1, (hb.cell (cell_lt h.2)).trans h.2⟩

/-- a verb, in a block of its own -/
def VerbAt (w : World) (nm ls : ByteArray) (v : Value) : Prop := ∃ b, v = .pointer (some ⟨b, 0, none⟩) ∧ w.cell? ⟨b, 0, none⟩ = some (.string nm) ∧ w.cell? ⟨b, 1, none⟩ = some (.string ls)

theorem idx49 (b k : Nat) (h : k < 16) (h0 : 1 ≤ k) (W : World) : (Instr.indexAt 49 (.slice (some ⟨b, 0, none⟩) 16 16) (.int .i64 k)).run Tryz.prog W = .ok (.pointer (some ⟨b, k * 2, none⟩)) W := by
  have h1 : (0 : Int) ≤ k := by omega
  have h2 : (k : Int) < 16 := by omega
  have hz : ¬ k * 2 = 0 := by omega
  simp [Instr.indexAt, go_sem, Tryz.underlying49, h, h1, hz, Addr.add]
theorem box_kept {W w' : World} {a b : Value} (hb : Below ((W.drew).alloc (.cells #[a, b] 48)).heap.size ((W.drew).alloc (.cells #[a, b] 48)) w') :
    w'.cell? ⟨W.heap.size, 0, none⟩ = some a ∧ w'.cell? ⟨W.heap.size, 1, none⟩ = some b ∧ w'.frozen? ⟨W.heap.size, 0, none⟩ = false ∧ w'.frozen? ⟨W.heap.size, 1, none⟩ = false := by
  have hs : W.drew.heap.size < (W.drew.alloc (.cells #[a, b] 48)).heap.size := by rw [World.size_alloc]; exact Nat.lt_succ_self _
  have hz : w'.heap[W.heap.size]? = some (Obj.cells #[a, b] 48 (0, 0)) := (hb.block W.drew.heap.size hs).trans (heap_alloc_new W.drew (.cells #[a, b] 48))
  exact ⟨(cell_of_row _ _ _ _ _ _ hz).trans rfl, (cell_of_row _ _ _ _ _ _ hz).trans rfl, by simp [World.frozen?, hz], by simp [World.frozen?, hz]⟩
theorem size48 : (Tryz.prog.info? 48).map (·.size) = some 2 := by kernel_rfl
theorem ld48 {k : Nat} {nm ls : ByteArray} {b : Nat} {w : World} (h : VerbsAt w k nm ls b) : (Instr.loadAt 48 (.pointer (some ⟨b, k * 2, none⟩))).run Tryz.prog w = .ok (.agg #[.string nm, .string ls]) w :=
  run_loadAt_mid w b (k * 2) 48 [.string nm, .string ls] _ (fun j v hj => by
    match j, hj with
    | 0, hj => cases hj; exact h.1
    | 1, hj => cases hj; exact h.2
    | j + 2, hj => simp at hj) Tryz.underlying48 rfl size48

theorem mild_ite {p : Prop} [Decidable p] {a b : Raw} (h1 : Mild a) (h2 : Mild b) : Mild (if p then a else b) := by split <;> assumption
theorem mild_clear {r : Raw} (h : Mild r) (c : UInt8) : Mild (r.clear c) := by
  obtain ⟨h1, h2, h3, h4, h5, h6, h7, h8⟩ := h
  unfold Raw.clear
  refine mild_ite ?_ (mild_ite ?_ (mild_ite ?_ (mild_ite ?_ (mild_ite ?_ (mild_ite ?_ (mild_ite ?_ (mild_ite ?_ (mild_ite ?_ (mild_ite ?_ (mild_ite ?_ (mild_ite ?_ ?_)))))))))))
  all_goals (constructor <;> first | assumption | exact Nat.zero_le _)
theorem mild_without {r : Raw} (h : Mild r) : ∀ l : List UInt8, Mild (r.without l) := by
  intro l
  unfold Raw.without
  induction l generalizing r with
  | nil => exact h
  | cons c l ih => exact ih (mild_clear h c)

def nonE (x : ByteArray) : Bool := decide (x.size ≠ 0)
/-- the words of a line -/
def wordsL (r : Raw) (keys tags : List ByteArray) (keep : List Bool) (nm : ByteArray) (l : List UInt8) : List ByteArray := nm :: (l.map (wordB r keys tags keep)).filter nonE
/-- an event's line -/
def eventB (r : Raw) (keys tags : List ByteArray) (keep : List Bool) : ByteArray :=
  if r.kind < 1 ∨ 15 < r.kind then ⟨#[]⟩ else
  let v := verbT.getD r.kind.toNat ([], [])
  if (rightB r keys tags (bs v.2) && emptyB (r.without v.2)) = false then ⟨#[]⟩ else joinS (wordsL r keys tags keep (bs v.1) v.2) ⟨#[32]⟩

theorem verb_letters (k : Nat) (hk : k < 16) : ∀ c ∈ (verbT.getD k ([], [])).2, c ∈ letters := by
  have : k = 0 ∨ k = 1 ∨ k = 2 ∨ k = 3 ∨ k = 4 ∨ k = 5 ∨ k = 6 ∨ k = 7 ∨ k = 8 ∨ k = 9 ∨ k = 10 ∨ k = 11 ∨ k = 12 ∨ k = 13 ∨ k = 14 ∨ k = 15 := by omega
  rcases this with rfl | rfl | rfl | rfl | rfl | rfl | rfl | rfl | rfl | rfl | rfl | rfl | rfl | rfl | rfl | rfl <;> decide
theorem name_size (k : Nat) (hk : k < 16) : (bs (verbT.getD k ([], [])).1).size ≤ 10 := by
  have : k = 0 ∨ k = 1 ∨ k = 2 ∨ k = 3 ∨ k = 4 ∨ k = 5 ∨ k = 6 ∨ k = 7 ∨ k = 8 ∨ k = 9 ∨ k = 10 ∨ k = 11 ∨ k = 12 ∨ k = 13 ∨ k = 14 ∨ k = 15 := by omega
  rcases this with rfl | rfl | rfl | rfl | rfl | rfl | rfl | rfl | rfl | rfl | rfl | rfl | rfl | rfl | rfl | rfl <;> decide

theorem join_size (xs : List ByteArray) (sep : ByteArray) (B : Nat) (h : ∀ x ∈ xs, x.size ≤ B) : (joinS xs sep).size ≤ xs.length * (sep.size + B) := by
  have := join_le sep.data.toList B (xs.map (·.data.toList)) (fun x hx => by
    obtain ⟨y, hy, rfl⟩ := List.mem_map.1 hx
    rw [len_size]; exact h y hy)
  rw [List.length_map, len_size] at this
  exact this
theorem ite_le {p : Prop} [Decidable p] {a b : ByteArray} {n : Nat} (h1 : a.size ≤ n) (h2 : b.size ≤ n) : (if p then a else b).size ≤ n := by split <;> assumption
theorem word_size (r : Raw) (keys tags : List ByteArray) (keep : List Bool) (hm : Mild r) (ht : Tellable r keys tags) (hk : keys.length = r.ks.n) (htt : tags.length = r.ts.n) (hp : keep.length = r.ps.n) (c : UInt8) : (wordB r keys tags keep c).size ≤ 100000 := by
  obtain ⟨h1, h2, h3, h4, h5, h6, h7, h8⟩ := hm
  have i1 := itoaB_size r.q ht.q.1 ht.q.2
  have i2 := itoaB_size r.n ht.n.1 ht.n.2
  have i3 := itoaB_size r.pos ht.pos.1 ht.pos.2
  have i4 := itoaB_size r.lack ht.lack.1 ht.lack.2
  have hx : ∀ s : ByteArray, (hexS s).size ≤ 2 * s.size + 1 := fun s => by have := hexW_le s.data.toList; rw [len_size] at this; exact this
  have b1 := hx r.body
  have b2 := hx r.key
  have p1 : (plainW r.tag).size ≤ 100 := by
    unfold plainW; split
    · show 1 ≤ 100; omega
    · exact h3
  have k1 : (keysW keys).size ≤ 50000 := by
    unfold keysW; split
    · show 1 ≤ 50000; omega
    · refine Nat.le_trans (join_size _ _ 2001 (fun x hx' => ?_)) ?_
      · obtain ⟨y, hy, rfl⟩ := List.mem_map.1 hx'
        have := hx y; have := ht.key y hy; omega
      · rw [List.length_map, hk]
        refine Nat.le_trans (Nat.mul_le_mul h6 (Nat.le_refl _)) ?_
        decide
  have f1 : (filterW tags).size ≤ 50000 := by
    unfold filterW; split
    · show 1 ≤ 50000; omega
    · refine Nat.le_trans (join_size _ _ 1000 (fun x hx' => ht.tag x hx')) ?_
      rw [htt]
      refine Nat.le_trans (Nat.mul_le_mul h7 (Nat.le_refl _)) ?_
      decide
  have t1 : (bitsW keep).size ≤ 1000 := by
    unfold bitsW; split
    · show 1 ≤ 1000; omega
    · show (keep.map bitB).length ≤ 1000
      rw [List.length_map, hp]; omega
  unfold wordB
  refine ite_le (by omega) (ite_le (by omega) (ite_le (by omega) (ite_le (by omega) (ite_le (by omega) (ite_le (by omega) (ite_le (by omega) (ite_le (by omega) (ite_le (by omega) (ite_le (by omega) (ite_le (by omega) (ite_le (by omega) (ite_le ?_ ?_))))))))))))
  · show 4 ≤ 100000; omega
  · exact Nat.zero_le _

theorem verbAt_new (w : World) (nm ls : ByteArray) : VerbAt (w.alloc (.cells #[.string nm, .string ls] 48)) nm ls (.pointer (some ⟨w.heap.size, 0, none⟩)) :=
  ⟨_, rfl, (cell_of_row _ _ _ _ _ _ (heap_alloc_new w _)).trans rfl, (cell_of_row _ _ _ _ _ _ (heap_alloc_new w _)).trans rfl⟩
theorem verbAt_set {w : World} {g : Nat} {a b : Value} (nm ls : ByteArray) (h0 : w.cell? ⟨g, 0, none⟩ = some a) (h1 : w.cell? ⟨g, 1, none⟩ = some b) :
    VerbAt ((w.setCell ⟨g, 0, none⟩ (.string nm)).setCell ⟨g, 1, none⟩ (.string ls)) nm ls (.pointer (some ⟨g, 0, none⟩)) := by
  have n1 : (⟨g, 1, none⟩ : Addr) ≠ ⟨g, 0, none⟩ := by simp
  have n2 : (⟨g, 0, none⟩ : Addr) ≠ ⟨g, 1, none⟩ := by simp
  exact ⟨_, rfl, (World.cell?_setCell_other _ _ _ _ n1).trans (World.cell?_setCell_same' _ _ _ (by rw [h0]; rfl)), World.cell?_setCell_same' _ _ _ (by rw [World.cell?_setCell_other _ _ _ _ n2, h1]; rfl)⟩

end Go.Proofs.YtphilpjglajffaaGreatDoor.Lin
