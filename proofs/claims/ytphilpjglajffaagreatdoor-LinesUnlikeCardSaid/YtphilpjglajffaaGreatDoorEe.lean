/- Walks: verbs; an event without what its line tells; is it empty? -/
import Derived.Test.YtphilpjglajffaaGreatDoorEd
import Derived.Lib.OthersKept
namespace Go.Proofs.YtphilpjglajffaaGreatDoor.Lin
open Go.RowKit

def bs (l : List UInt8) : ByteArray := ⟨⟨l⟩⟩
/-- events' names, and letters -/
def verbT : List (List UInt8 × List UInt8) :=
  [([], []), ([67, 82, 69, 65, 84, 69], [84, 78]), ([83, 69, 78, 68], [84, 81, 116, 107, 98, 115]), ([76, 65, 84, 69, 82], [78, 84, 81, 116, 107, 98, 115]), ([67, 65, 78, 67, 69, 76], [78]),
   ([80, 85, 76, 76], [84, 81, 65, 78, 102]), ([67, 79, 77, 77, 73, 84], [71, 84, 81, 65]), ([78, 65, 67, 75], [71, 84, 81, 65, 115]), ([65, 67, 75], [71, 84, 81, 65]), ([75, 69, 89], [84, 120, 78]),
   ([83, 84, 65, 84, 85, 83], [78]), ([80, 73, 67, 75], [78]), ([80, 65, 83, 83], [78]), ([70, 85, 83, 69], [78]), ([67, 82, 65, 83, 72], [112, 76, 98]), ([83, 69, 84, 84, 76, 69], [])]
def verbCells : List Value := verbT.flatMap fun p => [.string (bs p.1), .string (bs p.2)]

set_option maxRecDepth 100000 in
theorem verbs_calls (w : World) : Calls Tryz.prog 19 #[] w fun e w' => e = .returned (.slice (some ⟨w.heap.size, 0, none⟩) 16 16) ∧ w' = w.alloc (.cells verbCells.toArray 48) := by
  go_enter Tryz.func19, Tryz.ntmps19
  go_wp2_with fail
  go_ret
  exact ⟨rfl, rfl⟩

/-- nothing of its own but a kind -/
def bits4 (r : Raw) : Int := Go.bits .or .i64 (Go.bits .or .i64 (Go.bits .or .i64 r.q r.n) r.pos) r.lack
def emptyB (r : Raw) : Bool := decide (bits4 r = 0) && (decide (r.topic.size + r.group.size + r.tag.size + r.key.size + r.body.size = 0) && (decide (r.ks.n + r.ts.n + r.ps.n = 0) && !r.sync))
/-- its texts and slices are not great -/
structure Mild (r : Raw) : Prop where
  t : r.topic.size ≤ 100
  g : r.group.size ≤ 100
  tg : r.tag.size ≤ 100
  k : r.key.size ≤ 1000
  b : r.body.size ≤ 1000
  ks : r.ks.n ≤ 20
  ts : r.ts.n ≤ 10
  ps : r.ps.n ≤ 200

set_option maxRecDepth 100000 in
set_option maxHeartbeats 1000000 in
theorem empty_calls (r : Raw) (w : World) (hm : Mild r) : Calls Tryz.prog 21 #[r.val] w fun e w' => e = .returned (.bool (emptyB r)) ∧ Below w.heap.size w w' := by
  have HA : Hid (Below w.heap.size w (w.alloc (.cells r.cells.toArray 25))) := Lib.hid ((Below.refl _ _).alloc (Nat.le_refl _) _)
  have HR : Hid (emptyB r = (decide (bits4 r = 0) && (decide (r.topic.size + r.group.size + r.tag.size + r.key.size + r.body.size = 0) && (decide (r.ks.n + r.ts.n + r.ps.n = 0) && !r.sync)))) := Lib.hid rfl
  generalize hE : emptyB r = E at *
  clear hE
  obtain ⟨kind, q, n, pos, lack, topic, group, tag, key, body, ⟨ka, kn, kc⟩, ⟨ta, tn, tc⟩, ⟨pa, pn, pc⟩, sync⟩ := r
  obtain ⟨m1, m2, m3, m4, m5, m6, m7, m8⟩ := hm
  change topic.size ≤ 100 at m1
  change group.size ≤ 100 at m2
  change tag.size ≤ 100 at m3
  change key.size ≤ 1000 at m4
  change body.size ≤ 1000 at m5
  change kn ≤ 20 at m6
  change tn ≤ 10 at m7
  change pn ≤ 200 at m8
  replace HR : Hid (E = (decide (Go.bits .or .i64 (Go.bits .or .i64 (Go.bits .or .i64 q n) pos) lack = 0) && (decide (topic.size + group.size + tag.size + key.size + body.size = 0) && (decide (kn + tn + pn = 0) && !sync)))) := HR
  unfold Raw.cells at HA
  unfold Raw.val Raw.cells
  by_cases h1 : Go.bits .or .i64 (Go.bits .or .i64 (Go.bits .or .i64 q n) pos) lack = 0
  · have d1 : (Go.bits .or .i64 (Go.bits .or .i64 (Go.bits .or .i64 q n) pos) lack == 0) = true := by simp [h1]
    have z1 : (topic ++ group).size ≤ 10000 := by rw [ByteArray.size_append]; omega
    have z2 : (topic ++ group ++ tag).size ≤ 10000 := by rw [ByteArray.size_append, ByteArray.size_append]; omega
    have z3 : (topic ++ group ++ tag ++ key).size ≤ 10000 := by rw [ByteArray.size_append, ByteArray.size_append, ByteArray.size_append]; omega
    have z4 : (topic ++ group ++ tag ++ key ++ body).size ≤ 10000 := by rw [ByteArray.size_append, ByteArray.size_append, ByteArray.size_append, ByteArray.size_append]; omega
    have hne := is_empty (topic ++ group ++ tag ++ key ++ body)
    have hsz : (topic ++ group ++ tag ++ key ++ body).size = topic.size + group.size + tag.size + key.size + body.size := by simp only [ByteArray.size_append]
    have HSZ := Lib.hid hsz
    by_cases h2 : topic.size + group.size + tag.size + key.size + body.size = 0
    · rw [hsz, h2] at hne
      simp only [decide_true] at hne
      clear hsz
      by_cases h3 : kn + tn + pn = 0
      · obtain ⟨rfl, rfl, rfl⟩ : kn = 0 ∧ tn = 0 ∧ pn = 0 := by omega
        go_enter Tryz.func21, Tryz.ntmps21
        go_wp2_with fail
        go_ret
        refine ⟨ret_bool ?_, HA.out⟩
        rw [HR.out, decide_eq_true h1, decide_eq_true h2]
        simp
      · have d3 : ((kn : Int) + (tn : Int) + (pn : Int) == 0) = false := by simp; omega
        go_enter Tryz.func21, Tryz.ntmps21
        go_wp2_with fail
        go_ret
        refine ⟨ret_bool ?_, HA.out⟩
        rw [HR.out, decide_eq_false h3]
        simp
    · rw [hsz] at hne
      simp only [h2, decide_false] at hne
      clear hsz
      go_enter Tryz.func21, Tryz.ntmps21
      go_wp2_with fail
      go_ret
      refine ⟨ret_bool ?_, HA.out⟩
      rw [HR.out, decide_eq_false h2]
      simp
  · have d1 : (Go.bits .or .i64 (Go.bits .or .i64 (Go.bits .or .i64 q n) pos) lack == 0) = false := by simp [h1]
    go_enter Tryz.func21, Tryz.ntmps21
    go_wp2_with fail
    go_ret
    refine ⟨ret_bool ?_, HA.out⟩
    rw [HR.out, decide_eq_false h1]
    simp

end Go.Proofs.YtphilpjglajffaaGreatDoor.Lin
