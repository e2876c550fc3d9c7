/- Walk of Table.Open. -/
import Derived.Test.YtdhokdjmobmpoaaWk7
import Derived.Test.YtdhokdjmobmpoaaRg
import Derived.Stop.BytesEq
namespace Go.Proofs.Ytdhokdjmobmpoaa.Crc
open Go.RowKit

def OpBytes (a b c d : UInt8) (v : Value) (w : World) : Prop := ∃ g cap, v = .slice (some ⟨g, 0, none⟩) 4 cap ∧ g < w.heap.size ∧
  w.cell? ⟨g, 0, none⟩ = some (.int .u8 a.toNat) ∧ w.cell? ⟨g, 1, none⟩ = some (.int .u8 b.toNat) ∧ w.cell? ⟨g, 2, none⟩ = some (.int .u8 c.toNat) ∧ w.cell? ⟨g, 3, none⟩ = some (.int .u8 d.toNat)
def OpPtr (a b c d : UInt8) (v : Value) (w : World) : Prop := ∃ g, v = .pointer (some ⟨g, 0, none⟩) ∧ g < w.heap.size ∧
  w.cell? ⟨g, 0, none⟩ = some (.int .u8 a.toNat) ∧ w.cell? ⟨g, 1, none⟩ = some (.int .u8 b.toNat) ∧ w.cell? ⟨g, 2, none⟩ = some (.int .u8 c.toNat) ∧ w.cell? ⟨g, 3, none⟩ = some (.int .u8 d.toNat)
def OpStr (u : ByteArray) (v : Value) (w : World) : Prop := StrsIn w v [u]
theorem kept_OpBytes {a b c d : UInt8} : Rg.Kept (OpBytes a b c d) := fun _ _ _ hb ⟨g, cap, h1, h2, c0, c1, c2, c3⟩ =>
  ⟨g, cap, h1, Nat.lt_of_lt_of_le h2 hb.size, by rw [hb.cell h2]; exact c0, by rw [hb.cell h2]; exact c1, by rw [hb.cell h2]; exact c2, by rw [hb.cell h2]; exact c3⟩
theorem kept_OpPtr {a b c d : UInt8} : Rg.Kept (OpPtr a b c d) := fun _ _ _ hb ⟨g, h1, h2, c0, c1, c2, c3⟩ =>
  ⟨g, h1, Nat.lt_of_lt_of_le h2 hb.size, by rw [hb.cell h2]; exact c0, by rw [hb.cell h2]; exact c1, by rw [hb.cell h2]; exact c2, by rw [hb.cell h2]; exact c3⟩
theorem kept_OpStr {u : ByteArray} : Rg.Kept (OpStr u) := fun _ _ _ hb h => h.below hb

theorem ext4 {s : ByteArray} {a b c d : UInt8} (hl : s.data.toList.take 4 = [a, b, c, d]) : (s.extract 0 4).data.toList = [a, b, c, d] := by
  rw [ByteArray.data_extract]
  simp only [Array.toList_extract, List.extract_eq_take_drop, List.drop_zero, Nat.sub_zero]
  exact hl

theorem opBytes_new {s : ByteArray} {a b c d : UInt8} (hl : s.data.toList.take 4 = [a, b, c, d]) (W : World) (cap : Nat) (fr : Nat × Nat) :
    OpBytes a b c d (.slice (some ⟨W.heap.size, 0, none⟩) 4 cap) (W.alloc (.cells (bytesRow (s.extract 0 4) cap) 5 fr)).drew := by
  show OpBytes a b c d (.slice (some ⟨W.heap.size, 0, none⟩) 4 cap) (W.drew.alloc (.cells (bytesRow (s.extract 0 4) cap) 5 fr))
  have h4 := ext4 hl
  have hz : (s.extract 0 4).size = 4 := by
    have := congrArg List.length h4
    simpa using this
  have at_ : ∀ j (hj : j < 4), (W.drew.alloc (.cells (bytesRow (s.extract 0 4) cap) 5 fr)).cell? ⟨W.heap.size, j, none⟩ = some (.int .u8 (([a, b, c, d][j]'(by simpa using hj)).toNat : Int)) := fun j hj => by
    have h1 := World.cell?_alloc_mark W.drew (bytesRow (s.extract 0 4) cap) 5 fr j
    have h2 : j < (s.extract 0 4).data.size := by rw [show (s.extract 0 4).data.size = (s.extract 0 4).size from rfl, hz]; exact hj
    rw [bytesRow_at _ _ _ h2] at h1
    have h3 : (s.extract 0 4).data[j] = [a, b, c, d][j]'(by simpa using hj) := by
      have : (s.extract 0 4).data.toList[j]? = [a, b, c, d][j]? := by rw [h4]
      rw [Array.getElem?_toList, Array.getElem?_eq_getElem h2, List.getElem?_eq_getElem (by simpa using hj)] at this
      exact Option.some.inj this
    rw [h3] at h1
    exact h1
  refine ⟨W.heap.size, cap, rfl, by simp, at_ 0 (by omega), at_ 1 (by omega), at_ 2 (by omega), at_ 3 (by omega)⟩

theorem array_at (g cap : Nat) (W : World) : (Instr.arrayAt 50 (.slice (some ⟨g, 0, none⟩) 4 cap)).run Try.prog W = .ok (.pointer (some ⟨g, 0, none⟩)) W := by
  simp [Instr.arrayAt, run_underlying Try.underlying50]

theorem size5 (w : World) : (sizeOf 5).run Try.prog w = .ok 1 w := Try.sizeOf5 w

theorem eq_words (a b c d : UInt8) (m : Nat) (W : World) (ne : Bool) (hm : m < 4294967296) (hne : ne = !decide ([a, b, c, d] = wordL m)) :
    (Op.equalIn 10000 50 (.agg #[.int .u8 (a.toNat : Int), .int .u8 (b.toNat : Int), .int .u8 (c.toNat : Int), .int .u8 (d.toNat : Int)])
      (.agg #[.int .u8 ((m : Int) / 16777216), .int .u8 ((m : Int) / 65536 % 256), .int .u8 ((m : Int) / 256 % 256), .int .u8 ((m : Int) % 256)])).run Try.prog W = .ok (!ne) W := by
  have h := run_equalIn_bytes (P := Try.prog) W 9998 50 5 4 Try.underlying50 Try.underlying5 size5 [a, b, c, d] (wordL m) rfl rfl
  have h2 : ((wordL m).map Extern.Stop.cell) = [.int .u8 ((m : Int) / 16777216), .int .u8 ((m : Int) / 65536 % 256), .int .u8 ((m : Int) / 256 % 256), .int .u8 ((m : Int) % 256)] := by
    have := congrArg (List.map (Value.int .u8)) (word_ints m hm)
    simp only [List.map_map, List.map_cons, List.map_nil] at this
    rw [this]; rfl
  rw [h2] at h
  refine h.trans ?_
  rw [hne, Bool.not_not]
  congr 1
  rw [Bool.eq_iff_iff]
  simp

set_option maxRecDepth 100000 in
set_option maxHeartbeats 400000 in
theorem open_calls (B : Nat) (s : ByteArray) (a b c d : UInt8) (w : World) (ht : Tab w B) (hs : s.size ≤ 140737488355328) (h4 : 4 ≤ s.size) (hl : s.data.toList.take 4 = [a, b, c, d])
    (m : Nat) (hmlt : m < 4294967296) (hm : sum (s.extract 4 s.size).data.toList = m) (ne : Bool) (hne : ne = !decide ([a, b, c, d] = wordL m)) :
    Calls Try.prog 16 #[.pointer (some ⟨B, 0, none⟩), .string s] w fun e w' => e = .returned (if ne = false then .tuple #[.string (s.extract 4 s.size), .bool true] else .tuple #[.string ⟨#[]⟩, .bool false]) ∧ Below w.heap.size w w' := by
  have HT := Lib.hid ht
  have HL := Lib.hid hl
  have HM := Lib.hid hm
  have HN := Lib.hid hne
  clear ht hl hm hne
  have heq := fun W => eq_words a b c d m W ne hmlt HN.out
  have hcv := fun W => run_bytes_of_string (P := Try.prog) W 9 29 5 (s.extract 0 4) Try.underlying9 Try.underlying29 Try.underlying5
  have d4 : decide ((s.size : Int) < 4) = false := by simp; omega
  have h4i : (4 : Int) ≤ (s.size : Int) := by omega
  go_enter Try.func16, Try.ntmps16
  go_wp2_with fail
  refine Rg.region_rg' [Rg.Is (.pointer (some ⟨B, 0, none⟩)),
    Rg.Is (.bool false),
    Rg.Is (.bool false),
    Rg.Is (.string s),
    Rg.Is (.int .i64 (s.size : Int)),
    Rg.Is (.bool false),
    Rg.Is (.bool false),
    Rg.Is (.bool false),
    Rg.Is (.string s),
    Rg.Is (.string (s.extract 0 4)),
    OpBytes a b c d,
    OpPtr a b c d,
    Rg.Is (.agg #[.int .u8 (a.toNat : Int), .int .u8 (b.toNat : Int), .int .u8 (c.toNat : Int), .int .u8 (d.toNat : Int)]),
    Rg.Is (.pointer (some ⟨B, 0, none⟩)),
    Rg.Is (.string s),
    Rg.Is (.string (s.extract 4 s.size)),
    OpStr (s.extract 4 s.size),
    Rg.Is (.int .i64 (m : Int)),
    Rg.Is (.agg #[.int .u8 ((m : Int) / 16777216), .int .u8 ((m : Int) / 65536 % 256), .int .u8 ((m : Int) / 256 % 256), .int .u8 ((m : Int) % 256)]),
    Rg.Is (.bool ne),
    Rg.Is (.bool ne)]
    [[], [0], [1], [2], [3, 2], [4, 2], [2, 5], [6], [7], [8, 7], [9, 7], [10, 7], [11, 7], [7], [7], [14, 7], [15, 7], [13, 16, 7], [17, 7], [12, 18, 7], [7, 19]] (by kernel_rfl) (by kernel_rfl) (by kernel_rfl) ?kept ?steps ?fin
  case steps =>
    refine Rg.steps_cons (fun x w1 hG hK => ?_) ?_
    · -- 0: t6 := Op.move (Operand.tmp 0)
      clear hK
      simp only [Rg.fillOps, Act.put, List.take_succ_cons, List.take_zero, List.setIfInBounds_toArray, List.set_cons_zero, List.set_cons_succ, Nat.zero_add, Nat.reduceAdd]
      clear hG
      go_wp2
      exact ⟨rfl, rfl, Below.refl _ _, rfl⟩
    refine Rg.steps_cons (fun x w1 hG hK => ?_) ?_
    · -- 1: t7 := Op.binOp BinOp.eql 25 (Operand.tmp 6) (Operand.const (Value.pointer none)) 25
      have q0 : x 0 = .pointer (some ⟨B, 0, none⟩) := hK.1
      clear hK
      simp only [Rg.fillOps, Act.put, List.take_succ_cons, List.take_zero, List.setIfInBounds_toArray, List.set_cons_zero, List.set_cons_succ, Nat.zero_add, Nat.reduceAdd]
      clear hG
      go_wp2
      exact ⟨rfl, rfl, Below.refl _ _, rfl⟩
    refine Rg.steps_cons (fun x w1 hG hK => ?_) ?_
    · -- 2: t8 := Op.move (Operand.tmp 7)
      have q1 : x 1 = .bool false := hK.1
      clear hK
      simp only [Rg.fillOps, Act.put, List.take_succ_cons, List.take_zero, List.setIfInBounds_toArray, List.set_cons_zero, List.set_cons_succ, Nat.zero_add, Nat.reduceAdd]
      clear hG
      go_wp2
      exact ⟨rfl, rfl, Below.refl _ _, q1⟩
    refine Rg.steps_cons (fun x w1 hG hK => ?_) ?_
    · -- 3: t9 := Op.move (Operand.tmp 1)
      have q2 : x 2 = .bool false := hK.1
      clear hK
      simp only [Rg.fillOps, Act.put, List.take_succ_cons, List.take_zero, List.setIfInBounds_toArray, List.set_cons_zero, List.set_cons_succ, Nat.zero_add, Nat.reduceAdd]
      clear hG
      go_wp2
      exact ⟨rfl, rfl, Below.refl _ _, rfl⟩
    refine Rg.steps_cons (fun x w1 hG hK => ?_) ?_
    · -- 4: t10 := Op.call { callee := Callee.builtin Builtin.len, args := #[Operand.tmp 9], argTypes := #[9] }
      have q3 : x 3 = .string s := hK.1
      have q2 : x 2 = .bool false := hK.2.1
      clear hK
      simp only [Rg.fillOps, Act.put, List.take_succ_cons, List.take_zero, List.setIfInBounds_toArray, List.set_cons_zero, List.set_cons_succ, Nat.zero_add, Nat.reduceAdd]
      clear hG
      go_wp2
      exact ⟨rfl, rfl, Below.refl _ _, rfl⟩
    refine Rg.steps_cons (fun x w1 hG hK => ?_) ?_
    · -- 5: t11 := Op.binOp BinOp.lss 3 (Operand.tmp 10) (Operand.const (Value.int IntKind.i64 4)) 3
      have q4 : x 4 = .int .i64 (s.size : Int) := hK.1
      have q2 : x 2 = .bool false := hK.2.1
      clear hK
      simp only [Rg.fillOps, Act.put, List.take_succ_cons, List.take_zero, List.setIfInBounds_toArray, List.set_cons_zero, List.set_cons_succ, Nat.zero_add, Nat.reduceAdd]
      clear hG
      go_wp2
      exact ⟨rfl, rfl, Below.refl _ _, rfl⟩
    refine Rg.steps_cons (fun x w1 hG hK => ?_) ?_
    · -- 6: t12 := Op.pick (Operand.tmp 8) (Operand.const (Value.bool true)) (Operand.tmp 11)
      have q2 : x 2 = .bool false := hK.1
      have q5 : x 5 = .bool false := hK.2.1
      clear hK
      simp only [Rg.fillOps, Act.put, List.take_succ_cons, List.take_zero, List.setIfInBounds_toArray, List.set_cons_zero, List.set_cons_succ, Nat.zero_add, Nat.reduceAdd]
      clear hG
      go_wp2
      exact ⟨rfl, rfl, Below.refl _ _, rfl⟩
    refine Rg.steps_cons (fun x w1 hG hK => ?_) ?_
    · -- 7: t13 := Op.move (Operand.tmp 12)
      have q6 : x 6 = .bool false := hK.1
      clear hK
      simp only [Rg.fillOps, Act.put, List.take_succ_cons, List.take_zero, List.setIfInBounds_toArray, List.set_cons_zero, List.set_cons_succ, Nat.zero_add, Nat.reduceAdd]
      clear hG
      go_wp2
      exact ⟨rfl, rfl, Below.refl _ _, q6⟩
    refine Rg.steps_cons (fun x w1 hG hK => ?_) ?_
    · -- 8: t14 := Op.move (Operand.tmp 1)
      have q7 : x 7 = .bool false := hK.1
      clear hK
      simp only [Rg.fillOps, Act.put, List.take_succ_cons, List.take_zero, List.setIfInBounds_toArray, List.set_cons_zero, List.set_cons_succ, Nat.zero_add, Nat.reduceAdd]
      clear hG
      go_wp2
      exact ⟨rfl, rfl, Below.refl _ _, rfl⟩
    refine Rg.steps_cons (fun x w1 hG hK => ?_) ?_
    · -- 9: t15 := Op.slice 9 (Operand.tmp 14) none (some (Operand.const (Value.int IntKind.i64 4))) none
      have q8 : x 8 = .string s := hK.1
      have q7 : x 7 = .bool false := hK.2.1
      clear hK
      simp only [Rg.fillOps, Act.put, List.take_succ_cons, List.take_zero, List.setIfInBounds_toArray, List.set_cons_zero, List.set_cons_succ, Nat.zero_add, Nat.reduceAdd]
      clear hG
      go_wp2
      exact ⟨rfl, rfl, Below.refl _ _, rfl⟩
    refine Rg.steps_cons (fun x w1 hG hK => ?_) ?_
    · -- 10: t16 := Op.convert 9 29 (Operand.tmp 15)
      have q9 : x 9 = .string (s.extract 0 4) := hK.1
      have q7 : x 7 = .bool false := hK.2.1
      clear hK
      simp only [Rg.fillOps, Act.put, List.take_succ_cons, List.take_zero, List.setIfInBounds_toArray, List.set_cons_zero, List.set_cons_succ, Nat.zero_add, Nat.reduceAdd]
      go_wp2_with fail
      exact ⟨rfl, rfl, ((Below.refl _ _).alloc (Nat.le_refl _) _).drew, opBytes_new HL.out w1 _ _⟩
    refine Rg.steps_cons (fun x w1 hG hK => ?_) ?_
    · -- 11: t17 := Op.sliceToArrayPointer 50 (Operand.tmp 16)
      have q10 : OpBytes a b c d (x 10) w1 := hK.1
      have q7 : x 7 = .bool false := hK.2.1
      clear hK
      simp only [Rg.fillOps, Act.put, List.take_succ_cons, List.take_zero, List.setIfInBounds_toArray, List.set_cons_zero, List.set_cons_succ, Nat.zero_add, Nat.reduceAdd]
      obtain ⟨g, cap, e10, hg, c0, c1, c2, c3⟩ := q10
      have hat := array_at g cap
      go_wp2
      exact ⟨rfl, rfl, Below.refl _ _, ⟨g, rfl, hg, c0, c1, c2, c3⟩⟩
    refine Rg.steps_cons (fun x w1 hG hK => ?_) ?_
    · -- 12: t18 := Op.load 50 (Operand.tmp 17)
      have q11 : OpPtr a b c d (x 11) w1 := hK.1
      have q7 : x 7 = .bool false := hK.2.1
      clear hK
      simp only [Rg.fillOps, Act.put, List.take_succ_cons, List.take_zero, List.setIfInBounds_toArray, List.set_cons_zero, List.set_cons_succ, Nat.zero_add, Nat.reduceAdd]
      obtain ⟨g, e11, hg, c0, c1, c2, c3⟩ := q11
      go_wp2
      exact ⟨rfl, rfl, Below.refl _ _, rfl⟩
    refine Rg.steps_cons (fun x w1 hG hK => ?_) ?_
    · -- 13: t19 := Op.move (Operand.tmp 0)
      have q7 : x 7 = .bool false := hK.1
      clear hK
      simp only [Rg.fillOps, Act.put, List.take_succ_cons, List.take_zero, List.setIfInBounds_toArray, List.set_cons_zero, List.set_cons_succ, Nat.zero_add, Nat.reduceAdd]
      clear hG
      go_wp2
      exact ⟨rfl, rfl, Below.refl _ _, rfl⟩
    refine Rg.steps_cons (fun x w1 hG hK => ?_) ?_
    · -- 14: t20 := Op.move (Operand.tmp 1)
      have q7 : x 7 = .bool false := hK.1
      clear hK
      simp only [Rg.fillOps, Act.put, List.take_succ_cons, List.take_zero, List.setIfInBounds_toArray, List.set_cons_zero, List.set_cons_succ, Nat.zero_add, Nat.reduceAdd]
      clear hG
      go_wp2
      exact ⟨rfl, rfl, Below.refl _ _, rfl⟩
    refine Rg.steps_cons (fun x w1 hG hK => ?_) ?_
    · -- 15: t21 := Op.slice 9 (Operand.tmp 20) (some (Operand.const (Value.int IntKind.i64 4))) none none
      have q14 : x 14 = .string s := hK.1
      have q7 : x 7 = .bool false := hK.2.1
      clear hK
      simp only [Rg.fillOps, Act.put, List.take_succ_cons, List.take_zero, List.setIfInBounds_toArray, List.set_cons_zero, List.set_cons_succ, Nat.zero_add, Nat.reduceAdd]
      clear hG
      go_wp2
      exact ⟨rfl, rfl, Below.refl _ _, rfl⟩
    refine Rg.steps_cons (fun x w1 hG hK => ?_) ?_
    · -- 16: t22 := Op.buildSlice 22 1 #[(0, Operand.tmp 21)]
      have q15 : x 15 = .string (s.extract 4 s.size) := hK.1
      have q7 : x 7 = .bool false := hK.2.1
      clear hK
      simp only [Rg.fillOps, Act.put, List.take_succ_cons, List.take_zero, List.setIfInBounds_toArray, List.set_cons_zero, List.set_cons_succ, Nat.zero_add, Nat.reduceAdd]
      go_wp2_with fail
      exact ⟨rfl, rfl, (Below.refl _ _).alloc (Nat.le_refl _) _, strs_new1 w1 _ (by rw [ext_size]; omega)⟩
    refine Rg.steps_cons (fun x w1 hG hK => ?_) ?_
    · -- 17: t23 := Op.call { callee := Callee.value (Operand.func 12), args := #[Operand.tmp 19, Operand.tmp 22], argTypes := #[25, 22] }
      have q13 : x 13 = .pointer (some ⟨B, 0, none⟩) := hK.1
      have q16 : OpStr (s.extract 4 s.size) (x 16) w1 := hK.2.1
      have q7 : x 7 = .bool false := hK.2.2.1
      clear hK
      simp only [Rg.fillOps, Act.put, List.take_succ_cons, List.take_zero, List.setIfInBounds_toArray, List.set_cons_zero, List.set_cons_succ, Nat.zero_add, Nat.reduceAdd]
      go_wp2_with fail
      refine (sum_calls1 B _ (s.extract 4 s.size) m _ HM.out (HT.out.below hG) q16).mono ?_
      rintro e w2 ⟨rfl, hd⟩
      have hb := below_drewN hd w1.heap.size
      clear hd q16
      go_wp2_with fail
      exact ⟨rfl, rfl, hb, rfl⟩
    refine Rg.steps_cons (fun x w1 hG hK => ?_) ?_
    · -- 18: t24 := Op.call { callee := Callee.value (Operand.func 21), args := #[Operand.tmp 23], argTypes := #[3] }
      have q17 : x 17 = .int .i64 (m : Int) := hK.1
      have q7 : x 7 = .bool false := hK.2.1
      clear hK
      simp only [Rg.fillOps, Act.put, List.take_succ_cons, List.take_zero, List.setIfInBounds_toArray, List.set_cons_zero, List.set_cons_succ, Nat.zero_add, Nat.reduceAdd]
      go_wp2_with fail
      refine (word_calls m _ hmlt).mono ?_
      rintro e w2 ⟨rfl, hb⟩
      go_wp2_with fail
      exact ⟨rfl, rfl, hb, rfl⟩
    refine Rg.steps_cons (fun x w1 hG hK => ?_) ?_
    · -- 19: t25 := Op.binOp BinOp.neq 50 (Operand.tmp 18) (Operand.tmp 24) 50
      have q12 : x 12 = .agg #[.int .u8 (a.toNat : Int), .int .u8 (b.toNat : Int), .int .u8 (c.toNat : Int), .int .u8 (d.toNat : Int)] := hK.1
      have q18 : x 18 = (.agg #[.int .u8 ((m : Int) / 16777216), .int .u8 ((m : Int) / 65536 % 256), .int .u8 ((m : Int) / 256 % 256), .int .u8 ((m : Int) % 256)]) := hK.2.1
      have q7 : x 7 = .bool false := hK.2.2.1
      clear hK
      simp only [Rg.fillOps, Act.put, List.take_succ_cons, List.take_zero, List.setIfInBounds_toArray, List.set_cons_zero, List.set_cons_succ, Nat.zero_add, Nat.reduceAdd]
      clear hG
      go_wp2
      exact ⟨rfl, rfl, Below.refl _ _, rfl⟩
    refine Rg.steps_cons (fun x w1 hG hK => ?_) ?_
    · -- 20: t26 := Op.pick (Operand.tmp 13) (Operand.const (Value.bool true)) (Operand.tmp 25)
      have q7 : x 7 = .bool false := hK.1
      have q19 : x 19 = .bool ne := hK.2.1
      clear hK
      simp only [Rg.fillOps, Act.put, List.take_succ_cons, List.take_zero, List.setIfInBounds_toArray, List.set_cons_zero, List.set_cons_succ, Nat.zero_add, Nat.reduceAdd]
      clear hG
      go_wp2
      exact ⟨rfl, rfl, Below.refl _ _, rfl⟩
    exact Rg.steps_nil
  case kept => exact Rg.kept_cons (Rg.kept_is _) (Rg.kept_cons (Rg.kept_is _) (Rg.kept_cons (Rg.kept_is _) (Rg.kept_cons (Rg.kept_is _) (Rg.kept_cons (Rg.kept_is _) (Rg.kept_cons (Rg.kept_is _) (Rg.kept_cons (Rg.kept_is _) (Rg.kept_cons (Rg.kept_is _) (Rg.kept_cons (Rg.kept_is _) (Rg.kept_cons (Rg.kept_is _) (Rg.kept_cons kept_OpBytes (Rg.kept_cons kept_OpPtr (Rg.kept_cons (Rg.kept_is _) (Rg.kept_cons (Rg.kept_is _) (Rg.kept_cons (Rg.kept_is _) (Rg.kept_cons (Rg.kept_is _) (Rg.kept_cons kept_OpStr (Rg.kept_cons (Rg.kept_is _) (Rg.kept_cons (Rg.kept_is _) (Rg.kept_cons (Rg.kept_is _) (Rg.kept_cons (Rg.kept_is _) (Rg.kept_nil)))))))))))))))))))))
  case fin =>
    intro x w1 hG hK
    have q0 : x 0 = .pointer (some ⟨B, 0, none⟩) := hK.1
    have q1 : x 1 = .bool false := hK.2.1
    have q2 : x 2 = .bool false := hK.2.2.1
    have q3 : x 3 = .string s := hK.2.2.2.1
    have q4 : x 4 = .int .i64 (s.size : Int) := hK.2.2.2.2.1
    have q5 : x 5 = .bool false := hK.2.2.2.2.2.1
    have q6 : x 6 = .bool false := hK.2.2.2.2.2.2.1
    have q7 : x 7 = .bool false := hK.2.2.2.2.2.2.2.1
    have q8 : x 8 = .string s := hK.2.2.2.2.2.2.2.2.1
    have q9 : x 9 = .string (s.extract 0 4) := hK.2.2.2.2.2.2.2.2.2.1
    have q10 : OpBytes a b c d (x 10) w1 := hK.2.2.2.2.2.2.2.2.2.2.1
    have q11 : OpPtr a b c d (x 11) w1 := hK.2.2.2.2.2.2.2.2.2.2.2.1
    have q12 : x 12 = .agg #[.int .u8 (a.toNat : Int), .int .u8 (b.toNat : Int), .int .u8 (c.toNat : Int), .int .u8 (d.toNat : Int)] := hK.2.2.2.2.2.2.2.2.2.2.2.2.1
    have q13 : x 13 = .pointer (some ⟨B, 0, none⟩) := hK.2.2.2.2.2.2.2.2.2.2.2.2.2.1
    have q14 : x 14 = .string s := hK.2.2.2.2.2.2.2.2.2.2.2.2.2.2.1
    have q15 : x 15 = .string (s.extract 4 s.size) := hK.2.2.2.2.2.2.2.2.2.2.2.2.2.2.2.1
    have q16 : OpStr (s.extract 4 s.size) (x 16) w1 := hK.2.2.2.2.2.2.2.2.2.2.2.2.2.2.2.2.1
    have q17 : x 17 = .int .i64 (m : Int) := hK.2.2.2.2.2.2.2.2.2.2.2.2.2.2.2.2.2.1
    have q18 : x 18 = (.agg #[.int .u8 ((m : Int) / 16777216), .int .u8 ((m : Int) / 65536 % 256), .int .u8 ((m : Int) / 256 % 256), .int .u8 ((m : Int) % 256)]) := hK.2.2.2.2.2.2.2.2.2.2.2.2.2.2.2.2.2.2.1
    have q19 : x 19 = .bool ne := hK.2.2.2.2.2.2.2.2.2.2.2.2.2.2.2.2.2.2.2.1
    have q20 : x 20 = .bool ne := hK.2.2.2.2.2.2.2.2.2.2.2.2.2.2.2.2.2.2.2.2.1
    clear hK
    simp only [Rg.fillOps, Act.put, List.setIfInBounds_toArray, List.set_cons_zero, List.set_cons_succ, Nat.zero_add, Nat.reduceAdd]
    simp only [q0, q1, q2, q3, q4, q5, q6, q7, q8, q9, q12, q13, q14, q15, q17, q18, q19, q20]
    have HG := Lib.hid hG
    clear hG q10 q11 q16 HN heq hcv
    cases ne with
    | false =>
      go_wp2_with fail
      go_ret2
      exact ⟨rfl, HG.out⟩
    | true =>
      go_wp2_with fail
      go_ret2
      exact ⟨rfl, HG.out⟩

end Go.Proofs.Ytdhokdjmobmpoaa.Crc
