/- CrcLinear: the walk. -/
import Derived.Test.YtdhokdjmobmpoaaWk9
namespace Go.Proofs.Ytdhokdjmobmpoaa.Crc
open Go.RowKit

/-- block g is a row of bytes, the first of them l -/
def BytesAt (w : World) (g : Nat) (l : List UInt8) : Prop := g < w.heap.size ∧ ∃ cs : Array Value, w.heap[g]? = some (.cells cs 5 (cs.size, cs.size + 1)) ∧ l.length ≤ cs.size ∧
  ∀ j (h : j < l.length), cs[j]? = some (.int .u8 (l[j].toNat : Int))
theorem BytesAt.below {w w' : World} {g : Nat} {l : List UInt8} (h : BytesAt w g l) (hb : Below w.heap.size w w') : BytesAt w' g l :=
  ⟨Nat.lt_of_lt_of_le h.1 hb.size, by obtain ⟨cs, h1, h2⟩ := h.2; exact ⟨cs, by rw [hb.block _ h.1]; exact h1, h2⟩⟩
theorem BytesAt.cell {w : World} {g : Nat} {l : List UInt8} (h : BytesAt w g l) (j : Nat) (hj : j < l.length) : w.cell? ⟨g, j, none⟩ = some (.int .u8 (l[j].toNat : Int)) := by
  obtain ⟨_, cs, h1, _, h3⟩ := h
  unfold World.cell?
  simp [h1, h3 j hj]
theorem BytesAt.free {w : World} {g : Nat} {l : List UInt8} (h : BytesAt w g l) (j : Nat) (hj : j < l.length) : w.frozen? ⟨g, j, none⟩ = false := by
  obtain ⟨_, cs, h1, h2, _⟩ := h
  unfold World.frozen?
  have : ¬ cs.size ≤ j := by omega
  simp [h1, this]
theorem BytesAt.set {w : World} {g : Nat} {l : List UInt8} (h : BytesAt w g l) (j : Nat) (hj : j < l.length) (b : UInt8) : BytesAt (w.setCell ⟨g, j, none⟩ (.int .u8 (b.toNat : Int))) g (l.set j b) := by
  obtain ⟨h0, cs, h1, h2, h3⟩ := h
  refine ⟨by simpa using h0, cs.setIfInBounds j (.int .u8 (b.toNat : Int)), ?_, by simpa using h2, fun i hi => ?_⟩
  · unfold World.setCell
    simp [Array.getElem?_modify, h1]
  · rw [List.length_set] at hi
    rw [Array.getElem?_setIfInBounds]
    by_cases e : j = i
    · subst e
      rw [if_pos rfl, if_pos (by omega), List.getElem_set_self]
    · rw [if_neg e, List.getElem_set_ne e]
      exact h3 i hi
theorem BytesAt.other {w : World} {g g' : Nat} {l : List UInt8} (h : BytesAt w g l) (hne : g' ≠ g) (j : Nat) (v : Value) : BytesAt (w.setCell ⟨g', j, none⟩ v) g l := by
  obtain ⟨h0, cs, h1, h2⟩ := h
  refine ⟨by simpa using h0, cs, ?_, h2⟩
  unfold World.setCell
  simp only [Array.getElem?_modify, if_neg hne]
  exact h1

/-- a value that is a row of bytes of its own -/
def OpRow (base n : Nat) (l : List UInt8) (v : Value) (w : World) : Prop := ∃ g cap, v = .slice (some ⟨g, 0, none⟩) n cap ∧ base ≤ g ∧ BytesAt w g l
theorem kept_OpRow {base n : Nat} {l : List UInt8} : Rg.Kept (OpRow base n l) := fun _ _ _ hb ⟨g, cap, h1, h2, h3⟩ => ⟨g, cap, h1, h2, h3.below hb⟩

theorem bytes_new (s : ByteArray) (l : List UInt8) (hl : s.data.toList = l) (W : World) (cap : Nat) :
    BytesAt (W.alloc (.cells (bytesRow s cap) 5 ((bytesRow s cap).size, (bytesRow s cap).size + 1))) W.heap.size l := by
  subst hl
  refine ⟨by simp, bytesRow s cap, ?_, by unfold bytesRow; simp, fun j hj => ?_⟩
  · show (W.heap.push _)[W.heap.size]? = _
    simp
  · rw [bytesRow_at _ _ _ (by simpa using hj)]
    simp

theorem opRow_new (s : ByteArray) (l : List UInt8) (hl : s.data.toList = l) (n : Nat) (W : World) (base : Nat) (hb : base ≤ W.heap.size) (cap : Nat) :
    OpRow base n l (.slice (some ⟨W.heap.size, 0, none⟩) n cap) (W.alloc (.cells (bytesRow s cap) 5 ((bytesRow s cap).size, (bytesRow s cap).size + 1))).drew :=
  ⟨_, _, rfl, hb, bytes_new s l hl W cap⟩

theorem fresh_new (W : World) (n cap : Nat) (o : Obj) : Rg.Fresh W (.slice (some ⟨W.heap.size, 0, none⟩) n cap) (W.alloc o).drew := fun b hb => by
  simp only [Rg.blk, Option.some.injEq] at hb
  subst hb
  exact ⟨Nat.le_refl _, by simp⟩

theorem conv_at {X : ByteArray} {l : List UInt8} {w : World} {g n : Nat} (hl : X.data.toList = l) (h : BytesAt w g l) (hn : n = l.length) (cap : Nat) :
    (convert 29 9 (.slice (some ⟨g, 0, none⟩) n cap)).run Try.prog w = .ok (.string X) w := by
  subst hn
  have := run_convert_bytes_back (P := Try.prog) w 29 9 5 ⟨g, 0, none⟩ cap l Try.underlying29 Try.underlying5 Try.underlying9 (fun j hj => by
    rw [Go.WideShapes.add_plain, Nat.zero_add]; exact h.cell j hj)
  rw [this, ← hl]

theorem sum_top1 (v : Value) (s : ByteArray) (x : Nat) {w : World} (hx : sum s.data.toList = x) (hs : StrsIn w v [s]) :
    Calls Try.prog 11 #[v] w fun e w' => e = .returned (.int .i64 (x : Int)) ∧ Below w.heap.size w w' := by
  have := sum_top v [s] w hs
  rw [show cat [s] = s.data.toList from by simp [cat], hx] at this
  exact this

/-- the first k bytes turned -/
def tu (a c : List UInt8) (k : Nat) : List UInt8 := List.zipWith (· ^^^ ·) (a.take k) (c.take k) ++ a.drop k
theorem tu_zero (a c : List UInt8) : tu a c 0 = a := by simp [tu]
theorem tu_length (a c : List UInt8) (k : Nat) (h : a.length ≤ c.length) : (tu a c k).length = a.length := by
  simp [tu]; omega
theorem tu_at (a c : List UInt8) (k : Nat) (hk : k < a.length) (h : a.length ≤ c.length) : (tu a c k)[k]? = some a[k] := by
  unfold tu
  have hz : (List.zipWith (· ^^^ ·) (a.take k) (c.take k)).length = k := by simp; omega
  rw [List.getElem?_append_right (by omega), hz, Nat.sub_self, List.getElem?_drop, Nat.add_zero]
  exact List.getElem?_eq_getElem hk
theorem tu_set (a c : List UInt8) (k : Nat) (hk : k < a.length) (h : a.length ≤ c.length) : (tu a c k).set k (a[k] ^^^ c[k]) = tu a c (k + 1) := by
  unfold tu
  rw [List.set_append_right _ _ (by simp; omega)]
  have hz : (List.zipWith (· ^^^ ·) (a.take k) (c.take k)).length = k := by simp; omega
  rw [hz, Nat.sub_self, List.take_succ_eq_append_getElem hk, List.take_succ_eq_append_getElem (show k < c.length by omega), List.zipWith_append (by simp; omega)]
  rw [List.drop_eq_getElem_cons hk, List.append_assoc]
  rfl
theorem tu_all (a c : List UInt8) (h : a.length ≤ c.length) : tu a c a.length = List.zipWith (· ^^^ ·) a (c.take a.length) := by
  unfold tu; simp

theorem head_list (a : ByteArray) (n : Nat) : (a.extract 0 n).data.toList = a.data.toList.take n := by
  rw [ByteArray.data_extract]
  simp [Array.toList_extract, List.extract_eq_take_drop]

theorem min4 (x y z : Nat) (W : World) : (Builtin.min_ #[3, 3, 3, 3] 3 #[.int .i64 (x : Int), .int .i64 (y : Int), .int .i64 (z : Int), .int .i64 500]).run Try.prog W = .ok (.int .i64 ((min (min (min x y) z) 500 : Nat) : Int)) W := by
  simp [Builtin.min_, Builtin.min2]
  omega

set_option maxRecDepth 100000 in
set_option maxHeartbeats 2000000 in
theorem linear_walk (a b c : ByteArray) (w : World) (ha : a.size ≤ 9223372036854775807) (hb : b.size ≤ 9223372036854775807) (hc : c.size ≤ 9223372036854775807) :
    Calls Try.prog 4 #[.string a, .string b, .string c] w fun e w' => e = .returned (.bool true) ∧ Below w.heap.size w w' := by
  have hmin := min4 a.size b.size c.size
  obtain ⟨N, hN⟩ : ∃ N, min (min (min a.size b.size) c.size) 500 = N := ⟨_, rfl⟩
  rw [hN] at hmin
  have na : N ≤ a.size := by omega
  have nb : N ≤ b.size := by omega
  have nc : N ≤ c.size := by omega
  have n5 : N ≤ 500 := by omega
  clear hN
  have nai : (N : Int) ≤ (a.size : Int) := by omega
  have nbi : (N : Int) ≤ (b.size : Int) := by omega
  obtain ⟨la, hla⟩ : ∃ la, (a.extract 0 N).data.toList = la := ⟨_, rfl⟩
  obtain ⟨lb, hlb⟩ : ∃ lb, (b.extract 0 N).data.toList = lb := ⟨_, rfl⟩
  have hlla : la.length = N := by rw [← hla, head_list]; simp; omega
  have hllb : lb.length = N := by rw [← hlb, head_list]; simp; omega
  have HLA := Lib.hid hla
  have HLB := Lib.hid hlb
  have HNA := Lib.hid hlla
  have HNB := Lib.hid hllb
  clear hla hlb hlla hllb
  have hcva := fun W => run_bytes_of_string (P := Try.prog) W 9 29 5 (a.extract 0 N) Try.underlying9 Try.underlying29 Try.underlying5
  have hcvb := fun W => run_bytes_of_string (P := Try.prog) W 9 29 5 (b.extract 0 N) Try.underlying9 Try.underlying29 Try.underlying5
  go_enter Try.func4, Try.ntmps4
  go_wp2_with fail
  refine (awake_calls _).mono ?_
  rintro e wa ⟨rfl, hb1⟩
  have HB1 := Lib.hid hb1
  clear hb1
  go_wp2_with fail
  refine Rg.region_rgo [Rg.Is (.string a),
    Rg.Is (.int .i64 (N : Int)),
    Rg.Is (.string (a.extract 0 N)),
    OpRow w.heap.size N la,
    Rg.Is (.string b),
    Rg.Is (.int .i64 (N : Int)),
    Rg.Is (.string (b.extract 0 N)),
    OpRow w.heap.size N lb,
    OpRow w.heap.size N la,
    OpRow w.heap.size N lb]
    [[], [], [0, 1], [2], [], [], [4, 5], [6], [3], [7]] [3, 7] [(8, 3), (9, 7)] (by kernel_rfl) (by kernel_rfl) (by kernel_rfl) (by kernel_rfl) (by kernel_rfl) ?kept ?steps ?fin
  case steps =>
    refine Rg.steps_cons (fun x w1 hG hK => ?_) ?_
    · -- 0: t20 := Op.move (Operand.tmp 0)
      clear hK
      simp only [Rg.fillOps, Act.put, List.take_succ_cons, List.take_zero, List.setIfInBounds_toArray, List.set_cons_zero, List.set_cons_succ, Nat.zero_add, Nat.reduceAdd]
      clear hG
      go_wp2
      exact ⟨rfl, rfl, Below.refl _ _, rfl, Rg.none_own (by kernel_rfl), Rg.none_cp (by kernel_rfl)⟩
    refine Rg.steps_cons (fun x w1 hG hK => ?_) ?_
    · -- 1: t21 := Op.move (Operand.tmp 7)
      clear hK
      simp only [Rg.fillOps, Act.put, List.take_succ_cons, List.take_zero, List.setIfInBounds_toArray, List.set_cons_zero, List.set_cons_succ, Nat.zero_add, Nat.reduceAdd]
      clear hG
      go_wp2
      exact ⟨rfl, rfl, Below.refl _ _, rfl, Rg.none_own (by kernel_rfl), Rg.none_cp (by kernel_rfl)⟩
    refine Rg.steps_cons (fun x w1 hG hK => ?_) ?_
    · -- 2: t22 := Op.slice 9 (Operand.tmp 20) none (some (Operand.tmp 21)) none
      have q0 : x 0 = .string a := hK.1
      have q1 : x 1 = .int .i64 (N : Int) := hK.2.1
      clear hK
      simp only [Rg.fillOps, Act.put, List.take_succ_cons, List.take_zero, List.setIfInBounds_toArray, List.set_cons_zero, List.set_cons_succ, Nat.zero_add, Nat.reduceAdd]
      clear hG
      go_wp2
      exact ⟨rfl, rfl, Below.refl _ _, rfl, Rg.none_own (by kernel_rfl), Rg.none_cp (by kernel_rfl)⟩
    refine Rg.steps_cons (fun x w1 hG hK => ?_) ?_
    · -- 3: t23 := Op.convert 9 29 (Operand.tmp 22)
      have q2 : x 2 = .string (a.extract 0 N) := hK.1
      clear hK
      simp only [Rg.fillOps, Act.put, List.take_succ_cons, List.take_zero, List.setIfInBounds_toArray, List.set_cons_zero, List.set_cons_succ, Nat.zero_add, Nat.reduceAdd]
      go_wp2_with fail
      exact ⟨rfl, rfl, ((Below.refl _ _).alloc (Nat.le_refl _) _).drew, opRow_new _ _ HLA.out _ w1 _ (Nat.le_trans HB1.out.size hG.size) _, fun _ => fresh_new _ _ _ _, Rg.none_cp (by kernel_rfl)⟩
    refine Rg.steps_cons (fun x w1 hG hK => ?_) ?_
    · -- 4: t24 := Op.move (Operand.tmp 1)
      clear hK
      simp only [Rg.fillOps, Act.put, List.take_succ_cons, List.take_zero, List.setIfInBounds_toArray, List.set_cons_zero, List.set_cons_succ, Nat.zero_add, Nat.reduceAdd]
      clear hG
      go_wp2
      exact ⟨rfl, rfl, Below.refl _ _, rfl, Rg.none_own (by kernel_rfl), Rg.none_cp (by kernel_rfl)⟩
    refine Rg.steps_cons (fun x w1 hG hK => ?_) ?_
    · -- 5: t25 := Op.move (Operand.tmp 7)
      clear hK
      simp only [Rg.fillOps, Act.put, List.take_succ_cons, List.take_zero, List.setIfInBounds_toArray, List.set_cons_zero, List.set_cons_succ, Nat.zero_add, Nat.reduceAdd]
      clear hG
      go_wp2
      exact ⟨rfl, rfl, Below.refl _ _, rfl, Rg.none_own (by kernel_rfl), Rg.none_cp (by kernel_rfl)⟩
    refine Rg.steps_cons (fun x w1 hG hK => ?_) ?_
    · -- 6: t26 := Op.slice 9 (Operand.tmp 24) none (some (Operand.tmp 25)) none
      have q4 : x 4 = .string b := hK.1
      have q5 : x 5 = .int .i64 (N : Int) := hK.2.1
      clear hK
      simp only [Rg.fillOps, Act.put, List.take_succ_cons, List.take_zero, List.setIfInBounds_toArray, List.set_cons_zero, List.set_cons_succ, Nat.zero_add, Nat.reduceAdd]
      clear hG
      go_wp2
      exact ⟨rfl, rfl, Below.refl _ _, rfl, Rg.none_own (by kernel_rfl), Rg.none_cp (by kernel_rfl)⟩
    refine Rg.steps_cons (fun x w1 hG hK => ?_) ?_
    · -- 7: t27 := Op.convert 9 29 (Operand.tmp 26)
      have q6 : x 6 = .string (b.extract 0 N) := hK.1
      clear hK
      simp only [Rg.fillOps, Act.put, List.take_succ_cons, List.take_zero, List.setIfInBounds_toArray, List.set_cons_zero, List.set_cons_succ, Nat.zero_add, Nat.reduceAdd]
      go_wp2_with fail
      exact ⟨rfl, rfl, ((Below.refl _ _).alloc (Nat.le_refl _) _).drew, opRow_new _ _ HLB.out _ w1 _ (Nat.le_trans HB1.out.size hG.size) _, fun _ => fresh_new _ _ _ _, Rg.none_cp (by kernel_rfl)⟩
    refine Rg.steps_cons (fun x w1 hG hK => ?_) ?_
    · -- 8: t8 := Op.assign (Operand.tmp 23)
      have q3 : OpRow w.heap.size N la (x 3) w1 := hK.1
      clear hK
      simp only [Rg.fillOps, Act.put, List.take_succ_cons, List.take_zero, List.setIfInBounds_toArray, List.set_cons_zero, List.set_cons_succ, Nat.zero_add, Nat.reduceAdd]
      clear hG
      go_wp2
      exact ⟨rfl, rfl, Below.refl _ _, q3, Rg.none_own (by kernel_rfl), fun j hj => by simp at hj; subst hj; rfl⟩
    refine Rg.steps_cons (fun x w1 hG hK => ?_) ?_
    · -- 9: t9 := Op.assign (Operand.tmp 27)
      have q7 : OpRow w.heap.size N lb (x 7) w1 := hK.1
      clear hK
      simp only [Rg.fillOps, Act.put, List.take_succ_cons, List.take_zero, List.setIfInBounds_toArray, List.set_cons_zero, List.set_cons_succ, Nat.zero_add, Nat.reduceAdd]
      clear hG
      go_wp2
      exact ⟨rfl, rfl, Below.refl _ _, q7, Rg.none_own (by kernel_rfl), fun j hj => by simp at hj; subst hj; rfl⟩
    exact Rg.steps_nil
  case kept => exact Rg.kept_cons (Rg.kept_is _) (Rg.kept_cons (Rg.kept_is _) (Rg.kept_cons (Rg.kept_is _) (Rg.kept_cons kept_OpRow (Rg.kept_cons (Rg.kept_is _) (Rg.kept_cons (Rg.kept_is _) (Rg.kept_cons (Rg.kept_is _) (Rg.kept_cons kept_OpRow (Rg.kept_cons kept_OpRow (Rg.kept_cons kept_OpRow (Rg.kept_nil))))))))))
  case fin =>
    intro x w1 hG hA hC hK
    have q0 : x 0 = .string a := hK.1
    have q1 : x 1 = .int .i64 (N : Int) := hK.2.1
    have q2 : x 2 = .string (a.extract 0 N) := hK.2.2.1
    have q3 : OpRow w.heap.size N la (x 3) w1 := hK.2.2.2.1
    have q4 : x 4 = .string b := hK.2.2.2.2.1
    have q5 : x 5 = .int .i64 (N : Int) := hK.2.2.2.2.2.1
    have q6 : x 6 = .string (b.extract 0 N) := hK.2.2.2.2.2.2.1
    have q7 : OpRow w.heap.size N lb (x 7) w1 := hK.2.2.2.2.2.2.2.1
    have q8 : OpRow w.heap.size N la (x 8) w1 := hK.2.2.2.2.2.2.2.2.1
    have q9 : OpRow w.heap.size N lb (x 9) w1 := hK.2.2.2.2.2.2.2.2.2.1
    clear hK
    simp only [Rg.fillOps, Act.put, List.setIfInBounds_toArray, List.set_cons_zero, List.set_cons_succ, Nat.zero_add, Nat.reduceAdd]
    simp only [q0, q1, q2, q4, q5, q6]
    obtain ⟨gx, cx, e3, hgx, hbx⟩ := q3
    obtain ⟨gy, cy, e7, hgy, hby⟩ := q7
    have hne : gx ≠ gy := fun e => hA 3 (by simp) 7 (by simp) (by decide) gx (by rw [e3]; rfl) (by rw [e7, e]; rfl)
    have e8 : x 8 = .slice (some ⟨gx, 0, none⟩) N cx := (hC (8, 3) (by simp)).trans e3
    have e9 : x 9 = .slice (some ⟨gy, 0, none⟩) N cy := (hC (9, 7) (by simp)).trans e7
    simp only [e8, e9, e3, e7]
    have HBX := Lib.hid hbx
    have HBY := Lib.hid hby
    have HBW := Lib.hid (HB1.out.trans (hG.mono HB1.out.size))
    have HGX := Lib.hid hgx
    have HGY := Lib.hid hgy
    clear q0 q1 q2 q4 q5 q6 q8 q9 hA hC e3 e7 e8 e9 hbx hby hG hgx hgy hcva hcvb hmin HB1 x wa
    have nci : (N : Int) ≤ (c.size : Int) := by omega
    go_wp2_with fail
    go_loopw [30] (fun i wr => ∃ k : Nat, k ≤ N ∧ i = .int .i64 k ∧ Hid (BytesAt wr gx (tu la c.data.toList k)) ∧ Hid (BytesAt wr gy (tu lb c.data.toList k)) ∧ Hid (Below w.heap.size w wr)) (fun i _ => N - (intOf i).toNat)
    case atStart => exact ⟨0, Nat.zero_le _, rfl, by rw [tu_zero]; exact HBX, by rw [tu_zero]; exact HBY, HBW⟩
    case round =>
      obtain ⟨k, hk, rfl, HX, HY, HW⟩ := hrel
      clear HBX HBY HBW
      by_cases hlt : k < N
      · have hki : (k : Int) < (N : Int) := by omega
        have d1 : decide ((k : Int) < (N : Int)) = true := by simp; omega
        have hkc : k < c.size := by omega
        have hkci : (k : Int) < (c.size : Int) := by omega
        have hcl : k < c.data.toList.length := by rw [size_list]; exact hkc
        have hca : la.length ≤ c.data.toList.length := by rw [size_list, HNA.out]; exact nc
        have hcb : lb.length ≤ c.data.toList.length := by rw [size_list, HNB.out]; exact nc
        have hka : k < la.length := by rw [HNA.out]; exact hlt
        have hkb : k < lb.length := by rw [HNB.out]; exact hlt
        have hxc := HX.out.cell k (by rw [tu_length _ _ _ hca]; exact hka)
        have hxe : (tu la c.data.toList k)[k]'(by rw [tu_length _ _ _ hca]; exact hka) = la[k] := by
          have := tu_at la c.data.toList k hka hca
          rw [List.getElem?_eq_getElem (by rw [tu_length _ _ _ hca]; exact hka)] at this
          exact Option.some.inj this
        rw [hxe] at hxc
        have hxf := HX.out.free k (by rw [tu_length _ _ _ hca]; exact hka)
        have hxs := HX.out.set k (by rw [tu_length _ _ _ hca]; exact hka) (la[k] ^^^ c.data.toList[k])
        rw [tu_set _ _ _ hka hca] at hxs
        have hbx : Go.bits .xor .u8 (la[k].toNat : Int) ((c[k]'hkc).toNat : Int) = ((la[k] ^^^ c.data.toList[k]).toNat : Int) := by
          rw [UInt8.toNat_xor]; exact u8_xor_nat _ _ la[k].toNat_lt (c[k]'hkc).toNat_lt
        generalize la[k] ^^^ c.data.toList[k] = b1 at *
        have hyo := HY.out.other hne k (.int .u8 (b1.toNat : Int))
        have HXS : Hid (BytesAt (wr.setCell ⟨gx, k, none⟩ (.int .u8 (b1.toNat : Int))).drew gx (tu la c.data.toList (k + 1))) := Lib.hid hxs
        have HYO : Hid (BytesAt (wr.setCell ⟨gx, k, none⟩ (.int .u8 (b1.toNat : Int))).drew gy (tu lb c.data.toList k)) := Lib.hid hyo
        have HWO : Hid (Below w.heap.size w (wr.setCell ⟨gx, k, none⟩ (.int .u8 (b1.toNat : Int))).drew) := Lib.hid ((HW.out.setCell HGX.out _).drew)
        clear hxe hxs hyo
        go_wp2_with fail
        refine wp_region_still_tail 9 (by kernel_rfl) (by kernel_rfl) ?_
        simp only [List.take_succ_cons, List.take_zero, List.drop_succ_cons, List.drop_zero]
        change wpStill _ _ wr.drew _ _ _
        repeat still_step
        refine wpStill_nil ?_
        go_wp2_with fail
        generalize (wr.setCell ⟨gx, k, none⟩ (.int .u8 (b1.toNat : Int))).drew = wm at *
        clear hxc hxf hbx HX HY HW
        have hyc := HYO.out.cell k (by rw [tu_length _ _ _ hcb]; exact hkb)
        have hye : (tu lb c.data.toList k)[k]'(by rw [tu_length _ _ _ hcb]; exact hkb) = lb[k] := by
          have := tu_at lb c.data.toList k hkb hcb
          rw [List.getElem?_eq_getElem (by rw [tu_length _ _ _ hcb]; exact hkb)] at this
          exact Option.some.inj this
        rw [hye] at hyc
        have hyf := HYO.out.free k (by rw [tu_length _ _ _ hcb]; exact hkb)
        have hys := HYO.out.set k (by rw [tu_length _ _ _ hcb]; exact hkb) (lb[k] ^^^ c.data.toList[k])
        rw [tu_set _ _ _ hkb hcb] at hys
        have hby : Go.bits .xor .u8 (lb[k].toNat : Int) ((c[k]'hkc).toNat : Int) = ((lb[k] ^^^ c.data.toList[k]).toNat : Int) := by
          rw [UInt8.toNat_xor]; exact u8_xor_nat _ _ lb[k].toNat_lt (c[k]'hkc).toNat_lt
        generalize lb[k] ^^^ c.data.toList[k] = b2 at *
        have hxo := HXS.out.other (fun e => hne e.symm) k (.int .u8 (b2.toNat : Int))
        have HX2 : Hid (BytesAt (wm.setCell ⟨gy, k, none⟩ (.int .u8 (b2.toNat : Int))).drew gx (tu la c.data.toList (k + 1))) := Lib.hid hxo
        have HY2 : Hid (BytesAt (wm.setCell ⟨gy, k, none⟩ (.int .u8 (b2.toNat : Int))).drew gy (tu lb c.data.toList (k + 1))) := Lib.hid hys
        have HW2 : Hid (Below w.heap.size w (wm.setCell ⟨gy, k, none⟩ (.int .u8 (b2.toNat : Int))).drew) := Lib.hid ((HWO.out.setCell HGY.out _).drew)
        clear hye hys hxo
        refine wp_region_still_tail 9 (by kernel_rfl) (by kernel_rfl) ?_
        simp only [List.take_succ_cons, List.take_zero, List.drop_succ_cons, List.drop_zero]
        change wpStill _ _ wm.drew _ _ _
        repeat still_step
        refine wpStill_nil ?_
        go_wp2_with fail
        go_roundw
        case rel => exact ⟨k + 1, by omega, by go_num, HX2, HY2, HW2⟩
        case measure => simp [intOf]; omega
      · have d1 : decide ((k : Int) < (N : Int)) = false := by simp; omega
        have hkN : k = N := by omega
        have hca : la.length ≤ c.data.toList.length := by rw [size_list, HNA.out]; exact nc
        have hcb : lb.length ≤ c.data.toList.length := by rw [size_list, HNB.out]; exact nc
        obtain ⟨X, HLX⟩ : ∃ X : ByteArray, Hid (X.data.toList = tu la c.data.toList N) := ⟨⟨⟨tu la c.data.toList N⟩⟩, Lib.hid rfl⟩
        obtain ⟨Y, HLY⟩ : ∃ Y : ByteArray, Hid (Y.data.toList = tu lb c.data.toList N) := ⟨⟨⟨tu lb c.data.toList N⟩⟩, Lib.hid rfl⟩
        have HBX : Hid (BytesAt wr gx (tu la c.data.toList N)) := by rw [← hkN]; exact HX
        have HBY : Hid (BytesAt wr gy (tu lb c.data.toList N)) := by rw [← hkN]; exact HY
        have HLNX : Hid (N = (tu la c.data.toList N).length) := Lib.hid (by rw [tu_length _ _ _ hca, HNA.out])
        have HLNY : Hid (N = (tu lb c.data.toList N).length) := Lib.hid (by rw [tu_length _ _ _ hcb, HNB.out])
        have HAS : Hid ((a.extract 0 N).size ≤ 140737488355328) := Lib.hid (by rw [← size_list, HLA.out, HNA.out]; omega)
        have HBS : Hid ((b.extract 0 N).size ≤ 140737488355328) := Lib.hid (by rw [← size_list, HLB.out, HNB.out]; omega)
        have HXS : Hid (X.size ≤ 140737488355328) := Lib.hid (by rw [← size_list, HLX.out, ← HLNX.out]; omega)
        have HYS : Hid (Y.size ≤ 140737488355328) := Lib.hid (by rw [← size_list, HLY.out, ← HLNY.out]; omega)
        obtain ⟨m1, H1⟩ : ∃ m, Hid (sum (a.extract 0 N).data.toList = m) := ⟨_, Lib.hid rfl⟩
        obtain ⟨m2, H2⟩ : ∃ m, Hid (sum (b.extract 0 N).data.toList = m) := ⟨_, Lib.hid rfl⟩
        obtain ⟨m3, H3⟩ : ∃ m, Hid (sum X.data.toList = m) := ⟨_, Lib.hid rfl⟩
        obtain ⟨m4, H4⟩ : ∃ m, Hid (sum Y.data.toList = m) := ⟨_, Lib.hid rfl⟩
        have hlin : m1 ^^^ m2 = m3 ^^^ m4 := by
          rw [← H1.out, ← H2.out, ← H3.out, ← H4.out, HLA.out, HLB.out, HLX.out, HLY.out]
          have e1 : tu la c.data.toList N = List.zipWith (· ^^^ ·) la (c.data.toList.take N) := by
            have := tu_all la c.data.toList hca
            rwa [HNA.out] at this
          have e2 : tu lb c.data.toList N = List.zipWith (· ^^^ ·) lb (c.data.toList.take N) := by
            have := tu_all lb c.data.toList hcb
            rwa [HNB.out] at this
          rw [e1, e2]
          refine sum_linear la lb (c.data.toList.take N) ?_ ?_
          · rw [List.length_take, size_list, HNA.out]; omega
          · rw [List.length_take, size_list, HNB.out]; omega
        have hx1 : Go.bits .xor .i64 (m1 : Int) (m2 : Int) = ((m1 ^^^ m2 : Nat) : Int) := i64_xor_nat m1 m2 (by have := sum_lt (a.extract 0 N).data.toList; rw [H1.out] at this; omega) (by have := sum_lt (b.extract 0 N).data.toList; rw [H2.out] at this; omega)
        have hx2 : Go.bits .xor .i64 (m3 : Int) (m4 : Int) = ((m3 ^^^ m4 : Nat) : Int) := i64_xor_nat m3 m4 (by have := sum_lt X.data.toList; rw [H3.out] at this; omega) (by have := sum_lt Y.data.toList; rw [H4.out] at this; omega)
        rw [hlin] at hx1
        generalize m3 ^^^ m4 = mm at *
        clear hlin HX HY hkN hca hcb
        go_wp2_with fail
        refine Rg.region_rg' [Rg.Is (.string a),
          Rg.Is (.int .i64 (N : Int)),
          Rg.Is (.string (a.extract 0 N)),
          OpStr (a.extract 0 N),
          Rg.Is (.int .i64 (m1 : Int)),
          Rg.Is (.string b),
          Rg.Is (.int .i64 (N : Int)),
          Rg.Is (.string (b.extract 0 N)),
          OpStr (b.extract 0 N),
          Rg.Is (.int .i64 (m2 : Int)),
          Rg.Is (.int .i64 (mm : Int)),
          Rg.Is (.slice (some ⟨gx, 0, none⟩) N cx),
          Rg.Is (.string X),
          OpStr X,
          Rg.Is (.int .i64 (m3 : Int)),
          Rg.Is (.slice (some ⟨gy, 0, none⟩) N cy),
          Rg.Is (.string Y),
          OpStr Y,
          Rg.Is (.int .i64 (m4 : Int)),
          Rg.Is (.int .i64 (mm : Int)),
          Rg.Is (.bool true),
          Rg.Is (.bool true)]
          [[], [], [0, 1], [2], [3], [], [], [5, 6], [7], [8], [4, 9], [], [11], [12], [13], [], [15], [16], [17], [14, 18], [10, 19], [20]] (by kernel_rfl) (by kernel_rfl) (by kernel_rfl) ?kept ?steps ?fin
        case steps =>
          refine Rg.steps_cons (fun x w1 hG hK => ?_) ?_
          · -- 0: t52 := Op.move (Operand.tmp 0)
            clear hK
            simp only [Rg.fillOps, Act.put, List.take_succ_cons, List.take_zero, List.setIfInBounds_toArray, List.set_cons_zero, List.set_cons_succ, Nat.zero_add, Nat.reduceAdd]
            clear hG
            go_wp2
            exact ⟨rfl, rfl, Below.refl _ _, rfl⟩
          refine Rg.steps_cons (fun x w1 hG hK => ?_) ?_
          · -- 1: t53 := Op.move (Operand.tmp 7)
            clear hK
            simp only [Rg.fillOps, Act.put, List.take_succ_cons, List.take_zero, List.setIfInBounds_toArray, List.set_cons_zero, List.set_cons_succ, Nat.zero_add, Nat.reduceAdd]
            clear hG
            go_wp2
            exact ⟨rfl, rfl, Below.refl _ _, rfl⟩
          refine Rg.steps_cons (fun x w1 hG hK => ?_) ?_
          · -- 2: t54 := Op.slice 9 (Operand.tmp 52) none (some (Operand.tmp 53)) none
            have q0 : x 0 = .string a := hK.1
            have q1 : x 1 = .int .i64 (N : Int) := hK.2.1
            clear hK
            simp only [Rg.fillOps, Act.put, List.take_succ_cons, List.take_zero, List.setIfInBounds_toArray, List.set_cons_zero, List.set_cons_succ, Nat.zero_add, Nat.reduceAdd]
            clear hG
            go_wp2
            exact ⟨rfl, rfl, Below.refl _ _, rfl⟩
          refine Rg.steps_cons (fun x w1 hG hK => ?_) ?_
          · -- 3: t55 := Op.buildSlice 22 1 #[(0, Operand.tmp 54)]
            have q2 : x 2 = .string (a.extract 0 N) := hK.1
            clear hK
            simp only [Rg.fillOps, Act.put, List.take_succ_cons, List.take_zero, List.setIfInBounds_toArray, List.set_cons_zero, List.set_cons_succ, Nat.zero_add, Nat.reduceAdd]
            go_wp2_with fail
            exact ⟨rfl, rfl, (Below.refl _ _).alloc (Nat.le_refl _) _, strs_new1 w1 _ HAS.out⟩
          refine Rg.steps_cons (fun x w1 hG hK => ?_) ?_
          · -- 4: t56 := Op.call { callee := Callee.value (Operand.func 11), args := #[Operand.tmp 55], argTypes := #[22] }
            have q3 : OpStr (a.extract 0 N) (x 3) w1 := hK.1
            clear hK
            simp only [Rg.fillOps, Act.put, List.take_succ_cons, List.take_zero, List.setIfInBounds_toArray, List.set_cons_zero, List.set_cons_succ, Nat.zero_add, Nat.reduceAdd]
            go_wp2_with fail
            refine (sum_top1 _ _ _ H1.out q3).mono ?_
            rintro e w2 ⟨rfl, hb⟩
            go_wp2_with fail
            exact ⟨rfl, rfl, hb, rfl⟩
          refine Rg.steps_cons (fun x w1 hG hK => ?_) ?_
          · -- 5: t57 := Op.move (Operand.tmp 1)
            clear hK
            simp only [Rg.fillOps, Act.put, List.take_succ_cons, List.take_zero, List.setIfInBounds_toArray, List.set_cons_zero, List.set_cons_succ, Nat.zero_add, Nat.reduceAdd]
            clear hG
            go_wp2
            exact ⟨rfl, rfl, Below.refl _ _, rfl⟩
          refine Rg.steps_cons (fun x w1 hG hK => ?_) ?_
          · -- 6: t58 := Op.move (Operand.tmp 7)
            clear hK
            simp only [Rg.fillOps, Act.put, List.take_succ_cons, List.take_zero, List.setIfInBounds_toArray, List.set_cons_zero, List.set_cons_succ, Nat.zero_add, Nat.reduceAdd]
            clear hG
            go_wp2
            exact ⟨rfl, rfl, Below.refl _ _, rfl⟩
          refine Rg.steps_cons (fun x w1 hG hK => ?_) ?_
          · -- 7: t59 := Op.slice 9 (Operand.tmp 57) none (some (Operand.tmp 58)) none
            have q5 : x 5 = .string b := hK.1
            have q6 : x 6 = .int .i64 (N : Int) := hK.2.1
            clear hK
            simp only [Rg.fillOps, Act.put, List.take_succ_cons, List.take_zero, List.setIfInBounds_toArray, List.set_cons_zero, List.set_cons_succ, Nat.zero_add, Nat.reduceAdd]
            clear hG
            go_wp2
            exact ⟨rfl, rfl, Below.refl _ _, rfl⟩
          refine Rg.steps_cons (fun x w1 hG hK => ?_) ?_
          · -- 8: t60 := Op.buildSlice 22 1 #[(0, Operand.tmp 59)]
            have q7 : x 7 = .string (b.extract 0 N) := hK.1
            clear hK
            simp only [Rg.fillOps, Act.put, List.take_succ_cons, List.take_zero, List.setIfInBounds_toArray, List.set_cons_zero, List.set_cons_succ, Nat.zero_add, Nat.reduceAdd]
            go_wp2_with fail
            exact ⟨rfl, rfl, (Below.refl _ _).alloc (Nat.le_refl _) _, strs_new1 w1 _ HBS.out⟩
          refine Rg.steps_cons (fun x w1 hG hK => ?_) ?_
          · -- 9: t61 := Op.call { callee := Callee.value (Operand.func 11), args := #[Operand.tmp 60], argTypes := #[22] }
            have q8 : OpStr (b.extract 0 N) (x 8) w1 := hK.1
            clear hK
            simp only [Rg.fillOps, Act.put, List.take_succ_cons, List.take_zero, List.setIfInBounds_toArray, List.set_cons_zero, List.set_cons_succ, Nat.zero_add, Nat.reduceAdd]
            go_wp2_with fail
            refine (sum_top1 _ _ _ H2.out q8).mono ?_
            rintro e w2 ⟨rfl, hb⟩
            go_wp2_with fail
            exact ⟨rfl, rfl, hb, rfl⟩
          refine Rg.steps_cons (fun x w1 hG hK => ?_) ?_
          · -- 10: t62 := Op.binOp BinOp.xor 3 (Operand.tmp 56) (Operand.tmp 61) 3
            have q4 : x 4 = .int .i64 (m1 : Int) := hK.1
            have q9 : x 9 = .int .i64 (m2 : Int) := hK.2.1
            clear hK
            simp only [Rg.fillOps, Act.put, List.take_succ_cons, List.take_zero, List.setIfInBounds_toArray, List.set_cons_zero, List.set_cons_succ, Nat.zero_add, Nat.reduceAdd]
            clear hG
            go_wp2
            exact ⟨rfl, rfl, Below.refl _ _, rfl⟩
          refine Rg.steps_cons (fun x w1 hG hK => ?_) ?_
          · -- 11: t63 := Op.move (Operand.tmp 8)
            clear hK
            simp only [Rg.fillOps, Act.put, List.take_succ_cons, List.take_zero, List.setIfInBounds_toArray, List.set_cons_zero, List.set_cons_succ, Nat.zero_add, Nat.reduceAdd]
            clear hG
            go_wp2
            exact ⟨rfl, rfl, Below.refl _ _, rfl⟩
          refine Rg.steps_cons (fun x w1 hG hK => ?_) ?_
          · -- 12: t64 := Op.convert 29 9 (Operand.tmp 63)
            have q11 : x 11 = .slice (some ⟨gx, 0, none⟩) N cx := hK.1
            clear hK
            simp only [Rg.fillOps, Act.put, List.take_succ_cons, List.take_zero, List.setIfInBounds_toArray, List.set_cons_zero, List.set_cons_succ, Nat.zero_add, Nat.reduceAdd]
            have hcv := conv_at HLX.out (HBX.out.below hG) HLNX.out cx
            go_wp2_with fail
            exact ⟨rfl, rfl, Below.refl _ _, rfl⟩
          refine Rg.steps_cons (fun x w1 hG hK => ?_) ?_
          · -- 13: t65 := Op.buildSlice 22 1 #[(0, Operand.tmp 64)]
            have q12 : x 12 = .string X := hK.1
            clear hK
            simp only [Rg.fillOps, Act.put, List.take_succ_cons, List.take_zero, List.setIfInBounds_toArray, List.set_cons_zero, List.set_cons_succ, Nat.zero_add, Nat.reduceAdd]
            go_wp2_with fail
            exact ⟨rfl, rfl, (Below.refl _ _).alloc (Nat.le_refl _) _, strs_new1 w1 _ HXS.out⟩
          refine Rg.steps_cons (fun x w1 hG hK => ?_) ?_
          · -- 14: t66 := Op.call { callee := Callee.value (Operand.func 11), args := #[Operand.tmp 65], argTypes := #[22] }
            have q13 : OpStr X (x 13) w1 := hK.1
            clear hK
            simp only [Rg.fillOps, Act.put, List.take_succ_cons, List.take_zero, List.setIfInBounds_toArray, List.set_cons_zero, List.set_cons_succ, Nat.zero_add, Nat.reduceAdd]
            go_wp2_with fail
            refine (sum_top1 _ _ _ H3.out q13).mono ?_
            rintro e w2 ⟨rfl, hb⟩
            go_wp2_with fail
            exact ⟨rfl, rfl, hb, rfl⟩
          refine Rg.steps_cons (fun x w1 hG hK => ?_) ?_
          · -- 15: t67 := Op.move (Operand.tmp 9)
            clear hK
            simp only [Rg.fillOps, Act.put, List.take_succ_cons, List.take_zero, List.setIfInBounds_toArray, List.set_cons_zero, List.set_cons_succ, Nat.zero_add, Nat.reduceAdd]
            clear hG
            go_wp2
            exact ⟨rfl, rfl, Below.refl _ _, rfl⟩
          refine Rg.steps_cons (fun x w1 hG hK => ?_) ?_
          · -- 16: t68 := Op.convert 29 9 (Operand.tmp 67)
            have q15 : x 15 = .slice (some ⟨gy, 0, none⟩) N cy := hK.1
            clear hK
            simp only [Rg.fillOps, Act.put, List.take_succ_cons, List.take_zero, List.setIfInBounds_toArray, List.set_cons_zero, List.set_cons_succ, Nat.zero_add, Nat.reduceAdd]
            have hcv := conv_at HLY.out (HBY.out.below hG) HLNY.out cy
            go_wp2_with fail
            exact ⟨rfl, rfl, Below.refl _ _, rfl⟩
          refine Rg.steps_cons (fun x w1 hG hK => ?_) ?_
          · -- 17: t69 := Op.buildSlice 22 1 #[(0, Operand.tmp 68)]
            have q16 : x 16 = .string Y := hK.1
            clear hK
            simp only [Rg.fillOps, Act.put, List.take_succ_cons, List.take_zero, List.setIfInBounds_toArray, List.set_cons_zero, List.set_cons_succ, Nat.zero_add, Nat.reduceAdd]
            go_wp2_with fail
            exact ⟨rfl, rfl, (Below.refl _ _).alloc (Nat.le_refl _) _, strs_new1 w1 _ HYS.out⟩
          refine Rg.steps_cons (fun x w1 hG hK => ?_) ?_
          · -- 18: t70 := Op.call { callee := Callee.value (Operand.func 11), args := #[Operand.tmp 69], argTypes := #[22] }
            have q17 : OpStr Y (x 17) w1 := hK.1
            clear hK
            simp only [Rg.fillOps, Act.put, List.take_succ_cons, List.take_zero, List.setIfInBounds_toArray, List.set_cons_zero, List.set_cons_succ, Nat.zero_add, Nat.reduceAdd]
            go_wp2_with fail
            refine (sum_top1 _ _ _ H4.out q17).mono ?_
            rintro e w2 ⟨rfl, hb⟩
            go_wp2_with fail
            exact ⟨rfl, rfl, hb, rfl⟩
          refine Rg.steps_cons (fun x w1 hG hK => ?_) ?_
          · -- 19: t71 := Op.binOp BinOp.xor 3 (Operand.tmp 66) (Operand.tmp 70) 3
            have q14 : x 14 = .int .i64 (m3 : Int) := hK.1
            have q18 : x 18 = .int .i64 (m4 : Int) := hK.2.1
            clear hK
            simp only [Rg.fillOps, Act.put, List.take_succ_cons, List.take_zero, List.setIfInBounds_toArray, List.set_cons_zero, List.set_cons_succ, Nat.zero_add, Nat.reduceAdd]
            clear hG
            go_wp2
            exact ⟨rfl, rfl, Below.refl _ _, rfl⟩
          refine Rg.steps_cons (fun x w1 hG hK => ?_) ?_
          · -- 20: t72 := Op.binOp BinOp.eql 3 (Operand.tmp 62) (Operand.tmp 71) 3
            have q10 : x 10 = .int .i64 (mm : Int) := hK.1
            have q19 : x 19 = .int .i64 (mm : Int) := hK.2.1
            clear hK
            simp only [Rg.fillOps, Act.put, List.take_succ_cons, List.take_zero, List.setIfInBounds_toArray, List.set_cons_zero, List.set_cons_succ, Nat.zero_add, Nat.reduceAdd]
            clear hG
            go_wp2
            exact ⟨rfl, rfl, Below.refl _ _, rfl⟩
          refine Rg.steps_cons (fun x w1 hG hK => ?_) ?_
          · -- 21: t6 := Op.assign (Operand.tmp 72)
            have q20 : x 20 = .bool true := hK.1
            clear hK
            simp only [Rg.fillOps, Act.put, List.take_succ_cons, List.take_zero, List.setIfInBounds_toArray, List.set_cons_zero, List.set_cons_succ, Nat.zero_add, Nat.reduceAdd]
            clear hG
            go_wp2
            exact ⟨rfl, rfl, Below.refl _ _, q20⟩
          exact Rg.steps_nil
        case kept => exact Rg.kept_cons (Rg.kept_is _) (Rg.kept_cons (Rg.kept_is _) (Rg.kept_cons (Rg.kept_is _) (Rg.kept_cons kept_OpStr (Rg.kept_cons (Rg.kept_is _) (Rg.kept_cons (Rg.kept_is _) (Rg.kept_cons (Rg.kept_is _) (Rg.kept_cons (Rg.kept_is _) (Rg.kept_cons kept_OpStr (Rg.kept_cons (Rg.kept_is _) (Rg.kept_cons (Rg.kept_is _) (Rg.kept_cons (Rg.kept_is _) (Rg.kept_cons (Rg.kept_is _) (Rg.kept_cons kept_OpStr (Rg.kept_cons (Rg.kept_is _) (Rg.kept_cons (Rg.kept_is _) (Rg.kept_cons (Rg.kept_is _) (Rg.kept_cons kept_OpStr (Rg.kept_cons (Rg.kept_is _) (Rg.kept_cons (Rg.kept_is _) (Rg.kept_cons (Rg.kept_is _) (Rg.kept_cons (Rg.kept_is _) (Rg.kept_nil))))))))))))))))))))))
        case fin =>
          intro x w1 hG hK
          have q0 : x 0 = .string a := hK.1
          have q1 : x 1 = .int .i64 (N : Int) := hK.2.1
          have q2 : x 2 = .string (a.extract 0 N) := hK.2.2.1
          have q3 : OpStr (a.extract 0 N) (x 3) w1 := hK.2.2.2.1
          have q4 : x 4 = .int .i64 (m1 : Int) := hK.2.2.2.2.1
          have q5 : x 5 = .string b := hK.2.2.2.2.2.1
          have q6 : x 6 = .int .i64 (N : Int) := hK.2.2.2.2.2.2.1
          have q7 : x 7 = .string (b.extract 0 N) := hK.2.2.2.2.2.2.2.1
          have q8 : OpStr (b.extract 0 N) (x 8) w1 := hK.2.2.2.2.2.2.2.2.1
          have q9 : x 9 = .int .i64 (m2 : Int) := hK.2.2.2.2.2.2.2.2.2.1
          have q10 : x 10 = .int .i64 (mm : Int) := hK.2.2.2.2.2.2.2.2.2.2.1
          have q11 : x 11 = .slice (some ⟨gx, 0, none⟩) N cx := hK.2.2.2.2.2.2.2.2.2.2.2.1
          have q12 : x 12 = .string X := hK.2.2.2.2.2.2.2.2.2.2.2.2.1
          have q13 : OpStr X (x 13) w1 := hK.2.2.2.2.2.2.2.2.2.2.2.2.2.1
          have q14 : x 14 = .int .i64 (m3 : Int) := hK.2.2.2.2.2.2.2.2.2.2.2.2.2.2.1
          have q15 : x 15 = .slice (some ⟨gy, 0, none⟩) N cy := hK.2.2.2.2.2.2.2.2.2.2.2.2.2.2.2.1
          have q16 : x 16 = .string Y := hK.2.2.2.2.2.2.2.2.2.2.2.2.2.2.2.2.1
          have q17 : OpStr Y (x 17) w1 := hK.2.2.2.2.2.2.2.2.2.2.2.2.2.2.2.2.2.1
          have q18 : x 18 = .int .i64 (m4 : Int) := hK.2.2.2.2.2.2.2.2.2.2.2.2.2.2.2.2.2.2.1
          have q19 : x 19 = .int .i64 (mm : Int) := hK.2.2.2.2.2.2.2.2.2.2.2.2.2.2.2.2.2.2.2.1
          have q20 : x 20 = .bool true := hK.2.2.2.2.2.2.2.2.2.2.2.2.2.2.2.2.2.2.2.2.1
          have q21 : x 21 = .bool true := hK.2.2.2.2.2.2.2.2.2.2.2.2.2.2.2.2.2.2.2.2.2.1
          clear hK
          simp only [Rg.fillOps, Act.put, List.setIfInBounds_toArray, List.set_cons_zero, List.set_cons_succ, Nat.zero_add, Nat.reduceAdd]
          simp only [q0, q1, q2, q4, q5, q6, q7, q9, q10, q11, q12, q14, q15, q16, q18, q19, q20, q21]
          have HG := Lib.hid (HW.out.trans (hG.mono HW.out.size))
          clear hG q3 q8 q13 q17
          go_wp2_with fail
          go_ret
          exact ⟨rfl, HG.out⟩
end Go.Proofs.Ytdhokdjmobmpoaa.Crc
