/- Walk: is an event more than is played? -/
import Derived.Test.YtphilpjglajffaaGreatDoorEm
import Derived.Laws.AppendOwnNone
import Derived.Deep.RegionHeld3
namespace Go.Proofs.YtphilpjglajffaaGreatDoor.Lin
open Go.RowKit

set_option maxRecDepth 100000 in
/-- texts appended to an own row -/
theorem wanted_none {o : Oper} (hgd : o.guard = none) (ops : Array Oper) (tm : Array Value) : Region.wanted o (yielded ops tm) = true := by simp [Region.wanted, hgd]
theorem if_step {p : Prop} [Decidable p] {A B : Prop} (hp : p) (h : A) : if p then A else B := by rw [if_pos hp]; exact h
set_option maxRecDepth 100000 in
theorem wp_spread {o : Oper} {a : Act} {Q : Exit → Act → World → Prop} {K : Act → World → Prop} {W : World} (base : Nat) (s x : Operand)
    (ho : o.op = .call { callee := .builtin .append, args := #[s, x], argTypes := #[22, 22] }) (v : Value) (m : Nat) (xs : List Value) (hs : a.eval s = v) (HO : W.ownsRow base 9 1 v m xs)
    (sa : Option Addr) (n c : Nat) (l : List ByteArray) (hl : StrsIn W ⟨sa, n, c⟩ l) (hz : sa = none → n = 0 ∧ c = 0) (hx : a.eval x = .slice sa n c) (hb : base ≤ W.heap.size) (M : Nat) (hM : m + n = M) (hsm : M ≤ 1000)
    (h : ∀ ga cap w1, w1.ownsRow base 9 1 (.slice ga M cap) M (xs ++ strsV l) → Below base W w1 → K (a.put o.dst (.slice ga M cap)) w1) :
    Oper.wp Tryz.prog o a W K Q := by
  subst hM
  obtain ⟨i0, hi, hzz⟩ := Option.map_eq_some_iff.1 strInfo
  simp only [Prod.mk.injEq] at hzz
  obtain ⟨hz0, hz1, hz2⟩ := hzz
  have hn : n = l.length := hl.1
  cases sa with
  | none =>
    obtain ⟨rfl, rfl⟩ := hz rfl
    have hl0 : l = [] := List.eq_nil_of_length_eq_zero hn.symm
    subst hl0
    have hrun := run_append_owned_none (P := Tryz.prog) (w := W) base 22 o.type 9 i0 1 Tryz.underlying22 hi v m xs HO
    have key : K (a.put o.dst v) W := by
      rcases HO.2 with ⟨rfl, rfl⟩ | ⟨g, cap, cur, rfl, r⟩
      · exact h none 0 W (by simpa [strsV] using HO) (Below.refl _ _)
      · exact h (some ⟨g, 0, none⟩) cap W (by simpa [strsV] using HO) (Below.refl _ _)
    unfold Oper.wp
    simp [execOp, ho, resolve, invoke, builtin, hs, hx, hrun, Result.andThen]
    exact key
  | some ad =>
    refine wp_append_own (P := Tryz.prog) W s x 22 ho base 9 i0 (.string ⟨#[]⟩) 1 16 Tryz.underlying22 hi hz0 hz1 hz2 rfl (by omega) v m xs hs HO ad n c (strsV l) hx (by simp [strsV, hn]) (fun j u hj => ?_) (fun u hu => ?_) (by unfold maxLen; omega) (by omega) hb ?_
    · have hjl : j < l.length := by
        rcases Nat.lt_or_ge j l.length with h | h
        · exact h
        · rw [List.getElem?_eq_none (by simpa [strsV] using h)] at hj; simp at hj
      obtain ⟨b, off, hb, hc⟩ := hl.at j hjl
      injection hb with hb
      subst hb
      rw [Go.WideShapes.add_plain, hc, ← hj]
      simp [strsV, List.getElem?_eq_getElem hjl]
    · obtain ⟨y, _, rfl⟩ := List.mem_map.1 hu; rfl
    · intro v' w' hown hg _
      have hbw : Below base W w' := (Below.refl base W).grown hg hb (own_base HO)
      rcases hown.2 with ⟨rfl, h0⟩ | ⟨g, cap, cur, rfl, r⟩
      · have := h none 0 w' (by rw [h0] at hown ⊢; exact hown) hbw
        rw [h0] at this
        exact this
      · exact h (some ⟨g, 0, none⟩) cap w' hown hbw

/-- more than is played? -/
def greatB (r : Raw) (keys tags : List ByteArray) : Bool :=
  decide (100 < r.topic.size) || (decide (100 < r.group.size) || (decide (100 < r.tag.size) || (decide (1000 < r.key.size) || (decide (1000 < r.body.size) || (decide (20 < r.ks.n) || (decide (10 < r.ts.n) || (decide (200 < r.ps.n) || !(keys ++ tags).all fun s => decide (s.size ≤ 1000))))))))


set_option maxRecDepth 100000 in
set_option maxHeartbeats 4000000 in
theorem great_calls (r : Raw) (keys tags : List ByteArray) (w : World) (hk : StrsIn w r.ks keys) (ht : StrsIn w r.ts tags) (hkz : r.ks.a = none → r.ks.n = 0 ∧ r.ks.c = 0) (htz : r.ts.a = none → r.ts.n = 0 ∧ r.ts.c = 0) :
    Calls Tryz.prog 8 #[r.val] w fun e w' => e = .returned (.bool (greatB r keys tags)) ∧ Below w.heap.size w w' := by
  have HG0 : Hid (greatB r keys tags = greatB r keys tags) := Lib.hid rfl
  obtain ⟨kind, q, n, pos, lack, topic, group, tag, key, body, ⟨ka, kn, kc⟩, ⟨ta, tn, tc⟩, ⟨pa, pn, pc⟩, sync⟩ := r
  have HG : Hid (greatB ⟨kind, q, n, pos, lack, topic, group, tag, key, body, ⟨ka, kn, kc⟩, ⟨ta, tn, tc⟩, ⟨pa, pn, pc⟩, sync⟩ keys tags = (decide (100 < topic.size) || (decide (100 < group.size) || (decide (100 < tag.size) || (decide (1000 < key.size) || (decide (1000 < body.size) || (decide (20 < kn) || (decide (10 < tn) || (decide (200 < pn) || !(keys ++ tags).all fun s => decide (s.size ≤ 1000)))))))))) := Lib.hid rfl
  generalize greatB ⟨kind, q, n, pos, lack, topic, group, tag, key, body, ⟨ka, kn, kc⟩, ⟨ta, tn, tc⟩, ⟨pa, pn, pc⟩, sync⟩ keys tags = GB at *
  clear HG0
  obtain ⟨W, HWE⟩ : ∃ W, Hid ((w.alloc (.cells #[.int .i64 kind, .int .i64 q, .int .i64 n, .int .i64 pos, .int .i64 lack, .string topic, .string group, .string tag, .string key, .string body, .slice ka kn kc, .slice ta tn tc, .slice pa pn pc, .bool sync] 25)) = W) := ⟨_, Lib.hid rfl⟩
  have HBW : Hid (Below w.heap.size w W) := Lib.hid (by rw [← HWE.out]; exact (Below.refl _ _).alloc (Nat.le_refl _) _)
  have HK := Lib.hid (hk.below HBW.out)
  have HT := Lib.hid (ht.below HBW.out)
  have HKZ := Lib.hid hkz
  have HTZ := Lib.hid htz
  clear hk ht hkz htz
  have c5 : W.cell? ⟨w.heap.size, 5, none⟩ = some (.string topic) := by rw [← HWE.out]; simp
  have c6 : W.cell? ⟨w.heap.size, 6, none⟩ = some (.string group) := by rw [← HWE.out]; simp
  have c7 : W.cell? ⟨w.heap.size, 7, none⟩ = some (.string tag) := by rw [← HWE.out]; simp
  have c8 : W.cell? ⟨w.heap.size, 8, none⟩ = some (.string key) := by rw [← HWE.out]; simp
  have c9 : W.cell? ⟨w.heap.size, 9, none⟩ = some (.string body) := by rw [← HWE.out]; simp
  have c10 : W.cell? ⟨w.heap.size, 10, none⟩ = some (.slice ka kn kc) := by rw [← HWE.out]; simp
  have c11 : W.cell? ⟨w.heap.size, 11, none⟩ = some (.slice ta tn tc) := by rw [← HWE.out]; simp
  have c12 : W.cell? ⟨w.heap.size, 12, none⟩ = some (.slice pa pn pc) := by rw [← HWE.out]; simp
  unfold Raw.val Raw.cells
  by_cases h0 : 100 < topic.size
  · have d0 : decide ((100 : Int) < (topic.size : Int)) = true := by simp; omega
    go_enter Tryz.func8, Tryz.ntmps8
    go_upto_region 1 with fail
    rw [HWE.out]
    go_wp2_with fail
    go_ret
    exact ⟨ret_bool (by rw [HG.out, decide_eq_true h0]; simp), HBW.out⟩
  have d0 : decide ((100 : Int) < (topic.size : Int)) = false := by simp; omega
  by_cases h1 : 100 < group.size
  · have d1 : decide ((100 : Int) < (group.size : Int)) = true := by simp; omega
    go_enter Tryz.func8, Tryz.ntmps8
    go_upto_region 1 with fail
    rw [HWE.out]
    go_wp2_with fail
    go_ret
    exact ⟨ret_bool (by rw [HG.out, decide_eq_true h1]; simp), HBW.out⟩
  have d1 : decide ((100 : Int) < (group.size : Int)) = false := by simp; omega
  by_cases h2 : 100 < tag.size
  · have d2 : decide ((100 : Int) < (tag.size : Int)) = true := by simp; omega
    go_enter Tryz.func8, Tryz.ntmps8
    go_upto_region 1 with fail
    rw [HWE.out]
    go_wp2_with fail
    go_ret
    exact ⟨ret_bool (by rw [HG.out, decide_eq_true h2]; simp), HBW.out⟩
  have d2 : decide ((100 : Int) < (tag.size : Int)) = false := by simp; omega
  by_cases h3 : 1000 < key.size
  · have d3 : decide ((1000 : Int) < (key.size : Int)) = true := by simp; omega
    go_enter Tryz.func8, Tryz.ntmps8
    go_upto_region 1 with fail
    rw [HWE.out]
    go_wp2_with fail
    go_ret
    exact ⟨ret_bool (by rw [HG.out, decide_eq_true h3]; simp), HBW.out⟩
  have d3 : decide ((1000 : Int) < (key.size : Int)) = false := by simp; omega
  by_cases h4 : 1000 < body.size
  · have d4 : decide ((1000 : Int) < (body.size : Int)) = true := by simp; omega
    go_enter Tryz.func8, Tryz.ntmps8
    go_upto_region 1 with fail
    rw [HWE.out]
    go_wp2_with fail
    go_ret
    exact ⟨ret_bool (by rw [HG.out, decide_eq_true h4]; simp), HBW.out⟩
  have d4 : decide ((1000 : Int) < (body.size : Int)) = false := by simp; omega
  by_cases h5 : 20 < kn
  · have d5 : decide ((20 : Int) < (kn : Int)) = true := by simp; omega
    go_enter Tryz.func8, Tryz.ntmps8
    go_upto_region 1 with fail
    rw [HWE.out]
    go_wp2_with fail
    go_ret
    exact ⟨ret_bool (by rw [HG.out, decide_eq_true h5]; simp), HBW.out⟩
  have d5 : decide ((20 : Int) < (kn : Int)) = false := by simp; omega
  by_cases h6 : 10 < tn
  · have d6 : decide ((10 : Int) < (tn : Int)) = true := by simp; omega
    go_enter Tryz.func8, Tryz.ntmps8
    go_upto_region 1 with fail
    rw [HWE.out]
    go_wp2_with fail
    go_ret
    exact ⟨ret_bool (by rw [HG.out, decide_eq_true h6]; simp), HBW.out⟩
  have d6 : decide ((10 : Int) < (tn : Int)) = false := by simp; omega
  by_cases h7 : 200 < pn
  · have d7 : decide ((200 : Int) < (pn : Int)) = true := by simp; omega
    go_enter Tryz.func8, Tryz.ntmps8
    go_upto_region 1 with fail
    rw [HWE.out]
    go_wp2_with fail
    go_ret
    exact ⟨ret_bool (by rw [HG.out, decide_eq_true h7]; simp), HBW.out⟩
  have d7 : decide ((200 : Int) < (pn : Int)) = false := by simp; omega
  have HG2 : Hid (GB = !(keys ++ tags).all fun s => decide (s.size ≤ 1000)) := Lib.hid (by rw [HG.out, decide_eq_false h0, decide_eq_false h1, decide_eq_false h2, decide_eq_false h3, decide_eq_false h4, decide_eq_false h5, decide_eq_false h6, decide_eq_false h7]; simp)
  have hkn : kn ≤ 20 := by omega
  have htn : tn ≤ 10 := by omega
  clear HG h0 h1 h2 h3 h4 h5 h6 h7
  go_enter Tryz.func8, Tryz.ntmps8
  go_upto_region 1 with fail
  rw [HWE.out]
  go_wp2_with fail
  clear d0 d1 d2 d3 d4 d5 d6 d7 c5 c6 c7 c8 c9 c12 HWE
  obtain ⟨M, HM⟩ : ∃ M, Hid (kn + tn = M) := ⟨_, Lib.hid rfl⟩
  have hM : M ≤ 30 := by rw [← HM.out]; omega
  have hBlt : w.heap.size < W.heap.size := cell_lt c10
  have HBA : Hid (Below W.heap.size W (W.alloc (.cells #[] 9))) := Lib.hid ((Below.refl _ _).alloc (Nat.le_refl _) _)
  have HO0 : Hid ((W.alloc (.cells #[] 9)).ownsRow W.heap.size 9 1 (.slice (some ⟨W.heap.size, 0, none⟩) 0 0) 0 []) := Lib.hid ⟨rfl, .inr ⟨W.heap.size, 0, #[], rfl, Nat.le_refl _, heap_alloc_new W _, Nat.le_refl _, by decide, rfl, rfl⟩⟩
  have HK0 := Lib.hid (HK.out.below HBA.out)
  have HKL : Hid (kn ≤ 1000) := Lib.hid (by omega)
  have HML : Hid (M ≤ 1000) := Lib.hid (by omega)
  go_region_held3 (fun X => X.cell? ⟨w.heap.size, 10, none⟩ = some (.slice ka kn kc) ∧ X.cell? ⟨w.heap.size, 11, none⟩ = some (.slice ta tn tc)) (first | exact ⟨s12, s13⟩ | exact ⟨s10, s11⟩ | go_keep)
    (first
      | (refine if_step (wanted_none rfl _ _) ?_
         refine wp_spread W.heap.size _ _ (by rfl) (.slice (some ⟨W.heap.size, 0, none⟩) 0 0) 0 [] ?_ ?_ ka kn kc keys ?_ HKZ.out ?_ ?_ kn (Nat.zero_add _) HKL.out ?_
         · rfl
         · exact HO0.out
         · exact HK0.out
         · rfl
         · simp
         intro ga cap w1 hown1 hb1
         have HO1 := Lib.hid hown1
         have HB1 : Hid (Below W.heap.size W w1) := Lib.hid (Below.trans (by first | exact ((Below.refl _ _).alloc (Nat.le_refl _) _).drew | exact ((Below.refl _ _).drew.alloc (Nat.le_refl _) _)) hb1)
         have HT1 := Lib.hid (HT.out.below HB1.out)
         have s10 := (HB1.out.cell (cell_lt c10)).trans c10
         have s11 := (HB1.out.cell (cell_lt c11)).trans c11
         clear hown1 hb1)
      | (refine if_step (wanted_none rfl _ _) ?_
         refine wp_spread W.heap.size _ _ (by rfl) (.slice ga kn cap) kn _ ?_ HO1.out ta tn tc tags HT1.out HTZ.out ?_ HB1.out.size M HM.out HML.out ?_
         · rfl
         · rfl
         intro ga2 cap2 w2 hown2 hb2
         have HO2 := Lib.hid hown2
         have HB2 : Hid (Below W.heap.size W w2) := Lib.hid (HB1.out.trans hb2)
         have s12 := (HB2.out.cell (cell_lt c10)).trans c10
         have s13 := (HB2.out.cell (cell_lt c11)).trans c11
         clear hown2 hb2))
  have HOX : Hid (w2.ownsRow W.heap.size 9 1 (.slice ga2 M cap2) M (strsV (keys ++ tags))) := Lib.hid (by
    have h : strsV keys ++ strsV tags = strsV (keys ++ tags) := by unfold strsV; rw [List.map_append]
    rw [← h]; simpa using HO2.out)
  have HXL : Hid ((keys ++ tags).length = M) := Lib.hid (by have h := HOX.out.1; unfold strsV at h; rw [List.length_map] at h; omega)
  have HBZ := Lib.hid (HBW.out.trans (HB2.out.mono HBW.out.size))
  generalize keys ++ tags = xs at *
  clear HO1 HB1 HT1 HO2 HO0 HK0 HBA HK HT HKZ HTZ HB2 s10 s11 s12 s13 c10 c11
  go_wp2_with fail
  go_loop [59] (fun i => ∃ k : Nat, k ≤ M ∧ i = .int .i64 k ∧ Hid (((xs.take k).all fun s => decide (s.size ≤ 1000)) = true)) (fun i => M - (intOf i).toNat)
  case atStart => exact ⟨0, Nat.zero_le _, rfl, Lib.hid rfl⟩
  case round =>
    obtain ⟨k, hk, rfl, HE⟩ := hrel
    by_cases hlt : k < M
    · have d1 : decide ((k : Int) < (M : Int)) = true := by simp; omega
      have hki : (k : Int) < (M : Int) := by omega
      have hkl : k < xs.length := by rw [HXL.out]; exact hlt
      have HOY := HOX.out
      rcases HOY.2 with ⟨_, h0⟩ | ⟨g, cap, cur, hv, _⟩
      · omega
      · injection hv with hv
        subst hv
        have hcell : w2.cell? ⟨g, k, none⟩ = some (.string xs[k]) := by
          rw [HOY.cellAt k (by omega)]
          unfold strsV
          simp [List.getElem?_eq_getElem hkl]
        have HS := Lib.hid (take_all (fun s : ByteArray => decide (s.size ≤ 1000)) xs k hkl)
        have HT := Lib.hid (all_stop (fun s : ByteArray => decide (s.size ≤ 1000)) xs k hkl)
        clear HOY
        generalize xs[k] = m at *
        clear hkl
        by_cases hm : 1000 < m.size
        · have d2 : decide ((1000 : Int) < (m.size : Int)) = true := by simp; omega
          go_wp2_with fail
          go_ret
          exact ⟨ret_bool (by rw [HG2.out, HT.out (by simp; omega)]; rfl), HBZ.out⟩
        · have d2 : decide ((1000 : Int) < (m.size : Int)) = false := by simp; omega
          go_wp2_with fail
          go_round
          case rel => exact ⟨k + 1, hlt, by go_num, Lib.hid (by rw [HS.out, HE.out]; simp; omega)⟩
          case measure => simp [intOf]; omega
    · have d1 : decide ((k : Int) < (M : Int)) = false := by simp; omega
      have HK := Lib.hid (show k = M by omega)
      go_wp2_with fail
      go_ret
      refine ⟨ret_bool ?_, HBZ.out⟩
      have := HE.out
      rw [HK.out, ← HXL.out, List.take_length] at this
      rw [HG2.out, this]; rfl

end Go.Proofs.YtphilpjglajffaaGreatDoor.Lin
