/- CrcApart: the walk. -/
import Derived.Test.YtdhokdjmobmpoaaWk9
namespace Go.Proofs.Ytdhokdjmobmpoaa.Crc
open Go.RowKit

def OpTab (v : Value) (w : World) : Prop := ∃ B, v = .pointer (some ⟨B, 0, none⟩) ∧ Tab w B
theorem kept_OpTab : Rg.Kept OpTab := fun _ _ _ hb ⟨B, h1, h2⟩ => ⟨B, h1, h2.below hb⟩

theorem own_base {w : World} {base : Nat} {e : TypeId} {size n : Nat} {v : Value} {xs : List Value} (h : w.ownsRow base e size v n xs) (k : Nat) (hk : v.ownBlock = some k) : base ≤ k := (h.lt k hk).1
theorem cell_one (w : World) (v : Value) (T : TypeId) : ∀ j u, [v][j]? = some u → (w.alloc (.cells #[v] T)).cell? ((⟨w.heap.size, 0, none⟩ : Addr).add j) = some u := fun j u h => by
  have hj : j = 0 := by
    rcases Nat.eq_zero_or_pos j with h0 | h0
    · exact h0
    · rw [List.getElem?_eq_none (by simp; omega)] at h; simp at h
  subst hj
  rw [Go.WideShapes.add_plain, cell_new]
  simpa using h
theorem intInfo : (Try.prog.info? 3).map (fun i => (i.zero, i.size, i.bytes)) = some (some (.int .i64 0), 1, 8) := by kernel_rfl

def sumsV (l : List ByteArray) : List Value := l.map fun s => Value.int .i64 ((sum s.data.toList : Nat) : Int)

theorem StrsIn.at {w : World} {a : Option Addr} {n cap : Nat} {ss : List ByteArray} (h : StrsIn w (.slice a n cap) ss) (hn : n = ss.length) (k : Nat) (hk : k < ss.length) :
    ∃ b off, a = some ⟨b, off, none⟩ ∧ w.cell? ⟨b, off + k, none⟩ = some (.string ss[k]) ∧ ss[k].size ≤ 140737488355328 := by
  obtain ⟨_, h2, h3⟩ := h
  rcases h3 with ⟨_, _, _, rfl⟩ | ⟨b, off, cap', hv, hc⟩
  · simp at hk
  · injection hv with ha
    exact ⟨b, off, ha, hc k hk, h2 _ (List.getElem_mem _)⟩

set_option maxRecDepth 100000 in
set_option maxHeartbeats 4000000 in
theorem apart_walk (a : Option Addr) (cap n : Nat) (ss : List ByteArray) (hn : n = ss.length) (w : World) (hs : StrsIn w (.slice a n cap) ss) :
    Calls Try.prog 6 #[.slice a n cap] w fun e w' => e = .returned (.bool true) ∧ Below w.heap.size w w' := by
  obtain ⟨i0, hi, hzz⟩ := Option.map_eq_some_iff.1 intInfo
  simp only [Prod.mk.injEq] at hzz
  obtain ⟨hz0, hz1, hz2⟩ := hzz
  have HI : Hid (Try.prog.info? 3 = some i0 ∧ i0.zero = some (.int .i64 0) ∧ i0.size = 1 ∧ i0.bytes = 8) := Lib.hid ⟨hi, hz0, hz1, hz2⟩
  clear hi hz0 hz1 hz2
  have hn1 : n ≤ 140737488355328 := by rw [hn]; exact hs.1
  have HN := Lib.hid hn
  have HS := Lib.hid hs
  clear hn hs
  go_enter Try.func6, Try.ntmps6
  go_wp2_with fail
  refine (awake_calls _).mono ?_
  rintro e wa ⟨rfl, hb1⟩
  have HB1 := Lib.hid hb1
  clear hb1
  by_cases h40 : 40 < n
  · have d0 : decide ((40 : Int) < (n : Int)) = true := by simp; omega
    go_wp2_with fail
    go_ret
    exact ⟨rfl, HB1.out⟩
  · have d0 : decide ((40 : Int) < (n : Int)) = false := by simp; omega
    have hle : n ≤ 40 := by omega
    go_wp2_with fail
    refine (new_calls _).mono ?_
    rintro e wt ⟨B, hB, rfl, ht, hb2⟩
    have HT := Lib.hid ht
    have HS2 := Lib.hid ((HS.out.below HB1.out).below hb2)
    have HB2 := Lib.hid (HB1.out.trans (hb2.mono HB1.out.size))
    clear ht hb2 hB HB1 HS d0
    go_wp2_with fail
    go_loopw [4, 17] (fun v i wr => ∃ k : Nat, k ≤ n ∧ i = .int .i64 k ∧ Hid (wr.ownsRow wt.heap.size 3 1 v k (sumsV (ss.take k))) ∧ Hid (Below wt.heap.size wt wr)) (fun _ i _ => n - (intOf i).toNat)
    case atStart => exact ⟨0, Nat.zero_le _, rfl, Lib.hid (World.ownsRow_nil _ _ _ _), Lib.hid (Below.refl _ _)⟩
    case round =>
      obtain ⟨k, hk, rfl, HO, HW⟩ := hrel
      by_cases hlt : k < n
      · have d1 : decide ((k : Int) < (n : Int)) = true := by simp; omega
        have hki : (k : Int) < (n : Int) := by omega
        obtain ⟨b, off, rfl, hcell, hsz⟩ := HS2.out.at HN.out k (by rw [← HN.out]; exact hlt)
        have hcell2 := (HW.out.cell (cell_lt hcell)).trans hcell
        have hsv : sumsV (ss.take (k + 1)) = sumsV (ss.take k) ++ [.int .i64 ((sum (ss[k]'(by rw [← HN.out]; exact hlt)).data.toList : Nat) : Int)] := by
          unfold sumsV
          rw [List.take_succ_eq_append_getElem (by rw [← HN.out]; exact hlt), List.map_append]; rfl
        generalize hse : ss[k]'(by rw [← HN.out]; exact hlt) = s at *
        obtain ⟨m, HM⟩ : ∃ m, Hid (sum s.data.toList = m) := ⟨_, Lib.hid rfl⟩
        rw [HM.out] at hsv
        have HSV := Lib.hid hsv
        clear hsv hcell hse
        by_cases h300 : 300 < s.size
        · have d3 : decide ((300 : Int) < (s.size : Int)) = true := by simp; omega
          go_wp2_with fail
          go_ret
          exact ⟨rfl, HB2.out.trans (HW.out.mono HB2.out.size)⟩
        · have d3 : decide ((300 : Int) < (s.size : Int)) = false := by simp; omega
          go_wp2_with fail
          refine (sum_calls1 B _ s m _ HM.out ((HT.out.below HW.out).alloc _) (strs_new1 wr s hsz)).mono ?_
          rintro e w3 ⟨rfl, hd⟩
          have HO3 : Hid (w3.ownsRow wt.heap.size 3 1 u4 k (sumsV (ss.take k))) := Lib.hid (by obtain ⟨nq, rfl⟩ := hd; exact HO.out.alloc _)
          have HW3 : Hid (Below wt.heap.size wt w3) := Lib.hid ((HW.out.alloc HW.out.size _).trans (below_drewN hd _))
          clear hd hcell2
          go_wp2_with ((at_builtin; refine wpList_append_own _ rfl _ _ 33 rfl wt.heap.size 3 i0 (.int .i64 0) 1 8 Try.underlying33 HI.out.1 HI.out.2.1 HI.out.2.2.1 HI.out.2.2.2 rfl (by decide) _ _ _ rfl (HO3.out.alloc _) ⟨w3.heap.size, 0, none⟩ 1 1 [.int .i64 (m : Int)] rfl rfl (cell_one _ _ _) (fun x hx => by simp at hx; subst hx; rfl) (by unfold maxLen; omega) (by omega) (by have := HW3.out.size; simp; omega) ?_; intro v' w4 hown' hgrow hnil; have HO4 := Lib.hid hown'; have HW4 := Lib.hid ((HW3.out.alloc HW3.out.size _).grown hgrow (by have := HW3.out.size; simp; omega) (own_base HO3.out)); clear hown' hgrow hnil))
          go_roundw
          case rel => exact ⟨k + 1, by omega, by go_num, by rw [HSV.out]; exact HO4, HW4⟩
          case measure => simp [intOf]; omega
      · have d1 : decide ((k : Int) < (n : Int)) = false := by simp; omega
        have hkn : k = n := by omega
        have HOL : Hid (wr.ownsRow wt.heap.size 3 1 u4 n (sumsV ss)) := Lib.hid (by
          have := HO.out
          rw [hkn, HN.out, List.take_length, ← HN.out] at this
          exact this)
        clear hkn HO
        obtain ⟨wl, rfl⟩ : ∃ wl : World, wl = wr := ⟨_, rfl⟩
        go_wp2_with fail
        go_loopw [34] (fun i wr2 => ∃ k : Nat, k ≤ n ∧ i = .int .i64 k ∧ Hid (Below wl.heap.size wl wr2)) (fun i _ => n - (intOf i).toNat)
        case atStart => exact ⟨0, Nat.zero_le _, rfl, Lib.hid (Below.refl _ _)⟩
        case round =>
          clear d1
          obtain ⟨k, hk, rfl, HW4⟩ := hrel
          by_cases hlt : k < n
          · have d1 : decide ((k : Int) < (n : Int)) = true := by simp; omega
            obtain ⟨kk, hkk⟩ : ∃ kk, n - 1 - k = kk := ⟨_, rfl⟩
            have hkn : kk < n := by omega
            have hki : (kk : Int) < (n : Int) := by omega
            have hsub : (n : Int) - 1 - (k : Int) = (kk : Int) := by omega
            clear hkk
            obtain ⟨b, off, rfl, hcell, hsz⟩ := HS2.out.at HN.out kk (by rw [← HN.out]; exact hkn)
            have hcell2 := (HW.out.cell (cell_lt hcell)).trans hcell
            have HC := Lib.hid ((HW4.out.cell (cell_lt hcell2)).trans hcell2)
            have hlen : kk < ss.length := by rw [← HN.out]; exact hkn
            obtain ⟨g, cs, rfl, hsum⟩ : ∃ g cs, u4 = .slice (some ⟨g, 0, none⟩) n cs ∧ wl.cell? ⟨g, kk, none⟩ = some (.int .i64 ((sum (ss[kk]'hlen).data.toList : Nat) : Int)) := by
              rcases HOL.out.2 with ⟨_, h0⟩ | ⟨g, cs, cur, rfl, _⟩
              · omega
              · refine ⟨g, cs, rfl, ?_⟩
                have := HOL.out.cells (g := g) rfl kk (.int .i64 ((sum (ss[kk]'hlen).data.toList : Nat) : Int)) (by unfold sumsV; simp [hlen])
                rwa [Go.WideShapes.add_plain, Nat.zero_add] at this
            have hsum2 := (HW4.out.cell (cell_lt hsum)).trans hsum
            generalize (ss[kk]'hlen) = s at *
            obtain ⟨m, HM⟩ : ∃ m, Hid (sum s.data.toList = m) := ⟨_, Lib.hid rfl⟩
            rw [HM.out] at hsum2
            have HD := Lib.hid hsum2
            have HZS := Lib.hid hsz
            obtain ⟨Z, HSL⟩ : ∃ Z, Hid (∀ B w, Tab w B → Calls Try.prog 15 #[.pointer (some ⟨B, 0, none⟩), .string s] w fun e w' => e = .returned (.string Z) ∧ Below w.heap.size w w') := ⟨_, Lib.hid fun B w h => seal_calls B s w h hsz⟩
            have HT4 := Lib.hid ((HT.out.below HW.out).below HW4.out)
            clear hcell hcell2 hsum hsum2 hsz hlen
            go_wp2_with fail
            refine Rg.region_rg' [Rg.Is (.pointer (some ⟨B, 0, none⟩)),
              Rg.Is (.slice (some ⟨b, off, none⟩) n cap),
              Rg.Is (.int .i64 (kk : Int)),
              Rg.Is (.pointer (some ⟨b, off + kk, none⟩)),
              Rg.Is (.string s),
              OpStr s,
              Rg.Is (.int .i64 (m : Int)),
              Rg.Is (.slice (some ⟨g, 0, none⟩) n cs),
              Rg.Is (.int .i64 (kk : Int)),
              Rg.Is (.pointer (some ⟨g, kk, none⟩)),
              Rg.Is (.int .i64 (m : Int)),
              Rg.Is (.bool false),
              Rg.Is (.bool false),
              OpTab,
              Rg.Is (.slice (some ⟨b, off, none⟩) n cap),
              Rg.Is (.int .i64 (kk : Int)),
              Rg.Is (.pointer (some ⟨b, off + kk, none⟩)),
              Rg.Is (.string s),
              OpStr s,
              Rg.Is (.int .i64 (m : Int)),
              Rg.Is (.slice (some ⟨g, 0, none⟩) n cs),
              Rg.Is (.int .i64 (kk : Int)),
              Rg.Is (.pointer (some ⟨g, kk, none⟩)),
              Rg.Is (.int .i64 (m : Int)),
              Rg.Is (.bool false),
              Rg.Is (.bool false),
              Rg.Is (.bool false),
              Rg.Is (.pointer (some ⟨B, 0, none⟩)),
              Rg.Is (.slice (some ⟨b, off, none⟩) n cap),
              Rg.Is (.int .i64 (kk : Int)),
              Rg.Is (.pointer (some ⟨b, off + kk, none⟩)),
              Rg.Is (.string s),
              Rg.Is (.string Z),
              OpTab,
              Rg.Is (.slice (some ⟨b, off, none⟩) n cap),
              Rg.Is (.int .i64 (kk : Int)),
              Rg.Is (.pointer (some ⟨b, off + kk, none⟩)),
              Rg.Is (.string s),
              Rg.Is (.string Z),
              Rg.Is (.bool false),
              Rg.Is (.bool false)]
              [[], [], [], [1, 2], [3], [4], [0, 5], [], [], [7, 8], [9], [6, 10], [11], [12], [12], [12], [14, 15, 12], [16, 12], [17, 12], [13, 18, 12], [12], [12], [20, 21, 12], [22, 12], [19, 23, 12], [12, 24], [25], [26], [26], [26], [28, 29, 26], [30, 26], [27, 31, 26], [26], [26], [26], [34, 35, 26], [36, 26], [33, 37, 26], [32, 38, 26], [26, 39]] (by kernel_rfl) (by kernel_rfl) (by kernel_rfl) ?kept ?steps ?fin
            case steps =>
              refine Rg.steps_cons (fun x w1 hG hK => ?_) ?_
              · -- 0: t42 := Op.move (Operand.tmp 3)
                clear hK
                simp only [Rg.fillOps, Act.put, List.take_succ_cons, List.take_zero, List.setIfInBounds_toArray, List.set_cons_zero, List.set_cons_succ, Nat.zero_add, Nat.reduceAdd]
                clear hG
                go_wp2
                exact ⟨rfl, rfl, Below.refl _ _, rfl⟩
              refine Rg.steps_cons (fun x w1 hG hK => ?_) ?_
              · -- 1: t43 := Op.move (Operand.tmp 0)
                clear hK
                simp only [Rg.fillOps, Act.put, List.take_succ_cons, List.take_zero, List.setIfInBounds_toArray, List.set_cons_zero, List.set_cons_succ, Nat.zero_add, Nat.reduceAdd]
                clear hG
                go_wp2
                exact ⟨rfl, rfl, Below.refl _ _, rfl⟩
              refine Rg.steps_cons (fun x w1 hG hK => ?_) ?_
              · -- 2: t44 := Op.move (Operand.tmp 8)
                clear hK
                simp only [Rg.fillOps, Act.put, List.take_succ_cons, List.take_zero, List.setIfInBounds_toArray, List.set_cons_zero, List.set_cons_succ, Nat.zero_add, Nat.reduceAdd]
                clear hG
                go_wp2
                exact ⟨rfl, rfl, Below.refl _ _, rfl⟩
              refine Rg.steps_cons (fun x w1 hG hK => ?_) ?_
              · -- 3: t45 := Op.indexAddr 22 (Operand.tmp 43) (Operand.tmp 44)
                have q1 : x 1 = .slice (some ⟨b, off, none⟩) n cap := hK.1
                have q2 : x 2 = .int .i64 (kk : Int) := hK.2.1
                clear hK
                simp only [Rg.fillOps, Act.put, List.take_succ_cons, List.take_zero, List.setIfInBounds_toArray, List.set_cons_zero, List.set_cons_succ, Nat.zero_add, Nat.reduceAdd]
                clear hG
                go_wp2
                exact ⟨rfl, rfl, Below.refl _ _, rfl⟩
              refine Rg.steps_cons (fun x w1 hG hK => ?_) ?_
              · -- 4: t46 := Op.load 9 (Operand.tmp 45)
                have q3 : x 3 = .pointer (some ⟨b, off + kk, none⟩) := hK.1
                clear hK
                simp only [Rg.fillOps, Act.put, List.take_succ_cons, List.take_zero, List.setIfInBounds_toArray, List.set_cons_zero, List.set_cons_succ, Nat.zero_add, Nat.reduceAdd]
                have hc := (hG.cell (p := ⟨b, off + kk, none⟩) (cell_lt HC.out)).trans HC.out
                go_wp2_with fail
                exact ⟨rfl, rfl, Below.refl _ _, rfl⟩
              refine Rg.steps_cons (fun x w1 hG hK => ?_) ?_
              · -- 5: t47 := Op.buildSlice 22 1 #[(0, Operand.tmp 46)]
                have q4 : x 4 = .string s := hK.1
                clear hK
                simp only [Rg.fillOps, Act.put, List.take_succ_cons, List.take_zero, List.setIfInBounds_toArray, List.set_cons_zero, List.set_cons_succ, Nat.zero_add, Nat.reduceAdd]
                go_wp2_with fail
                exact ⟨rfl, rfl, (Below.refl _ _).alloc (Nat.le_refl _) _, strs_new1 w1 _ HZS.out⟩
              refine Rg.steps_cons (fun x w1 hG hK => ?_) ?_
              · -- 6: t48 := Op.call { callee := Callee.value (Operand.func 12), args := #[Operand.tmp 42, Operand.tmp 47], argTypes := #[25, 22] }
                have q0 : x 0 = .pointer (some ⟨B, 0, none⟩) := hK.1
                have q5 : OpStr s (x 5) w1 := hK.2.1
                clear hK
                simp only [Rg.fillOps, Act.put, List.take_succ_cons, List.take_zero, List.setIfInBounds_toArray, List.set_cons_zero, List.set_cons_succ, Nat.zero_add, Nat.reduceAdd]
                go_wp2_with fail
                refine (sum_calls1 B _ s m _ HM.out (HT4.out.below hG) q5).mono ?_
                rintro e w2 ⟨rfl, hd⟩
                have hb := below_drewN hd w1.heap.size
                clear hd q5
                go_wp2_with fail
                exact ⟨rfl, rfl, hb, rfl⟩
              refine Rg.steps_cons (fun x w1 hG hK => ?_) ?_
              · -- 7: t49 := Op.move (Operand.tmp 4)
                clear hK
                simp only [Rg.fillOps, Act.put, List.take_succ_cons, List.take_zero, List.setIfInBounds_toArray, List.set_cons_zero, List.set_cons_succ, Nat.zero_add, Nat.reduceAdd]
                clear hG
                go_wp2
                exact ⟨rfl, rfl, Below.refl _ _, rfl⟩
              refine Rg.steps_cons (fun x w1 hG hK => ?_) ?_
              · -- 8: t50 := Op.move (Operand.tmp 8)
                clear hK
                simp only [Rg.fillOps, Act.put, List.take_succ_cons, List.take_zero, List.setIfInBounds_toArray, List.set_cons_zero, List.set_cons_succ, Nat.zero_add, Nat.reduceAdd]
                clear hG
                go_wp2
                exact ⟨rfl, rfl, Below.refl _ _, rfl⟩
              refine Rg.steps_cons (fun x w1 hG hK => ?_) ?_
              · -- 9: t51 := Op.indexAddr 33 (Operand.tmp 49) (Operand.tmp 50)
                have q7 : x 7 = .slice (some ⟨g, 0, none⟩) n cs := hK.1
                have q8 : x 8 = .int .i64 (kk : Int) := hK.2.1
                clear hK
                simp only [Rg.fillOps, Act.put, List.take_succ_cons, List.take_zero, List.setIfInBounds_toArray, List.set_cons_zero, List.set_cons_succ, Nat.zero_add, Nat.reduceAdd]
                clear hG
                go_wp2
                exact ⟨rfl, rfl, Below.refl _ _, rfl⟩
              refine Rg.steps_cons (fun x w1 hG hK => ?_) ?_
              · -- 10: t52 := Op.load 3 (Operand.tmp 51)
                have q9 : x 9 = .pointer (some ⟨g, kk, none⟩) := hK.1
                clear hK
                simp only [Rg.fillOps, Act.put, List.take_succ_cons, List.take_zero, List.setIfInBounds_toArray, List.set_cons_zero, List.set_cons_succ, Nat.zero_add, Nat.reduceAdd]
                have hc := (hG.cell (p := ⟨g, kk, none⟩) (cell_lt HD.out)).trans HD.out
                go_wp2_with fail
                exact ⟨rfl, rfl, Below.refl _ _, rfl⟩
              refine Rg.steps_cons (fun x w1 hG hK => ?_) ?_
              · -- 11: t53 := Op.binOp BinOp.neq 3 (Operand.tmp 48) (Operand.tmp 52) 3
                have q6 : x 6 = .int .i64 (m : Int) := hK.1
                have q10 : x 10 = .int .i64 (m : Int) := hK.2.1
                clear hK
                simp only [Rg.fillOps, Act.put, List.take_succ_cons, List.take_zero, List.setIfInBounds_toArray, List.set_cons_zero, List.set_cons_succ, Nat.zero_add, Nat.reduceAdd]
                clear hG
                go_wp2
                exact ⟨rfl, rfl, Below.refl _ _, rfl⟩
              refine Rg.steps_cons (fun x w1 hG hK => ?_) ?_
              · -- 12: t54 := Op.move (Operand.tmp 53)
                have q11 : x 11 = .bool false := hK.1
                clear hK
                simp only [Rg.fillOps, Act.put, List.take_succ_cons, List.take_zero, List.setIfInBounds_toArray, List.set_cons_zero, List.set_cons_succ, Nat.zero_add, Nat.reduceAdd]
                clear hG
                go_wp2
                exact ⟨rfl, rfl, Below.refl _ _, q11⟩
              refine Rg.steps_cons (fun x w1 hG hK => ?_) ?_
              · -- 13: t55 := Op.call { callee := Callee.value (Operand.func 10), args := #[], argTypes := #[] }
                have q12 : x 12 = .bool false := hK.1
                clear hK
                simp only [Rg.fillOps, Act.put, List.take_succ_cons, List.take_zero, List.setIfInBounds_toArray, List.set_cons_zero, List.set_cons_succ, Nat.zero_add, Nat.reduceAdd]
                go_wp2_with fail
                refine (new_calls _).mono ?_
                rintro e w2 ⟨B2, hB2, rfl, ht2, hb2⟩
                go_wp2_with fail
                exact ⟨rfl, rfl, hb2, ⟨B2, rfl, ht2⟩⟩
              refine Rg.steps_cons (fun x w1 hG hK => ?_) ?_
              · -- 14: t56 := Op.move (Operand.tmp 0)
                have q12 : x 12 = .bool false := hK.1
                clear hK
                simp only [Rg.fillOps, Act.put, List.take_succ_cons, List.take_zero, List.setIfInBounds_toArray, List.set_cons_zero, List.set_cons_succ, Nat.zero_add, Nat.reduceAdd]
                clear hG
                go_wp2
                exact ⟨rfl, rfl, Below.refl _ _, rfl⟩
              refine Rg.steps_cons (fun x w1 hG hK => ?_) ?_
              · -- 15: t57 := Op.move (Operand.tmp 8)
                have q12 : x 12 = .bool false := hK.1
                clear hK
                simp only [Rg.fillOps, Act.put, List.take_succ_cons, List.take_zero, List.setIfInBounds_toArray, List.set_cons_zero, List.set_cons_succ, Nat.zero_add, Nat.reduceAdd]
                clear hG
                go_wp2
                exact ⟨rfl, rfl, Below.refl _ _, rfl⟩
              refine Rg.steps_cons (fun x w1 hG hK => ?_) ?_
              · -- 16: t58 := Op.indexAddr 22 (Operand.tmp 56) (Operand.tmp 57)
                have q14 : x 14 = .slice (some ⟨b, off, none⟩) n cap := hK.1
                have q15 : x 15 = .int .i64 (kk : Int) := hK.2.1
                have q12 : x 12 = .bool false := hK.2.2.1
                clear hK
                simp only [Rg.fillOps, Act.put, List.take_succ_cons, List.take_zero, List.setIfInBounds_toArray, List.set_cons_zero, List.set_cons_succ, Nat.zero_add, Nat.reduceAdd]
                clear hG
                go_wp2
                exact ⟨rfl, rfl, Below.refl _ _, rfl⟩
              refine Rg.steps_cons (fun x w1 hG hK => ?_) ?_
              · -- 17: t59 := Op.load 9 (Operand.tmp 58)
                have q16 : x 16 = .pointer (some ⟨b, off + kk, none⟩) := hK.1
                have q12 : x 12 = .bool false := hK.2.1
                clear hK
                simp only [Rg.fillOps, Act.put, List.take_succ_cons, List.take_zero, List.setIfInBounds_toArray, List.set_cons_zero, List.set_cons_succ, Nat.zero_add, Nat.reduceAdd]
                have hc := (hG.cell (p := ⟨b, off + kk, none⟩) (cell_lt HC.out)).trans HC.out
                go_wp2_with fail
                exact ⟨rfl, rfl, Below.refl _ _, rfl⟩
              refine Rg.steps_cons (fun x w1 hG hK => ?_) ?_
              · -- 18: t60 := Op.buildSlice 22 1 #[(0, Operand.tmp 59)]
                have q17 : x 17 = .string s := hK.1
                have q12 : x 12 = .bool false := hK.2.1
                clear hK
                simp only [Rg.fillOps, Act.put, List.take_succ_cons, List.take_zero, List.setIfInBounds_toArray, List.set_cons_zero, List.set_cons_succ, Nat.zero_add, Nat.reduceAdd]
                go_wp2_with fail
                exact ⟨rfl, rfl, (Below.refl _ _).alloc (Nat.le_refl _) _, strs_new1 w1 _ HZS.out⟩
              refine Rg.steps_cons (fun x w1 hG hK => ?_) ?_
              · -- 19: t61 := Op.call { callee := Callee.value (Operand.func 12), args := #[Operand.tmp 55, Operand.tmp 60], argTypes := #[25, 22] }
                have q13 : OpTab (x 13) w1 := hK.1
                have q18 : OpStr s (x 18) w1 := hK.2.1
                have q12 : x 12 = .bool false := hK.2.2.1
                clear hK
                simp only [Rg.fillOps, Act.put, List.take_succ_cons, List.take_zero, List.setIfInBounds_toArray, List.set_cons_zero, List.set_cons_succ, Nat.zero_add, Nat.reduceAdd]
                obtain ⟨B2, e13, ht2⟩ := q13
                have HT9 := Lib.hid ht2
                clear ht2
                go_wp2_with fail
                refine (sum_calls1 B2 _ s m _ HM.out HT9.out q18).mono ?_
                rintro e w2 ⟨rfl, hd⟩
                have hb := below_drewN hd w1.heap.size
                clear hd q18
                go_wp2_with fail
                exact ⟨rfl, rfl, hb, rfl⟩
              refine Rg.steps_cons (fun x w1 hG hK => ?_) ?_
              · -- 20: t62 := Op.move (Operand.tmp 4)
                have q12 : x 12 = .bool false := hK.1
                clear hK
                simp only [Rg.fillOps, Act.put, List.take_succ_cons, List.take_zero, List.setIfInBounds_toArray, List.set_cons_zero, List.set_cons_succ, Nat.zero_add, Nat.reduceAdd]
                clear hG
                go_wp2
                exact ⟨rfl, rfl, Below.refl _ _, rfl⟩
              refine Rg.steps_cons (fun x w1 hG hK => ?_) ?_
              · -- 21: t63 := Op.move (Operand.tmp 8)
                have q12 : x 12 = .bool false := hK.1
                clear hK
                simp only [Rg.fillOps, Act.put, List.take_succ_cons, List.take_zero, List.setIfInBounds_toArray, List.set_cons_zero, List.set_cons_succ, Nat.zero_add, Nat.reduceAdd]
                clear hG
                go_wp2
                exact ⟨rfl, rfl, Below.refl _ _, rfl⟩
              refine Rg.steps_cons (fun x w1 hG hK => ?_) ?_
              · -- 22: t64 := Op.indexAddr 33 (Operand.tmp 62) (Operand.tmp 63)
                have q20 : x 20 = .slice (some ⟨g, 0, none⟩) n cs := hK.1
                have q21 : x 21 = .int .i64 (kk : Int) := hK.2.1
                have q12 : x 12 = .bool false := hK.2.2.1
                clear hK
                simp only [Rg.fillOps, Act.put, List.take_succ_cons, List.take_zero, List.setIfInBounds_toArray, List.set_cons_zero, List.set_cons_succ, Nat.zero_add, Nat.reduceAdd]
                clear hG
                go_wp2
                exact ⟨rfl, rfl, Below.refl _ _, rfl⟩
              refine Rg.steps_cons (fun x w1 hG hK => ?_) ?_
              · -- 23: t65 := Op.load 3 (Operand.tmp 64)
                have q22 : x 22 = .pointer (some ⟨g, kk, none⟩) := hK.1
                have q12 : x 12 = .bool false := hK.2.1
                clear hK
                simp only [Rg.fillOps, Act.put, List.take_succ_cons, List.take_zero, List.setIfInBounds_toArray, List.set_cons_zero, List.set_cons_succ, Nat.zero_add, Nat.reduceAdd]
                have hc := (hG.cell (p := ⟨g, kk, none⟩) (cell_lt HD.out)).trans HD.out
                go_wp2_with fail
                exact ⟨rfl, rfl, Below.refl _ _, rfl⟩
              refine Rg.steps_cons (fun x w1 hG hK => ?_) ?_
              · -- 24: t66 := Op.binOp BinOp.neq 3 (Operand.tmp 61) (Operand.tmp 65) 3
                have q19 : x 19 = .int .i64 (m : Int) := hK.1
                have q23 : x 23 = .int .i64 (m : Int) := hK.2.1
                have q12 : x 12 = .bool false := hK.2.2.1
                clear hK
                simp only [Rg.fillOps, Act.put, List.take_succ_cons, List.take_zero, List.setIfInBounds_toArray, List.set_cons_zero, List.set_cons_succ, Nat.zero_add, Nat.reduceAdd]
                clear hG
                go_wp2
                exact ⟨rfl, rfl, Below.refl _ _, rfl⟩
              refine Rg.steps_cons (fun x w1 hG hK => ?_) ?_
              · -- 25: t67 := Op.pick (Operand.tmp 54) (Operand.const (Value.bool true)) (Operand.tmp 66)
                have q12 : x 12 = .bool false := hK.1
                have q24 : x 24 = .bool false := hK.2.1
                clear hK
                simp only [Rg.fillOps, Act.put, List.take_succ_cons, List.take_zero, List.setIfInBounds_toArray, List.set_cons_zero, List.set_cons_succ, Nat.zero_add, Nat.reduceAdd]
                clear hG
                go_wp2
                exact ⟨rfl, rfl, Below.refl _ _, rfl⟩
              refine Rg.steps_cons (fun x w1 hG hK => ?_) ?_
              · -- 26: t68 := Op.move (Operand.tmp 67)
                have q25 : x 25 = .bool false := hK.1
                clear hK
                simp only [Rg.fillOps, Act.put, List.take_succ_cons, List.take_zero, List.setIfInBounds_toArray, List.set_cons_zero, List.set_cons_succ, Nat.zero_add, Nat.reduceAdd]
                clear hG
                go_wp2
                exact ⟨rfl, rfl, Below.refl _ _, q25⟩
              refine Rg.steps_cons (fun x w1 hG hK => ?_) ?_
              · -- 27: t69 := Op.move (Operand.tmp 3)
                have q26 : x 26 = .bool false := hK.1
                clear hK
                simp only [Rg.fillOps, Act.put, List.take_succ_cons, List.take_zero, List.setIfInBounds_toArray, List.set_cons_zero, List.set_cons_succ, Nat.zero_add, Nat.reduceAdd]
                clear hG
                go_wp2
                exact ⟨rfl, rfl, Below.refl _ _, rfl⟩
              refine Rg.steps_cons (fun x w1 hG hK => ?_) ?_
              · -- 28: t70 := Op.move (Operand.tmp 0)
                have q26 : x 26 = .bool false := hK.1
                clear hK
                simp only [Rg.fillOps, Act.put, List.take_succ_cons, List.take_zero, List.setIfInBounds_toArray, List.set_cons_zero, List.set_cons_succ, Nat.zero_add, Nat.reduceAdd]
                clear hG
                go_wp2
                exact ⟨rfl, rfl, Below.refl _ _, rfl⟩
              refine Rg.steps_cons (fun x w1 hG hK => ?_) ?_
              · -- 29: t71 := Op.move (Operand.tmp 8)
                have q26 : x 26 = .bool false := hK.1
                clear hK
                simp only [Rg.fillOps, Act.put, List.take_succ_cons, List.take_zero, List.setIfInBounds_toArray, List.set_cons_zero, List.set_cons_succ, Nat.zero_add, Nat.reduceAdd]
                clear hG
                go_wp2
                exact ⟨rfl, rfl, Below.refl _ _, rfl⟩
              refine Rg.steps_cons (fun x w1 hG hK => ?_) ?_
              · -- 30: t72 := Op.indexAddr 22 (Operand.tmp 70) (Operand.tmp 71)
                have q28 : x 28 = .slice (some ⟨b, off, none⟩) n cap := hK.1
                have q29 : x 29 = .int .i64 (kk : Int) := hK.2.1
                have q26 : x 26 = .bool false := hK.2.2.1
                clear hK
                simp only [Rg.fillOps, Act.put, List.take_succ_cons, List.take_zero, List.setIfInBounds_toArray, List.set_cons_zero, List.set_cons_succ, Nat.zero_add, Nat.reduceAdd]
                clear hG
                go_wp2
                exact ⟨rfl, rfl, Below.refl _ _, rfl⟩
              refine Rg.steps_cons (fun x w1 hG hK => ?_) ?_
              · -- 31: t73 := Op.load 9 (Operand.tmp 72)
                have q30 : x 30 = .pointer (some ⟨b, off + kk, none⟩) := hK.1
                have q26 : x 26 = .bool false := hK.2.1
                clear hK
                simp only [Rg.fillOps, Act.put, List.take_succ_cons, List.take_zero, List.setIfInBounds_toArray, List.set_cons_zero, List.set_cons_succ, Nat.zero_add, Nat.reduceAdd]
                have hc := (hG.cell (p := ⟨b, off + kk, none⟩) (cell_lt HC.out)).trans HC.out
                go_wp2_with fail
                exact ⟨rfl, rfl, Below.refl _ _, rfl⟩
              refine Rg.steps_cons (fun x w1 hG hK => ?_) ?_
              · -- 32: t74 := Op.call { callee := Callee.value (Operand.func 15), args := #[Operand.tmp 69, Operand.tmp 73], argTypes := #[25, 9] }
                have q27 : x 27 = .pointer (some ⟨B, 0, none⟩) := hK.1
                have q31 : x 31 = .string s := hK.2.1
                have q26 : x 26 = .bool false := hK.2.2.1
                clear hK
                simp only [Rg.fillOps, Act.put, List.take_succ_cons, List.take_zero, List.setIfInBounds_toArray, List.set_cons_zero, List.set_cons_succ, Nat.zero_add, Nat.reduceAdd]
                go_wp2_with fail
                refine (HSL.out B _ (HT4.out.below hG)).mono ?_
                rintro e w2 ⟨rfl, hb⟩
                go_wp2_with fail
                exact ⟨rfl, rfl, hb, rfl⟩
              refine Rg.steps_cons (fun x w1 hG hK => ?_) ?_
              · -- 33: t75 := Op.call { callee := Callee.value (Operand.func 10), args := #[], argTypes := #[] }
                have q26 : x 26 = .bool false := hK.1
                clear hK
                simp only [Rg.fillOps, Act.put, List.take_succ_cons, List.take_zero, List.setIfInBounds_toArray, List.set_cons_zero, List.set_cons_succ, Nat.zero_add, Nat.reduceAdd]
                go_wp2_with fail
                refine (new_calls _).mono ?_
                rintro e w2 ⟨B2, hB2, rfl, ht2, hb2⟩
                go_wp2_with fail
                exact ⟨rfl, rfl, hb2, ⟨B2, rfl, ht2⟩⟩
              refine Rg.steps_cons (fun x w1 hG hK => ?_) ?_
              · -- 34: t76 := Op.move (Operand.tmp 0)
                have q26 : x 26 = .bool false := hK.1
                clear hK
                simp only [Rg.fillOps, Act.put, List.take_succ_cons, List.take_zero, List.setIfInBounds_toArray, List.set_cons_zero, List.set_cons_succ, Nat.zero_add, Nat.reduceAdd]
                clear hG
                go_wp2
                exact ⟨rfl, rfl, Below.refl _ _, rfl⟩
              refine Rg.steps_cons (fun x w1 hG hK => ?_) ?_
              · -- 35: t77 := Op.move (Operand.tmp 8)
                have q26 : x 26 = .bool false := hK.1
                clear hK
                simp only [Rg.fillOps, Act.put, List.take_succ_cons, List.take_zero, List.setIfInBounds_toArray, List.set_cons_zero, List.set_cons_succ, Nat.zero_add, Nat.reduceAdd]
                clear hG
                go_wp2
                exact ⟨rfl, rfl, Below.refl _ _, rfl⟩
              refine Rg.steps_cons (fun x w1 hG hK => ?_) ?_
              · -- 36: t78 := Op.indexAddr 22 (Operand.tmp 76) (Operand.tmp 77)
                have q34 : x 34 = .slice (some ⟨b, off, none⟩) n cap := hK.1
                have q35 : x 35 = .int .i64 (kk : Int) := hK.2.1
                have q26 : x 26 = .bool false := hK.2.2.1
                clear hK
                simp only [Rg.fillOps, Act.put, List.take_succ_cons, List.take_zero, List.setIfInBounds_toArray, List.set_cons_zero, List.set_cons_succ, Nat.zero_add, Nat.reduceAdd]
                clear hG
                go_wp2
                exact ⟨rfl, rfl, Below.refl _ _, rfl⟩
              refine Rg.steps_cons (fun x w1 hG hK => ?_) ?_
              · -- 37: t79 := Op.load 9 (Operand.tmp 78)
                have q36 : x 36 = .pointer (some ⟨b, off + kk, none⟩) := hK.1
                have q26 : x 26 = .bool false := hK.2.1
                clear hK
                simp only [Rg.fillOps, Act.put, List.take_succ_cons, List.take_zero, List.setIfInBounds_toArray, List.set_cons_zero, List.set_cons_succ, Nat.zero_add, Nat.reduceAdd]
                have hc := (hG.cell (p := ⟨b, off + kk, none⟩) (cell_lt HC.out)).trans HC.out
                go_wp2_with fail
                exact ⟨rfl, rfl, Below.refl _ _, rfl⟩
              refine Rg.steps_cons (fun x w1 hG hK => ?_) ?_
              · -- 38: t80 := Op.call { callee := Callee.value (Operand.func 15), args := #[Operand.tmp 75, Operand.tmp 79], argTypes := #[25, 9] }
                have q33 : OpTab (x 33) w1 := hK.1
                have q37 : x 37 = .string s := hK.2.1
                have q26 : x 26 = .bool false := hK.2.2.1
                clear hK
                simp only [Rg.fillOps, Act.put, List.take_succ_cons, List.take_zero, List.setIfInBounds_toArray, List.set_cons_zero, List.set_cons_succ, Nat.zero_add, Nat.reduceAdd]
                obtain ⟨B2, e33, ht2⟩ := q33
                have HT9 := Lib.hid ht2
                clear ht2
                go_wp2_with fail
                refine (HSL.out B2 _ HT9.out).mono ?_
                rintro e w2 ⟨rfl, hb⟩
                go_wp2_with fail
                exact ⟨rfl, rfl, hb, rfl⟩
              refine Rg.steps_cons (fun x w1 hG hK => ?_) ?_
              · -- 39: t81 := Op.binOp BinOp.neq 9 (Operand.tmp 74) (Operand.tmp 80) 9
                have q32 : x 32 = .string Z := hK.1
                have q38 : x 38 = .string Z := hK.2.1
                have q26 : x 26 = .bool false := hK.2.2.1
                clear hK
                simp only [Rg.fillOps, Act.put, List.take_succ_cons, List.take_zero, List.setIfInBounds_toArray, List.set_cons_zero, List.set_cons_succ, Nat.zero_add, Nat.reduceAdd]
                clear hG
                go_wp2
                exact ⟨rfl, rfl, Below.refl _ _, rfl⟩
              refine Rg.steps_cons (fun x w1 hG hK => ?_) ?_
              · -- 40: t82 := Op.pick (Operand.tmp 68) (Operand.const (Value.bool true)) (Operand.tmp 81)
                have q26 : x 26 = .bool false := hK.1
                have q39 : x 39 = .bool false := hK.2.1
                clear hK
                simp only [Rg.fillOps, Act.put, List.take_succ_cons, List.take_zero, List.setIfInBounds_toArray, List.set_cons_zero, List.set_cons_succ, Nat.zero_add, Nat.reduceAdd]
                clear hG
                go_wp2
                exact ⟨rfl, rfl, Below.refl _ _, rfl⟩
              exact Rg.steps_nil
            case kept => exact Rg.kept_cons (Rg.kept_is _) (Rg.kept_cons (Rg.kept_is _) (Rg.kept_cons (Rg.kept_is _) (Rg.kept_cons (Rg.kept_is _) (Rg.kept_cons (Rg.kept_is _) (Rg.kept_cons kept_OpStr (Rg.kept_cons (Rg.kept_is _) (Rg.kept_cons (Rg.kept_is _) (Rg.kept_cons (Rg.kept_is _) (Rg.kept_cons (Rg.kept_is _) (Rg.kept_cons (Rg.kept_is _) (Rg.kept_cons (Rg.kept_is _) (Rg.kept_cons (Rg.kept_is _) (Rg.kept_cons kept_OpTab (Rg.kept_cons (Rg.kept_is _) (Rg.kept_cons (Rg.kept_is _) (Rg.kept_cons (Rg.kept_is _) (Rg.kept_cons (Rg.kept_is _) (Rg.kept_cons kept_OpStr (Rg.kept_cons (Rg.kept_is _) (Rg.kept_cons (Rg.kept_is _) (Rg.kept_cons (Rg.kept_is _) (Rg.kept_cons (Rg.kept_is _) (Rg.kept_cons (Rg.kept_is _) (Rg.kept_cons (Rg.kept_is _) (Rg.kept_cons (Rg.kept_is _) (Rg.kept_cons (Rg.kept_is _) (Rg.kept_cons (Rg.kept_is _) (Rg.kept_cons (Rg.kept_is _) (Rg.kept_cons (Rg.kept_is _) (Rg.kept_cons (Rg.kept_is _) (Rg.kept_cons (Rg.kept_is _) (Rg.kept_cons (Rg.kept_is _) (Rg.kept_cons kept_OpTab (Rg.kept_cons (Rg.kept_is _) (Rg.kept_cons (Rg.kept_is _) (Rg.kept_cons (Rg.kept_is _) (Rg.kept_cons (Rg.kept_is _) (Rg.kept_cons (Rg.kept_is _) (Rg.kept_cons (Rg.kept_is _) (Rg.kept_cons (Rg.kept_is _) (Rg.kept_nil)))))))))))))))))))))))))))))))))))))))))
            case fin =>
              intro x w1 hG hK
              have q0 : x 0 = .pointer (some ⟨B, 0, none⟩) := hK.1
              have q1 : x 1 = .slice (some ⟨b, off, none⟩) n cap := hK.2.1
              have q2 : x 2 = .int .i64 (kk : Int) := hK.2.2.1
              have q3 : x 3 = .pointer (some ⟨b, off + kk, none⟩) := hK.2.2.2.1
              have q4 : x 4 = .string s := hK.2.2.2.2.1
              have q5 : OpStr s (x 5) w1 := hK.2.2.2.2.2.1
              have q6 : x 6 = .int .i64 (m : Int) := hK.2.2.2.2.2.2.1
              have q7 : x 7 = .slice (some ⟨g, 0, none⟩) n cs := hK.2.2.2.2.2.2.2.1
              have q8 : x 8 = .int .i64 (kk : Int) := hK.2.2.2.2.2.2.2.2.1
              have q9 : x 9 = .pointer (some ⟨g, kk, none⟩) := hK.2.2.2.2.2.2.2.2.2.1
              have q10 : x 10 = .int .i64 (m : Int) := hK.2.2.2.2.2.2.2.2.2.2.1
              have q11 : x 11 = .bool false := hK.2.2.2.2.2.2.2.2.2.2.2.1
              have q12 : x 12 = .bool false := hK.2.2.2.2.2.2.2.2.2.2.2.2.1
              have q13 : OpTab (x 13) w1 := hK.2.2.2.2.2.2.2.2.2.2.2.2.2.1
              have q14 : x 14 = .slice (some ⟨b, off, none⟩) n cap := hK.2.2.2.2.2.2.2.2.2.2.2.2.2.2.1
              have q15 : x 15 = .int .i64 (kk : Int) := hK.2.2.2.2.2.2.2.2.2.2.2.2.2.2.2.1
              have q16 : x 16 = .pointer (some ⟨b, off + kk, none⟩) := hK.2.2.2.2.2.2.2.2.2.2.2.2.2.2.2.2.1
              have q17 : x 17 = .string s := hK.2.2.2.2.2.2.2.2.2.2.2.2.2.2.2.2.2.1
              have q18 : OpStr s (x 18) w1 := hK.2.2.2.2.2.2.2.2.2.2.2.2.2.2.2.2.2.2.1
              have q19 : x 19 = .int .i64 (m : Int) := hK.2.2.2.2.2.2.2.2.2.2.2.2.2.2.2.2.2.2.2.1
              have q20 : x 20 = .slice (some ⟨g, 0, none⟩) n cs := hK.2.2.2.2.2.2.2.2.2.2.2.2.2.2.2.2.2.2.2.2.1
              have q21 : x 21 = .int .i64 (kk : Int) := hK.2.2.2.2.2.2.2.2.2.2.2.2.2.2.2.2.2.2.2.2.2.1
              have q22 : x 22 = .pointer (some ⟨g, kk, none⟩) := hK.2.2.2.2.2.2.2.2.2.2.2.2.2.2.2.2.2.2.2.2.2.2.1
              have q23 : x 23 = .int .i64 (m : Int) := hK.2.2.2.2.2.2.2.2.2.2.2.2.2.2.2.2.2.2.2.2.2.2.2.1
              have q24 : x 24 = .bool false := hK.2.2.2.2.2.2.2.2.2.2.2.2.2.2.2.2.2.2.2.2.2.2.2.2.1
              have q25 : x 25 = .bool false := hK.2.2.2.2.2.2.2.2.2.2.2.2.2.2.2.2.2.2.2.2.2.2.2.2.2.1
              have q26 : x 26 = .bool false := hK.2.2.2.2.2.2.2.2.2.2.2.2.2.2.2.2.2.2.2.2.2.2.2.2.2.2.1
              have q27 : x 27 = .pointer (some ⟨B, 0, none⟩) := hK.2.2.2.2.2.2.2.2.2.2.2.2.2.2.2.2.2.2.2.2.2.2.2.2.2.2.2.1
              have q28 : x 28 = .slice (some ⟨b, off, none⟩) n cap := hK.2.2.2.2.2.2.2.2.2.2.2.2.2.2.2.2.2.2.2.2.2.2.2.2.2.2.2.2.1
              have q29 : x 29 = .int .i64 (kk : Int) := hK.2.2.2.2.2.2.2.2.2.2.2.2.2.2.2.2.2.2.2.2.2.2.2.2.2.2.2.2.2.1
              have q30 : x 30 = .pointer (some ⟨b, off + kk, none⟩) := hK.2.2.2.2.2.2.2.2.2.2.2.2.2.2.2.2.2.2.2.2.2.2.2.2.2.2.2.2.2.2.1
              have q31 : x 31 = .string s := hK.2.2.2.2.2.2.2.2.2.2.2.2.2.2.2.2.2.2.2.2.2.2.2.2.2.2.2.2.2.2.2.1
              have q32 : x 32 = .string Z := hK.2.2.2.2.2.2.2.2.2.2.2.2.2.2.2.2.2.2.2.2.2.2.2.2.2.2.2.2.2.2.2.2.1
              have q33 : OpTab (x 33) w1 := hK.2.2.2.2.2.2.2.2.2.2.2.2.2.2.2.2.2.2.2.2.2.2.2.2.2.2.2.2.2.2.2.2.2.1
              have q34 : x 34 = .slice (some ⟨b, off, none⟩) n cap := hK.2.2.2.2.2.2.2.2.2.2.2.2.2.2.2.2.2.2.2.2.2.2.2.2.2.2.2.2.2.2.2.2.2.2.1
              have q35 : x 35 = .int .i64 (kk : Int) := hK.2.2.2.2.2.2.2.2.2.2.2.2.2.2.2.2.2.2.2.2.2.2.2.2.2.2.2.2.2.2.2.2.2.2.2.1
              have q36 : x 36 = .pointer (some ⟨b, off + kk, none⟩) := hK.2.2.2.2.2.2.2.2.2.2.2.2.2.2.2.2.2.2.2.2.2.2.2.2.2.2.2.2.2.2.2.2.2.2.2.2.1
              have q37 : x 37 = .string s := hK.2.2.2.2.2.2.2.2.2.2.2.2.2.2.2.2.2.2.2.2.2.2.2.2.2.2.2.2.2.2.2.2.2.2.2.2.2.1
              have q38 : x 38 = .string Z := hK.2.2.2.2.2.2.2.2.2.2.2.2.2.2.2.2.2.2.2.2.2.2.2.2.2.2.2.2.2.2.2.2.2.2.2.2.2.2.1
              have q39 : x 39 = .bool false := hK.2.2.2.2.2.2.2.2.2.2.2.2.2.2.2.2.2.2.2.2.2.2.2.2.2.2.2.2.2.2.2.2.2.2.2.2.2.2.2.1
              have q40 : x 40 = .bool false := hK.2.2.2.2.2.2.2.2.2.2.2.2.2.2.2.2.2.2.2.2.2.2.2.2.2.2.2.2.2.2.2.2.2.2.2.2.2.2.2.2.1
              clear hK
              simp only [Rg.fillOps, Act.put, List.setIfInBounds_toArray, List.set_cons_zero, List.set_cons_succ, Nat.zero_add, Nat.reduceAdd]
              simp only [q0, q1, q2, q3, q4, q6, q7, q8, q9, q10, q11, q12, q14, q15, q16, q17, q19, q20, q21, q22, q23, q24, q25, q26, q27, q28, q29, q30, q31, q32, q34, q35, q36, q37, q38, q39, q40]
              have HG := Lib.hid (HW4.out.trans (hG.mono HW4.out.size))
              clear hG q5 q13 q18 q33
              go_wp2_with fail
              go_roundw
              case rel => exact ⟨k + 1, by omega, by go_num, HG⟩
              case measure => simp [intOf]; omega
          · have d1 : decide ((k : Int) < (n : Int)) = false := by simp; omega
            go_wp2_with fail
            go_ret
            exact ⟨rfl, HB2.out.trans ((HW.out.trans (HW4.out.mono HW.out.size)).mono HB2.out.size)⟩
end Go.Proofs.Ytdhokdjmobmpoaa.Crc
