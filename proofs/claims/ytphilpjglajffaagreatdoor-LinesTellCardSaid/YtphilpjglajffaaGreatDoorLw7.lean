/- The walk of LinesTell. -/
import Derived.Test.YtphilpjglajffaaGreatDoorLw6
import Derived.Test.YtphilpjglajffaaGreatDoorAwake2
import Derived.Laws.AppendOwnNone
namespace Go.Proofs.YtphilpjglajffaaGreatDoor.Lin
open Go.RowKit

theorem intInfo : (Tryz.prog.info? 3).map (fun i => (i.zero, i.size, i.bytes)) = some (some (.int .i64 0), 1, 8) := by kernel_rfl
def intsV (l : List Int) : List Value := l.map (Value.int .i64)

theorem own_two (w : World) (x y : Value) : (w.alloc (.cells #[x, y] 3)).ownsRow w.heap.size 3 1 (.slice (some ⟨w.heap.size, 0, none⟩) 2 2) 2 [x, y] :=
  ⟨rfl, .inr ⟨w.heap.size, 2, #[x, y], rfl, Nat.le_refl _, heap_alloc_new w _, Nat.le_refl _, by decide, rfl, rfl⟩⟩

theorem own_some {w : World} {base : Nat} {e : TypeId} {size n : Nat} {v : Value} {xs : List Value} (h : w.ownsRow base e size v n xs) (h0 : 0 < n) : ∃ g cs, v = .slice (some ⟨g, 0, none⟩) n cs := by
  rcases h.2 with ⟨_, h1⟩ | ⟨g, cs, cur, h, _⟩
  · omega
  · exact ⟨g, cs, h⟩

/-- behind the append -/
def Row (W : World) (n : Nat) (l : List Int) (s21 s22 s23 : Value) (wx : World) : Prop :=
  ∃ g cs M, s21 = .slice (some ⟨g, 0, none⟩) M cs ∧ s22 = .int .i64 (M : Int) ∧ s23 = .int .i64 0 ∧ M ≤ n + 2 ∧ Hid (M = n + 2) ∧ Hid (wx.ownsRow W.heap.size 3 1 s21 M (intsV l)) ∧ Hid (Below W.heap.size W wx)

/-- the same text, in the same world -/
def SameAt (W : World) (t : ByteArray) (n : Nat) (v : Value) (wx : World) : Prop := W = wx ∧ ∃ s, v = .string s ∧ s.size ≤ n ∧ Hid (s = t)

set_option maxRecDepth 100000 in
set_option maxHeartbeats 4000000 in
theorem tell_law (E N : Int) (did : Bool) (a : Option Addr) (n cap : Nat) (l : List Int) (hn : n = l.length) (hnone : a = none → n = 0 ∧ cap = 0) (w : World) (hl : IntsIn w (.slice a n cap) l) (hp : PowIs w) {tp : TypeId} {p : Value} (hw : w.cell? ⟨2, 0, none⟩ = some (.iface tp p)) (hn1 : n ≤ 9223372036854775807) :
    Calls Tryz.prog 6 #[.agg #[.int .i64 E, .int .i64 N, .bool did, .slice a n cap]] w fun e w' => e = .returned (.bool true) ∧ Below w.heap.size w w' := by
  obtain ⟨i0, hi, hzz⟩ := Option.map_eq_some_iff.1 intInfo
  simp only [Prod.mk.injEq] at hzz
  obtain ⟨hz0, hz1, hz2⟩ := hzz
  have HI : Hid (Tryz.prog.info? 3 = some i0 ∧ i0.zero = some (.int .i64 0) ∧ i0.size = 1 ∧ i0.bytes = 8) := Lib.hid ⟨hi, hz0, hz1, hz2⟩
  clear hi hz0 hz1 hz2
  have HN := Lib.hid hn
  have HNO := Lib.hid hnone
  obtain ⟨W, HWE⟩ : ∃ W, Hid (w.alloc (.cells #[.int .i64 E, .int .i64 N, .bool did, .slice a n cap] 43) = W) := ⟨_, Lib.hid rfl⟩
  have HBW : Hid (Below w.heap.size w W) := Lib.hid (by rw [← HWE.out]; exact (Below.refl _ _).alloc (Nat.le_refl _) _)
  have HL := Lib.hid (hl.below HBW.out)
  have HP := Lib.hid (hp.below HBW.out)
  have HA : Hid (AnsAt W w.heap.size E N did (.slice a n cap)) := Lib.hid (by rw [← HWE.out]; exact AnsAt.new _ _ _ _ _)
  have HW2 : Hid (W.cell? ⟨2, 0, none⟩ = some (.iface tp p)) := Lib.hid ((HBW.out.cell (cell_lt hw)).trans hw)
  clear hn hl hp hw hnone
  go_enter Tryz.func6, Tryz.ntmps6
  go_wp2_with fail
  rw [HWE.out]
  refine (Go.Ev.awake_calls HW2.out (cell_lt HW2.out)).mono ?_
  rintro e wa ⟨rfl, hba⟩
  have HLA := Lib.hid (HL.out.below hba)
  have HPA := Lib.hid (HP.out.below hba)
  have HAA := Lib.hid (HA.out.below hba)
  have HBA := Lib.hid (HBW.out.trans (hba.mono HBW.out.size))
  clear hba HL HP HA HBW HW2 HWE
  obtain ⟨c0, c1, c2, c3⟩ := HAA.out
  by_cases h60 : 60 < n
  · have d0 : decide ((60 : Int) < (n : Int)) = true := by simp; omega
    go_wp2_with fail
    go_ret
    exact ⟨rfl, HBA.out⟩
  · have d0 : decide ((60 : Int) < (n : Int)) = false := by simp; omega
    have hle : n ≤ 60 := by omega
    go_upto_region 5 with fail
    go_cut [21, 22, 23] (fun s21 s22 s23 wx => Row wa n (N :: E :: l) s21 s22 s23 wx)
    case first =>
      have HO2 := Lib.hid (own_two wa (.int .i64 N) (.int .i64 E))
      have c3b := (((Below.refl wa.heap.size wa).alloc (Nat.le_refl _) (.cells #[.int .i64 N, .int .i64 E] 3)).cell (cell_lt c3)).trans c3
      cases a with
      | none =>
        obtain ⟨rfl, rfl⟩ := HNO.out rfl
        have hl0 : l = [] := List.eq_nil_of_length_eq_zero HN.out.symm
        subst hl0
        go_wp2_with ((at_builtin; refine wpList_append_own_none rfl _ _ 41 rfl wa.heap.size 3 i0 1 Tryz.underlying41 HI.out.1 _ 2 [.int .i64 N, .int .i64 E] rfl HO2.out rfl ?_))
        go_meet
        exact ⟨_, _, 2, rfl, rfl, rfl, Nat.le_refl _, Lib.hid rfl, HO2, Lib.hid ((Below.refl _ _).alloc (Nat.le_refl _) _)⟩
      | some ad =>
        have hnews : ∀ j u, (intsV l)[j]? = some u → (wa.alloc (.cells #[.int .i64 N, .int .i64 E] 3)).cell? (ad.add j) = some u := fun j u hj => by
          have hjl : j < l.length := by
            rcases Nat.lt_or_ge j l.length with h | h
            · exact h
            · rw [List.getElem?_eq_none (by simpa [intsV] using h)] at hj; simp at hj
          obtain ⟨b, off, hb, hc⟩ := HLA.out.at HN.out j hjl
          injection hb with hb
          subst hb
          rw [Go.WideShapes.add_plain]
          have := (((Below.refl wa.heap.size wa).alloc (Nat.le_refl _) (.cells #[.int .i64 N, .int .i64 E] 3)).cell (cell_lt hc)).trans hc
          rw [this, ← hj]
          simp [intsV, List.getElem?_eq_getElem hjl]
        have HNW := Lib.hid hnews
        have HLN : Hid ((intsV l).length = n * 1) := Lib.hid (by rw [HN.out]; simp [intsV])
        clear hnews
        go_wp2_with ((at_builtin; (refine wpList_append_own _ rfl _ _ 41 rfl wa.heap.size 3 i0 (.int .i64 0) 1 8 Tryz.underlying41 HI.out.1 HI.out.2.1 HI.out.2.2.1 HI.out.2.2.2 rfl (by decide) _ 2 [.int .i64 N, .int .i64 E] rfl HO2.out ad n cap (intsV l) rfl HLN.out HNW.out (fun x hx => by unfold intsV at hx; obtain ⟨y, _, rfl⟩ := List.mem_map.1 hx; rfl) (by unfold maxLen; omega) (by omega) (by simp) ?_; intro v' w4 hown' hgrow hnil; have HO4 := Lib.hid hown'; have HW4 := Lib.hid (((Below.refl wa.heap.size wa).alloc (Nat.le_refl _) _).grown hgrow (by simp) (own_base HO2.out)); clear hown' hgrow hnil; obtain ⟨g, cs, rfl⟩ := own_some HO4.out (by omega); obtain ⟨M, HM0⟩ : ∃ M, Hid (2 + n = M) := ⟨_, Lib.hid rfl⟩; rw [HM0.out] at HO4; rw [HM0.out]; have hM1 : M ≤ n + 2 := (by rw [← HM0.out]; omega); have HM1 : Hid (M = n + 2) := Lib.hid (by rw [← HM0.out]; omega))))
        go_meet
        exact ⟨_, _, M, rfl, rfl, rfl, hM1, HM1, HO4, HW4⟩
    case rest =>
      obtain ⟨g, cs, M, rfl, rfl, rfl, hM, HM, HO, HWC⟩ := hcut
      have HLC := Lib.hid (HLA.out.below HWC.out)
      have HPC := Lib.hid (HPA.out.below HWC.out)
      have HAC := Lib.hid (HAA.out.below HWC.out)
      have HBC := Lib.hid (HBA.out.trans (HWC.out.mono HBA.out.size))
      clear c0 c1 c2 c3 HLA HPA HAA HBA
      generalize wc = wz at *
      obtain ⟨xs, HXS⟩ : ∃ xs, Hid (N :: E :: l = xs) := ⟨_, Lib.hid rfl⟩
      have HOX : Hid (wz.ownsRow wa.heap.size 3 1 (.slice (some ⟨g, 0, none⟩) M cs) M (intsV xs)) := Lib.hid (by rw [← HXS.out]; exact HO.out)
      have HXL : Hid (xs.length = M) := Lib.hid (by rw [← HXS.out, HM.out, HN.out]; rfl)
      clear HO HWC
      go_wp2_with fail
      go_loop [23] (fun i => ∃ k : Nat, k ≤ M ∧ i = .int .i64 k ∧ Hid (∀ j (h : j < xs.length), j < k → SmallI xs[j])) (fun i => M - (intOf i).toNat)
      case atStart => exact ⟨0, Nat.zero_le _, rfl, Lib.hid fun j h h0 => absurd h0 (by omega)⟩
      case round =>
        obtain ⟨k, hk, rfl, HSK⟩ := hrel
        by_cases hlt : k < M
        · have d1 : decide ((k : Int) < (M : Int)) = true := by simp; omega
          have hki : (k : Int) < (M : Int) := by omega
          have hkl : k < xs.length := by rw [HXL.out]; exact hlt
          have hcell := HOX.out.cells (g := g) rfl k (.int .i64 xs[k]) (by simp [intsV, hkl])
          rw [Go.WideShapes.add_plain, Nat.zero_add] at hcell
          have HSS : Hid (SmallI xs[k] → ∀ j (h : j < xs.length), j < k + 1 → SmallI xs[j]) := Lib.hid fun hs j h hj => by
            rcases Nat.lt_or_ge j k with h' | h'
            · exact HSK.out j h h'
            · obtain rfl : j = k := by omega
              exact hs
          generalize xs[k] = x at *
          clear hkl HSK
          by_cases hx1 : x < -1125899906842624
          · have t1 : decide (x < -1125899906842624) = true := by simpa using hx1
            go_wp2_with fail
            go_ret
            exact ⟨rfl, HBC.out⟩
          · have t1 : decide (x < -1125899906842624) = false := by simpa using hx1
            by_cases hx2 : 1125899906842624 < x
            · have t2 : decide (1125899906842624 < x) = true := by simpa using hx2
              go_wp2_with fail
              go_ret
              exact ⟨rfl, HBC.out⟩
            · have t2 : decide (1125899906842624 < x) = false := by simpa using hx2
              go_wp2_with fail
              go_round
              case rel => exact ⟨k + 1, by omega, by go_num, Lib.hid (HSS.out ⟨by omega, by omega⟩)⟩
              case measure => simp [intOf]; omega
        · have d1 : decide ((k : Int) < (M : Int)) = false := by simp; omega
          have hall : ∀ x ∈ xs, SmallI x := fun x hx => by
            obtain ⟨j, hj, rfl⟩ := List.getElem_of_mem hx
            exact HSK.out j hj (by rw [HXL.out] at hj; omega)
          have HSN : Hid (SmallI N) := Lib.hid (hall N (by rw [← HXS.out]; simp))
          have HSE : Hid (SmallI E) := Lib.hid (hall E (by rw [← HXS.out]; simp))
          have HSL : Hid (∀ m ∈ l, SmallI m) := Lib.hid fun m hm => hall m (by rw [← HXS.out]; simp [hm])
          clear hall HSK HOX HXL HXS HM
          obtain ⟨c0, c1, c2, c3⟩ := HAC.out
          go_upto_if 36 with fail
          go_cut [5] (fun s5 wx => SameAt wz (tell0 E) 30 s5 wx)
          case first =>
            by_cases h0 : E = 0
            · have t0 : (E != 0) = false := by simpa using h0
              have H0 := Lib.hid h0
              clear h0
              go_wp2_with fail
              go_meet
              exact ⟨rfl, okB, rfl, by decide, Lib.hid (by unfold tell0; rw [if_pos H0.out])⟩
            · have t0 : (E != 0) = true := by simpa using h0
              have hz := itoaB_size E HSE.out.1 HSE.out.2
              have HT := Lib.hid (show errB ++ itoaB E = tell0 E by unfold tell0; rw [if_neg h0])
              have HD := Lib.hid (fun w => digits_calls E w HSE.out.1 HSE.out.2)
              generalize itoaB E = D at *
              go_wp2_with fail
              refine (HD.out _).mono ?_
              rintro e w3 ⟨rfl, rfl⟩
              go_wp2_with fail
              go_meet
              exact ⟨rfl, errB ++ D, rfl, by rw [ByteArray.size_append]; show 6 + D.size ≤ 30; omega, HT⟩
          case rest =>
            obtain ⟨rfl, s1, rfl, hs1, HS1⟩ := hcut
            go_upto_if 43 with fail
            go_cut [5] (fun s5 wx => SameAt wz (tell1 E N) 60 s5 wx)
            case first =>
              by_cases h0 : N = 0
              · have t0 : (N != 0) = false := by simpa using h0
                have H0 := Lib.hid h0
                clear h0
                go_wp2_with fail
                go_meet
                exact ⟨rfl, s1, rfl, by omega, Lib.hid (by unfold tell1; rw [if_pos H0.out]; exact HS1.out)⟩
              · have t0 : (N != 0) = true := by simpa using h0
                have hz := itoaB_size N HSN.out.1 HSN.out.2
                have HT := Lib.hid (show tell0 E ++ (spB ++ itoaB N) = tell1 E N by unfold tell1; rw [if_neg h0])
                have HD := Lib.hid (fun w => digits_calls N w HSN.out.1 HSN.out.2)
                generalize itoaB N = D at *
                go_wp2_with fail
                refine (HD.out _).mono ?_
                rintro e w3 ⟨rfl, rfl⟩
                go_wp2_with fail
                go_meet
                exact ⟨rfl, s1 ++ (spB ++ D), rfl, by rw [ByteArray.size_append, ByteArray.size_append]; show s1.size + (1 + D.size) ≤ 60; omega, Lib.hid (by rw [HS1.out]; exact HT.out)⟩
            case rest =>
              obtain ⟨rfl, s2, rfl, hs2, HS2⟩ := hcut
              clear HS1 hs1
              go_upto_if 51 with fail
              go_cut [5] (fun s5 wx => SameAt wz (tell2 E N did) 70 s5 wx)
              case first =>
                cases did with
                | false =>
                  go_wp2_with fail
                  go_meet
                  exact ⟨rfl, s2, rfl, by omega, HS2⟩
                | true =>
                  go_wp2_with fail
                  go_meet
                  exact ⟨rfl, s2 ++ didB, rfl, by rw [ByteArray.size_append]; show s2.size + 4 ≤ 70; omega, Lib.hid (by rw [HS2.out]; rfl)⟩
              case rest =>
                obtain ⟨rfl, T, rfl, hsT, HT⟩ := hcut
                clear HS2 hs2
                go_wp2_with fail
                go_loop [5, 57] (fun t i => ∃ (k : Nat) (s : ByteArray), k ≤ n ∧ i = .int .i64 k ∧ t = .string s ∧ s.size ≤ 100 + 22 * k ∧ Hid (s = tellI T (l.take k))) (fun _ i => n - (intOf i).toNat)
                case atStart => exact ⟨0, T, Nat.zero_le _, rfl, rfl, by omega, Lib.hid rfl⟩
                case round =>
                  obtain ⟨k, s, hk, rfl, rfl, hsz, HE⟩ := hrel
                  by_cases hlt : k < n
                  · have d1 : decide ((k : Int) < (n : Int)) = true := by simp; omega
                    have hki : (k : Int) < (n : Int) := by omega
                    have hkl : k < l.length := by rw [← HN.out]; exact hlt
                    obtain ⟨b, off, rfl, hcell⟩ := HLC.out.at HN.out k hkl
                    have HSU := Lib.hid (tellI_succ T l k hkl)
                    have hsm := HSL.out l[k] (List.getElem_mem _)
                    generalize l[k] = m at *
                    have hz := itoaB_size m hsm.1 hsm.2
                    have HD := Lib.hid (fun w => digits_calls m w hsm.1 hsm.2)
                    clear hsm hkl
                    generalize itoaB m = D at *
                    go_wp2_with fail
                    refine (HD.out _).mono ?_
                    rintro e w3 ⟨rfl, rfl⟩
                    go_wp2_with fail
                    go_round
                    case rel => exact ⟨k + 1, s ++ (spB ++ D), by omega, by go_num, rfl, by rw [ByteArray.size_append, ByteArray.size_append]; show s.size + (1 + D.size) ≤ _; omega, Lib.hid (by rw [HSU.out, HE.out])⟩
                    case measure => simp [intOf]; omega
                  · have d1 : decide ((k : Int) < (n : Int)) = false := by simp; omega
                    have HK := Lib.hid (show k = n by omega)
                    have HRES : Hid (s = tellI (tell2 E N did) l) := Lib.hid (by rw [HE.out, HK.out, HN.out, List.take_length, HT.out])
                    go_wp2_with fail
                    refine (tell_calls E N did a n cap l HN.out hle _ HLC.out HPC.out HSE.out HSN.out HSL.out).mono ?_
                    rintro e w9 ⟨rfl, hb9⟩
                    have HB9 := Lib.hid (HBC.out.trans (hb9.mono HBC.out.size))
                    clear hb9
                    rw [← HRES.out]
                    go_wp2_with fail
                    go_ret
                    exact ⟨by simp, HB9.out⟩
end Go.Proofs.YtphilpjglajffaaGreatDoor.Lin
