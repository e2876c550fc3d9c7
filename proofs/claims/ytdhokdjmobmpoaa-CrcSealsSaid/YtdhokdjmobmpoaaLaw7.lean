/- CrcSeals: the walk. -/
import Derived.Test.YtdhokdjmobmpoaaWk9
namespace Go.Proofs.Ytdhokdjmobmpoaa.Crc
open Go.RowKit

set_option maxRecDepth 100000 in
set_option maxHeartbeats 1000000 in
theorem seals_great1 (s raw : ByteArray) (p c : Int) (w : World) (h1 : 2000 < s.size) :
    Calls Try.prog 7 #[.agg #[.string s, .int .i64 p, .int .u8 c], .string raw] w fun e w' => e = .returned (.bool true) ∧ Below w.heap.size w w' := by
  have h1i : (2000 : Int) < (s.size : Int) := by omega
  go_enter Try.func7, Try.ntmps7
  go_wp2_with fail
  refine (awake_calls _).mono ?_
  rintro e w1 ⟨rfl, hb1⟩
  have HB1 := Lib.hid (alloc_below hb1)
  obtain ⟨hc0, hc1, hc2⟩ : w1.cell? ⟨w.heap.size, 0, none⟩ = some (.string s) ∧ w1.cell? ⟨w.heap.size, 1, none⟩ = some (.int .i64 p) ∧ w1.cell? ⟨w.heap.size, 2, none⟩ = some (.int .u8 c) :=
    have hc : ∀ o, w1.cell? ⟨w.heap.size, o, none⟩ = #[Value.string s, .int .i64 p, .int .u8 c][o]? := fun o => (hb1.cell (p := ⟨w.heap.size, o, none⟩) (by simp)).trans (cell_new w _ 36 o)
    ⟨hc 0, hc 1, hc 2⟩
  clear hb1
  go_wp2_with fail
  go_quiet (fail)
  go_wp2_with fail
  go_ret
  exact ⟨rfl, HB1.out.trans (below_drewN' _ _ _)⟩

set_option maxRecDepth 100000 in
set_option maxHeartbeats 1000000 in
theorem seals_great2 (s raw : ByteArray) (p c : Int) (w : World) (h1 : s.size ≤ 2000) (h2 : 2000 < raw.size) :
    Calls Try.prog 7 #[.agg #[.string s, .int .i64 p, .int .u8 c], .string raw] w fun e w' => e = .returned (.bool true) ∧ Below w.heap.size w w' := by
  have d1 : decide ((2000 : Int) < (s.size : Int)) = false := by simp; omega
  have d2 : decide ((2000 : Int) < (raw.size : Int)) = true := by simp; omega
  go_enter Try.func7, Try.ntmps7
  go_wp2_with fail
  refine (awake_calls _).mono ?_
  rintro e w1 ⟨rfl, hb1⟩
  have HB1 := Lib.hid (alloc_below hb1)
  obtain ⟨hc0, hc1, hc2⟩ : w1.cell? ⟨w.heap.size, 0, none⟩ = some (.string s) ∧ w1.cell? ⟨w.heap.size, 1, none⟩ = some (.int .i64 p) ∧ w1.cell? ⟨w.heap.size, 2, none⟩ = some (.int .u8 c) :=
    have hc : ∀ o, w1.cell? ⟨w.heap.size, o, none⟩ = #[Value.string s, .int .i64 p, .int .u8 c][o]? := fun o => (hb1.cell (p := ⟨w.heap.size, o, none⟩) (by simp)).trans (cell_new w _ 36 o)
    ⟨hc 0, hc 1, hc 2⟩
  clear hb1
  go_wp2_with fail
  go_quiet (fail)
  go_wp2_with fail
  go_ret
  exact ⟨rfl, HB1.out.trans (below_drewN' _ _ _)⟩

theorem refSeal_raw (raw : ByteArray) (w : World) (hs : raw.size ≤ 2000) (hi : isSeal raw.data.toList = decide (sealL (List.drop 4 raw.data.toList) = raw.data.toList)) (he : isSeal raw.data.toList = true) :
    Calls Try.prog 17 #[.string (raw.extract 4 raw.size)] w fun e w' => e = .returned (.string raw) ∧ Below w.heap.size w w' := by
  refine (refSeal_calls _ w (by rw [ext_size]; omega)).mono ?_
  rintro e w' ⟨rfl, hb⟩
  refine ⟨?_, hb⟩
  rw [he] at hi
  have := of_decide_eq_true hi.symm
  rw [ext_list]
  exact ret_text (by apply ByteArray.ext; apply Array.ext'; exact this)

theorem refSeal_other (raw : ByteArray) (hs : raw.size ≤ 2000) (hi : isSeal raw.data.toList = decide (sealL (List.drop 4 raw.data.toList) = raw.data.toList)) (he : isSeal raw.data.toList = false) :
    ∃ Y : ByteArray, (∀ w, Calls Try.prog 17 #[.string (raw.extract 4 raw.size)] w fun e w' => e = .returned (.string Y) ∧ Below w.heap.size w w') ∧ (Y.toList == raw.toList) = false := by
  refine ⟨_, fun w => refSeal_calls _ w (by rw [ext_size]; omega), ?_⟩
  rw [he] at hi
  have := of_decide_eq_false hi.symm
  rw [beq_eq_false_iff_ne, ByteArray.toList_eq, ByteArray.toList_eq]
  intro e
  apply this
  rw [← ext_list]
  exact e

theorem cell_bytes (X : ByteArray) (k : Nat) (hk : k < X.size) (W : World) (cap : Nat) (fr : Nat × Nat) : (W.alloc (.cells (bytesRow X cap) 5 fr)).cell? ⟨W.heap.size, k, none⟩ = some (.int .u8 (X[k].toNat : Int)) := by
  rw [World.cell?_alloc_mark, bytesRow_at _ _ _ hk]; rfl
theorem bytes_back (X : ByteArray) (k : Nat) (b : UInt8) (hk : k < X.size) (W : World) (cap cap' : Nat) (fr : Nat × Nat) :
    (convert 29 9 (.slice (some ⟨W.heap.size, 0, none⟩) X.size cap')).run Try.prog ((W.alloc (.cells (bytesRow X cap) 5 fr)).setCell ⟨W.heap.size, k, none⟩ (.int .u8 (Go.bits .xor .u8 (X[k].toNat : Int) (b.toNat : Int)))).drew =
      .ok (.string ⟨⟨X.data.toList.set k (X.data.toList[k]'(by rw [size_list]; exact hk) ^^^ b)⟩⟩) ((W.alloc (.cells (bytesRow X cap) 5 fr)).setCell ⟨W.heap.size, k, none⟩ (.int .u8 (Go.bits .xor .u8 (X[k].toNat : Int) (b.toNat : Int)))).drew := by
  have hx : Go.bits .xor .u8 (X[k].toNat : Int) (b.toNat : Int) = (((X.data.toList[k]'(by rw [size_list]; exact hk) ^^^ b).toNat : Nat) : Int) := by
    rw [UInt8.toNat_xor]
    exact u8_xor_nat X[k].toNat b.toNat X[k].toNat_lt b.toNat_lt
  have hlen : (X.data.toList.set k (X.data.toList[k]'(by rw [size_list]; exact hk) ^^^ b)).length = X.size := by rw [List.length_set, size_list]
  have h := run_convert_bytes_back (P := Try.prog) ((W.alloc (.cells (bytesRow X cap) 5 fr)).setCell ⟨W.heap.size, k, none⟩ (.int .u8 (Go.bits .xor .u8 (X[k].toNat : Int) (b.toNat : Int)))).drew 29 9 5 ⟨W.heap.size, 0, none⟩ cap'
    (X.data.toList.set k (X.data.toList[k]'(by rw [size_list]; exact hk) ^^^ b)) Try.underlying29 Try.underlying5 Try.underlying9 (fun j hj => by
      rw [Go.WideShapes.add_plain, Nat.zero_add]
      have hjx : j < X.size := by rw [hlen] at hj; exact hj
      show ((W.alloc (.cells (bytesRow X cap) 5 fr)).setCell ⟨W.heap.size, k, none⟩ _).cell? ⟨W.heap.size, j, none⟩ = _
      by_cases hjk : k = j
      · subst hjk
        rw [List.getElem_set_self, hx]
        have hc := cell_bytes X k hk W cap fr
        exact World.cell?_setCell_same _ _ _ hc
      · rw [List.getElem_set_ne hjk]
        have hc := cell_bytes X j hjx W cap fr
        rw [World.cell?_setCell_other _ _ _ _ (by intro e; exact hjk (by injection e)), hc]
        rfl)
  rw [hlen] at h
  exact h

theorem free_bytes (X : ByteArray) (k : Nat) (hk : k < X.size) (W : World) (cap : Nat) : (W.alloc (.cells (bytesRow X cap) 5 ((bytesRow X cap).size, (bytesRow X cap).size + 1))).frozen? ⟨W.heap.size, k, none⟩ = false := by
  rw [World.frozen?_alloc_mark]
  have : ¬ (bytesRow X cap).size ≤ k := by unfold bytesRow; simp; omega
  simp [this]

set_option maxRecDepth 100000 in
set_option maxHeartbeats 4000000 in
theorem seals_main (s raw : ByteArray) (p c : Int) (w : World) (h1 : s.size ≤ 2000) (h2 : raw.size ≤ 2000) (hc0 : 0 ≤ c) (hc1 : c < 256) :
    Calls Try.prog 7 #[.agg #[.string s, .int .i64 p, .int .u8 c], .string raw] w fun e w' => e = .returned (.bool true) ∧ Below w.heap.size w w' := by
  have d1 : decide ((2000 : Int) < (s.size : Int)) = false := by simp; omega
  have d2 : decide ((2000 : Int) < (raw.size : Int)) = false := by simp; omega
  go_enter Try.func7, Try.ntmps7
  go_wp2_with fail
  refine (awake_calls _).mono ?_
  rintro e w1 ⟨rfl, hb1⟩
  have HB1 := Lib.hid (alloc_below hb1)
  obtain ⟨hc0, hc1, hc2⟩ : w1.cell? ⟨w.heap.size, 0, none⟩ = some (.string s) ∧ w1.cell? ⟨w.heap.size, 1, none⟩ = some (.int .i64 p) ∧ w1.cell? ⟨w.heap.size, 2, none⟩ = some (.int .u8 c) :=
    have hc : ∀ o, w1.cell? ⟨w.heap.size, o, none⟩ = #[Value.string s, .int .i64 p, .int .u8 c][o]? := fun o => (hb1.cell (p := ⟨w.heap.size, o, none⟩) (by simp)).trans (cell_new w _ 36 o)
    ⟨hc 0, hc 1, hc 2⟩
  clear hb1
  go_wp2_with fail
  go_quiet (fail)
  go_wp2_with fail
  refine (new_calls _).mono ?_
  rintro e w2 ⟨B, hB, rfl, ht, hb2⟩
  have HT := Lib.hid ht
  have HB2 := Lib.hid ((HB1.out.trans ((below_drewN' w1 _ _).trans (hb2.mono HB1.out.size))))
  clear ht hb2
  go_wp2_with fail
  refine (seal_calls B s _ HT.out (by omega)).mono ?_
  rintro e w3 ⟨rfl, hb3⟩
  have HT3 := Lib.hid (HT.out.below hb3)
  have HB3 := Lib.hid (HB2.out.trans (hb3.mono HB2.out.size))
  clear hb3
  have hxs : (⟨⟨wordL (sum s.data.toList) ++ s.data.toList⟩⟩ : ByteArray).size = 4 + s.size := by show (wordL (sum s.data.toList) ++ s.data.toList).length = _; simp [wordL_length]
  have hxe : (⟨⟨wordL (sum s.data.toList) ++ s.data.toList⟩⟩ : ByteArray).extract 4 (⟨⟨wordL (sum s.data.toList) ++ s.data.toList⟩⟩ : ByteArray).size = s := by
    apply ByteArray.ext
    apply Array.ext'
    rw [ext_list]
    show (wordL (sum s.data.toList) ++ s.data.toList).drop 4 = _
    rw [List.drop_append_of_le_length (by simp [wordL])]; rfl
  have hxi := isSeal_seal s.data.toList
  have hrs := fun W => refSeal_calls s W (by omega)
  have hturn := fun k b hk hb => turned_not s.data.toList k b hk hb
  have hxl : (⟨⟨wordL (sum s.data.toList) ++ s.data.toList⟩⟩ : ByteArray).data.toList = sealL s.data.toList := rfl
  generalize hX : (⟨⟨wordL (sum s.data.toList) ++ s.data.toList⟩⟩ : ByteArray) = X at *
  have HRS : Hid (∀ W, Calls Try.prog 17 #[.string s] W fun e w' => e = .returned (.string X) ∧ Below W.heap.size W w') := Lib.hid hrs
  have HTU := Lib.hid hturn
  have HXI := Lib.hid hxi
  have HXE := Lib.hid hxe
  have HXL := Lib.hid hxl
  have hx1 : X.size ≤ 2004 := by omega
  have hx2 : 4 ≤ X.size := by omega
  have HXS := Lib.hid hxs
  have HX := Lib.hid hX
  clear hrs hturn hxi hxe hxl hxs hX
  go_wp2_with fail
  refine (open_yes B X _ HT3.out (by omega) (by rw [HXL.out]; exact HXI.out)).mono ?_
  rintro e w4 ⟨rfl, hb4⟩
  have HT4 := Lib.hid (HT3.out.below hb4)
  have HB4 := Lib.hid (HB3.out.trans (hb4.mono HB3.out.size))
  clear hb4
  rw [HXE.out]
  go_wp2_with fail
  refine (HRS.out _).mono ?_
  rintro e w5 ⟨rfl, hb5⟩
  have HT5 := Lib.hid (HT4.out.below hb5)
  have HB5 := Lib.hid (HB4.out.trans (hb5.mono HB4.out.size))
  clear hb5
  by_cases hp0 : 0 ≤ p
  · have d0 : decide ((0 : Int) ≤ p) = true := by simpa using hp0
    by_cases hp1 : p < (X.size : Int)
    · have d1 : decide (p < (X.size : Int)) = true := by simpa using hp1
      obtain ⟨b, rfl⟩ : ∃ b : UInt8, c = (b.toNat : Int) := ⟨UInt8.ofNat c.toNat, by rw [UInt8.toNat_ofNat']; omega⟩
      by_cases hc00 : (b.toNat : Int) = 0
      · have d2 : ((b.toNat : Int) != 0) = false := by simpa using hc00
        have HTZ := HT5
        have HBZ := HB5
        go_wp2_with fail
        refine (open_off raw _).mono ?_
        rintro e w7 ⟨rfl, hb7⟩
        have HB7 := Lib.hid hb7
        clear hb7
        go_wp2_with fail
        refine (seal_off _ _).mono ?_
        rintro e w8 ⟨rfl, rfl⟩
        have HTW := Lib.hid (HTZ.out.below HB7.out)
        by_cases hr4 : 4 ≤ raw.size
        · have hr4i : (4 : Int) ≤ (raw.size : Int) := by omega
          have hd4 : decide ((4 : Int) ≤ (raw.size : Int)) = true := by simp; omega
          have hmin : min (4 : Int) (raw.size : Int) = 4 := by omega
          have HI := Lib.hid (isSeal_iff raw.data.toList (by rw [size_list]; exact hr4))
          cases hi : isSeal raw.data.toList with
          | true =>
            have HE := Lib.hid hi
            clear hi
            go_wp2_with fail
            refine (open_yes B raw _ HTW.out (by omega) HE.out).mono ?_
            rintro e w9 ⟨rfl, hb9⟩
            have HB9 := Lib.hid hb9
            clear hb9
            go_wp2_with fail
            refine (refSeal_raw raw _ (by omega) HI.out HE.out).mono ?_
            rintro e w10 ⟨rfl, hb10⟩
            have HB10 := Lib.hid hb10
            clear hb10
            go_wp2_with fail
            go_ret
            refine ⟨by simp, ?_⟩
            have g1 := HBZ.out.trans (HB7.out.mono HBZ.out.size)
            have g2 := g1.trans (HB9.out.mono g1.size)
            exact g2.trans (HB10.out.mono g2.size)
          | false =>
            have HE := Lib.hid hi
            clear hi
            go_wp2_with fail
            refine (open_no B raw _ HTW.out (by omega) HE.out).mono ?_
            rintro e w9 ⟨rfl, hb9⟩
            have HB9 := Lib.hid hb9
            clear hb9
            go_wp2_with fail
            obtain ⟨Y, hY, hYr⟩ := refSeal_other raw (by omega) HI.out HE.out
            have HY := Lib.hid hY
            clear hY
            refine (HY.out _).mono ?_
            rintro e w10 ⟨rfl, hb10⟩
            have HB10 := Lib.hid hb10
            clear hb10
            go_wp2_with fail
            go_ret
            refine ⟨by simp, ?_⟩
            have g1 := HBZ.out.trans (HB7.out.mono HBZ.out.size)
            have g2 := g1.trans (HB9.out.mono g1.size)
            exact g2.trans (HB10.out.mono g2.size)
        · have hr4i : (raw.size : Int) < 4 := by omega
          have hd4 : decide ((4 : Int) ≤ (raw.size : Int)) = false := by simp; omega
          go_wp2_with fail
          refine (open_short B raw _ (by omega)).mono ?_
          rintro e w9 ⟨rfl, hb9⟩
          have HB9 := Lib.hid hb9
          clear hb9
          go_wp2_with fail
          go_ret
          refine ⟨by simp, ?_⟩
          have g1 := HBZ.out.trans (HB7.out.mono HBZ.out.size)
          exact g1.trans (HB9.out.mono g1.size)

      · have d2 : ((b.toNat : Int) != 0) = true := by simpa using hc00
        obtain ⟨k, rfl⟩ := Int.eq_ofNat_of_zero_le hp0
        have hcv := fun W => run_bytes_of_string (P := Try.prog) W 9 29 5 X Try.underlying9 Try.underlying29 Try.underlying5
        have hkx : k < X.size := by omega
        have hcell := cell_bytes X k hkx
        have hfree := free_bytes X k hkx
        have hback := bytes_back X k b hkx
        have HYN : Hid (isSeal (X.data.toList.set k (X.data.toList[k]'(by rw [size_list]; exact hkx) ^^^ b)) = false) := by
          have ht := HTU.out k b (by rw [← HXL.out, size_list]; exact hkx) (fun e => hc00 (by rw [e]; rfl))
          have he := HXL.out
          simp only [← he] at ht
          exact ht
        have hYs : (⟨⟨X.data.toList.set k (X.data.toList[k]'(by rw [size_list]; exact hkx) ^^^ b)⟩⟩ : ByteArray).size = X.size := by
          show (X.data.toList.set k _).length = _
          rw [List.length_set, size_list]
        generalize hY : (⟨⟨X.data.toList.set k (X.data.toList[k]'(by rw [size_list]; exact hkx) ^^^ b)⟩⟩ : ByteArray) = Y at *
        have HYE := Lib.hid hY
        have hY1 : Y.size ≤ 2004 := by omega
        clear hY hYs
        go_wp2_with fail
        refine (open_no B Y _ ?_ (by omega) (by rw [← HYE.out]; exact HYN.out)).mono ?_
        · exact HT5.out.below ((((Below.refl _ _).alloc (Nat.le_refl _) _).setCell (by simp) _).drew)
        rintro e w6 ⟨rfl, hb6⟩
        have hbz : Below w5.heap.size w5 w6 := ((((Below.refl _ _).alloc (Nat.le_refl _) _).setCell (by simp) _).drew).trans (hb6.mono (by simp))
        have HTZ := Lib.hid (HT5.out.below hbz)
        have HBZ := Lib.hid (HB5.out.trans (hbz.mono HB5.out.size))
        clear hbz hb6 hcv hcell hfree hback
        go_wp2_with fail
        refine (open_off raw _).mono ?_
        rintro e w7 ⟨rfl, hb7⟩
        have HB7 := Lib.hid hb7
        clear hb7
        go_wp2_with fail
        refine (seal_off _ _).mono ?_
        rintro e w8 ⟨rfl, rfl⟩
        have HTW := Lib.hid (HTZ.out.below HB7.out)
        by_cases hr4 : 4 ≤ raw.size
        · have hr4i : (4 : Int) ≤ (raw.size : Int) := by omega
          have hd4 : decide ((4 : Int) ≤ (raw.size : Int)) = true := by simp; omega
          have hmin : min (4 : Int) (raw.size : Int) = 4 := by omega
          have HI := Lib.hid (isSeal_iff raw.data.toList (by rw [size_list]; exact hr4))
          cases hi : isSeal raw.data.toList with
          | true =>
            have HE := Lib.hid hi
            clear hi
            go_wp2_with fail
            refine (open_yes B raw _ HTW.out (by omega) HE.out).mono ?_
            rintro e w9 ⟨rfl, hb9⟩
            have HB9 := Lib.hid hb9
            clear hb9
            go_wp2_with fail
            refine (refSeal_raw raw _ (by omega) HI.out HE.out).mono ?_
            rintro e w10 ⟨rfl, hb10⟩
            have HB10 := Lib.hid hb10
            clear hb10
            go_wp2_with fail
            go_ret
            refine ⟨by simp, ?_⟩
            have g1 := HBZ.out.trans (HB7.out.mono HBZ.out.size)
            have g2 := g1.trans (HB9.out.mono g1.size)
            exact g2.trans (HB10.out.mono g2.size)
          | false =>
            have HE := Lib.hid hi
            clear hi
            go_wp2_with fail
            refine (open_no B raw _ HTW.out (by omega) HE.out).mono ?_
            rintro e w9 ⟨rfl, hb9⟩
            have HB9 := Lib.hid hb9
            clear hb9
            go_wp2_with fail
            obtain ⟨Y, hY, hYr⟩ := refSeal_other raw (by omega) HI.out HE.out
            have HY := Lib.hid hY
            clear hY
            refine (HY.out _).mono ?_
            rintro e w10 ⟨rfl, hb10⟩
            have HB10 := Lib.hid hb10
            clear hb10
            go_wp2_with fail
            go_ret
            refine ⟨by simp, ?_⟩
            have g1 := HBZ.out.trans (HB7.out.mono HBZ.out.size)
            have g2 := g1.trans (HB9.out.mono g1.size)
            exact g2.trans (HB10.out.mono g2.size)
        · have hr4i : (raw.size : Int) < 4 := by omega
          have hd4 : decide ((4 : Int) ≤ (raw.size : Int)) = false := by simp; omega
          go_wp2_with fail
          refine (open_short B raw _ (by omega)).mono ?_
          rintro e w9 ⟨rfl, hb9⟩
          have HB9 := Lib.hid hb9
          clear hb9
          go_wp2_with fail
          go_ret
          refine ⟨by simp, ?_⟩
          have g1 := HBZ.out.trans (HB7.out.mono HBZ.out.size)
          exact g1.trans (HB9.out.mono g1.size)

    · have d1 : decide (p < (X.size : Int)) = false := by simpa using hp1
      have HTZ := HT5
      have HBZ := HB5
      go_wp2_with fail
      refine (open_off raw _).mono ?_
      rintro e w7 ⟨rfl, hb7⟩
      have HB7 := Lib.hid hb7
      clear hb7
      go_wp2_with fail
      refine (seal_off _ _).mono ?_
      rintro e w8 ⟨rfl, rfl⟩
      have HTW := Lib.hid (HTZ.out.below HB7.out)
      by_cases hr4 : 4 ≤ raw.size
      · have hr4i : (4 : Int) ≤ (raw.size : Int) := by omega
        have hd4 : decide ((4 : Int) ≤ (raw.size : Int)) = true := by simp; omega
        have hmin : min (4 : Int) (raw.size : Int) = 4 := by omega
        have HI := Lib.hid (isSeal_iff raw.data.toList (by rw [size_list]; exact hr4))
        cases hi : isSeal raw.data.toList with
        | true =>
          have HE := Lib.hid hi
          clear hi
          go_wp2_with fail
          refine (open_yes B raw _ HTW.out (by omega) HE.out).mono ?_
          rintro e w9 ⟨rfl, hb9⟩
          have HB9 := Lib.hid hb9
          clear hb9
          go_wp2_with fail
          refine (refSeal_raw raw _ (by omega) HI.out HE.out).mono ?_
          rintro e w10 ⟨rfl, hb10⟩
          have HB10 := Lib.hid hb10
          clear hb10
          go_wp2_with fail
          go_ret
          refine ⟨by simp, ?_⟩
          have g1 := HBZ.out.trans (HB7.out.mono HBZ.out.size)
          have g2 := g1.trans (HB9.out.mono g1.size)
          exact g2.trans (HB10.out.mono g2.size)
        | false =>
          have HE := Lib.hid hi
          clear hi
          go_wp2_with fail
          refine (open_no B raw _ HTW.out (by omega) HE.out).mono ?_
          rintro e w9 ⟨rfl, hb9⟩
          have HB9 := Lib.hid hb9
          clear hb9
          go_wp2_with fail
          obtain ⟨Y, hY, hYr⟩ := refSeal_other raw (by omega) HI.out HE.out
          have HY := Lib.hid hY
          clear hY
          refine (HY.out _).mono ?_
          rintro e w10 ⟨rfl, hb10⟩
          have HB10 := Lib.hid hb10
          clear hb10
          go_wp2_with fail
          go_ret
          refine ⟨by simp, ?_⟩
          have g1 := HBZ.out.trans (HB7.out.mono HBZ.out.size)
          have g2 := g1.trans (HB9.out.mono g1.size)
          exact g2.trans (HB10.out.mono g2.size)
      · have hr4i : (raw.size : Int) < 4 := by omega
        have hd4 : decide ((4 : Int) ≤ (raw.size : Int)) = false := by simp; omega
        go_wp2_with fail
        refine (open_short B raw _ (by omega)).mono ?_
        rintro e w9 ⟨rfl, hb9⟩
        have HB9 := Lib.hid hb9
        clear hb9
        go_wp2_with fail
        go_ret
        refine ⟨by simp, ?_⟩
        have g1 := HBZ.out.trans (HB7.out.mono HBZ.out.size)
        exact g1.trans (HB9.out.mono g1.size)

  · have d0 : decide ((0 : Int) ≤ p) = false := by simpa using hp0
    have HTZ := HT5
    have HBZ := HB5
    go_wp2_with fail
    refine (open_off raw _).mono ?_
    rintro e w7 ⟨rfl, hb7⟩
    have HB7 := Lib.hid hb7
    clear hb7
    go_wp2_with fail
    refine (seal_off _ _).mono ?_
    rintro e w8 ⟨rfl, rfl⟩
    have HTW := Lib.hid (HTZ.out.below HB7.out)
    by_cases hr4 : 4 ≤ raw.size
    · have hr4i : (4 : Int) ≤ (raw.size : Int) := by omega
      have hd4 : decide ((4 : Int) ≤ (raw.size : Int)) = true := by simp; omega
      have hmin : min (4 : Int) (raw.size : Int) = 4 := by omega
      have HI := Lib.hid (isSeal_iff raw.data.toList (by rw [size_list]; exact hr4))
      cases hi : isSeal raw.data.toList with
      | true =>
        have HE := Lib.hid hi
        clear hi
        go_wp2_with fail
        refine (open_yes B raw _ HTW.out (by omega) HE.out).mono ?_
        rintro e w9 ⟨rfl, hb9⟩
        have HB9 := Lib.hid hb9
        clear hb9
        go_wp2_with fail
        refine (refSeal_raw raw _ (by omega) HI.out HE.out).mono ?_
        rintro e w10 ⟨rfl, hb10⟩
        have HB10 := Lib.hid hb10
        clear hb10
        go_wp2_with fail
        go_ret
        refine ⟨by simp, ?_⟩
        have g1 := HBZ.out.trans (HB7.out.mono HBZ.out.size)
        have g2 := g1.trans (HB9.out.mono g1.size)
        exact g2.trans (HB10.out.mono g2.size)
      | false =>
        have HE := Lib.hid hi
        clear hi
        go_wp2_with fail
        refine (open_no B raw _ HTW.out (by omega) HE.out).mono ?_
        rintro e w9 ⟨rfl, hb9⟩
        have HB9 := Lib.hid hb9
        clear hb9
        go_wp2_with fail
        obtain ⟨Y, hY, hYr⟩ := refSeal_other raw (by omega) HI.out HE.out
        have HY := Lib.hid hY
        clear hY
        refine (HY.out _).mono ?_
        rintro e w10 ⟨rfl, hb10⟩
        have HB10 := Lib.hid hb10
        clear hb10
        go_wp2_with fail
        go_ret
        refine ⟨by simp, ?_⟩
        have g1 := HBZ.out.trans (HB7.out.mono HBZ.out.size)
        have g2 := g1.trans (HB9.out.mono g1.size)
        exact g2.trans (HB10.out.mono g2.size)
    · have hr4i : (raw.size : Int) < 4 := by omega
      have hd4 : decide ((4 : Int) ≤ (raw.size : Int)) = false := by simp; omega
      go_wp2_with fail
      refine (open_short B raw _ (by omega)).mono ?_
      rintro e w9 ⟨rfl, hb9⟩
      have HB9 := Lib.hid hb9
      clear hb9
      go_wp2_with fail
      go_ret
      refine ⟨by simp, ?_⟩
      have g1 := HBZ.out.trans (HB7.out.mono HBZ.out.size)
      exact g1.trans (HB9.out.mono g1.size)
end Go.Proofs.Ytdhokdjmobmpoaa.Crc
