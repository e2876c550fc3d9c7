/- Walk: may an event be told by letters? -/
import Derived.Test.YtphilpjglajffaaGreatDoorEi
namespace Go.Proofs.YtphilpjglajffaaGreatDoor.Lin
open Go.RowKit

def hasC (s : ByteArray) (c : UInt8) : Bool := decide (0 ≤ Lib.indexByte s.data.toList c)
theorem has_calls (B : Nat) (s : ByteArray) (c : UInt8) (w : World) (hc : w.cell? ⟨B, 0, none⟩ = some (.string s)) :
    Calls Tryz.prog 38 #[.string ⟨#[c]⟩, .pointer (some ⟨B, 0, none⟩)] w fun e w' => e = .returned (.bool (hasC s c)) ∧ w' = w := by
  have HH := Lib.hid (Tryz.strings_Contains_one s c w)
  go_enter Tryz.func38, Tryz.ntmps38
  go_wp2_with fail
  refine HH.out.mono ?_
  rintro e w3 ⟨rfl, rfl⟩
  go_wp2_with fail
  go_ret
  exact ⟨rfl, rfl⟩

theorem rangeAt_below {w w' : World} {b : Nat} {cs : List Value} (h : w.rangeAt b 0 cs) (hb : Below w.heap.size w w') : w'.rangeAt b 0 cs := fun j v hj =>
  (hb.cell (cell_lt (h j v hj))).trans (h j v hj)

def numsB (r : Raw) : Bool := [r.q, r.n, r.pos, r.lack].all fun x => !farI x
/-- may it be told by letters? -/
def rightB (r : Raw) (keys tags : List ByteArray) (s : ByteArray) : Bool :=
  if (numsB r && (tagB r.tag && decide (newE tags = 0))) = false then false
  else if ((hasC s 84 && !topicB r.topic) || (hasC s 71 && !groupB r.group)) = true then false
  else decide (r.body.size ≤ 300) && (decide (r.key.size ≤ 300) && (decide (r.ks.n ≤ 10) && (decide (r.ps.n ≤ 100) && keys.all fun k => !badB k)))

set_option maxRecDepth 100000 in
set_option maxHeartbeats 2000000 in
theorem right_calls (r : Raw) (keys tags : List ByteArray) (keep : List Bool) (s : ByteArray) (w : World) (hc : Ctx w r keys tags keep) (hm : Mild r) :
    Calls Tryz.prog 20 #[r.val, .string s] w fun e w' => e = .returned (.bool (rightB r keys tags s)) ∧ Below w.heap.size w w' := by
  have HR : Hid (rightB r keys tags s = if (numsB r && (tagB r.tag && decide (newE tags = 0))) = false then false
    else if ((hasC s 84 && !topicB r.topic) || (hasC s 71 && !groupB r.group)) = true then false
    else decide (r.body.size ≤ 300) && (decide (r.key.size ≤ 300) && (decide (r.ks.n ≤ 10) && (decide (r.ps.n ≤ 100) && keys.all fun k => !badB k)))) := Lib.hid rfl
  generalize rightB r keys tags s = R at *
  obtain ⟨kind, q, n, pos, lack, topic, group, tag, key, body, ⟨ka, kn, kc⟩, ⟨ta, tn, tc⟩, ⟨pa, pn, pc⟩, sync⟩ := r
  obtain ⟨cells, HCE⟩ : ∃ cells, Hid (Raw.cells ⟨kind, q, n, pos, lack, topic, group, tag, key, body, ⟨ka, kn, kc⟩, ⟨ta, tn, tc⟩, ⟨pa, pn, pc⟩, sync⟩ = cells) := ⟨_, Lib.hid rfl⟩
  obtain ⟨W, HWE⟩ : ∃ W, Hid ((w.alloc (.cells #[.int .i64 kind, .int .i64 q, .int .i64 n, .int .i64 pos, .int .i64 lack, .string topic, .string group, .string tag, .string key, .string body, .slice ka kn kc, .slice ta tn tc, .slice pa pn pc, .bool sync] 25)).alloc (.cells #[.string s] 9) = W) := ⟨_, Lib.hid rfl⟩
  have HBW : Hid (Below w.heap.size w W) := Lib.hid (by rw [← HWE.out]; exact ((Below.refl _ _).alloc (Nat.le_refl _) _).alloc (by simp) _)
  have HC := Lib.hid (hc.below HBW.out)
  have HM := Lib.hid hm
  have HRA : Hid (W.rangeAt w.heap.size 0 cells) := Lib.hid fun j v hj => by
    rw [← HCE.out] at hj
    rw [← HWE.out, Nat.zero_add]
    have : (w.alloc (.cells (Raw.cells ⟨kind, q, n, pos, lack, topic, group, tag, key, body, ⟨ka, kn, kc⟩, ⟨ta, tn, tc⟩, ⟨pa, pn, pc⟩, sync⟩).toArray 25)).cell? ⟨w.heap.size, j, none⟩ = some v := by
      rw [cell_of_row _ _ _ _ _ _ (heap_alloc_new w _)]; simpa using hj
    exact (((Below.refl _ _).alloc (Nat.le_refl _) _).cell (cell_lt this)).trans this
  have HSB : Hid (W.cell? ⟨w.heap.size + 1, 0, none⟩ = some (.string s)) := Lib.hid (by rw [← HWE.out]; simp)
  have ct : W.cell? ⟨w.heap.size, 11, none⟩ = some (.slice ta tn tc) := HRA.out 11 _ (by rw [← HCE.out]; rfl)
  clear hc hm
  unfold Raw.val Raw.cells
  go_enter Tryz.func20, Tryz.ntmps20
  go_upto_region 3 with fail
  rw [HWE.out]
  go_wp2_with fail
  refine (new_calls ta tn tc tags _ HC.out.ts HC.out.tz (Nat.le_trans HM.out.ts (by decide))).mono ?_
  rintro e w3 ⟨p, rfl, hf, hb3⟩
  have HB3 := Lib.hid (HBW.out.trans (hb3.mono HBW.out.size))
  have HRA3 := Lib.hid (rangeAt_below HRA.out hb3)
  have HSB3 : Hid (w3.cell? ⟨w.heap.size + 1, 0, none⟩ = some (.string s)) := Lib.hid ((hb3.cell (cell_lt HSB.out)).trans HSB.out)
  have HC3 := Lib.hid (HC.out.below hb3)
  clear hb3 hf ct HC HRA HSB
  have c1 : w3.cell? ⟨w.heap.size, 1, none⟩ = some (.int .i64 q) := HRA3.out 1 _ (by rw [← HCE.out]; rfl)
  have c2 : w3.cell? ⟨w.heap.size, 2, none⟩ = some (.int .i64 n) := HRA3.out 2 _ (by rw [← HCE.out]; rfl)
  have c3 : w3.cell? ⟨w.heap.size, 3, none⟩ = some (.int .i64 pos) := HRA3.out 3 _ (by rw [← HCE.out]; rfl)
  have c4 : w3.cell? ⟨w.heap.size, 4, none⟩ = some (.int .i64 lack) := HRA3.out 4 _ (by rw [← HCE.out]; rfl)
  have hi : IntsIn (w3.alloc (.cells #[.int .i64 q, .int .i64 n, .int .i64 pos, .int .i64 lack] 3)) (.slice (some ⟨w3.heap.size, 0, none⟩) 4 4) [q, n, pos, lack] :=
    .inr ⟨w3.heap.size, 0, 4, rfl, fun i hi => by
      rw [Nat.zero_add, cell_of_row _ _ _ _ _ _ (heap_alloc_new w3 _)]
      match i, hi with
      | 0, _ => rfl
      | 1, _ => rfl
      | 2, _ => rfl
      | 3, _ => rfl⟩
  have HNU := Lib.hid (num_calls _ _ _ _ _ hi rfl (by decide))
  clear hi
  have hb4 : Below w3.heap.size w3 (w3.alloc (.cells #[.int .i64 q, .int .i64 n, .int .i64 pos, .int .i64 lack] 3)) := (Below.refl _ _).alloc (Nat.le_refl _) _
  go_wp2_with fail
  refine HNU.out.mono ?_
  rintro e w4 ⟨rfl, rfl⟩
  clear HNU c1 c2 c3 c4
  have HB4 := Lib.hid (HB3.out.trans (hb4.mono HB3.out.size))
  have HRA4 := Lib.hid (rangeAt_below HRA3.out hb4)
  have HSB4 := Lib.hid ((hb4.cell (cell_lt HSB3.out)).trans HSB3.out)
  have HC4 := Lib.hid (HC3.out.below hb4)
  clear hb4 HB3 HRA3 HSB3 HC3 HWE HBW
  generalize w3.alloc (.cells #[.int .i64 q, .int .i64 n, .int .i64 pos, .int .i64 lack] 3) = w4 at *
  have HNB : Hid (numsB ⟨kind, q, n, pos, lack, topic, group, tag, key, body, ⟨ka, kn, kc⟩, ⟨ta, tn, tc⟩, ⟨pa, pn, pc⟩, sync⟩ = [q, n, pos, lack].all fun x => !farI x) := Lib.hid rfl
  generalize numsB ⟨kind, q, n, pos, lack, topic, group, tag, key, body, ⟨ka, kn, kc⟩, ⟨ta, tn, tc⟩, ⟨pa, pn, pc⟩, sync⟩ = nb at *
  rw [← HNB.out]
  clear HNB
  cases nb
  · go_wp2_with fail
    go_ret
    exact ⟨ret_bool (by rw [HR.out]; rfl), HB4.out⟩
  · have c7 : w4.cell? ⟨w.heap.size, 7, none⟩ = some (.string tag) := HRA4.out 7 _ (by rw [← HCE.out]; rfl)
    go_wp2_with fail
    refine (tag_calls tag _).mono ?_
    rintro e w5 ⟨rfl, hb5⟩
    have HB5 := Lib.hid (HB4.out.trans (hb5.mono HB4.out.size))
    have HRA5 := Lib.hid (rangeAt_below HRA4.out hb5)
    have HSB5 := Lib.hid ((hb5.cell (cell_lt HSB4.out)).trans HSB4.out)
    have HC5 := Lib.hid (HC4.out.below hb5)
    clear hb5 HB4 HRA4 HSB4 HC4 c7
    cases htg : tagB tag
    · go_wp2_with fail
      go_ret
      exact ⟨ret_bool (by rw [HR.out, htg]; rfl), HB5.out⟩
    · have HTG := Lib.hid htg
      clear htg
      by_cases hne : newE tags = 0
      · have d0 : (newE tags != 0) = false := by simp [hne]
        have HNE := Lib.hid hne
        clear hne
        go_upto_region 6 with fail
        go_cut [38] (fun s38 wx => ∃ x, s38 = .bool x ∧ Hid (x = ((hasC s 84 && !topicB topic) || (hasC s 71 && !groupB group))) ∧ Hid (Below w5.heap.size w5 wx))
        case first =>
          have hct := has_calls (w.heap.size + 1) s 84 w5 HSB5.out
          have HCT := Lib.hid hct
          clear hct
          go_wp2_with fail
          refine HCT.out.mono ?_
          rintro e w6 ⟨rfl, rfl⟩
          have hcg : ∀ w7, Below w6.heap.size w6 w7 → Calls Tryz.prog 38 #[.string ⟨#[71]⟩, .pointer (some ⟨w.heap.size + 1, 0, none⟩)] w7 fun e w' => e = .returned (.bool (hasC s 71)) ∧ w' = w7 :=
            fun w7 hb => has_calls (w.heap.size + 1) s 71 w7 ((hb.cell (cell_lt HSB5.out)).trans HSB5.out)
          have HCG := Lib.hid hcg
          clear hcg HCT
          have c5 : w6.cell? ⟨w.heap.size, 5, none⟩ = some (.string topic) := HRA5.out 5 _ (by rw [← HCE.out]; rfl)
          cases h84 : hasC s 84
          · go_wp2_with fail
            refine (HCG.out _ (Below.refl _ _)).mono ?_
            rintro e w7 ⟨rfl, rfl⟩
            have c6 : w7.cell? ⟨w.heap.size, 6, none⟩ = some (.string group) := HRA5.out 6 _ (by rw [← HCE.out]; rfl)
            cases h71 : hasC s 71
            · go_wp2_with fail
              go_meet
              exact ⟨_, rfl, Lib.hid (by simp [h84, h71]), Lib.hid (Below.refl _ _)⟩
            · go_wp2_with fail
              refine (group_calls group _).mono ?_
              rintro e w8 ⟨rfl, hb8⟩
              have HB8 := Lib.hid hb8
              clear hb8
              go_wp2_with fail
              go_meet
              exact ⟨_, rfl, Lib.hid (by simp [h84, h71]), HB8⟩
          · go_wp2_with fail
            refine (topic_calls topic _).mono ?_
            rintro e w7 ⟨rfl, hb7⟩
            have HB7 := Lib.hid hb7
            have c6 : w7.cell? ⟨w.heap.size, 6, none⟩ = some (.string group) := (rangeAt_below HRA5.out hb7) 6 _ (by rw [← HCE.out]; rfl)
            clear hb7
            cases htp : topicB topic
            · go_wp2_with fail
              go_meet
              exact ⟨_, rfl, Lib.hid (by simp [h84, htp]), HB7⟩
            · go_wp2_with fail
              refine (HCG.out _ HB7.out).mono ?_
              rintro e w8 ⟨rfl, rfl⟩
              cases h71 : hasC s 71
              · go_wp2_with fail
                go_meet
                exact ⟨_, rfl, Lib.hid (by simp [h84, htp, h71]), HB7⟩
              · go_wp2_with fail
                refine (group_calls group _).mono ?_
                rintro e w9 ⟨rfl, hb9⟩
                have HB9 := Lib.hid (HB7.out.trans (hb9.mono HB7.out.size))
                clear hb9
                go_wp2_with fail
                go_meet
                exact ⟨_, rfl, Lib.hid (by simp [h84, htp, h71]), HB9⟩
        case rest =>
          obtain ⟨x, rfl, HX, HWX⟩ := hcut
          have HB6 := Lib.hid (HB5.out.trans (HWX.out.mono HB5.out.size))
          have HRA6 := Lib.hid (rangeAt_below HRA5.out HWX.out)
          have HC6 := Lib.hid (HC5.out.below HWX.out)
          clear HB5 HRA5 HSB5 HC5 HWX
          cases x
          · have c8 : wc.cell? ⟨w.heap.size, 8, none⟩ = some (.string key) := HRA6.out 8 _ (by rw [← HCE.out]; rfl)
            have c9 : wc.cell? ⟨w.heap.size, 9, none⟩ = some (.string body) := HRA6.out 9 _ (by rw [← HCE.out]; rfl)
            have c10 : wc.cell? ⟨w.heap.size, 10, none⟩ = some (.slice ka kn kc) := HRA6.out 10 _ (by rw [← HCE.out]; rfl)
            have c12 : wc.cell? ⟨w.heap.size, 12, none⟩ = some (.slice pa pn pc) := HRA6.out 12 _ (by rw [← HCE.out]; rfl)
            have HRE : Hid (R = (decide (body.size ≤ 300) && (decide (key.size ≤ 300) && (decide (kn ≤ 10) && (decide (pn ≤ 100) && keys.all fun k => !badB k))))) := Lib.hid (by
              rw [HR.out, HTG.out, decide_eq_true HNE.out, if_neg (by decide), if_neg (by rw [← HX.out]; decide)])
            clear HR HX HTG HNE d0
            have hm1 : kn ≤ 20 := HM.out.ks
            have hm2 : pn ≤ 200 := HM.out.ps
            by_cases h1 : body.size ≤ 300
            · have d1 : ((body.size : Int) ≤ 300) = True := by simp; omega
              by_cases h2 : key.size ≤ 300
              · have d2 : ((key.size : Int) ≤ 300) = True := by simp; omega
                by_cases h3 : kn ≤ 10
                · have d3 : ((kn : Int) ≤ 10) = True := by simp; omega
                  by_cases h4 : pn ≤ 100
                  · have d4 : ((pn : Int) ≤ 100) = True := by simp; omega
                    have HBD := Lib.hid (hasBad_calls ka kn kc keys wc HC6.out.ks (by omega))
                    go_wp2_with fail
                    refine HBD.out.mono ?_
                    rintro e w9 ⟨rfl, rfl⟩
                    go_wp2_with fail
                    go_ret
                    exact ⟨ret_bool (by rw [HRE.out, decide_eq_true h1, decide_eq_true h2, decide_eq_true h3, decide_eq_true h4]; simp), HB6.out⟩
                  · have d4 : ((pn : Int) ≤ 100) = False := by simp; omega
                    go_wp2_with fail
                    go_ret
                    exact ⟨ret_bool (by rw [HRE.out, decide_eq_false h4]; simp), HB6.out⟩
                · have d3 : ((kn : Int) ≤ 10) = False := by simp; omega
                  go_wp2_with fail
                  go_ret
                  exact ⟨ret_bool (by rw [HRE.out, decide_eq_false h3]; simp), HB6.out⟩
              · have d2 : ((key.size : Int) ≤ 300) = False := by simp; omega
                go_wp2_with fail
                go_ret
                exact ⟨ret_bool (by rw [HRE.out, decide_eq_false h2]; simp), HB6.out⟩
            · have d1 : ((body.size : Int) ≤ 300) = False := by simp; omega
              go_wp2_with fail
              go_ret
              exact ⟨ret_bool (by rw [HRE.out, decide_eq_false h1]; simp), HB6.out⟩
          · go_wp2_with fail
            go_ret
            exact ⟨ret_bool (by rw [HR.out, HTG.out, decide_eq_true HNE.out, if_neg (by decide), if_pos HX.out.symm]), HB6.out⟩
      · have d0 : (newE tags != 0) = true := by simp [hne]
        go_wp2_with fail
        go_ret
        exact ⟨ret_bool (by rw [HR.out, HTG.out, decide_eq_false hne]; rfl), HB5.out⟩

end Go.Proofs.YtphilpjglajffaaGreatDoor.Lin
