/- Walks of strconv.Itoa and lines.Tell. -/
import Derived.Test.YtphilpjglajffaaGreatDoorLw5
import Derived.WalkSmall
import Derived.Deep.DeepCutAuto
namespace Go.Proofs.YtphilpjglajffaaGreatDoor.Lin
open Go.RowKit

theorem below_grow (w : World) (k : Nat) (os : Array Obj) : Below w.heap.size w (Go.Sort.grow (w.drewN k) os) :=
  ⟨rfl, rfl, rfl, by simp [Go.Sort.grow], fun i hi => by simp [Go.Sort.grow, Array.getElem?_append_left hi]⟩

def PowIs (w : World) : Prop := 1 < w.heap.size ∧ Lib.TabIs Tryz.prog w "internal/strconv.uint64pow10" .u64 Lib.pow10Tab
theorem gPow1 : Tryz.prog.globalNamed "internal/strconv.uint64pow10" = some 1 := by kernel_rfl
theorem PowIs.below {w w' : World} (h : PowIs w) (hb : Below w.heap.size w w') : PowIs w' :=
  ⟨Nat.lt_of_lt_of_le h.1 hb.size, var?_below hb gPow1 h.1 h.2⟩

theorem itoa_calls (n : Int) (w : World) (h0 : -1125899906842624 ≤ n) (h1 : n ≤ 1125899906842624) (hp : PowIs w) :
    Calls Tryz.prog 37 #[.int .i64 n] w fun e w' => e = .returned (.string (itoaB n)) ∧ Below w.heap.size w w' := by
  refine (Tryz.strconv_Itoa n (by omega) (by omega) w hp.2).mono ?_
  rintro e w' ⟨rfl, k, os, rfl⟩
  exact ⟨rfl, below_grow w k os⟩

/-- a slice of numbers, read in a world -/
def IntsIn (w : World) (v : Value) (l : List Int) : Prop :=
  (∃ a cap, v = .slice a 0 cap ∧ l = []) ∨
   ∃ b off cap, v = .slice (some ⟨b, off, none⟩) l.length cap ∧ ∀ i (h : i < l.length), w.cell? ⟨b, off + i, none⟩ = some (.int .i64 l[i])
theorem cell_lt {w : World} {a : Addr} {v : Value} (h : w.cell? a = some v) : a.block < w.heap.size := World.block_lt_of_cell? _ _ h
theorem IntsIn.below {w w' : World} {v : Value} {l : List Int} (h : IntsIn w v l) (hb : Below w.heap.size w w') : IntsIn w' v l := by
  rcases h with h | ⟨b, off, cap, hv, hc⟩
  · exact .inl h
  · exact .inr ⟨b, off, cap, hv, fun i hi => (hb.cell (cell_lt (hc i hi))).trans (hc i hi)⟩
theorem IntsIn.at {w : World} {a : Option Addr} {n cap : Nat} {l : List Int} (h : IntsIn w (.slice a n cap) l) (hn : n = l.length) (k : Nat) (hk : k < l.length) :
    ∃ b off, a = some ⟨b, off, none⟩ ∧ w.cell? ⟨b, off + k, none⟩ = some (.int .i64 l[k]) := by
  rcases h with ⟨_, _, _, rfl⟩ | ⟨b, off, cap', hv, hc⟩
  · simp at hk
  · injection hv with ha
    exact ⟨b, off, ha, hc k hk⟩

def okB : ByteArray := ⟨#[111, 107]⟩
def errB : ByteArray := ⟨#[101, 114, 114, 111, 114, 32]⟩
def spB : ByteArray := ⟨#[32]⟩
def didB : ByteArray := ⟨#[32, 100, 105, 100]⟩
/-- an answer's line, without ids -/
def tell0 (E : Int) : ByteArray := if E = 0 then okB else errB ++ itoaB E
def tell1 (E N : Int) : ByteArray := if N = 0 then tell0 E else tell0 E ++ (spB ++ itoaB N)
def tell2 (E N : Int) (did : Bool) : ByteArray := if did then tell1 E N ++ didB else tell1 E N
def tellI (b : ByteArray) (l : List Int) : ByteArray := l.foldl (fun t n => t ++ (spB ++ itoaB n)) b
theorem tellI_succ (b : ByteArray) (l : List Int) (k : Nat) (h : k < l.length) : tellI b (l.take (k + 1)) = tellI b (l.take k) ++ (spB ++ itoaB l[k]) := by
  unfold tellI
  rw [List.take_succ_eq_append_getElem h, List.foldl_append]; rfl

/-- the numbers are small -/
def SmallI (n : Int) : Prop := -1125899906842624 ≤ n ∧ n ≤ 1125899906842624

structure AnsAt (w : World) (g : Nat) (E N : Int) (did : Bool) (v : Value) : Prop where
  c0 : w.cell? ⟨g, 0, none⟩ = some (.int .i64 E)
  c1 : w.cell? ⟨g, 1, none⟩ = some (.int .i64 N)
  c2 : w.cell? ⟨g, 2, none⟩ = some (.bool did)
  c3 : w.cell? ⟨g, 3, none⟩ = some v
theorem AnsAt.below {w w' : World} {g : Nat} {E N : Int} {did : Bool} {v : Value} (h : AnsAt w g E N did v) (hb : Below w.heap.size w w') : AnsAt w' g E N did v :=
  ⟨(hb.cell (cell_lt h.c0)).trans h.c0, (hb.cell (cell_lt h.c1)).trans h.c1, (hb.cell (cell_lt h.c2)).trans h.c2, (hb.cell (cell_lt h.c3)).trans h.c3⟩
theorem AnsAt.new (w : World) (E N : Int) (did : Bool) (v : Value) : AnsAt (w.alloc (.cells #[.int .i64 E, .int .i64 N, .bool did, v] 43)) w.heap.size E N did v :=
  ⟨by simp, by simp, by simp, by simp⟩

/-- a text of so many bytes, in a world that has only grown -/
def TextAt (W : World) (t : ByteArray) (n : Nat) (v : Value) (wx : World) : Prop := ∃ s, v = .string s ∧ s.size ≤ n ∧ Hid (s = t) ∧ Hid (Below W.heap.size W wx)

set_option maxRecDepth 100000 in
set_option maxHeartbeats 2000000 in
theorem tell_calls (E N : Int) (did : Bool) (a : Option Addr) (n cap : Nat) (l : List Int) (hn : n = l.length) (h60 : n ≤ 60) (w : World) (hl : IntsIn w (.slice a n cap) l) (hp : PowIs w)
    (hE : SmallI E) (hN : SmallI N) (hs : ∀ m ∈ l, SmallI m) :
    Calls Tryz.prog 18 #[.agg #[.int .i64 E, .int .i64 N, .bool did, .slice a n cap]] w fun e w' => e = .returned (.string (tellI (tell2 E N did) l)) ∧ Below w.heap.size w w' := by
  have HN := Lib.hid hn
  have HSM := Lib.hid hs
  have HEE := Lib.hid hE
  have HNN := Lib.hid hN
  obtain ⟨W, HWE⟩ : ∃ W, Hid (w.alloc (.cells #[.int .i64 E, .int .i64 N, .bool did, .slice a n cap] 43) = W) := ⟨_, Lib.hid rfl⟩
  have HBW : Hid (Below w.heap.size w W) := Lib.hid (by rw [← HWE.out]; exact (Below.refl _ _).alloc (Nat.le_refl _) _)
  have HL := Lib.hid (hl.below HBW.out)
  have HP := Lib.hid (hp.below HBW.out)
  have HA : Hid (AnsAt W w.heap.size E N did (.slice a n cap)) := Lib.hid (by rw [← HWE.out]; exact AnsAt.new _ _ _ _ _)
  clear hn hs hl hp hE hN
  go_enter Tryz.func18, Tryz.ntmps18
  go_upto_if 8 with fail
  go_cut [3] (fun s3 wx => TextAt W (tell0 E) 30 s3 wx)
  case first =>
    rw [HWE.out]
    obtain ⟨c0, c1, c2, c3⟩ := HA.out
    by_cases h0 : E = 0
    · have t0 : (E != 0) = false := by simpa using h0
      go_wp2_with fail
      go_meet
      exact ⟨okB, rfl, by decide, Lib.hid (by unfold tell0; rw [if_pos h0]), Lib.hid (Below.refl _ _)⟩
    · have t0 : (E != 0) = true := by simpa using h0
      go_wp2_with fail
      refine (itoa_calls E _ HEE.out.1 HEE.out.2 HP.out).mono ?_
      rintro e w3 ⟨rfl, hb3⟩
      have HW3 := Lib.hid hb3
      have hz := itoaB_size E HEE.out.1 HEE.out.2
      clear hb3
      have HT := Lib.hid (show errB ++ itoaB E = tell0 E by unfold tell0; rw [if_neg h0])
      generalize itoaB E = D at *
      go_wp2_with fail
      go_meet
      exact ⟨errB ++ D, rfl, by rw [ByteArray.size_append]; show 6 + D.size ≤ 30; omega, HT, HW3⟩
  case rest =>
    obtain ⟨s1, rfl, hs1, HS1, HW1⟩ := hcut
    obtain ⟨c0, c1, c2, c3⟩ := HA.out.below HW1.out
    go_upto_if 15 with fail
    go_cut [3] (fun s3 wx => TextAt W (tell1 E N) 60 s3 wx)
    case first =>
      by_cases h0 : N = 0
      · have t0 : (N != 0) = false := by simpa using h0
        go_wp2_with fail
        go_meet
        exact ⟨s1, rfl, by omega, Lib.hid (by unfold tell1; rw [if_pos h0]; exact HS1.out), HW1⟩
      · have t0 : (N != 0) = true := by simpa using h0
        go_wp2_with fail
        refine (itoa_calls N _ HNN.out.1 HNN.out.2 (HP.out.below HW1.out)).mono ?_
        rintro e w3 ⟨rfl, hb3⟩
        have HW3 := Lib.hid (HW1.out.trans (hb3.mono HW1.out.size))
        have hz := itoaB_size N HNN.out.1 HNN.out.2
        clear hb3
        have HT := Lib.hid (show tell0 E ++ (spB ++ itoaB N) = tell1 E N by unfold tell1; rw [if_neg h0])
        generalize itoaB N = D at *
        go_wp2_with fail
        go_meet
        exact ⟨s1 ++ (spB ++ D), rfl, by rw [ByteArray.size_append, ByteArray.size_append]; show s1.size + (1 + D.size) ≤ 60; omega, Lib.hid (by rw [HS1.out]; exact HT.out), HW3⟩
    case rest =>
      obtain ⟨s2, rfl, hs2, HS2, HW2⟩ := hcut
      clear HW1 HS1 hs1 c0 c1 c2 c3
      obtain ⟨c0, c1, c2, c3⟩ := HA.out.below HW2.out
      go_upto_if 23 with fail
      go_cut [3] (fun s3 wx => TextAt W (tell2 E N did) 70 s3 wx)
      case first =>
        cases did with
        | false =>
          go_wp2_with fail
          go_meet
          exact ⟨s2, rfl, by omega, HS2, HW2⟩
        | true =>
          go_wp2_with fail
          go_meet
          exact ⟨s2 ++ didB, rfl, by rw [ByteArray.size_append]; show s2.size + 4 ≤ 70; omega, Lib.hid (by rw [HS2.out]; rfl), HW2⟩
      case rest =>
        obtain ⟨T, rfl, hsT, HT, HWZ⟩ := hcut
        clear HW2 HS2 hs2 c0 c1 c2 c3
        obtain ⟨c0, c1, c2, c3⟩ := HA.out.below HWZ.out
        have HZI := Lib.hid (HL.out.below HWZ.out)
        have HZP := Lib.hid (HP.out.below HWZ.out)
        have HZB := Lib.hid (HBW.out.trans (HWZ.out.mono HBW.out.size))
        generalize wc = wz at *
        go_wp2_with fail
        go_loopw [3, 29] (fun t i wr => ∃ (k : Nat) (s : ByteArray), k ≤ n ∧ i = .int .i64 k ∧ t = .string s ∧ s.size ≤ 100 + 22 * k ∧ Hid (s = tellI T (l.take k)) ∧ Hid (Below wz.heap.size wz wr)) (fun _ i _ => n - (intOf i).toNat)
        case atStart => exact ⟨0, T, Nat.zero_le _, rfl, rfl, by omega, Lib.hid rfl, Lib.hid (Below.refl _ _)⟩
        case round =>
          obtain ⟨k, s, hk, rfl, rfl, hsz, HE, HW⟩ := hrel
          by_cases hlt : k < n
          · have d1 : decide ((k : Int) < (n : Int)) = true := by simp; omega
            have hki : (k : Int) < (n : Int) := by omega
            have hkl : k < l.length := by rw [← HN.out]; exact hlt
            obtain ⟨b, off, rfl, hcell⟩ := HZI.out.at HN.out k hkl
            have hcell2 := (HW.out.cell (cell_lt hcell)).trans hcell
            have HSU := Lib.hid (tellI_succ T l k hkl)
            have hsm := HSM.out l[k] (List.getElem_mem _)
            clear hcell
            generalize l[k] = m at *
            have HMB := Lib.hid hsm
            clear hsm hkl
            go_wp2_with fail
            refine (itoa_calls m _ HMB.out.1 HMB.out.2 (HZP.out.below HW.out)).mono ?_
            rintro e w3 ⟨rfl, hb3⟩
            have HW3 := Lib.hid (HW.out.trans (hb3.mono HW.out.size))
            have hz := itoaB_size m HMB.out.1 HMB.out.2
            clear hb3 hcell2
            generalize itoaB m = D at *
            go_wp2_with fail
            go_roundw
            case rel => exact ⟨k + 1, s ++ (spB ++ D), by omega, by go_num, rfl, by rw [ByteArray.size_append, ByteArray.size_append]; show s.size + (1 + D.size) ≤ _; omega, Lib.hid (by rw [HSU.out, HE.out]), HW3⟩
            case measure => simp [intOf]; omega
          · have d1 : decide ((k : Int) < (n : Int)) = false := by simp; omega
            have HK := Lib.hid (show k = n by omega)
            go_wp2_with fail
            go_ret
            refine ⟨ret_text ?_, HZB.out.trans (HW.out.mono HZB.out.size)⟩
            rw [HE.out, HK.out, HN.out, List.take_length, HT.out]

end Go.Proofs.YtphilpjglajffaaGreatDoor.Lin
