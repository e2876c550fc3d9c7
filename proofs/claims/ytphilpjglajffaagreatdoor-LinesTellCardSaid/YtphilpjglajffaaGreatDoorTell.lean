/- LinesTell: any answer has the line that the document says, numbers below 2^50, up to 60. No condition. -/
import Derived.Test.YtphilpjglajffaaGreatDoorCards
import Derived.Test.YtphilpjglajffaaGreatDoorTie
import Derived.Test.YtphilpjglajffaaGreatDoorFrame
import Derived.Test.YtphilpjglajffaaGreatDoorLw7
import Derived.Lib.SmallJoins
namespace Go.Proofs.YtphilpjglajffaaGreatDoor.linesTell
open Go.ChangeShapes Go.WideShapes Go.ChangeAt Go.RowKit Go.Joins
open Go.ChangeMaps (open_string shut_string)
open Go.Proofs.YtphilpjglajffaaGreatDoor.Lin

theorem laidOut : laidOutB Tryz.prog = true := by kernel_rfl
theorem cells43 : Tryz.prog.cellsOf 43 = 4 := by kernel_rfl
theorem cells3 : Tryz.prog.cellsOf 3 = 1 := by kernel_rfl

set_option maxRecDepth 100000 in
theorem contract (H : Type) (enc : TypeId × Value → H) (W : World) (base : Nat) (args : Array Value) (ds gs : List (DataW H)) (before : List MemPlace)
    (hval : ∀ (j : Nat) t v, Tryz.f6.params[j]? = some t → args[j]? = some v → Value.okWide Tryz.prog W .any base t v)
    (hW : DataW.Whole enc Tryz.prog Tryz.f6.params.toList Rows.linesTellSpec.vars false W args.toList ds gs before) (hL : laidMetH Tryz.prog Rows.linesHexRow.laid W) :
    Calls Tryz.prog 6 args W fun e W' => ∃ v, e = .returned v ∧ Rows.linesTellSpec.post enc Tryz.prog Tryz.f6 false true false false W args v W' := by
  have hW' := hW
  obtain ⟨p, q, hA0, hV, rfl, hfz, hnd⟩ := hW
  have hA : DataW.TrodAll enc Tryz.prog W 0 (fun _ => true) true Tryz.f6.params.toList args.toList ds p := hA0
  rw [Tryz.params6] at hA hval
  obtain ⟨v0, d0, rfl, rfl, h0⟩ := trodAll_one hA
  obtain ⟨rfl, rfl⟩ := trodVars_none hV
  have h0k := h0
  obtain ⟨c0, c1, c2, c3, y0, y1, y2, y3, m, rfl, hd, hp, hy0, hy1, hy2, hy3⟩ := open_agg4 Tryz.underlying43 (by kernel_rfl) cells43 (hval 0 43 v0 rfl rfl) h0
  obtain ⟨E, e0, _, _⟩ := DataW.trod_int Tryz.underlying29 hy0
  obtain ⟨N, e1, _, _⟩ := DataW.trod_int Tryz.underlying3 hy1
  obtain ⟨did, e2, _⟩ := DataW.trod_bool Tryz.underlying4 hy2
  simp only [List.cons.injEq, and_true] at e0 e1 e2
  subst e0 e1 e2
  clear hA0
  simp only [List.append_nil] at hW'
  have hlt : ∀ x ∈ p, x.block < W.heap.size := fun x hx => by simpa using hW'.lt x hx
  obtain ⟨⟨pv, hc⟩, h2, hpow⟩ := laid_of hL
  have hPow : PowIs W := ⟨by omega, hpow⟩
  have fin : ∀ W' : World, Below W.heap.size W W' → Rows.linesTellSpec.post enc Tryz.prog Tryz.f6 false true false false W #[.agg #[.int .i64 E, .int .i64 N, .bool did, c3]] (.bool true) W' := by
    intro W' hnx
    refine ⟨_, _, _, [] ++ [], p, [], hW', ?_, ?_, rfl, hnx.frame _, fun h => by cases h⟩
    · exact trodAll_mk1 (shut_bool Tryz.underlying4 true)
    · exact trodAll_mk1 (Below.trod laidOut (by kernel_rfl) (of_decide_eq_true (by kernel_rfl)) h0k hnx hlt)
  rcases open_ints Tryz.underlying41 Tryz.underlying3 cells3 hy3 with ⟨hcs, _⟩ | ⟨a, len, cap, zs, hcs, _, hl, hm, hz, _, hcell, _⟩
  · simp only [List.cons.injEq, and_true] at hcs
    subst hcs
    refine (tell_law E N did none 0 0 [] rfl (fun _ => ⟨rfl, rfl⟩) W (.inl ⟨none, 0, rfl, rfl⟩) hPow hc (by omega)).mono fun e W' ⟨he, hb⟩ => ?_
    subst he
    exact ⟨_, rfl, fin W' hb⟩
  · simp only [List.cons.injEq, and_true] at hcs
    subst hcs
    simp only [if_true] at hz
    have hlen : (zs.take len).length = len := by rw [List.length_take]; omega
    have hin : IntsIn W (.slice (some a) len cap) (zs.take len) := by
      by_cases hl0 : len = 0
      · left; subst hl0; exact ⟨some a, cap, rfl, by simp⟩
      · right
        obtain ⟨b, off, spot⟩ := a
        have hspot : spot = none := by simpa [Addr.add] using World.cell?_spot (hcell 0 (by omega))
        subst hspot
        refine ⟨b, off, cap, by rw [hlen], fun i hi => ?_⟩
        rw [hlen] at hi
        rw [← add_plain, hcell i (by omega), List.getElem_take]
        simp [List.getD, List.getElem?_eq_getElem (show i < zs.length by omega)]
    have hm' : len ≤ 9223372036854775807 := Nat.le_trans hl hm
    refine (tell_law E N did (some a) len cap _ hlen.symm (fun h => by cases h) W hin hPow hc hm').mono fun e W' ⟨he, hb⟩ => ?_
    subst he
    exact ⟨_, rfl, fin W' hb⟩

theorem reads (os : Os) {H : Type} (enc : TypeId × Value → H) : ∃ places, DataW.whole enc Tryz.prog ((laidWorld os).forCall (fun _ _ => 0) ⟨#[], #[.agg #[.int .i64 0, .int .i64 0, .bool false, .slice none 0 0]], []⟩).memory Tryz.f6.params.toList Rows.linesTellSpec.vars false #[Value.agg #[.int .i64 0, .int .i64 0, .bool false, .slice none 0 0]].toList 8 = some ([.agg [.lit (.int .i64 0), .lit (.int .i64 0), .lit (.bool false), .nil]], [], places) :=
  ⟨[], by kernel_rfl⟩

set_option maxRecDepth 100000 in
theorem lifted (os : Os) (started : os.Started) (H : Type) (enc : TypeId × Value → H) (F : Stop.Interp) :
    ReturnsInHanded {} Tryz.checked os 6 .any ((OpenSpec.ofChange Rows.linesTellSpec).preRow enc Tryz.prog Tryz.f6 Rows.linesTellRow.domain false Rows.linesTellRow.laid) (((OpenSpec.ofChange Rows.linesTellSpec).at F).post enc Tryz.prog Tryz.f6 false true false false) := by
  obtain ⟨places, hx⟩ := reads os enc
  refine returnsInHanded_of_row (C := Tryz.checked) (s := OpenSpec.ofChange Rows.linesTellSpec) own started (by kernel_rfl) Tryz.func6
    (witness_row_atRef (enc := enc) (C := Tryz.checked) false (laidWorld os) #[.agg #[.int .i64 0, .int .i64 0, .bool false, .slice none 0 0]] rfl (world_vars os _) (world_rest os _) (by kernel_rfl)
      (OpenSpec.preRow_of_cond 8 hx (by kernel_rfl) (fun k hk => by cases hk) (by kernel_rfl) (laid_met os _))) ?_
  intro W base args ds gs before hval hW _ _ _ hL _ _
  exact contract H enc W base args ds gs before hval hW hL

theorem said : Rows.LinesTellSaid :=
  OpenClaim.holds_of_cond 6 Tryz.f6 rfl rfl rfl rfl rfl rfl rfl ⟨rfl, rfl, rfl, rfl, rfl⟩ rfl rfl rfl rfl rfl (by kernel_rfl) Tryz.func6 (by kernel_rfl)
    (of_decide_eq_true (by kernel_rfl)) (by unfold Func.isWrapper; first | (rw [if_pos (by decide +kernel)]; kernel_rfl) | (rw [if_neg (by decide +kernel)]; exact ⟨rfl, rfl⟩))
    (fun os started H enc _ F => by rw [OpenClaim.pre_eq_preRow]; exact lifted os started H enc F)

theorem plain (f : FuncId) (fn : Func) (hf : Tryz.pinned.checked.prog.funcNamed "reveille/reveillelaw30.LinesTell" = some f) (hfn : Tryz.pinned.checked.prog.funcs[f]? = some fn) :
    true = Tryz.pinned.checked.prog.looks [] ∧ ∀ (j : Nat) t, fn.params[j]? = some t → Tryz.pinned.checked.prog.wantsStandIn t = false := by
  obtain rfl : f = 6 := Option.some.inj ((show Tryz.prog.funcNamed "reveille/reveillelaw30.LinesTell" = some 6 by kernel_rfl).symm.trans hf) |>.symm
  obtain rfl : fn = Tryz.f6 := (Option.some.inj (Tryz.func6.symm.trans hfn)).symm
  refine ⟨by kernel_rfl, fun j t ht => ?_⟩
  rw [Tryz.params6] at ht
  have h9 : t = 43 := by
    have := Array.mem_of_getElem? ht
    simpa using this
  subst h9
  exact (show Tryz.prog.wantsStandIn 43 = false by kernel_rfl)

/-- THE CARD -/
theorem card : Rows.LinesTellCardSaid :=
  Claim7.holds_tied_plain_at .later [] _ _ _ _ said (fun _ h => by cases h) (by kernel_rfl) (fun _ h => by cases h) linesTell_row_tie rfl ⟨rfl, rfl⟩ (by kernel_rfl) rfl plain (by kernel_rfl)
#print axioms card
end Go.Proofs.YtphilpjglajffaaGreatDoor.linesTell
