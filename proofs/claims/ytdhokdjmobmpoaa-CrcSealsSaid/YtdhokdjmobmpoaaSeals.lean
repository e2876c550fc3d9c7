/- CrcSeals: any text is sealed as the document says, and opened again; in which one byte is turned it isn't; any bytes are opened just if they are a sealed text, up to 2000 bytes. No condition. -/
import Derived.Test.YtdhokdjmobmpoaaRows
import Derived.Test.YtdhokdjmobmpoaaLaw7
import Derived.ProofKit
import Derived.OpenShut
import Derived.ShutString
import Derived.Lib.SmallJoins
namespace Go.Proofs.Ytdhokdjmobmpoaa.crcSeals
open Go.ChangeShapes Go.WideShapes Go.ChangeAt Go.RowKit Go.Joins
open Go.ChangeMaps (open_string shut_string)
open Go.Proofs.Ytdhokdjmobmpoaa.Crc

theorem own : ownKnob Try.prog.godebug = none := by kernel_rfl
theorem laidOut : laidOutB Try.prog = true := by kernel_rfl
theorem cells36 : Try.prog.cellsOf 36 = 3 := by kernel_rfl

theorem walk (s raw : ByteArray) (p c : Int) (w : World) (hc0 : 0 ≤ c) (hc1 : c < 256) :
    Calls Try.prog 7 #[.agg #[.string s, .int .i64 p, .int .u8 c], .string raw] w fun e w' => e = .returned (.bool true) ∧ Below w.heap.size w w' := by
  by_cases h1 : 2000 < s.size
  · exact seals_great1 s raw p c w h1
  · by_cases h2 : 2000 < raw.size
    · exact seals_great2 s raw p c w (by omega) h2
    · exact seals_main s raw p c w (by omega) (by omega) hc0 hc1

set_option maxRecDepth 100000 in
theorem lifted (os : Os) (started : os.Started) (H : Type) (enc : TypeId × Value → H) :
    ReturnsInHanded {} Try.checked os 7 .any (Rows.crcSealsSpec.pre6 enc Try.prog Try.f7 Rows.crcSealsRow.domain false) (Rows.crcSealsSpec.post enc Try.prog Try.f7 false true false false) := by
  refine returnsInHanded_of_change (C := Try.checked) own started (by kernel_rfl) Try.func7
    (ChangeSpec.witness6 (enc := enc) (C := Try.checked) false ⟨#[], #[.agg #[.string ⟨#[]⟩, .int .i64 0, .int .u8 0], .string ⟨#[]⟩], []⟩ 8 (by kernel_rfl) (by kernel_rfl) (by kernel_rfl) (by kernel_rfl)) ?_
  intro W base args ds gs before hval0 hW _ _
  have hval : ∀ (j : Nat) t v, Try.f7.params[j]? = some t → args[j]? = some v → Value.okWide Try.prog W .any base t v := hval0
  have hW' := hW
  obtain ⟨p, q, hA0, hV, rfl, hfz, hnd⟩ := hW
  have hA : DataW.TrodAll enc Try.prog W 0 (fun _ => true) true Try.f7.params.toList args.toList ds p := hA0
  rw [Try.params7] at hA hval
  obtain ⟨v0, v1, d0, d1, p0, p1, rfl, rfl, rfl, h0, h1⟩ := trodAll_two hA
  obtain ⟨rfl, rfl⟩ := trodVars_none hV
  obtain ⟨c0, c1, c2, y0, y1, y2, m, rfl, rfl, rfl, hy0, hy1, hy2⟩ := open_agg3 Try.underlying36 (by kernel_rfl) cells36 (hval 0 36 v0 rfl rfl) h0
  obtain ⟨s, e0, rfl, ws⟩ := DataW.trod_string Try.underlying9 hy0
  obtain ⟨n, e1, rfl, wn⟩ := DataW.trod_int Try.underlying3 hy1
  obtain ⟨c, e2, rfl, wc⟩ := DataW.trod_int Try.underlying5 hy2
  obtain ⟨raw, rfl, rfl, rfl, wr⟩ := open_string Try.underlying9 (hval 1 9 v1 rfl rfl) h1
  simp only [List.cons.injEq, and_true] at e0 e1 e2
  subst e0 e1 e2
  clear hA0 hval0
  simp only [List.append_nil] at hW'
  have hcb : 0 ≤ c ∧ c < 256 := by
    have h := wc
    unfold Lit.wf at h
    rw [Bool.and_eq_true] at h
    have h1 := of_decide_eq_true h.1
    have h2 := of_decide_eq_true h.2
    have e1 : IntKind.u8.min = 0 := rfl
    have e2 : IntKind.u8.max = 255 := rfl
    omega
  have reads : ∀ (W' : World) (sp : Nat → Bool), DataW.Trod enc Try.prog W' 0 sp true 36 (.agg #[.string s, .int .i64 n, .int .u8 c]) (.agg [.lit (.string s.data.toList), .lit (.int .i64 n), .lit (.int .u8 c)]) [] := fun W' sp =>
    shut_agg3 (y0 := (.lit (.string s.data.toList), [])) (y1 := (.lit (.int .i64 n), [])) (y2 := (.lit (.int .u8 c), [])) Try.underlying36 (by kernel_rfl) cells36
      (shut_string (enc := enc) (w := W') (base := 0) (sp := sp) (held := true) Try.underlying9 ws) (shut_int Try.underlying3 wn) (shut_int Try.underlying5 wc)
  refine (walk s raw n c W hcb.1 hcb.2).mono fun e W' ⟨he, hb⟩ => ?_
  subst he
  refine ⟨_, rfl, _, _, _, [], [], [], hW', ?_, ?_, rfl, hb.frame _, fun h => by cases h⟩
  · exact trodAll_mk1 (shut_bool Try.underlying4 true)
  · exact trodAll_mk2 (reads _ _) (shut_string Try.underlying9 wr)

/-- THE STATEMENT -/
theorem proved : Rows.CrcSealsSaid :=
  OpenClaim.holds_of_wide 7 Try.f7 rfl rfl rfl rfl rfl rfl rfl ⟨rfl, rfl, rfl, rfl, rfl⟩ rfl rfl rfl rfl rfl (by kernel_rfl) Try.func7 (by kernel_rfl)
    (of_decide_eq_true (by kernel_rfl)) (by unfold Func.isWrapper; first | (rw [if_pos (by decide +kernel)]; kernel_rfl) | (rw [if_neg (by decide +kernel)]; exact ⟨rfl, rfl⟩))
    (fun os started H enc _ => lifted os started H enc)
#print axioms proved
end Go.Proofs.Ytdhokdjmobmpoaa.crcSeals
