/- The program's step answers as the evaluator's; a region in the text's order. -/
import Derived.Test.YtphilpjglajffaaGreatDoorEvR
namespace Go.Ev
open Go.RowKit (Below)

/-- a call answers as it was evaluated -/
def SimCall (P : Program) (ro : Nat) (w0 : World) (call : FuncId → List Value → H → Option (Value × H)) : Prop :=
  ∀ f args h v h' F g w, call f args h = some (v, h') → RelH P ro w0 F g h w → Fresh h → ro ≤ h.nx → (∀ x ∈ args, okV ro h x) →
    Calls P f (args.map (ren F g)).toArray w fun e w' => ∃ F' g', e = .returned (ren F' g' v) ∧ RelH P ro w0 F' g' h' w' ∧ Agree ro h F g F' g' ∧ okV ro h' v

structure RelS (P : Program) (ro : Nat) (w0 : World) (f g : Nat → Nat) (s : St) (a : Act) (w : World) : Prop where
  mem : RelH P ro w0 f g s.h w
  fr : ∀ t, a.tmps.getD t undef = ren f g (opd s.fr (.tmp t)) ∧ okV ro s.h (opd s.fr (.tmp t))
  nt : a.tmps.size = s.nt
  dfr : a.defers = []
  fresh : Fresh s.h
  nx : ro ≤ s.h.nx
  lim : s.nt ≤ LIM

section
variable {P : Program} {ro : Nat} {w0 : World} {f g : Nat → Nat} {call : FuncId → List Value → H → Option (Value × H)} {ops : Array Oper} {base : Nat}

theorem RelS.opd {s : St} {a : Act} {w : World} (r : RelS P ro w0 f g s a w) {x : Operand} (hx : opdOk P x = true) : a.eval x = ren f g (opd s.fr x) ∧ okV ro s.h (opd s.fr x) := by
  cases x with
  | tmp t => exact r.fr t
  | const v => exact ⟨(flat_id hx f g).symm, flat_ok hx ro s.h⟩
  | global q =>
    have hq : q < P.globals.size := by simpa [opdOk] using hx
    obtain ⟨h1, h2⟩ := r.mem.glob q hq
    refine ⟨?_, ?_⟩
    · show Value.pointer (some ⟨q, 0, none⟩) = ren f g (.pointer (some ⟨q, 0, none⟩))
      rw [ren_pointer]; unfold adr; simp only [h1]
    · show okV ro s.h (.pointer (some ⟨q, 0, none⟩))
      unfold okV; rw [all_pointer]; exact .inl h2
  | func q =>
    refine ⟨?_, ?_⟩
    · show Value.func (.func q) #[] #[] = ren f g (.func (.func q) #[] #[])
      rw [ren_func]; simp
    · show okV ro s.h (.func (.func q) #[] #[])
      unfold okV; rw [all_func]; simp

theorem ren_bool_iff (v : Value) (b : Bool) : ren f g v = .bool b ↔ v = .bool b := by
  constructor
  · intro h
    cases v with
    | bool c => rw [ren_bool] at h; exact h
    | pointer a => cases a with | none => rw [ren_nilptr] at h; cases h | some a => rw [ren_pointer] at h; cases h
    | slice a l c => cases a with | none => rw [ren_nilslice] at h; cases h | some a => rw [ren_slice] at h; cases h
    | map a => cases a with | none => rw [ren_nilmap] at h; cases h | some a => rw [ren_map] at h; cases h
    | chan a => cases a with | none => rw [ren_nilchan] at h; cases h | some a => rw [ren_chan] at h; cases h
    | func fn a b => rw [ren_func] at h; cases h
    | iface t v => rw [ren_iface] at h; cases h
    | agg cs => rw [ren_agg] at h; cases h
    | tuple cs => rw [ren_tuple] at h; cases h
    | int k n => rw [ren_int] at h; cases h
    | float k n => rw [ren_float] at h; cases h
    | complex k a b => rw [ren_complex] at h; cases h
    | string s => rw [ren_string] at h; cases h
    | nilFunc => rw [ren_nilFunc] at h; cases h
    | nilIface => rw [ren_nilIface] at h; cases h
  · rintro rfl; exact ren_bool ..

theorem notbool (v : Value) : (¬ ∃ b, v = .bool b) → (match v with | .bool b => some b | _ => none) = (none : Option Bool) := by
  intro hb
  split
  · rename_i b; exact absurd ⟨b, rfl⟩ hb
  · rfl

theorem RelS.yield {s : St} {a : Act} {w : World} (r : RelS P ro w0 f g s a w) (j : Nat) : yielded ops a.tmps j = yieldV ops s.fr j := by
  unfold yielded yieldV
  cases hd : (ops[j]?).bind (·.dst) with
  | none => rfl
  | some t =>
    simp only [Option.bind_some]
    have ht := (r.fr t).1
    generalize Ev.opd s.fr (.tmp t) = v at ht ⊢
    by_cases hb : ∃ b, v = .bool b
    · obtain ⟨b, rfl⟩ := hb
      rw [ren_bool] at ht
      have hl : t < a.tmps.size := by
        rcases Nat.lt_or_ge t a.tmps.size with h1 | h1
        · exact h1
        · have hu : a.tmps.getD t undef = undef := by simp [Nat.not_lt.2 h1]
          rw [hu] at ht; unfold undef at ht; cases ht
      have hg : a.tmps[t]? = some (a.tmps.getD t undef) := by simp [hl]
      rw [hg, ht]
    · refine Eq.trans ?_ (notbool v hb).symm
      split
      · rename_i b hbb
        have hl : t < a.tmps.size := (Array.getElem?_eq_some_iff.1 hbb).1
        have hg : a.tmps[t]? = some (a.tmps.getD t undef) := by simp [hl]
        rw [hg, ht] at hbb
        exact absurd ⟨b, (ren_bool_iff v b).1 (Option.some.inj hbb)⟩ hb
      · rfl

theorem RelS.wanted {s : St} {a : Act} {w : World} (r : RelS P ro w0 f g s a w) (o : Oper) : Region.wanted o (yielded ops a.tmps) = wantV ops o s.fr := by
  unfold Region.wanted wantV
  split
  · rename_i h; simp only [h]
  · rename_i j b h
    simp only [h, r.yield j]
    cases yieldV ops s.fr j with
    | none => rfl
    | some c => cases b <;> cases c <;> rfl

/-- a frame's slot set -/
theorem RelS.put {s : St} {a : Act} {w w' : World} {f' g' : Nat → Nat} {h' : H} (r : RelS P ro w0 f g s a w) (hm : RelH P ro w0 f' g' h' w') (hag : Agree ro s.h f g f' g') (hd : ∀ b, dom ro s.h b → dom ro h' b) (hf : Fresh h') (hn : ro ≤ h'.nx) {v : Value} (hv : okV ro h' v)
    {d : Option Tmp} (hdt : ∀ t, d = some t → t < s.nt) : RelS P ro w0 f' g' { s with fr := setF s.fr d v, h := h' } (a.put d (ren f' g' v)) w' := by
  refine ⟨hm, fun t => ?_, ?_, ?_, hf, hn, r.lim⟩
  · have old : (a.tmps.getD t undef = ren f' g' (Ev.opd s.fr (.tmp t))) ∧ okV ro h' (Ev.opd s.fr (.tmp t)) := ⟨by rw [(r.fr t).1]; exact hag.ren (r.fr t).2, all_mono hd _ (r.fr t).2⟩
    cases d with
    | none => exact old
    | some d =>
      have hd' := hdt d rfl
      have hl : d < LIM := Nat.lt_of_lt_of_le hd' r.lim
      have hsz := r.nt
      by_cases htd : t = d
      · subst htd
        have e1 : Ev.opd (setF s.fr (some t) v) (.tmp t) = v := opd_set_same s.fr t v hl
        simp only [e1]
        refine ⟨?_, hv⟩
        have ht : t < a.tmps.size := by rw [hsz]; exact hd'
        simp [Act.put, ht]
      · have e1 : Ev.opd (setF s.fr (some d) v) (.tmp t) = Ev.opd s.fr (.tmp t) := opd_set s.fr (some d) v t (fun q hq => by simp only [Option.some.injEq] at hq; subst hq; exact hl) (fun e => htd (Option.some.inj e).symm)
        simp only [e1]
        refine ⟨?_, old.2⟩
        rw [← old.1]
        have hne : ¬ d = t := fun e => htd e.symm
        simp only [Act.put, Array.getD_eq_getD_getElem?, Array.getElem?_setIfInBounds, hne, if_false]
  · cases d with
    | none => exact r.nt
    | some d => simp [Act.put, r.nt]
  · cases d with
    | none => exact r.dfr
    | some d => exact r.dfr

/-- what an operation of a region may be -/
structure OpOk (P : Program) (o : Oper) : Prop where
  sel : ∀ cs b, o.op ≠ .select cs b
  opd : ∀ x ∈ o.op.operands, opdOk P x = true

theorem opsOk_some (h : opsOk P ops = true) {j : Nat} {o : Oper} (ho : ops[j]? = some o) : OpOk P o := by
  unfold opsOk at h
  have := List.all_eq_true.1 h o (Array.mem_def.1 (Array.mem_of_getElem? ho))
  simp only [Bool.and_eq_true] at this
  refine ⟨fun cs b hs => ?_, fun x hx => List.all_eq_true.1 this.1 x (Array.mem_def.1 hx)⟩
  have := this.2
  rw [hs] at this
  simp at this

theorem wp_value {o : Oper} {a : Act} {w w' : World} {v : Value} {K : Act → World → Prop} {Q : Exit → Act → World → Prop} (hr : (execOp a.eval o).run P w = .ok (.value v) w') (h : K (a.put o.dst v) w') : o.wp P a w K Q := by
  unfold Oper.wp; rw [hr, Oper.upon_value]; exact h
theorem wp_skip {o : Oper} {a : Act} {w w' : World} {K : Act → World → Prop} {Q : Exit → Act → World → Prop} (hr : (execOp a.eval o).run P w = .ok .skip w') (h : K (a.put o.dst undef) w') : o.wp P a w K Q := by
  unfold Oper.wp; rw [hr, Oper.upon_skip]; exact h

/-- a write, or a call -/
theorem eff_wp (hcall : SimCall P ro w0 call) {o : Oper} {s : St} {a : Act} {w : World} (r : RelS P ro w0 f g s a w) (hok : OpOk P o) {v : Value} {h' : H} (he : evEff P ro call s.h o (Ev.opd s.fr) = some (v, h')) {K : Act → World → Prop} {Q : Exit → Act → World → Prop}
    (hK : ∀ f' g' w', RelH P ro w0 f' g' h' w' → Agree ro s.h f g f' g' → okV ro h' v → K (a.put o.dst (ren f' g' v)) w') : o.wp P a w K Q := by
  have hop : ∀ x ∈ o.op.operands, a.eval x = ren f g (Ev.opd s.fr x) ∧ okV ro s.h (Ev.opd s.fr x) := fun x hx => r.opd (hok.opd x hx)
  have fin : SimE P ro w0 f g s.h w (execOp a.eval o) v h' → o.wp P a w K Q := by
    rintro ⟨f', g', w', hrun, hm, hag, hv⟩
    rcases hrun with hrun | ⟨hu, hrun⟩
    · exact wp_value hrun (hK f' g' w' hm hag hv)
    · have := hK f' g' w' hm hag hv
      rw [hu, ren_undef] at this
      exact wp_skip hrun this
  have hnew := r.fresh.none s.h.nx (Nat.le_refl _)
  unfold evEff at he
  split at he
  · rename_i t ad x ho
    exact fin (sim_store r.mem ho (hop ad (by rw [ho]; simp [Op.operands])).1 (hop x (by rw [ho]; simp [Op.operands])) he)
  · rename_i it ho
    exact fin (sim_next r.mem ho (hop it (by rw [ho]; simp [Op.operands])).1 he)
  · rename_i c ho
    have hargs : ∀ x ∈ c.args, a.eval x = ren f g (Ev.opd s.fr x) ∧ okV ro s.h (Ev.opd s.fr x) := fun x hx => hop x (by rw [ho]; simp [Op.operands, Call.operands, hx])
    split at he
    · rename_i hc
      exact fin (sim_append r.mem r.nx hnew ho hc hargs he)
    · rename_i hc
      exact fin (sim_copy r.mem ho hc hargs he)
    · rename_i hc
      exact fin (sim_ustr r.mem ho hc hargs he)
    · rename_i x hc
      have hx := hop x (by rw [ho]; simp [Op.operands, Call.operands, hc])
      unfold effCall at he
      split at he
      · rename_i fi first cap hfv
        rw [hfv, ren_func] at hx
        have okf := hx.2
        unfold okV at okf
        rw [all_func] at okf
        split at he
        · rename_i fn hfn
          split at he
          · rename_i body hb
            split at he
            · simp at he
            · rename_i hng
              have hsc := hcall _ _ _ _ _ f g w he r.mem r.fresh r.nx (by
                intro y hy
                rcases List.mem_append.1 hy with hy | hy
                · exact okf.1 y (Array.mem_def.2 hy)
                · rcases List.mem_append.1 hy with hy | hy
                  · obtain ⟨z, hz, rfl⟩ := List.mem_map.1 hy
                    exact (hargs z (Array.mem_def.2 hz)).2
                  · exact okf.2 y (Array.mem_def.2 hy))
              have hlist : ((first.toList ++ (c.args.toList.map (Ev.opd s.fr) ++ cap.toList)).map (ren f g)).toArray = first.map (ren f g) ++ c.args.map a.eval ++ cap.map (ren f g) := by
                apply Array.ext'
                simp only [Array.toList_append, Array.toList_map, List.map_append, List.map_map, List.append_assoc]
                congr 2
                exact List.map_congr_left fun z hz => ((hargs z (Array.mem_def.2 hz)).1).symm
              rw [hlist] at hsc
              have hrun : (execOp a.eval o).run P w = .ok (.enter fi (first.map (ren f g) ++ c.args.map a.eval ++ cap.map (ren f g))) w := by
                have hng' : ¬ fn.name = "runtime.NumGoroutine" := by simpa using hng
                simp [execOp, ho, resolve, hc, hx.1, Deferred.ofValue, invoke, callFunc, hfn, hng', hb]
              unfold Oper.wp
              rw [hrun, Oper.upon_enter]
              refine Calls.mono hsc fun e w'' hew => ?_
              obtain ⟨F', g', rfl, hm, hag, hv⟩ := hew
              exact hK F' g' w'' hm hag hv
          · rename_i hb
            split at he
            · rename_i u hu
              simp only [Option.some.injEq, Prod.mk.injEq] at he
              obtain ⟨rfl, rfl⟩ := he
              obtain ⟨h1, h2⟩ := evFlat_sim (w := w) (ro := ro) (h := s.h) (f := f) (g := g) (ρc := a.eval) hop hok.sel hu
              exact wp_value h1 (by have := hK f g w r.mem (Agree.refl ..) (flat_ok h2 ro s.h); rwa [flat_id h2] at this)
            · simp at he
        · simp at he
      · simp at he
    · simp at he
  · simp at he

/-- one operation -/
theorem step_wp (hcall : SimCall P ro w0 call) (heff : ∀ f args, EffOk (call f args)) {i : Nat} {o : Oper} {s s' : St} {a : Act} {w : World} (r : RelS P ro w0 f g s a w) (hok : OpOk P o) (hi : base + i < s.h.nx) (hro : ro ≤ base) (hn : s.h.get (base + i) = none)
    (he : step1 P ro call ops base i o s = some s') {K : Act → World → Prop} {Q : Exit → Act → World → Prop}
    (hK : ∀ f' g' a' w', RelS P ro w0 f' g' s' a' w' → Agree ro s.h f g f' g' → K a' w') :
    if Region.wanted o (yielded ops a.tmps) then o.wp P a w K Q ∨ (o.asks P a w ∧ LetsOut Q) else K (a.put o.dst undef) w := by
  obtain ⟨ff, nx, ntx, same, mono⟩ := step_fwd heff r.fresh hi he
  have hdom : ∀ b, dom ro s.h b → dom ro s'.h b := fun b hb => by
    rcases hb with hb | hb
    · exact .inl hb
    · exact .inr (mono b hb)
  obtain ⟨v, h', hv, rfl, hdt⟩ := step1_some he
  rw [r.wanted o]
  cases hw : wantV ops o s.fr with
  | false =>
    unfold stepVal at hv
    rw [hw] at hv
    simp only [Option.some.injEq, Prod.mk.injEq] at hv
    obtain ⟨rfl, rfl⟩ := hv
    have := r.put r.mem (Agree.refl ..) hdom r.fresh r.nx (v := undef) (by unfold okV; exact all_undef _) hdt
    rw [ren_undef] at this
    exact hK f g _ w this (Agree.refl ..)
  | true =>
    refine .inl ?_
    by_cases h3 : cls P o = 3
    · have hv' : evEff P ro call s.h o (Ev.opd s.fr) = some (v, h') := by
        unfold stepVal at hv; rw [hw] at hv; simpa only [h3] using hv
      exact eff_wp hcall r hok hv' fun f' g' w' hm hag hokv => hK f' g' _ w' (r.put hm hag hdom ff (Nat.le_trans r.nx nx) hokv hdt) hag
    · rw [stepVal_ne hw h3] at hv
      split at hv
      · rename_i u ob hu
        simp only [Option.some.injEq, Prod.mk.injEq] at hv
        obtain ⟨rfl, rfl⟩ := hv
        have hop : Opds ro s.h f g (Ev.opd s.fr) a.eval o := fun x hx => r.opd (hok.opd x hx)
        obtain ⟨f', g', w', hrun, hm, hag, hokv⟩ := simNE (w := w) r.mem hop hok.sel (Nat.le_trans hro (Nat.le_add_right ..)) (nm_lim r.fresh hi) hn hu
        exact wp_value hrun (hK f' g' _ w' (r.put hm hag hdom ff (Nat.le_trans r.nx nx) hokv hdt) hag)
      · simp at hv

end
end Go.Ev
