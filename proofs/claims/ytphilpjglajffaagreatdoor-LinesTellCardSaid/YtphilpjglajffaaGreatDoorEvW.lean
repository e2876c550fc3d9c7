/- The program's code answers as the evaluator's: code, calls. -/
import Derived.Test.YtphilpjglajffaaGreatDoorEvV
namespace Go.Ev
open Go.RowKit (Below)

def toExit : Ex → Exit
  | .normal => .normal
  | .exit id => .exit id
  | .ret => .ret

def SimCode (P : Program) (ro : Nat) (w0 : World) (rec : Code → St → Option (Ex × St)) : Prop :=
  ∀ c s e s' f g a w (Q : Exit → Act → World → Prop), RelS P ro w0 f g s a w → rec c s = some (e, s') →
    (∀ f' g' a' w', RelS P ro w0 f' g' s' a' w' → Agree ro s.h f g f' g' → Q (toExit e) a' w') → c.wp P Q a w

def SimSums (P : Program) (ro : Nat) (w0 : World) (S : Sums) : Prop :=
  ∀ f m, S f = some m → ∀ args h v h' F g w, m args h = some (v, h') → RelH P ro w0 F g h w → Fresh h → ro ≤ h.nx → (∀ x ∈ args, okV ro h x) →
    Calls P f (args.map (ren F g)).toArray w fun e w' => ∃ F' g', e = .returned (ren F' g' v) ∧ RelH P ro w0 F' g' h' w' ∧ Agree ro h F g F' g' ∧ okV ro h' v

section
variable {P : Program} {ro : Nat} {w0 : World} {f g : Nat → Nat} {S : Sums} {rec : Code → St → Option (Ex × St)} {call : FuncId → List Value → H → Option (Value × H)} {ops : Array Oper}

theorem RelS.bump {s : St} {a : Act} {w : World} (r : RelS P ro w0 f g s a w) {n : Nat} (hl : s.h.nx + n ≤ LIM) : RelS P ro w0 f g { s with h := { s.h with nx := s.h.nx + n } } a w :=
  ⟨r.mem.nx _, r.fr, r.nt, r.dfr, bump_fresh r.fresh hl, Nat.le_trans r.nx (Nat.le_add_right ..), r.lim⟩

theorem RelS.drew {s : St} {a : Act} {w : World} (r : RelS P ro w0 f g s a w) : RelS P ro w0 f g s a w.drew :=
  ⟨r.mem.drew, r.fr, r.nt, r.dfr, r.fresh, r.nx, r.lim⟩

theorem region_wp (hm : P.follows .mixedOrders = true) (hcall : SimCall P ro w0 call) (heff : ∀ f args, EffOk (call f args)) {id : Nat} {draw : Bool} {s sf : St} {a : Act} {w : World} {Q : Exit → Act → World → Prop} (r : RelS P ro w0 f g s a w)
    (he : evRegion P ro call ops draw s = some sf) (hQ : ∀ f' g' a' w', RelS P ro w0 f' g' sf a' w' → Agree ro s.h f g f' g' → Q .normal a' w') : (Code.region id ops draw).wp P Q a w := by
  unfold evRegion at he
  split at he
  · simp at he
  · rename_i hb
    have hlim : s.h.nx + ops.size < LIM := by simpa using hb
    have rb := r.bump (Nat.le_of_lt hlim)
    simp only at he
    split at he
    · split at he
      · rename_i hok
        exact region_text hcall heff hok r.nx rb (fun k hk => r.fresh.none _ (Nat.le_add_right ..)) (Nat.le_refl _) he (fun f' g' a' w' r' ag => hQ f' g' a' w' r' ⟨ag.f, ag.g⟩)
      · simp at he
    · split at he
      · rename_i p hp
        obtain ⟨l1, l2, l3, l4⟩ := planOf_some hp
        refine wp_region_any hm ?_
        exact any_wp hcall heff l3 r.nx l2 ops.size l4 rb.drew l1 (fun j hj => ⟨by have := l1.lt j hj; show s.h.nx + j < s.h.nx + ops.size; omega, r.fresh.none _ (Nat.le_add_right ..)⟩) he (fun f' g' a' w' r' ag => hQ f' g' a' w' r' ⟨ag.f, ag.g⟩)
      · simp at he

theorem loadArgs_get : ∀ (l : List Value) (i : Nat) (t : T Value) (k : Nat), i + l.length ≤ LIM → (loadArgs i l t).get k = if i ≤ k ∧ k < i + l.length then l[k - i]? else t.get k
  | [], i, t, k, _ => by
    have : ¬ (i ≤ k ∧ k < i + ([] : List Value).length) := by simp only [List.length_nil]; omega
    rw [if_neg this]; rfl
  | v :: l, i, t, k, h => by
    have hlen : (v :: l).length = l.length + 1 := rfl
    rw [hlen] at h ⊢
    show (loadArgs (i + 1) l (T.put K t i v)).get k = _
    rw [loadArgs_get l (i + 1) _ k (by omega), T.get_put v K t i k (lim_ok (by omega))]
    by_cases hk : k = i
    · subst hk
      rw [if_neg (by omega), if_pos rfl, if_pos (by omega)]
      simp
    · by_cases h1 : i + 1 ≤ k ∧ k < i + 1 + l.length
      · rw [if_pos h1, if_pos (by omega)]
        rw [show k - i = (k - (i + 1)) + 1 from by omega, List.getElem?_cons_succ]
      · rw [if_neg h1, if_neg hk, if_neg (by omega)]

theorem enter_rel {args : List Value} {h : H} {w : World} {n : Nat} (hm : RelH P ro w0 f g h w) (hf : Fresh h) (hr : ro ≤ h.nx) (hok : ∀ x ∈ args, okV ro h x) (hl : args.length + n < LIM) :
    RelS P ro w0 f g { fr := loadArgs 0 args .nil, nt := args.length + (n - args.length), h } { tmps := (args.map (ren f g)).toArray ++ Array.replicate (n - (args.map (ren f g)).toArray.size) undef, defers := [] } w := by
  refine ⟨hm, fun t => ?_, ?_, rfl, hf, hr, by show args.length + (n - args.length) ≤ LIM; omega⟩
  · have hg : opd (loadArgs 0 args .nil) (.tmp t) = (args[t]?).getD undef := by
      show (match (loadArgs 0 args .nil).get t with | some v => v | none => undef) = _
      rw [loadArgs_get args 0 .nil t (by omega)]
      by_cases ht : t < args.length
      · rw [if_pos (by omega), Nat.sub_zero, List.getElem?_eq_getElem ht]; rfl
      · rw [if_neg (by omega), List.getElem?_eq_none (by omega)]; rfl
    show _ = ren f g (opd (loadArgs 0 args .nil) (.tmp t)) ∧ okV ro h (opd (loadArgs 0 args .nil) (.tmp t))
    rw [hg]
    by_cases ht : t < args.length
    · rw [List.getElem?_eq_getElem ht]
      refine ⟨?_, hok _ (List.getElem_mem ht)⟩
      simp [Array.getD_eq_getD_getElem?, Array.getElem?_append, ht]
    · rw [List.getElem?_eq_none (by omega)]
      refine ⟨?_, by unfold okV; exact all_undef _⟩
      simp only [Option.getD_none, ren_undef, Array.getD_eq_getD_getElem?]
      rw [Array.getElem?_append, if_neg (by simpa using ht)]
      rw [Array.getElem?_replicate]
      split <;> rfl
  · simp

noncomputable def resK (tmps : Array Value) : ResultVar → Sem Value
  | .tmp t => pure (tmps.getD t undef)
  | .cell a t => do loadVar t (← asAddr (tmps.getD a undef))

theorem resAll_run {s : St} {a : Act} {w : World} (r : RelS P ro w0 f g s a w) : ∀ (l : List ResultVar) {vs : List Value}, resAll P s l = some vs →
    (l.mapM (resK a.tmps)).run P w = .ok (vs.map (ren f g)) w ∧ ∀ v ∈ vs, okV ro s.h v
  | [], vs, h => by
    simp only [resAll, Option.some.injEq] at h; subst h
    exact ⟨rfl, by simp⟩
  | x :: l, vs, h => by
    unfold resAll at h
    split at h
    · rename_i v vs' h1 h2
      simp only [Option.some.injEq] at h; subst h
      obtain ⟨i1, i2⟩ := resAll_run r l h2
      have hx : (resK a.tmps x).run P w = .ok (ren f g v) w ∧ okV ro s.h v := by
        unfold resV at h1
        split at h1
        · rename_i t
          simp only [Option.some.injEq] at h1; subst h1
          exact ⟨by show Result.ok _ w = _; rw [(r.fr t).1], (r.fr t).2⟩
        · rename_i q t
          split at h1
          · rename_i ad had
            obtain ⟨k1, k2⟩ := evLoad_run r.mem h1
            refine ⟨?_, k2⟩
            have hq := (r.fr q).1
            rw [had, ren_pointer] at hq
            simp [resK, hq, asAddr, k1]
          · simp at h1
      refine ⟨?_, fun u hu => ?_⟩
      · rw [List.mapM_cons]
        simp only [Sem.run_bind, hx.1, Result.andThen_ok, i1, Sem.run_pure, List.map_cons]
      · rcases List.mem_cons.1 hu with rfl | hu
        · exact hx.2
        · exact i2 u hu
    · simp at h

theorem results_run {fn : Func} {s : St} {a : Act} {w : World} (r : RelS P ro w0 f g s a w) {vs : List Value} (h : resAll P s fn.results.toList = some vs) :
    (results fn a.tmps).run P w = .ok (if h : (vs.map (ren f g)).toArray.size = 1 then (vs.map (ren f g)).toArray[0] else .tuple (vs.map (ren f g)).toArray) w := by
  have h1 := (resAll_run r _ h).1
  have hd : results fn a.tmps = (do let vs ← fn.results.mapM (resK a.tmps); pure (if h : vs.size = 1 then vs[0] else .tuple vs)) := by
    unfold results
    congr 1
  rw [hd, Array.mapM_eq_mapM_toList]
  simp [h1]

/-- a call's answer is the evaluator's -/
theorem fn_sim (hS : SimSums P ro w0 S) (hrec : SimCode P ro w0 rec) : SimCall P ro w0 (evFn P S rec) := by
  intro fi args h v h' F g w he hm hf hr hargs
  unfold evFn at he
  split at he
  · rename_i m hmS
    exact hS fi m hmS args h v h' F g w he hm hf hr hargs
  · split at he
    · simp at he
    · rename_i fn hfn
      split at he
      · simp at he
      · rename_i c hc
        split at he
        · simp at he
        · rename_i hb
          have hlim : args.length + fn.ntmps < LIM := by simpa using hb
          split at he
          · simp at he
          · rename_i e s hne hr2
            refine calls_of_wp hfn hc ?_
            refine hrec c _ e s F g _ w _ (enter_rel hm hf hr hargs hlim) hr2 ?_
            intro f' g' a' w' r' ag
            have fin : ∀ vs, resAll P s fn.results.toList = some vs → ∀ v, (if h : (vs.map (ren f' g')).toArray.size = 1 then (vs.map (ren f' g')).toArray[0] else .tuple (vs.map (ren f' g')).toArray) = ren f' g' v → okV ro s.h v →
                bodyPost P fn (fun e w' => ∃ F' g'', e = .returned (ren F' g'' v) ∧ RelH P ro w0 F' g'' s.h w' ∧ Agree ro h F g F' g'' ∧ okV ro s.h v) (toExit e) a' w' := by
              intro vs hvs v hv hokv
              have hres := results_run (fn := fn) r' hvs
              rw [hv] at hres
              have : a'.defers = [] ∧ ∃ u, (results fn a'.tmps).run P w' = .ok u w' ∧ (∃ F' g'', Ending.returned u = .returned (ren F' g'' v) ∧ RelH P ro w0 F' g'' s.h w' ∧ Agree ro h F g F' g'' ∧ okV ro s.h v) :=
                ⟨r'.dfr, _, hres, f', g', rfl, r'.mem, ag, hokv⟩
              cases e with
              | exit id => exact (hne id rfl).elim
              | normal => exact this
              | ret => exact this
            split at he
            · rename_i v1 hres
              simp only [Option.some.injEq, Prod.mk.injEq] at he
              obtain ⟨rfl, rfl⟩ := he
              exact fin _ hres v1 (by simp) ((resAll_run r' _ hres).2 v1 (by simp))
            · rename_i vs hnv hres
              simp only [Option.some.injEq, Prod.mk.injEq] at he
              obtain ⟨rfl, rfl⟩ := he
              refine fin _ hres (.tuple ⟨vs⟩) ?_ ?_
              · have hn1 : ¬ (vs.map (ren f' g')).toArray.size = 1 := by
                  intro h1
                  have : vs.length = 1 := by simpa using h1
                  obtain ⟨u, hu⟩ := List.length_eq_one_iff.1 this
                  exact hnv u hu
                rw [dif_neg hn1, ren_tuple]
                simp
              · unfold okV; rw [all_tuple]
                intro x hx
                exact (resAll_run r' _ hres).2 x (by simpa using hx)
            · simp at he
          · simp at he

theorem Agree.thenS {h h2 : H} {f g f' g' f2 g2 : Nat → Nat} (hf : Fresh h) (hw : Fwd h h2) (a : Agree ro h f g f' g') (b : Agree ro h2 f' g' f2 g2) : Agree ro h f g f2 g2 := a.trans b (hw.dom hf)

theorem code_sim (hm : P.follows .mixedOrders = true) (hSo : SumsOk S) (hS : SimSums P ro w0 S) : ∀ n, SimCode P ro w0 (evCode P ro S n) ∧
    ∀ c s e s' f g a w (Q : Exit → Act → World → Prop), RelS P ro w0 f g s a w → evCode P ro S n (.loop c) s = some (e, s') → (∀ f' g' a' w', RelS P ro w0 f' g' s' a' w' → Agree ro s.h f g f' g' → Q (toExit e) a' w') → Code.rounds P c Q n a w
  | 0 => ⟨fun c s e s' f g a w Q _ he => by rw [evCode_zero] at he; simp at he, fun c s e s' f g a w Q _ he => by rw [evCode_zero] at he; simp at he⟩
  | n + 1 => by
    obtain ⟨ih, ihl⟩ := code_sim hm hSo hS n
    have hcok := code_ok (P := P) (ro := ro) hSo n
    have loop : ∀ c s e s' f g a w (Q : Exit → Act → World → Prop), RelS P ro w0 f g s a w → evCode P ro S (n + 1) (.loop c) s = some (e, s') → (∀ f' g' a' w', RelS P ro w0 f' g' s' a' w' → Agree ro s.h f g f' g' → Q (toExit e) a' w') → Code.rounds P c Q (n + 1) a w := by
      intro c s e s' f g a w Q r he hQ
      rw [evCode_succ] at he
      have he : evSeq (evCode P ro S n c s) (evCode P ro S n (.loop c)) = some (e, s') := he
      rw [rounds_succ]
      rcases seq2_ok he with ⟨s1, h1, h2⟩ | ⟨hn, h1⟩
      · refine ih c s _ s1 f g a w _ r h1 fun f1 g1 a1 w1 r1 ag1 => ?_
        exact ihl c s1 e s' f1 g1 a1 w1 Q r1 h2 fun f2 g2 a2 w2 r2 ag2 => hQ f2 g2 a2 w2 r2 (ag1.thenS r.fresh (hcok _ _ _ _ r.fresh h1).1.fwd ag2)
      · refine ih c s e s' f g a w _ r h1 fun f1 g1 a1 w1 r1 ag1 => ?_
        have := hQ f1 g1 a1 w1 r1 ag1
        cases e with
        | normal => exact absurd rfl hn
        | exit id => exact this
        | ret => exact this
    refine ⟨?_, loop⟩
    intro c s e s' f g a w Q r he hQ
    cases c with
    | loop c => exact wp_loop_rounds (n + 1) (loop c s e s' f g a w Q r he hQ)
    | skip =>
      rw [evCode_succ] at he
      simp only [evStep, Option.some.injEq, Prod.mk.injEq] at he
      obtain ⟨rfl, rfl⟩ := he
      exact Go.wp_skip (hQ f g a w r (Agree.refl ..))
    | exit id =>
      rw [evCode_succ] at he
      simp only [evStep, Option.some.injEq, Prod.mk.injEq] at he
      obtain ⟨rfl, rfl⟩ := he
      exact wp_exit (hQ f g a w r (Agree.refl ..))
    | ret =>
      rw [evCode_succ] at he
      simp only [evStep, Option.some.injEq, Prod.mk.injEq] at he
      obtain ⟨rfl, rfl⟩ := he
      exact wp_ret (hQ f g a w r (Agree.refl ..))
    | region id ops draw =>
      rw [evCode_succ] at he
      simp only [evStep, evNormal] at he
      split at he
      · rename_i s1 h1
        simp only [Option.some.injEq, Prod.mk.injEq] at he
        obtain ⟨rfl, rfl⟩ := he
        exact region_wp hm (fn_sim hS ih) (fun f args => fn_ok hSo hcok f args) r h1 hQ
      · simp at he
    | seq x y =>
      rw [evCode_succ] at he
      simp only [evStep] at he
      refine wp_seq ?_
      rcases seq2_ok he with ⟨s1, h1, h2⟩ | ⟨hn, h1⟩
      · refine ih x s _ s1 f g a w _ r h1 fun f1 g1 a1 w1 r1 ag1 => ?_
        exact ih y s1 e s' f1 g1 a1 w1 Q r1 h2 fun f2 g2 a2 w2 r2 ag2 => hQ f2 g2 a2 w2 r2 (ag1.thenS r.fresh (hcok _ _ _ _ r.fresh h1).1.fwd ag2)
      · refine ih x s e s' f g a w _ r h1 fun f1 g1 a1 w1 r1 ag1 => ?_
        have := hQ f1 g1 a1 w1 r1 ag1
        cases e with
        | normal => exact absurd rfl hn
        | exit id => exact this
        | ret => exact this
    | cond c x y =>
      rw [evCode_succ] at he
      simp only [evStep, evCond] at he
      split at he
      · rename_i h1 h2
        have hc := (r.opd h1).1
        rw [h2, ren_bool] at hc
        exact wp_cond_true hc (ih x s e s' f g a w Q r he hQ)
      · rename_i h1 h2
        have hc := (r.opd h1).1
        rw [h2, ren_bool] at hc
        exact wp_cond_false hc (ih y s e s' f g a w Q r he hQ)
      · simp at he
    | block id c =>
      rw [evCode_succ] at he
      simp only [evStep, evBlock] at he
      refine wp_block ?_
      split at he
      · rename_i j s1 h1
        split at he
        · rename_i hj
          have hj := Nat.eq_of_beq_eq_true hj
          subst hj
          simp only [Option.some.injEq, Prod.mk.injEq] at he
          obtain ⟨rfl, rfl⟩ := he
          refine ih c s _ s1 f g a w _ r h1 fun f1 g1 a1 w1 r1 ag1 => ?_
          have := hQ f1 g1 a1 w1 r1 ag1
          simp only [toExit, Exit.inBlock, if_true]
          exact this
        · rename_i hj
          simp only [Option.some.injEq, Prod.mk.injEq] at he
          obtain ⟨rfl, rfl⟩ := he
          refine ih c s _ s1 f g a w _ r h1 fun f1 g1 a1 w1 r1 ag1 => ?_
          have := hQ f1 g1 a1 w1 r1 ag1
          have hne : ¬ j = id := fun e => by subst e; simp at hj
          simp only [toExit, Exit.inBlock, if_neg hne]
          exact this
      · rename_i hne
        refine ih c s e s' f g a w _ r he fun f1 g1 a1 w1 r1 ag1 => ?_
        have := hQ f1 g1 a1 w1 r1 ag1
        cases e with
        | exit j => exact absurd he (hne j s')
        | normal => exact this
        | ret => exact this
    | _ =>
      rw [evCode_succ] at he
      simp [evStep] at he

/-- what was evaluated, the program answers -/
theorem ev_calls (hm : P.follows .mixedOrders = true) (hSo : SumsOk S) (hS : SimSums P ro w0 S) {n : Nat} {fi : FuncId} {args : List Value} {h h' : H} {v : Value} {w : World} (he : evCall P ro S n fi args h = some (v, h')) (hr : RelH P ro w0 f g h w) (hf : Fresh h) (hn : ro ≤ h.nx) (ha : ∀ x ∈ args, okV ro h x) :
    Calls P fi (args.map (ren f g)).toArray w fun e w' => ∃ F' g', e = .returned (ren F' g' v) ∧ RelH P ro w0 F' g' h' w' ∧ Agree ro h f g F' g' ∧ okV ro h' v :=
  fn_sim hS (code_sim hm hSo hS n).1 fi args h v h' f g w he hr hf hn ha

end
end Go.Ev
#print axioms Go.Ev.ev_calls
