/- The example of layer 30, evaluated. -/
import Derived.Test.YtphilpjglajffaaGreatDoorEvW
import Derived.Test.YtphilpjglajffaaGreatDoorIter
import Derived.Test.YtphilpjglajffaaGreatDoorShelf
import Derived.KernelRfl
namespace Go.Ev
open Go.Proofs Go Go.RowKit

noncomputable def strsOf : List Value → Option (List ByteArray)
  | [] => some []
  | .string s :: r => match strsOf r with
    | some l => some (s :: l)
    | none => none
  | _ => none

noncomputable def joinL (sep : List UInt8) : List (List UInt8) → List UInt8
  | [] => []
  | [s] => s
  | s :: t :: r => s ++ (sep ++ joinL sep (t :: r))

noncomputable def capOk (P : Program) (h : H) (a : Addr) (n cap : Nat) : Bool :=
  match Nat.blt cap BIG with
  | true => Nat.ble n cap
  | false => match h.get a.block with
    | some (.grow _ e) => match szOf P e with
      | some 1 => Nat.beq cap BIG
      | _ => false
    | _ => false

noncomputable def joinS (P : Program) (args : List Value) (h : H) : Option (Value × H) :=
  match args with
  | [.slice (some a) n cap, .string sep] => match ldN h a n, capOk P h a n cap, Nat.ble n 1048576 with
    | some l, true, true => match strsOf l with
      | some ss => match Nat.ble (joinL sep.data.toList (ss.map (·.data.toList))).length 1048576 with
        | true => some (.string ⟨⟨joinL sep.data.toList (ss.map (·.data.toList))⟩⟩, h)
        | false => none
      | none => none
    | _, _, _ => none
  | _ => none

noncomputable def sortedS (g : Nat) (args : List Value) (h : H) : Option (Value × H) :=
  match args with
  | [.func (.func q) fst cap] => match Nat.beq q g, fst.toList, cap.toList with
    | true, [], [.pointer (some ⟨b, 0, none⟩)] => match h.get b with
      | some (.cells [.slice none 0 0] _) => some (.slice none 0 0, h)
      | _ => none
    | _, _, _ => none
  | _ => none

theorem joinL_eq (sep : List UInt8) : ∀ l, joinL sep l = Lib.join l sep
  | [] => rfl
  | [s] => by rw [Lib.join_one]; rfl
  | s :: t :: r => by
    rw [joinL, joinL_eq sep (t :: r), Lib.join_cons, Lib.join_cons]
    simp [Lib.joinTail]

theorem strsOf_some : ∀ (l : List Value) (ss : List ByteArray), strsOf l = some ss → l = ss.map Value.string
  | [], ss, h => by simp only [strsOf, Option.some.injEq] at h; subst h; rfl
  | v :: l, ss, h => by
    unfold strsOf at h
    split at h
    · rename_i h0; cases h0
    · rename_i s r h0
      cases h0
      split at h
      · rename_i l' hl
        simp only [Option.some.injEq] at h; subst h
        rw [strsOf_some _ _ hl]; rfl
      · simp at h
    · simp at h

theorem joinS_ok (P : Program) (args : List Value) : EffOk (joinS P args) := by
  intro h v h' hf he
  unfold joinS at he
  split at he
  · rename_i a n cap sep
    split at he
    · rename_i l hl hc hn
      split at he
      · rename_i ss hss
        split at he
        · rename_i hb
          simp only [Option.some.injEq, Prod.mk.injEq] at he
          obtain ⟨rfl, rfl⟩ := he
          refine ⟨Fwd.refl hf, fun nm ob h1 h2 => ?_⟩
          have hm := mono_put ob (nm_lim hf h1) h2
          have hc2 : capOk P (h.put nm ob) a n cap = true := by
            unfold capOk at hc ⊢
            split at hc
            · exact hc
            · split at hc
              · rename_i c e hg
                rw [hm _ _ hg]; exact hc
              · simp at hc
          unfold joinS
          simp only [ldN_mono hm hl, hc2, hn, hss, hb]
        · simp at he
      · simp at he
    · simp at he
  · simp at he

theorem sortedS_ok (g : Nat) (args : List Value) : EffOk (sortedS g args) := by
  intro h v h' hf he
  unfold sortedS at he
  split at he
  · split at he
    · rename_i b h1 h2 h3
      split at he
      · rename_i hg
        simp only [Option.some.injEq, Prod.mk.injEq] at he
        obtain ⟨rfl, rfl⟩ := he
        refine ⟨Fwd.refl hf, fun nm ob g1 g2 => ?_⟩
        unfold sortedS
        simp only [h1, h2, h3, mono_put ob (nm_lim hf g1) g2 _ _ hg]
      · simp at he
    · simp at he
  · simp at he

section
variable {P : Program} {ro : Nat} {w0 : World} {f g : Nat → Nat} {h : H} {w : World}

theorem RelH.ahead (r : RelH P ro w0 f g h w) {w' : World} (hb : Below w.heap.size w w') : RelH P ro w0 f g h w' := by
  have old : ∀ b o, h.get b = some o → o ≠ .dead → w'.heap[f b]? = w.heap[f b]? := fun b o hg hd => hb.block _ (r.lives hg hd)
  refine ⟨r.below.trans (hb.mono r.below.size), fun b c e hg => ?_, fun b c e hg => ?_, fun b s p hg => ?_, r.cok, r.new, r.old, r.inj, r.glob, r.lim, r.lt⟩
  · rw [old b _ hg (by simp)]; exact r.row b c e hg
  · rw [old b _ hg (by simp)]; exact r.grow b c e hg
  · rw [old b _ hg (by simp)]; exact r.iter b s p hg

theorem RelH.lives_row (r : RelH P ro w0 f g h w) {b : Nat} {x : List Value × TypeId} (hb : rowOf h b = some x) : f b < w.heap.size := by
  obtain ⟨c, e⟩ := x
  rcases rowOf_some hb with hg | hg
  · exact r.lives hg (by simp)
  · exact r.lives hg (by simp)

theorem capOk_le (r : RelH P ro w0 f g h w) {a : Addr} {n cap : Nat} {l : List Value} (hc : capOk P h a n cap = true) (hl : ldN h a n = some l) : n ≤ capR g a.block cap := by
  unfold capOk at hc
  split at hc
  · rename_i hb
    have hb : cap < BIG := by simpa using hb
    unfold capR; rw [if_pos hb]
    exact Nat.le_of_ble_eq_true hc
  · rename_i hb
    split at hc
    · rename_i c e hg
      split at hc
      · rename_i hs
        have hcap := Nat.eq_of_beq_eq_true hc
        obtain ⟨_, rest, fz, i, hw, hi, hp, hly, _⟩ := r.grow a.block c e hg
        have h1 : i.size = 1 := by unfold szOf at hs; rw [hi] at hs; simpa using hs
        rw [h1, Nat.mul_one] at hly
        obtain ⟨_, c', e', hr, hlen, _⟩ := ldN_some hl
        rw [show rowOf h a.block = some (c, e) from by simp [rowOf, hg]] at hr
        simp only [Option.some.injEq, Prod.mk.injEq] at hr
        obtain ⟨rfl, rfl⟩ := hr
        have : capR g a.block cap = g a.block := by
          have := capR_big g a.block 0
          rw [Nat.add_zero, Nat.sub_zero] at this
          rw [hcap]; exact this
        rw [this]; omega
      · simp at hc
    · simp at hc
end

/-- a new block of which nothing is known -/
noncomputable def unknownS (args : List Value) (h : H) : Option (Value × H) :=
  match args with
  | [.string _, .string s] => match Nat.blt h.nx LIM, Nat.ble s.size 1048576 with
    | true, true => some (.pointer (some ⟨h.nx, 0, none⟩), { h.put h.nx .dead with nx := h.nx + 1 })
    | _, _ => none
  | _ => none

theorem unknownS_ok (args : List Value) : EffOk (unknownS args) := by
  intro h v h' hf he
  unfold unknownS at he
  split at he
  · split at he
    · rename_i hb hs
      have hl : h.nx < LIM := by simpa using hb
      simp only [Option.some.injEq, Prod.mk.injEq] at he
      obtain ⟨rfl, rfl⟩ := he
      refine ⟨fwd_new hf hl _, fun nm ob g1 g2 => ?_⟩
      unfold unknownS
      show (match Nat.blt h.nx LIM, Nat.ble _ 1048576 with | true, true => some (Value.pointer (some ⟨h.nx, 0, none⟩), ({ (h.put nm ob).put h.nx .dead with nx := h.nx + 1 } : H)) | _, _ => none) = _
      rw [hb, hs, put_swap h ob .dead (show nm ≠ h.nx by omega)]
      rfl
    · simp at he
  · simp at he

theorem RelH.unknown {P : Program} {ro : Nat} {w0 : World} {f g : Nat → Nat} {h : H} {w : World} (r : RelH P ro w0 f g h w) {b : Nat} (hr : ro ≤ b) (hl : b < LIM) (hn : h.get b = none) (k y : Nat) :
    RelH P ro w0 (upd f b k) (upd g b y) (h.put b .dead) w := by
  have ag := agree_upd f g hr hn k y
  have other : ∀ x o', (h.put b .dead).get x = some o' → o' ≠ .dead → x ≠ b ∧ h.get x = some o' := fun x o' hx hd => by
    by_cases hxb : x = b
    · subst hxb; rw [H.get_put_same hl] at hx; exact absurd (Option.some.inj hx).symm hd
    · exact ⟨hxb, by rwa [H.get_put_other hl _ hxb] at hx⟩
  have cells : ∀ x c e, rowOf h x = some (c, e) → c.map (ren f g) = c.map (ren (upd f b k) (upd g b y)) := fun x c e hx => cells_renamed ag (r.cok x c e hx)
  refine ⟨r.below, ?_, ?_, ?_, ?_, ?_, ?_, ?_, ?_, r.lim, ?_⟩
  · intro x c e hx
    obtain ⟨hxb, hx'⟩ := other x _ hx (by simp)
    obtain ⟨fz, hw, hz⟩ := r.row x c e hx'
    refine ⟨fz, ?_, hz⟩
    rw [upd_other _ _ hxb, ← cells x c e (by simp [rowOf, hx'])]
    exact hw
  · intro x c e hx
    obtain ⟨hxb, hx'⟩ := other x _ hx (by simp)
    obtain ⟨hro, rest, fz, i, hw, hi, hp, hly, hz, hB⟩ := r.grow x c e hx'
    refine ⟨hro, rest, fz, i, ?_, hi, hp, by rw [upd_other _ _ hxb]; exact hly, hz, by rw [upd_other _ _ hxb]; exact hB⟩
    rw [upd_other _ _ hxb, ← cells x c e (by simp [rowOf, hx'])]
    exact hw
  · intro x s p hx
    obtain ⟨hxb, hx'⟩ := other x _ hx (by simp)
    rw [upd_other _ _ hxb]
    exact r.iter x s p hx'
  · intro x c e hx v hv
    have hx2 := rowOf_some hx
    have hx' : rowOf h x = some (c, e) := by
      rcases hx2 with h1 | h1
      · have := (other x _ h1 (by simp)).2; simp [rowOf, this]
      · have := (other x _ h1 (by simp)).2; simp [rowOf, this]
    exact okV_put hl _ (r.cok x c e hx' v hv)
  · intro x o' hro hx hd
    obtain ⟨hxb, hx'⟩ := other x _ hx hd
    rw [upd_other _ _ hxb]; exact r.new x o' hro hx' hd
  · intro x o' hro hx hd
    obtain ⟨hxb, hx'⟩ := other x _ hx hd
    rw [upd_other _ _ hxb]; exact r.old x o' hro hx' hd
  · intro x x' o1 o2 hx hx' h1 h2 d1 d2 he
    obtain ⟨e1, q1⟩ := other x _ h1 d1
    obtain ⟨e2, q2⟩ := other x' _ h2 d2
    rw [upd_other _ _ e1, upd_other _ _ e2] at he
    exact r.inj x x' o1 o2 hx hx' q1 q2 d1 d2 he
  · intro x hx
    have hg := r.glob x hx
    exact ⟨by rw [upd_other _ _ (by omega)]; exact hg.1, hg.2⟩
  · intro x o' hx
    by_cases hxb : x = b
    · subst hxb; exact hl
    · exact r.lt x o' (by rwa [H.get_put_other hl _ hxb] at hx)

noncomputable def sums : Sums := fun f =>
  match Nat.beq f 24 with
  | true => some (joinS Tryz.prog)
  | false => match Nat.beq f 66 with
    | true => some (sortedS 90)
    | false => match Nat.beq f 115 with
      | true => some unknownS
      | false => none

theorem sums_some {f : FuncId} {m : List Value → H → Option (Value × H)} (h : sums f = some m) : (f = 24 ∧ m = joinS Tryz.prog) ∨ (f = 66 ∧ m = sortedS 90) ∨ (f = 115 ∧ m = unknownS) := by
  unfold sums at h
  split at h
  · rename_i hb
    simp only [Option.some.injEq] at h
    exact .inl ⟨Nat.eq_of_beq_eq_true hb, h.symm⟩
  · split at h
    · rename_i hb
      simp only [Option.some.injEq] at h
      exact .inr (.inl ⟨Nat.eq_of_beq_eq_true hb, h.symm⟩)
    · split at h
      · rename_i hb
        simp only [Option.some.injEq] at h
        exact .inr (.inr ⟨Nat.eq_of_beq_eq_true hb, h.symm⟩)
      · simp at h

theorem sums_ok : SumsOk sums := by
  intro f m hm args
  rcases sums_some hm with ⟨_, rfl⟩ | ⟨_, rfl⟩ | ⟨_, rfl⟩
  · exact joinS_ok _ _
  · exact sortedS_ok _ _
  · exact unknownS_ok _

theorem sums_sim (ro : Nat) (w0 : World) {tp : TypeId} {p : Value} (hglob : w0.cell? ⟨2, 0, none⟩ = some (.iface tp p)) (h2 : 2 < w0.heap.size) : SimSums Tryz.prog ro w0 sums := by
  intro f m hm args h v h' F g w he hr hf hro hargs
  rcases sums_some hm with ⟨rfl, rfl⟩ | ⟨rfl, rfl⟩ | ⟨rfl, rfl⟩
  · unfold joinS at he
    split at he
    · rename_i a n cap sep
      split at he
      · rename_i l hl hc hn
        split at he
        · rename_i ss hss
          split at he
          · rename_i hb
            have hb := Nat.le_of_ble_eq_true hb
            have hn := Nat.le_of_ble_eq_true hn
            simp only [Option.some.injEq, Prod.mk.injEq] at he
            obtain ⟨rfl, rfl⟩ := he
            have hls := strsOf_some l ss hss
            obtain ⟨hsp, c, e, hrow, hlen, _⟩ := ldN_some hl
            have ha : adr F a = ⟨F a.block, a.off, none⟩ := by unfold adr; rw [← hsp]
            have hlen2 : ss.length = n := by have := ldN_length hl; rw [hls] at this; simpa using this
            have hcell := hr.loaded hl
            rw [hls] at hcell
            have hren : (ss.map Value.string).map (ren F g) = ss.map Value.string := by
              rw [List.map_map]; exact List.map_congr_left fun x _ => ren_string F g x
            rw [hren, ha] at hcell
            have hj := Tryz.strings_Join (F a.block) a.off (capR g a.block cap) ss sep w (fun j x hx => by
              have := hcell j (.string x) (by simp [hx])
              rwa [add_plainE] at this) (hr.lives_row hrow) (by omega) (by rw [hlen2]; exact capOk_le hr hc hl) (by rw [← joinL_eq]; omega)
            rw [hlen2] at hj
            have hae : ([Value.slice (some a) n cap, Value.string sep].map (ren F g)).toArray = #[.slice (some ⟨F a.block, a.off, none⟩) n (capR g a.block cap), .string sep] := by
              simp [ren_slice, ren_string, ha]
            rw [hae]
            refine hj.mono ?_
            rintro e w' ⟨rfl, hbw⟩
            refine ⟨F, g, ?_, hr.ahead hbw, Agree.refl .., okStr _⟩
            rw [ren_string, joinL_eq]
          · simp at he
        · simp at he
      · simp at he
    · simp at he
  · unfold sortedS at he
    split at he
    · rename_i q fst cap
      split at he
      · rename_i b h1 h2 h3
        split at he
        · rename_i e hg
          simp only [Option.some.injEq, Prod.mk.injEq] at he
          obtain ⟨rfl, rfl⟩ := he
          have hq := Nat.eq_of_beq_eq_true h1
          subst hq
          have hfst : fst = #[] := by apply Array.ext'; simpa using h2
          have hcap : cap = #[.pointer (some ⟨b, 0, none⟩)] := by apply Array.ext'; simpa using h3
          subst hfst hcap
          have hcell := hr.cellAt (b := b) (i := 0) (v := .slice none 0 0) (show rowOf h b = some ([.slice none 0 0], e) from by simp [rowOf, hg]) rfl
          rw [ren_nilslice] at hcell
          have hs := sorted_nil w (F b) (hr.lives hg (by simp)) hcell
          have hae : ([Value.func (.func 90) #[] #[.pointer (some ⟨b, 0, none⟩)]].map (ren F g)).toArray = #[.func (.func 90) #[] #[.pointer (some ⟨F b, 0, none⟩)]] := by
            simp [ren_func, ren_pointer, adr]
          rw [hae]
          refine hs.mono ?_
          rintro e w' ⟨rfl, hbw⟩
          exact ⟨F, g, by rw [ren_nilslice], hr.ahead hbw, Agree.refl .., by unfold okV; rw [all_nilslice]; trivial⟩
        · simp at he
      · simp at he
    · simp at he
  · unfold unknownS at he
    split at he
    · rename_i fn s
      split at he
      · rename_i hb hs
        have hl : h.nx < LIM := by simpa using hb
        have hs := Nat.le_of_ble_eq_true hs
        simp only [Option.some.injEq, Prod.mk.injEq] at he
        obtain ⟨rfl, rfl⟩ := he
        have hcell := (hr.below.cell (p := ⟨2, 0, none⟩) h2).trans hglob
        have hc := Tryz.strconv_syntaxError fn s (.iface tp p) w (by omega) hcell (.inr ⟨tp, p, rfl⟩)
        have hae : ([Value.string fn, Value.string s].map (ren F g)).toArray = #[.string fn, .string s] := by simp [ren_string]
        rw [hae]
        refine hc.mono ?_
        rintro e w' ⟨N, rfl, _, _, hbw⟩
        refine ⟨upd F h.nx N, upd g h.nx 0, by rw [ren_new], RelH.nx ((hr.ahead hbw).unknown hro hl (hf.none _ (Nat.le_refl _)) N 0) _, agree_upd F g hro (hf.none _ (Nat.le_refl _)) _ _, new_ptr h.nx hl _⟩
      · simp at he
    · simp at he

noncomputable def h0 : H := { t := .nil, nx := 1000 }

def isB : Option (Value × H) → Bool
  | some (.bool true, _) => true
  | _ => false

end Go.Ev
