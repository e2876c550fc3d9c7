/- One operation of a region, evaluated: what it looks at; two that are apart change places. -/
import Derived.Test.YtphilpjglajffaaGreatDoorEvO
namespace Go.Ev

section
variable {P : Program} {ro : Nat} {call : FuncId → List Value → H → Option (Value × H)} {ops : Array Oper} {base : Nat}

noncomputable def stepVal (P : Program) (ro : Nat) (call : FuncId → List Value → H → Option (Value × H)) (ops : Array Oper) (nm : Nat) (o : Oper) (fr : T Value) (h : H) : Option (Value × H) :=
  match wantV ops o fr with
  | false => some (undef, h)
  | true => match cls P o with
    | 3 => evEff P ro call h o (opd fr)
    | _ => match evNE P nm h o (opd fr) with
      | some (v, ob) => some (v, putO h nm ob)
      | none => none

theorem step1_eq (i : Nat) (o : Oper) (s : St) : step1 P ro call ops base i o s = match stepVal P ro call ops (base + i) o s.fr s.h with | some (v, h') => putD { s with h := h' } o.dst v | none => none := by
  unfold step1 stepVal
  cases wantV ops o s.fr with
  | false => rfl
  | true =>
    simp only
    by_cases hc : cls P o = 3
    · rw [hc]; rfl
    · split
      · rename_i h3; exact absurd h3 hc
      · split
        · rename_i h2
          simp only [h2]; rfl
        · rename_i h2
          simp only [h2]; rfl
        · rename_i h2
          simp only [h2]

theorem evFlat_congr {o : Oper} (hs : ∀ cs b, o.op ≠ .select cs b) {ρ ρ' : Operand → Value} (h : ∀ x ∈ o.op.operands, ρ x = ρ' x) : evFlat P o ρ = evFlat P o ρ' := by
  unfold evFlat
  rw [execOp_congr o hs h]
  have : o.op.operands.toList.all (fun x => flat (ρ x)) = o.op.operands.toList.all (fun x => flat (ρ' x)) := by
    rw [Bool.eq_iff_iff, List.all_eq_true, List.all_eq_true]
    constructor
    · intro hh x hx; rw [← h x (Array.mem_def.2 hx)]; exact hh x hx
    · intro hh x hx; rw [h x (Array.mem_def.2 hx)]; exact hh x hx
  rw [this]

theorem parts_congr {ps : Array (Nat × Operand)} {ρ ρ' : Operand → Value} (h : ∀ p ∈ ps, ρ p.2 = ρ' p.2) : ps.toList.map (fun (j, x) => (j, ρ x)) = ps.toList.map (fun (j, x) => (j, ρ' x)) :=
  List.map_congr_left fun p hp => by
    show (p.1, ρ p.2) = (p.1, ρ' p.2)
    rw [h p (Array.mem_def.2 hp)]

theorem evNE_congr {o : Oper} (hs : ∀ cs b, o.op ≠ .select cs b) {ρ ρ' : Operand → Value} (h : ∀ x ∈ o.op.operands, ρ x = ρ' x) (nm : Nat) (hp : H) : evNE P nm hp o ρ = evNE P nm hp o ρ' := by
  have hflat : neFlat P o ρ = neFlat P o ρ' := by unfold neFlat; rw [evFlat_congr hs h]
  have opt : ∀ y : Option Operand, (∀ z, y = some z → z ∈ o.op.operands) → y.map ρ = y.map ρ' := by
    intro y hy
    cases y with
    | none => rfl
    | some z => simp [h z (hy z rfl)]
  have arr : ∀ a : Array Operand, (∀ z ∈ a, z ∈ o.op.operands) → a.map ρ = a.map ρ' := fun a ha => Array.map_congr_left fun z hz => h z (ha z hz)
  unfold evNE
  split
  · rename_i x ho; rw [h x (by rw [ho]; simp [Op.operands])]
  · rename_i x ho; rw [h x (by rw [ho]; simp [Op.operands])]
  · rename_i c a b ho; rw [h c (by rw [ho]; simp [Op.operands]), h a (by rw [ho]; simp [Op.operands]), h b (by rw [ho]; simp [Op.operands])]
  · rfl
  · rename_i e x ho; rw [h x (by rw [ho]; simp [Op.operands])]
  · rename_i t q ho
    rw [parts_congr fun p hp => h p.2 (by rw [ho]; simp only [Op.operands, List.mem_toArray, List.mem_map]; exact ⟨p, Array.mem_def.1 hp, rfl⟩)]
  · rename_i t len q ho
    rw [parts_congr fun p hp => h p.2 (by rw [ho]; simp only [Op.operands, List.mem_toArray, List.mem_map]; exact ⟨p, Array.mem_def.1 hp, rfl⟩)]
  · rename_i t x ho; rw [h x (by rw [ho]; simp [Op.operands])]
  · rename_i x ho; rw [h x (by rw [ho]; simp [Op.operands])]
  · rename_i op t x y yt ho
    rw [h x (by rw [ho]; simp [Op.operands]), h y (by rw [ho]; simp [Op.operands])]
    unfold neBin neBin2; rw [hflat]
  · rename_i op t x ho
    rw [h x (by rw [ho]; simp [Op.operands])]
    unfold neUn; rw [hflat]
  · rename_i src dst x ho
    rw [h x (by rw [ho]; simp [Op.operands])]
    unfold neConv; rw [hflat]
  · rename_i arr x ho; rw [h x (by rw [ho]; simp [Op.operands])]
  · rename_i t x ho; rw [h x (by rw [ho]; simp [Op.operands])]
  · rename_i fn a b ho
    rw [arr a (fun z hz => by rw [ho]; simp [Op.operands, hz]), arr b (fun z hz => by rw [ho]; simp [Op.operands, hz])]
  · rename_i t l c ho; rw [h l (by rw [ho]; simp [Op.operands]), h c (by rw [ho]; simp [Op.operands])]
  · rename_i t x lo hi mx ho
    rw [h x (by rw [ho]; simp [Op.operands]), opt lo (by rintro z rfl; rw [ho]; simp [Op.operands]), opt hi (by rintro z rfl; rw [ho]; simp [Op.operands]), opt mx (by rintro z rfl; rw [ho]; simp [Op.operands])]
    unfold neSlice; rw [hflat]
  · rename_i s x j ho; rw [h x (by rw [ho]; simp [Op.operands])]
  · rename_i t x j ho; rw [h x (by rw [ho]; simp [Op.operands])]
  · rename_i t x i ho; rw [h x (by rw [ho]; simp [Op.operands]), h i (by rw [ho]; simp [Op.operands])]
  · rename_i t x i ho
    rw [h x (by rw [ho]; simp [Op.operands]), h i (by rw [ho]; simp [Op.operands])]
    unfold neIndex; rw [hflat]
  · rename_i x i ho; rw [h x (by rw [ho]; simp [Op.operands])]
  · rename_i t x ho; rw [h x (by rw [ho]; simp [Op.operands])]
  · rename_i c ho
    unfold neCall
    have hargs : ∀ x ∈ c.args.toList, ρ x = ρ' x := fun x hx => h x (by rw [ho]; simp [Op.operands, Call.operands, Array.mem_def.2 hx])
    split
    · unfold neLen
      split
      · rename_i x ar t ts ha ht
        rw [hargs x (by rw [ha]; simp), hflat]
      · rfl
    · unfold neCap
      split
      · rename_i x ar t ts ha ht
        rw [hargs x (by rw [ha]; simp), hflat]
      · rfl
    · exact hflat
  · exact hflat

theorem evEff_congr {o : Oper} (hs : ∀ cs b, o.op ≠ .select cs b) {ρ ρ' : Operand → Value} (h : ∀ x ∈ o.op.operands, ρ x = ρ' x) (hp : H) : evEff P ro call hp o ρ = evEff P ro call hp o ρ' := by
  unfold evEff
  split
  · rename_i t a x ho; rw [h a (by rw [ho]; simp [Op.operands]), h x (by rw [ho]; simp [Op.operands])]
  · rename_i it ho; rw [h it (by rw [ho]; simp [Op.operands])]
  · rename_i c ho
    have hargs : c.args.toList.map ρ = c.args.toList.map ρ' := List.map_congr_left fun x hx => h x (by rw [ho]; simp [Op.operands, Call.operands, Array.mem_def.2 hx])
    rw [hargs]
    split
    · rfl
    · rfl
    · rfl
    · rename_i x hc
      rw [h x (by rw [ho]; simp [Op.operands, Call.operands, hc])]
      unfold effCall
      rw [evFlat_congr hs h]
    · rfl
  · rfl

/-- two frames alike in what an operation looks at -/
def Alike (ops : Array Oper) (o : Oper) (fr fr' : T Value) : Prop := ∀ t ∈ o.looksAt ops, opd fr (.tmp t) = opd fr' (.tmp t)

theorem Alike.opds {o : Oper} {fr fr' : T Value} (h : Alike ops o fr fr') : ∀ x ∈ o.op.operands, opd fr x = opd fr' x := by
  intro x hx
  cases x with
  | tmp t =>
    refine h t ?_
    exact List.mem_append_left _ (List.mem_filterMap.2 ⟨.tmp t, by simpa using hx, rfl⟩)
  | const v => rfl
  | global g => rfl
  | func f => rfl

theorem Alike.want {o : Oper} {fr fr' : T Value} (h : Alike ops o fr fr') : wantV ops o fr = wantV ops o fr' := by
  unfold wantV
  split
  · rfl
  · rename_i j w hg
    have : yieldV ops fr j = yieldV ops fr' j := by
      unfold yieldV
      split
      · rename_i t ht
        have hl : t ∈ o.looksAt ops := by
          unfold Oper.looksAt
          rw [hg]
          exact List.mem_append_right _ (by simp [ht])
        rw [h t hl]
      · rfl
    rw [this]

theorem stepVal_congr {o : Oper} (hs : ∀ cs b, o.op ≠ .select cs b) {fr fr' : T Value} (h : Alike ops o fr fr') (nm : Nat) (hp : H) : stepVal P ro call ops nm o fr hp = stepVal P ro call ops nm o fr' hp := by
  unfold stepVal
  rw [h.want, evNE_congr hs h.opds, evEff_congr hs h.opds]

end
end Go.Ev
