/- A region whose order is left open: what one order answers, every order answers. -/
import Derived.Test.YtddnmijnpieokaaAbsNat
set_option linter.unusedVariables false
set_option linter.unusedSimpArgs false
namespace Go.Ab

variable {P : Program}

/-! ### Frames that know the same -/
def Fr.same (fr fr' : Fr) : Prop := ∀ t, fr.get t = fr'.get t

theorem Fr.same.refl (fr : Fr) : fr.same fr := fun _ => rfl
theorem Fr.same.symm {a b : Fr} (h : a.same b) : b.same a := fun t => (h t).symm
theorem Fr.same.trans {a b c : Fr} (h : a.same b) (k : b.same c) : a.same c := fun t => (h t).trans (k t)

@[reducible] def putd (d : Option Tmp) (v : AV) (fr : Fr) : Fr := match d with
  | none => fr
  | some t => (t, v) :: fr

theorem get_cons (s t : Nat) (v : AV) (fr : Fr) : Fr.get ((s, v) :: fr) t = if s = t then some v else fr.get t := by
  simp only [Fr.get]
  by_cases h : s = t
  · subst h; simp
  · rw [if_neg h]
    have : Nat.beq s t = false := by
      cases hb : Nat.beq s t with
      | false => rfl
      | true => exact absurd (Nat.eq_of_beq_eq_true hb) h
    rw [this]; rfl

theorem Fr.same.putd {a b : Fr} (h : a.same b) (d : Option Tmp) (v : AV) : (putd d v a).same (putd d v b) := by
  intro t
  cases d with
  | none => exact h t
  | some s => simp only [Go.Ab.putd, get_cons, h t]

theorem putd_get {d : Option Tmp} {v : AV} {fr : Fr} {t : Tmp} (h : ∀ s, d = some s → s ≠ t) : (putd d v fr).get t = fr.get t := by
  cases d with
  | none => rfl
  | some s => simp only [putd, get_cons, if_neg (h s rfl)]

theorem putd_comm {x y : Option Tmp} {v u : AV} {fr : Fr} (h : ∀ d, x = some d → y ≠ some d) : (putd x v (putd y u fr)).same (putd y u (putd x v fr)) := by
  intro t
  cases x with
  | none => rfl
  | some d =>
    cases y with
    | none => rfl
    | some e =>
      have : d ≠ e := fun he => h d rfl (he ▸ rfl)
      simp only [putd, get_cons]
      by_cases h1 : d = t <;> by_cases h2 : e = t <;> simp [h1, h2]
      exact absurd (h1.trans h2.symm) this

theorem evO_same {a b : Fr} {x : Operand} (h : ∀ t, x = .tmp t → a.get t = b.get t) : evO a x = evO b x := by
  cases x with
  | tmp t => exact h t rfl
  | _ => rfl

theorem evs_same {a b : Fr} : ∀ {xs : List Operand}, (∀ x ∈ xs, evO a x = evO b x) → evs a xs = evs b xs
  | [], _ => rfl
  | x :: xs, h => by simp only [evs, h x (by simp), evs_same (xs := xs) fun y hy => h y (by simp [hy])]

theorem boundK_same {a b : Fr} {R : Type} {x : Option Operand} {d : Int} {k : Int → Option R} (h : ∀ y, x = some y → evO a y = evO b y) : boundK a x d k = boundK b x d k := by
  cases x with
  | none => rfl
  | some y => simp only [boundK, h y rfl]

/-- An operation asks its operands alone. -/
theorem opK_same {rec : Rec} {a b : Fr} {o : Op} {ty : TypeId} {h : AH} {R : Type} {k : AV → AH → Option R} (e : ∀ x ∈ o.operands.toList, evO a x = evO b x) : opK P rec o ty a h k = opK P rec o ty b h k := by
  cases o <;> simp only [Op.operands] at e <;> simp only [opK]
  case build t ps => rw [evs_same (a := a) (b := b) fun x hx => e x (by simpa using hx)]
  case buildSlice t n ps => rw [evs_same (a := a) (b := b) fun x hx => e x (by simpa using hx)]
  case makeFunc f first captured =>
    rw [evs_same (a := a) (b := b) (xs := first.toList) fun x hx => e x (by simp at hx ⊢; exact .inl hx), evs_same (a := a) (b := b) (xs := captured.toList) fun x hx => e x (by simp at hx ⊢; exact .inr hx)]
  case call c =>
    unfold callK
    rw [evs_same (a := a) (b := b) (xs := c.args.toList) fun x hx => e x (by simp only [Call.operands]; simp at hx ⊢; exact .inr hx)]
    cases hc : c.callee with
    | value f => simp only [e f (by simp [Call.operands, hc])]
    | invoke r m => rfl
    | builtin bb => rfl
  case slice t x lo hi mx =>
    rw [e x (by simp)]
    have h1 : ∀ (d : Int) (k : Int → Option R), boundK a lo d k = boundK b lo d k := fun d k => boundK_same fun y hy => e y (by subst hy; simp)
    have h2 : ∀ (d : Int) (k : Int → Option R), boundK a hi d k = boundK b hi d k := fun d k => boundK_same fun y hy => e y (by subst hy; simp)
    have h3 : ∀ (m : Operand), mx = some m → ∀ (d : Int) (k : Int → Option R), boundK a (some m) d k = boundK b (some m) d k := fun m hm d k => boundK_same fun y hy => by cases hy; exact e m (by subst hm; simp)
    cases evO b x with
    | none => rfl
    | some u =>
      simp only [sliceK]
      cases mx with
      | none => simp only [h1, h2]
      | some m => simp only [h1, h2, h3 m rfl]
  all_goals first
    | rfl
    | (simp at e; simp only [e])

/-! ### One operation -/
/-- What the operation at a place yields: its value, or nothing where its guard bars it. -/
noncomputable def valA (P : Program) (rec : Rec) (ops : Array Oper) (o : Oper) (fr : Fr) (h : AH) : Option (AV × AH) :=
  match o.guard with
  | none => opK P rec o.op o.type fr h pk
  | some (j, b) => match ((ops[j]?).bind (·.dst)) with
    | none => none
    | some t => match fr.get t with
      | some (.bool c) => cond (c == b) (opK P rec o.op o.type fr h pk) (some (.tup [], h))
      | some (.tup []) => some (.tup [], h)
      | _ => none

def fitsN (N : Nat) (d : Option Tmp) : Prop := ∀ t, d = some t → Nat.blt t N = true

theorem putT_some' {N : Nat} {d : Option Tmp} {v : AV} {fr : Fr} {R : Type} {k : Fr → Option R} {r : R} : putT N d v fr k = some r ↔ fitsN N d ∧ k (putd d v fr) = some r := by
  unfold putT
  cases d with
  | none => simp [fitsN]
  | some t =>
    simp only [fitsN, Option.some.injEq, forall_eq']
    cases hb : Nat.blt t N <;> simp

theorem same_learn {fr : Fr} {t : Tmp} {v : AV} (h : fr.get t = some v) : Fr.same ((t, v) :: fr) fr := fun s => by
  rw [get_cons]
  split
  · rename_i e; subst e; exact h.symm
  · rfl

/-- The operation's step. -/
noncomputable def step1 (P : Program) (rec : Rec) (N : Nat) (ops : Array Oper) (i : Nat) (fr : Fr) (h : AH) : Option (Fr × AH) := opsK P rec N ops [i] fr h pf

theorem step1_iff {rec : Rec} {N : Nat} {ops : Array Oper} {i : Nat} {o : Oper} (ho : ops[i]? = some o) {fr : Fr} {h : AH} {fr1 : Fr} {h1 : AH} :
    step1 P rec N ops i fr h = some (fr1, h1) → ∃ v, valA P rec ops o fr h = some (v, h1) ∧ fitsN N o.dst ∧ fr1.same (putd o.dst v fr) := by
  intro hs
  simp only [step1, opsK, ho] at hs
  have go : ∀ {fr' : Fr}, fr'.same fr → (opK P rec o.op o.type fr' h fun v h' => putT N o.dst v fr' fun fr'' => pf fr'' h') = some (fr1, h1) → ∃ v, opK P rec o.op o.type fr h pk = some (v, h1) ∧ fitsN N o.dst ∧ fr1.same (putd o.dst v fr) := by
    intro fr' hsame hk
    rw [opK_nat, Option.bind_eq_some_iff] at hk
    obtain ⟨⟨v, h'⟩, e1, e2⟩ := hk
    obtain ⟨e3, e4⟩ := putT_some'.1 e2
    simp only [pf, Option.some.injEq, Prod.mk.injEq] at e4
    obtain ⟨rfl, rfl⟩ := e4
    rw [opK_same (b := fr) fun x _ => evO_same fun t _ => hsame t] at e1
    exact ⟨v, e1, e3, hsame.putd _ _⟩
  have skip : ∀ {fr' : Fr}, fr'.same fr → (putT N o.dst (.tup []) fr' fun fr'' => pf fr'' h) = some (fr1, h1) → h1 = h ∧ fitsN N o.dst ∧ fr1.same (putd o.dst (.tup []) fr) := by
    intro fr' hsame hk
    obtain ⟨e3, e4⟩ := putT_some'.1 hk
    simp only [pf, Option.some.injEq, Prod.mk.injEq] at e4
    obtain ⟨rfl, rfl⟩ := e4
    exact ⟨rfl, e3, hsame.putd _ _⟩
  unfold valA
  split at hs
  · rename_i hg
    rw [hg]
    exact go (Fr.same.refl _) hs
  · rename_i j b hg
    rw [hg]
    split at hs
    · cases hs
    · rename_i t ht
      simp only [ht]
      split at hs
      · rename_i c hc
        simp only [hc]
        cases c <;> cases b <;> simp only [cond_true, cond_false] at hs
        · exact go (same_learn hc) hs
        · obtain ⟨rfl, e1, e2⟩ := skip (same_learn hc) hs
          exact ⟨_, rfl, e1, e2⟩
        · obtain ⟨rfl, e1, e2⟩ := skip (same_learn hc) hs
          exact ⟨_, rfl, e1, e2⟩
        · exact go (same_learn hc) hs
      · rename_i hc
        simp only [hc]
        obtain ⟨rfl, e1, e2⟩ := skip (Fr.same.refl _) hs
        exact ⟨_, rfl, e1, e2⟩
      · cases hs

theorem step1_of {rec : Rec} {N : Nat} {ops : Array Oper} {i : Nat} {o : Oper} (ho : ops[i]? = some o) {fr : Fr} {h : AH} {v : AV} {h1 : AH}
    (hv : valA P rec ops o fr h = some (v, h1)) (hn : fitsN N o.dst) : ∃ fr1, step1 P rec N ops i fr h = some (fr1, h1) ∧ fr1.same (putd o.dst v fr) := by
  simp only [step1, opsK, ho]
  have go : ∀ {fr' : Fr}, fr'.same fr → opK P rec o.op o.type fr h pk = some (v, h1) → ∃ fr1, (opK P rec o.op o.type fr' h fun v h' => putT N o.dst v fr' fun fr'' => pf fr'' h') = some (fr1, h1) ∧ fr1.same (putd o.dst v fr) := by
    intro fr' hsame hk
    refine ⟨putd o.dst v fr', ?_, hsame.putd _ _⟩
    rw [opK_nat, opK_same (b := fr) fun x _ => evO_same fun t _ => hsame t, hk, Option.bind_some]
    exact putT_some'.2 ⟨hn, rfl⟩
  have skip : ∀ {fr' : Fr}, fr'.same fr → ∃ fr1, (putT N o.dst (.tup []) fr' fun fr'' => pf fr'' h) = some (fr1, h) ∧ fr1.same (putd o.dst (.tup []) fr) := fun hsame => ⟨_, putT_some'.2 ⟨hn, rfl⟩, hsame.putd _ _⟩
  unfold valA at hv
  split at hv
  · rename_i hg
    simp only [hg]
    exact go (Fr.same.refl _) hv
  · rename_i j b hg
    simp only [hg]
    split at hv
    · cases hv
    · rename_i t ht
      simp only [ht]
      split at hv
      · rename_i c hc
        simp only [hc]
        cases c <;> cases b <;> simp only [cond_true, cond_false]
        · exact go (same_learn hc) (by simpa using hv)
        · have : AV.tup [] = v ∧ h = h1 := by simpa using hv
          obtain ⟨rfl, rfl⟩ := this
          exact skip (same_learn hc)
        · have : AV.tup [] = v ∧ h = h1 := by simpa using hv
          obtain ⟨rfl, rfl⟩ := this
          exact skip (same_learn hc)
        · exact go (same_learn hc) (by simpa using hv)
      · rename_i hc
        simp only [hc]
        cases hv
        exact skip (Fr.same.refl _)
      · cases hv

/-- It hangs on what it looks at. -/
theorem valA_same {rec : Rec} {ops : Array Oper} {o : Oper} {a b : Fr} {h : AH} (e : ∀ t ∈ o.looksAt ops, a.get t = b.get t) : valA P rec ops o a h = valA P rec ops o b h := by
  have e1 : opK P rec o.op o.type a h pk = opK P rec o.op o.type b h pk := opK_same fun x hx => evO_same fun t ht => e t (by
    subst ht
    exact List.mem_append_left _ (List.mem_filterMap.2 ⟨_, hx, rfl⟩))
  unfold valA
  cases hg : o.guard with
  | none => exact e1
  | some jb =>
    obtain ⟨j, b'⟩ := jb
    dsimp only
    cases ht : (ops[j]?).bind (·.dst) with
    | none => rfl
    | some t =>
      have := e t (by simp [Oper.looksAt, hg, ht])
      simp only [this, e1]

/-- What it reads hangs on what it looks at. -/
theorem looksOf_same {ops : Array Oper} {o : Oper} {a b : Fr} {i : Nat} (e : ∀ t ∈ o.looksAt ops, a.get t = b.get t) : looksOf P i o.op a = looksOf P i o.op b := by
  unfold looksOf
  split
  · rename_i t x hx
    rw [evO_same (a := a) (b := b) fun s hs => e s (by
      subst hs
      exact List.mem_append_left _ (List.mem_filterMap.2 ⟨.tmp s, by rw [hx]; simp [Op.operands], rfl⟩))]
  · rfl

/-! ### Operations that change nothing -/
theorem leavesK_heap {R : Type} {f g : Nat → Option AV} : ∀ {ls : List Leaf} {i : Nat} {k : List AV → Option R}, (∀ j, i ≤ j → j < i + ls.length → f j = g j) → leavesK f ls i k = leavesK g ls i k
  | [], i, k, h => rfl
  | l :: ls, i, k, h => by
    simp only [leavesK]
    rw [h i (Nat.le_refl _) (by simp)]
    congr 1
    funext v
    exact leavesK_heap fun j h1 h2 => h j (by omega) (by simp at h2 ⊢; omega)

theorem loadK_heap {R : Type} {t : TypeId} {r : Ref} {h h' : AH} {k : AV → Option R} {d : TypeDesc} (hd : P.underlying t = some d) (e : SameAt h h' r (cond (isAggD d) (P.cellsOf t) 1)) : loadK P t r h' k = loadK P t r h k := by
  unfold loadK
  simp only [hd]
  cases ha : isAggD d with
  | true =>
    rw [ha] at e
    simp only [cond_true] at e ⊢
    cases hl : leaves P 20 t with
    | none => rfl
    | some ls =>
      dsimp only
      cases hb : Nat.beq ls.length (P.cellsOf t) with
      | false => rfl
      | true =>
        simp only [cond_true]
        have := Nat.eq_of_beq_eq_true hb
        exact leavesK_heap fun j h1 h2 => e j (by omega)
  | false =>
    rw [ha] at e
    simp only [cond_false] at e ⊢
    have := e 0 (by omega)
    rw [Ref.add_zero] at this
    rw [this]

theorem nonEff_opK {rec : Rec} {i : Nat} {o : Op} {ty : TypeId} {fr : Fr} {h : AH} {v : AV} {h1 : AH} (hn : nonEff o = true) (hk : opK P rec o ty fr h pk = some (v, h1)) :
    h1 = h ∧ ∀ h2, (∀ p ∈ looksOf P i o fr, SameAt h h2 p.ref p.size) → opK P rec o ty fr h2 pk = some (v, h2) := by
  obtain ⟨g1, e1⟩ := cellsK_nat
  obtain ⟨g2, e2⟩ := fillK_nat
  obtain ⟨g3, e3⟩ := loadK_nat
  obtain ⟨g4, e4⟩ := binK_nat
  obtain ⟨g5, e5⟩ := unK_nat
  obtain ⟨g6, e6⟩ := convertK_nat
  obtain ⟨g7, e7⟩ := sliceK_nat
  obtain ⟨g8, e8⟩ := lenK_nat
  have key : (∃ x : Option AV, ∀ h, opK P rec o ty fr h pk = x.bind fun v => some (v, h)) → h1 = h ∧ ∀ h2, (∀ p ∈ looksOf P i o fr, SameAt h h2 p.ref p.size) → opK P rec o ty fr h2 pk = some (v, h2) := by
    rintro ⟨x, hx⟩
    rw [hx, Option.bind_eq_some_iff] at hk
    obtain ⟨u, hu, hq⟩ := hk
    simp only [Option.some.injEq, Prod.mk.injEq] at hq
    obtain ⟨rfl, rfl⟩ := hq
    exact ⟨rfl, fun h2 _ => by rw [hx, hu]; rfl⟩
  have key' : (∀ h, opK P rec o ty fr h pk = (opK P rec o ty fr ⟨#[], #[]⟩ (fun v _ => some v) : Option AV).bind fun v => some (v, h)) → h1 = h ∧ ∀ h2, (∀ p ∈ looksOf P i o fr, SameAt h h2 p.ref p.size) → opK P rec o ty fr h2 pk = some (v, h2) := fun hh => key ⟨_, hh⟩
  cases o <;> simp only [nonEff] at hn <;> try (cases hn; done)
  case load t a =>
    simp only [opK] at hk
    split at hk
    · rename_i r hr
      rw [e3, Option.bind_eq_some_iff] at hk
      obtain ⟨u, hu, hq⟩ := hk
      simp only [pk, Option.some.injEq, Prod.mk.injEq] at hq
      obtain ⟨rfl, rfl⟩ := hq
      refine ⟨rfl, fun h2 hs => ?_⟩
      cases hd : P.underlying t with
      | none =>
        have : loadK P t r h some = none := by unfold loadK; rw [hd]
        rw [e3, hu] at this
        cases this
      | some d =>
        have := hs ⟨i, r, cond (isAggD d) (P.cellsOf t) 1⟩ (by simp [looksOf, hr, hd])
        simp only [opK, hr]
        rw [loadK_heap hd this, e3, hu]
        rfl
    · cases hk
    · cases hk
  case call c =>
    split at hn
    · rename_i hc
      refine key' fun h => ?_
      simp only [opK, callK, hc, builtinK]
      repeat' split
      all_goals first | contradiction | simp [e8, pk]
    · rename_i hc
      refine key' fun h => ?_
      simp only [opK, callK, hc, builtinK]
      repeat' split
      all_goals first | contradiction | simp [pk]
    · rename_i hc
      refine key' fun h => ?_
      simp only [opK, callK, hc, builtinK]
      repeat' split
      all_goals first | contradiction | simp [pk]
    · cases hn
  all_goals
    refine key' fun h => ?_
    simp only [opK, e1, e2, e4, e5, e6, e7]
    repeat' split
    all_goals simp [pk, cond_bind, Option.bind_assoc]

theorem nonEff_valA {rec : Rec} {ops : Array Oper} {i : Nat} {o : Oper} {fr : Fr} {h : AH} {v : AV} {h1 : AH} (hn : nonEff o.op = true) (hv : valA P rec ops o fr h = some (v, h1)) :
    h1 = h ∧ ∀ h2, (∀ p ∈ looksOf P i o.op fr, SameAt h h2 p.ref p.size) → valA P rec ops o fr h2 = some (v, h2) := by
  unfold valA at hv ⊢
  split at hv
  · rename_i hg
    try simp only [hg]
    exact nonEff_opK hn hv
  · rename_i j b hg
    try simp only [hg]
    split at hv
    · cases hv
    · rename_i t ht
      try simp only [ht]
      split at hv
      · rename_i c hc
        try simp only [hc]
        cases hcb : (c == b) with
        | true =>
          rw [hcb] at hv
          exact nonEff_opK hn hv
        | false =>
          rw [hcb] at hv
          simp only [cond_false, Option.some.injEq, Prod.mk.injEq] at hv
          exact ⟨hv.2.symm, fun h2 _ => by simp [hv.1]⟩
      · rename_i hc
        simp only [Option.some.injEq, Prod.mk.injEq] at hv
        exact ⟨hv.2.symm, fun h2 _ => by simp [hv.1]⟩
      · cases hv

/-! ### Every order -/
section
variable {rec : Rec} {N : Nat} {ops : Array Oper} {an : Nat → Nat} {k : Fr → AH → Option (AV × AH)} {r : AV × AH}

def chk (m : Nat) (h h' : AH) (ps : List Look) : Prop := ∀ p ∈ ps, m.testBit p.at_ = false → SameAt h h' p.ref p.size

def AnyA (P : Program) (rec : Rec) (N : Nat) (ops : Array Oper) (an : Nat → Nat) (k : Fr → AH → Option (AV × AH)) (r : AV × AH) : Nat → Array Bool → List Look → Fr → AH → Prop
  | 0, l, _, fr, h => Region.ready .any ops l = [] ∧ k fr h = some r
  | n + 1, l, ps, fr, h => (Region.ready .any ops l = [] → k fr h = some r) ∧ ∀ i ∈ Region.ready .any ops l, ∀ o, ops[i]? = some o → ∃ v h1, valA P rec ops o fr h = some (v, h1) ∧ fitsN N o.dst ∧
      (nonEff o.op = false → chk (an i) h h1 ps) ∧ AnyA P rec N ops an k r n (l.setIfInBounds i true) (cond (nonEff o.op) (looksOf P i o.op fr ++ ps) ps) (putd o.dst v fr) h1

theorem AnyA.same (hk : ∀ (a b : Fr) (h : AH), a.same b → k a h = k b h) : ∀ {n : Nat} {l : Array Bool} {ps ps' : List Look} {a b : Fr} {h : AH}, a.same b → (∀ p ∈ ps', p ∈ ps) → AnyA P rec N ops an k r n l ps a h → AnyA P rec N ops an k r n l ps' b h
  | 0, l, ps, ps', a, b, h, e, hp, H => ⟨H.1, by rw [← hk _ _ _ e]; exact H.2⟩
  | n + 1, l, ps, ps', a, b, h, e, hp, H => by
    refine ⟨fun h0 => by rw [← hk _ _ _ e]; exact H.1 h0, fun i hi o ho => ?_⟩
    obtain ⟨v, h1, h2, h3, h4, h5⟩ := H.2 i hi o ho
    refine ⟨v, h1, by rw [← valA_same fun t _ => e t]; exact h2, h3, fun hn p hp' => h4 hn p (hp p hp'), AnyA.same hk (e.putd _ _) ?_ h5⟩
    rw [looksOf_same (ops := ops) (a := b) (b := a) fun t _ => (e t).symm]
    intro p hp'
    cases hq : nonEff o.op with
    | true =>
      simp only [hq, cond_true, List.mem_append] at hp' ⊢
      exact hp'.imp id (hp p)
    | false =>
      simp only [hq, cond_false] at hp' ⊢
      exact hp p hp'

def Closed (ops : Array Oper) (l : Array Bool) : Prop := l.size = ops.size ∧ ∀ (j : Nat) (o : Oper), l.getD j false = true → ops[j]? = some o → ∀ e ∈ o.after, Region.binds .any e = true → l.getD e.on false = true

theorem Closed.set {l : Array Bool} {i : Nat} (hc : Closed ops l) (hi : i ∈ Region.ready .any ops l) : Closed ops (l.setIfInBounds i true) := by
  refine ⟨by simpa using hc.1, ?_⟩
  intro j o hj ho e he hb
  obtain ⟨h0, oi, hoi, hall⟩ := mem_ready.1 hi
  by_cases hij : i = j
  · subst hij
    rw [hoi] at ho
    cases ho
    exact getD_set_true (hall e he hb)
  · rw [getD_set_ne false hij] at hj
    exact getD_set_true (hc.2 j o hj ho e he hb)

theorem chk.mono {m : Nat} {h h' : AH} {ps qs : List Look} (hq : ∀ p ∈ qs, p ∈ ps) (c : chk m h h' ps) : chk m h h' qs := fun p hp => c p (hq p hp)

theorem AnyA.first (hk : ∀ (a b : Fr) (h : AH), a.same b → k a h = k b h) (hanc : ∀ l, Closed ops l → ∀ j ∈ Region.ready .any ops l, ∀ i, (an j).testBit i = true → l.getD i false = true)
    {i : Nat} {oi : Oper} {vi : AV} (hi : ops[i]? = some oi) (hne : nonEff oi.op = true) (hfit : fitsN N oi.dst) :
    ∀ (n : Nat) {l : Array Bool} {ps : List Look} {fr : Fr} {h : AH}, Closed ops l → (∀ j oj, ops[j]? = some oj → j ≠ i → l.getD j true = false → (∀ e ∈ oj.after, Region.binds .any e = true → e.on ≠ i) → oi.apart ops oj = true) →
      i ∈ Region.ready .any ops l → valA P rec ops oi fr h = some (vi, h) → AnyA P rec N ops an k r n (l.setIfInBounds i true) (looksOf P i oi.op fr ++ ps) (putd oi.dst vi fr) h → AnyA P rec N ops an k r (n + 1) l ps fr h
  | 0, l, ps, fr, h, hc, hfree, hr, hv, H => by
    refine ⟨fun h0 => (by rw [h0] at hr; cases hr), fun j hj oj hoj => ?_⟩
    by_cases hji : j = i
    · subst hji
      rw [hi] at hoj
      cases hoj
      exact ⟨vi, h, hv, hfit, (fun hn => by rw [hne] at hn; cases hn), by rw [hne]; exact H⟩
    · have := ready_mono hj hji
      rw [H.1] at this
      cases this
  | n + 1, l, ps, fr, h, hc, hfree, hr, hv, H => by
    refine ⟨fun h0 => (by rw [h0] at hr; cases hr), fun j hj oj hoj => ?_⟩
    by_cases hji : j = i
    · subst hji
      rw [hi] at hoj
      cases hoj
      exact ⟨vi, h, hv, hfit, (fun hn => by rw [hne] at hn; cases hn), by rw [hne]; exact H⟩
    · obtain ⟨vj, h2, e1, e2, e3, e4⟩ := H.2 j (ready_mono hj hji) oj hoj
      obtain ⟨hjun, oj', hoj', hall⟩ := mem_ready.1 hj
      rw [hoj] at hoj'
      cases hoj'
      have hiun := (mem_ready.1 hr).1
      have hnot : ∀ e ∈ oj.after, Region.binds .any e = true → e.on ≠ i := fun e he hb heq => by
        have h1 := hall e he hb
        rw [heq] at h1
        rcases Nat.lt_or_ge i l.size with h' | h'
        · simp [h'] at hiun h1; rw [hiun] at h1; cases h1
        · simp [Array.getElem?_eq_none h'] at h1
      obtain ⟨a1, a2, a3⟩ := Oper.apart_spec (hfree j oj hoj hji hjun hnot)
      -- what j does ahead of i
      have b1 : valA P rec ops oj fr h = some (vj, h2) := by
        rw [← e1]
        exact valA_same fun t ht => (putd_get fun s hs he => a1 s hs (he ▸ ht)).symm
      have anc : (an j).testBit i = false := by
        cases hb : (an j).testBit i with
        | false => rfl
        | true =>
          have := hanc l hc j hj i hb
          rcases Nat.lt_or_ge i l.size with h' | h'
          · simp [h'] at hiun this; rw [hiun] at this; cases this
          · simp [Array.getElem?_eq_none h'] at this
      -- i behind it
      have b2 : valA P rec ops oi (putd oj.dst vj fr) h2 = some (vi, h2) := by
        have : ∀ p ∈ looksOf P i oi.op fr, SameAt h h2 p.ref p.size := by
          intro p hp
          cases hnj : nonEff oj.op with
          | true =>
            have := (nonEff_valA (i := j) hnj b1).1
            subst this
            exact fun _ _ => rfl
          | false =>
            refine e3 hnj p (by simp [hp]) ?_
            have : p.at_ = i := by
              unfold looksOf at hp
              split at hp
              · split at hp
                · split at hp <;> simp at hp; subst hp; rfl
                · simp at hp
              · simp at hp
            rw [this]
            exact anc
        rw [valA_same (b := fr) fun t ht => putd_get fun s hs he => a3 s hs (he ▸ ht)]
        exact (nonEff_valA hne hv).2 h2 this
      refine ⟨vj, h2, b1, e2, fun hnj => (e3 hnj).mono fun p hp => by simp [hp], ?_⟩
      have hfree' : ∀ k' ok, ops[k']? = some ok → k' ≠ i → (l.setIfInBounds j true).getD k' true = false → (∀ e ∈ ok.after, Region.binds .any e = true → e.on ≠ i) → oi.apart ops ok = true := fun k' ok hk' hki hun hno => by
        refine hfree k' ok hk' hki ?_ hno
        by_cases hjk : j = k'
        · subst hjk; exact hjun
        · rw [getD_set_ne true hjk] at hun; exact hun
      refine AnyA.first hk hanc hi hne hfit n (hc.set hj) hfree' (ready_mono hr (Ne.symm hji)) b2 ?_
      rw [Array.setIfInBounds_comm _ _ hji]
      refine AnyA.same hk (putd_comm fun d hd => ?_) (fun p hp => ?_) e4
      · intro hd'
        exact a2 d hd' hd
      · have l1 : looksOf P i oi.op (putd oj.dst vj fr) = looksOf P i oi.op fr := looksOf_same (ops := ops) fun t ht => putd_get fun s hs he => a3 s hs (he ▸ ht)
        have l2 : looksOf P j oj.op (putd oi.dst vi fr) = looksOf P j oj.op fr := looksOf_same (ops := ops) fun t ht => putd_get fun s hs he => a1 s hs (he ▸ ht)
        rw [l1] at hp
        rw [l2]
        cases hq : nonEff oj.op <;> simp only [hq, cond_true, cond_false, List.mem_append] at hp ⊢
        · exact hp
        · rcases hp with hp | hp | hp
          · exact .inr (.inl hp)
          · exact .inl hp
          · exact .inr (.inr hp)


/-! ### Masks -/
def Rel (ops : Array Oper) (l : Array Bool) (m : Nat) : Prop := l.size = ops.size ∧ ∀ j, l.getD j false = m.testBit j

theorem Rel.getD_true {l : Array Bool} {m : Nat} (R : Rel ops l m) {j : Nat} : l.getD j true = false ↔ j < ops.size ∧ m.testBit j = false := by
  rw [← R.2 j]
  rcases Nat.lt_or_ge j l.size with h | h
  · simp [h, show j < ops.size from R.1 ▸ h]
  · simp [Array.getElem?_eq_none h, show ¬ j < ops.size from by have := R.1; omega]

theorem Rel.set {l : Array Bool} {m i : Nat} (R : Rel ops l m) (hi : i < ops.size) : Rel ops (l.setIfInBounds i true) (m ||| 1 <<< i) := by
  refine ⟨by simp [R.1], fun j => ?_⟩
  rw [Nat.testBit_or, ← R.2 j, Nat.one_shiftLeft, Nat.testBit_two_pow]
  by_cases hij : i = j
  · subst hij
    simp [show i < l.size from R.1 ▸ hi]
  · rw [getD_set_ne false hij]
    simp [hij]

theorem depsFold (es : List Edge) : ∀ (m j : Nat), (es.foldl (fun m e => cond (Region.binds .any e) (m ||| 1 <<< e.on) m) m).testBit j = true ↔ m.testBit j = true ∨ ∃ e ∈ es, Region.binds .any e = true ∧ e.on = j := by
  induction es with
  | nil => simp
  | cons e es ih =>
    intro m j
    rw [List.foldl_cons, ih]
    cases hb : Region.binds .any e with
    | false => simp [hb]
    | true =>
      simp only [cond_true, Nat.testBit_or, Nat.one_shiftLeft, Nat.testBit_two_pow, Bool.or_eq_true, decide_eq_true_eq, List.mem_cons, exists_eq_or_imp, hb, true_and]
      constructor
      · rintro ((h | h) | h)
        · exact .inl h
        · exact .inr (.inl h)
        · exact .inr (.inr h)
      · rintro (h | h | h)
        · exact .inl (.inl h)
        · exact .inl (.inr h)
        · exact .inr h

theorem depsOf_bit {o : Oper} {j : Nat} : (depsOf o).testBit j = true ↔ ∃ e ∈ o.after, Region.binds .any e = true ∧ e.on = j := by
  unfold depsOf
  rw [depsFold]
  simp

theorem deps_get (i : Nat) : (ops.toList.map depsOf)[i]? = (ops[i]?).map depsOf := by simp

theorem sub_bits {d m : Nat} : Nat.beq (d &&& m) d = true ↔ ∀ j, d.testBit j = true → m.testBit j = true := by
  constructor
  · intro h j hj
    have := Nat.eq_of_beq_eq_true h
    rw [← this, Nat.testBit_and] at hj
    simp at hj
    exact hj.2
  · intro h
    have : d &&& m = d := Nat.eq_of_testBit_eq fun j => by
      rw [Nat.testBit_and]
      cases hj : d.testBit j with
      | false => rfl
      | true => rw [h j hj]; rfl
    rw [this]
    simp

theorem readyB_iff {l : Array Bool} {m i : Nat} (R : Rel ops l m) : readyB (ops.toList.map depsOf) m i = true ↔ i ∈ Region.ready .any ops l := by
  rw [mem_ready, R.getD_true]
  unfold readyB
  rw [deps_get]
  cases ho : ops[i]? with
  | none => simp
  | some o =>
    have hlt : i < ops.size := (Array.getElem?_eq_some_iff.1 ho).1
    simp only [Option.map_some, Bool.and_eq_true, sub_bits, depsOf_bit, Bool.not_eq_true', hlt, true_and, Option.some.injEq, exists_eq_left']
    constructor
    · rintro ⟨h1, h2⟩
      exact ⟨h2, fun e he hb => by rw [R.2]; exact h1 _ ⟨e, he, hb, rfl⟩⟩
    · rintro ⟨h1, h2⟩
      exact ⟨fun j ⟨e, he, hb, hj⟩ => by rw [← hj, ← R.2]; exact h2 e he hb, h1⟩

theorem orBits_bit {d x : Nat} : ∀ {as : List Nat} {i : Nat}, (orBits d as i).testBit x = true → ∃ j a, as[j]? = some a ∧ d.testBit (i + j) = true ∧ a.testBit x = true
  | [], i, h => by simp [orBits] at h
  | a :: as, i, h => by
    simp only [orBits] at h
    have tail : (orBits d as (i + 1)).testBit x = true → ∃ j b, (a :: as)[j]? = some b ∧ d.testBit (i + j) = true ∧ b.testBit x = true := fun h => by
      obtain ⟨j, b, h1, h2, h3⟩ := orBits_bit h
      exact ⟨j + 1, b, by simpa using h1, by rw [← h2]; congr 1; omega, h3⟩
    cases hb : d.testBit i with
    | false => rw [hb] at h; exact tail h
    | true =>
      rw [hb, cond_true, Nat.testBit_or, Bool.or_eq_true] at h
      rcases h with h | h
      · exact ⟨0, a, rfl, by simpa using hb, h⟩
      · exact tail h

/-- What closes down over its direct grounds closes over all. -/
theorem ancsOf_sub {m : Nat} : ∀ (ds acc : List Nat), (∀ (j a d : Nat), acc[j]? = some a → (ops.toList.map depsOf)[j]? = some d → (∀ x, d.testBit x = true → m.testBit x = true) → ∀ x, a.testBit x = true → m.testBit x = true) →
    (∀ (j d : Nat), m.testBit j = true → (ops.toList.map depsOf)[j]? = some d → ∀ x, d.testBit x = true → m.testBit x = true) →
    (∀ (j d : Nat), ds[j]? = some d → (ops.toList.map depsOf)[acc.length + j]? = some d) → acc.length + ds.length = ops.size →
    ∀ (j a d : Nat), (ancsOf acc ds)[j]? = some a → (ops.toList.map depsOf)[j]? = some d → (∀ x, d.testBit x = true → m.testBit x = true) → ∀ x, a.testBit x = true → m.testBit x = true
  | [], acc, hacc, hc, hd, hl => by simpa [ancsOf] using hacc
  | d0 :: ds, acc, hacc, hc, hd, hl => by
    simp only [ancsOf]
    refine ancsOf_sub ds _ ?_ hc (fun j d hj => ?_) (by simp at hl ⊢; omega)
    · intro j a d hj hdj hsub x hx
      rcases Nat.lt_trichotomy j acc.length with hlt | rfl | hgt
      · rw [List.getElem?_append_left hlt] at hj
        exact hacc j a d hj hdj hsub x hx
      · rw [List.getElem?_append_right (Nat.le_refl _)] at hj
        simp at hj
        have e0 := hd 0 d0 (by simp)
        rw [Nat.add_zero, hdj] at e0
        cases e0
        rw [← hj, Nat.testBit_or, Bool.or_eq_true] at hx
        rcases hx with hx | hx
        · exact hsub x hx
        · obtain ⟨y, b, h1, h2, h3⟩ := orBits_bit hx
          rw [Nat.zero_add] at h2
          have hm := hsub y h2
          have hy : y < acc.length := by
            rcases Nat.lt_or_ge y acc.length with h | h
            · exact h
            · rw [List.getElem?_eq_none h] at h1; cases h1
          have : ∃ dy, (ops.toList.map depsOf)[y]? = some dy := ⟨_, List.getElem?_eq_getElem (by simp at hl ⊢; omega)⟩
          obtain ⟨dy, hdy⟩ := this
          exact hacc y b dy h1 hdy (hc y dy hm hdy) x h3
      · rw [List.getElem?_eq_none (by simp; omega)] at hj
        cases hj
    · have := hd (j + 1) d (by simpa using hj)
      rw [← this]
      congr 1
      simp
      omega

theorem Rel.closed {l : Array Bool} {m : Nat} (R : Rel ops l m) (hc : Closed ops l) : ∀ j d, m.testBit j = true → (ops.toList.map depsOf)[j]? = some d → ∀ x, d.testBit x = true → m.testBit x = true := by
  intro j d hj hd x hx
  rw [deps_get] at hd
  cases ho : ops[j]? with
  | none => rw [ho] at hd; cases hd
  | some o =>
    rw [ho] at hd
    simp only [Option.map_some, Option.some.injEq] at hd
    subst hd
    obtain ⟨e, he, hb, rfl⟩ := depsOf_bit.1 hx
    rw [← R.2]
    exact hc.2 j o (by rw [R.2]; exact hj) ho e he hb

/-- The masks of a list of flags. -/
def maskOf (l : List Bool) : Nat := match l with
  | [] => 0
  | b :: bs => cond b 1 0 + 2 * maskOf bs

theorem maskOf_bit : ∀ (l : List Bool) (j : Nat), (maskOf l).testBit j = (l[j]?).getD false
  | [], j => by simp [maskOf]
  | b :: bs, 0 => by
    simp only [maskOf, Nat.testBit_zero]
    cases b <;> simp <;> omega
  | b :: bs, j + 1 => by
    simp only [maskOf, Nat.testBit_succ]
    have : (cond b 1 0 + 2 * maskOf bs) / 2 = maskOf bs := by cases b <;> simp <;> omega
    rw [this, maskOf_bit bs j]
    simp

theorem rel_mask {l : Array Bool} (hl : l.size = ops.size) : Rel ops l (maskOf l.toList) := ⟨hl, fun j => by rw [maskOf_bit]; simp⟩

theorem anc_ok : ∀ l, Closed ops l → ∀ j ∈ Region.ready .any ops l, ∀ i, (((ancsOf [] (ops.toList.map depsOf))[j]?).getD 0).testBit i = true → l.getD i false = true := by
  intro l hc j hj i hb
  have R := rel_mask hc.1
  cases ha : (ancsOf [] (ops.toList.map depsOf))[j]? with
  | none => rw [ha] at hb; simp at hb
  | some a =>
    rw [ha, Option.getD_some] at hb
    obtain ⟨h0, o, ho, hall⟩ := mem_ready.1 hj
    rw [R.2]
    refine ancsOf_sub (m := maskOf l.toList) (ops.toList.map depsOf) [] (fun j a d hj => by simp at hj) (R.closed hc) (fun j d hj => by simpa using hj) (by simp) j a (depsOf o) ha (by rw [deps_get, ho]; rfl) ?_ i hb
    intro x hx
    obtain ⟨e, he, hbd, rfl⟩ := depsOf_bit.1 hx
    rw [← R.2]
    exact hall e he hbd


/-! ### From the order that is gone through to all -/
theorem checkP_some {m : Nat} {h h' : AH} {R : Type} {x : Option R} {res : R} : ∀ {ps : List Look}, checkP m h h' x ps = some res → chk m h h' ps ∧ x = some res
  | [], hk => ⟨fun p hp => by simp at hp, hk⟩
  | p :: ps, hk => by
    simp only [checkP] at hk
    cases hb : m.testBit p.at_ with
    | true =>
      rw [hb] at hk
      obtain ⟨h1, h2⟩ := checkP_some hk
      refine ⟨fun q hq hq' => ?_, h2⟩
      rcases List.mem_cons.1 hq with rfl | hq
      · rw [hb] at hq'; cases hq'
      · exact h1 q hq hq'
    | false =>
      rw [hb] at hk
      simp only [cond_false, whenK] at hk
      split at hk
      · rename_i hs
        obtain ⟨h1, h2⟩ := checkP_some hk
        refine ⟨fun q hq hq' => ?_, h2⟩
        rcases List.mem_cons.1 hq with rfl | hq
        · exact hs
        · exact h1 q hq hq'
      · cases hk

theorem step1_bind {R : Type} {i : Nat} {fr : Fr} {h : AH} {k' : Fr → AH → Option R} {res : R} (hk : opsK P rec N ops [i] fr h k' = some res) : ∃ fr1 h1, step1 P rec N ops i fr h = some (fr1, h1) ∧ k' fr1 h1 = some res := by
  rw [opsK_nat, Option.bind_eq_some_iff] at hk
  obtain ⟨⟨fr1, h1⟩, e1, e2⟩ := hk
  exact ⟨fr1, h1, e1, e2⟩

@[reducible] def anOf (ops : Array Oper) : Nat → Nat := fun j => ((ancsOf [] (ops.toList.map depsOf))[j]?).getD 0

theorem opsD_any (hk : ∀ (a b : Fr) (h : AH), a.same b → k a h = k b h) : ∀ (c : List Nat) {l : Array Bool} {m : Nat} {ps : List Look} {fr : Fr} {h : AH}, Rel ops l m → Closed ops l →
    opsD P rec N ops (ops.toList.map depsOf) (ancsOf [] (ops.toList.map depsOf)) c m ps fr h k = some r → AnyA P rec N ops (anOf ops) k r c.length l ps fr h
  | [], l, m, ps, fr, h, R, hc, hd => by
    simp only [opsD] at hd
    cases hb : Nat.beq m (2 ^ ops.size - 1) with
    | false => rw [hb] at hd; cases hd
    | true =>
      rw [hb] at hd
      have hm := Nat.eq_of_beq_eq_true hb
      refine ⟨?_, hd⟩
      cases hr : Region.ready .any ops l with
      | nil => rfl
      | cons j js =>
        have hj : j ∈ Region.ready .any ops l := by rw [hr]; simp
        obtain ⟨h0, -⟩ := mem_ready.1 hj
        obtain ⟨h1, h2⟩ := R.getD_true.1 h0
        rw [hm, Nat.testBit_two_pow_sub_one] at h2
        simp [h1] at h2
  | i :: c, l, m, ps, fr, h, R, hc, hd => by
    simp only [opsD] at hd
    split at hd
    · rename_i o an ho han
      have hlt : i < ops.size := (Array.getElem?_eq_some_iff.1 ho).1
      cases hb : readyB (ops.toList.map depsOf) m i with
      | false => rw [hb] at hd; cases hd
      | true =>
        rw [hb, cond_true] at hd
        have hi := (readyB_iff R).1 hb
        cases hne : nonEff o.op with
        | true =>
          rw [hne, cond_true] at hd
          cases hf : freeB ops (ops.toList.map depsOf) m i o with
          | false => rw [hf] at hd; cases hd
          | true =>
            rw [hf, cond_true] at hd
            obtain ⟨fr1, h1, e1, e2⟩ := step1_bind hd
            obtain ⟨v, e3, e4, e5⟩ := step1_iff ho e1
            obtain ⟨rfl, -⟩ := nonEff_valA (i := i) hne e3
            have IH := opsD_any hk c (R.set hlt) (hc.set hi) e2
            refine AnyA.first hk anc_ok ho hne e4 c.length hc ?_ hi e3 (IH.same hk e5 fun p hp => hp)
            intro j oj hj hji hun hno
            have hjl : j < ops.size := (Array.getElem?_eq_some_iff.1 hj).1
            have := List.all_eq_true.1 hf j (List.mem_range.2 hjl)
            rw [deps_get, hj] at this
            simp only [Option.map_some, Bool.or_eq_true] at this
            rcases this with ((h1 | h1) | h1) | h1
            · exact absurd (Nat.eq_of_beq_eq_true h1) hji
            · rw [(R.getD_true.1 hun).2] at h1; cases h1
            · obtain ⟨e, he, hbd, hon⟩ := depsOf_bit.1 h1
              exact absurd hon (hno e he hbd)
            · exact h1
        | false =>
          rw [hne, cond_false] at hd
          cases hf : onlyB ops.size (ops.toList.map depsOf) m i with
          | false => rw [hf] at hd; cases hd
          | true =>
            rw [hf, cond_true] at hd
            obtain ⟨fr1, h1, e1, e2⟩ := step1_bind hd
            obtain ⟨v, e3, e4, e5⟩ := step1_iff ho e1
            obtain ⟨e6, e7⟩ := checkP_some e2
            have IH := opsD_any hk c (R.set hlt) (hc.set hi) e7
            refine ⟨fun h0 => (by rw [h0] at hi; cases hi), fun j hj oj hoj => ?_⟩
            have hji : j = i := by
              have hjl : j < ops.size := (Array.getElem?_eq_some_iff.1 hoj).1
              have := List.all_eq_true.1 hf j (List.mem_range.2 hjl)
              simp only [Bool.or_eq_true] at this
              rcases this with h1 | h1
              · exact Nat.eq_of_beq_eq_true h1
              · rw [(readyB_iff R).2 hj] at h1; cases h1
            subst hji
            rw [ho] at hoj
            cases hoj
            refine ⟨v, h1, e3, e4, fun _ => by rw [anOf, han]; exact e6, ?_⟩
            rw [hne]
            exact IH.same hk e5 fun p hp => hp
    · cases hd

theorem drawK_any (hk : ∀ (a b : Fr) (h : AH), a.same b → k a h = k b h) {order : List Nat} {fr : Fr} {h : AH} (hd : drawK P rec N ops order fr h k = some r) :
    AnyA P rec N ops (anOf ops) k r ops.size (Array.replicate ops.size false) [] fr h := by
  unfold drawK at hd
  cases hb : Nat.beq order.length ops.size with
  | false => rw [hb] at hd; cases hd
  | true =>
    rw [hb, cond_true] at hd
    have := opsD_any (l := Array.replicate ops.size false) hk order ⟨by simp, fun j => by simp [Array.getElem?_replicate]; split <;> rfl⟩ ⟨by simp, fun j o hj => by
      rw [Array.getD_eq_getD_getElem?, Array.getElem?_replicate] at hj
      split at hj <;> simp at hj⟩ hd
    rw [Nat.eq_of_beq_eq_true hb] at this
    exact this

end

/-! ### The machine -/
section
variable {O : World}

theorem AnyA.sound {rec : Rec} (hrec : RecOk P O rec) {N : Nat} {ops : Array Oper} {an : Nat → Nat} {k : Fr → AH → Option (AV × AH)} {r : AV × AH} {μ0 : Mu} {h0 : AH} {w0 : World} : ∀ (n : Nat) {l : Array Bool} {ps : List Look} {fr : Fr} {h : AH} {μ : Mu} {w : World} {a : Act},
    AnyA P rec N ops an k r n l ps fr h → Sim P O μ h w → FRel μ N fr a.tmps → Ext μ0 h0 w0 μ h → Frm μ0 h0 w0 w → wpAny P .any ops (After P O μ0 N h0 w0 a.defers k r) n l a w
  | 0, l, ps, fr, h, μ, w, a, H, S, F, E, M => ⟨H.1, rfl, rfl, fr, h, μ, H.2, S, F, E, M⟩
  | n + 1, l, ps, fr, h, μ, w, a, H, S, F, E, M => by
    refine ⟨fun hr => ⟨rfl, rfl, fr, h, μ, H.1 hr, S, F, E, M⟩, fun i hi => ?_⟩
    obtain ⟨-, o, ho, -⟩ := mem_ready.1 hi
    obtain ⟨v, h1, e1, e2, -, e3⟩ := H.2 i hi o ho
    unfold wpOp
    simp only [ho]
    have put : ∀ {ν : Mu} {u : Value} {h1 : AH} {w1 : World}, FRel ν N fr a.tmps → VRel ν v u → Sim P O ν h1 w1 → Ext μ0 h0 w0 ν h1 → Frm μ0 h0 w0 w1 → AnyA P rec N ops an k r n (l.setIfInBounds i true) (cond (nonEff o.op) (looksOf P i o.op fr ++ ps) ps) (putd o.dst v fr) h1 →
        wpAny P .any ops (After P O μ0 N h0 w0 a.defers k r) n (l.setIfInBounds i true) (a.put o.dst u) w1 := by
      intro ν u h1 w1 F' hv S' E' M' H'
      have F2 : FRel ν N (putd o.dst v fr) (a.put o.dst u).tmps := by
        cases hd : o.dst with
        | none => exact F'
        | some t =>
          have := e2 t hd
          exact F'.put (by simpa [Nat.blt_eq] using this) hv
      have := AnyA.sound hrec n (a := a.put o.dst u) H' S' F2 E' M'
      rw [Go.Ab.put_defers] at this
      exact this
    have go : opK P rec o.op o.type fr h pk = some (v, h1) → Region.wanted o (yielded ops a.tmps) = true →
        (if Region.wanted o (yielded ops a.tmps) = true then o.wp P a w (wpAny P .any ops (After P O μ0 N h0 w0 a.defers k r) n (l.setIfInBounds i true)) (After P O μ0 N h0 w0 a.defers k r) ∨ (o.asks P a w ∧ LetsOut (After P O μ0 N h0 w0 a.defers k r)) else wpAny P .any ops (After P O μ0 N h0 w0 a.defers k r) n (l.setIfInBounds i true) (a.put o.dst undef) w) := by
      intro hop hw
      rw [if_pos hw]
      left
      obtain ⟨v', h1', hk1, hgo⟩ := opAny_sound hrec S F hop
      simp only [pk, Option.some.injEq, Prod.mk.injEq] at hk1
      obtain ⟨rfl, rfl⟩ := hk1
      refine hgo _ _ fun u w' ⟨ν, g1, g2, g3, g4⟩ => ?_
      exact put (F.mono g3.2.1) g1 g2 (E.trans g3 M.1) (M.trans E g4) e3
    have skip : v = .tup [] → h1 = h → Region.wanted o (yielded ops a.tmps) = false →
        (if Region.wanted o (yielded ops a.tmps) = true then o.wp P a w (wpAny P .any ops (After P O μ0 N h0 w0 a.defers k r) n (l.setIfInBounds i true)) (After P O μ0 N h0 w0 a.defers k r) ∨ (o.asks P a w ∧ LetsOut (After P O μ0 N h0 w0 a.defers k r)) else wpAny P .any ops (After P O μ0 N h0 w0 a.defers k r) n (l.setIfInBounds i true) (a.put o.dst undef) w) := by
      rintro rfl rfl hw
      rw [if_neg (by rw [hw]; simp)]
      exact put (u := undef) F (by simp [VRel, undef, VRels]) S E M e3
    unfold valA at e1
    split at e1
    · rename_i hg
      exact go e1 (by simp [Region.wanted, hg])
    · rename_i j b hg
      split at e1
      · cases e1
      · rename_i t ht
        split at e1
        · rename_i c hget
          obtain ⟨u, hu, hvu⟩ := F.get t _ hget
          simp only [VRel] at hvu
          subst hvu
          have hy : yielded ops a.tmps j = some c := by simp [yielded, ht, hu]
          have hwant : Region.wanted o (yielded ops a.tmps) = (c == b) := by simp [Region.wanted, hg, hy]
          cases hcb : (c == b) with
          | true => rw [hcb] at e1; exact go e1 (hwant.trans hcb)
          | false =>
            rw [hcb] at e1
            simp only [cond_false, Option.some.injEq, Prod.mk.injEq] at e1
            exact skip e1.1.symm e1.2.symm (hwant.trans hcb)
        · rename_i hget
          obtain ⟨u, hu, hvu⟩ := F.get t _ hget
          simp only [VRel] at hvu
          obtain ⟨us, rfl, _⟩ := hvu
          have hy : yielded ops a.tmps j = none := by simp [yielded, ht, hu]
          simp only [Option.some.injEq, Prod.mk.injEq] at e1
          exact skip e1.1.symm e1.2.symm (by simp [Region.wanted, hg, hy])
        · cases e1

theorem drawK_sound (hm : P.follows .mixedOrders = true) {rec : Rec} (hrec : RecOk P O rec) {id N : Nat} {ops : Array Oper} {order : List Nat} {fr : Fr} {h : AH} {k : Fr → AH → Option (AV × AH)} {r : AV × AH} (hk : ∀ (a b : Fr) (h : AH), a.same b → k a h = k b h)
    (hd : drawK P rec N ops order fr h k = some r) {μ : Mu} {w : World} {a : Act} (S : Sim P O μ h w) (F : FRel μ N fr a.tmps) : (Code.region id ops true).wp P (After P O μ N h w a.defers k r) a w :=
  wp_region_any hm ((drawK_any hk hd).sound hrec _ (S.drew) F (Ext.refl _ _ _) ⟨Nat.le_refl _, fun _ _ _ => rfl⟩)

end

/-! ### What comes behind asks what is known alone -/
theorem opsK_same {rec : Rec} {N : Nat} {ops : Array Oper} {R : Type} {k : Fr → AH → Option R} (hk : ∀ (a b : Fr) (h : AH), a.same b → k a h = k b h) : ∀ (is : List Nat) {a b : Fr} {h : AH}, a.same b → opsK P rec N ops is a h k = opsK P rec N ops is b h k
  | [], a, b, h, e => hk a b h e
  | i :: is, a, b, h, e => by
    have put : ∀ (d : Option Tmp) (v : AV) {a b : Fr} (h : AH), a.same b → (putT N d v a fun fr' => opsK P rec N ops is fr' h k) = putT N d v b fun fr' => opsK P rec N ops is fr' h k := by
      intro d v a b h e
      unfold putT
      cases d with
      | none => exact opsK_same hk is e
      | some t => dsimp only; rw [opsK_same hk is (e.putd (some t) v)]
    have go : ∀ (o : Oper) {a b : Fr}, a.same b → (opK P rec o.op o.type a h fun v h' => putT N o.dst v a fun fr' => opsK P rec N ops is fr' h' k) = opK P rec o.op o.type b h fun v h' => putT N o.dst v b fun fr' => opsK P rec N ops is fr' h' k := by
      intro o a b e
      rw [opK_same (b := b) fun x _ => evO_same fun t _ => e t]
      congr 1
      funext v h'
      exact put _ _ _ e
    have learn : ∀ (t : Tmp) (v : AV), Fr.same ((t, v) :: a) ((t, v) :: b) := fun t v => e.putd (some t) v
    simp only [opsK]
    cases ho : ops[i]? with
    | none => rfl
    | some o =>
      dsimp only
      cases hg : o.guard with
      | none => exact go o e
      | some jb =>
        obtain ⟨j, b'⟩ := jb
        dsimp only
        cases ht : (ops[j]?).bind (·.dst) with
        | none => rfl
        | some t =>
          dsimp only
          rw [e t, go o (learn t (.bool true)), go o (learn t (.bool false)), put o.dst (.tup []) h (learn t (.bool true)), put o.dst (.tup []) h (learn t (.bool false)), put o.dst (.tup []) h e]

theorem opsD_same {rec : Rec} {N : Nat} {ops : Array Oper} {deps ancs : List Nat} {R : Type} {k : Fr → AH → Option R} (hk : ∀ (a b : Fr) (h : AH), a.same b → k a h = k b h) : ∀ (c : List Nat) {m : Nat} {ps : List Look} {a b : Fr} {h : AH}, a.same b → opsD P rec N ops deps ancs c m ps a h k = opsD P rec N ops deps ancs c m ps b h k
  | [], m, ps, a, b, h, e => by simp only [opsD, hk a b h e]
  | i :: c, m, ps, a, b, h, e => by
    simp only [opsD]
    split
    · rename_i o an ho han
      have l : looksOf P i o.op a = looksOf P i o.op b := looksOf_same (ops := ops) fun t _ => e t
      rw [l]
      rw [opsK_same (b := b) (k := fun fr' h' => opsD P rec N ops deps ancs c (m ||| 1 <<< i) (looksOf P i o.op b ++ ps) fr' h' k) (fun a b h e => opsD_same hk c e) [i] e]
      rw [opsK_same (b := b) (k := fun fr' h' => checkP an h h' (opsD P rec N ops deps ancs c (m ||| 1 <<< i) ps fr' h' k) ps) (fun a b h' e => by rw [opsD_same hk c e]) [i] e]
    · rfl

theorem keep_same {a b : Fr} (e : a.same b) : ∀ (L : List Nat), a.keep L = b.keep L
  | [] => rfl
  | t :: L => by simp only [Fr.keep, e t, keep_same e L]

theorem resK_same {a b : Fr} {h : AH} (e : a.same b) : ∀ (rs : List ResultVar) (k : List AV → Option (AV × AH)), resK P a h rs k = resK P b h rs k
  | [], k => rfl
  | .tmp t :: rs, k => by simp only [resK, e t, resK_same e rs]
  | .cell x t :: rs, k => by simp only [resK, e x, resK_same e rs]

theorem learn_same {a b : Fr} (e : a.same b) (c : Operand) (t : Bool) : (learn c t a).same (learn c t b) := by
  cases c with
  | tmp s => exact e.putd (some s) _
  | _ => exact e

theorem execA_same {K : Keep} {rec : Rec} {f : FuncId} {fn : Func} : ∀ (n : Nat) {fresh : Bool} {todo : List Item} (a b : Fr) (h : AH), a.same b → execA P K rec f fn n fresh todo a h = execA P K rec f fn n fresh todo b h
  | 0, fresh, todo, a, b, h, e => rfl
  | n + 1, fresh, todo, a, b, h, e => by
    have IH := fun {fresh : Bool} {todo : List Item} => execA_same (K := K) (rec := rec) (f := f) (fn := fn) n (fresh := fresh) (todo := todo) a b h e
    have res : resultsA P fn a h = resultsA P fn b h := resK_same e _ _
    unfold execA
    have ops : ∀ (ops : Array Oper) (is : List Nat) (k : List Item), (opsK P rec fn.ntmps ops is a h fun fr' h' => execA P K rec f fn n false k fr' h') = opsK P rec fn.ntmps ops is b h fun fr' h' => execA P K rec f fn n false k fr' h' := fun ops is k => opsK_same (fun x y h e => execA_same n x y h e) is e
    have drs : ∀ (ops : Array Oper) (is : List Nat) (k : List Item), (drawK P rec fn.ntmps ops is a h fun fr' h' => execA P K rec f fn n false k fr' h') = drawK P rec fn.ntmps ops is b h fun fr' h' => execA P K rec f fn n false k fr' h' := fun ops is k => by
      unfold drawK
      rw [opsD_same (fun x y h e => execA_same n x y h e) is e]
    split
    all_goals first
      | exact res
      | exact IH
      | skip
    · rename_i c x y k
      rw [evO_same (a := a) (b := b) fun t _ => e t]
      split
      · rw [execA_same n _ _ h (learn_same e c true), execA_same n _ _ h (learn_same e c false)]
      · rfl
    · split
      · exact IH
      · rfl
    · split
      · exact IH
      · rfl
    · rename_i id ops' draw k
      rw [ops, drs]
      simp only [keep_same e]
    · rfl

end Go.Ab
