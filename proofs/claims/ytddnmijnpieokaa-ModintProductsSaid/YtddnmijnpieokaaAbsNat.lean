/- The abstract interpreter: what comes first does not ask what comes after. -/
import Derived.Test.YtddnmijnpieokaaAbsK
set_option linter.unusedVariables false
set_option linter.unusedSimpArgs false
namespace Go.Ab

variable {P : Program}

theorem cond_bind {A B : Type} (c : Bool) (x y : Option A) (k : A → Option B) : (cond c x y).bind k = cond c (x.bind k) (y.bind k) := by cases c <;> rfl

theorem leafK_nat : ∃ g : Leaf → Option AV → Option AV, ∀ (l : Leaf) (x : Option AV) (R : Type) (k : AV → Option R), leafK l x k = (g l x).bind k := by
  refine ⟨fun l x => leafK l x some, fun l x R k => ?_⟩
  cases l <;> simp [leafK, Option.bind_assoc]

theorem leavesK_nat : ∃ g : (Nat → Option AV) → List Leaf → Nat → Option (List AV), ∀ (get : Nat → Option AV) (ls : List Leaf) (i : Nat) (R : Type) (k : List AV → Option R), leavesK get ls i k = (g get ls i).bind k := by
  obtain ⟨g, e⟩ := leafK_nat
  refine ⟨fun get ls i => leavesK get ls i some, fun get ls => ?_⟩
  induction ls with
  | nil => intro i R k; simp [leavesK]
  | cons l ls ih =>
    intro i R k
    simp only [leavesK, e]
    rw [Option.bind_assoc]
    congr 1
    funext v
    rw [ih (i + 1) _ (fun vs => k (v :: vs)), ih (i + 1) _ (fun vs => some (v :: vs)), Option.bind_assoc]
    rfl

theorem loadK_nat : ∃ g : Program → TypeId → Ref → AH → Option AV, ∀ (P : Program) (t : TypeId) (q : Ref) (h : AH) (R : Type) (k : AV → Option R), loadK P t q h k = (g P t q h).bind k := by
  obtain ⟨g, e⟩ := leafK_nat
  obtain ⟨f, d⟩ := leavesK_nat
  refine ⟨fun P t q h => loadK P t q h some, fun P t q h R k => ?_⟩
  dsimp only
  unfold loadK
  simp only [e, d]
  split
  · rw [cond_bind]
    congr 1
    · split
      · simp [cond_bind, Option.bind_assoc]
      · rfl
    · split
      · simp
      · rfl
  · rfl

theorem seeK_nat : ∃ g : Program → TypeId → AV → Option AV, ∀ (P : Program) (t : TypeId) (v : AV) (R : Type) (k : AV → Option R), seeK P t v k = (g P t v).bind k := by
  obtain ⟨g, e⟩ := leafK_nat
  obtain ⟨f, d⟩ := leavesK_nat
  refine ⟨fun P t v => seeK P t v some, fun P t v R k => ?_⟩
  dsimp only
  unfold seeK
  simp only [e, d]
  split
  · rw [cond_bind]
    congr 1
    · split
      · simp [cond_bind, Option.bind_assoc]
      · rfl
    · split
      · simp
      · rfl
  · rfl

theorem answerK_nat : ∃ g : Program → TypeId → AV → Option AV, ∀ (P : Program) (t : TypeId) (v : AV) (R : Type) (k : AV → Option R), answerK P t v k = (g P t v).bind k := by
  obtain ⟨g, e⟩ := seeK_nat
  refine ⟨fun P t v => answerK P t v some, fun P t v R k => ?_⟩
  dsimp only
  unfold answerK
  simp only [e]
  split
  · split <;> simp [Option.bind_assoc]
  · simp

theorem cellsK_nat : ∃ g : Program → TypeId → AV → Option (List AV), ∀ (P : Program) (t : TypeId) (v : AV) (R : Type) (k : List AV → Option R), cellsK P t v k = (g P t v).bind k := by
  refine ⟨fun P t v => cellsK P t v some, fun P t v R k => ?_⟩
  dsimp only
  unfold cellsK
  split
  · simp [cond_bind, Option.bind_assoc]
  · rfl

theorem intK_nat : ∃ g : BinOp → IntKind → Int → Int → Option AV, ∀ (op : BinOp) (kd : IntKind) (a b : Int) (R : Type) (k : AV → Option R), intK op kd a b k = (g op kd a b).bind k := by
  refine ⟨fun op kd a b => intK op kd a b some, fun op kd a b R k => ?_⟩
  cases op <;> simp [intK, cond_bind]

theorem binK_nat : ∃ g : Program → BinOp → TypeId → AV → AV → Option AV, ∀ (P : Program) (op : BinOp) (t : TypeId) (x y : AV) (R : Type) (k : AV → Option R), binK P op t x y k = (g P op t x y).bind k := by
  obtain ⟨g, e⟩ := intK_nat
  refine ⟨fun P op t x y => binK P op t x y some, fun P op t x y R k => ?_⟩
  dsimp only
  unfold binK
  simp only [e]
  split <;> simp [cond_bind, Option.bind_assoc]

theorem unK_nat : ∃ g : UnOp → AV → Option AV, ∀ (op : UnOp) (x : AV) (R : Type) (k : AV → Option R), unK op x k = (g op x).bind k := by
  refine ⟨fun op x => unK op x some, fun op x R k => ?_⟩
  dsimp only
  unfold unK
  split <;> simp

theorem fillK_nat : ∃ g : Program → (Nat → Option (Nat × TypeId)) → List (Nat × AV) → List AV → Option (List AV), ∀ (P : Program) (place : Nat → Option (Nat × TypeId)) (parts : List (Nat × AV)) (cells : List AV) (R : Type) (k : List AV → Option R), fillK P place parts cells k = (g P place parts cells).bind k := by
  obtain ⟨g, e⟩ := cellsK_nat
  refine ⟨fun P place parts cells => fillK P place parts cells some, fun P place parts => ?_⟩
  induction parts with
  | nil => intro cells R k; simp [fillK]
  | cons p parts ih =>
    intro cells R k
    obtain ⟨i, v⟩ := p
    simp only [fillK, e]
    split
    · rfl
    · rw [Option.bind_assoc]
      congr 1
      funext cs
      rw [cond_bind]
      congr 1
      exact ih _ _ _

theorem boundK_nat : ∃ g : Fr → Option Operand → Int → Option Int, ∀ (fr : Fr) (x : Option Operand) (d : Int) (R : Type) (k : Int → Option R), boundK fr x d k = (g fr x d).bind k := by
  refine ⟨fun fr x d => boundK fr x d some, fun fr x d R k => ?_⟩
  dsimp only
  unfold boundK
  split
  · rfl
  · split <;> simp

theorem sliceK_nat : ∃ g : Program → TypeId → AV → Fr → Option Operand → Option Operand → Option Operand → Option AV, ∀ (P : Program) (t : TypeId) (x : AV) (fr : Fr) (lo hi mx : Option Operand) (R : Type) (k : AV → Option R), sliceK P t x fr lo hi mx k = (g P t x fr lo hi mx).bind k := by
  obtain ⟨g, e⟩ := boundK_nat
  refine ⟨fun P t x fr lo hi mx => sliceK P t x fr lo hi mx some, fun P t x fr lo hi mx R k => ?_⟩
  dsimp only
  unfold sliceK
  simp only [e]
  split
  · split <;> simp [cond_bind, Option.bind_assoc]
  · split <;> simp [cond_bind, Option.bind_assoc]
  · split <;> simp [cond_bind, Option.bind_assoc]
  · rfl

theorem convertK_nat : ∃ g : Program → TypeId → TypeId → AV → Option AV, ∀ (P : Program) (s d : TypeId) (x : AV) (R : Type) (k : AV → Option R), convertK P s d x k = (g P s d x).bind k := by
  refine ⟨fun P s d x => convertK P s d x some, fun P s d x R k => ?_⟩
  dsimp only
  unfold convertK
  split <;> simp

theorem lenK_nat : ∃ g : Program → TypeId → AV → Option AV, ∀ (P : Program) (t : TypeId) (x : AV) (R : Type) (k : AV → Option R), lenK P t x k = (g P t x).bind k := by
  refine ⟨fun P t x => lenK P t x some, fun P t x R k => ?_⟩
  dsimp only
  unfold lenK
  split <;> simp

abbrev pk (v : AV) (h : AH) : Option (AV × AH) := some (v, h)

theorem builtinK_nat : ∃ g : Program → Builtin → List TypeId → List AV → AH → Option (AV × AH), ∀ (P : Program) (b : Builtin) (ts : List TypeId) (xs : List AV) (h : AH) (R : Type) (k : AV → AH → Option R), builtinK P b ts xs h k = (g P b ts xs h).bind fun p => k p.1 p.2 := by
  obtain ⟨g, e⟩ := lenK_nat
  obtain ⟨f, d⟩ := leafK_nat
  refine ⟨fun P b ts xs h => builtinK P b ts xs h pk, fun P b ts xs h R k => ?_⟩
  dsimp only
  unfold builtinK
  simp only [e, d]
  split
  · simp [pk, Option.bind_assoc]
  · simp [pk]
  · simp [pk]
  · split <;> simp [pk, cond_bind, Option.bind_assoc]
  · split <;> simp [pk, cond_bind, Option.bind_assoc]
  · rfl

theorem callK_nat (rec : Rec) : ∃ g : Program → Call → TypeId → Fr → AH → Option (AV × AH), ∀ (P : Program) (c : Call) (ty : TypeId) (fr : Fr) (h : AH) (R : Type) (k : AV → AH → Option R), callK P rec c ty fr h k = (g P c ty fr h).bind fun p => k p.1 p.2 := by
  obtain ⟨g, e⟩ := builtinK_nat
  obtain ⟨f, d⟩ := answerK_nat
  refine ⟨fun P c ty fr h => callK P rec c ty fr h pk, fun P c ty fr h R k => ?_⟩
  dsimp only
  unfold callK
  simp only [e, d]
  split
  · rfl
  · split
    · simp [pk, Option.bind_assoc]
    · split <;> simp [pk, Option.bind_assoc]
    · rfl

theorem opK_nat (rec : Rec) : ∀ (P : Program) (o : Op) (ty : TypeId) (fr : Fr) (h : AH) (R : Type) (k : AV → AH → Option R), opK P rec o ty fr h k = (opK P rec o ty fr h pk).bind fun p => k p.1 p.2 := by
  obtain ⟨g1, e1⟩ := cellsK_nat
  obtain ⟨g2, e2⟩ := fillK_nat
  obtain ⟨g3, e3⟩ := loadK_nat
  obtain ⟨g4, e4⟩ := binK_nat
  obtain ⟨g5, e5⟩ := unK_nat
  obtain ⟨g6, e6⟩ := convertK_nat
  obtain ⟨g7, e7⟩ := sliceK_nat
  obtain ⟨g8, e8⟩ := callK_nat rec
  intro P o ty fr h R k
  cases o <;> simp only [opK, e1, e2, e3, e4, e5, e6, e7, e8] <;> (repeat' split) <;> simp [pk, cond_bind, Option.bind_assoc]


theorem putT_nat {N : Nat} {d : Option Tmp} {v : AV} {fr : Fr} {R : Type} (k : Fr → Option R) : putT N d v fr k = (putT N d v fr some).bind k := by
  unfold putT
  split
  · rfl
  · rw [cond_bind]; rfl

@[reducible] def pf : Fr → AH → Option (Fr × AH) := fun fr h => some (fr, h)

/-- Operations, one after the other. -/
theorem opsK_nat (rec : Rec) {N : Nat} {ops : Array Oper} {R : Type} (k : Fr → AH → Option R) : ∀ (is : List Nat) (fr : Fr) (h : AH), opsK P rec N ops is fr h k = (opsK P rec N ops is fr h pf).bind fun p => k p.1 p.2
  | [], fr, h => rfl
  | i :: is, fr, h => by
    have put : ∀ (d : Option Tmp) (v : AV) (fr : Fr) (h : AH), (putT N d v fr fun fr' => opsK P rec N ops is fr' h k) = (putT N d v fr fun fr' => opsK P rec N ops is fr' h pf).bind fun p => k p.1 p.2 := by
      intro d v fr h
      rw [putT_nat, putT_nat (fun fr' => opsK P rec N ops is fr' h pf), Option.bind_assoc]
      congr 1
      funext fr'
      exact opsK_nat rec k is fr' h
    have go : ∀ (o : Oper) (fr : Fr), (opK P rec o.op o.type fr h fun v h' => putT N o.dst v fr fun fr' => opsK P rec N ops is fr' h' k) = (opK P rec o.op o.type fr h fun v h' => putT N o.dst v fr fun fr' => opsK P rec N ops is fr' h' pf).bind fun p => k p.1 p.2 := by
      intro o fr
      rw [opK_nat, opK_nat (k := fun v h' => putT N o.dst v fr fun fr' => opsK P rec N ops is fr' h' pf), Option.bind_assoc]
      congr 1
      funext q
      exact put _ _ _ _
    simp only [opsK]
    split
    · rfl
    · split
      · exact go _ _
      · split
        · rfl
        · split
          · rw [cond_bind, cond_bind, cond_bind, go, go, put, put]
          · exact put _ _ _ _
          · rfl

end Go.Ab
