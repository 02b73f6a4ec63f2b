/- The abstract interpreter unfolds: 'run' is its own step. -/
import Derived.Test.YtddnmijnpieokaaAbsL
set_option linter.unusedVariables false
set_option linter.unusedSimpArgs false
namespace Go.Ab

variable {P : Program}

theorem cond_bind {A B : Type} (c : Bool) (x y : Option A) (k : A → Option B) : (cond c x y).bind k = cond c (x.bind k) (y.bind k) := by cases c <;> rfl

theorem leafK_nat : ∃ g : Leaf → Option AV → Option AV, ∀ (l : Leaf) (x : Option AV) (R : Type) (k : AV → Option R), leafK l x k = (g l x).bind k := by
  refine ⟨fun l x => leafK l x some, fun l x R k => ?_⟩
  cases l <;> simp [leafK, Option.bind_assoc]

theorem leavesK_nat : ∃ g : (Nat → Option AV) → List Leaf → Nat → Option (List AV), ∀ (get : Nat → Option AV) (ls : List Leaf) (i : Nat) (R : Type) (k : List AV → Option R), leavesK get ls i k = (g get ls i).bind k := by
  obtain ⟨g, e⟩ := leafK_nat
  refine ⟨fun get ls i => leavesK get ls i some, fun get ls => ?_⟩
  induction ls with
  | nil => intro i R k; simp [leavesK]
  | cons l ls ih =>
    intro i R k
    simp only [leavesK, e]
    rw [Option.bind_assoc]
    congr 1
    funext v
    rw [ih (i + 1) _ (fun vs => k (v :: vs)), ih (i + 1) _ (fun vs => some (v :: vs)), Option.bind_assoc]
    rfl

theorem loadK_nat : ∃ g : Program → TypeId → Ref → AH → Option AV, ∀ (P : Program) (t : TypeId) (q : Ref) (h : AH) (R : Type) (k : AV → Option R), loadK P t q h k = (g P t q h).bind k := by
  obtain ⟨g, e⟩ := leafK_nat
  obtain ⟨f, d⟩ := leavesK_nat
  refine ⟨fun P t q h => loadK P t q h some, fun P t q h R k => ?_⟩
  dsimp only
  unfold loadK
  simp only [e, d]
  split
  · rw [cond_bind]
    congr 1
    · split
      · simp [cond_bind, Option.bind_assoc]
      · rfl
    · split
      · simp
      · rfl
  · rfl

theorem seeK_nat : ∃ g : Program → TypeId → AV → Option AV, ∀ (P : Program) (t : TypeId) (v : AV) (R : Type) (k : AV → Option R), seeK P t v k = (g P t v).bind k := by
  obtain ⟨g, e⟩ := leafK_nat
  obtain ⟨f, d⟩ := leavesK_nat
  refine ⟨fun P t v => seeK P t v some, fun P t v R k => ?_⟩
  dsimp only
  unfold seeK
  simp only [e, d]
  split
  · rw [cond_bind]
    congr 1
    · split
      · simp [cond_bind, Option.bind_assoc]
      · rfl
    · split
      · simp
      · rfl
  · rfl

theorem answerK_nat : ∃ g : Program → TypeId → AV → Option AV, ∀ (P : Program) (t : TypeId) (v : AV) (R : Type) (k : AV → Option R), answerK P t v k = (g P t v).bind k := by
  obtain ⟨g, e⟩ := seeK_nat
  refine ⟨fun P t v => answerK P t v some, fun P t v R k => ?_⟩
  dsimp only
  unfold answerK
  simp only [e]
  split
  · split <;> simp [Option.bind_assoc]
  · simp

theorem cellsK_nat : ∃ g : Program → TypeId → AV → Option (List AV), ∀ (P : Program) (t : TypeId) (v : AV) (R : Type) (k : List AV → Option R), cellsK P t v k = (g P t v).bind k := by
  refine ⟨fun P t v => cellsK P t v some, fun P t v R k => ?_⟩
  dsimp only
  unfold cellsK
  split
  · simp [cond_bind, Option.bind_assoc]
  · rfl

theorem intK_nat : ∃ g : BinOp → IntKind → Int → Int → Option AV, ∀ (op : BinOp) (kd : IntKind) (a b : Int) (R : Type) (k : AV → Option R), intK op kd a b k = (g op kd a b).bind k := by
  refine ⟨fun op kd a b => intK op kd a b some, fun op kd a b R k => ?_⟩
  cases op <;> simp [intK, cond_bind]

theorem binK_nat : ∃ g : Program → BinOp → TypeId → AV → AV → Option AV, ∀ (P : Program) (op : BinOp) (t : TypeId) (x y : AV) (R : Type) (k : AV → Option R), binK P op t x y k = (g P op t x y).bind k := by
  obtain ⟨g, e⟩ := intK_nat
  refine ⟨fun P op t x y => binK P op t x y some, fun P op t x y R k => ?_⟩
  dsimp only
  unfold binK
  simp only [e]
  split <;> simp [cond_bind, Option.bind_assoc]

theorem unK_nat : ∃ g : UnOp → AV → Option AV, ∀ (op : UnOp) (x : AV) (R : Type) (k : AV → Option R), unK op x k = (g op x).bind k := by
  refine ⟨fun op x => unK op x some, fun op x R k => ?_⟩
  dsimp only
  unfold unK
  split <;> simp

theorem fillK_nat : ∃ g : Program → (Nat → Option (Nat × TypeId)) → List (Nat × AV) → List AV → Option (List AV), ∀ (P : Program) (place : Nat → Option (Nat × TypeId)) (parts : List (Nat × AV)) (cells : List AV) (R : Type) (k : List AV → Option R), fillK P place parts cells k = (g P place parts cells).bind k := by
  obtain ⟨g, e⟩ := cellsK_nat
  refine ⟨fun P place parts cells => fillK P place parts cells some, fun P place parts => ?_⟩
  induction parts with
  | nil => intro cells R k; simp [fillK]
  | cons p parts ih =>
    intro cells R k
    obtain ⟨i, v⟩ := p
    simp only [fillK, e]
    split
    · rfl
    · rw [Option.bind_assoc]
      congr 1
      funext cs
      rw [cond_bind]
      congr 1
      exact ih _ _ _

theorem boundK_nat : ∃ g : Fr → Option Operand → Int → Option Int, ∀ (fr : Fr) (x : Option Operand) (d : Int) (R : Type) (k : Int → Option R), boundK fr x d k = (g fr x d).bind k := by
  refine ⟨fun fr x d => boundK fr x d some, fun fr x d R k => ?_⟩
  dsimp only
  unfold boundK
  split
  · rfl
  · split <;> simp

theorem sliceK_nat : ∃ g : Program → TypeId → AV → Fr → Option Operand → Option Operand → Option Operand → Option AV, ∀ (P : Program) (t : TypeId) (x : AV) (fr : Fr) (lo hi mx : Option Operand) (R : Type) (k : AV → Option R), sliceK P t x fr lo hi mx k = (g P t x fr lo hi mx).bind k := by
  obtain ⟨g, e⟩ := boundK_nat
  refine ⟨fun P t x fr lo hi mx => sliceK P t x fr lo hi mx some, fun P t x fr lo hi mx R k => ?_⟩
  dsimp only
  unfold sliceK
  simp only [e]
  split
  · split <;> simp [cond_bind, Option.bind_assoc]
  · split <;> simp [cond_bind, Option.bind_assoc]
  · split <;> simp [cond_bind, Option.bind_assoc]
  · rfl

theorem convertK_nat : ∃ g : Program → TypeId → TypeId → AV → Option AV, ∀ (P : Program) (s d : TypeId) (x : AV) (R : Type) (k : AV → Option R), convertK P s d x k = (g P s d x).bind k := by
  refine ⟨fun P s d x => convertK P s d x some, fun P s d x R k => ?_⟩
  dsimp only
  unfold convertK
  split <;> simp

theorem lenK_nat : ∃ g : Program → TypeId → AV → Option AV, ∀ (P : Program) (t : TypeId) (x : AV) (R : Type) (k : AV → Option R), lenK P t x k = (g P t x).bind k := by
  refine ⟨fun P t x => lenK P t x some, fun P t x R k => ?_⟩
  dsimp only
  unfold lenK
  split <;> simp

abbrev pk (v : AV) (h : AH) : Option (AV × AH) := some (v, h)

theorem builtinK_nat : ∃ g : Program → Builtin → List TypeId → List AV → AH → Option (AV × AH), ∀ (P : Program) (b : Builtin) (ts : List TypeId) (xs : List AV) (h : AH) (R : Type) (k : AV → AH → Option R), builtinK P b ts xs h k = (g P b ts xs h).bind fun p => k p.1 p.2 := by
  obtain ⟨g, e⟩ := lenK_nat
  obtain ⟨f, d⟩ := leafK_nat
  refine ⟨fun P b ts xs h => builtinK P b ts xs h pk, fun P b ts xs h R k => ?_⟩
  dsimp only
  unfold builtinK
  simp only [e, d]
  split
  · simp [pk, Option.bind_assoc]
  · simp [pk]
  · simp [pk]
  · split <;> simp [pk, cond_bind, Option.bind_assoc]
  · split <;> simp [pk, cond_bind, Option.bind_assoc]
  · rfl

theorem callK_nat (rec : Rec) : ∃ g : Program → Call → TypeId → Fr → AH → Option (AV × AH), ∀ (P : Program) (c : Call) (ty : TypeId) (fr : Fr) (h : AH) (R : Type) (k : AV → AH → Option R), callK P rec c ty fr h k = (g P c ty fr h).bind fun p => k p.1 p.2 := by
  obtain ⟨g, e⟩ := builtinK_nat
  obtain ⟨f, d⟩ := answerK_nat
  refine ⟨fun P c ty fr h => callK P rec c ty fr h pk, fun P c ty fr h R k => ?_⟩
  dsimp only
  unfold callK
  simp only [e, d]
  split
  · rfl
  · split
    · simp [pk, Option.bind_assoc]
    · split <;> simp [pk, Option.bind_assoc]
    · rfl

theorem opK_nat (rec : Rec) : ∀ (P : Program) (o : Op) (ty : TypeId) (fr : Fr) (h : AH) (R : Type) (k : AV → AH → Option R), opK P rec o ty fr h k = (opK P rec o ty fr h pk).bind fun p => k p.1 p.2 := by
  obtain ⟨g1, e1⟩ := cellsK_nat
  obtain ⟨g2, e2⟩ := fillK_nat
  obtain ⟨g3, e3⟩ := loadK_nat
  obtain ⟨g4, e4⟩ := binK_nat
  obtain ⟨g5, e5⟩ := unK_nat
  obtain ⟨g6, e6⟩ := convertK_nat
  obtain ⟨g7, e7⟩ := sliceK_nat
  obtain ⟨g8, e8⟩ := callK_nat rec
  intro P o ty fr h R k
  cases o <;> simp only [opK, e1, e2, e3, e4, e5, e6, e7, e8] <;> (repeat' split) <;> simp [pk, cond_bind, Option.bind_assoc]


/-! ### What an answer hangs on -/
/-- One question to the interpreter below, and its answer. -/
structure Ask where
  key : Key
  h : AH
  r : AV × AH

def Agree (rec : Rec) (l : List Ask) : Prop := ∀ x ∈ l, rec x.key x.h = some x.r

/-- The answer hangs on finitely many questions. -/
def Hangs {A : Type} (f : Rec → Option A) : Prop := ∀ rec r, f rec = some r → ∃ l, Agree rec l ∧ ∀ rec', Agree rec' l → f rec' = some r

theorem Agree.append {rec : Rec} {l m : List Ask} (h : Agree rec l) (k : Agree rec m) : Agree rec (l ++ m) := fun x hx => by
  rcases List.mem_append.1 hx with hx | hx
  · exact h x hx
  · exact k x hx
theorem Agree.left {rec : Rec} {l m : List Ask} (h : Agree rec (l ++ m)) : Agree rec l := fun x hx => h x (List.mem_append.2 (.inl hx))
theorem Agree.right {rec : Rec} {l m : List Ask} (h : Agree rec (l ++ m)) : Agree rec m := fun x hx => h x (List.mem_append.2 (.inr hx))

theorem Hangs.const {A : Type} (x : Option A) : Hangs (fun _ => x) := fun rec r h => ⟨[], fun _ hx => by simp at hx, fun _ _ => h⟩

theorem Hangs.ask (key : Key) (h : AH) : Hangs (fun rec => rec key h) := fun rec r hr => ⟨[⟨key, h, r⟩], fun x hx => by simp at hx; subst hx; exact hr, fun rec' h' => h' ⟨key, h, r⟩ (by simp)⟩

theorem Hangs.bind {A B : Type} {f : Rec → Option A} {g : Rec → A → Option B} (hf : Hangs f) (hg : ∀ a, Hangs (fun rec => g rec a)) : Hangs (fun rec => (f rec).bind (g rec)) := fun rec r h => by
  rw [Option.bind_eq_some_iff] at h
  obtain ⟨a, ha, hb⟩ := h
  obtain ⟨l, h1, h2⟩ := hf rec a ha
  obtain ⟨m, h3, h4⟩ := hg a rec r hb
  exact ⟨l ++ m, h1.append h3, fun rec' h' => by dsimp only; rw [h2 rec' h'.left]; exact h4 rec' h'.right⟩

theorem Hangs.cond {A : Type} {c : Bool} {f g : Rec → Option A} (hf : Hangs f) (hg : Hangs g) : Hangs (fun rec => cond c (f rec) (g rec)) := by
  cases c
  · exact hg
  · exact hf

theorem Hangs.map {A B : Type} {f : Rec → Option A} (hf : Hangs f) (g : A → B) : Hangs (fun rec => (f rec).map g) := fun rec r h => by
  rw [Option.map_eq_some_iff] at h
  obtain ⟨a, ha, rfl⟩ := h
  obtain ⟨l, h1, h2⟩ := hf rec a ha
  exact ⟨l, h1, fun rec' h' => by dsimp only; rw [h2 rec' h']; rfl⟩

theorem callF_hangs (f : FuncId) (args : List AV) (h : AH) : Hangs (fun rec => callF P rec f args h) := by
  unfold callF
  split
  · refine Hangs.cond (Hangs.const _) ?_
    split
    · exact Hangs.ask _ _
    · exact Hangs.const _
  · exact Hangs.const _

theorem callV_hangs (v : AV) (args : List AV) (h : AH) : Hangs (fun rec => callV P rec v args h) := by
  unfold callV
  split
  · exact callF_hangs _ _ _
  · exact Hangs.const _

theorem callK_hangs (c : Call) (ty : TypeId) (fr : Fr) (h : AH) : Hangs (fun rec => callK P rec c ty fr h pk) := by
  unfold callK
  split
  · exact Hangs.const _
  · split
    · exact Hangs.const _
    · split
      · exact (callV_hangs _ _ _).bind fun q => Hangs.const _
      · exact Hangs.const _
    · exact Hangs.const _

theorem opK_hangs (o : Op) (ty : TypeId) (fr : Fr) (h : AH) : Hangs (fun rec => opK P rec o ty fr h pk) := by
  cases o <;> first
    | exact callK_hangs _ _ _ _
    | exact Hangs.const _

theorem opsK_hangs {N : Nat} {ops : Array Oper} {k : Rec → Fr → AH → Option (AV × AH)} (hk : ∀ fr h, Hangs (fun rec => k rec fr h)) : ∀ (is : List Nat) (fr : Fr) (h : AH), Hangs (fun rec => opsK P rec N ops is fr h (k rec))
  | [], fr, h => hk fr h
  | i :: is, fr, h => by
    have put : ∀ (d : Option Tmp) (v : AV) (fr : Fr) (h : AH), Hangs (fun rec => putT N d v fr fun fr' => opsK P rec N ops is fr' h (k rec)) := by
      intro d v fr h
      unfold putT
      split
      · exact opsK_hangs hk is _ _
      · exact Hangs.cond (opsK_hangs hk is _ _) (Hangs.const _)
    have go : ∀ (o : Oper) (fr : Fr), Hangs (fun rec => opK P rec o.op o.type fr h fun v h' => putT N o.dst v fr fun fr' => opsK P rec N ops is fr' h' (k rec)) := by
      intro o fr
      have : (fun rec => opK P rec o.op o.type fr h fun v h' => putT N o.dst v fr fun fr' => opsK P rec N ops is fr' h' (k rec)) = (fun rec => (opK P rec o.op o.type fr h pk).bind fun p => putT N o.dst p.1 fr fun fr' => opsK P rec N ops is fr' p.2 (k rec)) := by
        funext rec
        exact opK_nat rec P o.op o.type fr h _ _
      rw [this]
      exact (opK_hangs _ _ _ _).bind fun p => put _ _ _ _
    simp only [opsK]
    split
    · exact Hangs.const _
    · rename_i o ho
      split
      · exact go o fr
      · split
        · exact Hangs.const _
        · split
          · exact Hangs.cond (Hangs.cond (go o _) (put _ _ _ _)) (Hangs.cond (put _ _ _ _) (go o _))
          · exact put _ _ _ _
          · exact Hangs.const _

theorem execA_hangs {K : Keep} {f : FuncId} {fn : Func} : ∀ (n : Nat) (fresh : Bool) (todo : List Item) (fr : Fr) (h : AH), Hangs (fun rec => execA P K rec f fn n fresh todo fr h)
  | 0, fresh, todo, fr, h => Hangs.const _
  | n + 1, fresh, todo, fr, h => by
    unfold execA
    have IH := execA_hangs (K := K) (f := f) (fn := fn) n
    split
    · exact Hangs.const _
    · exact Hangs.const _
    · exact IH _ _ _ _
    · exact IH _ _ _ _
    · exact IH _ _ _ _
    · exact IH _ _ _ _
    · exact IH _ _ _ _
    · split
      · exact Hangs.cond (IH _ _ _ _) (IH _ _ _ _)
      · exact Hangs.const _
    · exact IH _ _ _ _
    · exact IH _ _ _ _
    · exact IH _ _ _ _
    · exact IH _ _ _ _
    · split
      · exact IH _ _ _ _
      · exact Hangs.const _
    · split
      · exact IH _ _ _ _
      · exact Hangs.const _
    · refine Hangs.cond ?_ ?_
      · exact Hangs.cond (Hangs.const _) (opsK_hangs (fun fr' h' => IH false _ fr' h') _ _ _)
      · split
        · exact Hangs.ask _ _
        · exact Hangs.cond (Hangs.const _) (opsK_hangs (fun fr' h' => IH false _ fr' h') _ _ _)
    · exact Hangs.const _

theorem stepA_hangs (K : Keep) (key : Key) (h : AH) : Hangs (fun rec => stepA P K rec key h) := by
  unfold stepA
  split
  · split
    · split
      · exact Hangs.cond (execA_hangs _ _ _ _ _) (Hangs.const _)
      · exact Hangs.const _
    · exact Hangs.const _
  · split
    · exact execA_hangs _ _ _ _ _
    · exact Hangs.const _
  · exact Hangs.const _

theorem runF_mono (K : Keep) : ∀ (n : Nat) {key : Key} {h : AH} {r : AV × AH}, runF P K n key h = some r → runF P K (n + 1) key h = some r
  | 0, key, h, r, hr => by simp [runF] at hr
  | n + 1, key, h, r, hr => by
    obtain ⟨l, h1, h2⟩ := stepA_hangs (P := P) K key h (runF P K n) r hr
    exact h2 (runF P K (n + 1)) fun x hx => runF_mono K n (h1 x hx)

theorem runF_le (K : Keep) {n m : Nat} (hle : n ≤ m) {key : Key} {h : AH} {r : AV × AH} (hr : runF P K n key h = some r) : runF P K m key h = some r := by
  induction hle with
  | refl => exact hr
  | step _ ih => exact runF_mono K _ ih

theorem run_of_runF {K : Keep} {n : Nat} {key : Key} {h : AH} {r : AV × AH} (hr : runF P K n key h = some r) : run P K key h = some r := by
  cases hq : run P K key h with
  | none =>
    unfold run at hq
    split at hq
    · cases hq
    · rename_i hno
      exact absurd ⟨n, r, hr⟩ hno
  | some r' =>
    obtain ⟨m, hm⟩ := run_some hq
    have h1 := runF_le K (Nat.le_max_left n m) hr
    have h2 := runF_le K (Nat.le_max_right n m) hm
    rw [h1] at h2
    exact h2.symm

theorem runF_all (K : Keep) : ∀ (l : List Ask), Agree (run P K) l → ∃ n, Agree (runF P K n) l
  | [], _ => ⟨0, fun _ hx => by simp at hx⟩
  | x :: l, h => by
    obtain ⟨n, hn⟩ := runF_all K l fun y hy => h y (by simp [hy])
    obtain ⟨m, hm⟩ := run_some (h x (by simp))
    refine ⟨max n m, fun y hy => ?_⟩
    rcases List.mem_cons.1 hy with rfl | hy
    · exact runF_le K (Nat.le_max_right n m) hm
    · exact runF_le K (Nat.le_max_left n m) (hn y hy)

/-- 'run' is its own step. -/
theorem run_unfold (K : Keep) (key : Key) (h : AH) : run P K key h = stepA P K (run P K) key h := by
  cases hq : stepA P K (run P K) key h with
  | some r =>
    obtain ⟨l, h1, h2⟩ := stepA_hangs (P := P) K key h _ r hq
    obtain ⟨n, hn⟩ := runF_all K l h1
    exact run_of_runF (n := n + 1) (h2 _ hn)
  | none =>
    cases hr : run P K key h with
    | none => rfl
    | some r =>
      obtain ⟨n, hn⟩ := run_some hr
      cases n with
      | zero => simp [runF] at hn
      | succ n =>
        obtain ⟨l, h1, h2⟩ := stepA_hangs (P := P) K key h (runF P K n) r hn
        have := h2 (run P K) fun x hx => run_of_runF (h1 x hx)
        dsimp only at this
        rw [hq] at this
        cases this

end Go.Ab
