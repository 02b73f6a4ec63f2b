/- The abstract interpreter unfolds: 'run' is its own step. -/
import Derived.Test.YtddnmijnpieokaaAbsL
set_option linter.unusedVariables false
set_option linter.unusedSimpArgs false
namespace Go.Ab

variable {P : Program}

/-! ### What an answer hangs on -/
/-- One question to the interpreter below, and its answer. -/
structure Ask where
  key : Key
  h : AH
  r : AV × AH

def Agree (rec : Rec) (l : List Ask) : Prop := ∀ x ∈ l, rec x.key x.h = some x.r

/-- The answer hangs on finitely many questions. -/
def Hangs {A : Type} (f : Rec → Option A) : Prop := ∀ rec r, f rec = some r → ∃ l, Agree rec l ∧ ∀ rec', Agree rec' l → f rec' = some r

theorem Agree.append {rec : Rec} {l m : List Ask} (h : Agree rec l) (k : Agree rec m) : Agree rec (l ++ m) := fun x hx => by
  rcases List.mem_append.1 hx with hx | hx
  · exact h x hx
  · exact k x hx
theorem Agree.left {rec : Rec} {l m : List Ask} (h : Agree rec (l ++ m)) : Agree rec l := fun x hx => h x (List.mem_append.2 (.inl hx))
theorem Agree.right {rec : Rec} {l m : List Ask} (h : Agree rec (l ++ m)) : Agree rec m := fun x hx => h x (List.mem_append.2 (.inr hx))

theorem Hangs.const {A : Type} (x : Option A) : Hangs (fun _ => x) := fun rec r h => ⟨[], fun _ hx => by simp at hx, fun _ _ => h⟩

theorem Hangs.ask (key : Key) (h : AH) : Hangs (fun rec => rec key h) := fun rec r hr => ⟨[⟨key, h, r⟩], fun x hx => by simp at hx; subst hx; exact hr, fun rec' h' => h' ⟨key, h, r⟩ (by simp)⟩

theorem Hangs.bind {A B : Type} {f : Rec → Option A} {g : Rec → A → Option B} (hf : Hangs f) (hg : ∀ a, Hangs (fun rec => g rec a)) : Hangs (fun rec => (f rec).bind (g rec)) := fun rec r h => by
  rw [Option.bind_eq_some_iff] at h
  obtain ⟨a, ha, hb⟩ := h
  obtain ⟨l, h1, h2⟩ := hf rec a ha
  obtain ⟨m, h3, h4⟩ := hg a rec r hb
  exact ⟨l ++ m, h1.append h3, fun rec' h' => by dsimp only; rw [h2 rec' h'.left]; exact h4 rec' h'.right⟩

theorem Hangs.cond {A : Type} {c : Bool} {f g : Rec → Option A} (hf : Hangs f) (hg : Hangs g) : Hangs (fun rec => cond c (f rec) (g rec)) := by
  cases c
  · exact hg
  · exact hf

theorem Hangs.map {A B : Type} {f : Rec → Option A} (hf : Hangs f) (g : A → B) : Hangs (fun rec => (f rec).map g) := fun rec r h => by
  rw [Option.map_eq_some_iff] at h
  obtain ⟨a, ha, rfl⟩ := h
  obtain ⟨l, h1, h2⟩ := hf rec a ha
  exact ⟨l, h1, fun rec' h' => by dsimp only; rw [h2 rec' h']; rfl⟩

theorem callF_hangs (f : FuncId) (args : List AV) (h : AH) : Hangs (fun rec => callF P rec f args h) := by
  unfold callF
  split
  · refine Hangs.cond (Hangs.const _) ?_
    split
    · exact Hangs.ask _ _
    · exact Hangs.const _
  · exact Hangs.const _

theorem callV_hangs (v : AV) (args : List AV) (h : AH) : Hangs (fun rec => callV P rec v args h) := by
  unfold callV
  split
  · exact callF_hangs _ _ _
  · exact Hangs.const _

theorem callK_hangs (c : Call) (ty : TypeId) (fr : Fr) (h : AH) : Hangs (fun rec => callK P rec c ty fr h pk) := by
  unfold callK
  split
  · exact Hangs.const _
  · split
    · exact Hangs.const _
    · split
      · exact (callV_hangs _ _ _).bind fun q => Hangs.const _
      · exact Hangs.const _
    · exact Hangs.const _

theorem opK_hangs (o : Op) (ty : TypeId) (fr : Fr) (h : AH) : Hangs (fun rec => opK P rec o ty fr h pk) := by
  cases o <;> first
    | exact callK_hangs _ _ _ _
    | exact Hangs.const _

theorem opsK_hangs {N : Nat} {ops : Array Oper} {k : Rec → Fr → AH → Option (AV × AH)} (hk : ∀ fr h, Hangs (fun rec => k rec fr h)) : ∀ (is : List Nat) (fr : Fr) (h : AH), Hangs (fun rec => opsK P rec N ops is fr h (k rec))
  | [], fr, h => hk fr h
  | i :: is, fr, h => by
    have put : ∀ (d : Option Tmp) (v : AV) (fr : Fr) (h : AH), Hangs (fun rec => putT N d v fr fun fr' => opsK P rec N ops is fr' h (k rec)) := by
      intro d v fr h
      unfold putT
      split
      · exact opsK_hangs hk is _ _
      · exact Hangs.cond (opsK_hangs hk is _ _) (Hangs.const _)
    have go : ∀ (o : Oper) (fr : Fr), Hangs (fun rec => opK P rec o.op o.type fr h fun v h' => putT N o.dst v fr fun fr' => opsK P rec N ops is fr' h' (k rec)) := by
      intro o fr
      have : (fun rec => opK P rec o.op o.type fr h fun v h' => putT N o.dst v fr fun fr' => opsK P rec N ops is fr' h' (k rec)) = (fun rec => (opK P rec o.op o.type fr h pk).bind fun p => putT N o.dst p.1 fr fun fr' => opsK P rec N ops is fr' p.2 (k rec)) := by
        funext rec
        exact opK_nat rec P o.op o.type fr h _ _
      rw [this]
      exact (opK_hangs _ _ _ _).bind fun p => put _ _ _ _
    simp only [opsK]
    split
    · exact Hangs.const _
    · rename_i o ho
      split
      · exact go o fr
      · split
        · exact Hangs.const _
        · split
          · exact Hangs.cond (Hangs.cond (go o _) (put _ _ _ _)) (Hangs.cond (put _ _ _ _) (go o _))
          · exact put _ _ _ _
          · exact Hangs.const _

theorem whenK_hangs {A : Type} {p : Prop} {f : Rec → Option A} (hf : Hangs f) : Hangs (fun rec => whenK p (f rec)) := by
  unfold whenK
  split
  · exact hf
  · exact Hangs.const _

theorem checkP_hangs {A : Type} {m : Nat} {h h' : AH} {f : Rec → Option A} (hf : Hangs f) : ∀ (ps : List Look), Hangs (fun rec => checkP m h h' (f rec) ps)
  | [] => hf
  | p :: ps => Hangs.cond (checkP_hangs hf ps) (whenK_hangs (checkP_hangs hf ps))

theorem opsD_hangs {N : Nat} {ops : Array Oper} {deps ancs : List Nat} {k : Rec → Fr → AH → Option (AV × AH)} (hk : ∀ fr h, Hangs (fun rec => k rec fr h)) : ∀ (c : List Nat) (m : Nat) (ps : List Look) (fr : Fr) (h : AH), Hangs (fun rec => opsD P rec N ops deps ancs c m ps fr h (k rec))
  | [], m, ps, fr, h => Hangs.cond (hk fr h) (Hangs.const _)
  | i :: c, m, ps, fr, h => by
    simp only [opsD]
    split
    · refine Hangs.cond (Hangs.cond (Hangs.cond ?_ (Hangs.const _)) (Hangs.cond ?_ (Hangs.const _))) (Hangs.const _)
      · exact opsK_hangs (k := fun rec fr' h' => opsD P rec N ops deps ancs c _ _ fr' h' (k rec)) (fun fr' h' => opsD_hangs hk c _ _ fr' h') _ _ _
      · exact opsK_hangs (k := fun rec fr' h' => checkP _ h h' (opsD P rec N ops deps ancs c _ ps fr' h' (k rec)) ps) (fun fr' h' => checkP_hangs (opsD_hangs hk c _ _ fr' h') _) _ _ _
    · exact Hangs.const _

theorem drawK_hangs {N : Nat} {ops : Array Oper} {order : List Nat} {k : Rec → Fr → AH → Option (AV × AH)} (hk : ∀ fr h, Hangs (fun rec => k rec fr h)) (fr : Fr) (h : AH) : Hangs (fun rec => drawK P rec N ops order fr h (k rec)) :=
  Hangs.cond (opsD_hangs hk _ _ _ _ _) (Hangs.const _)

theorem execA_hangs {K : Keep} {f : FuncId} {fn : Func} : ∀ (n : Nat) (fresh : Bool) (todo : List Item) (fr : Fr) (h : AH), Hangs (fun rec => execA P K rec f fn n fresh todo fr h)
  | 0, fresh, todo, fr, h => Hangs.const _
  | n + 1, fresh, todo, fr, h => by
    unfold execA
    have IH := execA_hangs (K := K) (f := f) (fn := fn) n
    split
    · exact Hangs.const _
    · exact Hangs.const _
    · exact IH _ _ _ _
    · exact IH _ _ _ _
    · exact IH _ _ _ _
    · exact IH _ _ _ _
    · exact IH _ _ _ _
    · split
      · exact Hangs.cond (IH _ _ _ _) (IH _ _ _ _)
      · exact Hangs.const _
    · exact IH _ _ _ _
    · exact IH _ _ _ _
    · exact IH _ _ _ _
    · exact IH _ _ _ _
    · split
      · exact IH _ _ _ _
      · exact Hangs.const _
    · split
      · exact IH _ _ _ _
      · exact Hangs.const _
    · refine Hangs.cond ?_ ?_
      · exact Hangs.cond (drawK_hangs (fun fr' h' => IH false _ fr' h') _ _) (opsK_hangs (fun fr' h' => IH false _ fr' h') _ _ _)
      · split
        · exact Hangs.ask _ _
        · exact Hangs.cond (drawK_hangs (fun fr' h' => IH false _ fr' h') _ _) (opsK_hangs (fun fr' h' => IH false _ fr' h') _ _ _)
    · exact Hangs.const _

theorem stepA_hangs (K : Keep) (key : Key) (h : AH) : Hangs (fun rec => stepA P K rec key h) := by
  unfold stepA
  split
  · split
    · split
      · exact Hangs.cond (execA_hangs _ _ _ _ _) (Hangs.const _)
      · exact Hangs.const _
    · exact Hangs.const _
  · split
    · exact execA_hangs _ _ _ _ _
    · exact Hangs.const _
  · exact Hangs.const _

theorem runF_mono (K : Keep) : ∀ (n : Nat) {key : Key} {h : AH} {r : AV × AH}, runF P K n key h = some r → runF P K (n + 1) key h = some r
  | 0, key, h, r, hr => by simp [runF] at hr
  | n + 1, key, h, r, hr => by
    obtain ⟨l, h1, h2⟩ := stepA_hangs (P := P) K key h (runF P K n) r hr
    exact h2 (runF P K (n + 1)) fun x hx => runF_mono K n (h1 x hx)

theorem runF_le (K : Keep) {n m : Nat} (hle : n ≤ m) {key : Key} {h : AH} {r : AV × AH} (hr : runF P K n key h = some r) : runF P K m key h = some r := by
  induction hle with
  | refl => exact hr
  | step _ ih => exact runF_mono K _ ih

theorem run_of_runF {K : Keep} {n : Nat} {key : Key} {h : AH} {r : AV × AH} (hr : runF P K n key h = some r) : run P K key h = some r := by
  cases hq : run P K key h with
  | none =>
    unfold run at hq
    split at hq
    · cases hq
    · rename_i hno
      exact absurd ⟨n, r, hr⟩ hno
  | some r' =>
    obtain ⟨m, hm⟩ := run_some hq
    have h1 := runF_le K (Nat.le_max_left n m) hr
    have h2 := runF_le K (Nat.le_max_right n m) hm
    rw [h1] at h2
    exact h2.symm

theorem runF_all (K : Keep) : ∀ (l : List Ask), Agree (run P K) l → ∃ n, Agree (runF P K n) l
  | [], _ => ⟨0, fun _ hx => by simp at hx⟩
  | x :: l, h => by
    obtain ⟨n, hn⟩ := runF_all K l fun y hy => h y (by simp [hy])
    obtain ⟨m, hm⟩ := run_some (h x (by simp))
    refine ⟨max n m, fun y hy => ?_⟩
    rcases List.mem_cons.1 hy with rfl | hy
    · exact runF_le K (Nat.le_max_right n m) hm
    · exact runF_le K (Nat.le_max_left n m) (hn y hy)

/-- 'run' is its own step. -/
theorem run_unfold (K : Keep) (key : Key) (h : AH) : run P K key h = stepA P K (run P K) key h := by
  cases hq : stepA P K (run P K) key h with
  | some r =>
    obtain ⟨l, h1, h2⟩ := stepA_hangs (P := P) K key h _ r hq
    obtain ⟨n, hn⟩ := runF_all K l h1
    exact run_of_runF (n := n + 1) (h2 _ hn)
  | none =>
    cases hr : run P K key h with
    | none => rfl
    | some r =>
      obtain ⟨n, hn⟩ := run_some hr
      cases n with
      | zero => simp [runF] at hn
      | succ n =>
        obtain ⟨l, h1, h2⟩ := stepA_hangs (P := P) K key h (runF P K n) r hn
        have := h2 (run P K) fun x hx => run_of_runF (h1 x hx)
        dsimp only at this
        rw [hq] at this
        cases this

end Go.Ab
