/- The abstract operations against the machine's: each operation that calls nothing. -/
import Derived.Test.YtddnmijnpieokaaAbsE
import Derived.WalkSpells
import Derived.ChangeKeysEq
import Derived.Laws.StructEq
set_option linter.unusedVariables false
set_option linter.unusedSimpArgs false
namespace Go.Ab

variable {P : Program} {O : World} {R : Type}

/-- What an operation leaves: its value, the heap behind it. -/
def Good (P : Program) (O : World) (μ : Mu) (h : AH) (w : World) (v : AV) (h' : AH) (u : Value) (w' : World) : Prop :=
  ∃ ν, VRel ν v u ∧ Sim P O ν h' w' ∧ Ext μ h w ν h' ∧ Frm μ h w w'

theorem Good.pure {μ : Mu} {h : AH} {w : World} (S : Sim P O μ h w) {v : AV} {u : Value} (hv : VRel μ v u) : Good P O μ h w v h u w :=
  ⟨μ, hv, S, Ext.refl _ _ _, Frm.refl _ _ _⟩

/-- The operation, run at world w, comes to such a value. -/
def Yields (P : Program) (s : Sem Value) (w : World) (G : Value → World → Prop) : Prop := ∃ u w', s.run P w = .ok u w' ∧ G u w'

theorem Yields.pure {s : Sem Value} {w : World} {u : Value} {G : Value → World → Prop} (h : s.run P w = .ok u w) (g : G u w) : Yields P s w G := ⟨u, w, h, g⟩

/-! ### numbers -/
theorem intK_sound {op : BinOp} {kd : IntKind} {a b : Int} {k : AV → Option R} {r : R} (h : intK op kd a b k = some r) (t : TypeId) (w : World) :
    ∃ v u, k v = some r ∧ (∀ μ, VRel μ v u) ∧ (binOp op t (.int kd a) (.int kd b)).run P w = .ok u w := by
  cases op <;> simp only [intK] at h
  case shl => cases h
  case shr => cases h
  case quo =>
    obtain ⟨h1, h2⟩ := cond_none' h
    refine ⟨_, .int kd (kd.wrap (a.tdiv b)), h2, fun μ => by simp [VRel], ?_⟩
    simp at h1
    simp [binOp, Op.intDiv, h1]
  case rem =>
    obtain ⟨h1, h2⟩ := cond_none' h
    refine ⟨_, .int kd (a.tmod b), h2, fun μ => by simp [VRel], ?_⟩
    simp at h1
    simp [binOp, Op.intDiv, h1]
  case add => exact ⟨_, .int kd (kd.wrap (a + b)), h, fun μ => by simp [VRel], by simp [binOp, Op.intArith]⟩
  case sub => exact ⟨_, .int kd (kd.wrap (a - b)), h, fun μ => by simp [VRel], by simp [binOp, Op.intArith]⟩
  case mul => exact ⟨_, .int kd (kd.wrap (a * b)), h, fun μ => by simp [VRel], by simp [binOp, Op.intArith]⟩
  case and => exact ⟨_, .int kd (iand kd a b), h, fun μ => by simp [VRel], by simp [binOp, Op.intBits, iand]⟩
  case or => exact ⟨_, .int kd (ior kd a b), h, fun μ => by simp [VRel], by simp [binOp, Op.intBits, ior]⟩
  case xor => exact ⟨_, .int kd (ixor kd a b), h, fun μ => by simp [VRel], by simp [binOp, Op.intBits, ixor]⟩
  case andNot => exact ⟨_, .int kd (iandNot kd a b), h, fun μ => by simp [VRel], by simp [binOp, Op.intBits, iandNot]⟩
  case eql => exact ⟨_, .bool (decide (a = b)), h, fun μ => by simp [VRel], by simp [binOp, Op.intCmp]; rfl⟩
  case neq => exact ⟨_, .bool (!decide (a = b)), h, fun μ => by simp [VRel], by simp [binOp, Op.intCmp]; rfl⟩
  case lss => exact ⟨_, .bool (decide (a < b)), h, fun μ => by simp [VRel], by simp [binOp, Op.intCmp]⟩
  case leq => exact ⟨_, .bool (decide (a ≤ b)), h, fun μ => by simp [VRel], by simp [binOp, Op.intCmp]⟩
  case gtr => exact ⟨_, .bool (decide (a > b)), h, fun μ => by simp [VRel], by simp [binOp, Op.intCmp]⟩
  case geq => exact ⟨_, .bool (decide (a ≥ b)), h, fun μ => by simp [VRel], by simp [binOp, Op.intCmp]⟩

theorem eqGuard_int (op : BinOp) (t : TypeId) (x y : Operand) (k k' : IntKind) (a b : Int) (w : World) : (eqGuard op t x y (.int k a) (.int k' b)).run P w = .ok () w := by
  unfold eqGuard; cases op <;> rfl

theorem binOp_of_equal {t : TypeId} {u v : Value} {b : Bool} {w : World} (op : BinOp) (hop : op = .eql ∨ op = .neq)
    (hs : ∀ o : BinOp, (o = .eql → binOp o t u v = do pure (.bool (← Op.equal t u v))) ∧ (o = .neq → binOp o t u v = do pure (.bool (!(← Op.equal t u v)))))
    (he : ∀ n : Nat, (Op.equalIn (n + 1) t u v).run P w = .ok b w) : (binOp op t u v).run P w = .ok (.bool (if op = .eql then b else !b)) w := by
  have he' : (Op.equal t u v).run P w = .ok b w := he 9999
  rcases hop with rfl | rfl
  · rw [(hs .eql).1 rfl]
    simp only [Sem.run_bind, he', Result.andThen_ok, Sem.run_pure, if_true]
  · rw [(hs .neq).2 rfl]
    simp only [Sem.run_bind, he', Result.andThen_ok, Sem.run_pure]
    rfl

/-- The operation on two cells. -/
theorem eqCell_sound {μ : Mu} {x y : AV} {b : Bool} (h : eqCell x y = some b) {u v : Value} (hx : VRel μ x u) (hy : VRel μ y v) {t : TypeId} {d : TypeDesc} (hd : P.underlying t = some d)
    (hfit : fits x d = true) (op : BinOp) (hop : op = .eql ∨ op = .neq) (xo yo : Operand) (w : World) :
    (eqGuard op t xo yo u v).run P w = .ok () w ∧ (binOp op t u v).run P w = .ok (.bool (if op = .eql then b else !b)) w := by
  unfold eqCell at h
  split at h
  · rename_i k a k' a'
    simp only [VRel] at hx hy
    subst hx; subst hy
    refine ⟨eqGuard_int _ _ _ _ _ _ _ _ _, ?_⟩
    obtain ⟨h1, h2⟩ := cond_none h
    simp at h1 h2
    subst h1; subst h2
    rcases hop with rfl | rfl
    · simp [binOp, Op.intCmp]; rfl
    · simp [binOp, Op.intCmp]; rfl
  · rename_i a a'
    simp only [VRel] at hx hy
    subst hx; subst hy
    cases h
    cases d <;> simp [fits] at hfit
    refine ⟨by rcases hop with rfl | rfl <;> rfl, binOp_of_equal op hop (fun o => ⟨fun e => by subst e; rfl, fun e => by subst e; rfl⟩) ?_⟩
    intro n
    simp [Op.equalIn, run_underlying hd]
  · rename_i a a'
    simp only [VRel] at hx hy
    subst hx; subst hy
    simp at h
    rcases hop with rfl | rfl <;> exact ⟨rfl, by simp [binOp, Op.stringOp, ← h]⟩
  · rename_i r n c n' c'
    simp only [VRel] at hy
    obtain ⟨_, _, rfl⟩ := hy
    cases h
    cases d <;> simp [fits] at hfit
    cases r with
    | none =>
      simp only [VRel] at hx
      obtain ⟨_, _, rfl⟩ := hx
      refine ⟨by rcases hop with rfl | rfl <;> rfl, binOp_of_equal op hop (fun o => ⟨fun e => by subst e; rfl, fun e => by subst e; rfl⟩) ?_⟩
      intro n
      simp [Op.equalIn, run_underlying hd]
    | some r =>
      simp only [VRel] at hx
      obtain ⟨a, c, rfl, _⟩ := hx
      refine ⟨by rcases hop with rfl | rfl <;> rfl, binOp_of_equal op hop (fun o => ⟨fun e => by subst e; rfl, fun e => by subst e; rfl⟩) ?_⟩
      intro n
      simp [Op.equalIn, run_underlying hd]
  · rename_i r
    simp only [VRel] at hy
    subst hy
    cases h
    cases d <;> simp [fits] at hfit
    cases r with
    | none =>
      simp only [VRel] at hx
      subst hx
      refine ⟨by rcases hop with rfl | rfl <;> rfl, binOp_of_equal op hop (fun o => ⟨fun e => by subst e; rfl, fun e => by subst e; rfl⟩) ?_⟩
      intro n
      simp [Op.equalIn, run_underlying hd]
    | some r =>
      simp only [VRel] at hx
      obtain ⟨a, _, rfl⟩ := hx
      refine ⟨by rcases hop with rfl | rfl <;> rfl, binOp_of_equal op hop (fun o => ⟨fun e => by subst e; rfl, fun e => by subst e; rfl⟩) ?_⟩
      intro n
      simp [Op.equalIn, run_underlying hd]
  · rename_i r
    simp only [VRel] at hy
    subst hy
    cases h
    cases d <;> simp [fits] at hfit
    cases r with
    | none =>
      simp only [VRel] at hx
      subst hx
      refine ⟨by rcases hop with rfl | rfl <;> rfl, binOp_of_equal op hop (fun o => ⟨fun e => by subst e; rfl, fun e => by subst e; rfl⟩) ?_⟩
      intro n
      simp [Op.equalIn, run_underlying hd]
    | some r =>
      simp only [VRel] at hx
      obtain ⟨a, _, rfl⟩ := hx
      refine ⟨by rcases hop with rfl | rfl <;> rfl, binOp_of_equal op hop (fun o => ⟨fun e => by subst e; rfl, fun e => by subst e; rfl⟩) ?_⟩
      intro n
      simp [Op.equalIn, run_underlying hd]
  · simp only [VRel] at hx hy
    subst hx; subst hy
    cases h
    cases d <;> simp [fits] at hfit
    refine ⟨by rcases hop with rfl | rfl <;> rfl, binOp_of_equal op hop (fun o => ⟨fun e => by subst e; rfl, fun e => by subst e; rfl⟩) ?_⟩
    intro n
    simp [Op.equalIn, run_underlying hd]
  · simp only [VRel] at hx hy
    obtain ⟨g, x, y, rfl, _⟩ := hx
    subst hy
    cases h
    cases d <;> simp [fits] at hfit
    refine ⟨by rcases hop with rfl | rfl <;> rfl, binOp_of_equal op hop (fun o => ⟨fun e => by subst e; rfl, fun e => by subst e; rfl⟩) ?_⟩
    intro n
    simp [Op.equalIn, run_underlying hd]
  · cases h

theorem part_sound {μ : Mu} {t : TypeId} {cs : List AV} {off : Nat} {v : AV} (h : partA P t cs off = some v) {us : Array Value} (hv : VRels μ cs us.toList) (h1 : cs.all AV.one = true) (w : World) :
    ∃ u, (part t us off).run P w = .ok u w ∧ VRel μ v u := by
  unfold partA at h
  split at h
  · rename_i d hd
    rcases cond_some h with ⟨hc, h⟩ | ⟨hc, h⟩
    · obtain ⟨hb, h⟩ := cond_none h
      cases h
      refine ⟨.agg (us.extract off (off + P.cellsOf t)), by simp [part, run_isAgg hd, hc, run_sizeOf' hd], ?_⟩
      simp only [VRel]
      refine ⟨_, rfl, ?_, ?_⟩
      · have := (hv.drop off).take (P.cellsOf t)
        rw [Array.toList_extract]
        simpa [List.extract] using this
      · rw [List.all_eq_true] at h1 ⊢
        exact fun x hx => h1 x (List.mem_of_mem_drop (List.mem_of_mem_take hx))
    · obtain ⟨u, hu, hvu⟩ := hv.get off v h
      refine ⟨u, ?_, hvu⟩
      simp only [Array.getElem?_toList] at hu
      simp [part, run_isAgg hd, hc, hu]
  · cases h

theorem eqCell_equalIn {μ : Mu} {x y : AV} {b : Bool} (h : eqCell x y = some b) {u v : Value} (hx : VRel μ x u) (hy : VRel μ y v) {t : TypeId} {d : TypeDesc} (hd : P.underlying t = some d)
    (hfit : fits x d = true) (hs : isStr x = false) (n : Nat) (w : World) : (Op.equalIn (n + 1) t u v).run P w = .ok b w := by
  unfold eqCell at h
  split at h
  · rename_i k a k' a'
    simp only [VRel] at hx hy
    subst hx; subst hy
    obtain ⟨h1, h2⟩ := cond_none h
    simp at h1 h2
    subst h1; subst h2
    cases d <;> simp [fits] at hfit
    simp [Op.equalIn, run_underlying hd]; rfl
  · rename_i a a'
    simp only [VRel] at hx hy
    subst hx; subst hy
    cases h
    cases d <;> simp [fits] at hfit
    simp [Op.equalIn, run_underlying hd]
  · simp [isStr] at hs
  · rename_i r n c n' c'
    simp only [VRel] at hy
    obtain ⟨_, _, rfl⟩ := hy
    cases h
    cases d <;> simp [fits] at hfit
    cases r with
    | none =>
      simp only [VRel] at hx
      obtain ⟨_, _, rfl⟩ := hx
      simp [Op.equalIn, run_underlying hd]
    | some r =>
      simp only [VRel] at hx
      obtain ⟨a, c, rfl, _⟩ := hx
      simp [Op.equalIn, run_underlying hd]
  · rename_i r
    simp only [VRel] at hy
    subst hy
    cases h
    cases d <;> simp [fits] at hfit
    cases r with
    | none =>
      simp only [VRel] at hx
      subst hx
      simp [Op.equalIn, run_underlying hd]
    | some r =>
      simp only [VRel] at hx
      obtain ⟨a, _, rfl⟩ := hx
      simp [Op.equalIn, run_underlying hd]
  · rename_i r
    simp only [VRel] at hy
    subst hy
    cases h
    cases d <;> simp [fits] at hfit
    cases r with
    | none =>
      simp only [VRel] at hx
      subst hx
      simp [Op.equalIn, run_underlying hd]
    | some r =>
      simp only [VRel] at hx
      obtain ⟨a, _, rfl⟩ := hx
      simp [Op.equalIn, run_underlying hd]
  · simp only [VRel] at hx hy
    subst hx; subst hy
    cases h
    cases d <;> simp [fits] at hfit
    simp [Op.equalIn, run_underlying hd]
  · simp only [VRel] at hx hy
    obtain ⟨g, x, y, rfl, _⟩ := hx
    subst hy
    cases h
    cases d <;> simp [fits] at hfit
    simp [Op.equalIn, run_underlying hd]
  · cases h

theorem eqD_sound {μ : Mu} (w : World) : ∀ (d : Nat) (t : TypeId) (x y : AV) (b : Bool), eqD P d t x y = some b → ∀ (u v : Value), VRel μ x u → VRel μ y v → ∀ n, (Op.equalIn (d + n) t u v).run P w = .ok b w
  | 0, t, x, y, b, h, _, _, _, _, _ => by simp [eqD] at h
  | d + 1, t, x, y, b, h, u, v, hx, hy, n => by
    rw [show d + 1 + n = (d + n) + 1 from by omega]
    have IH := eqD_sound (μ := μ) w d
    unfold eqD at h
    split at h
    · rename_i fs hd
      split at h
      · rename_i xs ys
        obtain ⟨hst, h'⟩ := cond_none' h
        clear h
        have h := h'
        clear h'
        simp only [VRel] at hx hy
        obtain ⟨us, rfl, hu, h1⟩ := hx
        obtain ⟨vs, rfl, hv, h2⟩ := hy
        have hf : P.fieldsOf t = fs := by simp [Program.fieldsOf, hd]
        rw [run_equalIn_struct w (d + n) t us vs (by rw [hf]; exact hd) hst, hf]
        clear hd hf hst
        generalize fs.toList = l at h ⊢
        induction l generalizing b with
        | nil => simp [eqFs] at h; simp [Op.eqFields, h]
        | cons f l ih =>
          simp only [eqFs] at h
          obtain ⟨hn, h⟩ := cond_none' h
          simp only [Option.bind_eq_some_iff, Option.map_eq_some_iff] at h
          obtain ⟨a, ha, c, hc, r, hr, s, hs, rfl⟩ := h
          obtain ⟨ua, ra, va⟩ := part_sound ha hu h1 w
          obtain ⟨uc, rc, vc⟩ := part_sound hc hv h2 w
          have hr' := IH _ _ _ _ hr _ _ va vc n
          have hn' : f.name ≠ "_" := by simpa using hn
          simp only [Op.eqFields, hn', ne_eq, not_false_eq_true, if_true, Sem.run_bind, ra, rc, hr', Result.andThen_ok]
          cases r
          · simp
          · simpa using ih s hs
      · cases h
    · rename_i m e hd
      split at h
      · rename_i de xs ys hde
        simp only [VRel] at hx hy
        obtain ⟨us, rfl, hu, h1⟩ := hx
        obtain ⟨vs, rfl, hv, h2⟩ := hy
        obtain ⟨i, hi⟩ := info_of_underlying hde
        rw [run_equalIn_array w (d + n) us vs hd hi]
        generalize List.range m = l at h
        induction l generalizing b with
        | nil => simp [eqIs] at h; simp [Op.eqItems, h]
        | cons f l ih =>
          simp only [eqIs, Option.bind_eq_some_iff, Option.map_eq_some_iff] at h
          obtain ⟨a, ha, c, hc, r, hr, s, hs, rfl⟩ := h
          obtain ⟨ua, ra, va⟩ := part_sound ha hu h1 w
          obtain ⟨uc, rc, vc⟩ := part_sound hc hv h2 w
          have hr' := IH _ _ _ _ hr _ _ va vc n
          simp only [Op.eqItems, Sem.run_bind, ra, rc, hr', Result.andThen_ok]
          cases r
          · simp
          · simpa using ih s hs
      · cases h
    · rename_i dd _ _ hd
      obtain ⟨hs, h⟩ := cond_none' h
      obtain ⟨hf, h⟩ := cond_none h
      exact eqCell_equalIn h hx hy hd hf hs (d + n) w
    · cases h

end Go.Ab
