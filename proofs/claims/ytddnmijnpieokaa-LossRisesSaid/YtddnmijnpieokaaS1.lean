/- Layer 16, loss: what its functions answer. -/
import Derived.Test.YtddnmijnpieokaaU1
import Derived.Test.YtddnmijnpieokaaAbsQ
set_option linter.unusedVariables false
set_option linter.unusedSimpArgs false
set_option maxRecDepth 10000
namespace Go.Ab
open Go.Proofs

theorem within_spec (n a b : Int) (h : AH) : go (.fn F.loss_within [.int .i64 n, .int .i64 a, .int .i64 b]) h = some (.bool (decide (a ≤ n ∧ n ≤ b)), h) := by
  rw [u_loss_within]
  by_cases h1 : a ≤ n <;> simp [h1]

structure Cfg where
  (trees depth lambda gamma num den loss clip : Int)

@[reducible] def Cfg.v (c : Cfg) : AV := .agg [.int .i64 c.trees, .int .i64 c.depth, .int .i64 c.lambda, .int .i64 c.gamma, .int .i64 c.num, .int .i64 c.den, .int .i64 c.loss, .int .i64 c.clip]

theorem plain_spec (h : AH) : ∃ h', go (.fn F.law16_plain []) h = some (Cfg.v ⟨1, 1, 1, 0, 1, 2, 0, 0⟩, h') ∧ Grow h h' := by
  rw [u_law16_plain]
  simp [AH.puts_alloc]
  exact Grow.alloc _ _

def Cfg.right (c : Cfg) : Bool := decide (1 ≤ c.trees ∧ c.trees ≤ 16 ∧ 1 ≤ c.depth ∧ c.depth ≤ 5 ∧ 1 ≤ c.lambda ∧ c.lambda ≤ 1048576 ∧ 0 ≤ c.gamma ∧ c.gamma ≤ 1048576 ∧ 1 ≤ c.den ∧ c.den ≤ 1048576 ∧ 1 ≤ c.num ∧ c.num ≤ c.den ∧ (c.loss = 0 ∧ c.clip = 0 ∨ c.loss = 1 ∧ 1 ≤ c.clip ∧ c.clip ≤ 1048576))

theorem loss_Right_spec (c : Cfg) (h : AH) : ∃ h', go (.fn F.loss_Right [c.v]) h = some (.bool c.right, h') ∧ Grow h h' := by
  rw [u_loss_Right]
  simp [within_spec, cond_eq_ite]
  refine ⟨_, ?_, Grow.alloc _ (.cells [.int .i64 c.trees, .int .i64 c.depth, .int .i64 c.lambda, .int .i64 c.gamma, .int .i64 c.num, .int .i64 c.den, .int .i64 c.loss, .int .i64 c.clip] T.api_Config)⟩
  unfold Cfg.right
  repeat' split
  all_goals
    refine bool_ans ?_
    simp only [Bool.and_eq_true, decide_eq_true_eq, Bool.false_eq_true, false_iff]
    omega

theorem ref16_Right_spec (c : Cfg) (h : AH) : ∃ h', go (.fn F.ref16_Right [c.v]) h = some (.bool c.right, h') ∧ Grow h h' := by
  rw [u_ref16_Right]
  simp [cond_eq_ite]
  refine ⟨_, ?_, Grow.alloc _ (.cells [.int .i64 c.trees, .int .i64 c.depth, .int .i64 c.lambda, .int .i64 c.gamma, .int .i64 c.num, .int .i64 c.den, .int .i64 c.loss, .int .i64 c.clip] T.api_Config)⟩
  generalize h.alloc _ = h1
  repeat' refine ite_elim (fun _ => ?_) (fun _ => ?_)
  all_goals
    refine ans_eq ?_
    unfold Cfg.right
    simp only [Bool.and_eq_true, decide_eq_true_eq, Bool.false_eq_true, true_iff, false_iff]
    omega

/-- What the derivative is. -/
def Cfg.grad (c : Cfg) (s l : Int) : Int × Int :=
  if c.right = true ∧ -1099511627776 ≤ s ∧ s ≤ 1099511627776 ∧ -1048576 ≤ l ∧ l ≤ 1048576 then
    (let m := if c.loss = 1 then c.clip else 1048576
     if s - l < -m then -m else if s - l > m then m else s - l, 0)
  else (0, 1)

theorem Cfg.right_clip {c : Cfg} (h : c.right = true) (h1 : c.loss = 1) : 1 ≤ c.clip ∧ c.clip ≤ 1048576 := by
  unfold Cfg.right at h
  simp only [decide_eq_true_eq] at h
  omega

theorem loss_Grad_spec (c : Cfg) (s l : Int) (h : AH) : ∃ h', go (.fn F.loss_Grad [c.v, .int .i64 s, .int .i64 l]) h = some (.tup [.int .i64 (c.grad s l).1, .int .i64 (c.grad s l).2], h') ∧ Grow h h' := by
  rw [u_loss_Grad]
  simp
  obtain ⟨h1, e1, g1⟩ := loss_Right_spec c (h.alloc (.cells [.int .i64 c.trees, .int .i64 c.depth, .int .i64 c.lambda, .int .i64 c.gamma, .int .i64 c.num, .int .i64 c.den, .int .i64 c.loss, .int .i64 c.clip] T.api_Config))
  rw [e1]
  simp [within_spec, cond_eq_ite, g1.cell_new]
  refine ⟨h1, ?_, g1.alloc'⟩
  unfold Cfg.grad
  cases hr : c.right with
  | false => simp
  | true =>
    have hc := Cfg.right_clip hr
    by_cases a1 : -1099511627776 ≤ s <;> by_cases a2 : s ≤ 1099511627776 <;> simp [a1, a2]
    by_cases a3 : -1048576 ≤ l <;> by_cases a4 : l ≤ 1048576 <;> simp [a3, a4]
    rw [wrap64 (n := s - l) (by omega) (by omega)]
    by_cases a5 : c.loss = 1
    · have := hc a5
      simp only [a5, if_true]
      rw [wrap64 (n := -c.clip) (by omega) (by omega), imin_eq, imax_eq]
      simp
      repeat' split
      all_goals omega
    · simp only [a5, if_false]
      rw [wrap64 (n := -1048576) (by omega) (by omega), imin_eq, imax_eq]
      simp
      repeat' split
      all_goals omega

theorem ref16_Grad_spec (c : Cfg) (s l : Int) (h : AH) : ∃ h', go (.fn F.ref16_Grad [c.v, .int .i64 s, .int .i64 l]) h = some (.tup [.int .i64 (c.grad s l).1, .int .i64 (c.grad s l).2], h') ∧ Grow h h' := by
  rw [u_ref16_Grad]
  simp
  obtain ⟨h1, e1, g1⟩ := ref16_Right_spec c (h.alloc (.cells [.int .i64 c.trees, .int .i64 c.depth, .int .i64 c.lambda, .int .i64 c.gamma, .int .i64 c.num, .int .i64 c.den, .int .i64 c.loss, .int .i64 c.clip] T.api_Config))
  rw [e1]
  simp [cond_eq_ite, g1.cell_new]
  refine ⟨h1, ?_, g1.alloc'⟩
  unfold Cfg.grad
  refine ite_elim (fun hr => ?_) (fun hr => ?_)
  · have hc := Cfg.right_clip hr
    refine ite_elim (fun a1 => ?_) (fun a1 => ?_)
    · rw [if_neg (by omega)]
    refine ite_elim (fun a2 => ?_) (fun a2 => ?_)
    · rw [if_neg (by omega)]
    refine ite_elim (fun a3 => ?_) (fun a3 => ?_)
    · rw [if_neg (by omega)]
    refine ite_elim (fun a4 => ?_) (fun a4 => ?_)
    · rw [if_neg (by omega)]
    have hp : c.right = true ∧ -1099511627776 ≤ s ∧ s ≤ 1099511627776 ∧ -1048576 ≤ l ∧ l ≤ 1048576 := ⟨hr, by omega⟩
    rw [if_pos hp, wrap64 (n := s - l) (by omega) (by omega)]
    refine ite_elim (fun a5 => ?_) (fun a5 => ?_)
    · have := hc a5
      simp only [a5, if_true]
      rw [wrap64 (n := -c.clip) (by omega) (by omega), imin_eq, imax_eq]
      simp
      repeat' split
      all_goals omega
    · simp only [a5, if_false]
      rw [wrap64 (n := -1048576) (by omega) (by omega), imin_eq, imax_eq]
      simp
      repeat' split
      all_goals omega
  · rw [if_neg (fun x => hr x.1)]

def Cfg.most (c : Cfg) : Int := if c.loss = 1 then c.clip else 1048576

theorem Cfg.grad_ok {c : Cfg} {s l : Int} (h : (c.grad s l).2 = 0) : 1 ≤ c.most ∧ (c.grad s l).1 = max (-c.most) (min c.most (s - l)) := by
  unfold Cfg.grad at h ⊢
  by_cases hp : c.right = true ∧ -1099511627776 ≤ s ∧ s ≤ 1099511627776 ∧ -1048576 ≤ l ∧ l ≤ 1048576
  · rw [if_pos hp]
    have h1 : 1 ≤ c.most := by
      unfold Cfg.most
      split
      · rename_i h2; exact (Cfg.right_clip hp.1 h2).1
      · omega
    refine ⟨h1, ?_⟩
    show (if s - l < -c.most then -c.most else if s - l > c.most then c.most else s - l) = _
    split
    · omega
    · split <;> omega
  · rw [if_neg hp] at h
    simp at h

theorem awake_spec (h : AH) : ∃ h', go (.fn F.law16_awake []) h = some (.bool true, h') ∧ Grow h h' := by
  rw [u_law16_awake]
  obtain ⟨h1, e1, g1⟩ := plain_spec h
  rw [e1]
  obtain ⟨h2, e2, g2⟩ := loss_Grad_spec ⟨1, 1, 1, 0, 1, 2, 0, 0⟩ 7 3 h1
  simp [e2]
  exact ⟨h2, by simp [Cfg.grad, Cfg.right], g1.trans g2⟩

theorem LossRights_spec (c : Cfg) (h : AH) : ∃ h', go (.fn F.law16_LossRights [c.v]) h = some (.bool true, h') ∧ Grow h h' := by
  rw [u_law16_LossRights]
  simp
  obtain ⟨h1, e1, g1⟩ := awake_spec (h.alloc (.cells [.int .i64 c.trees, .int .i64 c.depth, .int .i64 c.lambda, .int .i64 c.gamma, .int .i64 c.num, .int .i64 c.den, .int .i64 c.loss, .int .i64 c.clip] T.api_Config))
  obtain ⟨h2, e2, g2⟩ := loss_Right_spec c h1
  obtain ⟨h3, e3, g3⟩ := ref16_Right_spec c h2
  simp [e1, g1.cell_new, e2, (g1.trans g2).cell_new, e3]
  exact (g1.trans (g2.trans g3)).alloc'

theorem LossGrads_spec (c : Cfg) (s l : Int) (h : AH) : ∃ h', go (.fn F.law16_LossGrads [c.v, .int .i64 s, .int .i64 l]) h = some (.bool true, h') ∧ Grow h h' := by
  rw [u_law16_LossGrads]
  simp
  obtain ⟨h1, e1, g1⟩ := awake_spec (h.alloc (.cells [.int .i64 c.trees, .int .i64 c.depth, .int .i64 c.lambda, .int .i64 c.gamma, .int .i64 c.num, .int .i64 c.den, .int .i64 c.loss, .int .i64 c.clip] T.api_Config))
  obtain ⟨h2, e2, g2⟩ := loss_Grad_spec c s l h1
  obtain ⟨h3, e3, g3⟩ := ref16_Grad_spec c s l h2
  simp [e1, g1.cell_new, e2, (g1.trans g2).cell_new, e3]
  exact (g1.trans (g2.trans g3)).alloc'

theorem LossRises_spec (c : Cfg) (x y l : Int) (h : AH) : ∃ h', go (.fn F.law16_LossRises [c.v, .agg [.int .i64 x, .int .i64 y], .int .i64 l]) h = some (.bool true, h') ∧ Grow h h' := by
  rw [u_law16_LossRises]
  simp
  let h0 := (h.alloc (.cells [.int .i64 c.trees, .int .i64 c.depth, .int .i64 c.lambda, .int .i64 c.gamma, .int .i64 c.num, .int .i64 c.den, .int .i64 c.loss, .int .i64 c.clip] T.api_Config))
  obtain ⟨h1, e1, g1⟩ := awake_spec (h0.alloc (.cells [.int .i64 x, .int .i64 y] T.A2_int))
  obtain ⟨h2, e2, g2⟩ := loss_Grad_spec c (min x y) l h1
  obtain ⟨h3, e3, g3⟩ := loss_Grad_spec c (max x y) l h2
  have g0 : ∀ i o, i < h0.blks.size → ∀ h', Grow (h0.alloc (.cells [.int .i64 x, .int .i64 y] T.A2_int)) h' → h'.cell (.new i o) = h0.cell (.new i o) := fun i o hi h' g => (Grow.alloc' g).cell hi
  have gg : Grow h h1 := (Grow.alloc _ _).trans g1.alloc'
  have a1 : ∀ o, h1.cell (.new h.blks.size o) = h0.cell (.new h.blks.size o) := fun o => g0 _ _ (by simp [h0]) _ g1
  have a2 : ∀ o, h2.cell (.new h.blks.size o) = h0.cell (.new h.blks.size o) := fun o => g0 _ _ (by simp [h0]) _ (g1.trans g2)
  have b1 : ∀ o, h1.cell (.new (h.blks.size + 1) o) = [.int .i64 x, .int .i64 y][o]? := fun o => by
    have := g1.cell_new o
    simpa [h0] using this
  simp only [h0] at e1 a1 a2
  simp only [AH.cell_alloc] at a1 a2
  simp [e1, b1, a1, a2, imin_eq, imax_eq, e2, e3]
  refine ⟨h3, ?_, gg.trans (g2.trans g3)⟩
  refine cond_elim (fun c1 => ?_) (fun _ => rfl)
  refine cond_elim (fun c2 => ?_) (fun _ => rfl)
  obtain ⟨m1, m2⟩ := Cfg.grad_ok (of_decide_eq_true c1)
  obtain ⟨-, m3⟩ := Cfg.grad_ok (of_decide_eq_true c2)
  rw [m2, m3]
  have d1 : max (-c.most) (min c.most (min x y - l)) ≤ max (-c.most) (min c.most (max x y - l)) := by omega
  have d2 : 0 < max (-c.most) (min c.most (min x y - l)) ↔ l < min x y := by omega
  have d3 : max (-c.most) (min c.most (min x y - l)) < 0 ↔ min x y < l := by omega
  simp only [d1, d2, d3, decide_true, cond_true, beq_self_eq_true]

/-- A configuration that is handed. -/
theorem Cfg.of_arg {h : AH} {x : AV} (a : ArgV Pg h T.api_Config x) : ∃ c : Cfg, x = c.v := by
  unfold ArgV at a
  rw [und_api_Config] at a
  obtain ⟨cs, rfl, t⟩ := a
  obtain ⟨hl, hf⟩ := t.struct und_api_Config
  rw [cells_api_Config] at hl
  match cs, hl with
  | [x0, x1, x2, x3, x4, x5, x6, x7], _ =>
    simp [cells_int] at hf
    obtain ⟨h0, h1, h2, h3, h4, h5, h6, h7⟩ := hf
    obtain ⟨n0, e0, -⟩ := h0.int und_int
    obtain ⟨n1, e1, -⟩ := h1.int und_int
    obtain ⟨n2, e2, -⟩ := h2.int und_int
    obtain ⟨n3, e3, -⟩ := h3.int und_int
    obtain ⟨n4, e4, -⟩ := h4.int und_int
    obtain ⟨n5, e5, -⟩ := h5.int und_int
    obtain ⟨n6, e6, -⟩ := h6.int und_int
    obtain ⟨n7, e7, -⟩ := h7.int und_int
    cases e0; cases e1; cases e2; cases e3; cases e4; cases e5; cases e6; cases e7
    exact ⟨⟨n0, n1, n2, n3, n4, n5, n6, n7⟩, rfl⟩

theorem int_of_arg {h : AH} {x : AV} (a : ArgV Pg h T.int x) : ∃ n, x = .int .i64 n ∧ -9223372036854775808 ≤ n ∧ n ≤ 9223372036854775807 := by
  unfold ArgV at a
  rw [und_int] at a
  obtain ⟨n, e, w⟩ := a.int und_int
  cases e
  refine ⟨n, rfl, ?_⟩
  simpa [Lit.wf, IntKind.has, IntKind.min, IntKind.max, IntKind.bits, IntKind.signed] using w

theorem LossRights_law (h : AH) {x0 : AV} (z0 : ArgV Pg h T.api_Config x0) : ∃ h', go (.fn F.law16_LossRights [x0]) h = some (.bool true, h') := by
  obtain ⟨c, rfl⟩ := Cfg.of_arg z0
  obtain ⟨h', e, -⟩ := LossRights_spec c h
  exact ⟨h', e⟩

theorem LossGrads_law (h : AH) {x0 x1 x2 : AV} (z0 : ArgV Pg h T.api_Config x0) (z1 : ArgV Pg h T.int x1) (z2 : ArgV Pg h T.int x2) : ∃ h', go (.fn F.law16_LossGrads [x0, x1, x2]) h = some (.bool true, h') := by
  obtain ⟨c, rfl⟩ := Cfg.of_arg z0
  obtain ⟨s, rfl, -⟩ := int_of_arg z1
  obtain ⟨l, rfl, -⟩ := int_of_arg z2
  obtain ⟨h', e, -⟩ := LossGrads_spec c s l h
  exact ⟨h', e⟩

theorem pair_of_arg {h : AH} {x : AV} (a : ArgV Pg h T.A2_int x) : ∃ m n, x = .agg [.int .i64 m, .int .i64 n] := by
  unfold ArgV at a
  rw [und_A2_int] at a
  obtain ⟨cs, rfl, t⟩ := a
  obtain ⟨hl, hf⟩ := t.array und_A2_int
  rw [cells_A2_int] at hl
  match cs, hl with
  | [x0, x1], _ =>
    have h0 := hf 0 (by omega)
    have h1 := hf 1 (by omega)
    simp [cells_int] at h0 h1
    obtain ⟨n0, e0, -⟩ := h0.int und_int
    obtain ⟨n1, e1, -⟩ := h1.int und_int
    cases e0; cases e1
    exact ⟨n0, n1, rfl⟩

theorem LossRises_law (h : AH) {x0 x1 x2 : AV} (z0 : ArgV Pg h T.api_Config x0) (z1 : ArgV Pg h T.A2_int x1) (z2 : ArgV Pg h T.int x2) : ∃ h', go (.fn F.law16_LossRises [x0, x1, x2]) h = some (.bool true, h') := by
  obtain ⟨c, rfl⟩ := Cfg.of_arg z0
  obtain ⟨m, n, rfl⟩ := pair_of_arg z1
  obtain ⟨l, rfl, -⟩ := int_of_arg z2
  obtain ⟨h', e, -⟩ := LossRises_spec c m n l h
  exact ⟨h', e⟩

end Go.Ab
