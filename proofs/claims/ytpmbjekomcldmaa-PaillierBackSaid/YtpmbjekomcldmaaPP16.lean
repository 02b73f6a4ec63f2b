/- Layer 6: what a key does, its walk: printed by wip/tools/walk.py. -/
import Derived.Test.YtpmbjekomcldmaaPAbsX
import Derived.Test.YtpmbjekomcldmaaPAbsP
import Derived.Test.YtpmbjekomcldmaaPS42

set_option linter.unusedVariables false
set_option linter.unusedSimpArgs false
set_option maxRecDepth 10000
namespace Go.Ab
open Go.Proofs Go.Num

inductive ref06_hidden_St
  | fn (x1 : List Nat) (x2 : List Nat)
  | no

abbrev ref06_hidden_Res := List Nat

noncomputable def ref06_hidden_fn' (x1 : List Nat) (x2 : List Nat) : Option (ref06_hidden_St ⊕ ref06_hidden_Res) :=
  (need (powOk x2 x1 (paillier_square' x1))).bind fun c4_0 => some (.inr (powN x2 x1 (paillier_square' x1)))

noncomputable def ref06_hidden_step : ref06_hidden_St → Option (ref06_hidden_St ⊕ ref06_hidden_Res)
  | .fn x1 x2 => ref06_hidden_fn' x1 x2
  | .no => none

inductive paillier_Encrypt_St
  | fn (x1 : List Nat) (x2 : List Nat) (x3 : List Nat)
  | no

abbrev paillier_Encrypt_Res := List Nat × Int

noncomputable def paillier_Encrypt_fn' (x1 : List Nat) (x2 : List Nat) (x3 : List Nat) : Option (paillier_Encrypt_St ⊕ paillier_Encrypt_Res) :=
  cond (!((paillier_May' x1))) (some (.inr ([], 1))) (cond (!((paillier_isPlain' x1 x2))) (some (.inr ([], 10))) (cond (!((paillier_alone' x3 x1 x1))) (some (.inr ([], 1))) ((need (powerOk x1 x3 x1)).bind fun c16_0 => some (.inr ((paillier_times' x1 (paillier_shown' x1 x2) (powN x3 x1 (paillier_square' x1))), 0)))))

noncomputable def paillier_Encrypt_step : paillier_Encrypt_St → Option (paillier_Encrypt_St ⊕ paillier_Encrypt_Res)
  | .fn x1 x2 x3 => paillier_Encrypt_fn' x1 x2 x3
  | .no => none

@[reducible] def paillier_Encrypt_post (h0 : AH) (r : paillier_Encrypt_Res) (v : AV) (h' : AH) : Prop := ∃ s1 : Sl, v = .tup [s1.v, .int .i64 r.2] ∧ Nats h' s1 r.1 ∧ Grow h0 h' ∧ Own h0 s1

def paillier_Encrypt_At (r : paillier_Encrypt_Res) : paillier_Encrypt_St → Prop
  | .fn x1 x2 x3 => ∀ {h : AH} {a1 : Sl} {a2 : Sl} {a3 : Sl}, Nats h a1 x1 → Nats h a2 x2 → Nats h a3 x3 → Runs (go (.fn F.paillier_Encrypt [a1.v, a2.v, a3.v]) h) (paillier_Encrypt_post h r)
  | .no => True

theorem paillier_Encrypt_fn_walk {r : paillier_Encrypt_Res} {o : paillier_Encrypt_St ⊕ paillier_Encrypt_Res} {x1 : List Nat} {x2 : List Nat} {x3 : List Nat} (e : paillier_Encrypt_fn' x1 x2 x3 = some o) (good : GoodS (paillier_Encrypt_At r) r o) : paillier_Encrypt_At r (.fn x1 x2 x3) := by
  intro h a1 a2 a3 n1 n2 n3
  rw [u_paillier_Encrypt]
  unfold paillier_Encrypt_fn' at e
  obtain ⟨_, H4, e4, rfl, g4⟩ := paillier_May_spec n1
  refine Runs.step e4 ?_
  refine Runs.step (seen rfl) ?_
  refine Runs.cond (fun k5 => ?_) (fun k5 => ?_)
  · replace e := (condT k5).symm.trans e
    cases e
    cases good
    exact Runs.ret ⟨(⟨none, 0, .is 0⟩ : Sl), rfl, (Nats.nil _), g4, (Own.nil _)⟩
  · replace e := (condF k5).symm.trans e
    obtain ⟨_, H6, e6, rfl, g6⟩ := paillier_isPlain_spec (n1.grow g4) (n2.grow g4)
    refine Runs.step e6 ?_
    refine Runs.step (seen rfl) ?_
    refine Runs.cond (fun k7 => ?_) (fun k7 => ?_)
    · replace e := (condT k7).symm.trans e
      cases e
      cases good
      exact Runs.ret ⟨(⟨none, 0, .is 0⟩ : Sl), rfl, (Nats.nil _), (g4.trans g6), (Own.nil _)⟩
    · replace e := (condF k7).symm.trans e
      obtain ⟨_, H8, e8, rfl, g8⟩ := paillier_alone_spec (n3.grow (g4.trans g6)) (n1.grow (g4.trans g6)) (n1.grow (g4.trans g6))
      refine Runs.step e8 ?_
      refine Runs.step (seen rfl) ?_
      refine Runs.cond (fun k9 => ?_) (fun k9 => ?_)
      · replace e := (condT k9).symm.trans e
        cases e
        cases good
        have G10 := ((g4.trans g6).trans g8)
        exact Runs.ret ⟨(⟨none, 0, .is 0⟩ : Sl), rfl, (Nats.nil _), G10, (Own.nil _)⟩
      · replace e := (condF k9).symm.trans e
        have G10 := ((g4.trans g6).trans g8)
        have n1_11 := n1.grow G10
        have n2_12 := n2.grow G10
        obtain ⟨_, H13, e13, s13, rfl, n13, g13, o13⟩ := paillier_shown_spec n1_11 n2_12
        refine Runs.step e13 ?_
        refine Runs.step (seen (asSl_v _)) ?_
        have G14 := (G10.trans g13)
        have n3_15 := n3.grow G14
        obtain ⟨c16_0, q16_0, e⟩ := Option.bind_eq_some_iff.1 e
        obtain ⟨_, H16, e16, s16, rfl, n16, g16, o16⟩ := paillier_power_need (n1_11.grow g13) n3_15 (n1_11.grow g13)  c16_0.down
        refine Runs.step e16 ?_
        refine Runs.step (seen (asSl_v _)) ?_
        obtain ⟨_, H17, e17, s17, rfl, n17, g17, o17⟩ := paillier_times_spec (n1_11.grow (g13.trans g16)) (n13.grow g16) n16
        refine Runs.step e17 ?_
        refine Runs.step (seen (asSl_v _)) ?_
        cases e
        cases good
        have G18 := (G14.trans g16)
        have G19 := (G18.trans g17)
        exact Runs.ret ⟨s17, rfl, n17, G19, (o17.of_le G18)⟩

theorem paillier_Encrypt_run {s : paillier_Encrypt_St} {r : paillier_Encrypt_Res} (it : Iter paillier_Encrypt_step s r) : paillier_Encrypt_At r s := Iter.ind (fun s o e good => by
  cases s with
  | fn x1 x2 x3 => exact @paillier_Encrypt_fn_walk _ _ x1 x2 x3 e good
  | no => exact True.intro
  ) it

theorem paillier_Encrypt_opt {h : AH} {a1 : Sl} {a2 : Sl} {a3 : Sl} {x1 : List Nat} {x2 : List Nat} {x3 : List Nat} (n1 : Nats h a1 x1) (n2 : Nats h a2 x2) (n3 : Nats h a3 x3) {r : paillier_Encrypt_Res} (q : runP paillier_Encrypt_step (.fn x1 x2 x3) = some r) : Runs (go (.fn F.paillier_Encrypt [a1.v, a2.v, a3.v]) h) (paillier_Encrypt_post h r) := paillier_Encrypt_run (runP_iter q) n1 n2 n3

inductive ref06_Encrypt_St
  | fn (x1 : List Nat) (x2 : List Nat) (x3 : List Nat)
  | no

abbrev ref06_Encrypt_Res := List Nat × Int

noncomputable def ref06_Encrypt_fn' (x1 : List Nat) (x2 : List Nat) (x3 : List Nat) : Option (ref06_Encrypt_St ⊕ ref06_Encrypt_Res) :=
  cond (!((paillier_May' x1))) (some (.inr ([], 1))) (cond (!((paillier_isPlain' x1 x2))) (some (.inr ([], 10))) (cond (!((paillier_alone' x3 x1 x1))) (some (.inr ([], 1))) ((runP ref06_hidden_step (.fn x1 x3)).bind fun p16 => some (.inr ((ref02_Times' (paillier_shown' x1 x2) p16 (paillier_square' x1)), 0)))))

noncomputable def ref06_Encrypt_step : ref06_Encrypt_St → Option (ref06_Encrypt_St ⊕ ref06_Encrypt_Res)
  | .fn x1 x2 x3 => ref06_Encrypt_fn' x1 x2 x3
  | .no => none

inductive law06_awake_St
  | fn 
  | no

abbrev law06_awake_Res := Bool

noncomputable def law06_awake_fn'  : Option (law06_awake_St ⊕ law06_awake_Res) :=
  (u64P 17947).bind fun w4 => (u64P 5).bind fun w5 => (u64P 1).bind fun w6 => (runP paillier_Encrypt_step (.fn [w4] [w5] [w6])).bind fun p7 => cond (decide ((p7.2) = 0)) (cond (decide ((List.length p7.1 : Int) = 1)) ((atI p7.1 0).bind fun y10 => some (.inr (decide (((y10 : Int)) = 89736)))) (some (.inr false))) (some (.inr false))

noncomputable def law06_awake_step : law06_awake_St → Option (law06_awake_St ⊕ law06_awake_Res)
  | .fn  => law06_awake_fn' 
  | .no => none

@[reducible] def law06_awake_post (h0 : AH) (r : law06_awake_Res) (v : AV) (h' : AH) : Prop := v = .bool r ∧ Grow h0 h'

def law06_awake_At (r : law06_awake_Res) : law06_awake_St → Prop
  | .fn  => ∀ {h : AH}, Runs (go (.fn F.law06_awake []) h) (law06_awake_post h r)
  | .no => True

theorem law06_awake_fn_walk {r : law06_awake_Res} {o : law06_awake_St ⊕ law06_awake_Res}  (e : law06_awake_fn'  = some o) (good : GoodS (law06_awake_At r) r o) : law06_awake_At r (.fn ) := by
  intro h
  rw [u_law06_awake]
  unfold law06_awake_fn' at e
  refine Runs.new fun H1 b1 g1 => ?_
  refine Runs.new fun H2 b2 g2 => ?_
  refine Runs.new fun H3 b3 g3 => ?_
  obtain ⟨w4, z4, e⟩ := Option.bind_eq_some_iff.1 e
  obtain ⟨w5, z5, e⟩ := Option.bind_eq_some_iff.1 e
  obtain ⟨w6, z6, e⟩ := Option.bind_eq_some_iff.1 e
  obtain ⟨p7, q7, e⟩ := Option.bind_eq_some_iff.1 e
  obtain ⟨_, H7, e7, s7, rfl, n7, g7, o7⟩ := paillier_Encrypt_opt (Nats.of_has1 ((g2.trans g3).has b1) z4) (Nats.of_has1 (g3.has b2) z5) (Nats.of_has1 b3 z6) q7
  refine Runs.step e7 ?_
  refine Runs.step rfl ?_
  refine Runs.step (seen (asSl_v _)) ?_
  rw [n7.len]
  refine Runs.step (seen (avInt_int _ _)) ?_
  refine Runs.cond (fun k8 => ?_) (fun k8 => ?_)
  · replace e := (condT k8).symm.trans e
    refine Runs.cond (fun k9 => ?_) (fun k9 => ?_)
    · replace e := (condT k9).symm.trans e
      obtain ⟨y10, q10, e⟩ := Option.bind_eq_some_iff.1 e
      obtain ⟨r10, j10, l10⟩ := n7.atI q10
      refine Runs.step j10 ?_
      refine Runs.step (rdc l10 (avInt_int _ _)) ?_
      cases e
      cases good
      have G11 := (((g1.trans g2).trans g3).trans g7)
      exact Runs.ret ⟨rfl, G11⟩
    · replace e := (condF k9).symm.trans e
      cases e
      cases good
      have G10 := (((g1.trans g2).trans g3).trans g7)
      exact Runs.ret ⟨rfl, G10⟩
  · replace e := (condF k8).symm.trans e
    cases e
    cases good
    have G9 := (((g1.trans g2).trans g3).trans g7)
    exact Runs.ret ⟨rfl, G9⟩

theorem law06_awake_run {s : law06_awake_St} {r : law06_awake_Res} (it : Iter law06_awake_step s r) : law06_awake_At r s := Iter.ind (fun s o e good => by
  cases s with
  | fn  => exact @law06_awake_fn_walk _ _  e good
  | no => exact True.intro
  ) it

end Go.Ab

/- Layer 6: what a key does, what it answers; the document's is the same. -/
set_option linter.unusedVariables false
set_option linter.unusedSimpArgs false
set_option maxRecDepth 10000
namespace Go.Ab
open Go.Proofs Go.Num

theorem cmpN_lt {xs ys : List Nat} (hx : rt xs = true) (hy : rt ys = true) (h : cmpN xs ys < 0) : num B xs < num B ys := by
  rw [cmpN_rt2 hx hy] at h
  unfold cmp at h
  split at h
  · assumption
  · split at h <;> simp at h

theorem alone_facts {cs ns bs : List Nat} (h : paillier_alone' cs ns bs = true) (hb : rt bs = true) : rt cs = true ∧ num B cs < num B bs := by
  unfold paillier_alone' at h
  cases hr : rt cs with
  | false => rw [hr] at h; cases h
  | true =>
    rw [hr] at h
    refine ⟨rfl, cmpN_lt hr hb ?_⟩
    simp only [Bool.not_true, cond_false] at h
    by_cases h0 : decide ((cs.length : Int) = 0) = true
    · rw [h0] at h; cases h
    · rw [Bool.not_eq_true] at h0
      rw [h0, cond_false] at h
      by_cases h1 : decide (cmpN cs bs ≥ 0) = true
      · rw [h1] at h; cases h
      · rw [decide_eq_true_eq] at h1
        omega

section
variable {ns xs es : List Nat} (ln : ∀ x ∈ ns, x < B) (le : ∀ x ∈ es, x < B)
include ln le

theorem pow_oks (m : paillier_May' ns = true) (hx : rt xs = true) (h1 : num B xs < num B ns * num B ns) (he : rt es = true) (h2 : num B es ≤ num B ns) : powerOk ns xs es ∧ powOk xs es (paillier_square' ns) := by
  obtain ⟨m1, m2, m3, m4⟩ := may_facts ln m
  obtain ⟨q1, q2, q3, q4⟩ := square_may ln m
  have h8 : es.length ≤ 8 := by
    have := (digs_len B2 (num B es) 8).2 (Nat.lt_of_le_of_lt h2 (Nat.lt_trans m4 (by decide)))
    rwa [digs_of_rt le he] at this
  have h3 : (paillier_square' ns).length ≤ 3 := by rw [q1]; exact (digs_len B2 _ 3).2 q2
  have hn : num B (paillier_square' ns) = num B ns * num B ns := by rw [q1, num_digs B2]
  refine ⟨⟨m, hx, h1, he, h8⟩, hx, he, ?_, by omega, by rw [hn]; exact q3, by rw [hn]; exact h1⟩
  rw [q1]
  exact rt_digs (Nat.lt_of_lt_of_le q2 (Nat.pow_le_pow_right (by decide) (by decide)))
end

section
variable {ns xs ys : List Nat} (ln : ∀ x ∈ ns, x < B) (lx : ∀ x ∈ xs, x < B) (ly : ∀ x ∈ ys, x < B)

theorem hide_oks (ln : ∀ x ∈ ns, x < B) (lx : ∀ x ∈ xs, x < B) (m : paillier_May' ns = true) (a : paillier_alone' xs ns ns = true) : powerOk ns xs ns ∧ powOk xs ns (paillier_square' ns) := by
  obtain ⟨m1, m2, m3, m4⟩ := may_facts ln m
  obtain ⟨a1, a2⟩ := alone_facts a m1
  refine pow_oks ln ln m a1 (Nat.lt_of_lt_of_le a2 ?_) m1 (Nat.le_refl _)
  have := Nat.mul_le_mul_left (num B ns) (show 1 ≤ num B ns by omega)
  omega

def encF (ns ms rs : List Nat) : List Nat × Int :=
  cond (!paillier_May' ns) ([], 1) (cond (!paillier_isPlain' ns ms) ([], 10) (cond (!paillier_alone' rs ns ns) ([], 1) (ref02_Times' (paillier_shown' ns ms) (powN rs ns (paillier_square' ns)) (paillier_square' ns), 0)))
include ln lx

theorem hidden_run (m : paillier_May' ns = true) (a : paillier_alone' xs ns ns = true) : runP ref06_hidden_step (.fn ns xs) = some (powN xs ns (paillier_square' ns)) := by
  refine runP_of (.done ?_)
  show ref06_hidden_fn' _ _ = _
  unfold ref06_hidden_fn'
  rw [need_of (hide_oks ln lx m a).2]
  rfl

theorem enc_iter (ms : List Nat) : Iter paillier_Encrypt_step (.fn ns ms xs) (encF ns ms xs) ∧ Iter ref06_Encrypt_step (.fn ns ms xs) (encF ns ms xs) := by
  refine ⟨.done ?_, .done ?_⟩
  · show paillier_Encrypt_fn' _ _ _ = _
    unfold paillier_Encrypt_fn' encF
    cases m : paillier_May' ns
    · rfl
    cases p : paillier_isPlain' ns ms
    · rfl
    cases a : paillier_alone' xs ns ns
    · rfl
    rw [need_of (hide_oks ln lx m a).1]
    rfl
  · show ref06_Encrypt_fn' _ _ _ = _
    unfold ref06_Encrypt_fn' encF
    cases m : paillier_May' ns
    · rfl
    cases p : paillier_isPlain' ns ms
    · rfl
    cases a : paillier_alone' xs ns ns
    · rfl
    rw [hidden_run ln lx m a]
    rfl

end

section
variable {h : AH} {s t u : Sl} {ns xs ys : List Nat} (n : Nats h s ns) (m : Nats h t xs) (k : Nats h u ys)
include n m k
theorem paillier_Encrypt_is : Runs (go (.fn F.paillier_Encrypt [s.v, t.v, u.v]) h) (paillier_Encrypt_post h (encF ns xs ys)) := paillier_Encrypt_opt n m k (runP_of (enc_iter n.lt k.lt xs).1)
end

end Go.Ab

/- Layer 6: 5, hidden behind 1. -/
set_option linter.unusedVariables false
set_option linter.unusedSimpArgs false
set_option maxRecDepth 10000
namespace Go.Ab
open Go.Proofs Go.Num

theorem enc_5 : encF [17947] [5] [1] = ([89736], 0) := by decide +kernel

theorem awake06 {h : AH} : ∃ h', go (.fn F.law06_awake []) h = some (.bool true, h') ∧ Grow h h' := by
  have it : Iter law06_awake_step .fn true := .done (by
    show law06_awake_fn' = _
    unfold law06_awake_fn'
    rw [show u64P 17947 = some 17947 from rfl, Option.bind_some, show u64P 5 = some 5 from rfl, Option.bind_some, show u64P 1 = some 1 from rfl, Option.bind_some, runP_of (enc_iter (by decide) (by decide) [5]).1, Option.bind_some, enc_5]
    rfl)
  obtain ⟨_, h', e, rfl, g⟩ := law06_awake_run it (h := h)
  exact ⟨h', e, g⟩

end Go.Ab

/- Layer 6: the laws, their walk: printed by wip/tools/walk.py. -/
set_option linter.unusedVariables false
set_option linter.unusedSimpArgs false
set_option maxRecDepth 10000
namespace Go.Ab
open Go.Proofs Go.Num

end Go.Ab

/- Layer 6: the laws Encrypts, Sums, Scales. -/
set_option linter.unusedVariables false
set_option linter.unusedSimpArgs false
set_option maxRecDepth 10000
namespace Go.Ab
open Go.Proofs Go.Num

end Go.Ab

/- Loops over functions: what a round makes of the loop's note. -/
set_option linter.unusedVariables false
set_option linter.unusedSimpArgs false
namespace Go.Ab

theorem AH.setBlk_get {h : AH} {l : Nat} {b : ABlk} (hl : l < h.blks.size) : (h.setBlk l b).blks[l]? = some b := by
  simp [AH.setBlk, hl]
theorem AH.setBlk_ne {h : AH} {l i : Nat} {b : ABlk} (hi : i ≠ l) : (h.setBlk l b).blks[i]? = h.blks[i]? := by
  simp only [AH.setBlk]
  rw [Array.getElem?_setIfInBounds_ne (fun e => hi e.symm)]
theorem AH.setBlk_size (h : AH) (l : Nat) (b : ABlk) : (h.setBlk l b).blks.size = h.blks.size := by simp [AH.setBlk]

theorem AH.setBlk_setBlk (h : AH) (l : Nat) (b c : ABlk) : (h.setBlk l b).setBlk l c = h.setBlk l c := by
  simp [AH.setBlk]
theorem AH.setBlk_same {h : AH} {l : Nat} {b : ABlk} (hb : h.blks[l]? = some b) : h.setBlk l b = h := by
  obtain ⟨hl, he⟩ := Array.getElem?_eq_some_iff.1 hb
  have : h.blks.setIfInBounds l b = h.blks := by
    apply Array.ext
    · simp
    · intro i h1 h2
      rw [Array.getElem_setIfInBounds]
      split
      · subst_vars; rfl
      · rfl
  unfold AH.setBlk
  rw [this]

theorem Grow.setBlk {h h1 : AH} (g : Grow h h1) {l : Nat} (hl : h.blks.size ≤ l) (b : ABlk) : Grow h (h1.setBlk l b) :=
  ⟨g.old, by rw [AH.setBlk_size]; exact g.size, fun i hi => by rw [AH.setBlk_ne (by omega)]; exact g.blk i hi⟩

/-- A round begins. -/
theorem beginA_is {h : AH} {l : Nat} {pe : Option Code} {f : FuncId} {fr : Fr} {ps : Array Tmp} {bs bd : Code} {d : Nat} (hb : h.blks[l]? = some (.loop .ready pe f fr ps bs bd d)) :
    beginA l h = some (h.setBlk l (.loop .busy pe f fr ps bs bd d)) := by
  simp only [beginA, hb]
/-- A round ends. -/
theorem endRoundA_is {h : AH} {l : Nat} {st : LoopState} {pe : Option Code} {f : FuncId} {fr : Fr} {ps : Array Tmp} {bs bd : Code} {d : Nat} (hb : h.blks[l]? = some (.loop st pe f fr ps bs bd d)) (j : Option Code) :
    endRoundA l j h = some (.bool j.isNone, h.setBlk l (.loop (cond j.isNone .ready .done) j f fr ps bs bd d)) := by
  simp only [endRoundA, hb]
theorem endLoopA_ready {h : AH} {l : Nat} {pe : Option Code} {f : FuncId} {fr : Fr} {ps : Array Tmp} {bs bd : Code} {d : Nat} (hb : h.blks[l]? = some (.loop .ready pe f fr ps bs bd d)) : endLoopA l h = some (pe, h.setBlk l .dead) := by
  simp only [endLoopA, hb]
  rfl
theorem endLoopA_done {h : AH} {l : Nat} {pe : Option Code} {f : FuncId} {fr : Fr} {ps : Array Tmp} {bs bd : Code} {d : Nat} (hb : h.blks[l]? = some (.loop .done pe f fr ps bs bd d)) : endLoopA l h = some (pe, h.setBlk l .dead) := by
  simp only [endLoopA, hb]
  rfl

theorem funcK_func {R : Type} {f : FuncId} {a c : List AV} {k : FuncId → List AV → List AV → Option R} : funcK (.func (.func f) a c) k = k f a c := rfl

theorem Runs.newM {P : AV → AH → Prop} {h : AH} {b : ABlk} {K : Nat → AH → Option (AV × AH)} (H : ∀ h', h'.blks[h.blks.size]? = some b → Grow h h' → Runs (K h.blks.size h') P) : Runs (newM h b K) P :=
  H _ (by simp [AH.alloc]) (Grow.push h _)
end Go.Ab

/- Numbers: rests, primes, the small theorem of Fermat; what a key of two primes hides. No program in sight. -/
set_option linter.unusedVariables false
set_option linter.unusedSimpArgs false
namespace Go.Num

def Cg (n a b : Nat) : Prop := a % n = b % n

theorem Cg.rfl {n a : Nat} : Cg n a a := Eq.refl _
theorem Cg.symm {n a b : Nat} (h : Cg n a b) : Cg n b a := Eq.symm h
theorem Cg.trans {n a b c : Nat} (h : Cg n a b) (k : Cg n b c) : Cg n a c := Eq.trans h k
theorem Cg.of_eq {n a b : Nat} (h : a = b) : Cg n a b := by subst h; exact Cg.rfl
theorem Cg.mod {n a : Nat} : Cg n (a % n) a := Nat.mod_mod _ _
theorem Cg.add {n a b c d : Nat} (h : Cg n a b) (k : Cg n c d) : Cg n (a + c) (b + d) := by
  unfold Cg at *
  rw [Nat.add_mod, h, k, ← Nat.add_mod]
theorem Cg.mul {n a b c d : Nat} (h : Cg n a b) (k : Cg n c d) : Cg n (a * c) (b * d) := by
  unfold Cg at *
  rw [Nat.mul_mod, h, k, ← Nat.mul_mod]
theorem Cg.pow {n a b : Nat} (h : Cg n a b) : ∀ k : Nat, Cg n (a ^ k) (b ^ k)
  | 0 => Cg.rfl
  | k + 1 => (h.pow k).mul h
theorem Cg.zero {n a : Nat} : Cg n (n * a) 0 := by unfold Cg; rw [Nat.mul_mod_right, Nat.zero_mod]
theorem Cg.add_mul {n a b : Nat} : Cg n (a + n * b) a := by unfold Cg; rw [Nat.add_mul_mod_self_left]
theorem Cg.of_dvd {m n a b : Nat} (d : m ∣ n) (h : Cg n a b) : Cg m a b := by
  unfold Cg at *
  rw [← Nat.mod_mod_of_dvd a d, h, Nat.mod_mod_of_dvd b d]
theorem Cg.eq {n a b : Nat} (h : Cg n a b) (ha : a < n) (hb : b < n) : a = b := by
  unfold Cg at h
  rwa [Nat.mod_eq_of_lt ha, Nat.mod_eq_of_lt hb] at h
theorem Cg.dvd_sub {n a b : Nat} (h : Cg n a b) (hl : b ≤ a) : n ∣ a - b := Nat.dvd_of_mod_eq_zero (Nat.sub_mod_eq_zero_of_mod_eq h)
theorem Cg.of_dvd_sub {n a b : Nat} (hl : b ≤ a) (h : n ∣ a - b) : Cg n a b := by
  obtain ⟨c, hc⟩ := h
  have : a = b + n * c := by omega
  rw [this]
  exact Cg.add_mul
theorem Cg.cancel_le {n a b c : Nat} (co : Nat.Coprime n c) (hl : b ≤ a) (h : Cg n (a * c) (b * c)) : Cg n a b := by
  have h1 := h.dvd_sub (Nat.mul_le_mul_right _ hl)
  rw [← Nat.sub_mul] at h1
  exact Cg.of_dvd_sub hl (Nat.Coprime.dvd_of_dvd_mul_right co h1)
theorem Cg.cancel {n a b c : Nat} (co : Nat.Coprime n c) (h : Cg n (a * c) (b * c)) : Cg n a b := by
  rcases Nat.le_total b a with hl | hl
  · exact Cg.cancel_le co hl h
  · exact (Cg.cancel_le co hl h.symm).symm
theorem Cg.cancel_left {n a b c : Nat} (co : Nat.Coprime n c) (h : Cg n (c * a) (c * b)) : Cg n a b := by
  rw [Nat.mul_comm c, Nat.mul_comm c] at h
  exact h.cancel co
/-- What is alike by m times n, each a multiple of m. -/
theorem Cg.div {m n a b : Nat} (hm : 0 < m) (h : Cg (m * n) (m * a) (m * b)) : Cg n a b := by
  unfold Cg at *
  rw [Nat.mul_mod_mul_left, Nat.mul_mod_mul_left] at h
  exact Nat.eq_of_mul_eq_mul_left hm h
theorem Cg.times {m n a b : Nat} (h : Cg n a b) : Cg (m * n) (m * a) (m * b) := by
  unfold Cg at *
  rw [Nat.mul_mod_mul_left, Nat.mul_mod_mul_left, h]
theorem Cg.cancel_add {n a b c : Nat} (h : Cg n (c + a) (c + b)) : Cg n a b := by
  rcases Nat.le_total b a with hl | hl
  · refine Cg.of_dvd_sub hl ?_
    have := h.dvd_sub (by omega)
    rwa [Nat.add_sub_add_left] at this
  · refine (Cg.of_dvd_sub hl ?_).symm
    have := h.symm.dvd_sub (by omega)
    rwa [Nat.add_sub_add_left] at this
theorem Cg.both {m n a b : Nat} (co : Nat.Coprime m n) (h : Cg m a b) (k : Cg n a b) : Cg (m * n) a b := by
  rcases Nat.le_total b a with hl | hl
  · exact Cg.of_dvd_sub hl (co.mul_dvd_of_dvd_of_dvd (h.dvd_sub hl) (k.dvd_sub hl))
  · exact (Cg.of_dvd_sub hl (co.mul_dvd_of_dvd_of_dvd (h.symm.dvd_sub hl) (k.symm.dvd_sub hl))).symm

def prodL : List Nat → Nat
  | [] => 1
  | x :: xs => x * prodL xs

theorem prodL_perm {l m : List Nat} (h : l.Perm m) : prodL l = prodL m := by
  induction h with
  | nil => rfl
  | cons x _ ih => rw [prodL, prodL, ih]
  | swap x y l => simp only [prodL]; rw [Nat.mul_left_comm]
  | trans _ _ i j => rw [i, j]

theorem perm_of_sub : ∀ {l m : List Nat}, l.Nodup → (∀ x ∈ l, x ∈ m) → l.length = m.length → l.Perm m
  | [], m, _, _, h => by
    have : m = [] := List.length_eq_zero_iff.1 h.symm
    subst this
    exact .nil
  | x :: l, m, hn, hs, h => by
    have hx : x ∈ m := hs x (by simp)
    obtain ⟨h1, h2⟩ := List.nodup_cons.1 hn
    have hl : (m.erase x).length = l.length := by rw [List.length_erase_of_mem hx, ← h]; simp
    refine List.Perm.trans (List.Perm.cons x (perm_of_sub h2 (fun y hy => ?_) hl.symm)) (List.perm_cons_erase hx).symm
    have : y ≠ x := fun e => h1 (e ▸ hy)
    exact (List.mem_erase_of_ne this).2 (hs y (by simp [hy]))

def IsPrime (p : Nat) : Prop := 2 ≤ p ∧ ∀ d, d ∣ p → d = 1 ∨ d = p

theorem IsPrime.coprime {p a : Nat} (h : IsPrime p) (ha : ¬ p ∣ a) : Nat.Coprime p a := by
  rcases h.2 _ (Nat.gcd_dvd_left p a) with e | e
  · exact e
  · exact absurd (e ▸ Nat.gcd_dvd_right p a) ha
theorem IsPrime.dvd_mul {p a b : Nat} (h : IsPrime p) (d : p ∣ a * b) : p ∣ a ∨ p ∣ b := by
  by_cases ha : p ∣ a
  · exact .inl ha
  · exact .inr ((h.coprime ha).dvd_of_dvd_mul_left d)

theorem prodL_map {p a : Nat} : ∀ l : List Nat, Cg p (prodL (l.map fun i => a * i % p)) (a ^ l.length * prodL l)
  | [] => Cg.of_eq (by simp [prodL])
  | x :: l => by
    have := (Cg.mod (n := p) (a := a * x)).mul (prodL_map (p := p) (a := a) l)
    refine this.trans (Cg.of_eq ?_)
    rw [List.length_cons, Nat.pow_succ, prodL]
    simp only [Nat.mul_assoc, Nat.mul_comm, Nat.mul_left_comm]

theorem not_dvd_prodL {p : Nat} (h : IsPrime p) : ∀ l : List Nat, (∀ x ∈ l, ¬ p ∣ x) → ¬ p ∣ prodL l
  | [], _, d => by
    have := Nat.le_of_dvd (by decide) d
    have := h.1
    simp [prodL] at *
    omega
  | x :: l, hx, d => by
    rcases h.dvd_mul d with e | e
    · exact hx x (by simp) e
    · exact not_dvd_prodL h l (fun y hy => hx y (by simp [hy])) e

theorem map_nodup {f : Nat → Nat} : ∀ {l : List Nat}, l.Nodup → (∀ x ∈ l, ∀ y ∈ l, f x = f y → x = y) → (l.map f).Nodup
  | [], _, _ => by simp
  | x :: l, hn, hi => by
    obtain ⟨h1, h2⟩ := List.nodup_cons.1 hn
    rw [List.map_cons, List.nodup_cons]
    refine ⟨fun hm => ?_, map_nodup h2 fun a ha b hb => hi a (by simp [ha]) b (by simp [hb])⟩
    obtain ⟨y, hy, e⟩ := List.mem_map.1 hm
    exact h1 (hi y (by simp [hy]) x (by simp) e ▸ hy)

/-- The small theorem of Fermat. -/
theorem fermat {p a : Nat} (h : IsPrime p) (ha : ¬ p ∣ a) : Cg p (a ^ (p - 1)) 1 := by
  have hp := h.1
  have hl : (List.range' 1 (p - 1)).length = p - 1 := by simp
  have hmem : ∀ x, x ∈ List.range' 1 (p - 1) ↔ 1 ≤ x ∧ x < p := fun x => by rw [List.mem_range'_1]; omega
  have nd : ∀ x, 1 ≤ x ∧ x < p → ¬ p ∣ x := fun x hx d => by have := Nat.le_of_dvd (by omega) d; omega
  have inj : ∀ x ∈ List.range' 1 (p - 1), ∀ y ∈ List.range' 1 (p - 1), a * x % p = a * y % p → x = y := fun x hx y hy e => by
    have h1 := (hmem x).1 hx
    have h2 := (hmem y).1 hy
    exact (Cg.cancel_left (h.coprime ha) e).eq h1.2 h2.2
  have pm : ((List.range' 1 (p - 1)).map fun i => a * i % p).Perm (List.range' 1 (p - 1)) := by
    refine perm_of_sub (map_nodup List.nodup_range' inj) (fun z hz => ?_) (by simp)
    obtain ⟨x, hx, e⟩ := List.mem_map.1 hz
    subst e
    rw [hmem]
    refine ⟨?_, Nat.mod_lt _ (by omega)⟩
    rcases Nat.eq_zero_or_pos (a * x % p) with e | e
    · rcases h.dvd_mul (Nat.dvd_of_mod_eq_zero e) with d | d
      · exact absurd d ha
      · exact absurd d (nd x ((hmem x).1 hx))
    · exact e
  have e := prodL_map (p := p) (a := a) (List.range' 1 (p - 1))
  rw [prodL_perm pm, hl] at e
  have co : Nat.Coprime p (prodL (List.range' 1 (p - 1))) := h.coprime (not_dvd_prodL h _ fun x hx => nd x ((hmem x).1 hx))
  refine (Cg.cancel co ?_).symm
  rw [Nat.one_mul]
  exact e

theorem binom1 (n x : Nat) : ∀ k : Nat, Cg (n * n) ((1 + n * x) ^ k) (1 + n * (x * k))
  | 0 => Cg.of_eq (by simp)
  | k + 1 => by
    have := (binom1 n x k).mul (Cg.rfl (n := n * n) (a := 1 + n * x))
    refine this.trans ?_
    have e : (1 + n * (x * k)) * (1 + n * x) = 1 + n * (x * (k + 1)) + n * n * (x * k * x) := by
      rw [Nat.add_mul, Nat.mul_add, Nat.mul_add, Nat.mul_add]
      simp only [Nat.mul_assoc, Nat.mul_comm, Nat.mul_left_comm, Nat.one_mul, Nat.mul_one, Nat.mul_add]
      omega
    rw [e]
    exact Cg.add_mul

end Go.Num

/- What a key of two primes hides: plain, no program in sight. -/
set_option linter.unusedVariables false
set_option linter.unusedSimpArgs false
namespace Go.Num

theorem inv_exists {n f : Nat} (co : Nat.Coprime n f) (hn : 1 < n) : ∃ g, g < n ∧ Cg n (f * g) 1 := by
  have pm : ((List.range n).map fun i => f * i % n).Perm (List.range n) := by
    refine perm_of_sub (map_nodup List.nodup_range fun x hx y hy e => ?_) (fun z hz => ?_) (by simp)
    · exact (Cg.cancel_left co e).eq (List.mem_range.1 hx) (List.mem_range.1 hy)
    · obtain ⟨x, _, e⟩ := List.mem_map.1 hz
      subst e
      exact List.mem_range.2 (Nat.mod_lt _ (by omega))
  have h1 : 1 ∈ (List.range n).map fun i => f * i % n := pm.mem_iff.2 (List.mem_range.2 hn)
  obtain ⟨g, hg, e⟩ := List.mem_map.1 h1
  exact ⟨g, List.mem_range.1 hg, by unfold Cg; rw [e, Nat.mod_eq_of_lt hn]⟩

/-- What c hides, for a key's n and f. -/
def Hid (n f c m : Nat) : Prop := m < n ∧ Cg (n * n) (c ^ f) (1 + n * (m * f))

theorem Hid.cg {n f c d m : Nat} (h : Hid n f c m) (e : Cg (n * n) c d) : Hid n f d m := ⟨h.1, (e.symm.pow f).trans h.2⟩

theorem Hid.uniq {n f c x y : Nat} (co : Nat.Coprime n f) (hn : 0 < n) (h : Hid n f c x) (k : Hid n f c y) : x = y := by
  have e := (h.2.symm.trans k.2).cancel_add
  exact ((e.div hn).cancel co).eq h.1 k.1

theorem Hid.mul {n f c d x y : Nat} (hn : 0 < n) (h : Hid n f c x) (k : Hid n f d y) : Hid n f (c * d) ((x + y) % n) := by
  refine ⟨Nat.mod_lt _ hn, ?_⟩
  rw [Nat.mul_pow]
  refine (h.2.mul k.2).trans ?_
  have e : (1 + n * (x * f)) * (1 + n * (y * f)) = 1 + n * ((x + y) * f) + n * n * (x * f * (y * f)) := by
    rw [Nat.add_mul, Nat.mul_add, Nat.mul_add, Nat.add_mul x y, Nat.mul_add]
    simp only [Nat.mul_assoc, Nat.mul_comm, Nat.mul_left_comm, Nat.one_mul, Nat.mul_one]
    omega
  rw [e]
  refine Cg.add_mul.trans (Cg.rfl.add (Cg.times ?_))
  exact (Cg.mod.symm).mul Cg.rfl

theorem Hid.pow {n f c x : Nat} (hn : 0 < n) (h : Hid n f c x) (k : Nat) : Hid n f (c ^ k) (x * k % n) := by
  refine ⟨Nat.mod_lt _ hn, ?_⟩
  rw [← Nat.pow_mul, Nat.mul_comm k f, Nat.pow_mul]
  refine ((h.2.pow k).trans (binom1 n (x * f) k)).trans (Cg.rfl.add (Cg.times ?_))
  have e : x * f * k = x * k * f := by simp only [Nat.mul_assoc, Nat.mul_comm, Nat.mul_left_comm]
  rw [e]
  exact (Cg.mod.symm).mul Cg.rfl

theorem Hid.shown {n f m : Nat} (h : m < n) : Hid n f (m * n + 1) m := ⟨h, by
  rw [Nat.add_comm, Nat.mul_comm m n]
  exact binom1 n m f⟩

structure KeyOk (p q : Nat) : Prop where
  hp : IsPrime p
  hq : IsPrime q
  ne : p ≠ q
  co : Nat.Coprime (p * q) ((p - 1) * (q - 1))

theorem KeyOk.swap {p q : Nat} (k : KeyOk p q) : KeyOk q p := ⟨k.hq, k.hp, fun e => k.ne e.symm, by rw [Nat.mul_comm q p, Nat.mul_comm (q - 1)]; exact k.co⟩

section
variable {p q : Nat} (k : KeyOk p q)
include k

theorem KeyOk.not_dvd : ¬ p ∣ q := fun d => by
  rcases k.hq.2 p d with e | e
  · have := k.hp.1
    omega
  · exact k.ne e
theorem KeyOk.copq : Nat.Coprime p q := k.hp.coprime k.not_dvd
theorem KeyOk.pos : 1 < p * q := by
  have := Nat.mul_le_mul k.hp.1 k.hq.1
  omega
theorem KeyOk.cof : Nat.Coprime p (q - 1) := Nat.Coprime.coprime_dvd_left (Nat.dvd_mul_right p q) (Nat.Coprime.coprime_dvd_right (Nat.dvd_mul_left (q - 1) (p - 1)) k.co)
theorem KeyOk.ndq : ¬ p ∣ q * (p - 1) := fun d => by
  rcases k.hp.dvd_mul d with d | d
  · exact k.not_dvd d
  · have := Nat.le_of_dvd (by have := k.hp.1; omega) d
    have := k.hp.1
    omega

theorem KeyOk.unit {c : Nat} (h : Nat.Coprime c (p * q)) : ¬ p ∣ c := fun d => by
  have h1 : p ∣ Nat.gcd c (p * q) := Nat.dvd_gcd d (Nat.dvd_mul_right p q)
  rw [h] at h1
  have := Nat.le_of_dvd (by decide) h1
  have := k.hp.1
  omega

theorem KeyOk.euler {c : Nat} (h : Nat.Coprime c (p * q)) : Cg (p * q) (c ^ ((p - 1) * (q - 1))) 1 := by
  refine Cg.both k.copq ?_ ?_
  · rw [Nat.pow_mul]
    refine ((fermat k.hp (k.unit h)).pow _).trans (Cg.of_eq (Nat.one_pow _))
  · rw [Nat.mul_comm, Nat.pow_mul]
    refine ((fermat k.hq (k.swap.unit (by rw [Nat.mul_comm]; exact h))).pow _).trans (Cg.of_eq (Nat.one_pow _))

omit k in
theorem one_add {n u : Nat} (hn : 1 < n) (h : Cg n u 1) : u = 1 + n * (u / n) := by
  unfold Cg at h
  rw [Nat.mod_eq_of_lt hn] at h
  have := Nat.div_add_mod u n
  omega

/-- Each unit hides a number. -/
theorem KeyOk.hid {c : Nat} (h : Nat.Coprime c (p * q)) : ∃ m, Hid (p * q) ((p - 1) * (q - 1)) c m := by
  obtain ⟨g, hg, eg⟩ := inv_exists k.co k.pos
  have e := one_add k.pos (k.euler h)
  generalize hf : (p - 1) * (q - 1) = f at *
  generalize hn : p * q = n at *
  refine ⟨c ^ f / n * g % n, Nat.mod_lt _ (by have := k.pos; omega), ?_⟩
  refine (Cg.of_eq e).trans (Cg.rfl.add (Cg.times ?_))
  refine Cg.trans ?_ ((Cg.mod.symm).mul Cg.rfl)
  have e2 : c ^ f / n * g * f = c ^ f / n * (f * g) := by simp only [Nat.mul_assoc, Nat.mul_comm, Nat.mul_left_comm]
  rw [e2]
  have := (Cg.rfl (n := n) (a := c ^ f / n)).mul eg.symm
  rwa [Nat.mul_one] at this

theorem KeyOk.hider {r : Nat} (h : Nat.Coprime r (p * q)) : Hid (p * q) ((p - 1) * (q - 1)) (r ^ (p * q)) 0 := by
  have e := one_add k.pos (k.euler h)
  generalize hf : (p - 1) * (q - 1) = f at *
  generalize hn : p * q = n at *
  refine ⟨by have := k.pos; omega, ?_⟩
  rw [← Nat.pow_mul, Nat.mul_comm n f, Nat.pow_mul, e]
  refine (binom1 n _ n).trans ?_
  rw [Nat.zero_mul, Nat.mul_zero]
  have : n * (r ^ f / n * n) = n * n * (r ^ f / n) := by simp only [Nat.mul_assoc, Nat.mul_comm, Nat.mul_left_comm]
  rw [this]
  exact Cg.add_mul

/-- What x says by p. -/
def sayP (p x : Nat) : Nat := (x % (p * p)) ^ (p - 1) % (p * p) / p

theorem KeyOk.say {x : Nat} (h : ¬ p ∣ x) : (x % (p * p)) ^ (p - 1) % (p * p) = 1 + p * sayP p x ∧ sayP p x < p ∧ Cg (p * p) (x ^ (p - 1)) (1 + p * sayP p x) := by
  have hp := k.hp.1
  have e0 : Cg (p * p) ((x % (p * p)) ^ (p - 1) % (p * p)) (x ^ (p - 1)) := Cg.mod.trans (Cg.mod.pow _)
  have e1 : Cg p ((x % (p * p)) ^ (p - 1) % (p * p)) 1 := (e0.of_dvd (Nat.dvd_mul_right p p)).trans (fermat k.hp h)
  have e2 := one_add (by omega : 1 < p) e1
  refine ⟨e2, ?_, ?_⟩
  · unfold sayP
    rw [Nat.div_lt_iff_lt_mul (by omega)]
    exact Nat.mod_lt _ (Nat.mul_pos (by omega) (by omega))
  · exact e0.symm.trans (Cg.of_eq e2)

theorem KeyOk.say_one : Cg p (sayP p (1 * (p * q) + 1)) (q * (p - 1)) := by
  have hp := k.hp.1
  have nd : ¬ p ∣ 1 * (p * q) + 1 := fun d => by
    have : p ∣ 1 := (Nat.dvd_add_right (Nat.dvd_trans (Nat.dvd_mul_right p q) (Nat.dvd_mul_left _ _))).1 d
    have := Nat.le_of_dvd (by decide) this
    omega
  obtain ⟨_, _, e⟩ := k.say nd
  have e1 : 1 * (p * q) + 1 = 1 + p * q := by omega
  rw [e1] at e ⊢
  exact ((e.symm.trans (binom1 p q (p - 1))).cancel_add).div (by omega)

/-- By p, what c says is what it hides, times what 1 says. -/
theorem KeyOk.part {c m : Nat} (h : Nat.Coprime c (p * q)) (d : Hid (p * q) ((p - 1) * (q - 1)) c m) : Cg p (sayP p c) (m * sayP p (1 * (p * q) + 1)) := by
  have hp := k.hp.1
  obtain ⟨_, _, e⟩ := k.say (k.unit h)
  have e1 : Cg (p * p) (c ^ ((p - 1) * (q - 1))) (1 + p * (sayP p c * (q - 1))) := by
    rw [Nat.pow_mul]
    exact (e.pow _).trans (binom1 p _ _)
  have e2 : Cg (p * p) (c ^ ((p - 1) * (q - 1))) (1 + p * q * (m * ((p - 1) * (q - 1)))) := d.2.of_dvd (Nat.mul_dvd_mul (Nat.dvd_mul_right p q) (Nat.dvd_mul_right p q))
  have e3 := (e1.symm.trans e2).cancel_add
  rw [Nat.mul_assoc] at e3
  have e4 := e3.div (by omega)
  have e5 : q * (m * ((p - 1) * (q - 1))) = m * (q * (p - 1)) * (q - 1) := by simp only [Nat.mul_assoc, Nat.mul_comm, Nat.mul_left_comm]
  rw [e5] at e4
  refine (e4.cancel k.cof).trans ?_
  exact Cg.rfl.mul k.say_one.symm

theorem KeyOk.say_unit : Nat.Coprime p (sayP p (1 * (p * q) + 1)) := k.hp.coprime fun d => k.ndq (by
  have e := k.say_one
  unfold Cg at e
  rw [Nat.mod_eq_zero_of_dvd d] at e
  exact Nat.dvd_of_mod_eq_zero e.symm)

/-- The part that a decryption finds by p. -/
theorem KeyOk.found {c m i : Nat} (h : Nat.Coprime c (p * q)) (d : Hid (p * q) ((p - 1) * (q - 1)) c m) (hi : Cg p (sayP p (1 * (p * q) + 1) * i) 1) : sayP p c * i % p = m % p := by
  have e := (k.part h d).mul (Cg.rfl (n := p) (a := i))
  refine e.trans ?_
  rw [Nat.mul_assoc]
  have := (Cg.rfl (n := p) (a := m)).mul hi
  rwa [Nat.mul_one] at this

end

end Go.Num

/- Layer 5: the least divisor: plain. -/
set_option linter.unusedVariables false
set_option linter.unusedSimpArgs false
namespace Go.Num

/-- The least divisor above 1. -/
def Least (n d : Nat) : Prop := 2 ≤ d ∧ d ∣ n ∧ ∀ e, 2 ≤ e → e ∣ n → d ≤ e

theorem Least.uniq {n d e : Nat} (a : Least n d) (b : Least n e) : d = e := Nat.le_antisymm (a.2.2 e b.1 b.2.1) (b.2.2 d a.1 a.2.1)

theorem least_ex {n : Nat} (h : 2 ≤ n) : ∃ d, Least n d := by
  have key : ∀ k, (∃ d, d ≤ k ∧ 2 ≤ d ∧ d ∣ n) → ∃ d, Least n d := by
    intro k
    induction k with
    | zero => rintro ⟨d, h1, h2, _⟩; omega
    | succ k ih =>
      rintro ⟨d, h1, h2, h3⟩
      by_cases hk : ∃ e, e ≤ k ∧ 2 ≤ e ∧ e ∣ n
      · exact ih hk
      · refine ⟨d, h2, h3, fun e he hd => ?_⟩
        rcases Nat.lt_or_ge e d with h | h
        · exact absurd ⟨e, by omega, he, hd⟩ hk
        · exact h
  exact key n ⟨n, Nat.le_refl _, h, Nat.dvd_refl _⟩

noncomputable def leastN (n : Nat) : Nat := by
  classical
  exact if h : ∃ d, Least n d then h.choose else 0

theorem leastN_of {n d : Nat} (h : Least n d) : leastN n = d := by
  unfold leastN
  have hx : ∃ d, Least n d := ⟨d, h⟩
  rw [dif_pos hx]
  exact hx.choose_spec.uniq h

theorem leastN_is {n : Nat} (h : 2 ≤ n) : Least n (leastN n) := by
  obtain ⟨d, hd⟩ := least_ex h
  rw [leastN_of hd]; exact hd

theorem Least.prime {n d : Nat} (h : Least n d) : IsPrime d := ⟨h.1, fun e he => by
  rcases Nat.eq_zero_or_pos e with h0 | h0
  · rw [h0] at he
    have := Nat.eq_zero_of_zero_dvd he
    have := h.1
    omega
  · rcases Nat.lt_or_ge e 2 with h1 | h1
    · left; omega
    · right
      exact Nat.le_antisymm (Nat.le_of_dvd (by have := h.1; omega) he) (h.2.2 e h1 (Nat.dvd_trans he h.2.1))⟩

/-- Where no divisor is found up to the root, there is none. -/
theorem least_self {n : Nat} (h : 2 ≤ n) (no : ∀ e, 2 ≤ e → e * e ≤ n → ¬ e ∣ n) : Least n n := by
  obtain ⟨d, hd⟩ := least_ex h
  rcases Nat.lt_or_ge n (d * d) with hl | hl
  · obtain ⟨c, hc⟩ := hd.2.1
    have : c = 1 := by
      rcases Nat.lt_or_ge c 2 with h2 | h2
      · rcases Nat.eq_zero_or_pos c with h0 | h0
        · rw [h0] at hc; omega
        · omega
      · have h3 := hd.2.2 c h2 ⟨d, by rw [hc, Nat.mul_comm]⟩
        have : d * d ≤ d * c := Nat.mul_le_mul_left _ h3
        omega
    rw [this, Nat.mul_one] at hc
    rw [← hc] at hd
    exact hd
  · exact absurd hd.2.1 (no d hd.1 hl)

theorem least_of {n d : Nat} (h : 2 ≤ d) (hd : d ∣ n) (no : ∀ e, 2 ≤ e → e < d → ¬ e ∣ n) : Least n d := ⟨h, hd, fun e he hn => by
  rcases Nat.lt_or_ge e d with h' | h'
  · exact absurd hn (no e he h')
  · exact h'⟩

theorem leastN_prime {n : Nat} (h : 2 ≤ n) : leastN n = n ↔ IsPrime n := by
  constructor
  · intro e
    have := (leastN_is h).prime
    rwa [e] at this
  · intro hp
    refine leastN_of ⟨h, Nat.dvd_refl _, fun e he hd => ?_⟩
    rcases hp.2 e hd with h1 | h1 <;> omega
end Go.Num

/- Layer 5: the least divisor, by the program's wheel. -/
set_option linter.unusedVariables false
set_option linter.unusedSimpArgs false
set_option maxRecDepth 10000
namespace Go.Ab
open Go.Proofs Go.Num

section
variable {h : AH} {l i2 i3 n : Nat}

/-- The note of the loop in least. -/
noncomputable def lnote (st : LoopState) (pe : Option Code) (n i2 i3 : Nat) (g : AV) : ABlk := loopBlk Try.f37 F.prime_least 0 st pe [(0, .int .u64 (n : Int)), (1, .ptr (some (.new i2 0))), (2, .ptr (some (.new i3 0))), (4, .int .u64 (n : Int)), (5, g)]

/-- The heap once a divisor was found. -/
noncomputable def lfin (h : AH) (l n i2 i3 : Nat) (g : AV) (d : Nat) : AH := (h.upd i3 [.int .u64 (d : Int)] T.uint64).setBlk l (lnote .done (some .ret) n i2 i3 g)

theorem rdU {h : AH} {i : Nat} {x : Int} {e : TypeId} (b : h.has i [.int .u64 x] e) : (h.cell (.new i 0)).bind (AV.asInt .u64) = some x := b.rd0 rfl rfl

theorem wrapSq {d : Nat} (hd : d < 4294967296) : IntKind.wrap .u64 ((d : Int) * (d : Int)) = ((d * d : Nat) : Int) := by
  rw [← Int.natCast_mul, wrapU]
  have : d * d < 18446744073709551616 := Nat.lt_of_lt_of_le (Nat.mul_lt_mul'' hd hd) (by decide)
  omega

theorem round_least {g : AV} (hb : h.blks[l]? = some (lnote .ready none n i2 i3 g)) (b2 : h.has i2 [.int .u64 (n : Int)] T.uint64) (b3 : h.has i3 [.int .u64 0] T.uint64) {d : Nat} (hd : 0 < d) :
    go (.round l [.int .u64 (d : Int)]) h = if d ∣ n then some (.bool false, lfin h l n i2 i3 g d) else some (.bool true, h) := by
  have hl : l < h.blks.size := (Array.getElem?_eq_some_iff.1 hb).1
  have n2 : i2 ≠ l := fun e => by rw [e] at b2; rw [AH.has, hb] at b2; cases b2
  have n3 : i3 ≠ l := fun e => by rw [e] at b3; rw [AH.has, hb] at b3; cases b3
  rw [r_prime_least_0 l none _ _ _ _ _ _ _ hb, beginA_is (h := h) hb, Option.bind_some]
  generalize hq : h.setBlk l _ = h'
  have b2' : h'.has i2 [.int .u64 (n : Int)] T.uint64 := by rw [AH.has, ← hq, AH.setBlk_ne n2]; exact b2
  have b3' : h'.has i3 [.int .u64 0] T.uint64 := by rw [AH.has, ← hq, AH.setBlk_ne n3]; exact b3
  have bl : h'.blks[l]? = some (lnote .busy none n i2 i3 g) := by rw [← hq]; exact AH.setBlk_get hl
  rw [rdU b2', Option.bind_some, condF (by rw [decide_eq_false_iff_not]; omega)]
  have hmod : Int.tmod (n : Int) (d : Int) = ((n % d : Nat) : Int) := rfl
  rw [hmod]
  by_cases hdv : d ∣ n
  · rw [if_pos hdv, condT (by rw [decide_eq_true_eq, Nat.mod_eq_zero_of_dvd hdv]; rfl), b3'.puts_all (vs := [AV.int .u64 (d : Int)]) rfl, Option.bind_some]
    have hb4 : (h'.upd i3 [AV.int .u64 (d : Int)] T.uint64).blks[l]? = some (lnote .busy none n i2 i3 g) := by
      simp only [AH.upd]
      rw [Array.getElem?_setIfInBounds_ne n3]
      exact bl
    rw [endRoundA_is hb4]
    have e : (h'.upd i3 [AV.int .u64 (d : Int)] T.uint64) = (h.upd i3 [AV.int .u64 (d : Int)] T.uint64).setBlk l (lnote .busy none n i2 i3 g) := by
      rw [← hq]
      simp only [AH.upd, AH.setBlk]
      rw [Array.setIfInBounds_comm _ _ n3.symm]
      rfl
    rw [e, AH.setBlk_setBlk]
    rfl
  · rw [if_neg hdv, condF (by rw [decide_eq_false_iff_not]; intro e; exact hdv (Nat.dvd_of_mod_eq_zero (by omega))), endRoundA_is bl]
    rw [← hq, AH.setBlk_setBlk]
    show some (AV.bool true, h.setBlk l (lnote .ready none n i2 i3 g)) = _
    rw [AH.setBlk_same hb]

/-- No divisor was found up to d, or the least one was. -/
def Found (h : AH) (l n i2 i3 : Nat) (g : AV) (x : Option (AV × AH)) : Prop := (x = some (.tup [], h) ∧ Least n n) ∨ x = some (.tup [], lfin h l n i2 i3 g (leastN n))

theorem wheel {g : AV} (h2n : 2 ≤ n) (hn : n < 1099511627776) (hb : h.blks[l]? = some (lnote .ready none n i2 i3 g)) (b2 : h.has i2 [.int .u64 (n : Int)] T.uint64) (b3 : h.has i3 [.int .u64 0] T.uint64) {j2 : Nat} (c2 : h.has j2 [.int .u64 (n : Int)] T.uint64) :
    ∀ k d, 1048600 ≤ d + 6 * k → d ≤ 1048600 → 5 ≤ d → d % 6 = 5 → (∀ e, 2 ≤ e → e < d → ¬ e ∣ n) → Found h l n i2 i3 g (go (.pt F.prime_divisors_1 Td.prime_divisors_1_6 [(0, .func (.yield l) [] []), (1, .ptr (some (.new j2 0))), (5, .int .u64 (d : Int))]) h) := by
  intro k
  induction k with
  | zero =>
    intro d h1 h2 h5 h6 no
    rw [p_prime_divisors_1_6, rdU c2, Option.bind_some, wrapSq (by omega)]
    have : 1048600 * 1048600 ≤ d * d := Nat.mul_le_mul (by omega) (by omega)
    rw [condF (by rw [decide_eq_false_iff_not]; omega)]
    refine .inl ⟨rfl, least_self h2n fun e he hee => ?_⟩
    exact no e he (by
      rcases Nat.lt_or_ge e d with h | h
      · exact h
      · have : d * d ≤ e * e := Nat.mul_le_mul h h
        omega)
  | succ k ih =>
    intro d h1 h2 h5 h6 no
    rw [p_prime_divisors_1_6, rdU c2, Option.bind_some, wrapSq (by omega)]
    by_cases hdd : d * d ≤ n
    · rw [condT (by rw [decide_eq_true_eq]; omega), round_least hb b2 b3 (by omega)]
      have hd20 : d < 1048576 := by
        rcases Nat.lt_or_ge d 1048576 with h | h
        · exact h
        · have : 1048576 * 1048576 ≤ d * d := Nat.mul_le_mul h h
          omega
      by_cases hdv : d ∣ n
      · rw [if_pos hdv, Option.bind_some]
        refine .inr ?_
        rw [leastN_of (least_of (by omega) hdv no)]
        rfl
      · rw [if_neg hdv, Option.bind_some]
        show Found h l n i2 i3 g (((h.cell (.new j2 0)).bind (AV.asInt .u64)).bind _)
        rw [rdU c2, Option.bind_some]
        have w2 : IntKind.wrap .u64 ((d : Int) + 2) = ((d + 2 : Nat) : Int) := by
          rw [show ((d : Int) + 2) = ((d + 2 : Nat) : Int) from by omega, wrapU]; omega
        have w6 : IntKind.wrap .u64 ((d : Int) + 6) = ((d + 6 : Nat) : Int) := by
          rw [show ((d : Int) + 6) = ((d + 6 : Nat) : Int) from by omega, wrapU]; omega
        rw [w2, w6, wrapSq (by omega)]
        -- what is between is divided by 2 or 3
        have even : ∀ e, e % 2 = 0 → ¬ e ∣ n := fun e he hv => no 2 (by omega) (by omega) (Nat.dvd_trans (Nat.dvd_of_mod_eq_zero he) hv)
        have three : ∀ e, e % 3 = 0 → ¬ e ∣ n := fun e he hv => no 3 (by omega) (by omega) (Nat.dvd_trans (Nat.dvd_of_mod_eq_zero he) hv)
        have no2 : ∀ e, 2 ≤ e → e < d + 2 → ¬ e ∣ n := fun e he hl hv => by
          rcases Nat.lt_or_ge e d with h | h
          · exact no e he h hv
          · rcases Nat.lt_or_ge d e with h' | h'
            · exact even e (by omega) hv
            · have : e = d := by omega
              subst this
              exact hdv hv
        by_cases hd2 : (d + 2) * (d + 2) ≤ n
        · rw [condT (by rw [decide_eq_true_eq]; omega), round_least hb b2 b3 (by omega)]
          by_cases hdv2 : d + 2 ∣ n
          · rw [if_pos hdv2, Option.bind_some]
            refine .inr ?_
            rw [leastN_of (least_of (by omega) hdv2 no2)]
            rfl
          · rw [if_neg hdv2, Option.bind_some]
            refine ih (d + 6) (by omega) (by omega) (by omega) (by omega) fun e he hl hv => ?_
            rcases Nat.lt_or_ge e (d + 2) with h | h
            · exact no2 e he h hv
            · have : e = d + 2 ∨ e = d + 3 ∨ e = d + 4 ∨ e = d + 5 := by omega
              rcases this with rfl | rfl | rfl | rfl
              · exact hdv2 hv
              · exact even _ (by omega) hv
              · exact three _ (by omega) hv
              · exact even _ (by omega) hv
        · rw [condF (by rw [decide_eq_false_iff_not]; omega)]
          -- the root is passed
          have self : Least n n := least_self h2n fun e he hee hv => by
            rcases Nat.lt_or_ge e (d + 2) with h | h
            · exact no2 e he h hv
            · have : (d + 2) * (d + 2) ≤ e * e := Nat.mul_le_mul h h
              omega
          refine .inl ⟨?_, self⟩
          rw [p_prime_divisors_1_6, rdU c2, Option.bind_some, wrapSq (by omega)]
          have : (d + 2) * (d + 2) ≤ (d + 6) * (d + 6) := Nat.mul_le_mul (by omega) (by omega)
          rw [condF (by rw [decide_eq_false_iff_not]; omega)]
    · rw [condF (by rw [decide_eq_false_iff_not]; omega)]
      refine .inl ⟨rfl, least_self h2n fun e he hee hv => ?_⟩
      rcases Nat.lt_or_ge e d with h | h
      · exact no e he h hv
      · have : d * d ≤ e * e := Nat.mul_le_mul h h
        omega

theorem small {g : AV} (h2n : 2 ≤ n) (hn : n < 1099511627776) (hb : h.blks[l]? = some (lnote .ready none n i2 i3 g)) (b2 : h.has i2 [.int .u64 (n : Int)] T.uint64) (b3 : h.has i3 [.int .u64 0] T.uint64) {j2 j : Nat} (c2 : h.has j2 [.int .u64 (n : Int)] T.uint64) (cj : h.has j [.int .u64 2, .int .u64 3] T.uint64) :
    Found h l n i2 i3 g (go (.pt F.prime_divisors_1 Td.prime_divisors_1_1 [(0, .func (.yield l) [] []), (1, .ptr (some (.new j2 0))), (6, (⟨some (.new j 0), 2, .is 2⟩ : Sl).v), (7, .int .i64 2), (8, .int .i64 0)]) h) := by
  have r2 := round_least (d := 2) hb b2 b3 (by decide)
  have r3 := round_least (d := 3) hb b2 b3 (by decide)
  have e0 : idx (⟨some (.new j 0), 2, .is 2⟩ : Sl).ref (⟨some (.new j 0), 2, .is 2⟩ : Sl).len 0 1 = some (.new j 0) := rfl
  have e1 : idx (⟨some (.new j 0), 2, .is 2⟩ : Sl).ref (⟨some (.new j 0), 2, .is 2⟩ : Sl).len 1 1 = some (.new j 1) := rfl
  have l0 : (h.cell (Ref.new j 0)).bind (AV.asInt .u64) = some 2 := by rw [cj.cell]; rfl
  have l1 : (h.cell (Ref.new j 1)).bind (AV.asInt .u64) = some 3 := by rw [cj.cell]; rfl
  have w4 : IntKind.wrap .u64 ((2 : Int) * 2) = 4 := by decide
  have w9 : IntKind.wrap .u64 ((3 : Int) * 3) = 9 := by decide
  have i1 : IntKind.wrap .i64 ((0 : Int) + 1) = 1 := by decide
  have i2' : IntKind.wrap .i64 ((1 : Int) + 1) = 2 := by decide
  rw [p_prime_divisors_1_1, condT (show decide ((0 : Int) < 2) = true from rfl), e0, Option.bind_some, l0, Option.bind_some, rdU c2, Option.bind_some, w4]
  by_cases h4 : n < 4
  · rw [condT (by rw [decide_eq_true_eq]; omega)]
    refine .inl ⟨rfl, least_self h2n fun e he hee => ?_⟩
    have : 2 * 2 ≤ e * e := Nat.mul_le_mul he he
    omega
  · rw [condF (by rw [decide_eq_false_iff_not]; omega), show (2 : Int) = ((2 : Nat) : Int) from rfl, r2]
    by_cases d2 : 2 ∣ n
    · rw [if_pos d2, Option.bind_some]
      refine .inr ?_
      rw [leastN_of (d := 2) (least_of (by decide) d2 fun e h1 h2 => by omega)]
      rfl
    · rw [if_neg d2, Option.bind_some]
      show Found h l n i2 i3 g (go (.pt F.prime_divisors_1 Td.prime_divisors_1_1 [(0, .func (.yield l) [] []), (1, .ptr (some (.new j2 0))), (6, (⟨some (.new j 0), 2, .is 2⟩ : Sl).v), (7, .int .i64 2), (8, .int .i64 (IntKind.wrap .i64 ((0 : Int) + 1)))]) h)
      rw [i1, p_prime_divisors_1_1, condT (show decide ((1 : Int) < 2) = true from rfl), e1, Option.bind_some, l1, Option.bind_some, rdU c2, Option.bind_some, w9]
      by_cases h9 : n < 9
      · rw [condT (by rw [decide_eq_true_eq]; omega)]
        refine .inl ⟨rfl, least_self h2n fun e he hee => ?_⟩
        rcases Nat.lt_or_ge e 3 with h | h
        · have : e = 2 := by omega
          subst this
          exact d2
        · have : 3 * 3 ≤ e * e := Nat.mul_le_mul h h
          omega
      · rw [condF (by rw [decide_eq_false_iff_not]; omega), show (3 : Int) = ((3 : Nat) : Int) from rfl, r3]
        by_cases d3 : 3 ∣ n
        · rw [if_pos d3, Option.bind_some]
          refine .inr ?_
          rw [leastN_of (d := 3) (least_of (by decide) d3 fun e h1 h2 => by have : e = 2 := by omega
                                                                            subst this
                                                                            exact d2)]
          rfl
        · rw [if_neg d3, Option.bind_some]
          show Found h l n i2 i3 g (go (.pt F.prime_divisors_1 Td.prime_divisors_1_1 [(0, .func (.yield l) [] []), (1, .ptr (some (.new j2 0))), (6, (⟨some (.new j 0), 2, .is 2⟩ : Sl).v), (7, .int .i64 2), (8, .int .i64 (IntKind.wrap .i64 ((1 : Int) + 1)))]) h)
          rw [i2', p_prime_divisors_1_1, condF (show decide ((2 : Int) < 2) = false from rfl)]
          refine wheel h2n hn hb b2 b3 c2 174766 5 (by omega) (by omega) (by omega) (by omega) fun e h1 h2 hv => ?_
          have : e = 2 ∨ e = 3 ∨ e = 4 := by omega
          rcases this with rfl | rfl | rfl
          · exact d2 hv
          · exact d3 hv
          · exact d2 (Nat.dvd_trans (by decide) hv)
end

theorem a_none {a1 : Int} {a2 a3 : Ref} {a4 : Int} {a5 : AV} {h : AH} : go (.pt F.prime_least (((none : Option Code).map Item.code).toList ++ Ta.prime_least_0) [(0, .int .u64 a1), (1, .ptr (some a2)), (2, .ptr (some a3)), (4, .int .u64 a4), (5, a5)]) h =
  ((h.cell a2).bind (AV.asInt .u64)).bind fun n6 => (h.puts a3 [.int .u64 n6]).bind fun h7 => ((h7.cell a3).bind (AV.asInt .u64)).bind fun n8 => some (.int .u64 n8, h7) := a_prime_least_0_none a1 a2 a3 a4 a5 h

/-- The least divisor above 1, by the wheel. -/
theorem prime_least_is {n : Nat} (h2n : 2 ≤ n) (hn : n < 1099511627776) (h : AH) : Runs (go (.fn F.prime_least [.int .u64 (n : Int)]) h) fun v h' => v = .int .u64 ((leastN n : Nat) : Int) ∧ Grow h h' := by
  rw [u_prime_least]
  refine Runs.new fun h1 b1 g1 => Runs.new fun h2 b2 g2 => ?_
  have b1' := g2.has b1
  refine Runs.step (rdU b1') ?_
  rw [u_prime_divisors]
  show Runs (newK h2 (.cells [.int .u64 (n : Int)] T.uint64) fun h2r h3 => go (.pt F.prime_least Tr.prime_least_0 [(0, .int .u64 (n : Int)), (1, .ptr (some (.new h.blks.size 0))), (2, .ptr (some (.new h1.blks.size 0))), (4, .int .u64 (n : Int)), (5, .func (.func F.prime_divisors_1) [] [.ptr (some h2r)])]) h3) _
  refine Runs.new fun h3 b3 g3 => ?_
  rw [l_prime_least_0, funcK_func]
  refine Runs.newM fun h4 hb g4 => ?_
  rw [callF_prime_divisors_1]
  have c1 : h4.has h.blks.size [.int .u64 (n : Int)] T.uint64 := g4.has (g3.has b1')
  have c2 : h4.has h1.blks.size [.int .u64 0] T.uint64 := g4.has (g3.has b2)
  have c3 : h4.has h2.blks.size [.int .u64 (n : Int)] T.uint64 := g4.has b3
  have hs1 : h.blks.size < h1.blks.size := b1.lt
  have hs2 : h1.blks.size < h2.blks.size := b2.lt
  have hs3 : h2.blks.size < h3.blks.size := b3.lt
  have hs4 : h3.blks.size < h4.blks.size := (Array.getElem?_eq_some_iff.1 hb).1
  have gA : Grow h h4 := ((g1.trans g2).trans g3).trans g4
  generalize hg : (AV.func (.func F.prime_divisors_1) [] [AV.ptr (some (Ref.new h2.blks.size 0))]) = gv at hb
  show Runs ((go (.fn F.prime_divisors_1 [.func (.yield h3.blks.size) [] [], .ptr (some (.new h2.blks.size 0))]) h4).bind _) _
  rw [u_prime_divisors_1]
  generalize hK : (fun q8 : AV × AH => (endLoopA h3.blks.size q8.2).bind fun p9 => go (.pt F.prime_least ((p9.1.map Item.code).toList ++ Ta.prime_least_0) [(0, .int .u64 (n : Int)), (1, .ptr (some (.new h.blks.size 0))), (2, .ptr (some (.new h1.blks.size 0))), (4, .int .u64 (n : Int)), (5, gv)]) p9.2) = K
  show Runs ((newK h4 (.cells [.int .u64 2, .int .u64 3] T.uint64) fun h3r h5 => (go (.pt F.prime_divisors_1 Td.prime_divisors_1_1 [(0, .func (.yield h3.blks.size) [] []), (1, .ptr (some (.new h2.blks.size 0))), (6, (⟨some h3r, 2, .is 2⟩ : Sl).v), (7, .int .i64 2), (8, .int .i64 0)]) h5).bind K)) _
  refine Runs.new fun h5 b5 g5 => ?_
  have hb5 : h5.blks[h3.blks.size]? = some (lnote .ready none n h.blks.size h1.blks.size gv) := (g5.blk _ hs4).trans hb
  have gB := gA.trans g5
  rcases small h2n hn hb5 (g5.has c1) (g5.has c2) (g5.has c3) b5 with ⟨e, hl⟩ | e
  · rw [e, ← hK]
    show Runs ((endLoopA h3.blks.size h5).bind _) _
    rw [endLoopA_ready hb5, Option.bind_some, a_none]
    have d1 : (h5.setBlk h3.blks.size .dead).has h.blks.size [.int .u64 (n : Int)] T.uint64 := by rw [AH.has, AH.setBlk_ne (by omega)]; exact g5.has c1
    have d2 : (h5.setBlk h3.blks.size .dead).has h1.blks.size [.int .u64 0] T.uint64 := by rw [AH.has, AH.setBlk_ne (by omega)]; exact g5.has c2
    refine Runs.step (rdU d1) (Runs.puts d2 rfl fun h6 b6 u6 => Runs.step (rdU b6) (Runs.ret ⟨by rw [leastN_of hl], ?_⟩))
    exact (gB.setBlk (l := h3.blks.size) (by omega) .dead).updr (by omega) u6
  · rw [e, ← hK]
    have f1 : (lfin h5 h3.blks.size n h.blks.size h1.blks.size gv (leastN n)).blks[h3.blks.size]? = some (lnote .done (some .ret) n h.blks.size h1.blks.size gv) := AH.setBlk_get (by simp only [AH.upd]; simp; exact (Array.getElem?_eq_some_iff.1 hb5).1)
    show Runs ((endLoopA h3.blks.size _).bind _) _
    rw [endLoopA_done f1, Option.bind_some, a_prime_least_0_ret]
    have f2 : ((lfin h5 h3.blks.size n h.blks.size h1.blks.size gv (leastN n)).setBlk h3.blks.size .dead).has h1.blks.size [.int .u64 ((leastN n : Nat) : Int)] T.uint64 := by
      rw [AH.has, AH.setBlk_ne (by omega)]
      unfold lfin
      rw [AH.setBlk_ne (by omega)]
      exact AH.has_upd (g5.has c2) _ _
    refine Runs.step (rdU f2) (Runs.ret ⟨rfl, ?_⟩)
    exact ((gB.upd (by omega) _ _).setBlk (by omega) _).setBlk (by omega) _

end Go.Ab

/- Layer 5: keys, their walk: printed by wip/tools/walk.py. -/
set_option linter.unusedVariables false
set_option linter.unusedSimpArgs false
set_option maxRecDepth 10000
namespace Go.Ab
open Go.Proofs Go.Num

theorem prime_least_need {a : Int} {h : AH} (c : (2 : Int) ≤ a ∧ a < 1099511627776) : Runs (go (.fn F.prime_least [.int .u64 a]) h) fun v h' => v = .int .u64 ((leastN (Int.toNat a) : Nat) : Int) ∧ Grow h h' := by
  obtain ⟨x, rfl⟩ : ∃ x : Nat, a = (x : Int) := ⟨a.toNat, by omega⟩
  exact prime_least_is (by omega) (by omega) h

inductive prime_Check_1_St
  | fn (a1 : Int)
  | no

abbrev prime_Check_1_Res := Bool

noncomputable def prime_Check_1_fn' (a1 : Int) : Option (prime_Check_1_St ⊕ prime_Check_1_Res) :=
  cond (decide (a1 < 128)) (some (.inr true)) (cond (decide (a1 ≥ 1099511627776)) (some (.inr true)) ((need ((2 : Int) ≤ a1 ∧ a1 < 1099511627776)).bind fun c4_0 => some (.inr (!decide ((((leastN (Int.toNat a1) : Nat) : Int)) = a1)))))

noncomputable def prime_Check_1_step : prime_Check_1_St → Option (prime_Check_1_St ⊕ prime_Check_1_Res)
  | .fn a1 => prime_Check_1_fn' a1
  | .no => none

@[reducible] def prime_Check_1_post (h0 : AH) (r : prime_Check_1_Res) (v : AV) (h' : AH) : Prop := v = .bool r ∧ Grow h0 h'

def prime_Check_1_At (r : prime_Check_1_Res) : prime_Check_1_St → Prop
  | .fn a1 => ∀ {h : AH}, Runs (go (.fn F.prime_Check_1 [.int .u64 a1]) h) (prime_Check_1_post h r)
  | .no => True

theorem prime_Check_1_fn_walk {r : prime_Check_1_Res} {o : prime_Check_1_St ⊕ prime_Check_1_Res} {a1 : Int} (e : prime_Check_1_fn' a1 = some o) (good : GoodS (prime_Check_1_At r) r o) : prime_Check_1_At r (.fn a1) := by
  intro h
  rw [u_prime_Check_1]
  unfold prime_Check_1_fn' at e
  refine Runs.cond (fun k2 => ?_) (fun k2 => ?_)
  · replace e := (condT k2).symm.trans e
    cases e
    cases good
    exact Runs.ret ⟨rfl, (Grow.refl _)⟩
  · replace e := (condF k2).symm.trans e
    refine Runs.cond (fun k3 => ?_) (fun k3 => ?_)
    · replace e := (condT k3).symm.trans e
      cases e
      cases good
      exact Runs.ret ⟨rfl, (Grow.refl _)⟩
    · replace e := (condF k3).symm.trans e
      obtain ⟨c4_0, q4_0, e⟩ := Option.bind_eq_some_iff.1 e
      obtain ⟨_, H4, e4, rfl, g4⟩ := prime_least_need  c4_0.down
      refine Runs.step e4 ?_
      refine Runs.step (seen (avInt_int _ _)) ?_
      cases e
      cases good
      exact Runs.ret ⟨rfl, g4⟩

theorem prime_Check_1_run {s : prime_Check_1_St} {r : prime_Check_1_Res} (it : Iter prime_Check_1_step s r) : prime_Check_1_At r s := Iter.ind (fun s o e good => by
  cases s with
  | fn a1 => exact @prime_Check_1_fn_walk _ _ a1 e good
  | no => exact True.intro
  ) it

theorem prime_Check_1_opt {h : AH} {a1 : Int}  {r : prime_Check_1_Res} (q : runP prime_Check_1_step (.fn a1) = some r) : Runs (go (.fn F.prime_Check_1 [.int .u64 a1]) h) (prime_Check_1_post h r) := prime_Check_1_run (runP_iter q) 

end Go.Ab

/- Layer 5: keys: what is asked of each prime. -/
set_option linter.unusedVariables false
set_option linter.unusedSimpArgs false
set_option maxRecDepth 10000
namespace Go.Ab
open Go.Proofs Go.Num

/-- Is this no prime of a key? -/
noncomputable def oddF (a : Int) : Bool := cond (decide (a < 128)) true (cond (decide (a ≥ 1099511627776)) true (!decide (((leastN (Int.toNat a) : Nat) : Int) = a)))

theorem prime_Check_1_is {h : AH} (a : Int) : Runs (go (.fn F.prime_Check_1 [.int .u64 a]) h) fun v h' => v = .bool (oddF a) ∧ Grow h h' := prime_Check_1_opt (runP_of (.done (by
  show prime_Check_1_fn' a = _
  unfold prime_Check_1_fn' oddF
  by_cases h1 : a < 128
  · rw [decide_eq_true h1]; rfl
  · rw [decide_eq_false h1]
    by_cases h2 : a ≥ 1099511627776
    · rw [decide_eq_true h2]; rfl
    · rw [decide_eq_false h2, need_of (by omega)]
      rfl)))

end Go.Ab

/- Layer 5: Check, its walk: printed by wip/tools/walk.py. -/
set_option linter.unusedVariables false
set_option linter.unusedSimpArgs false
set_option maxRecDepth 10000
namespace Go.Ab
open Go.Proofs Go.Num

inductive prime_Check_St
  | fn (a1 : Int) (a2 : Int)
  | no

abbrev prime_Check_Res := Int

noncomputable def prime_Check_fn' (a1 : Int) (a2 : Int) : Option (prime_Check_St ⊕ prime_Check_Res) :=
  cond (((oddF a1))) (some (.inr 9)) (cond (((oddF a2))) (some (.inr 9)) (cond (decide (a1 = a2)) (some (.inr 9)) ((need (0 ≤ a1 ∧ a1 < 18446744073709551616)).bind fun c9_0 => (need (0 ≤ a2 ∧ a2 < 18446744073709551616)).bind fun c10_0 => cond (!decide ((((bl (Int.toNat a1) : Nat) : Int)) = (((bl (Int.toNat a2) : Nat) : Int)))) (some (.inr 9)) ((u64P a1).bind fun w16 => (u64P a2).bind fun w17 => (u64P (IntKind.wrap .u64 (a1 - 1))).bind fun w23 => (u64P (IntKind.wrap .u64 (a2 - 1))).bind fun w24 => (u64P 1).bind fun w30 => cond (!decide ((cmpN ((gcdN ((mulN [w16] [w17]).1) ((mulN [w23] [w24]).1)).1) [w30]) = 0)) (some (.inr 9)) (some (.inr 0))))))

noncomputable def prime_Check_step : prime_Check_St → Option (prime_Check_St ⊕ prime_Check_Res)
  | .fn a1 a2 => prime_Check_fn' a1 a2
  | .no => none

@[reducible] def prime_Check_post (h0 : AH) (r : prime_Check_Res) (v : AV) (h' : AH) : Prop := v = .int .i64 r ∧ Grow h0 h'

def prime_Check_At (r : prime_Check_Res) : prime_Check_St → Prop
  | .fn a1 a2 => ∀ {h : AH}, Runs (go (.fn F.prime_Check [.agg [.int .u64 a1, .int .u64 a2]]) h) (prime_Check_post h r)
  | .no => True

theorem prime_Check_fn_walk {r : prime_Check_Res} {o : prime_Check_St ⊕ prime_Check_Res} {a1 : Int} {a2 : Int} (e : prime_Check_fn' a1 a2 = some o) (good : GoodS (prime_Check_At r) r o) : prime_Check_At r (.fn a1 a2) := by
  intro h
  rw [u_prime_Check]
  unfold prime_Check_fn' at e
  refine Runs.new fun H3 b3 g3 => ?_
  refine Runs.step (AH.has.rd b3 0 rfl (avInt_int _ _)) ?_
  obtain ⟨_, H4, e4, rfl, g4⟩ := prime_Check_1_is a1
  refine Runs.step e4 ?_
  refine Runs.step (seen rfl) ?_
  refine Runs.cond (fun k5 => ?_) (fun k5 => ?_)
  · replace e := (condT k5).symm.trans e
    cases e
    cases good
    exact Runs.ret ⟨rfl, (g3.trans g4)⟩
  · replace e := (condF k5).symm.trans e
    refine Runs.step (AH.has.rd (g4.has b3) 1 rfl (avInt_int _ _)) ?_
    obtain ⟨_, H6, e6, rfl, g6⟩ := prime_Check_1_is a2
    refine Runs.step e6 ?_
    refine Runs.step (seen rfl) ?_
    refine Runs.cond (fun k7 => ?_) (fun k7 => ?_)
    · replace e := (condT k7).symm.trans e
      cases e
      cases good
      have G8 := ((g3.trans g4).trans g6)
      exact Runs.ret ⟨rfl, G8⟩
    · replace e := (condF k7).symm.trans e
      refine Runs.step (AH.has.rd ((g4.trans g6).has b3) 0 rfl (avInt_int _ _)) ?_
      refine Runs.step (AH.has.rd ((g4.trans g6).has b3) 1 rfl (avInt_int _ _)) ?_
      refine Runs.cond (fun k8 => ?_) (fun k8 => ?_)
      · replace e := (condT k8).symm.trans e
        cases e
        cases good
        have G9 := ((g3.trans g4).trans g6)
        exact Runs.ret ⟨rfl, G9⟩
      · replace e := (condF k8).symm.trans e
        refine Runs.step (AH.has.rd ((g4.trans g6).has b3) 0 rfl (avInt_int _ _)) ?_
        refine Runs.step (AH.has.rd ((g4.trans g6).has b3) 1 rfl (avInt_int _ _)) ?_
        obtain ⟨c9_0, q9_0, e⟩ := Option.bind_eq_some_iff.1 e
        refine Runs.step (len64_need  c9_0.down) ?_
        refine Runs.step (seen (avInt_int _ _)) ?_
        refine Runs.when ((Grow.refl _).same ((g4.trans g6).has b3) 1 1) ?_
        obtain ⟨c10_0, q10_0, e⟩ := Option.bind_eq_some_iff.1 e
        refine Runs.step (len64_need  c10_0.down) ?_
        refine Runs.step (seen (avInt_int _ _)) ?_
        refine Runs.cond (fun k11 => ?_) (fun k11 => ?_)
        · replace e := (condT k11).symm.trans e
          cases e
          cases good
          have G12 := ((g3.trans g4).trans g6)
          exact Runs.ret ⟨rfl, G12⟩
        · replace e := (condF k11).symm.trans e
          refine Runs.step (AH.has.rd ((g4.trans g6).has b3) 0 rfl (avInt_int _ _)) ?_
          refine Runs.new fun H12 b12 g12 => ?_
          have G13 := ((g4.trans g6).trans g12)
          have b3_14 := G13.has b3
          refine Runs.step (AH.has.rd b3_14 1 rfl (avInt_int _ _)) ?_
          refine Runs.new fun H15 b15 g15 => ?_
          obtain ⟨w16, z16, e⟩ := Option.bind_eq_some_iff.1 e
          obtain ⟨w17, z17, e⟩ := Option.bind_eq_some_iff.1 e
          obtain ⟨s18, H18, e18, n18, g18, o18⟩ := nat_Mul_spec (Nats.of_has1 (g15.has b12) z16) (Nats.of_has1 b15 z17)
          refine Runs.step e18 ?_
          refine Runs.step rfl ?_
          refine Runs.step (seen (asSl_v _)) ?_
          refine Runs.step (seen (avInt_int _ _)) ?_
          refine Runs.step (AH.has.rd ((g15.trans g18).has b3_14) 0 rfl (avInt_int _ _)) ?_
          refine Runs.new fun H19 b19 g19 => ?_
          have G20 := ((g15.trans g18).trans g19)
          have b3_21 := G20.has b3_14
          refine Runs.step (AH.has.rd b3_21 1 rfl (avInt_int _ _)) ?_
          refine Runs.new fun H22 b22 g22 => ?_
          obtain ⟨w23, z23, e⟩ := Option.bind_eq_some_iff.1 e
          obtain ⟨w24, z24, e⟩ := Option.bind_eq_some_iff.1 e
          obtain ⟨s25, H25, e25, n25, g25, o25⟩ := nat_Mul_spec (Nats.of_has1 (g22.has b19) z23) (Nats.of_has1 b22 z24)
          refine Runs.step e25 ?_
          refine Runs.step rfl ?_
          refine Runs.step (seen (asSl_v _)) ?_
          refine Runs.step (seen (avInt_int _ _)) ?_
          have G26 := ((g19.trans g22).trans g25)
          have n18_27 := n18.grow G26
          obtain ⟨_, H28, e28, s28, rfl, n28, g28, o28⟩ := modint_Gcd_spec n18_27 n25
          refine Runs.step e28 ?_
          refine Runs.step rfl ?_
          refine Runs.step (seen (asSl_v _)) ?_
          refine Runs.step (seen (avInt_int _ _)) ?_
          refine Runs.new fun H29 b29 g29 => ?_
          obtain ⟨w30, z30, e⟩ := Option.bind_eq_some_iff.1 e
          obtain ⟨H31, e31, g31⟩ := nat_Cmp_spec (n28.grow g29) (Nats.of_has1 b29 z30)
          refine Runs.step e31 ?_
          refine Runs.step (seen (avInt_int _ _)) ?_
          refine Runs.cond (fun k32 => ?_) (fun k32 => ?_)
          · replace e := (condT k32).symm.trans e
            cases e
            cases good
            have G33 := (((((((((((g3.trans g4).trans g6).trans g12).trans g15).trans g18).trans g19).trans g22).trans g25).trans g28).trans g29).trans g31)
            exact Runs.ret ⟨rfl, G33⟩
          · replace e := (condF k32).symm.trans e
            cases e
            cases good
            have G33 := (((((((((((g3.trans g4).trans g6).trans g12).trans g15).trans g18).trans g19).trans g22).trans g25).trans g28).trans g29).trans g31)
            exact Runs.ret ⟨rfl, G33⟩

theorem prime_Check_run {s : prime_Check_St} {r : prime_Check_Res} (it : Iter prime_Check_step s r) : prime_Check_At r s := Iter.ind (fun s o e good => by
  cases s with
  | fn a1 a2 => exact @prime_Check_fn_walk _ _ a1 a2 e good
  | no => exact True.intro
  ) it

theorem prime_Check_opt {h : AH} {a1 : Int} {a2 : Int}  {r : prime_Check_Res} (q : runP prime_Check_step (.fn a1 a2) = some r) : Runs (go (.fn F.prime_Check [.agg [.int .u64 a1, .int .u64 a2]]) h) (prime_Check_post h r) := prime_Check_run (runP_iter q) 

end Go.Ab

/- Layer 5: Check, what it answers; the document's is the same. -/
set_option linter.unusedVariables false
set_option linter.unusedSimpArgs false
set_option maxRecDepth 10000
namespace Go.Ab
open Go.Proofs Go.Num

theorem digs_single {x : Nat} (h0 : 0 < x) (h : x < B) : digs B x = [x] := by
  rw [digs_pos B2 (by omega), Nat.mod_eq_of_lt h, Nat.div_eq_of_lt h, digs_zero]

theorem rt_single {x : Nat} (h0 : 0 < x) (h : x < B) : rt [x] = true := by
  rw [← digs_single h0 h]
  exact rt_digs (Nat.lt_of_lt_of_le h (by decide))

theorem lt40_30 {a : Nat} (h : a < 1099511627776) : a < B ^ 30 := Nat.lt_of_lt_of_le h (by decide)

/-- May two numbers be no key? -/
noncomputable def badF (a b : Int) : Bool := oddF a || (oddF b || (decide (a = b) || (!decide (bl a.toNat = bl b.toNat) || !decide (Nat.gcd (a.toNat * b.toNat) ((a.toNat - 1) * (b.toNat - 1)) = 1))))
noncomputable def keyF (a b : Int) : Int := cond (badF a b) 9 0

theorem oddF_false {a : Int} (h : oddF a = false) : ∃ p : Nat, a = (p : Int) ∧ 128 ≤ p ∧ p < 1099511627776 ∧ leastN p = p := by
  unfold oddF at h
  by_cases h1 : a < 128
  · rw [decide_eq_true h1] at h; cases h
  · rw [decide_eq_false h1, cond_false] at h
    by_cases h2 : a ≥ 1099511627776
    · rw [decide_eq_true h2] at h; cases h
    · rw [decide_eq_false h2, cond_false] at h
      have h3 : ((leastN (Int.toNat a) : Nat) : Int) = a := by simpa using h
      exact ⟨a.toNat, by omega, by omega, by omega, by omega⟩

theorem B40 : (1099511627776 : Nat) < B := by decide

theorem key_gcd {p q : Nat} (hp : 128 ≤ p) (hp2 : p < 1099511627776) (hq : 128 ≤ q) (hq2 : q < 1099511627776) :
    (gcdN ((mulN [p] [q]).1) ((mulN [p - 1] [q - 1]).1)).1 = digs B (Nat.gcd (p * q) ((p - 1) * (q - 1))) := by
  have b40 := B40
  have lt : ∀ {a b : Nat}, a < 1099511627776 → b < 1099511627776 → a * b < B ^ 2 := fun ha hb => Nat.lt_of_lt_of_le (Nat.mul_lt_mul'' ha hb) (by decide)
  have e1 : mulN [p] [q] = (digs B (p * q), 0) := by
    rw [← digs_single (x := p) (by omega) (by omega), ← digs_single (x := q) (by omega) (by omega), mulN_digs (lt40_30 hp2) (lt40_30 hq2)]
  have e2 : mulN [p - 1] [q - 1] = (digs B ((p - 1) * (q - 1)), 0) := by
    rw [← digs_single (x := p - 1) (by omega) (by omega), ← digs_single (x := q - 1) (by omega) (by omega), mulN_digs (lt40_30 (by omega)) (lt40_30 (by omega))]
  have r1 : rt (digs B (p * q)) = true := rt_digs (Nat.lt_of_lt_of_le (lt hp2 hq2) (Nat.pow_le_pow_right (by decide) (by decide)))
  have r2 : rt (digs B ((p - 1) * (q - 1))) = true := rt_digs (Nat.lt_of_lt_of_le (lt (by omega) (by omega)) (Nat.pow_le_pow_right (by decide) (by decide)))
  rw [e1, e2]
  unfold gcdN
  rw [if_pos ⟨r1, r2⟩, num_digs B2, num_digs B2]

theorem gcd_lt {p q : Nat} (hp : 128 ≤ p) (hp2 : p < 1099511627776) (hq : 128 ≤ q) (hq2 : q < 1099511627776) : Nat.gcd (p * q) ((p - 1) * (q - 1)) < B ^ 64 := by
  have h1 : Nat.gcd (p * q) ((p - 1) * (q - 1)) ≤ p * q := Nat.gcd_le_left _ (Nat.mul_pos (by omega) (by omega))
  have h2 : p * q < 1099511627776 * 1099511627776 := Nat.mul_lt_mul'' hp2 hq2
  exact Nat.lt_of_le_of_lt h1 (Nat.lt_of_lt_of_le h2 (by decide))

theorem cmp_one {g : Nat} (h : g < B ^ 64) : decide (cmpN (digs B g) [1] = 0) = decide (g = 1) := by
  rw [cmpN_rt2 (rt_digs h) (by decide), num_digs B2]
  have : num B [1] = 1 := by decide
  rw [this, decide_eq_decide]
  unfold cmp
  split
  · omega
  · split <;> omega

theorem wrap_predU {p : Nat} (h1 : 1 ≤ p) (h : p < B) : IntKind.wrap .u64 ((p : Int) - 1) = ((p - 1 : Nat) : Int) := by
  have e : ((p : Int) - 1) = ((p - 1 : Nat) : Int) := by omega
  rw [e, wrapU]
  have : p - 1 < 18446744073709551616 := Nat.lt_of_le_of_lt (Nat.sub_le _ _) h
  omega

theorem u64P_B {p : Nat} (h : p < B) : u64P (p : Int) = some p := u64P_nat h

theorem prime_Check_iter (a b : Int) : Iter prime_Check_step (.fn a b) (keyF a b) := by
  refine .done ?_
  show prime_Check_fn' a b = _
  unfold prime_Check_fn' keyF badF
  cases ha : oddF a
  case true => rfl
  cases hb : oddF b
  case true => rfl
  obtain ⟨p, rfl, p1, p2, p3⟩ := oddF_false ha
  obtain ⟨q, rfl, q1, q2, q3⟩ := oddF_false hb
  have b40 := B40
  rw [cond_false, cond_false, Bool.false_or, Bool.false_or]
  cases hpq : decide ((p : Int) = (q : Int))
  case true => rfl
  rw [cond_false, Bool.false_or, need_of (by omega), Option.bind_some, need_of (by omega), Option.bind_some, Int.toNat_natCast, Int.toNat_natCast]
  have e1 : decide (((bl p : Nat) : Int) = ((bl q : Nat) : Int)) = decide (bl p = bl q) := by rw [decide_eq_decide]; omega
  rw [e1]
  cases hl : decide (bl p = bl q)
  case false => rfl
  rw [Bool.not_true, cond_false, Bool.false_or, u64P_B (by omega), Option.bind_some, u64P_B (by omega), Option.bind_some, wrap_predU (by omega) (by omega), wrap_predU (by omega) (by omega), u64P_B (by omega), Option.bind_some, u64P_B (by omega), Option.bind_some, show u64P 1 = some 1 from rfl, Option.bind_some, key_gcd p1 p2 q1 q2, cmp_one (gcd_lt p1 p2 q1 q2)]
  cases decide (Nat.gcd (p * q) ((p - 1) * (q - 1)) = 1) <;> rfl

theorem prime_Check_is {h : AH} (a b : Int) : Runs (go (.fn F.prime_Check [.agg [.int .u64 a, .int .u64 b]]) h) (prime_Check_post h (keyF a b)) := prime_Check_opt (runP_of (prime_Check_iter a b))
end Go.Ab

/- Layer 6: public keys, their walk: printed by wip/tools/walk.py. -/
set_option linter.unusedVariables false
set_option linter.unusedSimpArgs false
set_option maxRecDepth 10000
namespace Go.Ab
open Go.Proofs Go.Num

inductive paillier_Public_St
  | fn (a1 : Int) (a2 : Int)
  | no

abbrev paillier_Public_Res := List Nat × Int

noncomputable def paillier_Public_fn' (a1 : Int) (a2 : Int) : Option (paillier_Public_St ⊕ paillier_Public_Res) :=
  cond (!decide (((keyF a1 a2)) = 0)) (some (.inr ([], ((keyF a1 a2))))) ((u64P a1).bind fun w8 => (u64P a2).bind fun w9 => some (.inr ((mulN [w8] [w9]).1, ((mulN [w8] [w9]).2))))

noncomputable def paillier_Public_step : paillier_Public_St → Option (paillier_Public_St ⊕ paillier_Public_Res)
  | .fn a1 a2 => paillier_Public_fn' a1 a2
  | .no => none

@[reducible] def paillier_Public_post (h0 : AH) (r : paillier_Public_Res) (v : AV) (h' : AH) : Prop := ∃ s1 : Sl, v = .tup [s1.v, .int .i64 r.2] ∧ Nats h' s1 r.1 ∧ Grow h0 h' ∧ Own h0 s1

def paillier_Public_At (r : paillier_Public_Res) : paillier_Public_St → Prop
  | .fn a1 a2 => ∀ {h : AH}, Runs (go (.fn F.paillier_Public [.agg [.int .u64 a1, .int .u64 a2]]) h) (paillier_Public_post h r)
  | .no => True

theorem paillier_Public_fn_walk {r : paillier_Public_Res} {o : paillier_Public_St ⊕ paillier_Public_Res} {a1 : Int} {a2 : Int} (e : paillier_Public_fn' a1 a2 = some o) (good : GoodS (paillier_Public_At r) r o) : paillier_Public_At r (.fn a1 a2) := by
  intro h
  rw [u_paillier_Public]
  unfold paillier_Public_fn' at e
  refine Runs.new fun H3 b3 g3 => ?_
  refine Runs.step (AH.has.rd b3 0 rfl (avInt_int _ _)) ?_
  refine Runs.step (AH.has.rd b3 1 rfl (avInt_int _ _)) ?_
  obtain ⟨_, H4, e4, rfl, g4⟩ := prime_Check_is a1 a2
  refine Runs.step e4 ?_
  refine Runs.step (seen (avInt_int _ _)) ?_
  refine Runs.cond (fun k5 => ?_) (fun k5 => ?_)
  · replace e := (condT k5).symm.trans e
    cases e
    cases good
    exact Runs.ret ⟨(⟨none, 0, .is 0⟩ : Sl), rfl, (Nats.nil _), (g3.trans g4), (Own.nil _)⟩
  · replace e := (condF k5).symm.trans e
    refine Runs.step (AH.has.rd (g4.has b3) 0 rfl (avInt_int _ _)) ?_
    refine Runs.new fun H6 b6 g6 => ?_
    refine Runs.step (AH.has.rd ((g4.trans g6).has b3) 1 rfl (avInt_int _ _)) ?_
    refine Runs.new fun H7 b7 g7 => ?_
    obtain ⟨w8, z8, e⟩ := Option.bind_eq_some_iff.1 e
    obtain ⟨w9, z9, e⟩ := Option.bind_eq_some_iff.1 e
    obtain ⟨s10, H10, e10, n10, g10, o10⟩ := nat_Mul_spec (Nats.of_has1 (g7.has b6) z8) (Nats.of_has1 b7 z9)
    refine Runs.step e10 ?_
    refine Runs.step rfl ?_
    refine Runs.step (seen (asSl_v _)) ?_
    refine Runs.step (seen (avInt_int _ _)) ?_
    cases e
    cases good
    have G11 := (((g3.trans g4).trans g6).trans g7)
    have G12 := (G11.trans g10)
    exact Runs.ret ⟨s10, rfl, n10, G12, (o10.of_le G11)⟩

theorem paillier_Public_run {s : paillier_Public_St} {r : paillier_Public_Res} (it : Iter paillier_Public_step s r) : paillier_Public_At r s := Iter.ind (fun s o e good => by
  cases s with
  | fn a1 a2 => exact @paillier_Public_fn_walk _ _ a1 a2 e good
  | no => exact True.intro
  ) it

theorem paillier_Public_opt {h : AH} {a1 : Int} {a2 : Int}  {r : paillier_Public_Res} (q : runP paillier_Public_step (.fn a1 a2) = some r) : Runs (go (.fn F.paillier_Public [.agg [.int .u64 a1, .int .u64 a2]]) h) (paillier_Public_post h r) := paillier_Public_run (runP_iter q) 

end Go.Ab

/- Layer 6: public keys; a key as an argument. -/
set_option linter.unusedVariables false
set_option linter.unusedSimpArgs false
set_option maxRecDepth 10000
namespace Go.Ab
open Go.Proofs Go.Num

noncomputable def pubF (a b : Int) : List Nat × Int := cond (badF a b) ([], 9) (digs B (a.toNat * b.toNat), 0)

theorem badF_false {a b : Int} (h : badF a b = false) : ∃ p q : Nat, a = (p : Int) ∧ b = (q : Int) ∧ 128 ≤ p ∧ p < 1099511627776 ∧ leastN p = p ∧ 128 ≤ q ∧ q < 1099511627776 ∧ leastN q = q ∧ p ≠ q ∧ bl p = bl q ∧ Nat.gcd (p * q) ((p - 1) * (q - 1)) = 1 := by
  unfold badF at h
  rw [Bool.or_eq_false_iff, Bool.or_eq_false_iff, Bool.or_eq_false_iff, Bool.or_eq_false_iff] at h
  obtain ⟨ha, hb, hne, hl, hg⟩ := h
  obtain ⟨p, rfl, p1, p2, p3⟩ := oddF_false ha
  obtain ⟨q, rfl, q1, q2, q3⟩ := oddF_false hb
  refine ⟨p, q, rfl, rfl, p1, p2, p3, q1, q2, q3, ?_, ?_, ?_⟩
  · intro e
    subst e
    simp at hne
  · simpa using hl
  · simpa using hg

theorem key_mul {p q : Nat} (hp : 128 ≤ p) (hp2 : p < 1099511627776) (hq : 128 ≤ q) (hq2 : q < 1099511627776) : mulN [p] [q] = (digs B (p * q), 0) := by
  have b40 := B40
  rw [← digs_single (x := p) (by omega) (by omega), ← digs_single (x := q) (by omega) (by omega), mulN_digs (lt40_30 hp2) (lt40_30 hq2)]

theorem paillier_Public_iter (a b : Int) : Iter paillier_Public_step (.fn a b) (pubF a b) := by
  refine .done ?_
  show paillier_Public_fn' a b = _
  unfold paillier_Public_fn' keyF pubF
  cases hb : badF a b
  · obtain ⟨p, q, rfl, rfl, p1, p2, -, q1, q2, -, -, -, -⟩ := badF_false hb
    have b40 := B40
    rw [cond_false, condF (show (!decide ((0 : Int) = 0)) = false from rfl), u64P_B (by omega), Option.bind_some, u64P_B (by omega), Option.bind_some, key_mul p1 p2 q1 q2]
    rfl
  · rfl

theorem paillier_Public_is {h : AH} (a b : Int) : Runs (go (.fn F.paillier_Public [.agg [.int .u64 a, .int .u64 b]]) h) (paillier_Public_post h (pubF a b)) := paillier_Public_opt (runP_of (paillier_Public_iter a b))
theorem key_of_arg {h : AH} {x : AV} (a : ArgV Pg h T.api_Key x) : ∃ m n : Int, x = .agg [.int .u64 m, .int .u64 n] := by
  unfold ArgV at a
  rw [und_api_Key] at a
  obtain ⟨cs, rfl, t⟩ := a
  obtain ⟨hl, hf⟩ := t.struct und_api_Key
  rw [cells_api_Key] at hl
  match cs, hl with
  | [x0, x1], _ =>
    simp [cells_uint64] at hf
    obtain ⟨h0, h1⟩ := hf
    obtain ⟨m, e0, _⟩ := h0.int und_uint64
    obtain ⟨n, e1, _⟩ := h1.int und_uint64
    cases e0; cases e1
    exact ⟨m, n, rfl⟩
end Go.Ab

/- Layer 6: the law of keys, its walk: printed by wip/tools/walk.py. -/
set_option linter.unusedVariables false
set_option linter.unusedSimpArgs false
set_option maxRecDepth 10000
namespace Go.Ab
open Go.Proofs Go.Num

end Go.Ab

/- Layer 6: the law of keys. -/
set_option linter.unusedVariables false
set_option linter.unusedSimpArgs false
set_option maxRecDepth 10000
namespace Go.Ab
open Go.Proofs Go.Num

end Go.Ab

/- Layer 6: what a cipher text says by one prime. -/
set_option linter.unusedVariables false
set_option linter.unusedSimpArgs false
set_option maxRecDepth 10000
namespace Go.Ab
open Go.Proofs Go.Num

/-- A ring of this modulus lies here. -/
def RingAt (h : AH) (j N : Nat) : Prop := ∃ (v : Nat) (s0 s2 s3 : Sl), RingOk N (digs B N).length v ∧ h.has j [s0.v, .int .u64 (v : Int), s2.v, s3.v] T.mont_Ring ∧ Nats h s0 (digs B N) ∧ Nats h s2 (form N (digs B N).length 1) ∧
  Nats h s3 (digs B (2 ^ (64 * (digs B N).length) * 2 ^ (64 * (digs B N).length) % N))

theorem RingAt.grow {h h' : AH} {j N : Nat} (r : RingAt h j N) (g : Grow h h') : RingAt h' j N := by
  obtain ⟨v, s0, s2, s3, a, b, c, d, e⟩ := r
  exact ⟨v, s0, s2, s3, a, g.has b, c.grow g, d.grow g, e.grow g⟩

theorem ring_new {h : AH} {s : Sl} {N : Nat} (n : Nats h s (digs B N)) (h8 : N < B ^ 8) (h1 : 1 < N) (ho : N % 2 = 1) : Runs (go (.fn F.mont_New [s.v]) h) fun w h' => ∃ j, w = .tup [.ptr (some (.new j 0)), .int .i64 0] ∧ RingAt h' j N ∧ Grow h h' := by
  have hn : num B (digs B N) = N := num_digs B2 _
  have l8 : (digs B N).length ≤ 8 := (digs_len B2 _ 8).2 h8
  obtain ⟨_, h2, e2, j, v, s0, s2, s3, rfl, v1, v2, b, m0, m2, m3, g2⟩ := mont_New_ok n (rt_digs (Nat.lt_of_lt_of_le h8 (Nat.pow_le_pow_right (by decide) (by decide)))) (fun e => by rw [List.length_eq_zero_iff] at e; have := (digs_nil B2).1 e; omega) l8 (by rw [hn]; exact ho) (by rw [hn]; exact h1)
  refine ⟨_, h2, e2, j, rfl, ⟨v, s0, s2, s3, ?_, b, m0, ?_, ?_⟩, g2⟩
  · rw [hn] at v2
    exact ⟨by omega, by have := num_lt B1 (digs_lt B2 N); rwa [hn] at this, h1, ho, v1, v2, rfl⟩
  · rw [hn] at m2
    unfold form
    rw [Nat.one_mul, ← B_pow2]
    rwa [Nat.one_mul] at m2
  · rw [hn] at m3
    rw [← Nat.pow_add, ← Nat.two_mul, show 2 * (64 * (digs B N).length) = 64 * (2 * (digs B N).length) from by omega, ← B_pow2]
    exact m3

theorem ring_exp {h : AH} {j N A : Nat} (r : RingAt h j N) (hA : A < N) {t u : Sl} {es : List Nat} (n : Nats h t (digs B A)) (m : Nats h u es) (re : rt es = true) (h8 : es.length ≤ 8) :
    Runs (go (.fn F.mont_Ring_Exp [.ptr (some (.new j 0)), t.v, u.v]) h) fun w h' => ∃ s' : Sl, w = .tup [s'.v, .int .i64 0] ∧ Nats h' s' (digs B (A ^ num B es % N)) ∧ Grow h h' ∧ Own h s' := by
  obtain ⟨v, s0, s2, s3, a, b, c, d, e⟩ := r
  obtain ⟨_, h3, e3, s4, rfl, n4, g4, o4⟩ := mont_Ring_Exp_opt b c d e n m (mont_Ring_Exp_iter a hA m.lt re h8)
  exact ⟨_, h3, e3, s4, rfl, n4, g4, o4⟩

theorem nats_one {h : AH} {i x : Nat} {e : TypeId} (b : h.has i [.int .u64 (x : Int)] e) (hx : x < B) : Nats h (⟨some (.new i 0), 1, .is 1⟩ : Sl) [x] := Nats.of_has (xs := [x]) b (by intro y hy; rw [List.mem_singleton.1 hy]; exact hx) (by simp)

theorem square_one {p : Nat} (hp : 0 < p) (hp2 : p < 1099511627776) : paillier_square' [p] = digs B (p * p) := by
  unfold paillier_square'
  rw [← digs_single (x := p) hp (Nat.lt_trans hp2 B40), mulN_digs (lt40_30 hp2) (lt40_30 hp2)]

theorem sq_lt {p : Nat} (hp2 : p < 1099511627776) : p * p < B ^ 2 := Nat.lt_of_lt_of_le (Nat.mul_lt_mul'' hp2 hp2) (by decide)
theorem up64 {a : Nat} (h : a < B ^ 2) : a < B ^ 64 := Nat.lt_of_lt_of_le h (Nat.pow_le_pow_right (by decide) (by decide))

theorem divN_digs {xs : List Nat} (lx : ∀ x ∈ xs, x < B) (hx : rt xs = true) {m : Nat} (h0 : 0 < m) (hm : m < B ^ 64) : divN xs (digs B m) = (digs B (num B xs / m), digs B (num B xs % m), 0) := by
  unfold divN
  rw [if_pos ⟨hx, rt_digs hm⟩, if_neg (fun e => by have := (digs_nil B2).1 e; omega), num_digs B2]

section
variable {h : AH} {p i2 i3 i4 j : Nat} {s : Sl}

/-- What the closure sees: the prime as limbs, a ring of its square, the prime. -/
structure SayAt (h : AH) (p i2 i3 i4 j : Nat) (s : Sl) : Prop where
  b2 : h.has i2 [s.v] T.api_Nat
  n2 : Nats h s [p]
  b3 : h.has i3 [.ptr (some (.new j 0))] T.P_mont_Ring
  ring : RingAt h j (p * p)
  b4 : h.has i4 [.int .u64 (p : Int)] T.uint64

theorem SayAt.grow {h' : AH} (a : SayAt h p i2 i3 i4 j s) (g : Grow h h') : SayAt h' p i2 i3 i4 j s := ⟨g.has a.b2, a.n2.grow g, g.has a.b3, a.ring.grow g, g.has a.b4⟩

theorem say_is (a : SayAt h p i2 i3 i4 j s) {q : Nat} (k : KeyOk p q) (p1 : 128 ≤ p) (p2 : p < 1099511627776) {t : Sl} {xs : List Nat} (n : Nats h t xs) (hx : rt xs = true) (nd : ¬ p ∣ num B xs) :
    Runs (go (.fn F.paillier_part_1 [t.v, .ptr (some (.new i2 0)), .ptr (some (.new i3 0)), .ptr (some (.new i4 0))]) h) fun w h' => ∃ s' : Sl, w = s'.v ∧ Nats h' s' (digs B (sayP p (num B xs))) ∧ Grow h h' ∧ Own h s' := by
  have b40 := B40
  have hpp : 0 < p * p := Nat.mul_pos (by omega) (by omega)
  rw [u_paillier_part_1]
  refine Runs.step (a.b2.rd0 (f := AV.asSl) rfl (asSl_v _)) ?_
  obtain ⟨_, h1, e1, s1, rfl, n1, g1, o1⟩ := paillier_square_spec a.n2
  refine Runs.step e1 ?_
  refine Runs.step (seen (asSl_v _)) ?_
  rw [square_one (by omega) p2] at n1
  obtain ⟨sa, sb, h2, e2, na, nb, g2, -, -⟩ := nat_Div_spec (n.grow g1) n1
  rw [divN_digs n.lt hx hpp (up64 (sq_lt p2))] at e2 na nb
  have G2 := g1.trans g2
  refine Runs.step e2 ?_
  refine Runs.step rfl ?_
  refine Runs.step (seen (asSl_v _)) ?_
  refine Runs.step (seen (asSl_v _)) ?_
  refine Runs.step (seen (avInt_int _ _)) ?_
  refine Runs.step ((G2.has a.b3).rd0 (f := AV.asPtr) rfl rfl) ?_
  refine Runs.step ((G2.has a.b4).rd0 (f := AV.asInt .u64) rfl (avInt_int _ _)) ?_
  rw [wrap_predU (by omega) (by omega)]
  refine Runs.new fun h3 b3 g3 => ?_
  have ne : Nats h3 (⟨some (.new h2.blks.size 0), 1, .is 1⟩ : Sl) [p - 1] := nats_one b3 (by omega)
  have G3 := G2.trans g3
  obtain ⟨_, h4, e4, s4, rfl, n4, g4, -⟩ := ring_exp (a.ring.grow G3) (Nat.mod_lt _ hpp) (nb.grow g3) ne (rt_single (by omega) (by omega)) (by simp)
  refine Runs.step e4 ?_
  refine Runs.step rfl ?_
  refine Runs.step (seen (asSl_v _)) ?_
  refine Runs.step (seen (avInt_int _ _)) ?_
  refine Runs.new fun h5 b5 g5 => ?_
  have n1' : Nats h5 (⟨some (.new h4.blks.size 0), 1, .is 1⟩ : Sl) [1] := nats_one b5 (by decide)
  obtain ⟨s6, h6, e6, n6, g6, -⟩ := nat_Sub_spec (n4.grow g5) n1'
  obtain ⟨u1, u2, -⟩ := k.say nd
  have num1 : ∀ y : Nat, num B [y] = y := fun y => by simp [num]
  rw [num1, u1] at n6 e6
  generalize hy : sayP p (num B xs) = y at *
  have hu : 1 + p * y < B ^ 64 := by
    have : p * y < p * p := Nat.mul_lt_mul_of_pos_left u2 (by omega)
    have := sq_lt p2
    exact Nat.lt_of_lt_of_le (show 1 + p * y < B ^ 3 from by
      have : B ^ 2 + 1 < B ^ 3 := by decide
      omega) (Nat.pow_le_pow_right (by decide) (by decide))
  have es : subN (digs B (1 + p * y)) [1] = (digs B (p * y), 0) := by
    unfold subN
    rw [if_pos ⟨rt_digs hu, by decide⟩, num_digs B2, num1, if_neg (by omega), Nat.add_sub_cancel_left]
  rw [es] at n6 e6
  refine Runs.step e6 ?_
  refine Runs.step rfl ?_
  refine Runs.step (seen (asSl_v _)) ?_
  refine Runs.step (seen (avInt_int _ _)) ?_
  have G6 := ((G3.trans g4).trans g5).trans g6
  refine Runs.step ((G6.has a.b2).rd0 (f := AV.asSl) rfl (asSl_v _)) ?_
  have hpy : p * y < B ^ 64 := by omega
  have np := a.n2.grow G6
  rw [← digs_single (x := p) (by omega) (by omega)] at np
  obtain ⟨sc, sd, h7, e7, nc, nd', g7, oc, -⟩ := nat_Div_spec n6 np
  rw [divN_digs n6.lt (rt_digs hpy) (by omega) (Nat.lt_of_lt_of_le (show p < B from by omega) (by decide)), num_digs B2, Nat.mul_div_cancel_left _ (show 0 < p from by omega)] at e7 nc
  refine Runs.step e7 ?_
  refine Runs.step rfl ?_
  refine Runs.step (seen (asSl_v _)) ?_
  refine Runs.step (seen (asSl_v _)) ?_
  refine Runs.step (seen (avInt_int _ _)) ?_
  exact Runs.ret ⟨sc, rfl, nc, G6.trans g7, oc.of_le G6⟩
end
end Go.Ab

/- Layer 6: what a cipher text hides, by one prime. -/
set_option linter.unusedVariables false
set_option linter.unusedSimpArgs false
set_option maxRecDepth 10000
namespace Go.Ab
open Go.Proofs Go.Num

theorem num_oneB (y : Nat) : num B [y] = y := by simp [num]

section
variable {p q : Nat} (k : KeyOk p q) (p1 : 128 ≤ p) (p2 : p < 1099511627776) (q2 : q < 1099511627776)
include k p1 p2 q2

omit k p1 in
theorem shown_one : paillier_shown' (digs B (p * q)) [1] = digs B (1 * (p * q) + 1) := by
  have h1 : p * q < B ^ 2 := Nat.lt_of_lt_of_le (Nat.mul_lt_mul'' p2 q2) (by decide)
  have h2 : 1 * (p * q) + 1 < B ^ 64 := by
    have : B ^ 2 + 1 < B ^ 64 := by decide
    omega
  unfold paillier_shown'
  rw [← digs_one, mulN_digs (by decide) (Nat.lt_of_lt_of_le h1 (Nat.pow_le_pow_right (by decide) (by decide)))]
  unfold addN told
  rw [if_pos ⟨rt_digs (by omega), rt_digs (by decide)⟩, num_digs B2, num_digs B2]
  rw [if_pos h2]

theorem part_is {h : AH} {s t : Sl} {cs : List Nat} (nc : Nats h s cs) (nn : Nats h t (digs B (p * q))) (rc : rt cs = true) (co : Nat.Coprime (num B cs) (p * q)) {m : Nat} (d : Hid (p * q) ((p - 1) * (q - 1)) (num B cs) m) :
    Runs (go (.fn F.paillier_part [s.v, t.v, .int .u64 (p : Int)]) h) fun w h' => ∃ s' : Sl, w = s'.v ∧ Nats h' s' (digs B (m % p)) ∧ Grow h h' ∧ Own h s' := by
  have b40 := B40
  have hpp : 1 < p * p := Nat.lt_of_lt_of_le (by decide) (Nat.mul_le_mul p1 p1)
  have odd : p % 2 = 1 := by
    rcases Nat.mod_two_eq_zero_or_one p with e | e
    · rcases k.hp.2 2 (Nat.dvd_of_mod_eq_zero e) with h | h <;> omega
    · exact e
  rw [u_paillier_part]
  refine Runs.new fun h4 b4 g4 => ?_
  refine Runs.step (b4.rd0 (f := AV.asInt .u64) rfl (avInt_int _ _)) ?_
  refine Runs.new fun h6 b6 g6 => ?_
  refine Runs.new fun h7 b7 g7 => ?_
  have l4 : h.blks.size < h4.blks.size := b4.lt
  have l6 : h4.blks.size < h6.blks.size := b6.lt
  have l7 : h6.blks.size < h7.blks.size := b7.lt
  refine Runs.puts b7 rfl fun h8 b8 u8 => ?_
  have G7 := (g4.trans g6).trans g7
  have G8 : Grow h h8 := G7.updr (by omega) u8
  have c4 : h8.has h.blks.size [.int .u64 (p : Int)] T.uint64 := (g7.has (g6.has b4)).updr (by omega) u8
  have c6 : h8.has h4.blks.size [.int .u64 (p : Int)] T.uint64 := (g7.has b6).updr (by omega) u8
  have l8 : h7.blks.size ≤ h8.blks.size := u8.size
  generalize hs : (⟨some (.new h4.blks.size 0), 1, .is 1⟩ : Sl) = ps at *
  have np : Nats h8 ps [p] := by rw [← hs]; exact nats_one c6 (by omega)
  refine Runs.step (b8.rd0 (f := AV.asSl) rfl (asSl_v _)) ?_
  obtain ⟨_, h9, e9, s9, rfl, n9, g9, -⟩ := paillier_square_spec np
  refine Runs.step e9 ?_
  refine Runs.step (seen (asSl_v _)) ?_
  rw [square_one (by omega) p2] at n9
  obtain ⟨_, h10, e10, j, rfl, r10, g10⟩ := ring_new n9 (Nat.lt_of_lt_of_le (sq_lt p2) (by decide)) hpp (by rw [Nat.mul_mod, odd])
  refine Runs.step e10 ?_
  refine Runs.step rfl ?_
  refine Runs.step (seen rfl) ?_
  refine Runs.step (seen (avInt_int _ _)) ?_
  refine Runs.new fun h11 b11 g11 => ?_
  have l11 : h10.blks.size < h11.blks.size := b11.lt
  have lA := g9.size
  have lB := g10.size
  have jlt : j < h10.blks.size := by
    obtain ⟨_, _, _, _, _, bb, _⟩ := r10
    exact bb.lt
  refine Runs.puts b11 rfl fun h12 b12 u12 => ?_
  have GG := (g9.trans g10).trans g11
  have d4 := (GG.has c4).updr (i := h10.blks.size) (by omega) u12
  have d6 := (GG.has c6).updr (i := h10.blks.size) (by omega) u12
  have d8 := (GG.has b8).updr (i := h10.blks.size) (by omega) u12
  have gU : Grow h10 h12 := g11.updr (Nat.le_refl _) u12
  have r12 : RingAt h12 j (p * p) := r10.grow gU
  have G12 : Grow h h12 := ((G8.trans g9).trans g10).trans gU
  have at12 : SayAt h12 p h6.blks.size h10.blks.size h.blks.size j ps := ⟨d8, by rw [← hs]; exact nats_one d6 (by omega), b12, r12, d4⟩
  refine Runs.step (d8.rd0 (f := AV.asSl) rfl (asSl_v _)) ?_
  refine Runs.new fun h13 b13 g13 => ?_
  refine Runs.when (g13.same d8 0 1) ?_
  obtain ⟨_, h14, e14, s14, rfl, n14, g14, -⟩ := paillier_shown_spec (nn.grow (G12.trans g13)) (nats_one b13 (x := 1) (by decide))
  refine Runs.step e14 ?_
  refine Runs.step (seen (asSl_v _)) ?_
  rw [shown_one p2 q2] at n14
  refine Runs.when (g14.same (g13.has d8) 0 1) ?_
  have sh64 : 1 * (p * q) + 1 < B ^ 64 := by
    have h1 : p * q < B ^ 2 := Nat.lt_of_lt_of_le (Nat.mul_lt_mul'' p2 q2) (by decide)
    have : B ^ 2 + 1 < B ^ 64 := by decide
    omega
  have nd1 : ¬ p ∣ num B (digs B (1 * (p * q) + 1)) := by
    rw [num_digs B2]
    intro hd
    have : p ∣ 1 := (Nat.dvd_add_right (Nat.dvd_trans (Nat.dvd_mul_right p q) (by rw [Nat.one_mul]; exact Nat.dvd_refl _))).1 hd
    have := Nat.le_of_dvd (by decide) this
    omega
  have at14 := at12.grow (g13.trans g14)
  obtain ⟨_, h15, e15, s15, rfl, n15, g15, -⟩ := say_is at14 k p1 p2 n14 (rt_digs sh64) nd1
  refine Runs.step e15 ?_
  refine Runs.step (seen (asSl_v _)) ?_
  rw [num_digs B2] at n15
  refine Runs.when (g15.same at14.b2 0 1) ?_
  have at15 := at14.grow g15
  have sayB : ∀ {x : Nat}, ¬ p ∣ x → sayP p x < p := fun h => (k.say h).2.1
  rw [num_digs B2] at nd1
  have hA := sayB nd1
  have np15 := at15.n2
  obtain ⟨_, h16, e16, s16, rfl, n16, g16, -⟩ := modint_Inverse_spec n15 np15
  have sp := (invN_spec n15.lt np15.lt).2.2.1 ⟨rt_digs (Nat.lt_trans hA (Nat.lt_of_lt_of_le (show p < B from by omega) (by decide))), rt_single (by omega) (by omega), by rw [num_oneB]; omega⟩
  rw [num_oneB, num_digs B2] at sp
  obtain ⟨w, w1, w2, w3⟩ := sp.2 (by
    rw [Nat.gcd_comm, ← Nat.gcd_rec]
    exact k.say_unit)
  rw [w2] at e16 n16
  refine Runs.step e16 ?_
  refine Runs.step rfl ?_
  refine Runs.step (seen (asSl_v _)) ?_
  refine Runs.step (seen (avInt_int _ _)) ?_
  have at16 := at15.grow g16
  have ndc : ¬ p ∣ num B cs := k.unit co
  have G16 := ((((G12.trans g13).trans g14).trans g15).trans g16)
  obtain ⟨_, h17, e17, s17, rfl, n17, g17, -⟩ := say_is at16 k p1 p2 (nc.grow G16) rc ndc
  refine Runs.step e17 ?_
  refine Runs.step (seen (asSl_v _)) ?_
  obtain ⟨s18, h18, e18, n18, g18, -⟩ := nat_Mul_spec n17 (n16.grow g17)
  have hC := sayB ndc
  rw [mulN_digs (lt40_30 (by omega)) (lt40_30 (by omega))] at e18 n18
  refine Runs.step e18 ?_
  refine Runs.step rfl ?_
  refine Runs.step (seen (asSl_v _)) ?_
  refine Runs.step (seen (avInt_int _ _)) ?_
  have at18 := (at16.grow g17).grow g18
  refine Runs.step (at18.b2.rd0 (f := AV.asSl) rfl (asSl_v _)) ?_
  have np18 := at18.n2
  rw [← digs_single (x := p) (by omega) (by omega)] at np18
  obtain ⟨sx, sy, h19, e19, nx, ny, g19, ox, oy⟩ := nat_Div_spec n18 np18
  have hprod : sayP p (num B cs) * w < B ^ 64 := Nat.lt_of_lt_of_le (Nat.mul_lt_mul'' (show _ < 1099511627776 from by omega) (show w < 1099511627776 from by omega)) (by decide)
  rw [divN_digs n18.lt (rt_digs hprod) (by omega) (Nat.lt_of_lt_of_le (show p < B from by omega) (by decide)), num_digs B2] at e19 ny
  rw [k.found co d (i := w) (by
    show _ % p = 1 % p
    rw [Nat.mul_comm, w3, Nat.mod_eq_of_lt (show 1 < p from by omega)])] at e19 ny
  refine Runs.step e19 ?_
  refine Runs.step rfl ?_
  refine Runs.step (seen (asSl_v _)) ?_
  refine Runs.step (seen (asSl_v _)) ?_
  refine Runs.step (seen (avInt_int _ _)) ?_
  have G18 := (G16.trans g17).trans g18
  exact Runs.ret ⟨sy, rfl, ny, G18.trans g19, oy.of_le G18⟩
end
end Go.Ab

/- Layer 6: Decrypt. -/
set_option linter.unusedVariables false
set_option linter.unusedSimpArgs false
set_option maxRecDepth 10000
namespace Go.Ab
open Go.Proofs Go.Num

/-- What a cipher text hides, of a key's primes. -/
noncomputable def hidOf (p q c : Nat) : Nat := by
  classical
  exact if h : ∃ m, Hid (p * q) ((p - 1) * (q - 1)) c m then h.choose else 0

theorem key_pos {p q : Nat} (k : KeyOk p q) : 0 < p * q := by have := k.pos; omega

theorem hidOf_is {p q c : Nat} (k : KeyOk p q) (h : Nat.Coprime c (p * q)) : Hid (p * q) ((p - 1) * (q - 1)) c (hidOf p q c) := by
  unfold hidOf
  have hx := k.hid h
  rw [dif_pos hx]
  exact hx.choose_spec

theorem hidOf_of {p q c m : Nat} (k : KeyOk p q) (h : Hid (p * q) ((p - 1) * (q - 1)) c m) : hidOf p q c = m := by
  unfold hidOf
  have hx : ∃ m, Hid (p * q) ((p - 1) * (q - 1)) c m := ⟨m, h⟩
  rw [dif_pos hx]
  exact hx.choose_spec.uniq k.co (key_pos k) h

theorem keyOk_of {p q : Nat} (p1 : 128 ≤ p) (hp : leastN p = p) (q1 : 128 ≤ q) (hq : leastN q = q) (ne : p ≠ q) (hg : Nat.gcd (p * q) ((p - 1) * (q - 1)) = 1) : KeyOk p q :=
  ⟨(leastN_prime (by omega)).1 hp, (leastN_prime (by omega)).1 hq, ne, hg⟩

theorem alone_iff {cs ns bs : List Nat} (lc : ∀ x ∈ cs, x < B) (hn : rt ns = true) (ln : ∀ x ∈ ns, x < B) (hb : rt bs = true) : paillier_alone' cs ns bs = true ↔ rt cs = true ∧ cs ≠ [] ∧ num B cs < num B bs ∧ Nat.gcd (num B cs) (num B ns) = 1 := by
  unfold paillier_alone'
  cases hc : rt cs with
  | false => simp
  | true =>
    rw [Bool.not_true, cond_false]
    by_cases h0 : (List.length cs : Int) = 0
    · rw [decide_eq_true h0, cond_true]
      have : cs = [] := List.length_eq_zero_iff.1 (by omega)
      simp [this]
    · rw [decide_eq_false h0, cond_false, cmpN_rt2 hc hb]
      have hne : cs ≠ [] := fun e => h0 (by simp [e])
      have hg : Nat.gcd (num B cs) (num B ns) < B ^ 64 := by
        have h1 := num_lt64 lc hc
        have h2 : 0 < num B cs := num_pos B1 (rt_iff.1 hc).2 hne
        exact Nat.lt_of_le_of_lt (Nat.gcd_le_left _ h2) h1
      have e1 : decide (cmpN ((gcdN cs ns).1) [1] = 0) = decide (Nat.gcd (num B cs) (num B ns) = 1) := by
        unfold gcdN
        rw [if_pos ⟨hc, hn⟩, cmp_one hg]
      rw [e1]
      by_cases hl : num B cs < num B bs
      · have : cmp (num B cs) (num B bs) < 0 := cmp_lt.2 hl
        rw [decide_eq_false (show ¬ cmp (num B cs) (num B bs) ≥ 0 from by omega), cond_false]
        simp [hne, hl]
      · have : ¬ cmp (num B cs) (num B bs) < 0 := fun h => hl (cmp_lt.1 h)
        rw [decide_eq_true (show cmp (num B cs) (num B bs) ≥ 0 from by omega), cond_true]
        simp [hl]

theorem square_digs {N : Nat} (h : N < B ^ 30) : paillier_square' (digs B N) = digs B (N * N) := by
  unfold paillier_square'
  rw [mulN_digs h h]

theorem key_lt {p q : Nat} (p2 : p < 1099511627776) (q2 : q < 1099511627776) : p * q < B ^ 2 := Nat.lt_of_lt_of_le (Nat.mul_lt_mul'' p2 q2) (by decide)
theorem key_lt30 {p q : Nat} (p2 : p < 1099511627776) (q2 : q < 1099511627776) : p * q < B ^ 30 := Nat.lt_of_lt_of_le (key_lt p2 q2) (Nat.pow_le_pow_right (by decide) (by decide))
theorem key_sq {p q : Nat} (p2 : p < 1099511627776) (q2 : q < 1099511627776) : p * q * (p * q) < B ^ 4 := Nat.lt_of_lt_of_le (Nat.mul_lt_mul'' (key_lt p2 q2) (key_lt p2 q2)) (by decide)

theorem valid_iff {p q : Nat} (p2 : p < 1099511627776) (q2 : q < 1099511627776) {cs : List Nat} (lc : ∀ x ∈ cs, x < B) :
    paillier_Valid' (digs B (p * q)) cs = true ↔ paillier_May' (digs B (p * q)) = true ∧ rt cs = true ∧ cs ≠ [] ∧ num B cs < p * q * (p * q) ∧ Nat.Coprime (num B cs) (p * q) := by
  unfold paillier_Valid'
  rw [square_digs (key_lt30 p2 q2)]
  cases paillier_May' (digs B (p * q)) with
  | false => simp
  | true =>
    rw [cond_true, alone_iff lc (rt_digs (up64 (key_lt p2 q2))) (digs_lt B2 _) (rt_digs (Nat.lt_of_lt_of_le (key_sq p2 q2) (Nat.pow_le_pow_right (by decide) (by decide)))), num_digs B2, num_digs B2]
    simp [Nat.Coprime]

noncomputable def decF (a b : Int) (cs : List Nat) : List Nat × Int := cond (badF a b) ([], 9) (cond (!paillier_Valid' (digs B (a.toNat * b.toNat)) cs) ([], 11) (digs B (hidOf a.toNat b.toNat (num B cs)), 0))

@[reducible] def paillier_Decrypt_post (h0 : AH) (r : List Nat × Int) (v : AV) (h' : AH) : Prop := ∃ s1 : Sl, v = .tup [s1.v, .int .i64 r.2] ∧ Nats h' s1 r.1 ∧ Grow h0 h' ∧ Own h0 s1

theorem crt_back {p q m : Nat} (k : KeyOk p q) (p1 : 128 ≤ p) (p2 : p < 1099511627776) (q1 : 128 ≤ q) (q2 : q < 1099511627776) (hm : m < p * q) : crtN (digs B (m % p)) [p] (digs B (m % q)) [q] = (digs B m, 0) := by
  have b40 := B40
  have lp : m % p < B := Nat.lt_trans (Nat.mod_lt _ (by omega)) (by omega)
  have lq : m % q < B := Nat.lt_trans (Nat.mod_lt _ (by omega)) (by omega)
  have one : ∀ {x : Nat}, x < B → ∀ y ∈ [x], y < B := fun h y hy => by rw [List.mem_singleton.1 hy]; exact h
  obtain ⟨-, -, -, s2, s3⟩ := crtN_spec (x1 := digs B (m % p)) (x2 := [p]) (x3 := digs B (m % q)) (x4 := [q]) (digs_lt B2 _) (one (by omega)) (digs_lt B2 _) (one (by omega))
  have l1 : ∀ {x : Nat}, x < B → (digs B x).length ≤ 8 := fun h => (digs_len B2 _ 8).2 (Nat.lt_of_lt_of_le h (by decide))
  have r1 : ∀ {x : Nat}, x < B → rt (digs B x) = true := fun h => rt_digs (Nat.lt_of_lt_of_le h (by decide))
  have ok : CrtOk (digs B (m % p)) [p] (digs B (m % q)) [q] := by
    refine ⟨⟨r1 lp, l1 lp⟩, ⟨rt_single (by omega) (by omega), by simp⟩, ⟨r1 lq, l1 lq⟩, ⟨rt_single (by omega) (by omega), by simp⟩, ?_, ?_, ?_, ?_⟩
    · rw [num_oneB]; omega
    · rw [num_oneB]; omega
    · rw [num_oneB, num_digs B2]; exact Nat.mod_lt _ (by omega)
    · rw [num_oneB, num_digs B2]; exact Nat.mod_lt _ (by omega)
  have cop : Nat.gcd q p = 1 := by rw [Nat.gcd_comm]; exact k.copq
  obtain ⟨X, e1, -, e2, e3, e4⟩ := s3 (s2 ok (by rw [num_oneB, num_oneB, Nat.gcd_comm, ← Nat.gcd_rec]; exact cop))
  rw [num_oneB, num_oneB] at e2
  rw [num_oneB, num_digs B2] at e3
  rw [num_oneB, num_digs B2] at e4
  have : Cg (p * q) X m := Cg.both k.copq e3 e4
  rw [e1, this.eq e2 hm]

theorem paillier_Decrypt_is {h : AH} {s : Sl} {cs : List Nat} (n : Nats h s cs) (a b : Int) : Runs (go (.fn F.paillier_Decrypt [.agg [.int .u64 a, .int .u64 b], s.v]) h) (paillier_Decrypt_post h (decF a b cs)) := by
  rw [u_paillier_Decrypt]
  refine Runs.new fun h4 b4 g4 => ?_
  refine Runs.step (b4.rd 0 (f := AV.asInt .u64) rfl (avInt_int _ _)) ?_
  refine Runs.step (b4.rd 1 (f := AV.asInt .u64) rfl (avInt_int _ _)) ?_
  obtain ⟨_, h7, e7, s7, rfl, n7, g7, o7⟩ := paillier_Public_is (h := h4) a b
  refine Runs.step e7 ?_
  refine Runs.step rfl ?_
  refine Runs.step (seen (asSl_v _)) ?_
  refine Runs.step (seen (avInt_int _ _)) ?_
  have nilN : ∀ h : AH, Nats h (⟨none, 0, .is 0⟩ : Sl) [] := fun h => Nats.nil h
  cases hb : badF a b with
  | true =>
    have e : pubF a b = ([], 9) := by unfold pubF; rw [hb]; rfl
    rw [e]
    refine Runs.ifT rfl ?_
    have dec : decF a b cs = ([], 9) := by unfold decF; rw [hb]; rfl
    rw [dec]
    exact Runs.ret ⟨(⟨none, 0, .is 0⟩ : Sl), rfl, nilN _, g4.trans g7, Own.nil _⟩
  | false =>
    have e : pubF a b = (digs B (a.toNat * b.toNat), 0) := by unfold pubF; rw [hb]; rfl
    rw [e] at n7 ⊢
    refine Runs.ifF rfl ?_
    obtain ⟨p, q, rfl, rfl, p1, p2, p3, q1, q2, q3, ne, -, hg⟩ := badF_false hb
    rw [Int.toNat_natCast, Int.toNat_natCast] at n7
    have k := keyOk_of p1 p3 q1 q3 ne hg
    obtain ⟨_, h11, e11, rfl, g11⟩ := paillier_Valid_spec n7 (n.grow (g4.trans g7))
    refine Runs.step e11 ?_
    refine Runs.step (seen rfl) ?_
    have dec : decF (p : Int) (q : Int) cs = cond (!paillier_Valid' (digs B (p * q)) cs) ([], 11) (digs B (hidOf p q (num B cs)), 0) := by
      unfold decF
      rw [hb, cond_false, Int.toNat_natCast, Int.toNat_natCast]
    rw [dec]
    cases hv : paillier_Valid' (digs B (p * q)) cs with
    | false =>
      refine Runs.ifT rfl ?_
      exact Runs.ret ⟨(⟨none, 0, .is 0⟩ : Sl), rfl, nilN _, (g4.trans g7).trans g11, Own.nil _⟩
    | true =>
      refine Runs.ifF rfl ?_
      obtain ⟨-, rc, -, -, co⟩ := (valid_iff p2 q2 n.lt).1 hv
      have hm := hidOf_is k co
      have co' : Nat.Coprime (num B cs) (q * p) := by rw [Nat.mul_comm]; exact co
      have hm' : Hid (q * p) ((q - 1) * (p - 1)) (num B cs) (hidOf p q (num B cs)) := by rw [Nat.mul_comm q p, Nat.mul_comm (q - 1)]; exact hm
      have G11 := (g7.trans g11)
      have c4 := G11.has b4
      refine Runs.step (c4.rd 0 (f := AV.asInt .u64) rfl (avInt_int _ _)) ?_
      refine Runs.step (c4.rd 1 (f := AV.asInt .u64) rfl (avInt_int _ _)) ?_
      refine Runs.new fun h15 b15 g15 => Runs.new fun h16 b16 g16 => ?_
      have d4 := g16.has (g15.has c4)
      have d15 := g16.has b15
      refine Runs.step (d4.rd 0 (f := AV.asInt .u64) rfl (avInt_int _ _)) ?_
      refine Runs.step (d4.rd 0 (f := AV.asInt .u64) rfl (avInt_int _ _)) ?_
      refine Runs.step (d4.rd 1 (f := AV.asInt .u64) rfl (avInt_int _ _)) ?_
      refine Runs.step (d4.rd 1 (f := AV.asInt .u64) rfl (avInt_int _ _)) ?_
      have G16 : Grow h h16 := ((g4.trans G11).trans g15).trans g16
      have nn : Nats h16 s7 (digs B (p * q)) := n7.grow ((g11.trans g15).trans g16)
      obtain ⟨_, h21, e21, s21, rfl, n21, g21, -⟩ := part_is k p1 p2 q2 (n.grow G16) nn rc co hm
      refine Runs.step e21 ?_
      refine Runs.step (seen (asSl_v _)) ?_
      refine Runs.when (g21.same d4 1 1) (Runs.when (g21.same d4 1 1) (Runs.when (g21.same d4 0 1) (Runs.when (g21.same b16 0 0) (Runs.when (g21.same d15 0 0) ?_))))
      have nn' := nn.grow g21
      rw [Nat.mul_comm p q] at nn'
      obtain ⟨_, h23, e23, s23, rfl, n23, g23, -⟩ := part_is k.swap q1 q2 p2 (n.grow (G16.trans g21)) nn' rc co' hm'
      refine Runs.step e23 ?_
      refine Runs.step (seen (asSl_v _)) ?_
      refine Runs.when (g23.same (g21.has d4) 1 1) (Runs.when (g23.same (g21.has d4) 0 1) (Runs.when (g23.same (g21.has b16) 0 0) (Runs.when (g23.same (g21.has d15) 0 0) ?_)))
      have b40 := B40
      obtain ⟨_, h25, e25, s25, rfl, n25, g25, o25⟩ := modint_Crt_spec (n21.grow g23) (nats_one (g23.has (g21.has d15)) (by omega)) n23 (nats_one (g23.has (g21.has b16)) (by omega))
      rw [crt_back k p1 p2 q1 q2 hm.1] at e25 n25
      refine Runs.step e25 ?_
      refine Runs.step rfl ?_
      refine Runs.step (seen (asSl_v _)) ?_
      refine Runs.step (seen (avInt_int _ _)) ?_
      refine Runs.when rfl ?_
      have G23 := (G16.trans g21).trans g23
      exact Runs.ret ⟨s25, rfl, n25, G23.trans g25, o25.of_le G23⟩
end Go.Ab

/- Layer 1: are limbs the same, of any two. -/
set_option linter.unusedVariables false
set_option linter.unusedSimpArgs false
set_option maxRecDepth 10000
namespace Go.Ab
open Go.Proofs Go.Num

theorem same_loop {h : AH} {s t : Sl} {xs ys : List Nat} (n : Nats h s xs) (m : Nats h t ys) (hl : xs.length = ys.length) : ∀ (k i : Nat), i + k = xs.length →
    go (.pt F.ref01_Same Td.ref01_Same_4 [(0, s.v), (1, t.v), (5, .int .i64 (i : Int))]) h = some (.bool (decide (xs.drop i = ys.drop i)), h)
  | 0, i, hi => by
    rw [p_ref01_Same_4, condF (by rw [decide_eq_false_iff_not, n.len]; omega), List.drop_of_length_le (by omega), List.drop_of_length_le (by omega)]
    rfl
  | k + 1, i, hi => by
    have hx : i < xs.length := by omega
    have hy : i < ys.length := by omega
    obtain ⟨r1, a1, a2⟩ := n.at hx
    obtain ⟨r2, b1, b2⟩ := m.at hy
    have hs := n.short
    rw [p_ref01_Same_4, condT (by rw [decide_eq_true_eq, n.len]; omega), a1, Option.bind_some, rdc a2 (avInt_int _ _), Option.bind_some, b1, Option.bind_some, rdc b2 (avInt_int _ _), Option.bind_some]
    have ex := List.drop_eq_getElem_cons hx
    have ey := List.drop_eq_getElem_cons hy
    by_cases e : xs[i] = ys[i]
    · rw [condF (by rw [e]; simp), wrap_succ (by omega), same_loop n m hl k (i + 1) (by omega)]
      congr 3
      rw [decide_eq_decide, ex, ey, List.cons.injEq]
      exact ⟨fun h => ⟨e, h⟩, fun h => h.2⟩
    · rw [condT (by rw [decide_eq_false (show ¬ ((xs[i] : Nat) : Int) = ((ys[i] : Nat) : Int) from by omega)]; rfl)]
      congr 3
      symm
      rw [decide_eq_false_iff_not, ex, ey, List.cons.injEq]
      exact fun h => e h.1

theorem ref01_Same_dec {h : AH} {s t : Sl} {xs ys : List Nat} (n : Nats h s xs) (m : Nats h t ys) : go (.fn F.ref01_Same [s.v, t.v]) h = some (.bool (decide (xs = ys)), h) := by
  rw [u_ref01_Same, n.len, m.len]
  by_cases hl : xs.length = ys.length
  · rw [condF (by rw [hl]; simp)]
    have := same_loop n m hl xs.length 0 (by omega)
    simpa using this
  · rw [condT (by rw [decide_eq_false (show ¬ ((xs.length : Nat) : Int) = ((ys.length : Nat) : Int) from by omega)]; rfl), decide_eq_false (fun e => hl (by rw [e]))]
end Go.Ab

/- Layer 6: what was encrypted is decrypted, its walk: printed by wip/tools/walk.py. -/
set_option linter.unusedVariables false
set_option linter.unusedSimpArgs false
set_option maxRecDepth 10000
namespace Go.Ab
open Go.Proofs Go.Num

noncomputable def law06_PaillierBack' (a1 : Int) (a2 : Int) (x3 : List Nat) (x4 : List Nat) : Bool :=
  cond (!((few06 [x3, x4]))) (true) (cond (!true) (cond (true) (decide (((pubF a1 a2).2) = 9)) (false)) (cond (!decide (((pubF a1 a2).2) = 0)) (cond (true) (decide (((pubF a1 a2).2) = 9)) (false)) (cond (!decide (((encF ((pubF a1 a2).1) x3 x4).2) = 0)) (cond (decide (((encF ((pubF a1 a2).1) x3 x4).2) = 10)) (true) (decide (((encF ((pubF a1 a2).1) x3 x4).2) = 1))) (cond (decide (((decF a1 a2 ((encF ((pubF a1 a2).1) x3 x4).1)).2) = 0)) (cond (((decide (((decF a1 a2 ((encF ((pubF a1 a2).1) x3 x4).1)).1) = x3)))) (((paillier_Valid' ((pubF a1 a2).1) ((encF ((pubF a1 a2).1) x3 x4).1)))) (false)) (false)))))

theorem law06_PaillierBack_spec {h : AH} {a3 : Sl} {x3 : List Nat} {a4 : Sl} {x4 : List Nat} (n3 : Nats h a3 x3) (n4 : Nats h a4 x4) (a1 : Int) (a2 : Int) : Runs (go (.fn F.law06_PaillierBack [.agg [.int .u64 a1, .int .u64 a2], a3.v, a4.v]) h) fun v h' => v = .bool (law06_PaillierBack' a1 a2 x3 x4) ∧ Grow h h' := by
  rw [u_law06_PaillierBack]
  refine Runs.new fun H5 b5 g5 => ?_
  refine Runs.new fun H6 b6 g6 => ?_
  obtain ⟨_, H7, e7, rfl, g7⟩ := law06_few_is (Seq.lit (E := El.nats) (rows := [[(a3).v], [(a4).v]]) (n := 2) b6 (.cons ⟨_, rfl, (n3.grow (g5.trans g6))⟩ (.cons ⟨_, rfl, (n4.grow (g5.trans g6))⟩ .nil)) rfl) (by simp)
  refine Runs.step e7 ?_
  refine Runs.step (seen rfl) ?_
  refine Runs.cond (fun k8 => ?_) (fun k8 => ?_)
  · have z : law06_PaillierBack' a1 a2 x3 x4 = true := by unfold law06_PaillierBack'; exact (condT k8).trans rfl
    rw [z]
    have G9 := ((g5.trans g6).trans g7)
    exact Runs.ret ⟨rfl, G9⟩
  · obtain ⟨H9, e9, g9⟩ := awake06
    refine Runs.step e9 ?_
    refine Runs.step (seen rfl) ?_
    have G10 := ((g6.trans g7).trans g9)
    have b5_11 := G10.has b5
    refine Runs.step (AH.has.rd b5_11 0 rfl (avInt_int _ _)) ?_
    refine Runs.step (AH.has.rd b5_11 1 rfl (avInt_int _ _)) ?_
    obtain ⟨_, H12, e12, s12, rfl, n12, g12, o12⟩ := paillier_Public_is a1 a2
    refine Runs.step e12 ?_
    refine Runs.step rfl ?_
    refine Runs.step (seen (asSl_v _)) ?_
    refine Runs.step (seen (avInt_int _ _)) ?_
    refine Runs.cond (fun k13 => ?_) (fun k13 => ?_)
    · refine Runs.cond (fun k14 => ?_) (fun k14 => ?_)
      · have z : law06_PaillierBack' a1 a2 x3 x4 = decide (((pubF a1 a2).2) = 9) := by unfold law06_PaillierBack'; exact (condF k8).trans ((condT k13).trans ((condT k14).trans rfl))
        rw [z]
        have G15 := ((((g5.trans g6).trans g7).trans g9).trans g12)
        exact Runs.ret ⟨rfl, G15⟩
      · have z : law06_PaillierBack' a1 a2 x3 x4 = false := by unfold law06_PaillierBack'; exact (condF k8).trans ((condT k13).trans ((condF k14).trans rfl))
        rw [z]
        have G15 := ((((g5.trans g6).trans g7).trans g9).trans g12)
        exact Runs.ret ⟨rfl, G15⟩
    · refine Runs.cond (fun k14 => ?_) (fun k14 => ?_)
      · refine Runs.cond (fun k15 => ?_) (fun k15 => ?_)
        · have z : law06_PaillierBack' a1 a2 x3 x4 = decide (((pubF a1 a2).2) = 9) := by unfold law06_PaillierBack'; exact (condF k8).trans ((condF k13).trans ((condT k14).trans ((condT k15).trans rfl)))
          rw [z]
          have G16 := ((((g5.trans g6).trans g7).trans g9).trans g12)
          exact Runs.ret ⟨rfl, G16⟩
        · have z : law06_PaillierBack' a1 a2 x3 x4 = false := by unfold law06_PaillierBack'; exact (condF k8).trans ((condF k13).trans ((condT k14).trans ((condF k15).trans rfl)))
          rw [z]
          have G16 := ((((g5.trans g6).trans g7).trans g9).trans g12)
          exact Runs.ret ⟨rfl, G16⟩
      · have G15 := ((((g5.trans g6).trans g7).trans g9).trans g12)
        have n3_16 := n3.grow G15
        have n4_17 := n4.grow G15
        obtain ⟨_, H18, e18, s18, rfl, n18, g18, o18⟩ := paillier_Encrypt_is n12 n3_16 n4_17
        refine Runs.step e18 ?_
        refine Runs.step rfl ?_
        refine Runs.step (seen (asSl_v _)) ?_
        refine Runs.step (seen (avInt_int _ _)) ?_
        refine Runs.cond (fun k19 => ?_) (fun k19 => ?_)
        · refine Runs.cond (fun k20 => ?_) (fun k20 => ?_)
          · have z : law06_PaillierBack' a1 a2 x3 x4 = true := by unfold law06_PaillierBack'; exact (condF k8).trans ((condF k13).trans ((condF k14).trans ((condT k19).trans ((condT k20).trans rfl))))
            rw [z]
            have G21 := (G15.trans g18)
            exact Runs.ret ⟨rfl, G21⟩
          · have z : law06_PaillierBack' a1 a2 x3 x4 = decide (((encF ((pubF a1 a2).1) x3 x4).2) = 1) := by unfold law06_PaillierBack'; exact (condF k8).trans ((condF k13).trans ((condF k14).trans ((condT k19).trans ((condF k20).trans rfl))))
            rw [z]
            have G21 := (G15.trans g18)
            exact Runs.ret ⟨rfl, G21⟩
        · refine Runs.step (AH.has.rd ((g12.trans g18).has b5_11) 0 rfl (avInt_int _ _)) ?_
          refine Runs.step (AH.has.rd ((g12.trans g18).has b5_11) 1 rfl (avInt_int _ _)) ?_
          obtain ⟨_, H20, e20, s20, rfl, n20, g20, o20⟩ := paillier_Decrypt_is n18 a1 a2
          refine Runs.step e20 ?_
          refine Runs.step rfl ?_
          refine Runs.step (seen (asSl_v _)) ?_
          refine Runs.step (seen (avInt_int _ _)) ?_
          refine Runs.step (ref01_Same_dec n20 (n3_16.grow (g18.trans g20))) ?_
          refine Runs.step (seen rfl) ?_
          refine Runs.cond (fun k22 => ?_) (fun k22 => ?_)
          · refine Runs.cond (fun k23 => ?_) (fun k23 => ?_)
            · obtain ⟨_, H24, e24, rfl, g24⟩ := paillier_Valid_spec (n12.grow (g18.trans g20)) (n18.grow g20)
              refine Runs.step e24 ?_
              refine Runs.step (seen rfl) ?_
              have z : law06_PaillierBack' a1 a2 x3 x4 = ((paillier_Valid' ((pubF a1 a2).1) ((encF ((pubF a1 a2).1) x3 x4).1))) := by unfold law06_PaillierBack'; exact (condF k8).trans ((condF k13).trans ((condF k14).trans ((condF k19).trans ((condT k22).trans ((condT k23).trans rfl)))))
              rw [z]
              have G25 := (((G15.trans g18).trans g20).trans g24)
              exact Runs.ret ⟨rfl, G25⟩
            · have z : law06_PaillierBack' a1 a2 x3 x4 = false := by unfold law06_PaillierBack'; exact (condF k8).trans ((condF k13).trans ((condF k14).trans ((condF k19).trans ((condT k22).trans ((condF k23).trans rfl)))))
              rw [z]
              have G24 := ((G15.trans g18).trans g20)
              exact Runs.ret ⟨rfl, G24⟩
          · have z : law06_PaillierBack' a1 a2 x3 x4 = false := by unfold law06_PaillierBack'; exact (condF k8).trans ((condF k13).trans ((condF k14).trans ((condF k19).trans ((condF k22).trans rfl))))
            rw [z]
            have G23 := ((G15.trans g18).trans g20)
            exact Runs.ret ⟨rfl, G23⟩

end Go.Ab

/- Layer 6: the law: what was encrypted is decrypted. -/
set_option linter.unusedVariables false
set_option linter.unusedSimpArgs false
set_option maxRecDepth 10000
namespace Go.Ab
open Go.Proofs Go.Num

theorem divN_digs2 {X Y : Nat} (hX : X < B ^ 64) (hY : Y < B ^ 64) (h0 : 0 < Y) : (divN (digs B X) (digs B Y)).2.1 = digs B (X % Y) := by
  rw [divN_digs (digs_lt B2 X) (rt_digs hX) h0 hY, num_digs B2]

/-- What a cipher text is, as a number. -/
theorem enc_num {p q : Nat} (k : KeyOk p q) (p2 : p < 1099511627776) (q2 : q < 1099511627776) {ms rs : List Nat} (lm : ∀ x ∈ ms, x < B) (lr : ∀ x ∈ rs, x < B) (he : (encF (digs B (p * q)) ms rs).2 = 0) :
    paillier_May' (digs B (p * q)) = true ∧ rt ms = true ∧ num B ms < p * q ∧ Nat.Coprime (num B rs) (p * q) ∧
    encF (digs B (p * q)) ms rs = (digs B ((num B ms * (p * q) + 1) * (num B rs ^ (p * q) % (p * q * (p * q))) % (p * q * (p * q))), 0) := by
  have hN2 := key_lt p2 q2
  have hS := key_sq p2 q2
  have h0 := key_pos k
  have rN : rt (digs B (p * q)) = true := rt_digs (up64 hN2)
  have up4 : ∀ {x : Nat}, x < B ^ 4 → x < B ^ 30 := fun h => Nat.lt_of_lt_of_le h (Nat.pow_le_pow_right (by decide) (by decide))
  have up30 : ∀ {x : Nat}, x < B ^ 30 → x < B ^ 64 := fun h => Nat.lt_of_lt_of_le h (Nat.pow_le_pow_right (by decide) (by decide))
  unfold encF at he ⊢
  cases m : paillier_May' (digs B (p * q)) with
  | false => rw [m] at he; cases he
  | true =>
    rw [m] at he
    rw [Bool.not_true, cond_false] at he ⊢
    cases ip : paillier_isPlain' (digs B (p * q)) ms with
    | false => rw [ip] at he; cases he
    | true =>
      rw [ip] at he
      rw [Bool.not_true, cond_false] at he ⊢
      cases al : paillier_alone' rs (digs B (p * q)) (digs B (p * q)) with
      | false => rw [al] at he; cases he
      | true =>
        rw [Bool.not_true, cond_false]
        have hp : rt ms = true ∧ num B ms < p * q := by
          unfold paillier_isPlain' at ip
          cases hr : rt ms with
          | false => rw [hr] at ip; cases ip
          | true =>
            rw [hr, cond_true, decide_eq_true_eq] at ip
            have := cmpN_lt hr rN ip
            rw [num_digs B2] at this
            exact ⟨rfl, this⟩
        obtain ⟨a1, -, -, a4⟩ := (alone_iff lr rN (digs_lt B2 _) rN).1 al
        rw [num_digs B2] at a4
        refine ⟨rfl, hp.1, hp.2, a4, ?_⟩
        have hmn : num B ms * (p * q) + 1 < B ^ 30 := by
          have : num B ms * (p * q) < B ^ 4 := Nat.lt_of_lt_of_le (Nat.mul_lt_mul'' (Nat.lt_trans hp.2 hN2) hN2) (by decide)
          have : B ^ 4 + 1 < B ^ 30 := by decide
          omega
        have hs : paillier_shown' (digs B (p * q)) ms = digs B (num B ms * (p * q) + 1) := by
          unfold paillier_shown'
          have e : mulN ms (digs B (p * q)) = (digs B (num B ms * (p * q)), 0) := by
            have := mulN_digs (a := num B ms) (b := p * q) (up4 (Nat.lt_trans hp.2 (Nat.lt_of_lt_of_le hN2 (by decide)))) (key_lt30 p2 q2)
            rwa [digs_of_rt lm hp.1] at this
          rw [e]
          unfold addN told
          have e1 : num B [1] = 1 := by decide
          rw [if_pos ⟨rt_digs (up30 (by omega)), by decide⟩, num_digs B2, e1, if_pos (up30 hmn)]
        have hpw : powN rs (digs B (p * q)) (paillier_square' (digs B (p * q))) = digs B (num B rs ^ (p * q) % (p * q * (p * q))) := by
          unfold powN
          rw [square_digs (key_lt30 p2 q2), num_digs B2, num_digs B2]
        rw [hs, hpw, square_digs (key_lt30 p2 q2)]
        unfold ref02_Times'
        have hr : num B rs ^ (p * q) % (p * q * (p * q)) < B ^ 4 := Nat.lt_trans (Nat.mod_lt _ (Nat.mul_pos h0 h0)) hS
        rw [mulN_digs hmn (up4 hr)]
        have hprod : (num B ms * (p * q) + 1) * (num B rs ^ (p * q) % (p * q * (p * q))) < B ^ 64 := by
          calc _ < B ^ 30 * B ^ 30 := Nat.mul_lt_mul'' hmn (up4 hr)
            _ = B ^ 60 := by rw [← Nat.pow_add]
            _ ≤ B ^ 64 := Nat.pow_le_pow_right (by decide) (by decide)
        rw [divN_digs2 hprod (up30 (up4 hS)) (Nat.mul_pos h0 h0)]

theorem back_ok {p q : Nat} (k : KeyOk p q) (p2 : p < 1099511627776) (q2 : q < 1099511627776) {ms rs : List Nat} (lm : ∀ x ∈ ms, x < B) (lr : ∀ x ∈ rs, x < B) (he : (encF (digs B (p * q)) ms rs).2 = 0) :
    paillier_Valid' (digs B (p * q)) (encF (digs B (p * q)) ms rs).1 = true ∧ rt ms = true ∧ hidOf p q (num B (encF (digs B (p * q)) ms rs).1) = num B ms := by
  obtain ⟨m, rm, lmn, co, e⟩ := enc_num k p2 q2 lm lr he
  have h0 := key_pos k
  have hNN : 0 < p * q * (p * q) := Nat.mul_pos h0 h0
  rw [e]
  dsimp only
  generalize hM : num B ms = M at *
  generalize hR : num B rs = R at *
  generalize hC : (M * (p * q) + 1) * (R ^ (p * q) % (p * q * (p * q))) % (p * q * (p * q)) = C
  have cg : Cg (p * q * (p * q)) ((M * (p * q) + 1) * R ^ (p * q)) C := by
    rw [← hC]
    exact (Cg.mul Cg.rfl Cg.mod.symm).trans Cg.mod.symm
  have hid : Hid (p * q) ((p - 1) * (q - 1)) C M := by
    have h1 := (Hid.mul h0 (Hid.shown (f := (p - 1) * (q - 1)) lmn) (k.hider co)).cg cg
    rwa [Nat.add_zero, Nat.mod_eq_of_lt lmn] at h1
  have cgn : Cg (p * q) C (R ^ (p * q)) := by
    have h1 : Cg (p * q) ((M * (p * q) + 1) * R ^ (p * q)) C := cg.of_dvd (Nat.dvd_mul_right _ _)
    have h2 : Cg (p * q) (M * (p * q) + 1) 1 := by
      rw [Nat.add_comm, Nat.mul_comm M]
      exact Cg.add_mul
    have h3 := Cg.mul h2 (Cg.rfl (n := p * q) (a := R ^ (p * q)))
    rw [Nat.one_mul] at h3
    exact h1.symm.trans h3
  have coC : Nat.Coprime C (p * q) := by
    have h1 : Nat.Coprime (R ^ (p * q)) (p * q) := Nat.Coprime.pow_left _ co
    unfold Nat.Coprime at h1 ⊢
    have h2 : C % (p * q) = R ^ (p * q) % (p * q) := cgn
    rw [Nat.gcd_comm, Nat.gcd_rec, h2, ← Nat.gcd_rec, Nat.gcd_comm]
    exact h1
  have ltC : C < p * q * (p * q) := by rw [← hC]; exact Nat.mod_lt _ hNN
  have CB : C < B ^ 64 := Nat.lt_trans ltC (Nat.lt_of_lt_of_le (key_sq p2 q2) (Nat.pow_le_pow_right (by decide) (by decide)))
  refine ⟨(valid_iff p2 q2 (digs_lt B2 _)).2 ⟨m, rt_digs CB, ?_, ?_, ?_⟩, rm, ?_⟩
  · intro hn
    have : C = 0 := (digs_nil B2).1 hn
    rw [this, Nat.coprime_zero_left] at coC
    have := k.pos
    omega
  · rw [num_digs B2]; exact ltC
  · rw [num_digs B2]; exact coC
  · rw [num_digs B2]; exact hidOf_of k hid

theorem PaillierBack_law (h : AH) {x0 x1 x2 : AV} (z0 : ArgV Pg h T.api_Key x0) (z1 : ArgV Pg h T.api_Nat x1) (z2 : ArgV Pg h T.api_Nat x2) : ∃ h', go (.fn F.law06_PaillierBack [x0, x1, x2]) h = some (.bool true, h') := by
  obtain ⟨a, b, rfl⟩ := key_of_arg z0
  obtain ⟨s, xs, rfl, n⟩ := nat_of_arg z1
  obtain ⟨t, ys, rfl, m⟩ := nat_of_arg z2
  obtain ⟨_, h', e, rfl, _⟩ := law06_PaillierBack_spec n m a b
  refine ⟨h', e.trans ?_⟩
  have : law06_PaillierBack' a b xs ys = true := by
    unfold law06_PaillierBack'
    refine cond_elim (fun _ => rfl) fun _ => ?_
    rw [Bool.not_true, cond_false, cond_true]
    cases hb : badF a b with
    | true =>
      have e : pubF a b = ([], 9) := by unfold pubF; rw [hb]; rfl
      rw [e]
      rfl
    | false =>
      have e : pubF a b = (digs B (a.toNat * b.toNat), 0) := by unfold pubF; rw [hb]; rfl
      rw [e]
      obtain ⟨p, q, rfl, rfl, p1, p2, p3, q1, q2, q3, ne, -, hg⟩ := badF_false hb
      rw [Int.toNat_natCast, Int.toNat_natCast]
      have k := keyOk_of p1 p3 q1 q3 ne hg
      dsimp only
      rw [condF (show (!decide ((0 : Int) = 0)) = false from rfl)]
      by_cases he : (encF (digs B (p * q)) xs ys).2 = 0
      · obtain ⟨v, rm, hd⟩ := back_ok k p2 q2 n.lt m.lt he
        have dec : decF (p : Int) (q : Int) (encF (digs B (p * q)) xs ys).1 = (xs, 0) := by
          unfold decF
          rw [hb, cond_false, Int.toNat_natCast, Int.toNat_natCast, v, Bool.not_true, cond_false, hd, digs_of_rt n.lt rm]
        rw [he, condF (show (!decide ((0 : Int) = 0)) = false from rfl), dec, v]
        simp
      · rw [condT (by rw [decide_eq_false he]; rfl)]
        revert he
        unfold encF
        cases paillier_May' (digs B (p * q)) <;> cases paillier_isPlain' (digs B (p * q)) xs <;> cases paillier_alone' ys (digs B (p * q)) (digs B (p * q)) <;> intro he <;> first | rfl | exact absurd rfl he
  rw [this]
end Go.Ab
