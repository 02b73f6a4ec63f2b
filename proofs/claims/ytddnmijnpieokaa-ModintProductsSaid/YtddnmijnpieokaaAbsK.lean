/- The abstract interpreter against the machine: calls, regions, code. -/
import Derived.Test.YtddnmijnpieokaaAbsJ
set_option linter.unusedVariables false
set_option linter.unusedSimpArgs false
namespace Go.Ab

variable {P : Program} {O : World} {R : Type}

def Ends (G : Value → World → Prop) : Ending → World → Prop := fun e w' => ∃ u, e = .returned u ∧ G u w'

theorem Good.trans {μ ν : Mu} {h h1 : AH} {w w1 : World} {v : AV} {h' : AH} {u : Value} {w' : World} (e : Ext μ h w ν h1) (f : Frm μ h w w1) (g : Good P O ν h1 w1 v h' u w') : Good P O μ h w v h' u w' := by
  obtain ⟨ξ, g1, g2, g3, g4⟩ := g
  exact ⟨ξ, g1, g2, e.trans g3 f.1, f.trans e g4⟩

/-- The frame goes on to the end of its call. -/
def Fin (P : Program) (b : Frame) (todo : List Item) (a : Act) (w : World) (R : Ending → World → Prop) : Prop :=
  ∀ cs, ∃ e w' fr, R e w' ∧ Comes P (lone (b.at a todo) cs w) (lone fr cs w') e ∧ fr.fn = b.fn ∧ fr.leaving P w' e

theorem Fin.of_steps {b : Frame} {todo todo' : List Item} {a a' : Act} {w w' : World} {R : Ending → World → Prop} (hs : ∀ cs, Steps P (lone (b.at a todo) cs w) (lone (b.at a' todo') cs w')) (h : Fin P b todo' a' w' R) : Fin P b todo a w R := fun cs => by
  obtain ⟨e, w2, fr, h1, h2, h3, h4⟩ := h cs
  exact ⟨e, w2, fr, h1, Comes.of_steps (hs cs) h2, h3, h4⟩

theorem Fin.mono {b : Frame} {todo : List Item} {a : Act} {w : World} {R R' : Ending → World → Prop} (h : Fin P b todo a w R) (hr : ∀ e w', R e w' → R' e w') : Fin P b todo a w R' := fun cs => by
  obtain ⟨e, w2, fr, h1, h2⟩ := h cs
  exact ⟨e, w2, fr, hr _ _ h1, h2⟩

theorem Fin.ret {b : Frame} {todo : List Item} {a : Act} {w : World} {R : Ending → World → Prop} {fn : Func} {v : Value} (hfn : P.funcs[b.fn]? = some fn) (hk : b.kind = .normal) (hd : a.defers = [])
    (hr : (results fn a.tmps).run P w = .ok v w) (hR : R (.returned v) w) (hs : ∀ cs, step P (lone (b.at a todo) cs w) = .next (lone { b.at a todo with mode := .returning } cs w)) : Fin P b todo a w R := fun cs =>
  ⟨.returned v, w, { b.at a todo with mode := .returning }, hR, Steps.one (hs cs), rfl, rfl, hd, hk, fn, hfn, hr⟩

section steps
variable {b : Frame} {a : Act} {k : List Item} {cs : List Frame} {w : World}
theorem step_scope {body : Code} : step P (lone (b.at a (.code (.scope body) :: k)) cs w) = .next (lone (b.at a (.code body :: .inScope body :: k)) cs w) :=
  step_lone_go (by simp [stepG, stepG.exec, Frame.at])
theorem step_inScope {body : Code} : step P (lone (b.at a (.inScope body :: k)) cs w) = .next (lone (b.at a k) cs w) :=
  step_lone_go (by simp [stepG, stepG.exec, Frame.at])
end steps

/-- The interpreter below is right: at calls and at places. -/
structure RecOk (P : Program) (O : World) (rec : Rec) : Prop where
  fn : ∀ {f : FuncId} {xs : List AV} {h : AH} {v : AV} {h' : AH}, rec (.fn f xs) h = some (v, h') → ∀ {μ : Mu} {w : World} {us : List Value}, Sim P O μ h w → VRels μ xs us →
    Calls P f us.toArray w (Ends (Good P O μ h w v h'))
  pt : ∀ {f : FuncId} {todo : List Item} {fr : Fr} {h : AH} {v : AV} {h' : AH}, rec (.pt f todo fr) h = some (v, h') → ∀ {fn : Func}, P.funcs[f]? = some fn → ∀ {μ : Mu} {w : World} {b : Frame} {a : Act}, b.fn = f → b.kind = .normal → a.defers = [] →
    Sim P O μ h w → FRel μ fn.ntmps fr a.tmps → Fin P b todo a w (Ends (Good P O μ h w v h'))

theorem callF_sound {rec : Rec} (hrec : RecOk P O rec) {f : FuncId} {xs : List AV} {h : AH} {v : AV} {h' : AH} (hc : callF P rec f xs h = some (v, h')) {μ : Mu} {w : World} {us : List Value} (S : Sim P O μ h w) (hx : VRels μ xs us) :
    ((callFunc f us.toArray).run P w = .ok (.enter f us.toArray) w ∧ Calls P f us.toArray w (Ends (Good P O μ h w v h'))) ∨ ∃ u, (callFunc f us.toArray).run P w = .ok (.value u) w ∧ Good P O μ h w v h' u w := by
  unfold callF at hc
  split at hc
  · rename_i fn hf
    obtain ⟨hname, hc1⟩ := cond_none' hc
    have hname' : fn.name ≠ "runtime.NumGoroutine" := by simpa using hname
    split at hc1
    · rename_i c hb
      left
      refine ⟨?_, hrec.fn hc1 S hx⟩
      simp [callFunc, hf, hname', hb]
    · rename_i hb
      obtain ⟨ho, hc2⟩ := cond_none hc1
      simp only [beq_iff_eq] at ho
      simp only [Option.map_eq_some_iff, Prod.mk.injEq] at hc2
      obtain ⟨x, hp, rfl, rfl⟩ := hc2
      obtain ⟨u, hu, hvu⟩ := prim_sound hf hname hb ho hp hx w
      exact .inr ⟨u, hu, Good.pure S hvu⟩
  · cases hc

theorem callK_sound {rec : Rec} (hrec : RecOk P O rec) {μ : Mu} {N : Nat} {fr : Fr} {h : AH} {w : World} {o : Oper} {a : Act} (S : Sim P O μ h w) (F : FRel μ N fr a.tmps) {c : Call} (ho : o.op = .call c)
    {k : AV → AH → Option R} {r : R} (hk : callK P rec c o.type fr h k = some r) : OpOk P O μ h w o a k r := by
  unfold callK at hk
  split at hk
  · cases hk
  · rename_i xs hxs
    have hx := evs_sound F hxs
    have hargs : c.args.map a.eval = (c.args.toList.map a.eval).toArray := by apply Array.ext'; simp
    split at hk
    · rename_i b hb
      obtain ⟨v, h1, hk2, u, w', hr, g⟩ := builtinK_sound S hx hk o.type (c.args.map fun | .const _ => true | _ => false)
      refine ⟨v, h1, hk2, OpGoes.of_value ?_ g⟩
      rw [execOp_call _ _ _ ho]
      simp only [resolve, hb, Sem.run_bind, Sem.run_pure, Result.andThen_ok, invoke, hargs]
      exact hr
    · rename_i f hcal
      split at hk
      · rename_i fv hfv
        simp only [Option.bind_eq_some_iff] at hk
        obtain ⟨q, hq, hk2⟩ := hk
        have hk3 := answerK_some hk2
        obtain ⟨v, h1⟩ := q
        refine ⟨v, h1, hk3, ?_⟩
        have hvf := evO_sound F hfv
        unfold callV at hq
        split at hq
        · rename_i g first captured
          simp only [VRel] at hvf
          obtain ⟨g', x, y, he, hg, hxx, hyy⟩ := hvf
          simp only [FnRel] at hg
          subst hg
          have hall : VRels μ (first ++ xs ++ captured) (x.toList ++ c.args.toList.map a.eval ++ y.toList) := (hxx.append hx).append hyy
          have harr : x ++ c.args.map a.eval ++ y = (x.toList ++ c.args.toList.map a.eval ++ y.toList).toArray := by apply Array.ext'; simp
          have hex : (execOp a.eval o).run P w = (callFunc g (x.toList ++ c.args.toList.map a.eval ++ y.toList).toArray).run P w := by
            rw [execOp_call _ _ _ ho, ← harr]
            simp only [resolve, hcal, he, Deferred.ofValue, Sem.run_bind, Sem.run_pure, Result.andThen_ok, invoke]
          rcases callF_sound hrec hq S hall with ⟨h2, h3⟩ | ⟨u, h2, g2⟩
          · exact OpGoes.of_call (by rw [hex]; exact h2) h3
          · exact OpGoes.of_value (by rw [hex]; exact h2) g2
        · cases hq
      · cases hk
    · cases hk

theorem opAny_sound {rec : Rec} (hrec : RecOk P O rec) {μ : Mu} {N : Nat} {fr : Fr} {h : AH} {w : World} {o : Oper} {a : Act} (S : Sim P O μ h w) (F : FRel μ N fr a.tmps)
    {k : AV → AH → Option R} {r : R} (hk : opK P rec o.op o.type fr h k = some r) : OpOk P O μ h w o a k r := by
  by_cases hc : ∃ c, o.op = .call c
  · obtain ⟨c, hc⟩ := hc
    have : callK P rec c o.type fr h k = some r := by rw [hc] at hk; exact hk
    exact callK_sound hrec S F hc this
  · exact op_sound (rec := rec) S F (fun c e => hc ⟨c, e⟩) hk

/-! ### regions -/
def After (P : Program) (O : World) (μ : Mu) (N : Nat) (h : AH) (w : World) (ds : List Deferred) (k : Fr → AH → Option (AV × AH)) (r : AV × AH) : Exit → Act → World → Prop := fun e a w' =>
  e = .normal ∧ a.defers = ds ∧ ∃ fr' h' ν, k fr' h' = some r ∧ Sim P O ν h' w' ∧ FRel ν N fr' a.tmps ∧ Ext μ h w ν h' ∧ Frm μ h w w'

theorem After.trans {μ ν : Mu} {N : Nat} {h h1 : AH} {w w1 : World} {ds : List Deferred} {k : Fr → AH → Option (AV × AH)} {r : AV × AH} (e : Ext μ h w ν h1) (f : Frm μ h w w1) {x : Exit} {a : Act} {w' : World} (g : After P O ν N h1 w1 ds k r x a w') : After P O μ N h w ds k r x a w' := by
  obtain ⟨g1, g2, fr', h', ξ, g3, g4, g5, g6, g7⟩ := g
  exact ⟨g1, g2, fr', h', ξ, g3, g4, g5, e.trans g6 f.1, f.trans e g7⟩

theorem LetsOut.mono {Q Q' : Exit → Act → World → Prop} (hq : ∀ e a w, Q e a w → Q' e a w) : LetsOut Q → LetsOut Q' := fun ⟨a, w, h⟩ => ⟨a, w, hq _ _ _ h⟩

theorem wp_mono2 {o : Oper} {a : Act} {w : World} {K K' : Act → World → Prop} {Q Q' : Exit → Act → World → Prop} (hk : ∀ a w, K a w → K' a w) (hq : ∀ e a w, Q e a w → Q' e a w)
    (hh : o.wp P a w K Q) : o.wp P a w K' Q' := by
  unfold Oper.wp at *
  generalize (execOp a.eval o).run P w = r at *
  cases r with
  | ok n w' =>
    cases n <;> simp only [Oper.upon] at hh ⊢ <;>
      first
        | exact hk _ _ hh
        | exact Calls.mono hh (fun e w'' he => by cases e <;> first | exact hk _ _ he | exact hq _ _ _ he | exact LetsOut.mono hq he)
        | exact Rows.mono hh (fun _ _ he => hk _ _ he)
  | halt x w' => cases x <;> simp only [Oper.upon] at hh ⊢ <;> exact hq _ _ _ hh

theorem wpOps_mono {ops : Array Oper} {Q Q' : Exit → Act → World → Prop} (hq : ∀ e a w, Q e a w → Q' e a w) : ∀ (l : List Nat) {a : Act} {w : World}, wpOps P ops Q l a w → wpOps P ops Q' l a w
  | [], a, w, h => hq _ _ _ h
  | i :: l, a, w, h => by
    simp only [wpOps] at h ⊢
    cases ho : ops[i]? with
    | none => simp only [ho] at h ⊢; exact wpOps_mono hq l h
    | some o =>
      simp only [ho] at h ⊢
      split
      · rename_i hw
        rw [if_pos hw] at h
        rcases h with h | ⟨h1, h2⟩
        · exact .inl (wp_mono2 (fun a w => wpOps_mono hq l) hq h)
        · exact .inr ⟨h1, LetsOut.mono hq h2⟩
      · rename_i hw
        rw [if_neg hw] at h
        exact wpOps_mono hq l h

theorem putT_some {N : Nat} {d : Option Tmp} {v : AV} {fr : Fr} {k : Fr → Option (AV × AH)} {r : AV × AH} (h : putT N d v fr k = some r) {μ : Mu} {a : Act} (F : FRel μ N fr a.tmps) {u : Value} (hv : VRel μ v u) :
    ∃ fr', k fr' = some r ∧ FRel μ N fr' (a.put d u).tmps := by
  unfold putT at h
  cases d with
  | none => exact ⟨fr, h, F⟩
  | some t =>
    obtain ⟨hlt, h⟩ := cond_none h
    exact ⟨_, h, F.put (by simpa [Nat.blt_eq] using hlt) hv⟩

theorem put_defers (a : Act) (d : Option Tmp) (u : Value) : (a.put d u).defers = a.defers := by cases d <;> rfl

theorem opsK_sound {rec : Rec} (hrec : RecOk P O rec) {N : Nat} {ops : Array Oper} {k : Fr → AH → Option (AV × AH)} {r : AV × AH} : ∀ (is : List Nat) {fr : Fr} {h : AH} {μ : Mu} {w : World} {a : Act},
    opsK P rec N ops is fr h k = some r → Sim P O μ h w → FRel μ N fr a.tmps → wpOps P ops (After P O μ N h w a.defers k r) is a w
  | [], fr, h, μ, w, a, hk, S, F => by
    simp only [opsK] at hk
    exact ⟨rfl, rfl, fr, h, μ, hk, S, F, Ext.refl _ _ _, Frm.refl _ _ _⟩
  | i :: is, fr, h, μ, w, a, hk, S, F => by
    simp only [opsK] at hk
    split at hk
    · cases hk
    · rename_i o ho
      simp only [wpOps, ho]
      -- an operation that is wanted
      have go : ∀ {fr : Fr}, FRel μ N fr a.tmps → (opK P rec o.op o.type fr h fun v h' => putT N o.dst v fr fun fr' => opsK P rec N ops is fr' h' k) = some r → Region.wanted o (yielded ops a.tmps) = true →
          (if Region.wanted o (yielded ops a.tmps) = true then o.wp P a w (wpOps P ops (After P O μ N h w a.defers k r) is) (After P O μ N h w a.defers k r) ∨ (o.asks P a w ∧ LetsOut (After P O μ N h w a.defers k r)) else wpOps P ops (After P O μ N h w a.defers k r) is (a.put o.dst undef) w) := by
        intro fr F hk hw
        rw [if_pos hw]
        left
        obtain ⟨v, h1, hk1, hgo⟩ := opAny_sound hrec S F hk
        refine hgo _ _ fun u w' ⟨ν, g1, g2, g3, g4⟩ => ?_
        obtain ⟨fr', hk2, F'⟩ := putT_some hk1 (F.mono g3.2.1) g1
        have := opsK_sound hrec is hk2 g2 F'
        rw [put_defers] at this
        exact wpOps_mono (fun e a w h => h.trans g3 g4) is this
      have skip : ∀ {fr : Fr}, FRel μ N fr a.tmps → (putT N o.dst (.tup []) fr fun fr' => opsK P rec N ops is fr' h k) = some r → Region.wanted o (yielded ops a.tmps) = false →
          (if Region.wanted o (yielded ops a.tmps) = true then o.wp P a w (wpOps P ops (After P O μ N h w a.defers k r) is) (After P O μ N h w a.defers k r) ∨ (o.asks P a w ∧ LetsOut (After P O μ N h w a.defers k r)) else wpOps P ops (After P O μ N h w a.defers k r) is (a.put o.dst undef) w) := by
        intro fr F hk hw
        rw [if_neg (by rw [hw]; simp)]
        obtain ⟨fr', hk2, F'⟩ := putT_some (u := undef) hk F (by simp [VRel, undef, VRels])
        have := opsK_sound hrec is hk2 S F'
        rw [put_defers] at this
        exact this
      split at hk
      · rename_i hg
        exact go F hk (by simp [Region.wanted, hg])
      · rename_i j b hg
        split at hk
        · cases hk
        · rename_i t ht
          split at hk
          · rename_i c hget
            obtain ⟨u, hu, hvu⟩ := F.get t _ hget
            simp only [VRel] at hvu
            subst hvu
            have hy : yielded ops a.tmps j = some c := by simp [yielded, ht, hu]
            have hwant : Region.wanted o (yielded ops a.tmps) = (c == b) := by simp [Region.wanted, hg, hy]
            have Fl : FRel μ N ((t, .bool c) :: fr) a.tmps := F.learn hget fun _ h => h
            rcases cond_some hk with ⟨rfl, hk2⟩ | ⟨rfl, hk2⟩
            · rcases cond_some hk2 with ⟨rfl, hk3⟩ | ⟨rfl, hk3⟩
              · exact go Fl hk3 (by rw [hwant]; rfl)
              · exact skip Fl hk3 (by rw [hwant]; rfl)
            · rcases cond_some hk2 with ⟨rfl, hk3⟩ | ⟨rfl, hk3⟩
              · exact skip Fl hk3 (by rw [hwant]; rfl)
              · exact go Fl hk3 (by rw [hwant]; rfl)
          · rename_i hget
            obtain ⟨u, hu, hvu⟩ := F.get t _ hget
            simp only [VRel] at hvu
            obtain ⟨us, rfl, _⟩ := hvu
            have hy : yielded ops a.tmps j = none := by simp [yielded, ht, hu]
            exact skip F hk (by simp [Region.wanted, hg, hy])
          · cases hk

theorem region_fin {b : Frame} {id : Nat} {ops : Array Oper} {draw : Bool} {k : List Item} {a : Act} {w : World} {R : Ending → World → Prop}
    (h : (Code.region id ops draw).wp P (fun e a' w' => e = .normal ∧ Fin P b k a' w' R) a w) : Fin P b (.code (.region id ops draw) :: k) a w R := fun cs => by
  obtain ⟨e, a', w', ⟨rfl, hf⟩, harr⟩ := h b k cs
  obtain ⟨e2, w2, fr, h1, h2, h3, h4⟩ := hf cs
  exact ⟨e2, w2, fr, h1, Comes.of_steps harr h2, h3, h4⟩

end Go.Ab
