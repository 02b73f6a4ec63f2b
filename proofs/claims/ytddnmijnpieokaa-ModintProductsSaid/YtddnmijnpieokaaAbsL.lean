/- The abstract interpreter against the machine: whole calls. -/
import Derived.Test.YtddnmijnpieokaaAbsDra
set_option linter.unusedVariables false
set_option linter.unusedSimpArgs false
namespace Go.Ab

variable {P : Program} {O : World}

def resGet (tmps : Array Value) : ResultVar → Sem Value
  | .tmp t => pure (tmps.getD t undef)
  | .cell a t => do loadVar t (← asAddr (tmps.getD a undef))

theorem results_eq (fn : Func) (tmps : Array Value) : results fn tmps = (do
    let vs ← fn.results.mapM (resGet tmps)
    pure (if h : vs.size = 1 then vs[0] else .tuple vs)) := rfl

theorem resK_sound {μ : Mu} {fr : Fr} {N : Nat} {tmps : Array Value} {h : AH} {w : World} (S : Sim P O μ h w) (F : FRel μ N fr tmps) : ∀ (rs : List ResultVar) (k : List AV → Option (AV × AH)) (res : AV × AH), resK P fr h rs k = some res →
    ∃ vs us, k vs = some res ∧ (rs.mapM (resGet tmps)).run P w = .ok us w ∧ VRels μ vs us ∧ us.length = rs.length
  | [], k, res, h => ⟨[], [], h, rfl, VRels.nil, rfl⟩
  | .tmp t :: rs, k, res, h => by
    simp only [resK, Option.bind_eq_some_iff] at h
    obtain ⟨v, hv, hk⟩ := h
    obtain ⟨vs, us, h0, h1, h2, h3⟩ := resK_sound S F rs _ _ hk
    obtain ⟨u, hu, hvu⟩ := F.get t v hv
    refine ⟨v :: vs, u :: us, h0, ?_, VRels.cons hvu h2, by simp [h3]⟩
    rw [List.mapM_cons]
    have : tmps.getD t undef = u := by simp [Array.getD_eq_getD_getElem?, hu]
    simp only [Sem.run_bind, resGet, Sem.run_pure, Result.andThen_ok, h1, this]
  | .cell a t :: rs, k, res, h => by
    simp only [resK] at h
    split at h
    · rename_i r hr
      obtain ⟨u, hu, hvu⟩ := F.get a _ hr
      simp only [VRel] at hvu
      obtain ⟨ad, hra, rfl⟩ := hvu
      obtain ⟨v, uv, hk, hv, hl⟩ := loadK_sound S hra h
      obtain ⟨vs, us, h0, h1, h2, h3⟩ := resK_sound S F rs _ _ hk
      refine ⟨v :: vs, uv :: us, h0, ?_, VRels.cons hv h2, by simp [h3]⟩
      rw [List.mapM_cons]
      have : tmps.getD a undef = .pointer (some ad) := by simp [Array.getD_eq_getD_getElem?, hu]
      simp only [Sem.run_bind, resGet, Sem.run_pure, Result.andThen_ok, h1, this, asAddr, hl]
    · cases h

theorem resultsA_sound {μ : Mu} {fn : Func} {fr : Fr} {h : AH} {v : AV} {h' : AH} {N : Nat} {tmps : Array Value} {w : World} (S : Sim P O μ h w) (hr : resultsA P fn fr h = some (v, h')) (F : FRel μ N fr tmps) :
    h' = h ∧ ∃ u, (results fn tmps).run P w = .ok u w ∧ VRel μ v u := by
  rw [results_eq]
  unfold resultsA at hr
  obtain ⟨vs, us, h0, h1, h2, h3⟩ := resK_sound S F _ _ _ hr
  simp only [Array.mapM_eq_mapM_toList, Sem.run_bind, Sem.run_map, h1, Result.andThen_ok, Sem.run_pure]
  split at h0
  · rename_i x
    cases h0
    simp only [VRels] at h2
    obtain ⟨y, ys, rfl, hy, rfl⟩ := h2
    exact ⟨rfl, y, by simp, hy⟩
  · rename_i hno
    cases h0
    refine ⟨rfl, .tuple us.toArray, ?_, by simp only [VRel]; exact ⟨us.toArray, rfl, by simpa using h2⟩⟩
    have hl : us.length ≠ 1 := by
      intro hl
      have h4 := h2.length
      rw [hl] at h4
      match vs, h4 with
      | [x], _ => exact hno x rfl
      | [], h4 => simp at h4
      | _ :: _ :: _, h4 => simp at h4
    rw [dif_neg (by simpa using hl)]

theorem execA_sound {K : Keep} (hm : P.follows .mixedOrders = true) {rec : Rec} (hrec : RecOk P O rec) {f : FuncId} {fn : Func} (hfn : P.funcs[f]? = some fn) {v : AV} {h' : AH} : ∀ (n : Nat) (fresh : Bool) {todo : List Item} {fr : Fr} {h : AH},
    execA P K rec f fn n fresh todo fr h = some (v, h') → ∀ (μ : Mu) (w : World) (b : Frame) (a : Act), b.fn = f → b.kind = .normal → a.defers = [] → Sim P O μ h w → FRel μ fn.ntmps fr a.tmps →
    Fin P b todo a w (Ends (Good P O μ h w v h'))
  | 0, fresh, todo, fr, h, hk => by simp [execA] at hk
  | n + 1, fresh, todo, fr, h, hk => by
    intro μ w b a hb hkind hd S F
    have IH := fun (fresh : Bool) {todo : List Item} {fr : Fr} (hk : execA P K rec f fn n fresh todo fr h = some (v, h')) (F : FRel μ fn.ntmps fr a.tmps) => execA_sound hm hrec hfn n fresh hk μ w b a hb hkind hd S F
    unfold execA at hk
    have ret : ∀ todo, resultsA P fn fr h = some (v, h') → (∀ cs, step P (lone (b.at a todo) cs w) = .next (lone { b.at a todo with mode := .returning } cs w)) → Fin P b todo a w (Ends (Good P O μ h w v h')) := by
      intro todo hr hs
      obtain ⟨rfl, u, h1, h2⟩ := resultsA_sound S hr F
      exact Fin.ret (by rw [hb]; exact hfn) hkind hd h1 ⟨u, rfl, Good.pure S h2⟩ hs
    split at hk
    · exact ret _ hk fun cs => step_end
    · exact ret _ hk fun cs => step_ret
    · exact (IH _ hk F).of_steps fun cs => Steps.one step_skip
    · exact (IH _ hk F).of_steps fun cs => Steps.one step_label
    · exact (IH _ hk F).of_steps fun cs => Steps.one step_inBlock
    · exact (IH _ hk F).of_steps fun cs => Steps.one step_inScope
    · exact (IH _ hk F).of_steps fun cs => Steps.one step_seq
    · rename_i c x y k
      split at hk
      · rename_i t ht
        have hv := evO_sound F ht
        simp only [VRel] at hv
        have Fl : ∀ t', t = t' → FRel μ fn.ntmps (learn c t' fr) a.tmps := by
          intro t' htt
          subst htt
          unfold learn
          split
          · rename_i s
            exact F.learn ht fun _ h => h
          · exact F
        rcases cond_some hk with ⟨rfl, hk2⟩ | ⟨rfl, hk2⟩
        · exact (IH _ hk2 (Fl _ rfl)).of_steps fun cs => Steps.one (step_cond hv)
        · exact (IH _ hk2 (Fl _ rfl)).of_steps fun cs => Steps.one (step_cond hv)
      · cases hk
    · exact (IH _ hk F).of_steps fun cs => Steps.one step_block
    · exact (IH _ hk F).of_steps fun cs => Steps.one step_loop
    · exact (IH _ hk F).of_steps fun cs => Steps.one step_inLoop
    · exact (IH _ hk F).of_steps fun cs => Steps.one step_scope
    · split at hk
      · rename_i k' hk'
        exact (IH _ hk F).of_steps fun cs => Steps.one (step_exit hk')
      · cases hk
    · split at hk
      · rename_i k' hk'
        exact (IH _ hk F).of_steps fun cs => Steps.one (step_goto hk')
      · cases hk
    · rename_i id ops draw k
      have reg : (cond draw (drawK P rec fn.ntmps ops (orderOf K f id ops.size) fr h fun fr' h' => execA P K rec f fn n false k fr' h') (opsK P rec fn.ntmps ops (List.range ops.size) fr h fun fr' h' => execA P K rec f fn n false k fr' h')) = some (v, h') → Fin P b (.code (.region id ops draw) :: k) a w (Ends (Good P O μ h w v h')) := by
        intro hk
        have back : ∀ {e : Exit} {a' : Act} {w' : World}, After P O μ fn.ntmps h w a.defers (fun fr' h' => execA P K rec f fn n false k fr' h') (v, h') e a' w' → e = .normal ∧ Fin P b k a' w' (Ends (Good P O μ h w v h')) := by
          rintro e a' w' ⟨rfl, hdef, fr', h1, ν, g1, g2, g3, g4, g5⟩
          refine ⟨rfl, ?_⟩
          exact (execA_sound hm hrec hfn n false g1 ν w' b a' hb hkind (hdef.trans hd) g2 g3).mono fun e w2 ⟨u, he, g⟩ => ⟨u, he, g.trans g4 g5⟩
        rcases cond_some hk with ⟨rfl, hk2⟩ | ⟨rfl, hk2⟩
        · have hw := drawK_sound hm hrec (id := id) (fun x y h e => execA_same n x y h e) hk2 S F
          refine region_fin fun b' k' cs => ?_
          obtain ⟨e, a', w', hq, harr⟩ := hw b' k' cs
          exact ⟨e, a', w', back hq, harr⟩
        · have hw := opsK_sound hrec _ hk2 S F
          exact region_fin (wp_region (wpOps_mono (fun e a w hq => back hq) _ hw))
      rcases cond_some hk with ⟨rfl, hk2⟩ | ⟨rfl, hk2⟩
      · exact reg hk2
      · split at hk2
        · exact hrec.pt hk2 hfn hb hkind hd S (F.keep _)
        · exact reg hk2
    · cases hk

theorem numbered_get (vs : List AV) : ∀ (i t : Nat) (v : AV), (numbered i vs).get t = some v → i ≤ t ∧ vs[t - i]? = some v := by
  induction vs with
  | nil => intro i t v h; simp [numbered, Fr.get] at h
  | cons x vs ih =>
    intro i t v h
    simp only [numbered] at h
    rw [Fr.get_cons] at h
    split at h
    · rename_i hit
      subst hit
      cases h
      simp
    · obtain ⟨h1, h2⟩ := ih (i + 1) t v h
      refine ⟨by omega, ?_⟩
      rw [show t - i = (t - (i + 1)) + 1 from by omega]
      simpa using h2

theorem stepA_ok {K : Keep} (hm : P.follows .mixedOrders = true) {rec : Rec} (hrec : RecOk P O rec) : RecOk P O (stepA P K rec) := by
  refine ⟨?_, ?_⟩
  · intro f xs h v h' hk μ w us S hx
    simp only [stepA] at hk
    split at hk
    · rename_i fn hfn
      split at hk
      · rename_i c hc
        obtain ⟨hle, hk2⟩ := cond_none hk
        have hle := Nat.le_of_ble_eq_true hle
        have hlen := hx.length
        intro cs
        let b : Frame := { (default : Frame) with fn := f, kind := .normal }
        have henter : Frame.enter P f us.toArray .normal = b.at { tmps := us.toArray ++ Array.replicate (fn.ntmps - us.toArray.size) undef, defers := [] } [.code c] := by
          simp [Frame.enter, Frame.at, hfn, hc, b]
        have F : FRel μ fn.ntmps (numbered 0 xs) (us.toArray ++ Array.replicate (fn.ntmps - us.toArray.size) undef) := by
          refine ⟨by simp; omega, fun t y hy => ?_⟩
          obtain ⟨_, h2⟩ := numbered_get xs 0 t y hy
          obtain ⟨u, hu, hvu⟩ := hx.get _ y h2
          simp only [Nat.sub_zero] at hu
          have hlt : t < us.length := by
            rcases Nat.lt_or_ge t us.length with h' | h'
            · exact h'
            · rw [List.getElem?_eq_none h'] at hu; cases hu
          refine ⟨u, ?_, hvu⟩
          rw [Array.getElem?_append_left (by simpa using hlt)]
          simpa using hu
        have := execA_sound hm hrec hfn 4000 false hk2 μ w b { tmps := us.toArray ++ Array.replicate (fn.ntmps - us.toArray.size) undef, defers := [] } rfl rfl rfl S F cs
        rw [← henter] at this
        exact this
      · cases hk
    · cases hk
  · intro f todo fr h v h' hk fn hfn μ w b a hb hkind hd S F
    simp only [stepA] at hk
    rw [hfn] at hk
    exact execA_sound hm hrec hfn 4000 true hk μ w b a hb hkind hd S F

theorem runF_ok (K : Keep) (hm : P.follows .mixedOrders = true) : ∀ n, RecOk P O (runF P K n)
  | 0 => ⟨fun h => by simp [runF] at h, fun h => by simp [runF] at h⟩
  | n + 1 => stepA_ok hm (runF_ok K hm n)

theorem run_some {K : Keep} {key : Key} {h : AH} {r : AV × AH} (hr : run P K key h = some r) : ∃ n, runF P K n key h = some r := by
  unfold run at hr
  split at hr
  · rename_i hh
    have := Classical.choose_spec (Classical.choose_spec hh)
    cases hr
    exact ⟨_, this⟩
  · cases hr

theorem run_ok (K : Keep) (hm : P.follows .mixedOrders = true) : RecOk P O (run P K) :=
  ⟨fun h => let ⟨n, hn⟩ := run_some h; (runF_ok K hm n).fn hn, fun h => let ⟨n, hn⟩ := run_some h; (runF_ok K hm n).pt hn⟩

end Go.Ab
