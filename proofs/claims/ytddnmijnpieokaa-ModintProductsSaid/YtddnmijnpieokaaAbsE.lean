/- The abstract operations against the machine's: small steps. -/
import Derived.Test.YtddnmijnpieokaaAbsD
set_option linter.unusedVariables false
set_option linter.unusedSimpArgs false
namespace Go.Ab

variable {P : Program} {O : World} {R : Type}

theorem cond_some {c : Bool} {x y : Option R} {r : R} (h : cond c x y = some r) : (c = true ∧ x = some r) ∨ (c = false ∧ y = some r) := by
  cases c
  · exact .inr ⟨rfl, h⟩
  · exact .inl ⟨rfl, h⟩
theorem cond_none {c : Bool} {x : Option R} {r : R} (h : cond c x none = some r) : c = true ∧ x = some r := by
  cases c
  · cases h
  · exact ⟨rfl, h⟩
theorem cond_none' {c : Bool} {x : Option R} {r : R} (h : cond c none x = some r) : c = false ∧ x = some r := by
  cases c
  · exact ⟨rfl, h⟩
  · cases h

theorem asInt_some {k : IntKind} {v : AV} {n : Int} (h : v.asInt k = some n) : v = .int k n := by
  cases v <;> simp [AV.asInt] at h
  obtain ⟨h1, h2⟩ := cond_none h
  simp at h1 h2
  rw [h1, h2]
theorem asBool_some {v : AV} {b : Bool} (h : v.asBool = some b) : v = .bool b := by cases v <;> simp [AV.asBool] at h; rw [h]
theorem asStr_some {v : AV} {b : ByteArray} (h : v.asStr = some b) : v = .str b := by cases v <;> simp [AV.asStr] at h; rw [h]
theorem asPtr_some {v : AV} {b : Option Ref} (h : v.asPtr = some b) : v = .ptr b := by cases v <;> simp [AV.asPtr] at h; rw [h]
theorem asMap_some {v : AV} {b : Option Nat} (h : v.asMap = some b) : v = .map b := by cases v <;> simp [AV.asMap] at h; rw [h]
theorem asSl_some {v : AV} {s : Sl} (h : v.asSl = some s) : v = .slice s.ref s.len s.cap := by cases v <;> simp [AV.asSl] at h; rw [← h]
theorem asAgg_some {v : AV} {s : List AV} (h : v.asAgg = some s) : v = .agg s := by cases v <;> simp [AV.asAgg] at h; rw [h]

theorem leafK_some {l : Leaf} {x : Option AV} {k : AV → Option R} {r : R} (h : leafK l x k = some r) : ∃ v, x = some v ∧ k v = some r := by
  cases l <;> simp only [leafK, Option.bind_eq_some_iff] at h
  case any => exact h
  all_goals
    obtain ⟨y, ⟨v, hx, hv⟩, hk⟩ := h
    refine ⟨v, hx, ?_⟩
  · rw [asInt_some hv]; exact hk
  · rw [asBool_some hv]; exact hk
  · rw [asStr_some hv]; exact hk
  · rw [asSl_some hv]; exact hk
  · rw [asPtr_some hv]; exact hk
  · rw [asMap_some hv]; exact hk

theorem leavesK_some {get : Nat → Option AV} : ∀ {ls : List Leaf} {i : Nat} {k : List AV → Option R} {r : R}, leavesK get ls i k = some r →
    ∃ vs, vs.length = ls.length ∧ (∀ j v, vs[j]? = some v → get (i + j) = some v) ∧ k vs = some r
  | [], i, k, r, h => ⟨[], rfl, by simp, h⟩
  | l :: ls, i, k, r, h => by
    simp only [leavesK] at h
    obtain ⟨v, hv, hk⟩ := leafK_some h
    obtain ⟨vs, h1, h2, h3⟩ := leavesK_some hk
    refine ⟨v :: vs, by simp [h1], fun j x hx => ?_, h3⟩
    cases j with
    | zero => simp at hx; subst hx; simpa using hv
    | succ j =>
      have := h2 j x (by simpa using hx)
      rw [show i + (j + 1) = i + 1 + j from by omega]
      exact this

theorem info_of_underlying {t : TypeId} {d : TypeDesc} (h : P.underlying t = some d) : ∃ i, P.info? t = some i := by
  unfold Program.underlying at h
  split at h
  · rename_i u _ _ _ _ _ _ _ _ _ hi; exact ⟨_, hi⟩
  · rename_i i _ hi; exact ⟨_, hi⟩
  · cases h

theorem run_sizeOf' {t : TypeId} {d : TypeDesc} (h : P.underlying t = some d) (w : World) : (sizeOf t).run P w = .ok (P.cellsOf t) w := by
  obtain ⟨i, hi⟩ := info_of_underlying h
  simp [sizeOf, typeInfo, hi, Program.cellsOf]

theorem run_bytes {t : TypeId} {d : TypeDesc} (h : P.underlying t = some d) (w : World) : ∃ i, (typeInfo t).run P w = .ok i w ∧ i.bytes = P.bytesOf t ∧ i.size = P.cellsOf t ∧ P.info? t = some i := by
  obtain ⟨i, hi⟩ := info_of_underlying h
  exact ⟨i, by simp [typeInfo, hi], by simp [Program.bytesOf, hi], by simp [Program.cellsOf, hi], hi⟩

theorem run_isAgg {t : TypeId} {d : TypeDesc} (h : P.underlying t = some d) (w : World) : (isAgg t).run P w = .ok (isAggD d) w := by
  unfold isAgg
  simp only [Sem.run_bind, run_underlying h, Result.andThen_ok]
  cases d <;> rfl

theorem loadK_sound {μ : Mu} {h : AH} {w : World} (S : Sim P O μ h w) {r : Ref} {a : Addr} (hr : RRel μ r a) {t : TypeId} {k : AV → Option R} {res : R}
    (hk : loadK P t r h k = some res) : ∃ v u, k v = some res ∧ VRel μ v u ∧ (loadVar t a).run P w = .ok u w := by
  unfold loadK at hk
  split at hk
  · rename_i d hd
    rcases cond_some hk with ⟨hc, hk⟩ | ⟨hc, hk⟩
    · split at hk
      · rename_i ls hls
        obtain ⟨hn, hk⟩ := cond_none hk
        obtain ⟨vs, h1, h2, h3⟩ := leavesK_some hk
        have hlen : vs.length = P.cellsOf t := by rw [h1]; exact Nat.eq_of_beq_eq_true hn
        have hg : ∀ (vs : List AV) (r : Ref), (∀ (j : Nat) (v : AV), vs[j]? = some v → h.cell (r.add j) = some v) → h.gets r vs.length = some vs := by
          intro vs
          induction vs with
          | nil => intro r _; rfl
          | cons v vs ih =>
            intro r hall
            have h0 := hall 0 v (by simp)
            rw [Ref.add_zero] at h0
            have hih := ih (r.add 1) (fun j x hx => by rw [Ref.add_add, Nat.add_comm]; exact hall (j + 1) x (by simpa using hx))
            simp [AH.gets, h0, hih]
        obtain ⟨us, k1, k2, k3, k4⟩ := gets_sound S vs.length hr (hg vs r (fun j v hj => by have := h2 j v hj; simpa using this))
        refine ⟨.agg vs, .agg us.toArray, h3, ?_, ?_⟩
        · simp only [VRel]
          exact ⟨us.toArray, rfl, by simpa using k3, k4⟩
        · have hl := run_loadCells_list (P := P) w a us (fun j v hj => k2 j v hj)
          rw [k1, hlen] at hl
          simp [loadVar, run_isAgg hd, hc, run_sizeOf' hd, hl]
      · cases hk
    · split at hk
      · rename_i l hl
        obtain ⟨v, hv, hk⟩ := leafK_some hk
        obtain ⟨u, hu, hvu, _⟩ := cell_sound S hr hv
        refine ⟨v, u, hk, hvu, ?_⟩
        simp [loadVar, run_isAgg hd, hc, hu]
      · cases hk
  · cases hk

theorem seeK_some {t : TypeId} {v : AV} {k : AV → Option R} {r : R} (h : seeK P t v k = some r) : k v = some r := by
  unfold seeK at h
  split at h
  · rcases cond_some h with ⟨_, h⟩ | ⟨_, h⟩
    · split at h
      · rename_i ls _
        rw [Option.bind_eq_some_iff] at h
        obtain ⟨cs, hcs, h⟩ := h
        obtain ⟨hn, h⟩ := cond_none h
        obtain ⟨vs, h1, h2, h3⟩ := leavesK_some h
        rw [asAgg_some hcs]
        have : vs = cs := by
          have hn := Nat.eq_of_beq_eq_true hn
          apply List.ext_getElem?
          intro j
          rcases Nat.lt_or_ge j vs.length with hj | hj
          · have := h2 j vs[j] (by simp [hj])
            simp [List.getElem?_eq_getElem hj]
            simpa using this.symm
          · rw [List.getElem?_eq_none hj, List.getElem?_eq_none (by omega)]
        rw [← this]
        exact h3
      · cases h
    · split at h
      · obtain ⟨x, hx, h⟩ := leafK_some h
        cases hx
        exact h
      · cases h
  · cases h

theorem asTup0_some {v : AV} {x : Unit} (h : v.asTup0 = some x) : v = .tup [] := by
  unfold AV.asTup0 at h
  split at h
  · rfl
  · cases h
theorem asTup2_some {v : AV} {p : AV × AV} (h : v.asTup2 = some p) : v = .tup [p.1, p.2] := by
  unfold AV.asTup2 at h
  split at h
  · cases h; rfl
  · cases h
theorem asTup3_some {v : AV} {p : AV × AV × AV} (h : v.asTup3 = some p) : v = .tup [p.1, p.2.1, p.2.2] := by
  unfold AV.asTup3 at h
  split at h
  · cases h; rfl
  · cases h
theorem asTup4_some {v : AV} {p : AV × AV × AV × AV} (h : v.asTup4 = some p) : v = .tup [p.1, p.2.1, p.2.2.1, p.2.2.2] := by
  unfold AV.asTup4 at h
  split at h
  · cases h; rfl
  · cases h

theorem answerK_some {t : TypeId} {v : AV} {k : AV → Option R} {r : R} (h : answerK P t v k = some r) : k v = some r := by
  unfold answerK at h
  split at h
  · split at h
    case h_5 => cases h
    all_goals
      simp only [Option.bind_eq_some_iff] at h
      obtain ⟨p, h1, h2⟩ := h
    · rw [asTup0_some h1]; exact h2
    · rw [asTup2_some h1]
      have h3 := seeK_some h2
      have h4 := seeK_some h3
      exact h4
    · rw [asTup3_some h1]
      have h3 := seeK_some h2
      have h4 := seeK_some h3
      have h5 := seeK_some h4
      exact h5
    · rw [asTup4_some h1]
      have h3 := seeK_some h2
      have h4 := seeK_some h3
      have h5 := seeK_some h4
      have h6 := seeK_some h5
      exact h6
  · exact seeK_some h

theorem cellsK_some {μ : Mu} {t : TypeId} {v : AV} {k : List AV → Option R} {r : R} (h : cellsK P t v k = some r) {u : Value} (hv : VRel μ v u) :
    ∃ cs, k cs = some r ∧ VRels μ cs u.cells.toList ∧ cs.all AV.one = true ∧ u.cells.size = P.cellsOf t ∧ cs.length = P.cellsOf t ∧ ∃ d, P.underlying t = some d := by
  unfold cellsK at h
  split at h
  · rename_i d hd
    rcases cond_some h with ⟨_, h⟩ | ⟨_, h⟩
    · rw [Option.bind_eq_some_iff] at h
      obtain ⟨cs, hcs, h⟩ := h
      obtain ⟨hn, h⟩ := cond_none h
      have hn := Nat.eq_of_beq_eq_true hn
      rw [asAgg_some hcs] at hv
      simp only [VRel] at hv
      obtain ⟨us, rfl, h2, h3⟩ := hv
      refine ⟨cs, h, h2, h3, ?_, hn, d, hd⟩
      have := h2.length
      simp [Value.cells] at *
      omega
    · obtain ⟨hn, h⟩ := cond_none h
      obtain ⟨h1, h⟩ := cond_none h
      have hn := Nat.eq_of_beq_eq_true hn
      have := hv.cells_one h1
      refine ⟨[v], h, ?_, by simp [h1], by rw [this]; simp [hn], by simp [hn], d, hd⟩
      rw [this]
      exact VRels.cons hv VRels.nil
  · cases h

theorem zeroCells_sound {μ : Mu} {t : TypeId} {zs : List AV} (h : zeroCells? P t = some zs) (w : World) :
    ∃ z, (zeroValue t).run P w = .ok z w ∧ VRels μ zs z.cells.toList ∧ zs.all AV.one = true := by
  unfold zeroCells? at h
  split at h
  · rename_i i hi
    split at h
    · rename_i z hz
      obtain ⟨h1, h2⟩ := VRels.ofCells (μ := μ) h
      exact ⟨z, by simp [zeroValue, typeInfo, hi, hz], h1, h2⟩
    · cases h
  · cases h

/-! ### Frames -/
structure FRel (μ : Mu) (N : Nat) (fr : Fr) (tmps : Array Value) : Prop where
  size : tmps.size = N
  get : ∀ t v, fr.get t = some v → ∃ u, tmps[t]? = some u ∧ VRel μ v u

theorem FRel.mono {μ ν : Mu} {N : Nat} {fr : Fr} {tmps : Array Value} (h : FRel μ N fr tmps) (hle : Mu.le μ ν) : FRel ν N fr tmps :=
  ⟨h.size, fun t v e => let ⟨u, a, b⟩ := h.get t v e; ⟨u, a, b.mono hle⟩⟩

theorem Fr.get_cons (s : Nat) (v : AV) (fr : Fr) (t : Nat) : Fr.get ((s, v) :: fr) t = if s = t then some v else Fr.get fr t := by
  simp only [Fr.get]
  by_cases h : s = t
  · subst h; simp
  · have : Nat.beq s t = false := by
      cases hb : Nat.beq s t with
      | false => rfl
      | true => exact absurd (Nat.eq_of_beq_eq_true hb) h
    simp [this, h]

theorem FRel.put {μ : Mu} {N : Nat} {fr : Fr} {a : Act} (h : FRel μ N fr a.tmps) {t : Nat} (ht : t < N) {v : AV} {u : Value} (hv : VRel μ v u) : FRel μ N ((t, v) :: fr) (a.put (some t) u).tmps := by
  refine ⟨by simp [Act.put, h.size], fun s x hx => ?_⟩
  rw [Fr.get_cons] at hx
  split at hx
  · rename_i hs
    subst hs
    cases hx
    exact ⟨u, by simp [Act.put, h.size, ht], hv⟩
  · rename_i hs
    obtain ⟨y, hy, hxy⟩ := h.get s x hx
    exact ⟨y, by simp only [Act.put]; rw [Array.getElem?_setIfInBounds_ne hs]; exact hy, hxy⟩

theorem FRel.learn {μ : Mu} {N : Nat} {fr : Fr} {tmps : Array Value} (h : FRel μ N fr tmps) {t : Nat} {v x : AV} (hx : fr.get t = some x) (hv : ∀ u, VRel μ x u → VRel μ v u) : FRel μ N ((t, v) :: fr) tmps := by
  refine ⟨h.size, fun s y hy => ?_⟩
  rw [Fr.get_cons] at hy
  split at hy
  · rename_i hs
    subst hs
    cases hy
    obtain ⟨u, h1, h2⟩ := h.get t x hx
    exact ⟨u, h1, hv u h2⟩
  · exact h.get s y hy

theorem FRel.keep {μ : Mu} {N : Nat} {fr : Fr} {tmps : Array Value} (h : FRel μ N fr tmps) (L : List Nat) : FRel μ N (fr.keep L) tmps := by
  refine ⟨h.size, fun t v hv => h.get t v ?_⟩
  induction L with
  | nil => simp [Fr.keep, Fr.get] at hv
  | cons s L ih =>
    simp only [Fr.keep] at hv
    split at hv
    · rename_i x hx
      rw [Fr.get_cons] at hv
      split at hv
      · rename_i hs
        subst hs
        cases hv
        exact hx
      · exact ih hv
    · exact ih hv

theorem evO_sound {μ : Mu} {N : Nat} {fr : Fr} {a : Act} (h : FRel μ N fr a.tmps) {x : Operand} {v : AV} (hv : evO fr x = some v) : VRel μ v (a.eval x) := by
  cases x with
  | tmp t =>
    simp only [evO] at hv
    obtain ⟨u, hu, hvu⟩ := h.get t v hv
    simp only [Act.eval, Array.getD_eq_getD_getElem?, hu, Option.getD_some]
    exact hvu
  | const c => exact VRel.ofValue hv
  | global g =>
    simp only [evO, Option.some.injEq] at hv
    subst hv
    simp [VRel, RRel, Act.eval]
  | func f =>
    simp only [evO, Option.some.injEq] at hv
    subst hv
    simp only [VRel, Act.eval]
    exact ⟨.func f, #[], #[], rfl, rfl, VRels.nil, VRels.nil⟩

theorem evs_sound {μ : Mu} {N : Nat} {fr : Fr} {a : Act} (h : FRel μ N fr a.tmps) : ∀ {xs : List Operand} {vs : List AV}, evs fr xs = some vs → VRels μ vs (xs.map a.eval)
  | [], vs, hv => by simp only [evs, Option.some.injEq] at hv; subst hv; exact VRels.nil
  | x :: xs, vs, hv => by
    simp only [evs] at hv
    split at hv
    · rename_i v ws h1 h2
      simp only [Option.some.injEq] at hv
      subst hv
      exact VRels.cons (evO_sound h h1) (evs_sound h h2)
    · cases hv

end Go.Ab
