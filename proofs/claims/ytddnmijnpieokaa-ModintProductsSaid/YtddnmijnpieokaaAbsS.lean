/- The abstract heap: append, make, copy. -/
import Derived.Test.YtddnmijnpieokaaAbsR
set_option linter.unusedVariables false
set_option linter.unusedSimpArgs false
namespace Go.Ab

variable {P : Program}

theorem appendArgs_of {h : AH} {s : Sl} {elem : TypeId} {flat : List AV} (c : Cells h s (P.cellsOf elem) flat) : appendArgs P elem s.v h = some (flat, s.len) := by
  show (h.getsO s.ref (s.len * P.cellsOf elem)).map (fun cs => (cs, s.len)) = _
  rw [c.gets]
  rfl

theorem append_new {h : AH} {s : Sl} {c n m : Nat} {elem : TypeId} {cs old : List AV} (hs : s.cap = .is c) (hc : c < s.len + n) (hg : growOk P (s.len + n) elem m = true) (ho : Cells h s m old) :
    appendH P s cs n elem m h = some (Sl.v ⟨some (.new h.blks.size 0), s.len + n, .opn m⟩, h.push (.cells (old ++ cs) elem)) := by
  unfold appendH
  simp only [hs]
  rw [show Nat.ble (s.len + n) c = false from by
    cases hb : Nat.ble (s.len + n) c with
    | false => rfl
    | true => have := Nat.le_of_ble_eq_true hb; omega]
  simp only [cond_false, hg, cond_true, ho.gets, Option.bind_some]
  rfl

theorem append_none {h : AH} {s : Sl} {m : Nat} {elem : TypeId} {old : List AV} (hm : 0 < m) (ho : Cells h s m old) : ∃ s', appendH P s [] 0 elem m h = some (s'.v, h) ∧ Cells h s' m old ∧ ∀ h0, Own h0 s → Own h0 s' := by
  have hf := ho.fit
  unfold Sl.fit at hf
  unfold appendH
  split at hf
  · rename_i c hc
    simp only [hc]
    rw [show Nat.ble (s.len + 0) c = true from Nat.ble_eq_true_of_le (by omega)]
    cases hr : s.ref with
    | none =>
      refine ⟨⟨none, 0, .is 0⟩, rfl, ?_, fun h0 _ => Own.nil h0⟩
      have hl : old = [] := by
        cases old with
        | nil => rfl
        | cons v vs =>
          obtain ⟨r, e1, _⟩ := ho.get 0 v rfl
          rw [hr] at e1
          cases e1
      rw [hl]
      exact Cells.nil h m
    | some r =>
      refine ⟨⟨some r, s.len, .is c⟩, rfl, ⟨hf, ho.len, fun i v hv => ?_⟩, fun h0 hh r' hr' => hh r' (by rw [hr]; exact hr')⟩
      obtain ⟨r', e1, e2⟩ := ho.get i v hv
      rw [hr] at e1
      exact ⟨r', e1, e2⟩
  · rename_i z hz
    simp only [hz]
    refine ⟨s, by simp [Sl.v, hz], ho, fun h0 hh => hh⟩

/-- A slice that grows in one's own hands. -/
structure Mine (h0 h : AH) (s : Sl) (elem : TypeId) (m : Nat) (flat : List AV) : Prop where
  grow : Grow h0 h
  cells : Cells h s m flat
  own : s = ⟨none, 0, .is 0⟩ ∨ ∃ i bs, s.ref = some (.new i 0) ∧ s.cap = .opn m ∧ h0.blks.size ≤ i ∧ h.has i bs elem

theorem Mine.nil (h : AH) (elem : TypeId) (m : Nat) : Mine h h ⟨none, 0, .is 0⟩ elem m [] := ⟨Grow.refl h, Cells.nil h m, .inl rfl⟩

theorem Mine.grow' {h0 h h' : AH} {s : Sl} {elem : TypeId} {m : Nat} {flat : List AV} (M : Mine h0 h s elem m flat) (g : Grow h h') : Mine h0 h' s elem m flat :=
  ⟨M.grow.trans g, M.cells.grow g, M.own.imp id fun ⟨i, bs, e1, e2, e3, e4⟩ => ⟨i, bs, e1, e2, e3, g.has e4⟩⟩

theorem Grow.kill {h h' : AH} (g : Grow h h') {i : Nat} (hi : h.blks.size ≤ i) : Grow h (h'.kill (some (.new i 0))) :=
  ⟨g.old, by simpa [AH.kill] using g.size, fun j hj => by
    show (h'.blks.setIfInBounds i .dead)[j]? = _
    rw [Array.getElem?_setIfInBounds_ne (by omega)]
    exact g.blk j hj⟩

theorem Mine.append {h0 h : AH} {s : Sl} {elem : TypeId} {m n : Nat} {flat cs : List AV} (M : Mine h0 h s elem m flat) (hn : 0 < n) (hl : cs.length = n * m) (hg : growOk P (s.len + n) elem m = true) :
    ∃ s' h', appendH P s cs n elem m h = some (s'.v, h') ∧ s'.len = s.len + n ∧ Mine h0 h' s' elem m (flat ++ cs) ∧ ∀ (j : Nat) (bs : List AV) (e : TypeId), h.has j bs e → s.ref ≠ some (.new j 0) → h'.has j bs e := by
  have fl : (s.len + n) * m = (flat ++ cs).length := by rw [Nat.add_mul, M.cells.len, List.length_append, hl]
  rcases M.own with rfl | ⟨i, bs, e1, e2, e3, e4⟩
  · rw [append_new (c := 0) rfl (by simpa using hn) hg M.cells]
    refine ⟨_, _, rfl, rfl, ⟨M.grow.trans (Grow.push _ _), ⟨rfl, fl, fun j v hv => ⟨_, rfl, by simpa using hv⟩⟩, .inr ⟨_, _, rfl, rfl, M.grow.size, AH.has_push _ _ _⟩⟩, fun j bs e hb _ => (Grow.push _ _).has hb⟩
  · have : appendH P s cs n elem m h = some (Sl.v ⟨some (.new h.blks.size 0), s.len + n, .opn m⟩, (h.kill s.ref).push (.cells (flat ++ cs) elem)) := by
      unfold appendH
      simp only [e2]
      rw [show Nat.beq n 0 = false from by
        cases hb : Nat.beq n 0 with
        | false => rfl
        | true => have := Nat.eq_of_beq_eq_true hb; omega, show Nat.beq m m = true from Nat.beq_refl m]
      simp only [cond_false, hg, Bool.and_true, cond_true, e1, show h.blks[i]? = _ from e4]
      have hgets := M.cells.gets
      rw [e1] at hgets
      simp only [cond_true, hgets, Option.bind_some]
      have : (AH.kill h (some (Ref.new i 0))).blks.size = h.blks.size := by simp [AH.kill]
      simp [AH.next, this, Sl.v]
      rfl
    rw [this, e1]
    have sz : (h.kill (some (.new i 0))).blks.size = h.blks.size := by simp [AH.kill]
    refine ⟨_, _, rfl, rfl, ⟨(M.grow.kill e3).trans (Grow.push _ _), ⟨rfl, fl, fun j v hv => ⟨_, rfl, ?_⟩⟩, .inr ⟨h.blks.size, flat ++ cs, rfl, rfl, M.grow.size, ?_⟩⟩, fun j bs' e hb hne => ?_⟩
    · rw [← sz]
      simpa using hv
    · have := AH.has_push (h.kill (some (.new i 0))) (flat ++ cs) elem
      rw [sz] at this
      exact this
    · refine (Grow.push _ _).has ?_
      have hij : i ≠ j := by
        rintro rfl
        exact hne rfl
      show (h.blks.setIfInBounds i .dead)[j]? = _
      rw [Array.getElem?_setIfInBounds_ne hij]
      exact hb

theorem Mine.own_of {h0 h : AH} {s : Sl} {elem : TypeId} {m : Nat} {flat : List AV} (M : Mine h0 h s elem m flat) : Own h0 s := by
  rcases M.own with rfl | ⟨i, bs, e1, e2, e3, e4⟩
  · exact Own.nil h0
  · intro r hr
    rw [e1] at hr
    cases hr
    exact ⟨i, 0, rfl, e3⟩

theorem makeSliceH_of {l c : Int} {elem : TypeId} {bytes n : Nat} {zs : List AV} {h : AH} (h1 : l = (n : Int)) (h2 : c = (n : Int)) (h3 : n * bytes ≤ 70368744177664) (h4 : n ≤ 70368744177664) :
    makeSliceH l c elem bytes zs h = some (⟨some (.new h.blks.size 0), n, .is n⟩, h.push (.cells (repC zs n) elem)) := by
  subst h1 h2
  unfold makeSliceH
  have h3' : ((n * bytes : Nat) : Int) ≤ 70368744177664 := by omega
  rw [show (decide (0 ≤ (n : Int) ∧ (n : Int) ≤ (n : Int) ∧ (n : Int) ≤ (mostBytes : Int) ∧ (n : Int) * (bytes : Int) ≤ (mostBytes : Int))) = true from by
    rw [decide_eq_true_eq]
    simp only [mostBytes]
    rw [Int.natCast_mul] at h3'
    omega]
  simp
  rfl

theorem repC_one (v : AV) (n : Nat) : repC [v] n = List.replicate n v := by
  induction n with
  | zero => rfl
  | succ n ih => simp [repC, ih, List.replicate_succ]

end Go.Ab
