/- The abstract heap: slices and what they hold; blocks of one's own. -/
import Derived.Test.YtddnmijnpieokaaAbsQ
set_option linter.unusedVariables false
set_option linter.unusedSimpArgs false
namespace Go.Ab

/-! ### Blocks -/
/-- The block's cells, laid anew. -/
def AH.upd (h : AH) (i : Nat) (cs : List AV) (e : TypeId) : AH := { h with blks := h.blks.setIfInBounds i (.cells cs e) }

/-- Block i holds these cells. -/
@[reducible] def AH.has (h : AH) (i : Nat) (cs : List AV) (e : TypeId) : Prop := h.blks[i]? = some (.cells cs e)

theorem AH.has.lt {h : AH} {i : Nat} {cs : List AV} {e : TypeId} (b : h.has i cs e) : i < h.blks.size := (Array.getElem?_eq_some_iff.1 b).1

theorem AH.has.cell {h : AH} {i : Nat} {cs : List AV} {e : TypeId} (b : h.has i cs e) (o : Nat) : h.cell (.new i o) = cs[o]? := by
  simp only [AH.cell, show h.blks[i]? = _ from b]

theorem AH.has.inn {h : AH} {i : Nat} {cs : List AV} {e : TypeId} (b : h.has i cs e) (o : Nat) : (Ref.new i o).inn h := b.lt

theorem AH.has_push (h : AH) (cs : List AV) (e : TypeId) : (h.push (.cells cs e)).has h.blks.size cs e := by simp [AH.has, AH.push, AH.alloc]

theorem Grow.has {h h' : AH} (g : Grow h h') {i : Nat} {cs : List AV} {e : TypeId} (b : h.has i cs e) : h'.has i cs e := (g.blk i b.lt).trans b

theorem AH.has_upd {h : AH} {i : Nat} {cs : List AV} {e : TypeId} (b : h.has i cs e) (cs' : List AV) (e' : TypeId) : (h.upd i cs' e').has i cs' e' := by
  simp [AH.has, AH.upd, b.lt]

theorem AH.has_upd_ne {h : AH} {i j : Nat} {cs cs' : List AV} {e e' : TypeId} (b : h.has j cs e) (hij : i ≠ j) : (h.upd i cs' e').has j cs e := by
  simp only [AH.has, AH.upd]
  rw [Array.getElem?_setIfInBounds_ne hij]
  exact b

theorem AH.cell_upd {h : AH} {i : Nat} {cs : List AV} {e : TypeId} (b : h.has i cs e) (cs' : List AV) (e' : TypeId) (o : Nat) : (h.upd i cs' e').cell (.new i o) = cs'[o]? := (AH.has_upd b cs' e').cell o

theorem Grow.upd {h h' : AH} (g : Grow h h') {i : Nat} (hi : h.blks.size ≤ i) (cs : List AV) (e : TypeId) : Grow h (h'.upd i cs e) :=
  ⟨g.old, by simpa [AH.upd] using g.size, fun j hj => by
    show (h'.blks.setIfInBounds i (.cells cs e))[j]? = _
    rw [Array.getElem?_setIfInBounds_ne (by omega)]
    exact g.blk j hj⟩

theorem AH.has.put {h : AH} {i : Nat} {cs : List AV} {e : TypeId} (b : h.has i cs e) {o : Nat} {v : AV} (ho : o < cs.length) : h.put (.new i o) v = some (h.upd i (cs.set o v) e) := by
  simp only [AH.put, show h.blks[i]? = _ from b, if_pos ho, AH.upd]

theorem AH.upd_upd (h : AH) (i : Nat) (cs cs' : List AV) (e e' : TypeId) : (h.upd i cs e).upd i cs' e' = h.upd i cs' e' := by
  simp [AH.upd]

theorem AH.has.puts {h : AH} {i : Nat} {e : TypeId} : ∀ {vs : List AV} {o : Nat} {cs : List AV}, h.has i cs e → o + vs.length ≤ cs.length → h.puts (.new i o) vs = some (h.upd i (cs.take o ++ vs ++ cs.drop (o + vs.length)) e)
  | [], o, cs, b, _ => by
    simp only [AH.puts, List.append_nil, List.length_nil, Nat.add_zero, List.take_append_drop, Option.some.injEq]
    have hb : h.blks[i]? = some (.cells cs e) := b
    have : h.blks.setIfInBounds i (.cells cs e) = h.blks := by
      apply Array.ext
      · simp
      · intro j h1 h2
        rw [Array.getElem_setIfInBounds (by simpa using h1)]
        split
        · rename_i hij; subst hij
          have := Array.getElem?_eq_getElem h2
          rw [this] at hb
          exact (Option.some.inj hb).symm
        · rfl
    cases h
    simp only [AH.upd] at this ⊢
    rw [this]
  | v :: vs, o, cs, b, ho => by
    simp only [List.length_cons] at ho
    simp only [AH.puts]
    rw [b.put (by omega), Option.bind_some, Ref.add_new, AH.has.puts (AH.has_upd b _ e) (by simp; omega), AH.upd_upd]
    have e1 : (cs.set o v).take (o + 1) = cs.take o ++ [v] := by
      apply List.ext_getElem?
      intro i
      rw [List.getElem?_take]
      by_cases hi : i < o
      · rw [if_pos (by omega), List.getElem?_set_ne (by omega), List.getElem?_append_left (by simp; omega), List.getElem?_take, if_pos hi]
      · by_cases hi2 : i = o
        · subst hi2
          rw [if_pos (by omega), List.getElem?_set_self (by omega), List.getElem?_append_right (by simp; omega)]
          simp [Nat.min_eq_left (show i ≤ cs.length by omega)]
        · rw [if_neg (by omega), List.getElem?_eq_none (by simp; omega)]
    have e2 : (cs.set o v).drop (o + 1 + vs.length) = cs.drop (o + (vs.length + 1)) := by
      rw [List.drop_set_of_lt (by omega)]
      congr 1
      omega
    rw [e1, e2]
    simp

/-- The whole block. -/
theorem AH.has.puts_all {h : AH} {i : Nat} {e : TypeId} {cs vs : List AV} (b : h.has i cs e) (hl : vs.length = cs.length) : h.puts (.new i 0) vs = some (h.upd i vs e) := by
  rw [b.puts (by omega)]
  simp [hl]

theorem Grow.same {h h' : AH} (g : Grow h h') {i : Nat} {cs : List AV} {e : TypeId} (b : h.has i cs e) (o n : Nat) : SameAt h h' (.new i o) n := fun j _ => by
  rw [Ref.add_new]
  exact g.cell (b.inn _)

@[simp] theorem whenK_of {R : Type} {p : Prop} {x : Option R} (hp : p) : whenK p x = x := by
  unfold whenK
  rw [if_pos hp]

/-! ### Slices -/
/-- The room that is known of a slice fits. -/
def Sl.fit (s : Sl) (n : Nat) : Prop := match s.cap with
  | .is c => s.len ≤ c
  | .opn z => z = n

/-- A slice of elements of n cells each holds these cells. -/
structure Cells (h : AH) (s : Sl) (n : Nat) (flat : List AV) : Prop where
  fit : s.fit n
  len : s.len * n = flat.length
  get : ∀ (i : Nat) (v : AV), flat[i]? = some v → ∃ r, s.ref = some r ∧ h.cell (r.add i) = some v

theorem Cells.grow {h h' : AH} (g : Grow h h') {s : Sl} {n : Nat} {flat : List AV} (c : Cells h s n flat) : Cells h' s n flat :=
  ⟨c.fit, c.len, fun i v hv => by
    obtain ⟨r, e1, e2⟩ := c.get i v hv
    exact ⟨r, e1, g.cell_some e2⟩⟩

theorem Cells.nil (h : AH) (n : Nat) : Cells h ⟨none, 0, .is 0⟩ n [] := ⟨Nat.le_refl _, by simp, fun i v hv => by simp at hv⟩

theorem Cells.of_has {h : AH} {i n m : Nat} {cs : List AV} {e : TypeId} (b : h.has i cs e) (hm : m * n = cs.length) : Cells h ⟨some (.new i 0), m, .is m⟩ n cs :=
  ⟨Nat.le_refl _, hm, fun j v hv => ⟨_, rfl, by rw [Ref.add_new, Nat.zero_add, b.cell]; exact hv⟩⟩

theorem Cells.gets {h : AH} {s : Sl} {n : Nat} {flat : List AV} (c : Cells h s n flat) : h.getsO s.ref (s.len * n) = some flat := by
  rw [c.len]
  unfold AH.getsO
  cases hr : s.ref with
  | none =>
    have : flat = [] := by
      cases flat with
      | nil => rfl
      | cons v vs =>
        obtain ⟨r, e1, _⟩ := c.get 0 v rfl
        rw [hr] at e1
        cases e1
    rw [this]
  | some r =>
    have key : ∀ (vs : List AV) (r : Ref), (∀ i v, vs[i]? = some v → h.cell (r.add i) = some v) → h.gets r vs.length = some vs := by
      intro vs
      induction vs with
      | nil => intro r _; rfl
      | cons v vs ih =>
        intro r hall
        have h0 := hall 0 v rfl
        rw [Ref.add_zero] at h0
        have h1 := ih (r.add 1) fun i x hx => by
          rw [Ref.add_add, Nat.add_comm]
          exact hall (i + 1) x (by simpa using hx)
        simp only [List.length_cons, AH.gets, h0, Option.bind_some, h1, Option.map_some]
    exact key flat r fun i v hv => by
      obtain ⟨r', e1, e2⟩ := c.get i v hv
      rw [hr] at e1
      cases e1
      exact e2

/-- A slice that is made since. -/
def Own (h : AH) (s : Sl) : Prop := ∀ r, s.ref = some r → ∃ i o, r = .new i o ∧ h.blks.size ≤ i

theorem AH.cell_upd_ne {h : AH} {i : Nat} {cs : List AV} {e : TypeId} {r : Ref} (hr : ∀ o, r ≠ .new i o) : (h.upd i cs e).cell r = h.cell r := by
  cases r with
  | old a => rfl
  | new j o =>
    have : i ≠ j := fun hij => hr o (by rw [hij])
    simp only [AH.cell, AH.upd]
    rw [Array.getElem?_setIfInBounds_ne this]

/-- A write to a block that the slice does not lie in. -/
theorem Cells.upd {h h0 : AH} {s : Sl} {n : Nat} {flat : List AV} (c : Cells h s n flat) (ho : Own h0 s) {i : Nat} (hi : i < h0.blks.size) (cs : List AV) (e : TypeId) : Cells (h.upd i cs e) s n flat :=
  ⟨c.fit, c.len, fun k v hv => by
    obtain ⟨r, e1, e2⟩ := c.get k v hv
    refine ⟨r, e1, ?_⟩
    obtain ⟨j, o, rfl, hj⟩ := ho r e1
    rw [AH.cell_upd_ne]
    · exact e2
    · intro o' he
      simp only [Ref.add_new, Ref.new.injEq] at he
      omega⟩

theorem Own.of_le {h h0 : AH} (g : Grow h h0) {s : Sl} (o : Own h0 s) : Own h s := fun r hr => by
  obtain ⟨i, k, h1, h2⟩ := o r hr
  exact ⟨i, k, h1, Nat.le_trans g.size h2⟩

theorem Own.nil (h : AH) {n : Nat} {c : Cap} : Own h ⟨none, n, c⟩ := fun r hr => by cases hr

/-- x[l:n]. -/
theorem Cells.cut {h : AH} {s : Sl} {m : Nat} {flat : List AV} (c : Cells h s m flat) {l n : Nat} (h1 : l ≤ n) (h2 : n ≤ s.len) : ∃ s', cutSl s (l : Int) (n : Int) m = some s' ∧ s'.len = n - l ∧
    Cells h s' m ((flat.drop (l * m)).take ((n - l) * m)) ∧ ∀ h0, Own h0 s → Own h0 s' := by
  have hm : n * m ≤ s.len * m := Nat.mul_le_mul_right m h2
  have hlm : l * m ≤ n * m := Nat.mul_le_mul_right m h1
  have hsub : (n - l) * m = n * m - l * m := Nat.sub_mul _ _ _
  have cell : ∀ (ref : Option Ref), (∀ r, s.ref = some r → n ≠ l → ref = some (r.add (l * m))) → ∀ (i : Nat) (v : AV), ((flat.drop (l * m)).take ((n - l) * m))[i]? = some v → ∃ r, ref = some r ∧ h.cell (r.add i) = some v := by
    intro ref hr i v hv
    rw [List.getElem?_take] at hv
    split at hv
    · rename_i hi
      rw [List.getElem?_drop] at hv
      obtain ⟨r, e1, e2⟩ := c.get _ v hv
      have hne : n ≠ l := by
        rintro rfl
        simp at hi
      exact ⟨_, hr r e1 hne, by rw [Ref.add_add]; exact e2⟩
    · cases hv
  have len : ((flat.drop (l * m)).take ((n - l) * m)).length = (n - l) * m := by
    rw [List.length_take, List.length_drop, ← c.len]
    omega
  have own : ∀ (ref : Option Ref) (k : Nat) (cp : Cap), (ref = s.ref ∨ ref = s.ref.map (·.add (l * m))) → ∀ h0, Own h0 s → Own h0 ⟨ref, k, cp⟩ := by
    intro ref k cp hr h0 ho r e
    dsimp only at e
    rcases hr with rfl | rfl
    · exact ho r e
    · rw [Option.map_eq_some_iff] at e
      obtain ⟨r0, e1, rfl⟩ := e
      obtain ⟨i, o, rfl, h3⟩ := ho r0 e1
      exact ⟨i, _, rfl, h3⟩
  have hf := c.fit
  unfold Sl.fit at hf
  unfold cutSl
  split at hf
  · rename_i cp hcp
    simp only [hcp]
    rw [show (decide (0 ≤ (l : Int) ∧ (l : Int) ≤ (n : Int) ∧ (n : Int) ≤ (cp : Int))) = true from by simp; omega]
    refine ⟨_, rfl, by simp, ⟨?_, by rw [len]; simp, cell _ ?_⟩, own _ _ _ ?_⟩
    · show (n : Int).toNat - (l : Int).toNat ≤ cp - (l : Int).toNat
      simp
      omega
    · intro r hr hne
      simp only [Int.toNat_natCast]
      rw [if_neg (by omega), hr]
      rfl
    · split
      · exact .inl rfl
      · exact .inr (by simp)
  · rename_i z hz
    simp only [hz]
    subst hf
    rw [show Nat.beq z z = true from Nat.beq_refl z, show (decide (0 ≤ (l : Int) ∧ (l : Int) ≤ (n : Int) ∧ (n : Int) ≤ (s.len : Int))) = true from by simp; omega]
    refine ⟨_, rfl, by simp, ⟨?_, by rw [len]; simp, cell _ ?_⟩, own _ _ _ (.inr (by simp))⟩
    · exact rfl
    · intro r hr hne
      simp [hr]

/-! ### Limbs -/
@[reducible] def u64 (x : Nat) : AV := .int .u64 (x : Int)

/-- The slice holds these limbs. -/
structure Nats (h : AH) (s : Sl) (xs : List Nat) : Prop where
  cells : Cells h s 1 (xs.map u64)
  lt : ∀ x ∈ xs, x < 18446744073709551616
  short : xs.length ≤ 9223372036854775807

theorem Nats.len {h : AH} {s : Sl} {xs : List Nat} (n : Nats h s xs) : s.len = xs.length := by
  have := n.cells.len
  simpa using this

theorem Nats.grow {h h' : AH} (g : Grow h h') {s : Sl} {xs : List Nat} (n : Nats h s xs) : Nats h' s xs := ⟨n.cells.grow g, n.lt, n.short⟩

theorem Nats.nil (h : AH) : Nats h ⟨none, 0, .is 0⟩ [] := ⟨Cells.nil h 1, by simp, by simp⟩

theorem Nats.upd {h h0 : AH} {s : Sl} {xs : List Nat} (c : Nats h s xs) (ho : Own h0 s) {i : Nat} (hi : i < h0.blks.size) (cs : List AV) (e : TypeId) : Nats (h.upd i cs e) s xs := ⟨c.cells.upd ho hi cs e, c.lt, c.short⟩

theorem Nats.at {h : AH} {s : Sl} {xs : List Nat} (n : Nats h s xs) {i : Nat} (hi : i < xs.length) : ∃ r, idx s.ref s.len (i : Int) 1 = some r ∧ h.cell r = some (.int .u64 ((xs[i] : Nat) : Int)) := by
  obtain ⟨r, e1, e2⟩ := n.cells.get i (u64 xs[i]) (by simp [hi])
  refine ⟨r.add i, ?_, e2⟩
  rw [e1, idx_some _ _ _ _ (by omega) (by rw [n.len]; omega)]
  simp

theorem Nats.cut {h : AH} {s : Sl} {xs : List Nat} (c : Nats h s xs) {l n : Nat} (h1 : l ≤ n) (h2 : n ≤ xs.length) : ∃ s', cutSl s (l : Int) (n : Int) 1 = some s' ∧ Nats h s' ((xs.drop l).take (n - l)) ∧ ∀ h0, Own h0 s → Own h0 s' := by
  obtain ⟨s', e1, e2, e3, e4⟩ := c.cells.cut h1 (by rw [c.len]; exact h2)
  refine ⟨s', e1, ⟨by simpa [List.map_drop, List.map_take] using e3, fun x hx => c.lt x (List.mem_of_mem_drop (List.mem_of_mem_take hx)), ?_⟩, e4⟩
  have := c.short
  rw [List.length_take, List.length_drop]
  omega

theorem wrap_nat {i : Nat} (h : i ≤ 9223372036854775807) : IntKind.wrap .i64 (i : Int) = (i : Int) := wrap64 (by omega) (by omega)
theorem wrap_succ {i : Nat} (h : i < 9223372036854775807) : IntKind.wrap .i64 ((i : Int) + 1) = ((i + 1 : Nat) : Int) := by
  rw [wrap64 (by omega) (by omega)]; omega
theorem wrap_pred {i : Nat} (h : i < 9223372036854775807) : IntKind.wrap .i64 (((i + 1 : Nat) : Int) - 1) = (i : Int) := by
  rw [wrap64 (by omega) (by omega)]; omega

end Go.Ab
