/- The abstract values and heap against the machine's: the relation, and what keeps it. -/
import Derived.Test.YtddnmijnpieokaaAbsB
import Derived.Laws.Append
import Derived.Laws.CopyRow
set_option linter.unusedVariables false
set_option linter.unusedSimpArgs false
namespace Go.Ab

/-- Where a new block lies: the machine's block, from where on, how many cells there are from there, . -/
structure Loc where
  block : Nat
  base : Nat
  total : Nat

abbrev Mu := Nat → Option Loc

def RRel (μ : Mu) : Ref → Addr → Prop
  | .old a, b => b = a
  | .new i o, b => ∃ L, μ i = some L ∧ b = ⟨L.block, L.base + o, none⟩

def CapRel (μ : Mu) (r : Ref) (n c : Nat) : Cap → Prop
  | .is k => n ≤ c ∧ c = k
  | .opn sz => n ≤ c ∧ ∃ i o L, r = .new i o ∧ μ i = some L ∧ o + c * sz ≤ L.total

def FnRel (μ : Mu) : Fn → Fn → Prop
  | .yield i, g => ∃ L, μ i = some L ∧ g = .yield L.block
  | f, g => g = f

mutual
def VRel (μ : Mu) : AV → Value → Prop
  | .bool b, u => u = .bool b
  | .int k n, u => u = .int k n
  | .str s, u => u = .string s
  | .ptr none, u => u = .pointer none
  | .ptr (some r), u => ∃ a, RRel μ r a ∧ u = .pointer (some a)
  | .slice none n c, u => n = 0 ∧ c = .is 0 ∧ u = .slice none 0 0
  | .slice (some r) n cap, u => ∃ a c, u = .slice (some a) n c ∧ (c = 0 ∨ RRel μ r a) ∧ CapRel μ r n c cap
  | .map none, u => u = .map none
  | .map (some i), u => ∃ L, μ i = some L ∧ u = .map (some L.block)
  | .func f a b, u => ∃ g x y, u = .func g x y ∧ FnRel μ f g ∧ VRels μ a x.toList ∧ VRels μ b y.toList
  | .nilFunc, u => u = .nilFunc
  | .iface t v, u => ∃ x, u = .iface t x ∧ VRel μ v x
  | .nilIface, u => u = .nilIface
  | .agg cs, u => ∃ us : Array Value, u = .agg us ∧ VRels μ cs us.toList ∧ cs.all AV.one = true
  | .tup cs, u => ∃ us : Array Value, u = .tuple us ∧ VRels μ cs us.toList
def VRels (μ : Mu) : List AV → List Value → Prop
  | [], us => us = []
  | v :: vs, us => ∃ x xs, us = x :: xs ∧ VRel μ v x ∧ VRels μ vs xs
end

def Mu.le (μ ν : Mu) : Prop := ∀ i L, μ i = some L → ν i = some L

theorem Mu.le_refl (μ : Mu) : μ.le μ := fun _ _ h => h
theorem Mu.le_trans {a b c : Mu} (h : a.le b) (k : b.le c) : a.le c := fun i L e => k i L (h i L e)

theorem RRel.mono {μ ν : Mu} (h : μ.le ν) : ∀ {r : Ref} {a : Addr}, RRel μ r a → RRel ν r a
  | .old _, _, e => e
  | .new _ _, _, ⟨L, e, f⟩ => ⟨L, h _ _ e, f⟩

theorem CapRel.mono {μ ν : Mu} (h : μ.le ν) {r : Ref} {n c : Nat} : ∀ {k : Cap}, CapRel μ r n c k → CapRel ν r n c k
  | .is _, e => e
  | .opn _, ⟨e, i, o, L, e1, e2, e3⟩ => ⟨e, i, o, L, e1, h _ _ e2, e3⟩

theorem FnRel.mono {μ ν : Mu} (h : μ.le ν) : ∀ {f g : Fn}, FnRel μ f g → FnRel ν f g
  | .yield _, _, ⟨L, e, f⟩ => ⟨L, h _ _ e, f⟩
  | .func _, _, e => e
  | .method _, _, e => e
  | .methodOf _ _, _, e => e
  | .via _ _ _ _, _, e => e

mutual
theorem VRel.mono {μ ν : Mu} (h : μ.le ν) : ∀ {v : AV} {u : Value}, VRel μ v u → VRel ν v u
  | .bool _, _, e => by simpa only [VRel] using e
  | .int _ _, _, e => by simpa only [VRel] using e
  | .str _, _, e => by simpa only [VRel] using e
  | .ptr none, _, e => by simpa only [VRel] using e
  | .ptr (some r), _, e => by
    simp only [VRel] at e ⊢
    obtain ⟨a, e1, e2⟩ := e
    exact ⟨a, e1.mono h, e2⟩
  | .slice none _ _, _, e => by simpa only [VRel] using e
  | .slice (some r) _ _, _, e => by
    simp only [VRel] at e ⊢
    obtain ⟨a, c, e1, e2, e3⟩ := e
    exact ⟨a, c, e1, e2.imp id (RRel.mono h), e3.mono h⟩
  | .map none, _, e => by simpa only [VRel] using e
  | .map (some _), _, e => by
    simp only [VRel] at e ⊢
    obtain ⟨L, e1, e2⟩ := e
    exact ⟨L, h _ _ e1, e2⟩
  | .func f a b, _, e => by
    simp only [VRel] at e ⊢
    obtain ⟨g, x, y, e1, e2, e3, e4⟩ := e
    exact ⟨g, x, y, e1, e2.mono h, VRels.mono h e3, VRels.mono h e4⟩
  | .nilFunc, _, e => by simpa only [VRel] using e
  | .iface t v, _, e => by
    simp only [VRel] at e ⊢
    obtain ⟨x, e1, e2⟩ := e
    exact ⟨x, e1, VRel.mono h e2⟩
  | .nilIface, _, e => by simpa only [VRel] using e
  | .agg cs, _, e => by
    simp only [VRel] at e ⊢
    obtain ⟨us, e1, e2, e3⟩ := e
    exact ⟨us, e1, VRels.mono h e2, e3⟩
  | .tup cs, _, e => by
    simp only [VRel] at e ⊢
    obtain ⟨us, e1, e2⟩ := e
    exact ⟨us, e1, VRels.mono h e2⟩
theorem VRels.mono {μ ν : Mu} (h : μ.le ν) : ∀ {v : List AV} {u : List Value}, VRels μ v u → VRels ν v u
  | [], _, e => by simpa only [VRels] using e
  | v :: vs, _, e => by
    simp only [VRels] at e ⊢
    obtain ⟨x, xs, e1, e2, e3⟩ := e
    exact ⟨x, xs, e1, VRel.mono h e2, VRels.mono h e3⟩
end

theorem VRels.length {μ : Mu} : ∀ {vs : List AV} {us : List Value}, VRels μ vs us → us.length = vs.length
  | [], us, h => by simp only [VRels] at h; simp [h]
  | v :: vs, us, h => by
    simp only [VRels] at h
    obtain ⟨x, xs, rfl, _, h3⟩ := h
    simp [VRels.length h3]

theorem VRels.get {μ : Mu} : ∀ {vs : List AV} {us : List Value}, VRels μ vs us → ∀ (i : Nat) (v : AV), vs[i]? = some v → ∃ u, us[i]? = some u ∧ VRel μ v u
  | [], us, h, i, v, e => by simp at e
  | w :: vs, us, h, i, v, e => by
    simp only [VRels] at h
    obtain ⟨x, xs, rfl, h2, h3⟩ := h
    cases i with
    | zero => simp at e; subst e; exact ⟨x, by simp, h2⟩
    | succ i => simp at e ⊢; exact VRels.get h3 i v e

theorem VRels.of_get {μ : Mu} : ∀ {vs : List AV} {us : List Value}, us.length = vs.length → (∀ (i : Nat) (v : AV), vs[i]? = some v → ∃ u, us[i]? = some u ∧ VRel μ v u) → VRels μ vs us
  | [], us, hl, h => by simp only [VRels]; simpa using hl
  | v :: vs, us, hl, h => by
    cases us with
    | nil => simp at hl
    | cons x xs =>
      simp only [VRels]
      obtain ⟨u, e1, e2⟩ := h 0 v (by simp)
      simp at e1
      subst e1
      refine ⟨x, xs, rfl, e2, VRels.of_get (by simpa using hl) fun i w e => ?_⟩
      simpa using h (i + 1) w (by simpa using e)

theorem VRels.append {μ : Mu} {vs ws : List AV} {us xs : List Value} (h : VRels μ vs us) (k : VRels μ ws xs) : VRels μ (vs ++ ws) (us ++ xs) := by
  induction vs generalizing us with
  | nil => simp only [VRels] at h; subst h; simpa using k
  | cons v vs ih =>
    simp only [VRels] at h
    obtain ⟨x, r, rfl, h2, h3⟩ := h
    simp only [List.cons_append, VRels]
    exact ⟨x, r ++ xs, rfl, h2, ih h3⟩

theorem VRels.take {μ : Mu} {vs : List AV} {us : List Value} (h : VRels μ vs us) (n : Nat) : VRels μ (vs.take n) (us.take n) := by
  induction vs generalizing us n with
  | nil => simp only [VRels] at h; subst h; simp [VRels]
  | cons v vs ih =>
    simp only [VRels] at h
    obtain ⟨x, r, rfl, h2, h3⟩ := h
    cases n with
    | zero => simp [VRels]
    | succ n => simp only [List.take_succ_cons, VRels]; exact ⟨x, _, rfl, h2, ih h3 n⟩

theorem VRels.drop {μ : Mu} {vs : List AV} {us : List Value} (h : VRels μ vs us) (n : Nat) : VRels μ (vs.drop n) (us.drop n) := by
  induction vs generalizing us n with
  | nil => simp only [VRels] at h; subst h; simp [VRels]
  | cons v vs ih =>
    cases n with
    | zero => simpa using h
    | succ n =>
      simp only [VRels] at h
      obtain ⟨x, r, rfl, h2, h3⟩ := h
      simpa using ih h3 n

theorem VRels.nil {μ : Mu} : VRels μ [] [] := by simp [VRels]
theorem VRels.cons {μ : Mu} {v : AV} {u : Value} {vs : List AV} {us : List Value} (h : VRel μ v u) (k : VRels μ vs us) : VRels μ (v :: vs) (u :: us) := by
  simp only [VRels]; exact ⟨u, us, rfl, h, k⟩
theorem VRels.cons_inv {μ : Mu} {v : AV} {vs : List AV} {us : List Value} (h : VRels μ (v :: vs) us) : ∃ x xs, us = x :: xs ∧ VRel μ v x ∧ VRels μ vs xs := by
  simpa only [VRels] using h
theorem VRels.nil_inv {μ : Mu} {us : List Value} (h : VRels μ [] us) : us = [] := by simpa only [VRels] using h

theorem VRel.one {μ : Mu} {v : AV} {u : Value} (h : VRel μ v u) (h1 : v.one = true) : u.oneCell' = true := by
  cases v with
  | bool b => simp only [VRel] at h; subst h; rfl
  | int k n => simp only [VRel] at h; subst h; rfl
  | str s => simp only [VRel] at h; subst h; rfl
  | ptr r => cases r <;> simp only [VRel] at h
             · subst h; rfl
             · obtain ⟨a, _, rfl⟩ := h; rfl
  | slice r n c => cases r <;> simp only [VRel] at h
                   · obtain ⟨_, _, rfl⟩ := h; rfl
                   · obtain ⟨a, c, rfl, _⟩ := h; rfl
  | map r => cases r <;> simp only [VRel] at h
             · subst h; rfl
             · obtain ⟨a, _, rfl⟩ := h; rfl
  | func f a b => simp only [VRel] at h; obtain ⟨g, x, y, rfl, _⟩ := h; rfl
  | nilFunc => simp only [VRel] at h; subst h; rfl
  | iface t v => simp only [VRel] at h; obtain ⟨x, rfl, _⟩ := h; rfl
  | nilIface => simp only [VRel] at h; subst h; rfl
  | agg cs => simp [AV.one] at h1
  | tup cs => simp [AV.one] at h1

theorem VRel.cells_one {μ : Mu} {v : AV} {u : Value} (h : VRel μ v u) (h1 : v.one = true) : u.cells = #[u] := by
  have := h.one h1
  cases u <;> first | rfl | simp [Value.oneCell'] at this

theorem VRel.ofCell {μ : Mu} {v : AV} {u : Value} (h : AV.ofCell u = some v) : VRel μ v u ∧ v.one = true := by
  cases u with
  | bool b => simp only [AV.ofCell, Option.some.injEq] at h; subst h; simp [VRel, AV.one]
  | int k n => simp only [AV.ofCell, Option.some.injEq] at h; subst h; simp [VRel, AV.one]
  | string s => simp only [AV.ofCell, Option.some.injEq] at h; subst h; simp [VRel, AV.one]
  | pointer a => cases a <;> (simp only [AV.ofCell, Option.some.injEq] at h; subst h; simp [VRel, AV.one, RRel])
  | slice a n c =>
    cases a with
    | none =>
      simp only [AV.ofCell] at h
      cases hn : Nat.beq n 0 <;> cases hc : Nat.beq c 0 <;> simp [hn, hc] at h
      have h1 : n = 0 := Nat.eq_of_beq_eq_true hn
      have h2 : c = 0 := Nat.eq_of_beq_eq_true hc
      subst h; subst h1; subst h2
      simp [VRel, AV.one]
    | some a =>
      simp only [AV.ofCell] at h
      cases hn : Nat.ble n c <;> simp [hn] at h
      have := Nat.le_of_ble_eq_true hn
      subst h
      refine ⟨?_, rfl⟩
      simp only [VRel]
      exact ⟨a, c, rfl, .inr rfl, this, rfl⟩
  | map r => cases r <;> simp [AV.ofCell] at h; subst h; simp [VRel, AV.one]
  | nilFunc => simp only [AV.ofCell, Option.some.injEq] at h; subst h; simp [VRel, AV.one]
  | nilIface => simp only [AV.ofCell, Option.some.injEq] at h; subst h; simp [VRel, AV.one]
  | _ => simp [AV.ofCell] at h

theorem VRels.ofCells {μ : Mu} : ∀ {us : List Value} {vs : List AV}, AV.ofCells us = some vs → VRels μ vs us ∧ vs.all AV.one = true
  | [], vs, h => by simp [AV.ofCells] at h; subst h; simp [VRels]
  | u :: us, vs, h => by
    simp only [AV.ofCells] at h
    split at h
    · rename_i x xs hx hxs
      simp at h
      subst h
      obtain ⟨h1, h2⟩ := VRel.ofCell (μ := μ) hx
      obtain ⟨h3, h4⟩ := VRels.ofCells (μ := μ) hxs
      exact ⟨VRels.cons h1 h3, by simp [h2]; simpa using h4⟩
    · simp at h

theorem VRel.ofValue {μ : Mu} {v : AV} {u : Value} (h : AV.ofValue u = some v) : VRel μ v u := by
  unfold AV.ofValue at h
  split at h
  · rename_i cs
    simp only [Option.map_eq_some_iff] at h
    obtain ⟨x, h1, rfl⟩ := h
    obtain ⟨h2, h3⟩ := VRels.ofCells (μ := μ) h1
    simp only [VRel]
    exact ⟨cs, rfl, h2, h3⟩
  · rename_i cs
    simp only [Option.map_eq_some_iff] at h
    obtain ⟨x, h1, rfl⟩ := h
    obtain ⟨h2, h3⟩ := VRels.ofCells (μ := μ) h1
    simp only [VRel]
    exact ⟨cs, rfl, h2⟩
  · exact (VRel.ofCell h).1

/-! ### The heap -/
def BRel (P : Program) (μ : Mu) (L : Loc) (w : World) : ABlk → Prop
  | .cells cs e => (∃ c : Array Value, w.heap[L.block]? = some (.cells c e (0, 0)) ∧ c.size = L.base + L.total ∧ cs.length ≤ L.total ∧
      ∀ (j : Nat) (v : AV), cs[j]? = some v → ∃ u, c[L.base + j]? = some u ∧ VRel μ v u) ∧ cs.all AV.one = true
  | .map es clock => ∃ us : Array MapEntry, w.heap[L.block]? = some (.map us clock) ∧ us.size = es.length ∧
      ∀ (j : Nat) (e : AEnt), es[j]? = some e → ∃ u : MapEntry, us[j]? = some u ∧ VRel μ e.key u.key ∧ VRel μ e.val u.val ∧ u.born = e.born
  | .loop .. => False
  | .deferred => False
  | .dead => True

def Live (h : AH) (i : Nat) : Prop := ∀ b, h.blks[i]? = some b → b ≠ .dead

structure Sim (P : Program) (O : World) (μ : Mu) (h : AH) (w : World) : Prop where
  old : h.old = O.heap
  os : w.os = O.os
  tape : w.tape = O.tape
  output : w.output = O.output
  base : O.heap.size ≤ w.heap.size
  keep : ∀ b, b < O.heap.size → w.heap[b]? = O.heap[b]?
  dom : ∀ i L, μ i = some L → i < h.blks.size
  place : ∀ i L, μ i = some L → O.heap.size ≤ L.block ∧ L.block < w.heap.size
  blk : ∀ i L b, μ i = some L → h.blks[i]? = some b → BRel P μ L w b
  inj : ∀ i j L M, μ i = some L → μ j = some M → Live h i → Live h j → L.block = M.block → i = j

/-- What no living block lies in stays. -/
def Frm (μ : Mu) (h : AH) (w w' : World) : Prop :=
  w.heap.size ≤ w'.heap.size ∧ ∀ b, b < w.heap.size → (∀ i L, i < h.blks.size → Live h i → μ i = some L → L.block ≠ b) → w'.heap[b]? = w.heap[b]?

/-- What is new is mapped anew. -/
def Ext (μ : Mu) (h : AH) (w : World) (ν : Mu) (h' : AH) : Prop :=
  h.blks.size ≤ h'.blks.size ∧ μ.le ν ∧ (∀ i, i < h.blks.size → ν i = μ i) ∧
  (∀ i, i < h.blks.size → Live h' i → Live h i) ∧
  (∀ i L, h.blks.size ≤ i → i < h'.blks.size → ν i = some L → w.heap.size ≤ L.block ∨ ∃ j M, j < h.blks.size ∧ Live h j ∧ μ j = some M ∧ M.block = L.block)

theorem Frm.refl (μ : Mu) (h : AH) (w : World) : Frm μ h w w := ⟨Nat.le_refl _, fun _ _ _ => rfl⟩
theorem Ext.refl (μ : Mu) (h : AH) (w : World) : Ext μ h w μ h := ⟨Nat.le_refl _, Mu.le_refl μ, fun _ _ => rfl, fun _ _ h => h, fun i L h1 h2 => by omega⟩

theorem Ext.trans {μ ν ξ : Mu} {h h' h'' : AH} {w w' : World} (a : Ext μ h w ν h') (b : Ext ν h' w' ξ h'') (hw : w.heap.size ≤ w'.heap.size) : Ext μ h w ξ h'' := by
  obtain ⟨a1, a2, a3, a4, a5⟩ := a
  obtain ⟨b1, b2, b3, b4, b5⟩ := b
  refine ⟨Nat.le_trans a1 b1, Mu.le_trans a2 b2, fun i hi => ?_, fun i hi hl => a4 i hi (b4 i (by omega) hl), fun i L hi1 hi2 hL => ?_⟩
  · rw [b3 i (by omega), a3 i (by omega)]
  · rcases Nat.lt_or_ge i h'.blks.size with hlt | hge
    · rw [b3 i hlt] at hL
      exact a5 i L hi1 hlt hL
    · rcases b5 i L hge hi2 hL with h1 | ⟨j, M, hj, hl, hM, hb⟩
      · exact .inl (Nat.le_trans hw h1)
      · rcases Nat.lt_or_ge j h.blks.size with hlt | hge'
        · rw [a3 j hlt] at hM
          exact .inr ⟨j, M, hlt, a4 j hlt hl, hM, hb⟩
        · rcases a5 j M hge' hj hM with h1 | ⟨j', M', hj', hl', hM', hb'⟩
          · exact .inl (by omega)
          · exact .inr ⟨j', M', hj', hl', hM', hb'.trans hb⟩

theorem Frm.trans {μ ν : Mu} {h h' : AH} {w w' w'' : World} (a : Frm μ h w w') (e : Ext μ h w ν h') (b : Frm ν h' w' w'') : Frm μ h w w'' := by
  obtain ⟨e1, e2, e3, e4, e5⟩ := e
  refine ⟨Nat.le_trans a.1 b.1, fun k hk hn => (b.2 k (Nat.lt_of_lt_of_le hk a.1) fun i L hi hl hL he => ?_).trans (a.2 k hk hn)⟩
  rcases Nat.lt_or_ge i h.blks.size with hlt | hge
  · exact hn i L hlt (e4 i hlt hl) (by rw [← e3 i hlt]; exact hL) he
  · rcases e5 i L hge hi hL with h1 | ⟨j, M, hj, hl', hM, hb⟩
    · omega
    · exact hn j M hj hl' hM (hb.trans he)

end Go.Ab
