/- Runs: what code answers, by one step after the other. -/
import Derived.Test.YtddnmijnpieokaaAbsS
set_option linter.unusedVariables false
namespace Go.Ab

/-- The code answers, and of its answer and heap P holds. -/
def Runs (x : Option (AV × AH)) (P : AV → AH → Prop) : Prop := ∃ v h', x = some (v, h') ∧ P v h'

/-- Only block i is another one. -/
structure Upd (h h' : AH) (i : Nat) : Prop where
  old : h'.old = h.old
  size : h.blks.size ≤ h'.blks.size
  blk : ∀ j, j ≠ i → j < h.blks.size → h'.blks[j]? = h.blks[j]?

theorem AH.upd_Upd (h : AH) (i : Nat) (cs : List AV) (e : TypeId) : Upd h (h.upd i cs e) i :=
  ⟨rfl, by simp [AH.upd], fun j hj _ => by
    show (h.blks.setIfInBounds i (.cells cs e))[j]? = _
    rw [Array.getElem?_setIfInBounds_ne (fun x => hj x.symm)]⟩

theorem Grow.updr {h h1 h2 : AH} (g : Grow h h1) {i : Nat} (hi : h.blks.size ≤ i) (u : Upd h1 h2 i) : Grow h h2 :=
  ⟨u.old.trans g.old, Nat.le_trans g.size u.size, fun j hj => (u.blk j (by omega) (Nat.lt_of_lt_of_le hj g.size)).trans (g.blk j hj)⟩

theorem AH.has.updr {h1 h2 : AH} {j : Nat} {cs : List AV} {e : TypeId} (b : h1.has j cs e) {i : Nat} (hij : j ≠ i) (u : Upd h1 h2 i) : h2.has j cs e := (u.blk j hij b.lt).trans b

theorem Upd.trans {h1 h2 h3 : AH} {i : Nat} (u : Upd h1 h2 i) (w : Upd h2 h3 i) : Upd h1 h3 i :=
  ⟨w.old.trans u.old, Nat.le_trans u.size w.size, fun j hj hl => (w.blk j hj (Nat.lt_of_lt_of_le hl u.size)).trans (u.blk j hj hl)⟩
theorem Grow.toUpd {h1 h2 : AH} (g : Grow h1 h2) (i : Nat) : Upd h1 h2 i := ⟨g.old, g.size, fun j _ hl => g.blk j hl⟩

theorem Upd.cell {h1 h2 : AH} {i : Nat} (u : Upd h1 h2 i) {r : Ref} {v : AV} (hc : h1.cell r = some v) (hr : ∀ o, r ≠ .new i o) : h2.cell r = some v := by
  have hi := AH.cell_inn hc
  cases r with
  | old a => simpa only [AH.cell, u.old] using hc
  | new j o => simpa only [AH.cell, u.blk j (fun hj => hr o (by rw [hj])) hi] using hc

theorem Cells.updr {h0 h1 h2 : AH} {s : Sl} {n : Nat} {flat : List AV} (c : Cells h1 s n flat) (ho : Own h0 s) {i : Nat} (hi : i < h0.blks.size) (u : Upd h1 h2 i) : Cells h2 s n flat :=
  ⟨c.fit, c.len, fun k v hv => by
    obtain ⟨r, e1, e2⟩ := c.get k v hv
    refine ⟨r, e1, ?_⟩
    obtain ⟨j, o, rfl, hj⟩ := ho r e1
    refine u.cell e2 fun o' he => ?_
    simp only [Ref.add_new, Ref.new.injEq] at he
    omega⟩

theorem Nats.updr {h0 h1 h2 : AH} {s : Sl} {xs : List Nat} (c : Nats h1 s xs) (ho : Own h0 s) {i : Nat} (hi : i < h0.blks.size) (u : Upd h1 h2 i) : Nats h2 s xs := ⟨c.cells.updr ho hi u, c.lt, c.short⟩

section
variable {P : AV → AH → Prop}

theorem Runs.ret {v : AV} {h : AH} (p : P v h) : Runs (some (v, h)) P := ⟨v, h, rfl, p⟩
theorem Runs.imp {x : Option (AV × AH)} {Q : AV → AH → Prop} (r : Runs x Q) (f : ∀ v h, Q v h → P v h) : Runs x P := by
  obtain ⟨v, h', e, q⟩ := r
  exact ⟨v, h', e, f v h' q⟩
theorem Runs.step {A : Type} {o : Option A} {a : A} {K : A → Option (AV × AH)} (e : o = some a) (H : Runs (K a) P) : Runs (o.bind K) P := by
  subst e
  exact H
theorem Runs.new {h : AH} {cs : List AV} {e : TypeId} {K : Ref → AH → Option (AV × AH)} (H : ∀ h', h'.has h.blks.size cs e → Grow h h' → Runs (K (.new h.blks.size 0) h') P) : Runs (newK h (.cells cs e) K) P :=
  H _ (AH.has_push h cs e) (Grow.push h _)
theorem Runs.puts {h : AH} {i : Nat} {cs vs : List AV} {e : TypeId} {K : AH → Option (AV × AH)} (b : h.has i cs e) (hl : vs.length = cs.length) (H : ∀ h', h'.has i vs e → Upd h h' i → Runs (K h') P) : Runs ((h.puts (.new i 0) vs).bind K) P := by
  rw [b.puts_all hl]
  exact H _ (AH.has_upd b vs e) (AH.upd_Upd h i vs e)
theorem Runs.ifT {c : Bool} {a b : Option (AV × AH)} (e : c = true) (H : Runs a P) : Runs (cond c a b) P := by
  subst e
  exact H
theorem Runs.ifF {c : Bool} {a b : Option (AV × AH)} (e : c = false) (H : Runs b P) : Runs (cond c a b) P := by
  subst e
  exact H
theorem Runs.cond {c : Bool} {a b : Option (AV × AH)} (Ht : c = true → Runs a P) (Hf : c = false → Runs b P) : Runs (cond c a b) P := by
  cases c
  · exact Hf rfl
  · exact Ht rfl
theorem Runs.when {p : Prop} {x : Option (AV × AH)} (hp : p) (H : Runs x P) : Runs (whenK p x) P := by
  rw [whenK_of hp]
  exact H
end

theorem AH.has.rd {A : Type} {f : AV → Option A} {h : AH} {i : Nat} {cs : List AV} {e : TypeId} (b : h.has i cs e) (k : Nat) {v : AV} {x : A} (hk : cs[k]? = some v) (hf : f v = some x) : (h.cell ((Ref.new i 0).add k)).bind f = some x := by
  rw [Ref.add_new, Nat.zero_add, b.cell, hk]
  exact hf
theorem AH.has.rd0 {A : Type} {f : AV → Option A} {h : AH} {i : Nat} {cs : List AV} {e : TypeId} (b : h.has i cs e) {v : AV} {x : A} (hk : cs[0]? = some v) (hf : f v = some x) : (h.cell (Ref.new i 0)).bind f = some x := by
  rw [b.cell, hk]
  exact hf
theorem seen {A : Type} {f : AV → Option A} {v : AV} {x : A} (hf : f v = some x) : (some v).bind f = some x := hf
theorem seenAt {A : Type} {f : AV → Option A} {cs : List AV} {k : Nat} {v : AV} {x : A} (hk : cs[k]? = some v) (hf : f v = some x) : (cs[k]?).bind f = some x := by
  rw [hk]
  exact hf

theorem Nats.of_has {h : AH} {i : Nat} {e : TypeId} {xs : List Nat} (b : h.has i (xs.map u64) e) (hl : ∀ x ∈ xs, x < 18446744073709551616) (hs : xs.length ≤ 9223372036854775807) : Nats h ⟨some (.new i 0), xs.length, .is xs.length⟩ xs :=
  ⟨Cells.of_has b (by simp), hl, hs⟩

theorem Own.box {h h' : AH} (g : Grow h h') {n : Nat} {c : Cap} : Own h ⟨some (.new h'.blks.size 0), n, c⟩ := fun r hr => by
  cases hr
  exact ⟨_, _, rfl, g.size⟩

theorem condT {A : Type} {c : Bool} {a b : A} (e : c = true) : cond c a b = a := by subst e; rfl
theorem condF {A : Type} {c : Bool} {a b : A} (e : c = false) : cond c a b = b := by subst e; rfl

end Go.Ab
