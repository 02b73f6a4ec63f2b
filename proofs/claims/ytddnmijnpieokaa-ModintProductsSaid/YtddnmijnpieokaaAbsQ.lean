/- The abstract heap: what is read of it as it grows. -/
import Derived.Test.YtddnmijnpieokaaAbsP
set_option linter.unusedVariables false
set_option linter.unusedSimpArgs false
namespace Go.Ab

/-- The heap with a new block. -/
def AH.push (h : AH) (b : ABlk) : AH := h.alloc b

@[simp] theorem newK_eq {R : Type} (h : AH) (b : ABlk) (k : Ref → AH → R) : newK h b k = k (.new h.blks.size 0) (h.push b) := rfl

@[simp] theorem avInt_int (k : IntKind) (n : Int) : AV.asInt k (.int k n) = some n := by simp [AV.asInt]
@[simp] theorem asBool_bool (b : Bool) : AV.asBool (.bool b) = some b := rfl
@[simp] theorem asStr_str (s : ByteArray) : AV.asStr (.str s) = some s := rfl
@[simp] theorem asPtr_ptr (r : Option Ref) : AV.asPtr (.ptr r) = some r := rfl
@[simp] theorem asMap_map (r : Option Nat) : AV.asMap (.map r) = some r := rfl
@[simp] theorem asSl_slice (r : Option Ref) (n : Nat) (c : Cap) : AV.asSl (.slice r n c) = some ⟨r, n, c⟩ := rfl
@[simp] theorem asSl_v (s : Sl) : AV.asSl s.v = some s := rfl
@[simp] theorem asAgg_agg (cs : List AV) : AV.asAgg (.agg cs) = some cs := rfl
@[simp] theorem asTup0_tup : AV.asTup0 (.tup []) = some () := rfl
@[simp] theorem asTup2_tup (a b : AV) : AV.asTup2 (.tup [a, b]) = some (a, b) := rfl
@[simp] theorem asTup3_tup (a b c : AV) : AV.asTup3 (.tup [a, b, c]) = some (a, b, c) := rfl
@[simp] theorem asTup4_tup (a b c d : AV) : AV.asTup4 (.tup [a, b, c, d]) = some (a, b, c, d) := rfl

attribute [simp] Ref.add_zero
@[simp] theorem Ref.add_new (i o n : Nat) : (Ref.new i o).add n = .new i (o + n) := rfl
@[simp] theorem AH.push_size (h : AH) (b : ABlk) : (h.push b).blks.size = h.blks.size + 1 := by simp [AH.push, AH.alloc]

/-- The block is one of the heap's. -/
def Ref.inn (h : AH) : Ref → Prop
  | .old _ => True
  | .new i _ => i < h.blks.size

/-- All that there was is as it was. -/
structure Grow (h h' : AH) : Prop where
  old : h'.old = h.old
  size : h.blks.size ≤ h'.blks.size
  blk : ∀ i, i < h.blks.size → h'.blks[i]? = h.blks[i]?

theorem Grow.refl (h : AH) : Grow h h := ⟨rfl, Nat.le_refl _, fun _ _ => rfl⟩
theorem Grow.trans {a b c : AH} (x : Grow a b) (y : Grow b c) : Grow a c :=
  ⟨y.old.trans x.old, Nat.le_trans x.size y.size, fun i hi => (y.blk i (Nat.lt_of_lt_of_le hi x.size)).trans (x.blk i hi)⟩
theorem Grow.push (h : AH) (b : ABlk) : Grow h (h.push b) :=
  ⟨rfl, by simp, fun i hi => by simp [AH.push, AH.alloc, Array.getElem?_push, Nat.ne_of_lt hi]⟩
theorem Grow.push' {h h' : AH} {b : ABlk} (g : Grow (h.push b) h') : Grow h h' := (Grow.push h b).trans g

theorem Grow.cell {h h' : AH} (g : Grow h h') {r : Ref} (hr : r.inn h) : h'.cell r = h.cell r := by
  cases r with
  | old a => simp only [AH.cell, g.old]
  | new i o => simp only [AH.cell, g.blk i hr]

theorem AH.cell_inn {h : AH} {r : Ref} {v : AV} (hc : h.cell r = some v) : r.inn h := by
  cases r with
  | old a => trivial
  | new i o =>
    simp only [AH.cell] at hc
    rcases Nat.lt_or_ge i h.blks.size with hlt | hge
    · exact hlt
    · rw [Array.getElem?_eq_none hge] at hc
      cases hc

theorem Grow.cell_some {h h' : AH} (g : Grow h h') {r : Ref} {v : AV} (hc : h.cell r = some v) : h'.cell r = some v := by
  rw [g.cell (AH.cell_inn hc), hc]

/-- What lies in the block that was made last. -/
@[simp] theorem AH.cell_push (h : AH) (cs : List AV) (e : TypeId) (o : Nat) : (h.push (.cells cs e)).cell (.new h.blks.size o) = cs[o]? := by
  simp [AH.cell, AH.push, AH.alloc]

theorem Grow.cell_new {h h' : AH} {cs : List AV} {e : TypeId} (g : Grow (h.push (.cells cs e)) h') (o : Nat) : h'.cell (.new h.blks.size o) = cs[o]? := by
  rw [g.cell (by simp [Ref.inn]), AH.cell_push]

theorem AH.put_push (h : AH) (cs : List AV) (e : TypeId) (o : Nat) (v : AV) (ho : o < cs.length) : (h.push (.cells cs e)).put (.new h.blks.size o) v = some (h.push (.cells (cs.set o v) e)) := by
  simp only [AH.put, AH.push, AH.alloc, Array.getElem?_push_size, if_pos ho, Option.some.injEq, AH.mk.injEq, true_and]
  apply Array.ext
  · simp
  · intro i h1 h2
    have h3 : i < h.blks.size + 1 := by simpa using h2
    rw [Array.getElem_setIfInBounds (by simpa using h3)]
    by_cases e : h.blks.size = i
    · subst e; simp
    · rw [if_neg e, Array.getElem_push_lt (by omega), Array.getElem_push_lt (by omega)]

theorem AH.puts_push_gen (h : AH) (e : TypeId) : ∀ (vs : List AV) (o : Nat) (cs : List AV), o + vs.length ≤ cs.length → (h.push (.cells cs e)).puts (.new h.blks.size o) vs = some (h.push (.cells (cs.take o ++ vs ++ cs.drop (o + vs.length)) e))
  | [], o, cs, _ => by simp [AH.puts]
  | v :: vs, o, cs, ho => by
    simp only [List.length_cons] at ho
    simp only [AH.puts]
    rw [AH.put_push _ _ _ _ _ (by omega), Option.bind_some, Ref.add_new, AH.puts_push_gen h e vs (o + 1) _ (by simp; omega)]
    have e1 : (cs.set o v).take (o + 1) = cs.take o ++ [v] := by
      apply List.ext_getElem?
      intro i
      rw [List.getElem?_take]
      by_cases hi : i < o
      · rw [if_pos (by omega), List.getElem?_set_ne (by omega), List.getElem?_append_left (by simp; omega), List.getElem?_take, if_pos hi]
      · by_cases hi2 : i = o
        · subst hi2
          rw [if_pos (by omega), List.getElem?_set_self (by omega), List.getElem?_append_right (by simp; omega)]
          simp [Nat.min_eq_left (show i ≤ cs.length by omega)]
        · rw [if_neg (by omega), List.getElem?_eq_none (by simp; omega)]
    have e2 : (cs.set o v).drop (o + 1 + vs.length) = cs.drop (o + (vs.length + 1)) := by
      rw [List.drop_set_of_lt (by omega)]
      congr 1
      omega
    rw [e1, e2]
    simp

theorem AH.puts_push (h : AH) (e : TypeId) (cs vs : List AV) (hl : vs.length = cs.length) : (h.push (.cells cs e)).puts (.new h.blks.size 0) vs = some (h.push (.cells vs e)) := by
  rw [AH.puts_push_gen h e vs 0 cs (by omega)]
  simp [hl]

@[simp] theorem idx_some (r : Ref) (len : Nat) (i : Int) (size : Nat) (h0 : 0 ≤ i) (h1 : i < (len : Int)) : idx (some r) len i size = some (r.add (i.toNat * size)) := by
  simp [idx, h0, h1]

theorem bool_ans {b : Bool} {p : Prop} [Decidable p] {h : AH} (e : b = true ↔ p) : (some (AV.bool b, h) : Option (AV × AH)) = some (AV.bool (decide p), h) := by
  have : b = decide p := by cases b <;> simp_all
  rw [this]

theorem ans_eq {b b' : Bool} {h : AH} (e : b = true ↔ b' = true) : (some (AV.bool b, h) : Option (AV × AH)) = some (AV.bool b', h) := by
  have : b = b' := by cases b <;> cases b' <;> simp_all
  rw [this]

theorem ite_elim {A : Type} {p : Prop} [Decidable p] {x y z : A} (h1 : p → x = z) (h2 : ¬ p → y = z) : (if p then x else y) = z := by
  split
  · rename_i h; exact h1 h
  · rename_i h; exact h2 h

theorem cond_elim {A : Type} {b : Bool} {x y z : A} (h1 : b = true → x = z) (h2 : b = false → y = z) : cond b x y = z := by
  cases b
  · exact h2 rfl
  · exact h1 rfl

theorem cond_elim_ex {A C : Type} {b : Bool} {x y : A} {z : C → A} (h1 : b = true → ∃ c, x = z c) (h2 : b = false → ∃ c, y = z c) : ∃ c, cond b x y = z c := by
  cases b
  · exact h2 rfl
  · exact h1 rfl

theorem wrap64 {n : Int} (h1 : -9223372036854775808 ≤ n) (h2 : n ≤ 9223372036854775807) : IntKind.wrap .i64 n = n := by
  simp [IntKind.wrap, IntKind.bits, IntKind.signed]
  omega

theorem wrapU (n : Int) : IntKind.wrap .u64 n = n % 18446744073709551616 := by
  simp [IntKind.wrap, IntKind.bits, IntKind.signed]

theorem imin_eq (a b : Int) : imin a b = min a b := by
  unfold imin
  by_cases h : b < a <;> simp [h] <;> omega

theorem imax_eq (a b : Int) : imax a b = max a b := by
  unfold imax
  by_cases h : a < b <;> simp [h] <;> omega

end Go.Ab
