/- What the arguments read as, in the abstract heap at the begin. -/
import Derived.Test.YtddnmijnpieokaaAbsO
import Derived.ProofKit
set_option linter.unusedVariables false
set_option linter.unusedSimpArgs false
namespace Go.Ab
open Go.WideShapes

variable {P : Program}

/-- Cells of type t, in plain sight; n: how deep. -/
def ArgC (P : Program) (h : AH) : Nat → TypeId → List AV → Prop
  | 0, _, _ => False
  | n + 1, t, cs => match P.underlying t with
    | some (.int k) => ∃ x, cs = [.int k x] ∧ (Lit.int k x).wf = true
    | some .bool => ∃ b, cs = [.bool b]
    | some .string => ∃ s, cs = [.str s] ∧ s.size ≤ maxLen
    | some (.pointer e) => cs = [.ptr none] ∨ ∃ a es, cs = [.ptr (some (.old a))] ∧ h.gets (.old a) (P.cellsOf e) = some es ∧ ArgC P h n e es
    | some (.slice e) => cs = [.slice none 0 (.is 0)] ∨ ∃ a len cap, cs = [.slice (some (.old a)) len (.is cap)] ∧ len ≤ cap ∧ cap ≤ maxLen ∧
        ∀ i, i < len → ∃ es, h.gets (.old (a.add (i * P.cellsOf e))) (P.cellsOf e) = some es ∧ ArgC P h n e es
    | some (.struct fs) => cs.length = P.cellsOf t ∧ ∀ f ∈ fs.toList, ArgC P h n f.type ((cs.drop f.offset).take (P.cellsOf f.type))
    | some (.array m e) => cs.length = P.cellsOf t ∧ ∀ i, i < m → ArgC P h n e ((cs.drop (i * P.cellsOf e)).take (P.cellsOf e))
    | _ => True

def ArgT (P : Program) (h : AH) (t : TypeId) (cs : List AV) : Prop := ∃ n, ArgC P h n t cs

/-- A type whose cells this text can read. -/
def argCell : TypeDesc → Bool
  | .int _ | .bool | .string | .pointer _ | .slice _ | .struct _ | .array _ _ => true
  | _ => false

/-- The fields lie side by side. -/
def tiles (P : Program) (total : Nat) : List Field → Nat → Bool
  | [], n => Nat.beq n total
  | f :: fs, n => Nat.beq f.offset n && tiles P total fs (n + P.cellsOf f.type)

/-- Types that this text can read, all the way down. -/
def argTy (P : Program) : Nat → TypeId → Bool
  | 0, _ => false
  | d + 1, t => match P.underlying t with
    | some (.int _) | some .bool | some .string => true
    | some (.pointer e) => argTy P d e
    | some (.slice e) => argTy P d e
    | some (.struct fs) => fs.toList.all (fun f => argTy P d f.type) && tiles P (P.cellsOf t) fs.toList 0
    | some (.array m e) => argTy P d e && Nat.beq (P.cellsOf t) (m * P.cellsOf e)
    | _ => false

theorem ofCells_get {us : List Value} (h : ∀ u ∈ us, ∃ v, AV.ofCell u = some v) : ∃ vs, AV.ofCells us = some vs ∧ vs.length = us.length := by
  induction us with
  | nil => exact ⟨[], rfl, rfl⟩
  | cons u us ih =>
    obtain ⟨v, hv⟩ := h u (by simp)
    obtain ⟨vs, h1, h2⟩ := ih fun x hx => h x (by simp [hx])
    exact ⟨v :: vs, by simp [AV.ofCells, hv, h1], by simp [h2]⟩

theorem ofCells_getElem : ∀ {us : List Value} {vs : List AV}, AV.ofCells us = some vs → vs.length = us.length ∧ ∀ (i : Nat) (u : Value), us[i]? = some u → ∃ v, vs[i]? = some v ∧ AV.ofCell u = some v
  | [], vs, h => by simp [AV.ofCells] at h; subst h; simp
  | u :: us, vs, h => by
    simp only [AV.ofCells] at h
    split at h
    · rename_i x xs hx hxs
      cases h
      obtain ⟨h1, h2⟩ := ofCells_getElem hxs
      refine ⟨by simp [h1], fun i w hw => ?_⟩
      cases i with
      | zero => simp at hw; subst hw; exact ⟨x, by simp, hx⟩
      | succ i => simpa using h2 i w (by simpa using hw)
    · cases h

theorem ofCells_take : ∀ {us : List Value} {vs : List AV} (n : Nat), AV.ofCells us = some vs → AV.ofCells (us.take n) = some (vs.take n)
  | _, _, 0, h => by simp [AV.ofCells]
  | [], vs, n + 1, h => by simp [AV.ofCells] at h; subst h; simp [AV.ofCells]
  | u :: us, vs, n + 1, h => by
    simp only [AV.ofCells] at h
    split at h
    · rename_i x xs hx hxs
      cases h
      simp [AV.ofCells, hx, ofCells_take n hxs]
    · cases h

theorem ofCells_drop : ∀ {us : List Value} {vs : List AV} (n : Nat), AV.ofCells us = some vs → AV.ofCells (us.drop n) = some (vs.drop n)
  | _, _, 0, h => by simpa using h
  | [], vs, n + 1, h => by simp [AV.ofCells] at h; subst h; simp [AV.ofCells]
  | u :: us, vs, n + 1, h => by
    simp only [AV.ofCells] at h
    split at h
    · rename_i x xs hx hxs
      cases h
      simpa using ofCells_drop n hxs
    · cases h

theorem cell_old {w : World} {a : Addr} {u : Value} (h : w.cell? a = some u) : AH.cell ⟨w.heap, #[]⟩ (.old a) = AV.ofCell u := by
  simp only [World.cell?] at h
  simp only [AH.cell]
  split at h
  · rename_i c e k hb
    rw [hb]
    dsimp only
    split at h
    · cases h
    · rename_i hs
      rw [if_neg hs, h]
      rfl
  · cases h

theorem gets_old {w : World} : ∀ (n : Nat) {r : Ref} {us : List Value} {vs : List AV}, us.length = n → (∀ (i : Nat) (u : Value), us[i]? = some u → AH.cell ⟨w.heap, #[]⟩ (r.add i) = AV.ofCell u) → AV.ofCells us = some vs → AH.gets ⟨w.heap, #[]⟩ r n = some vs
  | 0, r, us, vs, hl, hc, hv => by
    have : us = [] := List.length_eq_zero_iff.1 hl
    subst this
    simp [AV.ofCells] at hv
    subst hv
    rfl
  | n + 1, r, u :: us, vs, hl, hc, hv => by
    simp only [AV.ofCells] at hv
    split at hv
    · rename_i x xs hx hxs
      cases hv
      have h0 := hc 0 u (by simp)
      have e0 : r.add 0 = r := by cases r <;> simp [Ref.add, Addr.add]
      rw [e0] at h0
      have e1 : ∀ i, (r.add 1).add i = r.add (i + 1) := by
        intro i
        cases r with
        | old a =>
          simp only [Ref.add, Addr.add]
          by_cases hi : i = 0
          · subst hi; simp
          · simp [hi, Nat.add_assoc, Nat.add_comm 1 i]
        | new j o => simp only [Ref.add]; congr 1; omega
      have := gets_old n (r := r.add 1) (us := us) (by simpa using hl) (fun i u' hu => by
        rw [e1]
        exact hc (i + 1) u' (by simpa using hu)) hxs
      simp only [AH.gets, h0, hx, Option.bind_some, this, Option.map_some]
    · cases hv

theorem cells?_get {w : World} {base n : Nat} {a : Addr} {cs : List Value} (h : w.cells? base a n = some cs) : cs.length = n ∧ ∀ (i : Nat) (u : Value), cs[i]? = some u → w.cell? (a.add i) = some u := by
  unfold World.cells? at h
  split at h
  · have hl := mapM_some_length h
    simp at hl
    refine ⟨hl, fun i u hu => ?_⟩
    have hi : i < n := by
      rcases Nat.lt_or_ge i n with h' | h'
      · exact h'
      · rw [List.getElem?_eq_none (by omega)] at hu; cases hu
    have := mapM_some_get h i i (by simp [hi])
    rw [this, hu]
  · cases h

theorem gets_cells? {w : World} {base n : Nat} {a : Addr} {cs : List Value} {vs : List AV} (h : w.cells? base a n = some cs) (hv : AV.ofCells cs = some vs) : AH.gets ⟨w.heap, #[]⟩ (.old a) n = some vs := by
  obtain ⟨h1, h2⟩ := cells?_get h
  exact gets_old n h1 (fun i u hu => cell_old (h2 i u hu)) hv

theorem ofCells_append {us xs : List Value} {vs ys : List AV} (h : AV.ofCells us = some vs) (k : AV.ofCells xs = some ys) : AV.ofCells (us ++ xs) = some (vs ++ ys) := by
  induction us generalizing vs with
  | nil => simp [AV.ofCells] at h; subst h; simpa using k
  | cons u us ih =>
    simp only [AV.ofCells] at h
    split at h
    · rename_i a as ha has
      cases h
      simp [AV.ofCells, ha, ih has]
    · cases h

theorem ofCells_tiles {P : Program} {cs : List Value} {total : Nat} (hl : cs.length = total) : ∀ (fs : List Field) (n : Nat), tiles P total fs n = true → (∀ f ∈ fs, ∃ vs, AV.ofCells ((cs.drop f.offset).take (P.cellsOf f.type)) = some vs) → ∃ vs, AV.ofCells (cs.drop n) = some vs
  | [], n, ht, h => by
    simp only [tiles] at ht
    have := Nat.eq_of_beq_eq_true ht
    exact ⟨[], by rw [List.drop_of_length_le (by omega)]; rfl⟩
  | f :: fs, n, ht, h => by
    simp only [tiles, Bool.and_eq_true] at ht
    have h1 := Nat.eq_of_beq_eq_true ht.1
    obtain ⟨vs, hv⟩ := h f (by simp)
    obtain ⟨ws, hw⟩ := ofCells_tiles hl fs _ ht.2 fun g hg => h g (by simp [hg])
    refine ⟨vs ++ ws, ?_⟩
    rw [h1] at hv
    rw [← List.take_append_drop (P.cellsOf f.type) (cs.drop n), List.drop_drop]
    exact ofCells_append hv hw

theorem ofCells_rows {cs : List Value} {c : Nat} : ∀ (m n : Nat), cs.length = (n + m) * c → (∀ i, n ≤ i → i < n + m → ∃ vs, AV.ofCells ((cs.drop (i * c)).take c) = some vs) → ∃ vs, AV.ofCells (cs.drop (n * c)) = some vs
  | 0, n, hl, h => ⟨[], by rw [List.drop_of_length_le (by simp at hl; omega)]; rfl⟩
  | m + 1, n, hl, h => by
    obtain ⟨vs, hv⟩ := h n (Nat.le_refl _) (by omega)
    obtain ⟨ws, hw⟩ := ofCells_rows m (n + 1) (by rw [hl]; congr 1; omega) fun i h1 h2 => h i (by omega) (by omega)
    refine ⟨vs ++ ws, ?_⟩
    rw [← List.take_append_drop c (cs.drop (n * c)), List.drop_drop]
    rw [Nat.succ_mul] at hw
    exact ofCells_append hv hw

theorem argC_of_trod {H : Type} {enc : TypeId × Value → H} {w : World} {base : Nat} {spare : Nat → Bool} {held : Bool} : ∀ (n d : Nat) {t : TypeId} {cs : List Value} {x : DataW H × List MemPlace},
    argTy P d t = true → DataW.trod enc P w base spare held n t cs = some x → ∃ vs, AV.ofCells cs = some vs ∧ ArgC P ⟨w.heap, #[]⟩ n t vs
  | 0, d, t, cs, x, ha, h => by simp [DataW.trod] at h
  | n + 1, 0, t, cs, x, ha, h => by simp [argTy] at ha
  | n + 1, d + 1, t, cs, x, ha, h => by
    simp only [argTy] at ha
    simp only [ArgC]
    split at ha
    · rename_i k hu
      have : ∃ z, cs = [.int k z] ∧ (Lit.int k z).wf = true := by
        unfold DataW.trod at h
        rw [hu] at h
        split at h <;> simp_all
      obtain ⟨z, rfl, hz⟩ := this
      exact ⟨[.int k z], rfl, z, rfl, hz⟩
    · rename_i hu
      have : ∃ z, cs = [.bool z] := by
        unfold DataW.trod at h
        rw [hu] at h
        split at h <;> simp_all
      obtain ⟨z, rfl⟩ := this
      exact ⟨[.bool z], rfl, z, rfl⟩
    · rename_i hu
      have : ∃ z, cs = [.string z] ∧ z.size ≤ maxLen := by
        unfold DataW.trod at h
        rw [hu] at h
        split at h <;> simp_all
      obtain ⟨z, rfl, hz⟩ := this
      exact ⟨[.str z], rfl, z, rfl, hz⟩
    · rename_i e hu
      rcases DataW.trod_pointer hu h with ⟨rfl, -⟩ | ⟨a, cs', y, m, hm, rfl, -, hc, hy⟩
      · exact ⟨[.ptr none], rfl, .inl rfl⟩
      · cases hm
        obtain ⟨es, h1, h2⟩ := argC_of_trod n d ha hy
        exact ⟨[.ptr (some (.old a))], rfl, .inr ⟨a, es, rfl, gets_cells? hc h1, h2⟩⟩
    · rename_i e hu
      rcases DataW.trod_slice hu h with ⟨rfl, -⟩ | ⟨a, len, cap, elems, rest, m, hm, rfl, -, -, hl, hc, hel, hi, -, -⟩
      · exact ⟨[.slice none 0 (.is 0)], rfl, .inl rfl⟩
      · cases hm
        refine ⟨[.slice (some (.old a)) len (.is cap)], by simp [AV.ofCells, AV.ofCell, Nat.ble_eq_true_of_le hl], .inr ⟨a, len, cap, rfl, hl, hc, fun i hlt => ?_⟩⟩
        have h1 := hi i hlt
        have : ∃ y, elems[i]? = some y := ⟨elems[i]'(by omega), by simp⟩
        obtain ⟨y, hy⟩ := this
        rw [hy, Option.bind_eq_some_iff] at h1
        obtain ⟨cs', h2, h3⟩ := h1
        obtain ⟨es, h4, h5⟩ := argC_of_trod n d ha h3
        exact ⟨es, gets_cells? h2 h4, h5⟩
    · rename_i fs hu
      simp only [Bool.and_eq_true, List.all_eq_true] at ha
      obtain ⟨xs, m, hm, -, hl, hx, hf⟩ := DataW.trod_struct hu h
      cases hm
      have key : ∀ f ∈ fs.toList, ∃ vs, AV.ofCells ((cs.drop f.offset).take (P.cellsOf f.type)) = some vs ∧ ArgC P ⟨w.heap, #[]⟩ n f.type vs := by
        intro f hf'
        obtain ⟨i, hi, rfl⟩ := List.getElem_of_mem hf'
        have h1 := hf i fs.toList[i] (by simp)
        have : ∃ y, xs[i]? = some y := ⟨xs[i]'(by simp at hi; omega), by simp⟩
        obtain ⟨y, hy⟩ := this
        rw [hy] at h1
        exact argC_of_trod n d (ha.1 _ hf') h1
      obtain ⟨vs, hv⟩ := ofCells_tiles (P := P) hl fs.toList 0 ha.2 fun f hf' => (key f hf').imp fun _ h => h.1
      rw [List.drop_zero] at hv
      refine ⟨vs, hv, by rw [(ofCells_getElem hv).1, hl], fun f hf' => ?_⟩
      obtain ⟨ws, h1, h2⟩ := key f hf'
      have := ofCells_take (P.cellsOf f.type) (ofCells_drop f.offset hv)
      rw [h1] at this
      cases this
      exact h2
    · rename_i m e hu
      simp only [Bool.and_eq_true] at ha
      have hce := Nat.eq_of_beq_eq_true ha.2
      unfold DataW.trod at h
      rw [hu] at h
      have h : (if cs.length = P.cellsOf t then ((List.range m).mapM fun i => DataW.trod enc P w base spare held n e ((cs.drop (i * P.cellsOf e)).take (P.cellsOf e))).map fun xs => ((.agg (xs.map (·.1)), xs.flatMap (·.2)) : DataW H × List MemPlace) else none) = some x := by
        split at h <;> simp_all
      split at h
      · rename_i hl
        simp only [Option.map_eq_some_iff] at h
        obtain ⟨xs, h1, -⟩ := h
        have hxl := mapM_some_length h1
        simp at hxl
        have key : ∀ i, i < m → ∃ vs, AV.ofCells ((cs.drop (i * P.cellsOf e)).take (P.cellsOf e)) = some vs ∧ ArgC P ⟨w.heap, #[]⟩ n e vs := by
          intro i hi
          have h2 := mapM_some_get h1 i i (by simp [hi])
          have : ∃ y, xs[i]? = some y := ⟨xs[i]'(by omega), by simp⟩
          obtain ⟨y, hy⟩ := this
          rw [hy] at h2
          exact argC_of_trod n d ha.1 h2
        obtain ⟨vs, hv⟩ := ofCells_rows (c := P.cellsOf e) m 0 (by rw [hl, hce, Nat.zero_add]) fun i _ hi => (key i (by omega)).imp fun _ h => h.1
        rw [Nat.zero_mul, List.drop_zero] at hv
        refine ⟨vs, hv, by rw [(ofCells_getElem hv).1, hl], fun i hi => ?_⟩
        obtain ⟨ws, h2, h3⟩ := key i hi
        have := ofCells_take (P.cellsOf e) (ofCells_drop (i * P.cellsOf e) hv)
        rw [h2] at this
        cases this
        exact h3
      · cases h
    · cases ha

/-- An argument, in plain sight. -/
def ArgV (P : Program) (h : AH) (t : TypeId) (x : AV) : Prop :=
  match P.underlying t with
  | some (.struct _) | some (.array _ _) => ∃ cs, x = .agg cs ∧ ArgT P h t cs
  | _ => ArgT P h t [x]

theorem arg_open {H : Type} {enc : TypeId × Value → H} {W : World} {base base' : Nat} {spare : Nat → Bool} {held : Bool} {t : TypeId} {v : Value} {d : DataW H} {ps : List MemPlace} {rch : Reach} (d' : Nat) (ha : argTy P (d' + 1) t = true)
    (hv : Value.okWide P W rch base t v) (h : DataW.Trod enc P W base' spare held t v d ps) : ∃ x, VRel (fun _ => none) x v ∧ ArgV P ⟨W.heap, #[]⟩ t x := by
  obtain ⟨n, hn⟩ := h
  obtain ⟨vs, h1, h2⟩ := argC_of_trod n (d' + 1) ha hn
  have agg : ∀ cs : Array Value, v = .agg cs → ∃ x, VRel (fun _ => none) x v ∧ ∃ cs', x = .agg cs' ∧ ArgT P ⟨W.heap, #[]⟩ t cs' := by
    rintro cs rfl
    obtain ⟨h3, h4⟩ := VRels.ofCells (μ := fun _ => none) h1
    exact ⟨.agg vs, by simp only [VRel]; exact ⟨cs, rfl, h3, h4⟩, vs, rfl, n, h2⟩
  have cell : ∀ u, v.cells.toList = [u] → v = u → ∃ x, VRel (fun _ => none) x v ∧ ArgT P ⟨W.heap, #[]⟩ t [x] := by
    rintro u hc rfl
    rw [hc] at h1
    simp only [AV.ofCells] at h1
    split at h1
    · rename_i x xs hx hxs
      cases h1
      cases hxs
      exact ⟨x, (VRel.ofCell hx).1, n, h2⟩
    · cases h1
  have cell' : (∀ cs, v ≠ .agg cs) → ∃ x, VRel (fun _ => none) x v ∧ ArgT P ⟨W.heap, #[]⟩ t [x] := by
    intro hne
    refine cell v ?_ rfl
    cases v <;> first | rfl | exact absurd rfl (hne _)
  simp only [argTy] at ha
  unfold ArgV
  split at ha
  · rename_i k hu
    simp only [hu]
    obtain ⟨z, rfl, -⟩ := okWide_int hu hv
    exact cell' fun cs hcs => by cases hcs
  · rename_i hu
    simp only [hu]
    obtain ⟨z, rfl⟩ := okWide_bool hu hv
    exact cell' fun cs hcs => by cases hcs
  · rename_i hu
    simp only [hu]
    obtain ⟨z, rfl⟩ := okWide_string hu hv
    exact cell' fun cs hcs => by cases hcs
  · rename_i e hu
    simp only [hu]
    obtain ⟨z, rfl⟩ := okWide_pointer hu hv
    exact cell' fun cs hcs => by cases hcs
  · rename_i e hu
    simp only [hu]
    obtain ⟨z, l, c, rfl⟩ := okWide_slice hu hv
    exact cell' fun cs hcs => by cases hcs
  · rename_i fs hu
    simp only [hu]
    obtain ⟨cs, hcs, -⟩ := okWide_struct hu hv
    exact agg cs hcs
  · rename_i m e hu
    simp only [hu]
    unfold Value.okWide at hv
    rw [hu] at hv
    obtain ⟨cs, hcs, -⟩ := hv
    exact agg cs hcs
  · cases ha

theorem ArgT.int {h : AH} {t : TypeId} {k : IntKind} {cs : List AV} (hu : P.underlying t = some (.int k)) (a : ArgT P h t cs) : ∃ x, cs = [.int k x] ∧ (Lit.int k x).wf = true := by
  obtain ⟨n, a⟩ := a
  cases n with
  | zero => simp [ArgC] at a
  | succ n => simpa [ArgC, hu] using a

theorem ArgT.bool {h : AH} {t : TypeId} {cs : List AV} (hu : P.underlying t = some .bool) (a : ArgT P h t cs) : ∃ x, cs = [.bool x] := by
  obtain ⟨n, a⟩ := a
  cases n with
  | zero => simp [ArgC] at a
  | succ n => simpa [ArgC, hu] using a

theorem ArgT.str {h : AH} {t : TypeId} {cs : List AV} (hu : P.underlying t = some .string) (a : ArgT P h t cs) : ∃ x, cs = [.str x] ∧ x.size ≤ maxLen := by
  obtain ⟨n, a⟩ := a
  cases n with
  | zero => simp [ArgC] at a
  | succ n => simpa [ArgC, hu] using a

theorem ArgT.ptr {h : AH} {t e : TypeId} {cs : List AV} (hu : P.underlying t = some (.pointer e)) (a : ArgT P h t cs) : cs = [.ptr none] ∨ ∃ a es, cs = [.ptr (some (.old a))] ∧ h.gets (.old a) (P.cellsOf e) = some es ∧ ArgT P h e es := by
  obtain ⟨n, a⟩ := a
  cases n with
  | zero => simp [ArgC] at a
  | succ n =>
    simp only [ArgC, hu] at a
    rcases a with a | ⟨a, es, h1, h2, h3⟩
    · exact .inl a
    · exact .inr ⟨a, es, h1, h2, n, h3⟩

theorem ArgT.slice {h : AH} {t e : TypeId} {cs : List AV} (hu : P.underlying t = some (.slice e)) (a : ArgT P h t cs) : cs = [.slice none 0 (.is 0)] ∨ ∃ a len cap, cs = [.slice (some (.old a)) len (.is cap)] ∧ len ≤ cap ∧ cap ≤ maxLen ∧
        ∀ i, i < len → ∃ es, h.gets (.old (a.add (i * P.cellsOf e))) (P.cellsOf e) = some es ∧ ArgT P h e es := by
  obtain ⟨n, a⟩ := a
  cases n with
  | zero => simp [ArgC] at a
  | succ n =>
    simp only [ArgC, hu] at a
    rcases a with a | ⟨a, len, cap, h1, h2, h3, h4⟩
    · exact .inl a
    · exact .inr ⟨a, len, cap, h1, h2, h3, fun i hi => (h4 i hi).imp fun es h => ⟨h.1, n, h.2⟩⟩

theorem ArgT.struct {h : AH} {t : TypeId} {fs : Array Field} {cs : List AV} (hu : P.underlying t = some (.struct fs)) (a : ArgT P h t cs) : cs.length = P.cellsOf t ∧ ∀ f ∈ fs.toList, ArgT P h f.type ((cs.drop f.offset).take (P.cellsOf f.type)) := by
  obtain ⟨n, a⟩ := a
  cases n with
  | zero => simp [ArgC] at a
  | succ n =>
    simp only [ArgC, hu] at a
    exact ⟨a.1, fun f hf => ⟨n, a.2 f hf⟩⟩

theorem ArgT.array {h : AH} {t e : TypeId} {m : Nat} {cs : List AV} (hu : P.underlying t = some (.array m e)) (a : ArgT P h t cs) : cs.length = P.cellsOf t ∧ ∀ i, i < m → ArgT P h e ((cs.drop (i * P.cellsOf e)).take (P.cellsOf e)) := by
  obtain ⟨n, a⟩ := a
  cases n with
  | zero => simp [ArgC] at a
  | succ n =>
    simp only [ArgC, hu] at a
    exact ⟨a.1, fun i hi => ⟨n, a.2 i hi⟩⟩

end Go.Ab
