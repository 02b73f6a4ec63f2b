/- squeezed -/
import Derived.Test.YtkcloajajkchiaaDoorPAbsDra
import Derived.ProofKit

set_option linter.unusedVariables false
set_option linter.unusedSimpArgs false
namespace Go.Ab
open Go.WideShapes
variable {P : Program}
def ArgC (P : Program) (h : AH) : Nat → TypeId → List AV → Prop
 | 0, _, _ => False
 | n + 1, t, cs => match P.underlying t with
  | some (.int k) => ∃ x, cs = [.int k x] ∧ (Lit.int k x).wf = true
  | some .bool => ∃ b, cs = [.bool b]
  | some .string => ∃ s, cs = [.str s] ∧ s.size ≤ maxLen
  | some (.pointer e) => cs = [.ptr none] ∨ ∃ a es, cs = [.ptr (some (.old a))] ∧ h.gets (.old a) (P.cellsOf e) = some es ∧ ArgC P h n e es
  | some (.slice e) => cs = [.slice none 0 (.is 0)] ∨ ∃ a len cap, cs = [.slice (some (.old a)) len (.is cap)] ∧ len ≤ cap ∧ cap ≤ maxLen ∧
    ∀ i, i < len → ∃ es, h.gets (.old (a.add (i * P.cellsOf e))) (P.cellsOf e) = some es ∧ ArgC P h n e es
  | some (.struct fs) => cs.length = P.cellsOf t ∧ ∀ f ∈ fs.toList, ArgC P h n f.type ((cs.drop f.offset).take (P.cellsOf f.type))
  | some (.array m e) => cs.length = P.cellsOf t ∧ ∀ i, i < m → ArgC P h n e ((cs.drop (i * P.cellsOf e)).take (P.cellsOf e))
  | _ => True
def ArgT (P : Program) (h : AH) (t : TypeId) (cs : List AV) : Prop := ∃ n, ArgC P h n t cs
def tiles (P : Program) (total : Nat) : List Field → Nat → Bool
 | [], n => Nat.beq n total
 | f :: fs, n => Nat.beq f.offset n && tiles P total fs (n + P.cellsOf f.type)
def argTy (P : Program) : Nat → TypeId → Bool
 | 0, _ => false
 | d + 1, t => match P.underlying t with
  | some (.int _) | some .bool | some .string => true
  | some (.pointer e) => argTy P d e
  | some (.slice e) => argTy P d e
  | some (.struct fs) => fs.toList.all (fun f => argTy P d f.type) && tiles P (P.cellsOf t) fs.toList 0
  | some (.array m e) => argTy P d e && Nat.beq (P.cellsOf t) (m * P.cellsOf e)
  | _ => false
theorem kg0 : ∀ {us : List Value} {vs : List AV}, AV.ofCells us = some vs → vs.length = us.length ∧ ∀ (i : Nat) (u : Value), us[i]? = some u → ∃ v, vs[i]? = some v ∧ AV.ofCell u = some v
 | [], vs, h => by simp [AV.ofCells] at h; subst h; simp
 | u :: us, vs, h => by
  simp only [AV.ofCells] at h
  split at h
  ·rename_i x xs hx hxs
   cases h
   obtain ⟨h1, h2⟩ := kg0 hxs
   refine ⟨by simp [h1], fun i w hw => ?_⟩
   cases i with
   | zero => simp at hw; subst hw; exact ⟨x, by simp, hx⟩
   | succ i => simpa using h2 i w (by simpa using hw)
  ·cases h
theorem kgg : ∀ {us : List Value} {vs : List AV} (n : Nat), AV.ofCells us = some vs → AV.ofCells (us.take n) = some (vs.take n)
 | _, _, 0, h => by simp [AV.ofCells]
 | [], vs, n + 1, h => by simp [AV.ofCells] at h; subst h; simp [AV.ofCells]
 | u :: us, vs, n + 1, h => by
  simp only [AV.ofCells] at h
  split at h
  ·rename_i x xs hx hxs
   cases h
   simp [AV.ofCells, hx, kgg n hxs]
  ·cases h
theorem kga : ∀ {us : List Value} {vs : List AV} (n : Nat), AV.ofCells us = some vs → AV.ofCells (us.drop n) = some (vs.drop n)
 | _, _, 0, h => by simpa using h
 | [], vs, n + 1, h => by simp [AV.ofCells] at h; subst h; simp [AV.ofCells]
 | u :: us, vs, n + 1, h => by
  simp only [AV.ofCells] at h
  split at h
  ·rename_i x xs hx hxs
   cases h
   simpa using kga n hxs
  ·cases h
theorem cell_old {w : World} {a : Addr} {u : Value} (h : w.cell? a = some u) : AH.cell ⟨w.heap, #[]⟩ (.old a) = AV.ofCell u := by
 simp only [World.cell?] at h
 simp only [AH.cell]
 split at h
 ·rename_i c e k hb
  rw [hb]
  dsimp only
  split at h
  ·cases h
  ·rename_i hs
   rw [if_neg hs, h]
   rfl
 ·cases h
theorem kkm {w : World} : ∀ (n : Nat) {r : Ref} {us : List Value} {vs : List AV}, us.length = n → (∀ (i : Nat) (u : Value), us[i]? = some u → AH.cell ⟨w.heap, #[]⟩ (r.add i) = AV.ofCell u) → AV.ofCells us = some vs → AH.gets ⟨w.heap, #[]⟩ r n = some vs
 | 0, r, us, vs, hl, hc, hv => by
  have : us = [] := List.length_eq_zero_iff.1 hl
  subst this
  simp [AV.ofCells] at hv
  subst hv
  rfl
 | n + 1, r, u :: us, vs, hl, hc, hv => by
  simp only [AV.ofCells] at hv
  split at hv
  ·rename_i x xs hx hxs
   cases hv
   have h0 := hc 0 u (by simp)
   have e0 : r.add 0 = r := by cases r <;> simp [Ref.add, Addr.add]
   rw [e0] at h0
   have e1 : ∀ i, (r.add 1).add i = r.add (i + 1) := by
    intro i
    cases r with
    | old a =>
     simp only [Ref.add, Addr.add]
     by_cases hi : i = 0
     ·subst hi; simp
     ·simp [hi, Nat.add_assoc, Nat.add_comm 1 i]
    | new j o => simp only [Ref.add]; congr 1; omega
   have := kkm n (r := r.add 1) (us := us) (by simpa using hl) (fun i u' hu => by
    rw [e1]
    exact hc (i + 1) u' (by simpa using hu)) hxs
   simp only [AH.gets, h0, hx, Option.bind_some, this, Option.map_some]
  ·cases hv
theorem kro {w : World} {base n : Nat} {a : Addr} {cs : List Value} (h : w.cells? base a n = some cs) : cs.length = n ∧ ∀ (i : Nat) (u : Value), cs[i]? = some u → w.cell? (a.add i) = some u := by
 unfold World.cells? at h
 split at h
 ·have hl := mapM_some_length h
  simp at hl
  refine ⟨hl, fun i u hu => ?_⟩
  have hi : i < n := by
   rcases Nat.lt_or_ge i n with h' | h'
   ·exact h'
   ·rw [List.getElem?_eq_none (by omega)] at hu; cases hu
  have := mapM_some_get h i i (by simp [hi])
  rw [this, hu]
 ·cases h
theorem kki {w : World} {base n : Nat} {a : Addr} {cs : List Value} {vs : List AV} (h : w.cells? base a n = some cs) (hv : AV.ofCells cs = some vs) : AH.gets ⟨w.heap, #[]⟩ (.old a) n = some vs := by
 obtain ⟨h1, h2⟩ := kro h
 exact kkm n h1 (fun i u hu => cell_old (h2 i u hu)) hv
theorem kid {us xs : List Value} {vs ys : List AV} (h : AV.ofCells us = some vs) (k : AV.ofCells xs = some ys) : AV.ofCells (us ++ xs) = some (vs ++ ys) := by
 induction us generalizing vs with
 | nil => simp [AV.ofCells] at h; subst h; simpa using k
 | cons u us ih =>
  simp only [AV.ofCells] at h
  split at h
  ·rename_i a as ha has
   cases h
   simp [AV.ofCells, ha, ih has]
  ·cases h
theorem kjs {P : Program} {cs : List Value} {total : Nat} (hl : cs.length = total) : ∀ (fs : List Field) (n : Nat), tiles P total fs n = true → (∀ f ∈ fs, ∃ vs, AV.ofCells ((cs.drop f.offset).take (P.cellsOf f.type)) = some vs) → ∃ vs, AV.ofCells (cs.drop n) = some vs
 | [], n, ht, h => by
  simp only [tiles] at ht
  have := Nat.eq_of_beq_eq_true ht
  exact ⟨[], by rw [List.drop_of_length_le (by omega)]; rfl⟩
 | f :: fs, n, ht, h => by
  simp only [tiles, Bool.and_eq_true] at ht
  have h1 := Nat.eq_of_beq_eq_true ht.1
  obtain ⟨vs, hv⟩ := h f (by simp)
  obtain ⟨ws, hw⟩ := kjs hl fs _ ht.2 fun g hg => h g (by simp [hg])
  refine ⟨vs ++ ws, ?_⟩
  rw [h1] at hv
  rw [← List.take_append_drop (P.cellsOf f.type) (cs.drop n), List.drop_drop]
  exact kid hv hw
theorem kke {cs : List Value} {c : Nat} : ∀ (m n : Nat), cs.length = (n + m) * c → (∀ i, n ≤ i → i < n + m → ∃ vs, AV.ofCells ((cs.drop (i * c)).take c) = some vs) → ∃ vs, AV.ofCells (cs.drop (n * c)) = some vs
 | 0, n, hl, h => ⟨[], by rw [List.drop_of_length_le (by simp at hl; omega)]; rfl⟩
 | m + 1, n, hl, h => by
  obtain ⟨vs, hv⟩ := h n (Nat.le_refl _) (by omega)
  obtain ⟨ws, hw⟩ := kke m (n + 1) (by rw [hl]; congr 1; omega) fun i h1 h2 => h i (by omega) (by omega)
  refine ⟨vs ++ ws, ?_⟩
  rw [← List.take_append_drop c (cs.drop (n * c)), List.drop_drop]
  rw [Nat.succ_mul] at hw
  exact kid hv hw
theorem kdo {H : Type} {enc : TypeId × Value → H} {w : World} {base : Nat} {spare : Nat → Bool} {held : Bool} : ∀ (n d : Nat) {t : TypeId} {cs : List Value} {x : DataW H × List MemPlace},
  argTy P d t = true → DataW.trod enc P w base spare held n t cs = some x → ∃ vs, AV.ofCells cs = some vs ∧ ArgC P ⟨w.heap, #[]⟩ n t vs
 | 0, d, t, cs, x, ha, h => by simp [DataW.trod] at h
 | n + 1, 0, t, cs, x, ha, h => by simp [argTy] at ha
 | n + 1, d + 1, t, cs, x, ha, h => by
  simp only [argTy] at ha
  simp only [ArgC]
  split at ha
  ·rename_i k hu
   have : ∃ z, cs = [.int k z] ∧ (Lit.int k z).wf = true := by
    unfold DataW.trod at h
    rw [hu] at h
    split at h <;> simp_all
   obtain ⟨z, rfl, hz⟩ := this
   exact ⟨[.int k z], rfl, z, rfl, hz⟩
  ·rename_i hu
   have : ∃ z, cs = [.bool z] := by
    unfold DataW.trod at h
    rw [hu] at h
    split at h <;> simp_all
   obtain ⟨z, rfl⟩ := this
   exact ⟨[.bool z], rfl, z, rfl⟩
  ·rename_i hu
   have : ∃ z, cs = [.string z] ∧ z.size ≤ maxLen := by
    unfold DataW.trod at h
    rw [hu] at h
    split at h <;> simp_all
   obtain ⟨z, rfl, hz⟩ := this
   exact ⟨[.str z], rfl, z, rfl, hz⟩
  ·rename_i e hu
   rcases DataW.trod_pointer hu h with ⟨rfl, -⟩ | ⟨a, cs', y, m, hm, rfl, -, hc, hy⟩
   ·exact ⟨[.ptr none], rfl, .inl rfl⟩
   ·cases hm
    obtain ⟨es, h1, h2⟩ := kdo n d ha hy
    exact ⟨[.ptr (some (.old a))], rfl, .inr ⟨a, es, rfl, kki hc h1, h2⟩⟩
  ·rename_i e hu
   rcases DataW.trod_slice hu h with ⟨rfl, -⟩ | ⟨a, len, cap, elems, rest, m, hm, rfl, -, -, hl, hc, hel, hi, -, -⟩
   ·exact ⟨[.slice none 0 (.is 0)], rfl, .inl rfl⟩
   ·cases hm
    refine ⟨[.slice (some (.old a)) len (.is cap)], by simp [AV.ofCells, AV.ofCell, Nat.ble_eq_true_of_le hl], .inr ⟨a, len, cap, rfl, hl, hc, fun i hlt => ?_⟩⟩
    have h1 := hi i hlt
    have : ∃ y, elems[i]? = some y := ⟨elems[i]'(by omega), by simp⟩
    obtain ⟨y, hy⟩ := this
    rw [hy, Option.bind_eq_some_iff] at h1
    obtain ⟨cs', h2, h3⟩ := h1
    obtain ⟨es, h4, h5⟩ := kdo n d ha h3
    exact ⟨es, kki h2 h4, h5⟩
  ·rename_i fs hu
   simp only [Bool.and_eq_true, List.all_eq_true] at ha
   obtain ⟨xs, m, hm, -, hl, hx, hf⟩ := DataW.trod_struct hu h
   cases hm
   have key : ∀ f ∈ fs.toList, ∃ vs, AV.ofCells ((cs.drop f.offset).take (P.cellsOf f.type)) = some vs ∧ ArgC P ⟨w.heap, #[]⟩ n f.type vs := by
    intro f hf'
    obtain ⟨i, hi, rfl⟩ := List.getElem_of_mem hf'
    have h1 := hf i fs.toList[i] (by simp)
    have : ∃ y, xs[i]? = some y := ⟨xs[i]'(by simp at hi; omega), by simp⟩
    obtain ⟨y, hy⟩ := this
    rw [hy] at h1
    exact kdo n d (ha.1 _ hf') h1
   obtain ⟨vs, hv⟩ := kjs (P := P) hl fs.toList 0 ha.2 fun f hf' => (key f hf').imp fun _ h => h.1
   rw [List.drop_zero] at hv
   refine ⟨vs, hv, by rw [(kg0 hv).1, hl], fun f hf' => ?_⟩
   obtain ⟨ws, h1, h2⟩ := key f hf'
   have := kgg (P.cellsOf f.type) (kga f.offset hv)
   rw [h1] at this
   cases this
   exact h2
  ·rename_i m e hu
   simp only [Bool.and_eq_true] at ha
   have hce := Nat.eq_of_beq_eq_true ha.2
   unfold DataW.trod at h
   rw [hu] at h
   have h : (if cs.length = P.cellsOf t then ((List.range m).mapM fun i => DataW.trod enc P w base spare held n e ((cs.drop (i * P.cellsOf e)).take (P.cellsOf e))).map fun xs => ((.agg (xs.map (·.1)), xs.flatMap (·.2)) : DataW H × List MemPlace) else none) = some x := by
    split at h <;> simp_all
   split at h
   ·rename_i hl
    simp only [Option.map_eq_some_iff] at h
    obtain ⟨xs, h1, -⟩ := h
    have hxl := mapM_some_length h1
    simp at hxl
    have key : ∀ i, i < m → ∃ vs, AV.ofCells ((cs.drop (i * P.cellsOf e)).take (P.cellsOf e)) = some vs ∧ ArgC P ⟨w.heap, #[]⟩ n e vs := by
     intro i hi
     have h2 := mapM_some_get h1 i i (by simp [hi])
     have : ∃ y, xs[i]? = some y := ⟨xs[i]'(by omega), by simp⟩
     obtain ⟨y, hy⟩ := this
     rw [hy] at h2
     exact kdo n d ha.1 h2
    obtain ⟨vs, hv⟩ := kke (c := P.cellsOf e) m 0 (by rw [hl, hce, Nat.zero_add]) fun i _ hi => (key i (by omega)).imp fun _ h => h.1
    rw [Nat.zero_mul, List.drop_zero] at hv
    refine ⟨vs, hv, by rw [(kg0 hv).1, hl], fun i hi => ?_⟩
    obtain ⟨ws, h2, h3⟩ := key i hi
    have := kgg (P.cellsOf e) (kga (i * P.cellsOf e) hv)
    rw [h2] at this
    cases this
    exact h3
   ·cases h
  ·cases ha
def ArgV (P : Program) (h : AH) (t : TypeId) (x : AV) : Prop :=
 match P.underlying t with
 | some (.struct _) | some (.array _ _) => ∃ cs, x = .agg cs ∧ ArgT P h t cs
 | _ => ArgT P h t [x]
theorem arg_open {H : Type} {enc : TypeId × Value → H} {W : World} {base base' : Nat} {spare : Nat → Bool} {held : Bool} {t : TypeId} {v : Value} {d : DataW H} {ps : List MemPlace} {rch : Reach} (d' : Nat) (ha : argTy P (d' + 1) t = true)
  (hv : Value.okWide P W rch base t v) (h : DataW.Trod enc P W base' spare held t v d ps) : ∃ x, VRel (fun _ => none) x v ∧ ArgV P ⟨W.heap, #[]⟩ t x := by
 obtain ⟨n, hn⟩ := h
 obtain ⟨vs, h1, h2⟩ := kdo n (d' + 1) ha hn
 have agg : ∀ cs : Array Value, v = .agg cs → ∃ x, VRel (fun _ => none) x v ∧ ∃ cs', x = .agg cs' ∧ ArgT P ⟨W.heap, #[]⟩ t cs' := by
  rintro cs rfl
  obtain ⟨h3, h4⟩ := VRels.ofCells (μ := fun _ => none) h1
  exact ⟨.agg vs, by simp only [VRel]; exact ⟨cs, rfl, h3, h4⟩, vs, rfl, n, h2⟩
 have cell : ∀ u, v.cells.toList = [u] → v = u → ∃ x, VRel (fun _ => none) x v ∧ ArgT P ⟨W.heap, #[]⟩ t [x] := by
  rintro u hc rfl
  rw [hc] at h1
  simp only [AV.ofCells] at h1
  split at h1
  ·rename_i x xs hx hxs
   cases h1
   cases hxs
   exact ⟨x, (VRel.ofCell hx).1, n, h2⟩
  ·cases h1
 have cell' : (∀ cs, v ≠ .agg cs) → ∃ x, VRel (fun _ => none) x v ∧ ArgT P ⟨W.heap, #[]⟩ t [x] := by
  intro hne
  refine cell v ?_ rfl
  cases v <;> first | rfl | exact absurd rfl (hne _)
 simp only [argTy] at ha
 unfold ArgV
 split at ha
 ·rename_i k hu
  simp only [hu]
  obtain ⟨z, rfl, -⟩ := okWide_int hu hv
  exact cell' fun cs hcs => by cases hcs
 ·rename_i hu
  simp only [hu]
  obtain ⟨z, rfl⟩ := okWide_bool hu hv
  exact cell' fun cs hcs => by cases hcs
 ·rename_i hu
  simp only [hu]
  obtain ⟨z, rfl⟩ := okWide_string hu hv
  exact cell' fun cs hcs => by cases hcs
 ·rename_i e hu
  simp only [hu]
  obtain ⟨z, rfl⟩ := okWide_pointer hu hv
  exact cell' fun cs hcs => by cases hcs
 ·rename_i e hu
  simp only [hu]
  obtain ⟨z, l, c, rfl⟩ := okWide_slice hu hv
  exact cell' fun cs hcs => by cases hcs
 ·rename_i fs hu
  simp only [hu]
  obtain ⟨cs, hcs, -⟩ := okWide_struct hu hv
  exact agg cs hcs
 ·rename_i m e hu
  simp only [hu]
  unfold Value.okWide at hv
  rw [hu] at hv
  obtain ⟨cs, hcs, -⟩ := hv
  exact agg cs hcs
 ·cases ha
theorem ArgT.int {h : AH} {t : TypeId} {k : IntKind} {cs : List AV} (hu : P.underlying t = some (.int k)) (a : ArgT P h t cs) : ∃ x, cs = [.int k x] ∧ (Lit.int k x).wf = true := by
 obtain ⟨n, a⟩ := a
 cases n with
 | zero => simp [ArgC] at a
 | succ n => simpa [ArgC, hu] using a
theorem ArgT.bool {h : AH} {t : TypeId} {cs : List AV} (hu : P.underlying t = some .bool) (a : ArgT P h t cs) : ∃ x, cs = [.bool x] := by
 obtain ⟨n, a⟩ := a
 cases n with
 | zero => simp [ArgC] at a
 | succ n => simpa [ArgC, hu] using a
theorem ArgT.str {h : AH} {t : TypeId} {cs : List AV} (hu : P.underlying t = some .string) (a : ArgT P h t cs) : ∃ x, cs = [.str x] ∧ x.size ≤ maxLen := by
 obtain ⟨n, a⟩ := a
 cases n with
 | zero => simp [ArgC] at a
 | succ n => simpa [ArgC, hu] using a
theorem ArgT.ptr {h : AH} {t e : TypeId} {cs : List AV} (hu : P.underlying t = some (.pointer e)) (a : ArgT P h t cs) : cs = [.ptr none] ∨ ∃ a es, cs = [.ptr (some (.old a))] ∧ h.gets (.old a) (P.cellsOf e) = some es ∧ ArgT P h e es := by
 obtain ⟨n, a⟩ := a
 cases n with
 | zero => simp [ArgC] at a
 | succ n =>
  simp only [ArgC, hu] at a
  rcases a with a | ⟨a, es, h1, h2, h3⟩
  ·exact .inl a
  ·exact .inr ⟨a, es, h1, h2, n, h3⟩
theorem ArgT.slice {h : AH} {t e : TypeId} {cs : List AV} (hu : P.underlying t = some (.slice e)) (a : ArgT P h t cs) : cs = [.slice none 0 (.is 0)] ∨ ∃ a len cap, cs = [.slice (some (.old a)) len (.is cap)] ∧ len ≤ cap ∧ cap ≤ maxLen ∧
    ∀ i, i < len → ∃ es, h.gets (.old (a.add (i * P.cellsOf e))) (P.cellsOf e) = some es ∧ ArgT P h e es := by
 obtain ⟨n, a⟩ := a
 cases n with
 | zero => simp [ArgC] at a
 | succ n =>
  simp only [ArgC, hu] at a
  rcases a with a | ⟨a, len, cap, h1, h2, h3, h4⟩
  ·exact .inl a
  ·exact .inr ⟨a, len, cap, h1, h2, h3, fun i hi => (h4 i hi).imp fun es h => ⟨h.1, n, h.2⟩⟩
theorem ArgT.struct {h : AH} {t : TypeId} {fs : Array Field} {cs : List AV} (hu : P.underlying t = some (.struct fs)) (a : ArgT P h t cs) : cs.length = P.cellsOf t ∧ ∀ f ∈ fs.toList, ArgT P h f.type ((cs.drop f.offset).take (P.cellsOf f.type)) := by
 obtain ⟨n, a⟩ := a
 cases n with
 | zero => simp [ArgC] at a
 | succ n =>
  simp only [ArgC, hu] at a
  exact ⟨a.1, fun f hf => ⟨n, a.2 f hf⟩⟩
theorem ArgT.array {h : AH} {t e : TypeId} {m : Nat} {cs : List AV} (hu : P.underlying t = some (.array m e)) (a : ArgT P h t cs) : cs.length = P.cellsOf t ∧ ∀ i, i < m → ArgT P h e ((cs.drop (i * P.cellsOf e)).take (P.cellsOf e)) := by
 obtain ⟨n, a⟩ := a
 cases n with
 | zero => simp [ArgC] at a
 | succ n =>
  simp only [ArgC, hu] at a
  exact ⟨a.1, fun i hi => ⟨n, a.2 i hi⟩⟩
end Go.Ab

/- squeezed -/
set_option linter.unusedVariables false
set_option linter.unusedSimpArgs false
namespace Go.Ab
def AH.push (h : AH) (b : ABlk) : AH := h.alloc b
@[simp] theorem newK_eq {R : Type} (h : AH) (b : ABlk) (k : Ref → AH → R) : newK h b k = k (.new h.blks.size 0) (h.push b) := rfl
@[simp] theorem kc (k : IntKind) (n : Int) : AV.asInt k (.int k n) = some n := by simp [AV.asInt]
@[simp] theorem asBool_bool (b : Bool) : AV.asBool (.bool b) = some b := rfl
@[simp] theorem asStr_str (s : ByteArray) : AV.asStr (.str s) = some s := rfl
@[simp] theorem asPtr_ptr (r : Option Ref) : AV.asPtr (.ptr r) = some r := rfl
@[simp] theorem asMap_map (r : Option Nat) : AV.asMap (.map r) = some r := rfl
@[simp] theorem asSl_slice (r : Option Ref) (n : Nat) (c : Cap) : AV.asSl (.slice r n c) = some ⟨r, n, c⟩ := rfl
@[simp] theorem asSl_v (s : Sl) : AV.asSl s.v = some s := rfl
@[simp] theorem asAgg_agg (cs : List AV) : AV.asAgg (.agg cs) = some cs := rfl
@[simp] theorem asTup0_tup : AV.asTup0 (.tup []) = some () := rfl
@[simp] theorem asTup2_tup (a b : AV) : AV.asTup2 (.tup [a, b]) = some (a, b) := rfl
@[simp] theorem asTup3_tup (a b c : AV) : AV.asTup3 (.tup [a, b, c]) = some (a, b, c) := rfl
@[simp] theorem asTup4_tup (a b c d : AV) : AV.asTup4 (.tup [a, b, c, d]) = some (a, b, c, d) := rfl
attribute [simp] Ref.add_zero
@[simp] theorem Ref.add_new (i o n : Nat) : (Ref.new i o).add n = .new i (o + n) := rfl
@[simp] theorem AH.push_size (h : AH) (b : ABlk) : (h.push b).blks.size = h.blks.size + 1 := by simp [AH.push, AH.alloc]
def Ref.inn (h : AH) : Ref → Prop
 | .old _ => True
 | .new i _ => i < h.blks.size
structure Grow (h h' : AH) : Prop where
 old : h'.old = h.old
 size : h.blks.size ≤ h'.blks.size
 blk : ∀ i, i < h.blks.size → h'.blks[i]? = h.blks[i]?
theorem Grow.refl (h : AH) : Grow h h := ⟨rfl, Nat.le_refl _, fun _ _ => rfl⟩
theorem Grow.trans {a b c : AH} (x : Grow a b) (y : Grow b c) : Grow a c :=
 ⟨y.old.trans x.old, Nat.le_trans x.size y.size, fun i hi => (y.blk i (Nat.lt_of_lt_of_le hi x.size)).trans (x.blk i hi)⟩
theorem Grow.push (h : AH) (b : ABlk) : Grow h (h.push b) :=
 ⟨rfl, by simp, fun i hi => by simp [AH.push, AH.alloc, Array.getElem?_push, Nat.ne_of_lt hi]⟩
theorem Grow.push' {h h' : AH} {b : ABlk} (g : Grow (h.push b) h') : Grow h h' := (Grow.push h b).trans g
theorem Grow.cell {h h' : AH} (g : Grow h h') {r : Ref} (hr : r.inn h) : h'.cell r = h.cell r := by
 cases r with
 | old a => simp only [AH.cell, g.old]
 | new i o => simp only [AH.cell, g.blk i hr]
theorem AH.cell_inn {h : AH} {r : Ref} {v : AV} (hc : h.cell r = some v) : r.inn h := by
 cases r with
 | old a => trivial
 | new i o =>
  simp only [AH.cell] at hc
  rcases Nat.lt_or_ge i h.blks.size with hlt | hge
  ·exact hlt
  ·rw [Array.getElem?_eq_none hge] at hc
   cases hc
theorem Grow.cell_some {h h' : AH} (g : Grow h h') {r : Ref} {v : AV} (hc : h.cell r = some v) : h'.cell r = some v := by
 rw [g.cell (AH.cell_inn hc), hc]
@[simp] theorem AH.cell_push (h : AH) (cs : List AV) (e : TypeId) (o : Nat) : (h.push (.cells cs e)).cell (.new h.blks.size o) = cs[o]? := by
 simp [AH.cell, AH.push, AH.alloc]
theorem Grow.cell_new {h h' : AH} {cs : List AV} {e : TypeId} (g : Grow (h.push (.cells cs e)) h') (o : Nat) : h'.cell (.new h.blks.size o) = cs[o]? := by
 rw [g.cell (by simp [Ref.inn]), AH.cell_push]
theorem AH.put_push (h : AH) (cs : List AV) (e : TypeId) (o : Nat) (v : AV) (ho : o < cs.length) : (h.push (.cells cs e)).put (.new h.blks.size o) v = some (h.push (.cells (cs.set o v) e)) := by
 simp only [AH.put, AH.push, AH.alloc, Array.getElem?_push_size, if_pos ho, Option.some.injEq, AH.mk.injEq, true_and]
 apply Array.ext
 ·simp
 ·intro i h1 h2
  have h3 : i < h.blks.size + 1 := by simpa using h2
  rw [Array.getElem_setIfInBounds (by simpa using h3)]
  by_cases e : h.blks.size = i
  ·subst e; simp
  ·rw [if_neg e, Array.getElem_push_lt (by omega), Array.getElem_push_lt (by omega)]
theorem AH.puts_push_gen (h : AH) (e : TypeId) : ∀ (vs : List AV) (o : Nat) (cs : List AV), o + vs.length ≤ cs.length → (h.push (.cells cs e)).puts (.new h.blks.size o) vs = some (h.push (.cells (cs.take o ++ vs ++ cs.drop (o + vs.length)) e))
 | [], o, cs, _ => by simp [AH.puts]
 | v :: vs, o, cs, ho => by
  simp only [List.length_cons] at ho
  simp only [AH.puts]
  rw [AH.put_push _ _ _ _ _ (by omega), Option.bind_some, Ref.add_new, AH.puts_push_gen h e vs (o + 1) _ (by simp; omega)]
  have e1 : (cs.set o v).take (o + 1) = cs.take o ++ [v] := by
   apply List.ext_getElem?
   intro i
   rw [List.getElem?_take]
   by_cases hi : i < o
   ·rw [if_pos (by omega), List.getElem?_set_ne (by omega), List.getElem?_append_left (by simp; omega), List.getElem?_take, if_pos hi]
   ·by_cases hi2 : i = o
    ·subst hi2
     rw [if_pos (by omega), List.getElem?_set_self (by omega), List.getElem?_append_right (by simp; omega)]
     simp [Nat.min_eq_left (show i ≤ cs.length by omega)]
    ·rw [if_neg (by omega), List.getElem?_eq_none (by simp; omega)]
  have e2 : (cs.set o v).drop (o + 1 + vs.length) = cs.drop (o + (vs.length + 1)) := by
   rw [List.drop_set_of_lt (by omega)]
   congr 1
   omega
  rw [e1, e2]
  simp
theorem AH.puts_push (h : AH) (e : TypeId) (cs vs : List AV) (hl : vs.length = cs.length) : (h.push (.cells cs e)).puts (.new h.blks.size 0) vs = some (h.push (.cells vs e)) := by
 rw [AH.puts_push_gen h e vs 0 cs (by omega)]
 simp [hl]
@[simp] theorem kc6 (r : Ref) (len : Nat) (i : Int) (size : Nat) (h0 : 0 ≤ i) (h1 : i < (len : Int)) : idx (some r) len i size = some (r.add (i.toNat * size)) := by
 simp [idx, h0, h1]
theorem bool_ans {b : Bool} {p : Prop} [Decidable p] {h : AH} (e : b = true ↔ p) : (some (AV.bool b, h) : Option (AV × AH)) = some (AV.bool (decide p), h) := by
 have : b = decide p := by cases b <;> simp_all
 rw [this]
theorem ans_eq {b b' : Bool} {h : AH} (e : b = true ↔ b' = true) : (some (AV.bool b, h) : Option (AV × AH)) = some (AV.bool b', h) := by
 have : b = b' := by cases b <;> cases b' <;> simp_all
 rw [this]
theorem ite_elim {A : Type} {p : Prop} [Decidable p] {x y z : A} (h1 : p → x = z) (h2 : ¬ p → y = z) : (if p then x else y) = z := by
 split
 ·rename_i h; exact h1 h
 ·rename_i h; exact h2 h
theorem cond_elim {A : Type} {b : Bool} {x y z : A} (h1 : b = true → x = z) (h2 : b = false → y = z) : cond b x y = z := by
 cases b
 ·exact h2 rfl
 ·exact h1 rfl
theorem cond_elim_ex {A C : Type} {b : Bool} {x y : A} {z : C → A} (h1 : b = true → ∃ c, x = z c) (h2 : b = false → ∃ c, y = z c) : ∃ c, cond b x y = z c := by
 cases b
 ·exact h2 rfl
 ·exact h1 rfl
theorem wrap64 {n : Int} (h1 : -9223372036854775808 ≤ n) (h2 : n ≤ 9223372036854775807) : IntKind.wrap .i64 n = n := by
 simp [IntKind.wrap, IntKind.bits, IntKind.signed]
 omega
theorem wrapU (n : Int) : IntKind.wrap .u64 n = n % 18446744073709551616 := by
 simp [IntKind.wrap, IntKind.bits, IntKind.signed]
theorem imin_eq (a b : Int) : imin a b = min a b := by
 unfold imin
 by_cases h : b < a <;> simp [h] <;> omega
theorem imax_eq (a b : Int) : imax a b = max a b := by
 unfold imax
 by_cases h : a < b <;> simp [h] <;> omega
end Go.Ab

/- squeezed -/
set_option linter.unusedVariables false
set_option linter.unusedSimpArgs false
namespace Go.Ab
def AH.upd (h : AH) (i : Nat) (cs : List AV) (e : TypeId) : AH := { h with blks := h.blks.setIfInBounds i (.cells cs e) }
@[reducible] def AH.has (h : AH) (i : Nat) (cs : List AV) (e : TypeId) : Prop := h.blks[i]? = some (.cells cs e)
theorem AH.has.lt {h : AH} {i : Nat} {cs : List AV} {e : TypeId} (b : h.has i cs e) : i < h.blks.size := (Array.getElem?_eq_some_iff.1 b).1
theorem AH.has.cell {h : AH} {i : Nat} {cs : List AV} {e : TypeId} (b : h.has i cs e) (o : Nat) : h.cell (.new i o) = cs[o]? := by
 simp only [AH.cell, show h.blks[i]? = _ from b]
theorem AH.has.inn {h : AH} {i : Nat} {cs : List AV} {e : TypeId} (b : h.has i cs e) (o : Nat) : (Ref.new i o).inn h := b.lt
theorem AH.has_push (h : AH) (cs : List AV) (e : TypeId) : (h.push (.cells cs e)).has h.blks.size cs e := by simp [AH.has, AH.push, AH.alloc]
theorem Grow.has {h h' : AH} (g : Grow h h') {i : Nat} {cs : List AV} {e : TypeId} (b : h.has i cs e) : h'.has i cs e := (g.blk i b.lt).trans b
theorem AH.has_upd {h : AH} {i : Nat} {cs : List AV} {e : TypeId} (b : h.has i cs e) (cs' : List AV) (e' : TypeId) : (h.upd i cs' e').has i cs' e' := by
 simp [AH.has, AH.upd, b.lt]
theorem Grow.upd {h h' : AH} (g : Grow h h') {i : Nat} (hi : h.blks.size ≤ i) (cs : List AV) (e : TypeId) : Grow h (h'.upd i cs e) :=
 ⟨g.old, by simpa [AH.upd] using g.size, fun j hj => by
  show (h'.blks.setIfInBounds i (.cells cs e))[j]? = _
  rw [Array.getElem?_setIfInBounds_ne (by omega)]
  exact g.blk j hj⟩
theorem AH.has.put {h : AH} {i : Nat} {cs : List AV} {e : TypeId} (b : h.has i cs e) {o : Nat} {v : AV} (ho : o < cs.length) : h.put (.new i o) v = some (h.upd i (cs.set o v) e) := by
 simp only [AH.put, show h.blks[i]? = _ from b, if_pos ho, AH.upd]
theorem AH.upd_upd (h : AH) (i : Nat) (cs cs' : List AV) (e e' : TypeId) : (h.upd i cs e).upd i cs' e' = h.upd i cs' e' := by
 simp [AH.upd]
theorem AH.has.puts {h : AH} {i : Nat} {e : TypeId} : ∀ {vs : List AV} {o : Nat} {cs : List AV}, h.has i cs e → o + vs.length ≤ cs.length → h.puts (.new i o) vs = some (h.upd i (cs.take o ++ vs ++ cs.drop (o + vs.length)) e)
 | [], o, cs, b, _ => by
  simp only [AH.puts, List.append_nil, List.length_nil, Nat.add_zero, List.take_append_drop, Option.some.injEq]
  have hb : h.blks[i]? = some (.cells cs e) := b
  have : h.blks.setIfInBounds i (.cells cs e) = h.blks := by
   apply Array.ext
   ·simp
   ·intro j h1 h2
    rw [Array.getElem_setIfInBounds (by simpa using h1)]
    split
    ·rename_i hij; subst hij
     have := Array.getElem?_eq_getElem h2
     rw [this] at hb
     exact (Option.some.inj hb).symm
    ·rfl
  cases h
  simp only [AH.upd] at this ⊢
  rw [this]
 | v :: vs, o, cs, b, ho => by
  simp only [List.length_cons] at ho
  simp only [AH.puts]
  rw [b.put (by omega), Option.bind_some, Ref.add_new, AH.has.puts (AH.has_upd b _ e) (by simp; omega), AH.upd_upd]
  have e1 : (cs.set o v).take (o + 1) = cs.take o ++ [v] := by
   apply List.ext_getElem?
   intro i
   rw [List.getElem?_take]
   by_cases hi : i < o
   ·rw [if_pos (by omega), List.getElem?_set_ne (by omega), List.getElem?_append_left (by simp; omega), List.getElem?_take, if_pos hi]
   ·by_cases hi2 : i = o
    ·subst hi2
     rw [if_pos (by omega), List.getElem?_set_self (by omega), List.getElem?_append_right (by simp; omega)]
     simp [Nat.min_eq_left (show i ≤ cs.length by omega)]
    ·rw [if_neg (by omega), List.getElem?_eq_none (by simp; omega)]
  have e2 : (cs.set o v).drop (o + 1 + vs.length) = cs.drop (o + (vs.length + 1)) := by
   rw [List.drop_set_of_lt (by omega)]
   congr 1
   omega
  rw [e1, e2]
  simp
theorem AH.has.puts_all {h : AH} {i : Nat} {e : TypeId} {cs vs : List AV} (b : h.has i cs e) (hl : vs.length = cs.length) : h.puts (.new i 0) vs = some (h.upd i vs e) := by
 rw [b.puts (by omega)]
 simp [hl]
theorem Grow.same {h h' : AH} (g : Grow h h') {i : Nat} {cs : List AV} {e : TypeId} (b : h.has i cs e) (o n : Nat) : SameAt h h' (.new i o) n := ⟨fun j _ => by
 rw [Ref.add_new]
 exact g.cell (b.inn _), fun _ => g.blk i b.lt⟩
@[simp] theorem kmh {R : Type} {p : Prop} {x : Option R} (hp : p) : whenK p x = x := by
 unfold whenK
 rw [if_pos hp]
def Sl.fit (s : Sl) (n : Nat) : Prop := match s.cap with
 | .is c => s.len ≤ c
 | .opn z => z = n
structure Cells (h : AH) (s : Sl) (n : Nat) (flat : List AV) : Prop where
 fit : s.fit n
 len : s.len * n = flat.length
 get : ∀ (i : Nat) (v : AV), flat[i]? = some v → ∃ r, s.ref = some r ∧ h.cell (r.add i) = some v
theorem Cells.grow {h h' : AH} (g : Grow h h') {s : Sl} {n : Nat} {flat : List AV} (c : Cells h s n flat) : Cells h' s n flat :=
 ⟨c.fit, c.len, fun i v hv => by
  obtain ⟨r, e1, e2⟩ := c.get i v hv
  exact ⟨r, e1, g.cell_some e2⟩⟩
theorem Cells.nil (h : AH) (n : Nat) : Cells h ⟨none, 0, .is 0⟩ n [] := ⟨Nat.le_refl _, by simp, fun i v hv => by simp at hv⟩
theorem Cells.of_has {h : AH} {i n m : Nat} {cs : List AV} {e : TypeId} (b : h.has i cs e) (hm : m * n = cs.length) : Cells h ⟨some (.new i 0), m, .is m⟩ n cs :=
 ⟨Nat.le_refl _, hm, fun j v hv => ⟨_, rfl, by rw [Ref.add_new, Nat.zero_add, b.cell]; exact hv⟩⟩
theorem Cells.gets {h : AH} {s : Sl} {n : Nat} {flat : List AV} (c : Cells h s n flat) : h.getsO s.ref (s.len * n) = some flat := by
 rw [c.len]
 unfold AH.getsO
 cases hr : s.ref with
 | none =>
  have : flat = [] := by
   cases flat with
   | nil => rfl
   | cons v vs =>
    obtain ⟨r, e1, _⟩ := c.get 0 v rfl
    rw [hr] at e1
    cases e1
  rw [this]
 | some r =>
  have key : ∀ (vs : List AV) (r : Ref), (∀ i v, vs[i]? = some v → h.cell (r.add i) = some v) → h.gets r vs.length = some vs := by
   intro vs
   induction vs with
   | nil => intro r _; rfl
   | cons v vs ih =>
    intro r hall
    have h0 := hall 0 v rfl
    rw [Ref.add_zero] at h0
    have h1 := ih (r.add 1) fun i x hx => by
     rw [Ref.add_add, Nat.add_comm]
     exact hall (i + 1) x (by simpa using hx)
    simp only [List.length_cons, AH.gets, h0, Option.bind_some, h1, Option.map_some]
  exact key flat r fun i v hv => by
   obtain ⟨r', e1, e2⟩ := c.get i v hv
   rw [hr] at e1
   cases e1
   exact e2
def Own (h : AH) (s : Sl) : Prop := ∀ r, s.ref = some r → ∃ i o, r = .new i o ∧ h.blks.size ≤ i
theorem AH.cell_upd_ne {h : AH} {i : Nat} {cs : List AV} {e : TypeId} {r : Ref} (hr : ∀ o, r ≠ .new i o) : (h.upd i cs e).cell r = h.cell r := by
 cases r with
 | old a => rfl
 | new j o =>
  have : i ≠ j := fun hij => hr o (by rw [hij])
  simp only [AH.cell, AH.upd]
  rw [Array.getElem?_setIfInBounds_ne this]
theorem Cells.upd {h h0 : AH} {s : Sl} {n : Nat} {flat : List AV} (c : Cells h s n flat) (ho : Own h0 s) {i : Nat} (hi : i < h0.blks.size) (cs : List AV) (e : TypeId) : Cells (h.upd i cs e) s n flat :=
 ⟨c.fit, c.len, fun k v hv => by
  obtain ⟨r, e1, e2⟩ := c.get k v hv
  refine ⟨r, e1, ?_⟩
  obtain ⟨j, o, rfl, hj⟩ := ho r e1
  rw [AH.cell_upd_ne]
  ·exact e2
  ·intro o' he
   simp only [Ref.add_new, Ref.new.injEq] at he
   omega⟩
theorem Own.of_le {h h0 : AH} (g : Grow h h0) {s : Sl} (o : Own h0 s) : Own h s := fun r hr => by
 obtain ⟨i, k, h1, h2⟩ := o r hr
 exact ⟨i, k, h1, Nat.le_trans g.size h2⟩
theorem Own.nil (h : AH) {n : Nat} {c : Cap} : Own h ⟨none, n, c⟩ := fun r hr => by cases hr
theorem Cells.cut {h : AH} {s : Sl} {m : Nat} {flat : List AV} (c : Cells h s m flat) {l n : Nat} (h1 : l ≤ n) (h2 : n ≤ s.len) : ∃ s', cutSl s (l : Int) (n : Int) m = some s' ∧ s'.len = n - l ∧
  Cells h s' m ((flat.drop (l * m)).take ((n - l) * m)) ∧ ∀ h0, Own h0 s → Own h0 s' := by
 have hm : n * m ≤ s.len * m := Nat.mul_le_mul_right m h2
 have hlm : l * m ≤ n * m := Nat.mul_le_mul_right m h1
 have hsub : (n - l) * m = n * m - l * m := Nat.sub_mul _ _ _
 have cell : ∀ (ref : Option Ref), (∀ r, s.ref = some r → n ≠ l → ref = some (r.add (l * m))) → ∀ (i : Nat) (v : AV), ((flat.drop (l * m)).take ((n - l) * m))[i]? = some v → ∃ r, ref = some r ∧ h.cell (r.add i) = some v := by
  intro ref hr i v hv
  rw [List.getElem?_take] at hv
  split at hv
  ·rename_i hi
   rw [List.getElem?_drop] at hv
   obtain ⟨r, e1, e2⟩ := c.get _ v hv
   have hne : n ≠ l := by
    rintro rfl
    simp at hi
   exact ⟨_, hr r e1 hne, by rw [Ref.add_add]; exact e2⟩
  ·cases hv
 have len : ((flat.drop (l * m)).take ((n - l) * m)).length = (n - l) * m := by
  rw [List.length_take, List.length_drop, ← c.len]
  omega
 have own : ∀ (ref : Option Ref) (k : Nat) (cp : Cap), (ref = s.ref ∨ ref = s.ref.map (·.add (l * m))) → ∀ h0, Own h0 s → Own h0 ⟨ref, k, cp⟩ := by
  intro ref k cp hr h0 ho r e
  dsimp only at e
  rcases hr with rfl | rfl
  ·exact ho r e
  ·rw [Option.map_eq_some_iff] at e
   obtain ⟨r0, e1, rfl⟩ := e
   obtain ⟨i, o, rfl, h3⟩ := ho r0 e1
   exact ⟨i, _, rfl, h3⟩
 have hf := c.fit
 unfold Sl.fit at hf
 unfold cutSl
 split at hf
 ·rename_i cp hcp
  simp only [hcp]
  rw [show (decide (0 ≤ (l : Int) ∧ (l : Int) ≤ (n : Int) ∧ (n : Int) ≤ (cp : Int))) = true from by simp; omega]
  refine ⟨_, rfl, by simp, ⟨?_, by rw [len]; simp, cell _ ?_⟩, own _ _ _ ?_⟩
  ·show (n : Int).toNat - (l : Int).toNat ≤ cp - (l : Int).toNat
   simp
   omega
  ·intro r hr hne
   simp only [Int.toNat_natCast]
   rw [if_neg (by omega), hr]
   rfl
  ·split
   ·exact .inl rfl
   ·exact .inr (by simp)
 ·rename_i z hz
  simp only [hz]
  subst hf
  rw [show Nat.beq z z = true from Nat.beq_refl z, show (decide (0 ≤ (l : Int) ∧ (l : Int) ≤ (n : Int) ∧ (n : Int) ≤ (s.len : Int))) = true from by simp; omega]
  refine ⟨_, rfl, by simp, ⟨?_, by rw [len]; simp, cell _ ?_⟩, own _ _ _ (.inr (by simp))⟩
  ·exact rfl
  ·intro r hr hne
   simp [hr]
@[reducible] def u64 (x : Nat) : AV := .int .u64 (x : Int)
structure Nats (h : AH) (s : Sl) (xs : List Nat) : Prop where
 cells : Cells h s 1 (xs.map u64)
 lt : ∀ x ∈ xs, x < 18446744073709551616
 short : xs.length ≤ 9223372036854775807
theorem Nats.len {h : AH} {s : Sl} {xs : List Nat} (n : Nats h s xs) : s.len = xs.length := by
 have := n.cells.len
 simpa using this
theorem Nats.grow {h h' : AH} (g : Grow h h') {s : Sl} {xs : List Nat} (n : Nats h s xs) : Nats h' s xs := ⟨n.cells.grow g, n.lt, n.short⟩
theorem Nats.nil (h : AH) : Nats h ⟨none, 0, .is 0⟩ [] := ⟨Cells.nil h 1, by simp, by simp⟩
theorem Nats.upd {h h0 : AH} {s : Sl} {xs : List Nat} (c : Nats h s xs) (ho : Own h0 s) {i : Nat} (hi : i < h0.blks.size) (cs : List AV) (e : TypeId) : Nats (h.upd i cs e) s xs := ⟨c.cells.upd ho hi cs e, c.lt, c.short⟩
theorem Nats.at {h : AH} {s : Sl} {xs : List Nat} (n : Nats h s xs) {i : Nat} (hi : i < xs.length) : ∃ r, idx s.ref s.len (i : Int) 1 = some r ∧ h.cell r = some (.int .u64 ((xs[i] : Nat) : Int)) := by
 obtain ⟨r, e1, e2⟩ := n.cells.get i (u64 xs[i]) (by simp [hi])
 refine ⟨r.add i, ?_, e2⟩
 rw [e1, kc6 _ _ _ _ (by omega) (by rw [n.len]; omega)]
 simp
theorem Nats.cut {h : AH} {s : Sl} {xs : List Nat} (c : Nats h s xs) {l n : Nat} (h1 : l ≤ n) (h2 : n ≤ xs.length) : ∃ s', cutSl s (l : Int) (n : Int) 1 = some s' ∧ Nats h s' ((xs.drop l).take (n - l)) ∧ ∀ h0, Own h0 s → Own h0 s' := by
 obtain ⟨s', e1, e2, e3, e4⟩ := c.cells.cut h1 (by rw [c.len]; exact h2)
 refine ⟨s', e1, ⟨by simpa [List.map_drop, List.map_take] using e3, fun x hx => c.lt x (List.mem_of_mem_drop (List.mem_of_mem_take hx)), ?_⟩, e4⟩
 have := c.short
 rw [List.length_take, List.length_drop]
 omega
theorem ki {i : Nat} (h : i < 9223372036854775807) : IntKind.wrap .i64 ((i : Int) + 1) = ((i + 1 : Nat) : Int) := by
 rw [wrap64 (by omega) (by omega)]; omega
end Go.Ab

/- squeezed -/
set_option linter.unusedVariables false
set_option linter.unusedSimpArgs false
namespace Go.Ab
variable {P : Program}
theorem kku {h : AH} {s : Sl} {elem : TypeId} {flat : List AV} (c : Cells h s (P.cellsOf elem) flat) : kba P elem s.v h = some (flat, s.len) := by
 show (h.getsO s.ref (s.len * P.cellsOf elem)).map (fun cs => (cs, s.len)) = _
 rw [c.gets]
 rfl
theorem kha {h : AH} {s : Sl} {c n m : Nat} {elem : TypeId} {cs old : List AV} (hs : s.cap = .is c) (hc : c < s.len + n) (hg : growOk P (s.len + n) elem m = true) (ho : Cells h s m old) :
  kv P s cs n elem m h = some (Sl.v ⟨some (.new h.blks.size 0), s.len + n, .opn m⟩, h.push (.cells (old ++ cs) elem)) := by
 unfold kv
 simp only [hs]
 rw [show Nat.ble (s.len + n) c = false from by
  cases hb : Nat.ble (s.len + n) c with
  | false => rfl
  | true => have := Nat.le_of_ble_eq_true hb; omega]
 simp only [cond_false, hg, cond_true, ho.gets, Option.bind_some]
 rfl
structure Mine (h0 h : AH) (s : Sl) (elem : TypeId) (m : Nat) (flat : List AV) : Prop where
 grow : Grow h0 h
 cells : Cells h s m flat
 own : s = ⟨none, 0, .is 0⟩ ∨ ∃ i bs, s.ref = some (.new i 0) ∧ s.cap = .opn m ∧ h0.blks.size ≤ i ∧ h.has i bs elem
theorem Mine.nil (h : AH) (elem : TypeId) (m : Nat) : Mine h h ⟨none, 0, .is 0⟩ elem m [] := ⟨Grow.refl h, Cells.nil h m, .inl rfl⟩
theorem Grow.kill {h h' : AH} (g : Grow h h') {i : Nat} (hi : h.blks.size ≤ i) : Grow h (h'.kill (some (.new i 0))) :=
 ⟨g.old, by simpa [AH.kill] using g.size, fun j hj => by
  show (h'.blks.setIfInBounds i .dead)[j]? = _
  rw [Array.getElem?_setIfInBounds_ne (by omega)]
  exact g.blk j hj⟩
theorem Mine.own_of {h0 h : AH} {s : Sl} {elem : TypeId} {m : Nat} {flat : List AV} (M : Mine h0 h s elem m flat) : Own h0 s := by
 rcases M.own with rfl | ⟨i, bs, e1, e2, e3, e4⟩
 ·exact Own.nil h0
 ·intro r hr
  rw [e1] at hr
  cases hr
  exact ⟨i, 0, rfl, e3⟩
theorem klz {l c : Int} {elem : TypeId} {bytes n : Nat} {zs : List AV} {h : AH} (h1 : l = (n : Int)) (h2 : c = (n : Int)) (h3 : n * bytes ≤ 70368744177664) (h4 : n ≤ 70368744177664) :
  kc0 l c elem bytes zs h = some (⟨some (.new h.blks.size 0), n, .is n⟩, h.push (.cells (repC zs n) elem)) := by
 subst h1 h2
 unfold kc0
 have h3' : ((n * bytes : Nat) : Int) ≤ 70368744177664 := by omega
 rw [show (decide (0 ≤ (n : Int) ∧ (n : Int) ≤ (n : Int) ∧ (n : Int) ≤ (kp : Int) ∧ (n : Int) * (bytes : Int) ≤ (kp : Int))) = true from by
  rw [decide_eq_true_eq]
  simp only [kp]
  rw [Int.natCast_mul] at h3'
  omega]
 simp
 rfl
theorem krd (v : AV) (n : Nat) : repC [v] n = List.replicate n v := by
 induction n with
 | zero => rfl
 | succ n ih => simp [repC, ih, List.replicate_succ]
end Go.Ab

/- squeezed -/
set_option linter.unusedVariables false
namespace Go.Ab
def Runs (x : Option (AV × AH)) (P : AV → AH → Prop) : Prop := ∃ v h', x = some (v, h') ∧ P v h'
structure Upd (h h' : AH) (i : Nat) : Prop where
 old : h'.old = h.old
 size : h.blks.size ≤ h'.blks.size
 blk : ∀ j, j ≠ i → j < h.blks.size → h'.blks[j]? = h.blks[j]?
theorem AH.upd_Upd (h : AH) (i : Nat) (cs : List AV) (e : TypeId) : Upd h (h.upd i cs e) i :=
 ⟨rfl, by simp [AH.upd], fun j hj _ => by
  show (h.blks.setIfInBounds i (.cells cs e))[j]? = _
  rw [Array.getElem?_setIfInBounds_ne (fun x => hj x.symm)]⟩
theorem Grow.updr {h h1 h2 : AH} (g : Grow h h1) {i : Nat} (hi : h.blks.size ≤ i) (u : Upd h1 h2 i) : Grow h h2 :=
 ⟨u.old.trans g.old, Nat.le_trans g.size u.size, fun j hj => (u.blk j (by omega) (Nat.lt_of_lt_of_le hj g.size)).trans (g.blk j hj)⟩
theorem AH.has.updr {h1 h2 : AH} {j : Nat} {cs : List AV} {e : TypeId} (b : h1.has j cs e) {i : Nat} (hij : j ≠ i) (u : Upd h1 h2 i) : h2.has j cs e := (u.blk j hij b.lt).trans b
theorem Upd.trans {h1 h2 h3 : AH} {i : Nat} (u : Upd h1 h2 i) (w : Upd h2 h3 i) : Upd h1 h3 i :=
 ⟨w.old.trans u.old, Nat.le_trans u.size w.size, fun j hj hl => (w.blk j hj (Nat.lt_of_lt_of_le hl u.size)).trans (u.blk j hj hl)⟩
theorem Grow.toUpd {h1 h2 : AH} (g : Grow h1 h2) (i : Nat) : Upd h1 h2 i := ⟨g.old, g.size, fun j _ hl => g.blk j hl⟩
theorem Upd.cell {h1 h2 : AH} {i : Nat} (u : Upd h1 h2 i) {r : Ref} {v : AV} (hc : h1.cell r = some v) (hr : ∀ o, r ≠ .new i o) : h2.cell r = some v := by
 have hi := AH.cell_inn hc
 cases r with
 | old a => simpa only [AH.cell, u.old] using hc
 | new j o => simpa only [AH.cell, u.blk j (fun hj => hr o (by rw [hj])) hi] using hc
theorem Cells.updr {h0 h1 h2 : AH} {s : Sl} {n : Nat} {flat : List AV} (c : Cells h1 s n flat) (ho : Own h0 s) {i : Nat} (hi : i < h0.blks.size) (u : Upd h1 h2 i) : Cells h2 s n flat :=
 ⟨c.fit, c.len, fun k v hv => by
  obtain ⟨r, e1, e2⟩ := c.get k v hv
  refine ⟨r, e1, ?_⟩
  obtain ⟨j, o, rfl, hj⟩ := ho r e1
  refine u.cell e2 fun o' he => ?_
  simp only [Ref.add_new, Ref.new.injEq] at he
  omega⟩
theorem Nats.updr {h0 h1 h2 : AH} {s : Sl} {xs : List Nat} (c : Nats h1 s xs) (ho : Own h0 s) {i : Nat} (hi : i < h0.blks.size) (u : Upd h1 h2 i) : Nats h2 s xs := ⟨c.cells.updr ho hi u, c.lt, c.short⟩
section
variable {P : AV → AH → Prop}
theorem Runs.ret {v : AV} {h : AH} (p : P v h) : Runs (some (v, h)) P := ⟨v, h, rfl, p⟩
theorem Runs.imp {x : Option (AV × AH)} {Q : AV → AH → Prop} (r : Runs x Q) (f : ∀ v h, Q v h → P v h) : Runs x P := by
 obtain ⟨v, h', e, q⟩ := r
 exact ⟨v, h', e, f v h' q⟩
theorem Runs.step {A : Type} {o : Option A} {a : A} {K : A → Option (AV × AH)} (e : o = some a) (H : Runs (K a) P) : Runs (o.bind K) P := by
 subst e
 exact H
theorem Runs.new {h : AH} {cs : List AV} {e : TypeId} {K : Ref → AH → Option (AV × AH)} (H : ∀ h', h'.has h.blks.size cs e → Grow h h' → Runs (K (.new h.blks.size 0) h') P) : Runs (newK h (.cells cs e) K) P :=
 H _ (AH.has_push h cs e) (Grow.push h _)
theorem Runs.puts {h : AH} {i : Nat} {cs vs : List AV} {e : TypeId} {K : AH → Option (AV × AH)} (b : h.has i cs e) (hl : vs.length = cs.length) (H : ∀ h', h'.has i vs e → Upd h h' i → Runs (K h') P) : Runs ((h.puts (.new i 0) vs).bind K) P := by
 rw [b.puts_all hl]
 exact H _ (AH.has_upd b vs e) (AH.upd_Upd h i vs e)
theorem Runs.ifT {c : Bool} {a b : Option (AV × AH)} (e : c = true) (H : Runs a P) : Runs (cond c a b) P := by
 subst e
 exact H
theorem Runs.ifF {c : Bool} {a b : Option (AV × AH)} (e : c = false) (H : Runs b P) : Runs (cond c a b) P := by
 subst e
 exact H
theorem Runs.cond {c : Bool} {a b : Option (AV × AH)} (Ht : c = true → Runs a P) (Hf : c = false → Runs b P) : Runs (cond c a b) P := by
 cases c
 ·exact Hf rfl
 ·exact Ht rfl
theorem Runs.when {p : Prop} {x : Option (AV × AH)} (hp : p) (H : Runs x P) : Runs (whenK p x) P := by
 rw [kmh hp]
 exact H
end
theorem AH.has.rd {A : Type} {f : AV → Option A} {h : AH} {i : Nat} {cs : List AV} {e : TypeId} (b : h.has i cs e) (k : Nat) {v : AV} {x : A} (hk : cs[k]? = some v) (hf : f v = some x) : (h.cell ((Ref.new i 0).add k)).bind f = some x := by
 rw [Ref.add_new, Nat.zero_add, b.cell, hk]
 exact hf
theorem AH.has.rd0 {A : Type} {f : AV → Option A} {h : AH} {i : Nat} {cs : List AV} {e : TypeId} (b : h.has i cs e) {v : AV} {x : A} (hk : cs[0]? = some v) (hf : f v = some x) : (h.cell (Ref.new i 0)).bind f = some x := by
 rw [b.cell, hk]
 exact hf
theorem seen {A : Type} {f : AV → Option A} {v : AV} {x : A} (hf : f v = some x) : (some v).bind f = some x := hf
theorem seenAt {A : Type} {f : AV → Option A} {cs : List AV} {k : Nat} {v : AV} {x : A} (hk : cs[k]? = some v) (hf : f v = some x) : (cs[k]?).bind f = some x := by
 rw [hk]
 exact hf
theorem Nats.of_has {h : AH} {i : Nat} {e : TypeId} {xs : List Nat} (b : h.has i (xs.map u64) e) (hl : ∀ x ∈ xs, x < 18446744073709551616) (hs : xs.length ≤ 9223372036854775807) : Nats h ⟨some (.new i 0), xs.length, .is xs.length⟩ xs :=
 ⟨Cells.of_has b (by simp), hl, hs⟩
theorem condT {A : Type} {c : Bool} {a b : A} (e : c = true) : cond c a b = a := by subst e; rfl
theorem condF {A : Type} {c : Bool} {a b : A} (e : c = false) : cond c a b = b := by subst e; rfl
end Go.Ab

/- squeezed -/
set_option linter.unusedVariables false
set_option maxRecDepth 10000
namespace Go.Ab
def inI (n : Nat) (i : Int) : Option Nat := if 0 ≤ i ∧ i < (n : Int) then some i.toNat else none
def mkI (l c : Int) : Option Nat := if l = c ∧ 0 ≤ l ∧ l ≤ 8796093022208 then some l.toNat else none
def u64P (v : Int) : Option Nat := if 0 ≤ v ∧ v < 18446744073709551616 then some v.toNat else none
theorem kfs {n : Nat} {i : Int} {j : Nat} (q : inI n i = some j) : i = (j : Int) ∧ j < n := by
 unfold inI at q
 split at q
 ·cases q
  omega
 ·cases q
theorem kre {l c : Int} {n : Nat} (q : mkI l c = some n) : l = (n : Int) ∧ c = (n : Int) ∧ n ≤ 8796093022208 := by
 unfold mkI at q
 split at q
 ·cases q
  omega
 ·cases q
theorem km3 {v : Int} {n : Nat} (q : u64P v = some n) : v = (n : Int) ∧ n < 18446744073709551616 := by
 unfold u64P at q
 split at q
 ·cases q
  omega
 ·cases q
theorem kc3 {n i : Nat} (h : i < n) : inI n (i : Int) = some i := by
 unfold inI
 rw [if_pos (by omega), Int.toNat_natCast]
theorem kmn {n : Nat} (h : n ≤ 8796093022208) : mkI (n : Int) (n : Int) = some n := by
 unfold mkI
 rw [if_pos (by omega), Int.toNat_natCast]
theorem kkc {n : Nat} (h : n < 18446744073709551616) : u64P (n : Int) = some n := by
 unfold u64P
 rw [if_pos (by omega), Int.toNat_natCast]
theorem rdc {A : Type} {f : AV → Option A} {h : AH} {r : Ref} {v : AV} {x : A} (hc : h.cell r = some v) (hf : f v = some x) : (h.cell r).bind f = some x := by
 rw [hc]
 exact hf
structure Vec (h : AH) (s : Sl) (i : Nat) (xs : List Nat) : Prop where
 is : s = ⟨some (.new i 0), xs.length, .is xs.length⟩
 has : ∃ e, h.has i (xs.map u64) e
 lt : ∀ x ∈ xs, x < 18446744073709551616
 short : xs.length ≤ 9223372036854775807
theorem Vec.len {h : AH} {s : Sl} {i : Nat} {xs : List Nat} (v : Vec h s i xs) : s.len = xs.length := by rw [v.is]
theorem Vec.nats {h : AH} {s : Sl} {i : Nat} {xs : List Nat} (v : Vec h s i xs) : Nats h s xs := by
 obtain ⟨e, b⟩ := v.has
 rw [v.is]
 exact Nats.of_has b v.lt v.short
theorem Vec.inn {h : AH} {s : Sl} {i : Nat} {xs : List Nat} (v : Vec h s i xs) : i < h.blks.size := v.has.choose_spec.lt
theorem Vec.grow {h h' : AH} (g : Grow h h') {s : Sl} {i : Nat} {xs : List Nat} (v : Vec h s i xs) : Vec h' s i xs := ⟨v.is, v.has.imp fun _ b => g.has b, v.lt, v.short⟩
theorem Vec.updr {h h' : AH} {s : Sl} {i : Nat} {xs : List Nat} (v : Vec h s i xs) {j : Nat} (hij : i ≠ j) (u : Upd h h' j) : Vec h' s i xs := ⟨v.is, v.has.imp fun _ b => b.updr hij u, v.lt, v.short⟩
theorem Vec.own {h h0 : AH} {s : Sl} {i : Nat} {xs : List Nat} (v : Vec h s i xs) (hi : h0.blks.size ≤ i) : Own h0 s := fun r hr => by
 rw [v.is] at hr
 cases hr
 exact ⟨_, _, rfl, hi⟩
theorem Vec.idx {h : AH} {s : Sl} {i : Nat} {xs : List Nat} (v : Vec h s i xs) {n : Nat} (hn : xs.length = n) {k : Int} {j : Nat} (q : inI n k = some j) : Go.Ab.idx s.ref n k 1 = some (.new i j) := by
 subst hn
 obtain ⟨rfl, hj⟩ := kfs q
 rw [v.is, kc6 _ _ _ _ (by omega) (by omega)]
 simp
theorem Vec.rd {A : Type} {f : AV → Option A} {h : AH} {s : Sl} {i : Nat} {xs : List Nat} (v : Vec h s i xs) {n : Nat} (hn : xs.length = n) {j : Nat} {k : Int} (q : inI n k = some j) {x : A} (hf : f (.int .u64 ((xs.getD j 0 : Nat) : Int)) = some x) : (h.cell (.new i j)).bind f = some x := by
 subst hn
 obtain ⟨e, b⟩ := v.has
 have hj := (kfs q).2
 rw [b.cell, List.getElem?_map, List.getElem?_eq_getElem hj]
 simpa [List.getD, hj] using hf
section
variable {P : AV → AH → Prop}
theorem Runs.vput {h : AH} {s : Sl} {i : Nat} {xs : List Nat} {j w : Nat} {k x : Int} {K : AH → Option (AV × AH)} (v : Vec h s i xs) {n : Nat} (hn : xs.length = n) (q : inI n k = some j) (z : u64P x = some w)
  (H : ∀ h', Vec h' s i (xs.set j w) → Upd h h' i → Runs (K h') P) : Runs ((h.puts (.new i j) [.int .u64 x]).bind K) P := by
 subst hn
 obtain ⟨e, b⟩ := v.has
 have hj := (kfs q).2
 obtain ⟨rfl, hw⟩ := km3 z
 rw [b.puts (by simp; omega)]
 have e1 : (xs.map u64).take j ++ [AV.int .u64 (w : Int)] ++ (xs.map u64).drop (j + [AV.int .u64 (w : Int)].length) = (xs.set j w).map u64 := by
  apply List.ext_getElem?
  intro t
  rw [List.map_set]
  simp only [List.length_singleton]
  rcases Nat.lt_trichotomy t j with ht | ht | ht
  ·rw [List.append_assoc, List.getElem?_append_left (by simp; omega), List.getElem?_take, if_pos ht, List.getElem?_set_ne (by omega)]
  ·subst ht
   rw [List.append_assoc, List.getElem?_append_right (by simp; omega), List.getElem?_set_self (by simp; omega)]
   simp [Nat.min_eq_left (Nat.le_of_lt hj)]
  ·rw [List.getElem?_append_right (by simp; omega), List.getElem?_drop, List.getElem?_set_ne (by omega)]
   have : j + 1 + (t - (List.take j (xs.map u64) ++ [AV.int .u64 (w : Int)]).length) = t := by
    rw [List.length_append, List.length_take, List.length_map, List.length_singleton]
    omega
   rw [this]
 rw [e1]
 refine H _ ⟨?_, ⟨e, AH.has_upd b _ _⟩, ?_, ?_⟩ (AH.upd_Upd h i _ e)
 ·rw [List.length_set]; exact v.is
 ·intro y hy
  rcases List.mem_or_eq_of_mem_set hy with h1 | h1
  ·exact v.lt y h1
  ·rw [h1]; exact hw
 ·rw [List.length_set]; exact v.short
theorem Runs.mk {h : AH} {l c : Int} {elem : TypeId} {bytes n : Nat} {K : Sl × AH → Option (AV × AH)} (q : mkI l c = some n) (hb : bytes = 8)
  (H : ∀ s h', Vec h' s h.blks.size (List.replicate n 0) → Grow h h' → Runs (K (s, h')) P) : Runs ((kc0 l c elem bytes [.int .u64 0] h).bind K) P := by
 obtain ⟨h1, h2, h3⟩ := kre q
 subst hb
 rw [klz h1 h2 (by omega) (by omega), krd]
 refine H _ _ ⟨?_, ⟨elem, ?_⟩, ?_, ?_⟩ (Grow.push h _)
 ·simp
 ·have := AH.has_push h (List.replicate n (AV.int .u64 0)) elem
  rw [List.map_replicate]
  exact this
 ·intro x hx
  rw [List.eq_of_mem_replicate hx]
  omega
 ·simp; omega
end
def InB (s : Sl) (i : Nat) : Prop := ∀ r, s.ref = some r → ∃ o, r = .new i o
theorem InB.own {s : Sl} {i : Nat} (b : InB s i) {h : AH} (hi : h.blks.size ≤ i) : Own h s := fun r hr => by
 obtain ⟨o, rfl⟩ := b r hr
 exact ⟨i, o, rfl, hi⟩
theorem InB.cut {s s' : Sl} {l n : Int} {m i : Nat} (b : InB s i) (e : cutSl s l n m = some s') : InB s' i := fun r hr => by
 have key : s'.ref = s.ref ∨ ∃ d, s'.ref = s.ref.map (·.add d) := by
  unfold cutSl at e
  split at e
  ·cases hc : decide (0 ≤ l ∧ l ≤ n ∧ n ≤ ((_ : Nat) : Int)) with
   | true =>
    rw [hc, cond_true] at e
    cases e
    dsimp only
    split
    ·exact .inl rfl
    ·exact .inr ⟨_, rfl⟩
   | false => rw [hc, cond_false] at e; cases e
  ·cases hc : decide (0 ≤ l ∧ l ≤ n ∧ n ≤ (s.len : Int)) with
   | true =>
    rename_i z _
    cases hz : Nat.beq z m with
    | true =>
     rw [hz, hc, cond_true, cond_true] at e
     cases e
     exact .inr ⟨_, rfl⟩
    | false => rw [hz] at e; cases e
   | false =>
    rename_i z _
    cases hz : Nat.beq z m with
    | true => rw [hz, hc, cond_true, cond_false] at e; cases e
    | false => rw [hz] at e; cases e
 rcases key with k | ⟨d, k⟩
 ·exact b r (k ▸ hr)
 ·rw [k, Option.map_eq_some_iff] at hr
  obtain ⟨r0, e1, rfl⟩ := hr
  obtain ⟨o, rfl⟩ := b r0 e1
  exact ⟨_, rfl⟩
structure Win (s : Sl) (i lo n : Nat) : Prop where
 ref : s.ref = some (.new i lo)
 len : s.len = n
 fit : s.fit 1
theorem Win.nats {h : AH} {s t : Sl} {i lo n : Nat} {xs : List Nat} (w : Win s i lo n) (v : Vec h t i xs) (hl : lo + n ≤ xs.length) : Nats h s ((xs.drop lo).take n) := by
 have hlen : ((xs.drop lo).take n).length = n := by simp; omega
 obtain ⟨e, b⟩ := v.has
 refine ⟨⟨w.fit, by rw [w.len, List.length_map, hlen, Nat.mul_one], fun k y hy => ⟨_, w.ref, ?_⟩⟩, fun y hy => v.lt y (List.mem_of_mem_drop (List.mem_of_mem_take hy)), by have := v.short; omega⟩
 rw [Ref.add_new, b.cell]
 rw [List.getElem?_map] at hy ⊢
 rw [List.getElem?_take] at hy
 split at hy
 ·rwa [List.getElem?_drop] at hy
 ·cases hy
def Av (s : Sl) (i : Nat) (xs : List Nat) : Prop := xs = [] ∨ ∀ o, s.ref ≠ some (.new i o)
theorem Av.of_base {h0 : AH} {s : Sl} {xs : List Nat} (n : Nats h0 s xs) {i : Nat} (hi : h0.blks.size ≤ i) : Av s i xs := by
 by_cases hx : xs = []
 ·exact .inl hx
 ·right
  intro o ho
  have hl : 0 < xs.length := by cases xs; exact absurd rfl hx; simp
  obtain ⟨r, e1, e2⟩ := n.cells.get 0 _ (by rw [List.getElem?_map, List.getElem?_eq_getElem hl]; rfl)
  rw [ho] at e1
  cases e1
  have := AH.cell_inn e2
  simp only [Ref.add_new, Ref.inn] at this
  omega
theorem Av.nil (s : Sl) (i : Nat) : Av s i [] := .inl rfl
theorem Nats.upda {h1 h2 : AH} {s : Sl} {xs : List Nat} (c : Nats h1 s xs) {i : Nat} (av : Av s i xs) (u : Upd h1 h2 i) : Nats h2 s xs :=
 ⟨⟨c.cells.fit, c.cells.len, fun k v hv => by
  obtain ⟨r, e1, e2⟩ := c.cells.get k v hv
  refine ⟨r, e1, u.cell e2 fun o' he => ?_⟩
  rcases av with rfl | av
  ·simp at hv
  ·cases r with
   | old a => cases he
   | new j o =>
    simp only [Ref.add_new, Ref.new.injEq] at he
    exact av o (by rw [e1, he.1])⟩, c.lt, c.short⟩
end Go.Ab

/- squeezed -/
set_option linter.unusedVariables false
namespace Go.Ab
section
variable {P : AV → AH → Prop} {K : AV × AH → Option (AV × AH)}
end
end Go.Ab

/- squeezed -/
set_option linter.unusedVariables false
set_option linter.unusedSimpArgs false
namespace Go.Ab
variable {P : Program}
inductive All2 {α β : Type} (R : α → β → Prop) : List α → List β → Prop
 | nil : All2 R [] []
 | cons {a : α} {b : β} {ls : List α} {bs : List β} : R a b → All2 R ls bs → All2 R (a :: ls) (b :: bs)
section
variable {α β : Type} {R S : α → β → Prop}
theorem All2.imp (f : ∀ a b, R a b → S a b) {ls : List α} {bs : List β} (a : All2 R ls bs) : All2 S ls bs := by
 induction a with
 | nil => exact .nil
 | cons h _ ih => exact .cons (f _ _ h) ih
theorem All2.length {ls : List α} {bs : List β} (a : All2 R ls bs) : ls.length = bs.length := by
 induction a with
 | nil => rfl
 | cons h _ ih => simp [ih]
theorem All2.get {ls : List α} {bs : List β} (a : All2 R ls bs) : ∀ {i : Nat} {y : β}, bs[i]? = some y → ∃ x, ls[i]? = some x ∧ R x y := by
 induction a with
 | nil => intro i y h; simp at h
 | cons h _ ih =>
  intro i y hy
  cases i with
  | zero => cases hy; exact ⟨_, rfl, h⟩
  | succ i => exact ih hy
theorem All2.snoc {ls : List α} {bs : List β} (a : All2 R ls bs) {x : α} {y : β} (h : R x y) : All2 R (ls ++ [x]) (bs ++ [y]) := by
 induction a with
 | nil => exact .cons h .nil
 | cons h' _ ih => exact .cons h' ih
end
structure El (α : Type) where
 w : Nat
 pos : 0 < w
 has : AH → List AV → α → Prop
 av : Nat → List AV → α → Prop
 len : ∀ {h : AH} {cs : List AV} {a : α}, has h cs a → cs.length = w
 grow : ∀ {h h' : AH} {cs : List AV} {a : α}, Grow h h' → has h cs a → has h' cs a
 upd : ∀ {h h' : AH} {i : Nat} {cs : List AV} {a : α}, has h cs a → av i cs a → Upd h h' i → has h' cs a
 new : ∀ {h : AH} {i : Nat} {cs : List AV} {a : α}, has h cs a → h.blks.size ≤ i → av i cs a
def El.int (k : IntKind) : El Int where
 w := 1
 pos := by decide
 has _ cs n := cs = [.int k n]
 av _ _ _ := True
 len e := by rw [e]; rfl
 grow _ e := e
 upd e _ _ := e
 new _ _ := trivial
def El.bool : El Bool where
 w := 1
 pos := by decide
 has _ cs b := cs = [.bool b]
 av _ _ _ := True
 len e := by rw [e]; rfl
 grow _ e := e
 upd e _ _ := e
 new _ _ := trivial
theorem Sl.vs_inj {s t : Sl} (h : [Sl.v s] = [Sl.v t]) : s = t := by
 cases s; cases t
 simp only [Sl.v, List.cons.injEq, AV.slice.injEq, and_true] at h
 obtain ⟨rfl, rfl, rfl⟩ := h
 rfl
def El.nats : El (List Nat) where
 w := 1
 pos := by decide
 has h cs xs := ∃ s, cs = [Sl.v s] ∧ Nats h s xs
 av i cs xs := ∃ s, cs = [Sl.v s] ∧ Av s i xs
 len := fun ⟨s, e, _⟩ => by rw [e]; rfl
 grow g := fun ⟨s, e, n⟩ => ⟨s, e, n.grow g⟩
 upd := fun ⟨s, e, n⟩ ⟨t, e', a⟩ u => by
  rw [e] at e'
  cases Sl.vs_inj e'
  exact ⟨s, e, n.upda a u⟩
 new := fun ⟨s, e, n⟩ hi => ⟨s, e, Av.of_base n hi⟩
def El.pair {α β : Type} (A : El α) (B : El β) : El (α × β) where
 w := A.w + B.w
 pos := by have := A.pos; omega
 has h cs p := ∃ c1 c2, cs = c1 ++ c2 ∧ A.has h c1 p.1 ∧ B.has h c2 p.2
 av i cs p := ∃ c1 c2, cs = c1 ++ c2 ∧ c1.length = A.w ∧ A.av i c1 p.1 ∧ B.av i c2 p.2
 len := fun ⟨c1, c2, e, a, b⟩ => by rw [e, List.length_append, A.len a, B.len b]
 grow g := fun ⟨c1, c2, e, a, b⟩ => ⟨c1, c2, e, A.grow g a, B.grow g b⟩
 upd := fun ⟨c1, c2, e, a, b⟩ ⟨d1, d2, e', l, a', b'⟩ u => by
  rw [e] at e'
  obtain ⟨rfl, rfl⟩ := List.append_inj e' (by rw [A.len a, l])
  exact ⟨c1, c2, e, A.upd a a' u, B.upd b b' u⟩
 new := fun ⟨c1, c2, e, a, b⟩ hi => ⟨c1, c2, e, A.len a, A.new a hi, B.new b hi⟩
theorem kbq {w : Nat} : ∀ {rows : List (List AV)}, (∀ r ∈ rows, r.length = w) → rows.flatten.length = rows.length * w
 | [], _ => by simp
 | r :: rows, h => by
  rw [List.flatten_cons, List.length_append, kbq (fun q hq => h q (by simp [hq])), h r (by simp), List.length_cons, Nat.add_mul]
  omega
theorem ked {w : Nat} : ∀ {rows : List (List AV)}, (∀ r ∈ rows, r.length = w) → ∀ {i : Nat} {r : List AV} {k : Nat} {v : AV}, rows[i]? = some r → r[k]? = some v → rows.flatten[i * w + k]? = some v
 | [], _, i, r, k, v, hi, _ => by simp at hi
 | q :: rows, h, 0, r, k, v, hi, hk => by
  cases hi
  rw [List.flatten_cons, List.getElem?_append_left (by have := (List.getElem?_eq_some_iff.1 hk).1; omega)]
  simpa using hk
 | q :: rows, h, i + 1, r, k, v, hi, hk => by
  have := ked (fun q hq => h q (by simp [hq])) (show rows[i]? = some r from hi) hk
  rw [List.flatten_cons, List.getElem?_append_right (by rw [h q (by simp), Nat.add_mul]; omega), h q (by simp), show (i + 1) * w + k - w = i * w + k from by rw [Nat.add_mul]; omega]
  exact this
theorem All2.rows {α : Type} {E : El α} {h : AH} {rows : List (List AV)} {xs : List α} (a : All2 (E.has h) rows xs) : ∀ r ∈ rows, r.length = E.w := by
 induction a with
 | nil => simp
 | cons h' _ ih =>
  intro r hr
  rcases List.mem_cons.1 hr with rfl | hr
  ·exact E.len h'
  ·exact ih r hr
structure Seq {α : Type} (E : El α) (h : AH) (s : Sl) (xs : List α) : Prop where
 rows : ∃ rows, Cells h s E.w rows.flatten ∧ All2 (E.has h) rows xs
 len : s.len = xs.length
 short : xs.length ≤ 9223372036854775807
theorem Seq.grow {α : Type} {E : El α} {h h' : AH} {s : Sl} {xs : List α} (n : Seq E h s xs) (g : Grow h h') : Seq E h' s xs := by
 obtain ⟨⟨rows, c, a⟩, l, sh⟩ := n
 exact ⟨⟨rows, c.grow g, a.imp fun _ _ => E.grow g⟩, l, sh⟩
theorem Seq.nil {α : Type} (E : El α) (h : AH) : Seq E h ⟨none, 0, .is 0⟩ [] := ⟨⟨[], Cells.nil h _, .nil⟩, rfl, by simp⟩
def atX {α : Type} (xs : List α) (i : Int) : Option α := if 0 ≤ i then xs[i.toNat]? else none
theorem kjg {α : Type} {xs : List α} {i : Int} {y : α} (q : atX xs i = some y) : ∃ j : Nat, i = (j : Int) ∧ xs[j]? = some y := by
 unfold atX at q
 split at q
 ·exact ⟨i.toNat, by omega, q⟩
 ·cases q
theorem kej {α : Type} {xs : List α} {i : Nat} (h : i < xs.length) : atX xs (i : Int) = some xs[i] := by
 unfold atX
 rw [if_pos (by omega), Int.toNat_natCast, List.getElem?_eq_getElem h]
structure Lies (h : AH) (r : Ref) (cs : List AV) : Prop where
 at' : ∀ k v, cs[k]? = some v → h.cell (r.add k) = some v
theorem Lies.rd {A : Type} {f : AV → Option A} {h h' : AH} {r : Ref} {cs : List AV} (l : Lies h r cs) (g : Grow h h') (k : Nat) {v : AV} {x : A} (hk : cs[k]? = some v) (hf : f v = some x) : (h'.cell (r.add k)).bind f = some x := by
 rw [g.cell_some (l.at' k v hk)]
 exact hf
theorem Lies.rd0 {A : Type} {f : AV → Option A} {h h' : AH} {r : Ref} {cs : List AV} (l : Lies h r cs) (g : Grow h h') {v : AV} {x : A} (hk : cs[0]? = some v) (hf : f v = some x) : (h'.cell r).bind f = some x := by
 have := l.rd g 0 hk hf
 rwa [Ref.add_zero] at this
theorem Seq.at {α : Type} {E : El α} {h : AH} {s : Sl} {xs : List α} (n : Seq E h s xs) {i : Int} {y : α} (q : atX xs i = some y) : ∃ (r : Ref) (cs : List AV), idx s.ref xs.length i E.w = some r ∧ E.has h cs y ∧ Lies h r cs := by
 obtain ⟨⟨rows, c, a⟩, l, sh⟩ := n
 obtain ⟨j, rfl, hj⟩ := kjg q
 obtain ⟨cs, e1, e2⟩ := a.get hj
 have hjl := (List.getElem?_eq_some_iff.1 hj).1
 have hr := a.rows
 have key : ∀ k v, cs[k]? = some v → ∃ r, s.ref = some r ∧ h.cell (r.add (j * E.w + k)) = some v := fun k v hk => c.get _ _ (ked hr e1 hk)
 cases hs : s.ref with
 | none =>
  exfalso
  cases cs with
  | nil => have := E.len e2; have := E.pos; simp at *; omega
  | cons v vs =>
   obtain ⟨r, e, _⟩ := key 0 v rfl
   rw [hs] at e
   cases e
 | some r =>
  refine ⟨r.add (j * E.w), cs, ?_, e2, ⟨fun k v hk => ?_⟩⟩
  ·rw [kc6 _ _ _ _ (by omega) (by omega)]
   simp
  ·obtain ⟨r', e, e'⟩ := key k v hk
   rw [hs] at e
   cases e
   rw [Ref.add_add]
   exact e'
structure GL {α : Type} (E : El α) (elem : TypeId) (h : AH) (s : Sl) (i : Nat) (xs : List α) : Prop where
 rows : ∃ rows, Cells h s E.w rows.flatten ∧ All2 (fun cs a => E.has h cs a ∧ E.av i cs a) rows xs
 len : s.len = xs.length
 own : s.cap = .is s.len ∨ (s.ref = some (.new i 0) ∧ s.cap = .opn E.w ∧ ∃ bs, h.has i bs elem)
 loc : ∀ r, s.ref = some r → ∃ o, r = .new i o
theorem GL.nil {α : Type} (E : El α) (elem : TypeId) (h : AH) (i : Nat) : GL E elem h ⟨none, 0, .is 0⟩ i [] :=
 ⟨⟨[], Cells.nil h _, .nil⟩, rfl, .inl rfl, fun r hr => by cases hr⟩
theorem GL.grow {α : Type} {E : El α} {elem : TypeId} {h h' : AH} {s : Sl} {i : Nat} {xs : List α} (v : GL E elem h s i xs) (g : Grow h h') : GL E elem h' s i xs := by
 obtain ⟨⟨rows, c, a⟩, l, o, lo⟩ := v
 exact ⟨⟨rows, c.grow g, a.imp fun _ _ p => ⟨E.grow g p.1, p.2⟩⟩, l, o.imp id fun ⟨e1, e2, bs, b⟩ => ⟨e1, e2, bs, g.has b⟩, lo⟩
theorem GL.seq {α : Type} {E : El α} {elem : TypeId} {h : AH} {s : Sl} {i : Nat} {xs : List α} (v : GL E elem h s i xs) (hs : xs.length ≤ 9223372036854775807) : Seq E h s xs := by
 obtain ⟨⟨rows, c, a⟩, l, o, lo⟩ := v
 exact ⟨⟨rows, c, a.imp fun _ _ p => p.1⟩, l, hs⟩
theorem GL.own_of {α : Type} {E : El α} {elem : TypeId} {h h0 : AH} {s : Sl} {i : Nat} {xs : List α} (v : GL E elem h s i xs) (hi : h0.blks.size ≤ i) : Own h0 s := fun r hr => by
 obtain ⟨o, rfl⟩ := v.loc r hr
 exact ⟨i, o, rfl, hi⟩
theorem AH.kill_Upd (h : AH) (i : Nat) : Upd h (h.kill (some (.new i 0))) i :=
 ⟨rfl, by simp [AH.kill], fun j hj _ => by
  show (h.blks.setIfInBounds i .dead)[j]? = _
  rw [Array.getElem?_setIfInBounds_ne (fun x => hj x.symm)]⟩
theorem GL.push {α : Type} {E : El α} {elem : TypeId} {h : AH} {s : Sl} {i : Nat} {xs : List α} (v : GL E elem h s i xs) {cs : List AV} {x : α} (c : E.has h cs x) (a : E.av i cs x) (hg : growOk P (xs.length + 1) elem E.w = true) :
  ∃ s' h', kv P s cs 1 elem E.w h = some (s'.v, h') ∧ GL E elem h' s' h.blks.size (xs ++ [x]) ∧ Upd h h' i := by
 obtain ⟨⟨rows, cc, aa⟩, l, o, lo⟩ := v
 rw [← l] at hg
 have fl : (s.len + 1) * E.w = (rows.flatten ++ cs).length := by rw [Nat.add_mul, cc.len, List.length_append, E.len c, Nat.one_mul]
 have fr : rows.flatten ++ cs = (rows ++ [cs]).flatten := by simp
 rcases o with e | ⟨e1, e2, bs, b⟩
 ·rw [kha e (by omega) hg cc]
  refine ⟨_, _, rfl, ⟨⟨rows ++ [cs], ⟨rfl, by rw [← fr]; exact fl, fun j w hw => ⟨_, rfl, ?_⟩⟩, ?_⟩, by simp [l], .inr ⟨rfl, rfl, rows.flatten ++ cs, AH.has_push _ _ _⟩, fun r hr => by cases hr; exact ⟨_, rfl⟩⟩, (Grow.push _ _).toUpd i⟩
  ·rw [fr]
   simpa using hw
  ·refine All2.snoc (aa.imp fun _ _ p => ?_) ⟨E.grow (Grow.push _ _) c, E.new c (Nat.le_refl _)⟩
   exact ⟨E.grow (Grow.push _ _) p.1, E.new p.1 (Nat.le_refl _)⟩
 ·have hap : kv P s cs 1 elem E.w h = some (Sl.v ⟨some (.new h.blks.size 0), s.len + 1, .opn E.w⟩, (h.kill s.ref).push (.cells (rows.flatten ++ cs) elem)) := by
   unfold kv
   simp only [e2]
   rw [show Nat.beq 1 0 = false from rfl, show Nat.beq E.w E.w = true from Nat.beq_refl _]
   simp only [cond_false, hg, Bool.and_true, cond_true, e1, show h.blks[i]? = _ from b]
   have hgets := cc.gets
   rw [e1] at hgets
   simp only [hgets, Option.bind_some]
   rw [show Nat.beq elem elem = true from Nat.beq_refl _, cond_true]
   have : (AH.kill h (some (Ref.new i 0))).blks.size = h.blks.size := by simp [AH.kill]
   simp [AH.next, this, Sl.v]
   rfl
  rw [hap, e1]
  have sz : (h.kill (some (.new i 0))).blks.size = h.blks.size := by simp [AH.kill]
  have u : Upd h (h.kill (some (.new i 0))) i := AH.kill_Upd h i
  refine ⟨_, _, rfl, ⟨⟨rows ++ [cs], ⟨rfl, by rw [← fr]; exact fl, fun j w hw => ⟨_, rfl, ?_⟩⟩, ?_⟩, by simp [l], .inr ⟨rfl, rfl, rows.flatten ++ cs, ?_⟩, fun r hr => by cases hr; exact ⟨_, rfl⟩⟩, u.trans ((Grow.push _ _).toUpd i)⟩
  ·rw [fr, ← sz]
   simpa using hw
  ·refine All2.snoc (aa.imp fun _ _ p => ?_) ⟨E.grow (Grow.push _ _) (E.upd c a u), E.new c (Nat.le_refl _)⟩
   exact ⟨E.grow (Grow.push _ _) (E.upd p.1 p.2 u), E.new p.1 (Nat.le_refl _)⟩
  ·have := AH.has_push (h.kill (some (.new i 0))) (rows.flatten ++ cs) elem
   rw [sz] at this
   exact this
theorem kc9 {h : AH} {i n : Nat} {cs : List AV} {e elem : TypeId} (b : h.has i cs e) (hl : n * P.cellsOf elem = cs.length) : kba P elem (Sl.v ⟨some (.new i 0), n, .is n⟩) h = some (cs, n) :=
 kku (Cells.of_has b hl)
section
variable {Q : AV → AH → Prop}
theorem Runs.putAt {h : AH} {i o : Nat} {cs cs' vs : List AV} {e : TypeId} {K : AH → Option (AV × AH)} (b : h.has i cs e) (hl : o + vs.length ≤ cs.length) (hc : cs.take o ++ vs ++ cs.drop (o + vs.length) = cs') (H : ∀ h', h'.has i cs' e → Upd h h' i → Runs (K h') Q) : Runs ((h.puts ((Ref.new i 0).add o) vs).bind K) Q := by
 subst hc
 rw [Ref.add_new, Nat.zero_add, b.puts hl]
 exact H _ (AH.has_upd b _ e) (AH.upd_Upd h i _ e)
end
end Go.Ab

/- squeezed -/
set_option linter.unusedVariables false
set_option linter.unusedSimpArgs false
namespace Go.Ab
end Go.Ab

/- squeezed -/
set_option linter.unusedVariables false
set_option linter.unusedSimpArgs false
namespace Go.Ab
variable {P : Program}
def UpdO (h h' : AH) : Option Nat → Prop
 | none => Grow h h'
 | some k => Upd h h' k
def AvO (s : Sl) (xs : List Nat) : Option Nat → Prop
 | none => True
 | some k => Av s k xs
def LeO (n : Nat) : Option Nat → Prop
 | none => True
 | some k => n ≤ k
def LtO (n : Nat) : Option Nat → Prop
 | none => True
 | some k => k < n
def NeO (j : Nat) : Option Nat → Prop
 | none => True
 | some k => j ≠ k
def NeOO : Option Nat → Option Nat → Prop
 | none, _ => True
 | some j, i => NeO j i
theorem LeO.trans {m n : Nat} (h : m ≤ n) : ∀ {i : Option Nat}, LeO n i → LeO m i
 | none, _ => trivial
 | some k, l => Nat.le_trans h l
theorem NeO.of_le {j n : Nat} : ∀ {i : Option Nat}, LeO n i → j < n → NeO j i
 | none, _, _ => trivial
 | some k, l, h => by
  have : n ≤ k := l
  show j ≠ k
  omega
theorem NeOO.of_le {n : Nat} : ∀ {j i : Option Nat}, LtO n j → LeO n i → NeOO j i
 | none, _, _, _ => trivial
 | some j, _, l, h => NeO.of_le h l
theorem AvO.of_base {h0 : AH} {s : Sl} {xs : List Nat} (n : Nats h0 s xs) : ∀ {i : Option Nat}, LeO h0.blks.size i → AvO s xs i
 | none, _ => trivial
 | some k, l => Av.of_base n l
theorem AvO.nil (i : Option Nat) (s : Sl) : AvO s [] i := by
 cases i
 ·trivial
 ·exact .inl rfl
theorem UpdO.trans {h1 h2 h3 : AH} : ∀ {i : Option Nat}, UpdO h1 h2 i → UpdO h2 h3 i → UpdO h1 h3 i
 | none, u, w => Grow.trans u w
 | some k, u, w => Upd.trans u w
theorem Grow.updo {h h1 h2 : AH} (g : Grow h h1) : ∀ {i : Option Nat}, LeO h.blks.size i → UpdO h1 h2 i → Grow h h2
 | none, _, u => g.trans u
 | some k, l, u => g.updr l u
theorem AH.has.updo {h1 h2 : AH} {j : Nat} {cs : List AV} {e : TypeId} (b : h1.has j cs e) : ∀ {i : Option Nat}, NeO j i → UpdO h1 h2 i → h2.has j cs e
 | none, _, u => u.has b
 | some k, l, u => AH.has.updr b l u
theorem Vec.updo {h1 h2 : AH} {s : Sl} {j : Nat} {xs : List Nat} (b : Vec h1 s j xs) : ∀ {i : Option Nat}, NeO j i → UpdO h1 h2 i → Vec h2 s j xs
 | none, _, u => b.grow u
 | some k, l, u => b.updr l u
theorem Nats.updo {h1 h2 : AH} {s : Sl} {xs : List Nat} (b : Nats h1 s xs) : ∀ {i : Option Nat}, AvO s xs i → UpdO h1 h2 i → Nats h2 s xs
 | none, _, u => b.grow u
 | some k, l, u => b.upda l u
def GO {α : Type} (E : El α) (elem : TypeId) (h : AH) (s : Sl) (i : Option Nat) (xs : List α) : Prop :=
 xs.length ≤ 9223372036854775807 ∧ match i with
 | none => s = ⟨none, 0, .is 0⟩ ∧ xs = []
 | some k => GL E elem h s k xs ∧ k < h.blks.size
def AvE {α : Type} (E : El α) (cs : List AV) (x : α) : Option Nat → Prop
 | none => True
 | some k => E.av k cs x
variable {α : Type} {E : El α} {elem : TypeId}
theorem GO.none (E : El α) (elem : TypeId) (h : AH) : GO E elem h ⟨none, 0, .is 0⟩ none [] := ⟨by simp, rfl, rfl⟩
theorem GO.grow {h h' : AH} {s : Sl} : ∀ {i : Option Nat} {xs : List α}, GO E elem h s i xs → Grow h h' → GO E elem h' s i xs
 | .none, _, v, g => v
 | .some k, _, ⟨l, v, lt⟩, g => ⟨l, v.grow g, Nat.lt_of_lt_of_le lt g.size⟩
theorem GO.lt {h : AH} {s : Sl} : ∀ {i : Option Nat} {xs : List α}, GO E elem h s i xs → LtO h.blks.size i
 | .none, _, _ => trivial
 | .some k, _, v => v.2.2
theorem GO.seq {h : AH} {s : Sl} : ∀ {i : Option Nat} {xs : List α}, GO E elem h s i xs → Seq E h s xs
 | .none, xs, ⟨_, e1, e2⟩ => by
  subst e1; subst e2
  exact Seq.nil E h
 | .some k, _, v => v.2.1.seq v.1
theorem GO.len {h : AH} {s : Sl} {i : Option Nat} {xs : List α} (v : GO E elem h s i xs) : s.len = xs.length := v.seq.len
theorem GO.own {h h0 : AH} {s : Sl} : ∀ {i : Option Nat} {xs : List α}, GO E elem h s i xs → LeO h0.blks.size i → Own h0 s
 | .none, _, v, _ => fun r hr => by rw [v.2.1] at hr; cases hr
 | .some k, _, v, l => v.2.1.own_of l
theorem GL.lt {h : AH} {s : Sl} {i : Nat} {x : α} {xs : List α} (v : GL E elem h s i (xs ++ [x])) : i < h.blks.size := by
 obtain ⟨⟨rows, c, a⟩, l, o, lo⟩ := v
 have hr : rows.length = xs.length + 1 := by have := All2.length a; simpa using this
 have hf := kbq (w := E.w) (rows := rows) (All2.rows (a.imp fun _ _ p => p.1))
 have hp := E.pos
 have h0 : 0 < rows.flatten.length := by
  rw [hf, hr]
  exact Nat.mul_pos (by omega) hp
 obtain ⟨r, e1, e2⟩ := c.get 0 _ (List.getElem?_eq_getElem h0)
 obtain ⟨k, rfl⟩ := lo r e1
 have := AH.cell_inn e2
 rw [Ref.add_new] at this
 exact this
theorem kh8 {n m : Nat} (h : growOk P n elem m = true) : n ≤ 9223372036854775807 := by
 unfold growOk at h
 rw [Bool.and_eq_true, decide_eq_true_eq] at h
 have := h.1.2
 simp only [kp] at this
 omega
theorem GO.push {h : AH} {s : Sl} {i : Option Nat} {xs : List α} (v : GO E elem h s i xs) {cs : List AV} {x : α} (c : E.has h cs x) (a : AvE E cs x i) (hg : growOk P (xs.length + 1) elem E.w = true) :
  ∃ s' h', kv P s cs 1 elem E.w h = some (s'.v, h') ∧ GO E elem h' s' (some h.blks.size) (xs ++ [x]) ∧ UpdO h h' i := by
 have hl := kh8 hg
 cases i with
 | none =>
  obtain ⟨_, e1, e2⟩ := v
  subst e1; subst e2
  obtain ⟨s', h', e, v', u⟩ := (GL.nil E elem h h.blks.size).push c (E.new c (Nat.le_refl _)) hg
  exact ⟨s', h', e, ⟨by simp, v', v'.lt⟩, (Grow.refl h).updr (Nat.le_refl _) u⟩
 | some k =>
  obtain ⟨s', h', e, v', u⟩ := v.2.1.push c a hg
  exact ⟨s', h', e, ⟨by simpa using hl, v', v'.lt⟩, u⟩
theorem Seq.lit {h : AH} {i n : Nat} {rows : List (List AV)} {e : TypeId} {xs : List α} (b : h.has i rows.flatten e) (a : All2 (E.has h) rows xs) (hn : xs.length = n) (hs : n ≤ 9223372036854775807 := by decide) : Seq E h ⟨some (.new i 0), n, .is n⟩ xs := by
 refine ⟨⟨rows, Cells.of_has b ?_, a⟩, hn.symm, by omega⟩
 rw [kbq a.rows, All2.length a, hn]
theorem AvE.nats {s : Sl} {xs : List Nat} : ∀ {i : Option Nat}, AvO s xs i → AvE El.nats [s.v] xs i
 | .none, _ => trivial
 | .some k, a => ⟨s, rfl, a⟩
theorem AvE.int {k : IntKind} {n : Int} {cs : List AV} : ∀ {i : Option Nat}, AvE (El.int k) cs n i
 | .none => trivial
 | .some _ => trivial
theorem AvE.bool {b : Bool} {cs : List AV} : ∀ {i : Option Nat}, AvE El.bool cs b i
 | .none => trivial
 | .some _ => trivial
theorem AvE.pair {α β : Type} {A : El α} {B : El β} {c1 c2 : List AV} {a : α} {b : β} : ∀ {i : Option Nat}, c1.length = A.w → AvE A c1 a i → AvE B c2 b i → AvE (El.pair A B) (c1 ++ c2) (a, b) i
 | .none, _, _, _ => trivial
 | .some k, l, x, y => ⟨c1, c2, rfl, l, x, y⟩
end Go.Ab

/- squeezed -/
set_option linter.unusedVariables false
set_option linter.unusedSimpArgs false
namespace Go.Ab
variable {P : Program}
abbrev Fp := Nat → Prop
def Fp.no : Fp := fun _ => False
def Fp.all : Fp := fun _ => True
def Fp.or (S T : Fp) : Fp := fun j => S j ∨ T j
def Fp.below (n : Nat) : Fp := fun j => j < n
def Fp.from (n : Nat) : Fp := fun j => n ≤ j
def Fp.sl (s : Sl) (xs : List Nat) : Fp := fun j => ¬ Av s j xs
theorem Fp.not_or {S T : Fp} {i : Nat} (a : ¬ S i) (b : ¬ T i) : ¬ (Fp.or S T) i := fun h => h.elim a b
theorem Fp.not_no {i : Nat} : ¬ Fp.no i := fun h => h
theorem Fp.not_below {n i : Nat} (h : n ≤ i) : ¬ (Fp.below n) i := fun k => by
 have : i < n := k
 omega
theorem Fp.not_from {n i : Nat} (h : i < n) : ¬ (Fp.from n) i := fun k => by
 have : n ≤ i := k
 omega
theorem Fp.not_sl {s : Sl} {xs : List Nat} {i : Nat} (a : Av s i xs) : ¬ (Fp.sl s xs) i := fun k => k a
def NotO (S : Fp) : Option Nat → Prop
 | none => True
 | some k => ¬ S k
theorem NotO.or {S T : Fp} : ∀ {i : Option Nat}, NotO S i → NotO T i → NotO (Fp.or S T) i
 | none, _, _ => trivial
 | some _, a, b => Fp.not_or a b
theorem NotO.no : ∀ {i : Option Nat}, NotO Fp.no i
 | none => trivial
 | some _ => Fp.not_no
theorem NotO.below {n : Nat} : ∀ {i : Option Nat}, LeO n i → NotO (Fp.below n) i
 | none, _ => trivial
 | some _, l => Fp.not_below l
theorem NotO.from {n : Nat} : ∀ {i : Option Nat}, LtO n i → NotO (Fp.from n) i
 | none, _ => trivial
 | some _, l => Fp.not_from l
theorem NotO.sl {s : Sl} {xs : List Nat} : ∀ {i : Option Nat}, AvO s xs i → NotO (Fp.sl s xs) i
 | none, _ => trivial
 | some _, l => Fp.not_sl l
theorem NotO.mono {S T : Fp} (h : ∀ j, S j → T j) : ∀ {i : Option Nat}, NotO T i → NotO S i
 | none, _ => trivial
 | some _, l => fun k => l (h _ k)
structure Ef (α : Type) where
 w : Nat
 pos : 0 < w
 has : AH → Fp → List AV → α → Prop
 len : ∀ {h : AH} {S : Fp} {cs : List AV} {a : α}, has h S cs a → cs.length = w
 grow : ∀ {h h' : AH} {S : Fp} {cs : List AV} {a : α}, Grow h h' → has h S cs a → has h' S cs a
 mono : ∀ {h : AH} {S T : Fp} {cs : List AV} {a : α}, (∀ j, S j → T j) → has h S cs a → has h T cs a
 upd : ∀ {h h' : AH} {S : Fp} {i : Nat} {cs : List AV} {a : α}, ¬ S i → Upd h h' i → has h S cs a → has h' S cs a
 bound : ∀ {h : AH} {S : Fp} {cs : List AV} {a : α}, has h S cs a → has h (fun j => S j ∧ j < h.blks.size) cs a
theorem Ef.updo {α : Type} (E : Ef α) {h h' : AH} {S : Fp} {cs : List AV} {a : α} : ∀ {i : Option Nat}, NotO S i → UpdO h h' i → E.has h S cs a → E.has h' S cs a
 | none, _, u, e => E.grow u e
 | some _, n, u, e => E.upd n u e
def Ef.int (k : IntKind) : Ef Int where
 w := 1
 pos := by decide
 has _ _ cs n := cs = [.int k n]
 len e := by rw [e]; rfl
 grow _ e := e
 mono _ e := e
 upd _ _ e := e
 bound e := e
def Ef.bool : Ef Bool where
 w := 1
 pos := by decide
 has _ _ cs b := cs = [.bool b]
 len e := by rw [e]; rfl
 grow _ e := e
 mono _ e := e
 upd _ _ e := e
 bound e := e
def Ef.str : Ef ByteArray where
 w := 1
 pos := by decide
 has _ _ cs b := cs = [.str b]
 len e := by rw [e]; rfl
 grow _ e := e
 mono _ e := e
 upd _ _ e := e
 bound e := e
def Ef.nats : Ef (List Nat) where
 w := 1
 pos := by decide
 has h S cs xs := ∃ s, cs = [Sl.v s] ∧ Nats h s xs ∧ ∀ j, ¬ Av s j xs → S j
 len := fun ⟨s, e, _, _⟩ => by rw [e]; rfl
 grow g := fun ⟨s, e, n, a⟩ => ⟨s, e, n.grow g, a⟩
 mono m := fun ⟨s, e, n, a⟩ => ⟨s, e, n, fun j k => m j (a j k)⟩
 upd no u := fun ⟨s, e, n, a⟩ => ⟨s, e, n.upda (Classical.byContradiction fun k => no (a _ k)) u, a⟩
 bound := fun {h} _ _ _ ⟨s, e, n, a⟩ => ⟨s, e, n, fun j k => ⟨a j k, by
  rcases Nat.lt_or_ge j h.blks.size with h1 | h1
  ·exact h1
  ·exact absurd (Av.of_base n h1) k⟩⟩
def Ef.pair {α β : Type} (A : Ef α) (B : Ef β) : Ef (α × β) where
 w := A.w + B.w
 pos := by have := A.pos; omega
 has h S cs p := ∃ c1 c2, cs = c1 ++ c2 ∧ A.has h S c1 p.1 ∧ B.has h S c2 p.2
 len := fun ⟨c1, c2, e, a, b⟩ => by rw [e, List.length_append, A.len a, B.len b]
 grow g := fun ⟨c1, c2, e, a, b⟩ => ⟨c1, c2, e, A.grow g a, B.grow g b⟩
 mono m := fun ⟨c1, c2, e, a, b⟩ => ⟨c1, c2, e, A.mono m a, B.mono m b⟩
 upd no u := fun ⟨c1, c2, e, a, b⟩ => ⟨c1, c2, e, A.upd no u a, B.upd no u b⟩
 bound := fun ⟨c1, c2, e, a, b⟩ => ⟨c1, c2, e, A.bound a, B.bound b⟩
theorem All2.set {α β : Type} {R : α → β → Prop} {l : List α} {m : List β} (a : All2 R l m) {x : α} {y : β} (h : R x y) : ∀ j : Nat, All2 R (l.set j x) (m.set j y) := by
 induction a with
 | nil => intro j; exact .nil
 | cons h1 h2 ih =>
  intro j
  cases j with
  | zero => exact .cons h h2
  | succ j => exact .cons h1 (ih j)
def RefIn (S : Fp) (s : Sl) (n : Nat) : Prop := n = 0 ∨ ∀ j o, s.ref = some (.new j o) → S j
structure Sq {α : Type} (E : Ef α) (h : AH) (S : Fp) (s : Sl) (xs : List α) : Prop where
 rows : ∃ rows, Cells h s E.w rows.flatten ∧ All2 (E.has h S) rows xs
 len : s.len = xs.length
 short : xs.length ≤ 9223372036854775807
 at' : RefIn S s xs.length
variable {α : Type} {E : Ef α}
theorem Ef.rows {h : AH} {S : Fp} {rows : List (List AV)} {xs : List α} (a : All2 (E.has h S) rows xs) : ∀ r ∈ rows, r.length = E.w := by
 induction a with
 | nil => simp
 | cons h' _ ih =>
  intro r hr
  rcases List.mem_cons.1 hr with rfl | hr
  ·exact E.len h'
  ·exact ih r hr
theorem Cells.updn {h h' : AH} {s : Sl} {n : Nat} {flat : List AV} (c : Cells h s n flat) {i : Nat} (hi : ∀ o, s.ref ≠ some (.new i o)) (u : Upd h h' i) : Cells h' s n flat :=
 ⟨c.fit, c.len, fun k v hv => by
  obtain ⟨r, e1, e2⟩ := c.get k v hv
  refine ⟨r, e1, u.cell e2 fun o he => ?_⟩
  cases r with
  | old a => cases he
  | new j p =>
   simp only [Ref.add_new, Ref.new.injEq] at he
   exact hi p (by rw [e1, he.1])⟩
theorem Sq.grow {h h' : AH} {S : Fp} {s : Sl} {xs : List α} (n : Sq E h S s xs) (g : Grow h h') : Sq E h' S s xs := by
 obtain ⟨⟨rows, c, a⟩, l, sh, at'⟩ := n
 exact ⟨⟨rows, c.grow g, a.imp fun _ _ => E.grow g⟩, l, sh, at'⟩
theorem Sq.mono {h : AH} {S T : Fp} {s : Sl} {xs : List α} (n : Sq E h S s xs) (m : ∀ j, S j → T j) : Sq E h T s xs := by
 obtain ⟨⟨rows, c, a⟩, l, sh, at'⟩ := n
 exact ⟨⟨rows, c, a.imp fun _ _ => E.mono m⟩, l, sh, at'.imp id fun f j o e => m j (f j o e)⟩
theorem Sq.nil (E : Ef α) (h : AH) (S : Fp) : Sq E h S ⟨none, 0, .is 0⟩ [] := ⟨⟨[], Cells.nil h _, .nil⟩, rfl, by simp, .inl rfl⟩
theorem Sq.upd {h h' : AH} {S : Fp} {s : Sl} {xs : List α} (n : Sq E h S s xs) {i : Nat} (no : ¬ S i) (u : Upd h h' i) : Sq E h' S s xs := by
 obtain ⟨⟨rows, c, a⟩, l, sh, at'⟩ := n
 refine ⟨⟨rows, ?_, a.imp fun _ _ => E.upd no u⟩, l, sh, at'⟩
 rcases at' with e | f
 ·have hr : rows.length = 0 := by rw [All2.length a, e]
  have hr : rows = [] := List.length_eq_zero_iff.1 hr
  subst hr
  exact ⟨c.fit, c.len, fun k v hv => by simp at hv⟩
 ·exact c.updn (fun o ho => no (f i o ho)) u
theorem Sq.updo {h h' : AH} {S : Fp} {s : Sl} {xs : List α} (n : Sq E h S s xs) : ∀ {i : Option Nat}, NotO S i → UpdO h h' i → Sq E h' S s xs
 | none, _, u => n.grow u
 | some _, no, u => n.upd no u
theorem Sq.bound {h : AH} {S : Fp} {s : Sl} {xs : List α} (n : Sq E h S s xs) : Sq E h (fun j => S j ∧ j < h.blks.size) s xs := by
 obtain ⟨⟨rows, c, a⟩, l, sh, at'⟩ := n
 refine ⟨⟨rows, c, a.imp fun _ _ => E.bound⟩, l, sh, ?_⟩
 rcases Nat.eq_zero_or_pos xs.length with e | e
 ·exact .inl e
 ·refine .inr fun j o hj => ⟨(at'.resolve_left (by omega)) j o hj, ?_⟩
  have hf := kbq (w := E.w) (rows := rows) (Ef.rows a)
  have h0 : 0 < rows.flatten.length := by
   rw [hf, All2.length a]
   exact Nat.mul_pos e E.pos
  obtain ⟨r, e1, e2⟩ := c.get 0 _ (List.getElem?_eq_getElem h0)
  rw [hj] at e1
  cases e1
  have := AH.cell_inn e2
  rw [Ref.add_new] at this
  exact this
def Ef.seq {α : Type} (E : Ef α) : Ef (List α) where
 w := 1
 pos := by decide
 has h S cs xs := ∃ s, cs = [Sl.v s] ∧ Sq E h S s xs
 len := fun ⟨s, e, _⟩ => by rw [e]; rfl
 grow g := fun ⟨s, e, n⟩ => ⟨s, e, n.grow g⟩
 mono m := fun ⟨s, e, n⟩ => ⟨s, e, n.mono m⟩
 upd no u := fun ⟨s, e, n⟩ => ⟨s, e, n.upd no u⟩
 bound := fun ⟨s, e, n⟩ => ⟨s, e, n.bound⟩
theorem Sq.at {h : AH} {S : Fp} {s : Sl} {xs : List α} (n : Sq E h S s xs) {i : Int} {y : α} (q : atX xs i = some y) : ∃ (r : Ref) (cs : List AV), idx s.ref xs.length i E.w = some r ∧ E.has h S cs y ∧ Lies h r cs := by
 obtain ⟨⟨rows, c, a⟩, l, sh, at'⟩ := n
 obtain ⟨j, rfl, hj⟩ := kjg q
 obtain ⟨cs, e1, e2⟩ := a.get hj
 have hjl := (List.getElem?_eq_some_iff.1 hj).1
 have hr := Ef.rows a
 have key : ∀ k v, cs[k]? = some v → ∃ r, s.ref = some r ∧ h.cell (r.add (j * E.w + k)) = some v := fun k v hk => c.get _ _ (ked hr e1 hk)
 cases hs : s.ref with
 | none =>
  exfalso
  cases cs with
  | nil => have := E.len e2; have := E.pos; simp at *; omega
  | cons v vs =>
   obtain ⟨r, e, _⟩ := key 0 v rfl
   rw [hs] at e
   cases e
 | some r =>
  refine ⟨r.add (j * E.w), cs, ?_, e2, ⟨fun k v hk => ?_⟩⟩
  ·rw [kc6 _ _ _ _ (by omega) (by omega)]
   simp
  ·obtain ⟨r', e, e'⟩ := key k v hk
   rw [hs] at e
   cases e
   rw [Ref.add_add]
   exact e'
theorem Sq.lit {h : AH} {S : Fp} {i n : Nat} {rows : List (List AV)} {e : TypeId} {xs : List α} (b : h.has i rows.flatten e) (a : All2 (E.has h S) rows xs) (hn : xs.length = n) (hs : n ≤ 9223372036854775807 := by decide) : Sq E h (Fp.or (fun j => j = i) S) ⟨some (.new i 0), n, .is n⟩ xs := by
 refine ⟨⟨rows, Cells.of_has b ?_, a.imp fun _ _ => E.mono fun j k => .inr k⟩, hn.symm, by omega, .inr fun j o e => ?_⟩
 ·rw [kbq (Ef.rows a), All2.length a, hn]
 ·cases e
  exact .inl rfl
def GF {α : Type} (E : Ef α) (elem : TypeId) (h : AH) (S : Fp) (s : Sl) (i : Option Nat) (xs : List α) : Prop :=
 xs.length ≤ 9223372036854775807 ∧ match i with
 | none => s = ⟨none, 0, .is 0⟩ ∧ xs = []
 | some k => ¬ S k ∧ s.ref = some (.new k 0) ∧ s.len = xs.length ∧ ∃ rows e, h.has k rows.flatten e ∧ (s.cap = .is s.len ∨ s.cap = .opn E.w ∧ e = elem) ∧ All2 (E.has h S) rows xs
variable {elem : TypeId}
theorem GF.none (E : Ef α) (elem : TypeId) (h : AH) (S : Fp) : GF E elem h S ⟨none, 0, .is 0⟩ none [] := ⟨by simp, rfl, rfl⟩
theorem GF.lit {h : AH} {S : Fp} {i n : Nat} {rows : List (List AV)} {xs : List α} {e : TypeId} (b : h.has i rows.flatten e) (c : All2 (E.has h S) rows xs) (a : ¬ S i) (hn : xs.length = n) (hs : n ≤ 9223372036854775807 := by decide) : GF E elem h S ⟨some (.new i 0), n, .is n⟩ (some i) xs :=
 ⟨by omega, a, rfl, hn.symm, rows, e, b, .inl rfl, c⟩
theorem GF.grow {h h' : AH} {S : Fp} {s : Sl} : ∀ {i : Option Nat} {xs : List α}, GF E elem h S s i xs → Grow h h' → GF E elem h' S s i xs
 | .none, _, v, g => v
 | .some k, _, ⟨l, a, r, ln, rows, e, b, c, r2⟩, g => ⟨l, a, r, ln, rows, e, g.has b, c, r2.imp fun _ _ => E.grow g⟩
theorem GF.lt {h : AH} {S : Fp} {s : Sl} : ∀ {i : Option Nat} {xs : List α}, GF E elem h S s i xs → LtO h.blks.size i
 | .none, _, _ => trivial
 | .some k, _, ⟨l, a, r, ln, rows, e, b, c, r2⟩ => b.lt
theorem GF.mono {h : AH} {S T : Fp} {s : Sl} : ∀ {i : Option Nat} {xs : List α}, GF E elem h S s i xs → (∀ j, S j → T j) → NotO T i → GF E elem h T s i xs
 | .none, _, v, _, _ => v
 | .some k, _, ⟨l, a, r, ln, rows, e, b, c, r2⟩, m, no => ⟨l, no, r, ln, rows, e, b, c, r2.imp fun _ _ => E.mono m⟩
theorem GF.bound {h : AH} {S : Fp} {s : Sl} : ∀ {i : Option Nat} {xs : List α}, GF E elem h S s i xs → GF E elem h (fun j => S j ∧ j < h.blks.size) s i xs
 | .none, _, v => v
 | .some k, _, ⟨l, a, r, ln, rows, e, b, c, r2⟩ => ⟨l, fun x => a x.1, r, ln, rows, e, b, c, r2.imp fun _ _ => E.bound⟩
def Fp.opt (i : Option Nat) : Fp := fun j => i = some j
theorem GF.sq {h : AH} {S : Fp} {s : Sl} : ∀ {i : Option Nat} {xs : List α}, GF E elem h S s i xs → Sq E h (Fp.or (Fp.opt i) S) s xs
 | .none, xs, ⟨_, e1, e2⟩ => by
  subst e1; subst e2
  exact Sq.nil E h _
 | .some k, _, ⟨l, a, r, ln, rows, e, b, c, r2⟩ => by
  have hc := Cells.of_has (n := E.w) (m := s.len) b (by rw [kbq (Ef.rows r2), All2.length r2, ln])
  refine ⟨⟨rows, ⟨?_, ?_, ?_⟩, r2.imp fun _ _ => E.mono fun j x => .inr x⟩, ln, l, .inr fun j o ho => ?_⟩
  ·rcases c with c | c
   ·unfold Sl.fit; rw [c]; exact Nat.le_refl _
   ·unfold Sl.fit; rw [c.1]
  ·exact hc.len
  ·rw [r]; exact hc.get
  ·rw [r] at ho
   cases ho
   exact .inl rfl
theorem GF.len {h : AH} {S : Fp} {s : Sl} {i : Option Nat} {xs : List α} (v : GF E elem h S s i xs) : s.len = xs.length := v.sq.len
theorem GF.own {h h0 : AH} {S : Fp} {s : Sl} : ∀ {i : Option Nat} {xs : List α}, GF E elem h S s i xs → LeO h0.blks.size i → Own h0 s
 | .none, _, v, _ => fun r hr => by rw [v.2.1] at hr; cases hr
 | .some k, _, ⟨_, _, r, _⟩, l => fun q hq => by
  rw [r] at hq
  cases hq
  exact ⟨k, 0, rfl, l⟩
theorem GF.upd {h h' : AH} {S : Fp} {s : Sl} {i : Nat} (u : Upd h h' i) (no : ¬ S i) : ∀ {j : Option Nat} {xs : List α}, GF E elem h S s j xs → (∀ k, j = some k → k ≠ i) → GF E elem h' S s j xs
 | .none, _, v, _ => v
 | .some k, _, ⟨l, a, r, ln, rows, e, b, c, r2⟩, ne => ⟨l, a, r, ln, rows, e, b.updr (ne k rfl) u, c, r2.imp fun _ _ => E.upd no u⟩
theorem GF.updo {h h' : AH} {S : Fp} {s : Sl} {j : Option Nat} {xs : List α} (v : GF E elem h S s j xs) : ∀ {i : Option Nat}, NotO S i → NeOO j i → UpdO h h' i → GF E elem h' S s j xs
 | .none, _, _, u => v.grow u
 | .some i, no, ne, u => v.upd u no fun k e => by
  subst e
  exact ne
theorem GF.set {h : AH} {S T : Fp} {s : Sl} {i : Option Nat} {xs : List α} (v : GF E elem h S s i xs) {cs : List AV} {x : α} (c : E.has h T cs x) (no : NotO T i) {z : Int} {j : Nat} (q : inI xs.length z = some j) :
  ∃ r h', idx s.ref xs.length z E.w = some r ∧ h.puts r cs = some h' ∧ GF E elem h' (Fp.or S T) s i (xs.set j x) ∧ UpdO h h' i := by
 obtain ⟨hz, hj⟩ := kfs q
 cases i with
 | none =>
  obtain ⟨_, e1, e2⟩ := v
  subst e2
  simp at hj
 | some k =>
  obtain ⟨l, a, r, ln, rows, e, b, cp, r2⟩ := v
  have hrl := All2.length r2
  have hr := Ef.rows r2
  have hw := E.len c
  have hfl := kbq hr
  have hle : j * E.w + cs.length ≤ rows.flatten.length := by
   rw [hfl, hw, ← Nat.succ_mul]
   exact Nat.mul_le_mul_right _ (by omega)
  have hfl2 : ∀ (rs : List (List AV)) (n : Nat), (∀ r ∈ rs, r.length = E.w) → rs.flatten.take (n * E.w) = (rs.take n).flatten ∧ rs.flatten.drop (n * E.w) = (rs.drop n).flatten := by
   intro rs
   induction rs with
   | nil => intro n _; simp
   | cons r rs ih =>
    intro n hh
    cases n with
    | zero => simp
    | succ n =>
     have h1 := ih n fun q hq => hh q (by simp [hq])
     have h2 := hh r (by simp)
     rw [Nat.succ_mul, List.flatten_cons, List.take_succ_cons, List.drop_succ_cons, List.flatten_cons, ← h1.1, ← h1.2]
     constructor
     ·rw [List.take_append, h2, List.take_of_length_le (by omega), Nat.add_sub_cancel]
     ·rw [List.drop_append, h2, List.drop_eq_nil_of_le (by omega), Nat.add_sub_cancel, List.nil_append]
  have key : rows.flatten.take (j * E.w) ++ cs ++ rows.flatten.drop (j * E.w + cs.length) = (rows.set j cs).flatten := by
   have h3 : j * E.w + cs.length = (j + 1) * E.w := by rw [hw, Nat.succ_mul]
   rw [h3, (hfl2 rows j hr).1, (hfl2 rows (j + 1) hr).2, List.set_eq_take_append_cons_drop, if_pos (by omega)]
   simp
  refine ⟨.new k (j * E.w), h.upd k (rows.set j cs).flatten e, ?_, ?_, ⟨by simpa using l, fun x => x.elim a no, r, by simpa using ln, rows.set j cs, e, AH.has_upd b _ _, cp, ?_⟩, AH.upd_Upd h k _ e⟩
  ·rw [r, hz, kc6 _ _ _ _ (by omega) (by omega)]
   simp
  ·rw [b.puts hle, key]
  ·have : All2 (fun cs a => E.has h (Fp.or S T) cs a) (rows.set j cs) (xs.set j x) := All2.set (r2.imp fun _ _ => E.mono fun j k => .inl k) (E.mono (fun j k => .inr k) c) j
   exact this.imp fun _ _ y => E.upd (fun x => x.elim a no) (AH.upd_Upd h k _ e) y
theorem GF.push {h : AH} {S T : Fp} {s : Sl} {i : Option Nat} {xs : List α} (v : GF E elem h S s i xs) {cs : List AV} {x : α} (c : E.has h T cs x) (no : NotO T i) (hg : growOk P (xs.length + 1) elem E.w = true) :
  ∃ s' h', kv P s cs 1 elem E.w h = some (s'.v, h') ∧ GF E elem h' (fun j => (Fp.or S T) j ∧ j < h.blks.size) s' (some h.blks.size) (xs ++ [x]) ∧ UpdO h h' i := by
 have hl := kh8 hg
 have hw := E.len c
 have nS : ¬ ((Fp.or S T) h.blks.size ∧ h.blks.size < h.blks.size) := fun k => Nat.lt_irrefl _ k.2
 cases i with
 | none =>
  obtain ⟨_, e1, e2⟩ := v
  subst e1; subst e2
  rw [kha (c := 0) rfl (by simp) (by simpa using hg) (Cells.nil h E.w)]
  refine ⟨_, _, rfl, ⟨by simp, nS, rfl, by simp, [cs], elem, ?_, .inr ⟨rfl, rfl⟩, .cons ?_ .nil⟩, Grow.push _ _⟩
  ·simpa using AH.has_push h cs elem
  ·refine E.grow (Grow.push _ _) (E.mono (fun j k => ⟨.inr k.1, k.2⟩) (E.bound c))
 | some k =>
  have sq := v.sq
  obtain ⟨l, a, r, ln, rows, e, b, cp, r2⟩ := v
  have hr := Ef.rows r2
  have cc : Cells h s E.w rows.flatten := by
   have hc := Cells.of_has (n := E.w) (m := s.len) b (by rw [kbq hr, All2.length r2, ln])
   refine ⟨?_, hc.len, by rw [r]; exact hc.get⟩
   rcases cp with c | c
   ·unfold Sl.fit; rw [c]; exact Nat.le_refl _
   ·unfold Sl.fit; rw [c.1]
  rw [← ln] at hg
  rcases cp with ce | ⟨ce, rfl⟩
  ·rw [kha ce (by omega) hg cc]
   refine ⟨_, _, rfl, ⟨by simpa using hl, nS, rfl, by simp [ln], rows ++ [cs], elem, ?_, .inr ⟨rfl, rfl⟩, All2.snoc (r2.imp fun _ _ y => ?_) ?_⟩, (Grow.push _ _).toUpd k⟩
   ·have := AH.has_push h (rows.flatten ++ cs) elem
    simpa using this
   ·exact E.grow (Grow.push _ _) (E.mono (fun j q => ⟨.inl q.1, q.2⟩) (E.bound y))
   ·exact E.grow (Grow.push _ _) (E.mono (fun j q => ⟨.inr q.1, q.2⟩) (E.bound c))
  ·have hap : kv P s cs 1 e E.w h = some (Sl.v ⟨some (.new h.blks.size 0), s.len + 1, .opn E.w⟩, (h.kill s.ref).push (.cells (rows.flatten ++ cs) e)) := by
    unfold kv
    simp only [ce]
    rw [show Nat.beq 1 0 = false from rfl, show Nat.beq E.w E.w = true from Nat.beq_refl _]
    simp only [cond_false, hg, Bool.and_true, cond_true, r, show h.blks[k]? = _ from b]
    have hgets := cc.gets
    rw [r] at hgets
    simp only [hgets, Option.bind_some]
    rw [show Nat.beq e e = true from Nat.beq_refl _, cond_true]
    have : (AH.kill h (some (Ref.new k 0))).blks.size = h.blks.size := by simp [AH.kill]
    simp [AH.next, this, Sl.v]
    rfl
   rw [hap, r]
   have sz : (h.kill (some (.new k 0))).blks.size = h.blks.size := by simp [AH.kill]
   have u : Upd h (h.kill (some (.new k 0))) k := AH.kill_Upd h k
   refine ⟨_, _, rfl, ⟨by simpa using hl, nS, rfl, by simp [ln], rows ++ [cs], e, ?_, .inr ⟨rfl, rfl⟩, All2.snoc (r2.imp fun _ _ y => ?_) ?_⟩, u.trans ((Grow.push _ _).toUpd k)⟩
   ·have := AH.has_push (h.kill (some (.new k 0))) (rows.flatten ++ cs) e
    rw [sz] at this
    simpa using this
   ·exact E.grow (Grow.push _ _) (E.mono (fun j q => ⟨.inl q.1, q.2⟩) (E.upd (fun q => a q.1) u (E.bound y)))
   ·exact E.grow (Grow.push _ _) (E.mono (fun j q => ⟨.inr q.1, q.2⟩) (E.upd (fun q => no q.1) u (E.bound c)))
end Go.Ab

/- squeezed -/
set_option linter.unusedVariables false
set_option linter.unusedSimpArgs false
namespace Go.Ab
variable {P : Program}
theorem khh {h : AH} : ∀ (n : Nat) {r : Ref} {es : List AV}, h.gets r n = some es → es.length = n ∧ ∀ (k : Nat) (v : AV), es[k]? = some v → h.cell (r.add k) = some v
 | 0, r, es, e => by
  simp only [AH.gets, Option.some.injEq] at e
  subst e
  exact ⟨rfl, fun k v hv => by simp at hv⟩
 | n + 1, r, es, e => by
  simp only [AH.gets, Option.bind_eq_some_iff, Option.map_eq_some_iff] at e
  obtain ⟨v, e1, l, e2, rfl⟩ := e
  obtain ⟨h1, h2⟩ := khh n e2
  refine ⟨by simp [h1], fun k u hu => ?_⟩
  cases k with
  | zero =>
   simp at hu
   subst hu
   rw [Ref.add_zero]
   exact e1
  | succ k =>
   have := h2 k u (by simpa using hu)
   rw [← this, Ref.add_add, Nat.add_comm]
theorem Sq.of_arg {α : Type} {E : Ef α} {S : Fp} {h : AH} {t e : TypeId} {cs : List AV} (hu : P.underlying t = some (.slice e)) (hw : P.cellsOf e = E.w) (elem : ∀ es, ArgT P h e es → ∃ a, E.has h S es a) (a : ArgT P h t cs) : ∃ (s : Sl) (xs : List α), cs = [s.v] ∧ Sq E h S s xs := by
 rcases a.slice hu with rfl | ⟨ad, len, cap, rfl, h1, h2, h3⟩
 ·exact ⟨⟨none, 0, .is 0⟩, [], rfl, Sq.nil _ _ _⟩
 ·rw [hw] at h3
  have mk : ∀ n, n ≤ len → ∃ (rows : List (List AV)) (xs : List α), rows.length = n ∧ All2 (E.has h S) rows xs ∧ ∀ (i : Nat) (r : List AV), rows[i]? = some r → h.gets (.old (ad.add (i * E.w))) E.w = some r := by
   intro n
   induction n with
   | zero => exact fun _ => ⟨[], [], rfl, .nil, fun i r hi => by simp at hi⟩
   | succ n ih =>
    intro hn
    obtain ⟨rows, xs, hl, ha, hx⟩ := ih (by omega)
    obtain ⟨es, k1, k2⟩ := h3 n (by omega)
    obtain ⟨x, k3⟩ := elem es k2
    refine ⟨rows ++ [es], xs ++ [x], by simp [hl], ha.snoc k3, fun i r hi => ?_⟩
    by_cases hin : i < rows.length
    ·rw [List.getElem?_append_left hin] at hi
     exact hx i r hi
    ·rw [List.getElem?_append_right (by omega)] at hi
     have : i = n := by
      rcases Nat.eq_zero_or_pos (i - rows.length) with h0 | h0
      ·omega
      ·rw [List.getElem?_eq_none (by simp; omega)] at hi
       cases hi
     subst this
     rw [hl, Nat.sub_self] at hi
     simp at hi
     subst hi
     exact k1
  obtain ⟨rows, xs, hl, ha, hx⟩ := mk len (Nat.le_refl _)
  have hr := Ef.rows ha
  have hlen := All2.length ha
  refine ⟨⟨some (.old ad), len, .is cap⟩, xs, rfl, ⟨⟨rows, ⟨h1, by rw [kbq hr, hl], fun k v hv => ⟨_, rfl, ?_⟩⟩, ha⟩, by rw [← hlen, hl], ?_, .inr fun j o hj => by cases hj⟩⟩
  ·have hk : k < rows.length * E.w := by
    rw [← kbq hr]
    exact (List.getElem?_eq_some_iff.1 hv).1
   have hi : k / E.w < rows.length := Nat.div_lt_of_lt_mul (by rw [Nat.mul_comm]; exact hk)
   have hj : k % E.w < E.w := Nat.mod_lt _ E.pos
   have e1 := List.getElem?_eq_getElem hi
   have e2 : (rows[k / E.w])[k % E.w]? = some ((rows[k / E.w])[k % E.w]'(by rw [hr _ (List.getElem_mem _)]; exact hj)) := List.getElem?_eq_getElem _
   have e3 := ked hr e1 e2
   have e4 : k / E.w * E.w + k % E.w = k := by
    rw [Nat.mul_comm]
    exact Nat.div_add_mod k E.w
   rw [e4, hv] at e3
   have e5 := (khh E.w (hx _ _ e1)).2 _ _ e2
   rw [← Option.some.inj e3] at e5
   have e6 : (Ref.old (ad.add (k / E.w * E.w))).add (k % E.w) = (Ref.old ad).add k := by
    rw [show Ref.old (ad.add (k / E.w * E.w)) = (Ref.old ad).add (k / E.w * E.w) from rfl, Ref.add_add, e4]
   rw [← e6]
   exact e5
  ·have hm : maxLen = 9223372036854775807 := by decide
   rw [← hlen, hl]
   rw [hm] at h2
   exact Nat.le_trans h1 h2
end Go.Ab

/- squeezed -/
set_option linter.unusedVariables false
set_option linter.unusedSimpArgs false
namespace Go.Ab
theorem All2.drop {α β : Type} {R : α → β → Prop} {l : List α} {m : List β} (a : All2 R l m) : ∀ k : Nat, All2 R (l.drop k) (m.drop k) := by
 induction a with
 | nil => intro k; simp; exact .nil
 | cons h t ih =>
  intro k
  cases k with
  | zero => exact .cons h t
  | succ k => exact ih k
theorem All2.take {α β : Type} {R : α → β → Prop} {l : List α} {m : List β} (a : All2 R l m) : ∀ k : Nat, All2 R (l.take k) (m.take k) := by
 induction a with
 | nil => intro k; simp; exact .nil
 | cons h t ih =>
  intro k
  cases k with
  | zero => exact .nil
  | succ k => exact .cons h (ih k)
theorem kko {w : Nat} : ∀ {rows : List (List AV)}, (∀ r ∈ rows, r.length = w) → ∀ k : Nat, rows.flatten.drop (k * w) = (rows.drop k).flatten
 | [], _, k => by simp
 | r :: rows, h, 0 => by simp
 | r :: rows, h, k + 1 => by
  rw [List.flatten_cons, List.drop_succ_cons, ← kko (fun q hq => h q (by simp [hq])) k, Nat.add_mul, Nat.one_mul, Nat.add_comm, ← List.drop_drop, List.drop_left' (h r (by simp))]
theorem kj2 {w : Nat} : ∀ {rows : List (List AV)}, (∀ r ∈ rows, r.length = w) → ∀ k : Nat, rows.flatten.take (k * w) = (rows.take k).flatten
 | [], _, k => by simp
 | r :: rows, h, 0 => by simp
 | r :: rows, h, k + 1 => by
  rw [List.flatten_cons, List.take_succ_cons, List.flatten_cons, ← kj2 (fun q hq => h q (by simp [hq])) k, Nat.add_mul, Nat.one_mul, Nat.add_comm (k * w)]
  have hr := h r (by simp)
  rw [List.take_append, List.take_of_length_le (by omega), hr]
  congr 2
  omega
theorem kn4 {s s' : Sl} {l m : Int} {w : Nat} (e : cutSl s l m w = some s') {j o : Nat} (hr : s'.ref = some (.new j o)) : ∃ o', s.ref = some (.new j o') := by
 have key : ∀ {a : Nat}, (s.ref.map (·.add a)) = some (Ref.new j o) → ∃ o', s.ref = some (.new j o') := fun {a} h => by
  cases hs : s.ref with
  | none => rw [hs] at h; cases h
  | some r =>
   rw [hs, Option.map_some, Option.some.injEq] at h
   cases r with
   | new i p =>
    simp only [Ref.add_new, Ref.new.injEq] at h
    exact ⟨p, by rw [h.1]⟩
   | old a' => cases h
 unfold cutSl at e
 split at e
 ·rename_i c hc
  cases hd : decide (0 ≤ l ∧ l ≤ m ∧ m ≤ (c : Int)) with
  | false => rw [hd] at e; cases e
  | true =>
   rw [hd, cond_true, Option.some.injEq] at e
   rw [← e] at hr
   dsimp only at hr
   split at hr
   ·exact ⟨o, hr⟩
   ·exact key hr
 ·rename_i sz hc
  cases hb : Nat.beq sz w with
  | false => rw [hb] at e; cases e
  | true =>
   rw [hb, cond_true] at e
   cases hd : decide (0 ≤ l ∧ l ≤ m ∧ m ≤ (s.len : Int)) with
   | false => rw [hd] at e; cases e
   | true =>
    rw [hd, cond_true, Option.some.injEq] at e
    rw [← e] at hr
    exact key hr
theorem Sq.cut {α : Type} {E : Ef α} {h : AH} {S : Fp} {s : Sl} {xs : List α} (n : Sq E h S s xs) {l m : Nat} (h1 : l ≤ m) (h2 : m ≤ xs.length) : ∃ s', cutSl s (l : Int) (m : Int) E.w = some s' ∧ Sq E h S s' ((xs.drop l).take (m - l)) ∧ ∀ h0, Own h0 s → Own h0 s' := by
 obtain ⟨⟨rows, c, a⟩, ln, sh, at'⟩ := n
 have hr := Ef.rows a
 obtain ⟨s', e, l', c', o⟩ := c.cut h1 (by rw [ln]; exact h2)
 refine ⟨s', e, ⟨⟨(rows.drop l).take (m - l), ?_, (a.drop l).take _⟩, by rw [l', List.length_take, List.length_drop]; omega, by rw [List.length_take, List.length_drop]; omega, ?_⟩, o⟩
 ·rw [← kj2 (fun r hr' => hr r (List.mem_of_mem_drop hr')), ← kko hr]
  exact c'
 ·rcases at' with h0 | h0
  ·left
   rw [List.length_take, List.length_drop]
   omega
  ·right
   intro j o' hj
   obtain ⟨o2, e2⟩ := kn4 e hj
   exact h0 j o2 e2
end Go.Ab

/- squeezed -/
set_option linter.unusedVariables false
set_option linter.unusedSimpArgs false
namespace Go.Ab
theorem AH.setBlk_get {h : AH} {l : Nat} {b : ABlk} (hl : l < h.blks.size) : (h.setBlk l b).blks[l]? = some b := by
 simp [AH.setBlk, hl]
theorem AH.setBlk_ne {h : AH} {l i : Nat} {b : ABlk} (hi : i ≠ l) : (h.setBlk l b).blks[i]? = h.blks[i]? := by
 simp only [AH.setBlk]
 rw [Array.getElem?_setIfInBounds_ne (fun e => hi e.symm)]
theorem AH.setBlk_size (h : AH) (l : Nat) (b : ABlk) : (h.setBlk l b).blks.size = h.blks.size := by simp [AH.setBlk]
theorem Grow.setBlk {h h1 : AH} (g : Grow h h1) {l : Nat} (hl : h.blks.size ≤ l) (b : ABlk) : Grow h (h1.setBlk l b) :=
 ⟨g.old, by rw [AH.setBlk_size]; exact g.size, fun i hi => by rw [AH.setBlk_ne (by omega)]; exact g.blk i hi⟩
theorem kf6 {h : AH} {l : Nat} {pe : Option Code} {f : FuncId} {fr : Fr} {ps : Array Tmp} {bs bd : Code} {d : Nat} (hb : h.blks[l]? = some (.loop .ready pe f fr ps bs bd d)) :
  beginA l h = some (h.setBlk l (.loop .busy pe f fr ps bs bd d)) := by
 simp only [beginA, hb]
theorem kf5 {h : AH} {l : Nat} {st : LoopState} {pe : Option Code} {f : FuncId} {fr : Fr} {ps : Array Tmp} {bs bd : Code} {d : Nat} (hb : h.blks[l]? = some (.loop st pe f fr ps bs bd d)) (j : Option Code) :
  kbn l j h = some (.bool j.isNone, h.setBlk l (.loop (cond j.isNone .ready .done) j f fr ps bs bd d)) := by
 simp only [kbn, hb]
theorem kgj {h : AH} {l : Nat} {pe : Option Code} {f : FuncId} {fr : Fr} {ps : Array Tmp} {bs bd : Code} {d : Nat} (hb : h.blks[l]? = some (.loop .ready pe f fr ps bs bd d)) : kb7 l h = some (pe, h.setBlk l .dead) := by
 simp only [kb7, hb]
 rfl
theorem kgr {R : Type} {f : FuncId} {a c : List AV} {k : FuncId → List AV → List AV → Option R} : funcK (.func (.func f) a c) k = k f a c := rfl
theorem Runs.newM {P : AV → AH → Prop} {h : AH} {b : ABlk} {K : Nat → AH → Option (AV × AH)} (H : ∀ h', h'.blks[h.blks.size]? = some b → Grow h h' → Runs (K h.blks.size h') P) : Runs (newM h b K) P :=
 H _ (by simp [AH.alloc]) (Grow.push h _)
end Go.Ab

/- squeezed -/
set_option linter.unusedVariables false
set_option linter.unusedSimpArgs false
namespace Go.Ab
variable {P : Program}
structure Md (T : Fp) (h h' : AH) : Prop where
 old : h'.old = h.old
 size : h.blks.size ≤ h'.blks.size
 blk : ∀ j, j < h.blks.size → ¬ T j → h'.blks[j]? = h.blks[j]?
theorem Md.refl (T : Fp) (h : AH) : Md T h h := ⟨rfl, Nat.le_refl _, fun _ _ _ => rfl⟩
theorem Grow.md {h h' : AH} (g : Grow h h') (T : Fp) : Md T h h' := ⟨g.old, g.size, fun j hj _ => g.blk j hj⟩
theorem Upd.md {h h' : AH} {i : Nat} (u : Upd h h' i) {T : Fp} (t : T i) : Md T h h' := ⟨u.old, u.size, fun j hj n => u.blk j (fun e => n (e ▸ t)) hj⟩
theorem UpdO.md {h h' : AH} {T : Fp} : ∀ {i : Option Nat}, UpdO h h' i → (∀ k, i = some k → T k) → Md T h h'
 | none, u, _ => Grow.md u T
 | some k, u, t => Upd.md u (t k rfl)
theorem Md.grow {h h' : AH} {T : Fp} (m : Md T h h') (n : ∀ j, j < h.blks.size → ¬ T j) : Grow h h' := ⟨m.old, m.size, fun j hj => m.blk j hj (n j hj)⟩
theorem Md.mono {h h' : AH} {S T : Fp} (m : Md S h h') (f : ∀ j, j < h.blks.size → S j → T j) : Md T h h' := ⟨m.old, m.size, fun j hj n => m.blk j hj fun s => n (f j hj s)⟩
theorem Md.next {h h1 h2 : AH} {S T : Fp} (a : Md S h h1) (b : Md T h1 h2) (f : ∀ j, j < h.blks.size → T j → S j) : Md S h h2 :=
 ⟨b.old.trans a.old, Nat.le_trans a.size b.size, fun j hj n => (b.blk j (Nat.lt_of_lt_of_le hj a.size) fun t => n (f j hj t)).trans (a.blk j hj n)⟩
theorem Md.trans {h h1 h2 : AH} {T : Fp} (a : Md T h h1) (b : Md T h1 h2) : Md T h h2 := a.next b fun _ _ t => t
theorem Md.thenG {h h1 h2 : AH} {T : Fp} (a : Md T h h1) (b : Grow h1 h2) : Md T h h2 := a.next (b.md Fp.no) fun _ _ t => t.elim
theorem Grow.thenM {h h1 h2 : AH} {T : Fp} (a : Grow h h1) (b : Md T h1 h2) : Md T h h2 := (a.md T).trans b
def Dis (S T : Fp) : Prop := ∀ j, S j → T j → False
theorem Dis.symm {S T : Fp} (d : Dis S T) : Dis T S := fun j a b => d j b a
theorem Dis.no {S : Fp} : Dis S Fp.no := fun _ _ b => b
theorem Dis.mono {S T S' T' : Fp} (d : Dis S T) (f : ∀ j, S' j → S j) (g : ∀ j, T' j → T j) : Dis S' T' := fun j a b => d j (f j a) (g j b)
theorem Md.has {h h' : AH} {T : Fp} (m : Md T h h') {i : Nat} {cs : List AV} {e : TypeId} (b : h.has i cs e) (n : ¬ T i) : h'.has i cs e := (m.blk i b.lt n).trans b
theorem Md.get {h h' : AH} {T : Fp} (m : Md T h h') {i : Nat} {b : ABlk} (e : h.blks[i]? = some b) (n : ¬ T i) : h'.blks[i]? = some b :=
 (m.blk i (Array.getElem?_eq_some_iff.1 e).1 n).trans e
theorem Md.cell {h h' : AH} {T : Fp} (m : Md T h h') {r : Ref} {v : AV} (hc : h.cell r = some v) (n : ∀ j o, r = .new j o → ¬ T j) : h'.cell r = some v := by
 have hi := AH.cell_inn hc
 cases r with
 | old a => simpa only [AH.cell, m.old] using hc
 | new j o => simpa only [AH.cell, m.blk j hi (n j o rfl)] using hc
theorem Own.md {h h1 : AH} {T : Fp} (m : Md T h h1) {s : Sl} (o : Own h1 s) : Own h s := fun q hq => by
 obtain ⟨j, k, e, l⟩ := o q hq
 exact ⟨j, k, e, Nat.le_trans m.size l⟩
def mixA (h h' : AH) (k : Nat) : AH := ⟨h'.old, ((List.range h.blks.size).map fun i => (if i < k then h'.blks[i]? else h.blks[i]?).getD .dead).toArray⟩
theorem kbx (h h' : AH) (k : Nat) : (mixA h h' k).blks.size = h.blks.size := by simp [mixA]
theorem kdc {h h' : AH} {k i : Nat} (hs : h.blks.size ≤ h'.blks.size) (hi : i < h.blks.size) : (mixA h h' k).blks[i]? = if i < k then h'.blks[i]? else h.blks[i]? := by
 have hi' : i < h'.blks.size := Nat.lt_of_lt_of_le hi hs
 simp only [mixA, List.getElem?_toArray, List.getElem?_map, List.getElem?_range hi, Option.map_some]
 split
 ·rw [Array.getElem?_eq_getElem hi']; rfl
 ·rw [Array.getElem?_eq_getElem hi]; rfl
theorem Ef.md {α : Type} (E : Ef α) {h h' : AH} {S T : Fp} {cs : List AV} {a : α} (m : Md T h h') (d : Dis S T) (e : E.has h S cs a) : E.has h' S cs a := by
 have key : ∀ k, k ≤ h.blks.size → E.has (mixA h h' k) S cs a := by
  intro k
  induction k with
  | zero =>
   intro _
   refine E.grow ⟨m.old, by rw [kbx]; exact Nat.le_refl _, fun i hi => ?_⟩ e
   rw [kdc m.size hi, if_neg (by omega)]
  | succ k ih =>
   intro hk
   have e' := ih (by omega)
   by_cases hS : S k
   ·have hT : ¬ T k := fun t => d k hS t
    refine E.grow (show Grow (mixA h h' k) (mixA h h' (k + 1)) from ⟨rfl, by rw [kbx, kbx]; exact Nat.le_refl _, fun i hi => ?_⟩) e'
    rw [kbx] at hi
    rw [kdc m.size hi, kdc m.size hi]
    by_cases h1 : i = k
    ·subst h1
     rw [if_pos (by omega), if_neg (by omega), m.blk i hi hT]
    ·by_cases h2 : i < k
     ·rw [if_pos (by omega), if_pos h2]
     ·rw [if_neg (by omega), if_neg h2]
   ·refine E.upd hS (show Upd (mixA h h' k) (mixA h h' (k + 1)) k from ⟨rfl, by rw [kbx, kbx]; exact Nat.le_refl _, fun i hne hi => ?_⟩) e'
    rw [kbx] at hi
    rw [kdc m.size hi, kdc m.size hi]
    by_cases h2 : i < k
    ·rw [if_pos (by omega), if_pos h2]
    ·rw [if_neg (by omega), if_neg h2]
 refine E.grow (show Grow (mixA h h' h.blks.size) h' from ⟨rfl, by rw [kbx]; exact m.size, fun i hi => ?_⟩) (key _ (Nat.le_refl _))
 rw [kbx] at hi
 rw [kdc m.size hi, if_pos hi]
theorem Cells.md {h h' : AH} {s : Sl} {n : Nat} {flat : List AV} (c : Cells h s n flat) {T : Fp} (m : Md T h h') (no : ∀ j o, s.ref = some (.new j o) → ¬ T j) : Cells h' s n flat :=
 ⟨c.fit, c.len, fun k v hv => by
  obtain ⟨r, e1, e2⟩ := c.get k v hv
  refine ⟨r, e1, m.cell e2 fun j o he => ?_⟩
  cases r with
  | old a => cases he
  | new j' p =>
   simp only [Ref.add_new, Ref.new.injEq] at he
   obtain ⟨rfl, _⟩ := he
   exact no _ p e1⟩
section
variable {α : Type} {E : Ef α}
theorem Sq.md {h h' : AH} {S T : Fp} {s : Sl} {xs : List α} (n : Sq E h S s xs) (m : Md T h h') (d : Dis S T) : Sq E h' S s xs := by
 obtain ⟨s', e, n'⟩ := Ef.md (Ef.seq E) m d (show (Ef.seq E).has h S [s.v] xs from ⟨s, rfl, n⟩)
 cases Sl.vs_inj e
 exact n'
theorem Nats.mdE {h h' : AH} {S T : Fp} {s : Sl} {xs : List Nat} (n : Nats h s xs) (a : ∀ j, ¬ Av s j xs → S j) (m : Md T h h') (d : Dis S T) : Nats h' s xs := by
 obtain ⟨s', e, n', _⟩ := Ef.md Ef.nats m d (show Ef.nats.has h S [s.v] xs from ⟨s, rfl, n, a⟩)
 cases Sl.vs_inj e
 exact n'
theorem GF.md {elem : TypeId} {h h' : AH} {S T : Fp} {s : Sl} (m : Md T h h') (d : Dis S T) : ∀ {j : Option Nat} {xs : List α}, GF E elem h S s j xs → (∀ k, j = some k → ¬ T k) → GF E elem h' S s j xs
 | .none, _, v, _ => v
 | .some k, _, ⟨l, a, r, ln, rows, e, b, c, r2⟩, ne => ⟨l, a, r, ln, rows, e, m.has b (ne k rfl), c, r2.imp fun _ _ => E.md m d⟩
end
end Go.Ab

/- squeezed -/
set_option linter.unusedVariables false
set_option linter.unusedSimpArgs false
namespace Go.Ab
def kvGet {A : Type} : List (Int × A) → Int → Option A
 | [], _ => none
 | (k, v) :: t, n => if n = k then some v else kvGet t n
def kvPut {A : Type} : List (Int × A) → Int → A → List (Int × A)
 | [], n, v => [(n, v)]
 | (k, w) :: t, n, v => if n = k then (k, v) :: t else (k, w) :: kvPut t n v
def kvDel {A : Type} : List (Int × A) → Int → List (Int × A)
 | [], _ => []
 | (k, w) :: t, n => if n = k then t else (k, w) :: kvDel t n
theorem knl {A : Type} (l : List (Int × A)) (n m : Int) (v : A) : kvGet (kvPut l n v) m = if m = n then some v else kvGet l m := by
 induction l with
 | nil => simp [kvPut, kvGet]
 | cons p t ih =>
  obtain ⟨k, w⟩ := p
  simp only [kvPut]
  by_cases h : n = k
  ·subst h
   rw [if_pos rfl]
   simp only [kvGet]
   by_cases h2 : m = n
   ·rw [if_pos h2, if_pos h2]
   ·rw [if_neg h2, if_neg h2, if_neg h2]
  ·rw [if_neg h]
   simp only [kvGet, ih]
   by_cases h2 : m = k
   ·rw [if_pos h2, if_pos h2, if_neg (by omega)]
   ·rw [if_neg h2, if_neg h2]
theorem ki1 {A : Type} {l : List (Int × A)} {n : Int} (v : A) (h : kvGet l n = none) : kvPut l n v = l ++ [(n, v)] := by
 induction l with
 | nil => rfl
 | cons p t ih =>
  obtain ⟨k, w⟩ := p
  simp only [kvGet] at h
  by_cases e : n = k
  ·rw [if_pos e] at h
   cases h
  ·rw [if_neg e] at h
   simp only [kvPut, if_neg e, ih h, List.cons_append]
theorem kii {A : Type} {l : List (Int × A)} {n : Int} {w : A} (v : A) (h : kvGet l n = some w) : (kvPut l n v).length = l.length := by
 induction l with
 | nil => cases h
 | cons p t ih =>
  obtain ⟨k, u⟩ := p
  simp only [kvGet] at h
  by_cases e : n = k
  ·simp only [kvPut, if_pos e, List.length_cons]
  ·rw [if_neg e] at h
   simp only [kvPut, if_neg e, List.length_cons, ih h]
def Kv (es : List AEnt) (l : List (Int × AV)) : Prop := es.map (fun e => (e.key, e.val)) = l.map fun p => (AV.int .i64 p.1, p.2)
theorem Kv.nil : Kv [] [] := rfl
theorem Kv.len {es : List AEnt} {l : List (Int × AV)} (k : Kv es l) : es.length = l.length := by
 have := congrArg List.length k
 simpa using this
theorem kft {n : Int} : ∀ {es : List AEnt} {l : List (Int × AV)} (j : Nat), Kv es l →
  (findA .i64 n es j = some none ∧ kvGet l n = none ∧ (∀ v b, Kv (es ++ [⟨.int .i64 n, v, b⟩]) (kvPut l n v)) ∧ kvDel l n = l) ∨
  ∃ t v, findA .i64 n es j = some (some (j + t, v)) ∧ t < es.length ∧ kvGet l n = some v ∧ (∀ w, Kv (es.modify t fun e => ⟨.int .i64 n, w, e.born⟩) (kvPut l n w)) ∧ Kv (es.eraseIdx t) (kvDel l n)
 | [], l, j, k => by
  cases l with
  | nil => exact .inl ⟨rfl, rfl, fun v b => rfl, rfl⟩
  | cons p t => simp [Kv] at k
 | e :: es, l, j, k => by
  cases l with
  | nil => simp [Kv] at k
  | cons p t =>
   obtain ⟨m, w⟩ := p
   simp only [Kv, List.map_cons, List.cons.injEq, Prod.mk.injEq] at k
   obtain ⟨⟨k1, k2⟩, k3⟩ := k
   have ih := kft (n := n) (j + 1) (show Kv es t from k3)
   simp only [findA, k1, decide_true, cond_true, kvGet, kvPut, kvDel]
   by_cases h : n = m
   ·subst h
    right
    refine ⟨0, e.val, by simp, by simp, by rw [if_pos rfl, k2], fun u => ?_, ?_⟩
    ·simp only [if_true]
     simp only [Kv, List.modify_zero_cons, List.map_cons]
     rw [show es.map _ = t.map _ from k3]
    ·simp only [if_true]
     exact k3
   ·rw [decide_eq_false h, cond_false]
    simp only [if_neg h]
    rcases ih with ⟨a, b, c, d⟩ | ⟨x, v, a, b, c, d, f⟩
    ·left
     refine ⟨a, b, fun v bb => ?_, by rw [d]⟩
     have := c v bb
     simp only [Kv, List.map_append, List.cons_append, List.map_cons] at this ⊢
     rw [this, k1, k2]
    ·right
     refine ⟨x + 1, v, by rw [a]; congr 3; omega, by simp; omega, c, fun u => ?_, ?_⟩
     ·have := d u
      simp only [Kv, List.modify_succ_cons, List.map_cons] at this ⊢
      rw [this, k1, k2]
     ·simp only [Kv, List.eraseIdx_cons_succ, List.map_cons] at f ⊢
      rw [f, k1, k2]
def MapIs (h : AH) (i : Nat) (l : List (Int × AV)) : Prop := ∃ es ck, h.blks[i]? = some (.map es ck) ∧ Kv es l
theorem MapIs.lt {h : AH} {i : Nat} {l : List (Int × AV)} (m : MapIs h i l) : i < h.blks.size := by
 obtain ⟨es, ck, e, _⟩ := m
 exact (Array.getElem?_eq_some_iff.1 e).1
theorem MapIs.md {h h' : AH} {i : Nat} {l : List (Int × AV)} {T : Fp} (m : MapIs h i l) (d : Md T h h') (n : ¬ T i) : MapIs h' i l := by
 obtain ⟨es, ck, e, k⟩ := m
 exact ⟨es, ck, d.get e n, k⟩
theorem MapIs.grow {h h' : AH} {i : Nat} {l : List (Int × AV)} (m : MapIs h i l) (g : Grow h h') : MapIs h' i l := m.md (g.md Fp.no) Fp.not_no
theorem AH.setBlk_Upd {h : AH} {i : Nat} (b : ABlk) : Upd h (h.setBlk i b) i := ⟨rfl, by rw [AH.setBlk_size]; exact Nat.le_refl _, fun j hj _ => AH.setBlk_ne hj⟩
section
variable {h : AH} {i : Nat} {l : List (Int × AV)}
theorem MapIs.at (m : MapIs h i l) : ∃ es ck, h.mapAt i = some (es, ck) ∧ Kv es l := by
 obtain ⟨es, ck, e, k⟩ := m
 exact ⟨es, ck, by simp only [AH.mapAt, e], k⟩
theorem MapIs.get (m : MapIs h i l) (n : Int) : mapGet h (some i) .i64 n = some (kvGet l n) := by
 obtain ⟨es, ck, e, k⟩ := m.at
 simp only [mapGet, e, Option.bind_some]
 rcases kft (n := n) 0 k with ⟨a, b, _⟩ | ⟨t, v, a, _, b, _⟩
 ·rw [a, b]; rfl
 ·rw [a, b]; rfl
theorem MapIs.put (m : MapIs h i l) (n : Int) (v : AV) : ∃ h', mapPut h i .i64 n v = some h' ∧ MapIs h' i (kvPut l n v) ∧ Upd h h' i := by
 have hl := m.lt
 obtain ⟨es, ck, e, k⟩ := m.at
 simp only [mapPut, e, Option.bind_some]
 rcases kft (n := n) 0 k with ⟨a, b, c, _⟩ | ⟨t, w, a, _, b, c, _⟩
 ·rw [a]
  exact ⟨_, rfl, ⟨_, _, AH.setBlk_get hl, c v ck⟩, AH.setBlk_Upd _⟩
 ·rw [a, Nat.zero_add]
  exact ⟨_, rfl, ⟨_, _, AH.setBlk_get hl, c v⟩, AH.setBlk_Upd _⟩
theorem MapIs.size (m : MapIs h i l) : mapLen h (some i) = some l.length := by
 obtain ⟨es, ck, e, k⟩ := m.at
 simp only [mapLen, e, Option.map_some, k.len]
theorem MapIs.clear (m : MapIs h i l) : ∃ h', kdf h (some i) = some h' ∧ MapIs h' i [] ∧ Upd h h' i := by
 have hl := m.lt
 obtain ⟨es, ck, e, k⟩ := m.at
 simp only [kdf, e, Option.map_some]
 exact ⟨_, rfl, ⟨_, _, AH.setBlk_get hl, Kv.nil⟩, AH.setBlk_Upd _⟩
end
section
variable {P : AV → AH → Prop}
theorem Runs.call {x : Option (AV × AH)} {Q : AV → AH → Prop} {K : AV × AH → Option (AV × AH)} (r : Runs x Q) (H : ∀ v h', Q v h' → Runs (K (v, h')) P) : Runs (x.bind K) P := by
 obtain ⟨v, h', e, q⟩ := r
 subst e
 exact H v h' q
theorem Runs.newMap {h : AH} {K : Nat → AH → Option (AV × AH)} (H : ∀ h', MapIs h' h.blks.size [] → Grow h h' → Runs (K h.blks.size h') P) : Runs (Go.Ab.newM h (.map [] 0) K) P :=
 Runs.newM fun h' e g => H h' ⟨[], 0, e, Kv.nil⟩ g
theorem keg {n : Nat} {G : Int → AH → Option (AV × AH)} {p : Nat → Bool} {h0 : AH}
  (step : ∀ (i : Nat) (h : AH) (P : AV → AH → Prop), i < n → Grow h0 h → (∀ h', Grow h0 h' → p i = true → P (.int .i64 (i : Int)) h') → (∀ h', Grow h0 h' → p i = false → Runs (G ((i + 1 : Nat) : Int) h') P) → Runs (G (i : Int) h) P)
  (done : ∀ (h : AH), Grow h0 h → G (n : Int) h = some (.int .i64 (-1), h)) : ∀ (k i : Nat), i + k = n → ∀ {h : AH}, Grow h0 h → (∀ j, j < i → p j = false) →
  Runs (G (i : Int) h) fun v h' => Grow h0 h' ∧ ((v = .int .i64 (-1) ∧ ∀ j, j < n → p j = false) ∨ ∃ j, j < n ∧ v = .int .i64 (j : Int) ∧ p j = true ∧ ∀ t, t < j → p t = false) := by
 intro k
 induction k with
 | zero =>
  intro i hi h g hp
  have : i = n := by omega
  subst this
  rw [done h g]
  exact Runs.ret ⟨g, .inl ⟨rfl, hp⟩⟩
 | succ k ih =>
  intro i hi h g hp
  refine step i h _ (by omega) g (fun h' g' e => ⟨g', .inr ⟨i, by omega, rfl, e, hp⟩⟩) fun h' g' e => ih (i + 1) (by omega) g' fun j hj => ?_
  rcases Nat.lt_or_ge j i with h1 | h1
  ·exact hp j h1
  ·have : j = i := by omega
   subst this
   exact e
theorem Runs.contains {α : Type} {xs : List α} {p : α → Bool} {x : Option (AV × AH)} {h0 : AH} (R : Runs x fun v h' => Grow h0 h' ∧ ((v = .int .i64 (-1) ∧ ∀ j, j < xs.length → (xs[j]?).any p = false) ∨ ∃ j, j < xs.length ∧ v = .int .i64 (j : Int) ∧ (xs[j]?).any p = true ∧ ∀ t, t < j → (xs[t]?).any p = false)) :
  Runs (x.bind fun q => ((some q.1).bind (AV.asInt .i64)).bind fun n => some (.bool (decide (n ≥ 0)), q.2)) fun v h' => v = .bool (xs.any p) ∧ Grow h0 h' := by
 refine R.call fun v h' ⟨g, d⟩ => ?_
 rcases d with ⟨rfl, a⟩ | ⟨j, hj, rfl, a, _⟩
 ·refine Runs.step (seen (kc _ _)) (Runs.ret ⟨?_, g⟩)
  have : xs.any p = false := by
   rw [List.any_eq_false]
   intro y hy
   obtain ⟨t, ht, rfl⟩ := List.getElem_of_mem hy
   have := a t ht
   rw [List.getElem?_eq_getElem ht] at this
   simpa using this
  rw [this]
  exact congrArg AV.bool (decide_eq_false (by omega))
 ·refine Runs.step (seen (kc _ _)) (Runs.ret ⟨?_, g⟩)
  have : xs.any p = true := by
   rw [List.any_eq_true]
   rw [List.getElem?_eq_getElem hj] at a
   exact ⟨xs[j], List.getElem_mem hj, by simpa using a⟩
  rw [this]
  exact congrArg AV.bool (decide_eq_true (by omega))
end
end Go.Ab

/- squeezed -/
set_option linter.unusedVariables false
set_option linter.unusedSimpArgs false
namespace Go.Ab
abbrev EI : Ef Int := Ef.int .i64
section
variable {h : AH} {S : Fp} {s : Sl}
theorem Sq.int {k : IntKind} {xs : List Int} (n : Sq (Ef.int k) h S s xs) {i : Nat} (hi : i < xs.length) : ∃ r : Ref, idx s.ref s.len (i : Int) 1 = some r ∧ (h.cell r).bind (AV.asInt k) = some xs[i] := by
 obtain ⟨r, cs, e1, e2, l⟩ := n.at (kej hi)
 have e2 : cs = [.int k xs[i]] := e2
 subst e2
 rw [n.len]
 exact ⟨r, e1, l.rd0 (Grow.refl _) rfl (kc _ _)⟩
theorem Sq.sl {α : Type} {E : Ef α} {xs : List (List α)} (n : Sq (Ef.seq E) h S s xs) {i : Nat} (hi : i < xs.length) : ∃ (r : Ref) (s' : Sl), idx s.ref s.len (i : Int) 1 = some r ∧ (h.cell r).bind AV.asSl = some s' ∧ (h.cell (r.add 0)).bind AV.asSl = some s' ∧ Sq E h S s' xs[i] := by
 obtain ⟨r, cs, e1, ⟨s', rfl, n'⟩, l⟩ := n.at (kej hi)
 rw [n.len]
 exact ⟨r, s', e1, l.rd0 (Grow.refl _) rfl (asSl_v _), l.rd (Grow.refl _) 0 rfl (asSl_v _), n'⟩
theorem Sq.nats {xs : List (List Nat)} (n : Sq Ef.nats h S s xs) {i : Nat} (hi : i < xs.length) : ∃ (r : Ref) (s' : Sl), idx s.ref s.len (i : Int) 1 = some r ∧ (h.cell r).bind AV.asSl = some s' ∧ Nats h s' xs[i] ∧ ∀ j, ¬ Av s' j xs[i] → S j := by
 obtain ⟨r, cs, e1, ⟨s', rfl, n', a⟩, l⟩ := n.at (kej hi)
 rw [n.len]
 exact ⟨r, s', e1, l.rd0 (Grow.refl _) rfl (asSl_v _), n', a⟩
end
theorem knr {P : Program} {h : AH} {t e : TypeId} {cs : List AV} {k : IntKind} (S : Fp) (hu : P.underlying t = some (.slice e)) (he : P.underlying e = some (.int k)) (hc : P.cellsOf e = 1) (a : ArgT P h t cs) : ∃ (s : Sl) (xs : List Int), cs = [s.v] ∧ Sq (Ef.int k) h S s xs :=
 Sq.of_arg (E := Ef.int k) hu hc (fun es t => by
  obtain ⟨y, rfl, w⟩ := t.int he
  exact ⟨y, rfl⟩) a
structure Nd where
 leaf : Bool
 weight : Int
 party : Int
 feature : Int
 cut : Int
 left : Int
 right : Int
 deriving DecidableEq
def Nd.cells (x : Nd) : List AV := [.bool x.leaf, .int .i64 x.weight, .int .i64 x.party, .int .i64 x.feature, .int .i64 x.cut, .int .i64 x.left, .int .i64 x.right]
@[reducible] def Ef.nd : Ef Nd where
 w := 7
 pos := by decide
 has _ _ cs x := cs = x.cells
 len e := by rw [e]; rfl
 grow _ e := e
 mono _ e := e
 upd _ _ e := e
 bound e := e
theorem krl {α : Type} {xs : List α} {i : Nat} (hi : i < xs.length) (p : α → Bool) : (xs.drop i).all p = (p xs[i] && (xs.drop (i + 1)).all p) := by
 rw [List.drop_eq_getElem_cons hi, List.all_cons]
theorem kec {α : Type} {xs : List α} {i : Nat} (hi : xs.length ≤ i) (p : α → Bool) : (xs.drop i).all p = true := by
 rw [List.drop_of_length_le hi]; rfl
theorem kgo {n i : Nat} (hi : i < n) (p : Nat → Bool) : ((List.range n).drop i).all p = (p i && ((List.range n).drop (i + 1)).all p) := by
 rw [krl (by simpa using hi), List.getElem_range]
end Go.Ab
