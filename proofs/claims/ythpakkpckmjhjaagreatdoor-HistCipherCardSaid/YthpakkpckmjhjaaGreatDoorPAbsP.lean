/- squeezed -/
import Derived.Test.YthpakkpckmjhjaaGreatDoorPAbsDra
import Derived.ProofKit

set_option linter.unusedVariables false
set_option linter.unusedSimpArgs false
namespace Go.Ab
open Go.WideShapes
variable {P : Program}
def ArgC (P : Program) (h : AH) : Nat → TypeId → List AV → Prop
 | 0, _, _ => False
 | n + 1, t, cs => match P.underlying t with
  | some (.int k) => ∃ x, cs = [.int k x] ∧ (Lit.int k x).wf = true
  | some .bool => ∃ b, cs = [.bool b]
  | some .string => ∃ s, cs = [.str s] ∧ s.size ≤ maxLen
  | some (.pointer e) => cs = [.ptr none] ∨ ∃ a es, cs = [.ptr (some (.old a))] ∧ h.gets (.old a) (P.cellsOf e) = some es ∧ ArgC P h n e es
  | some (.slice e) => cs = [.slice none 0 (.is 0)] ∨ ∃ a len cap, cs = [.slice (some (.old a)) len (.is cap)] ∧ len ≤ cap ∧ cap ≤ maxLen ∧
    ∀ i, i < len → ∃ es, h.gets (.old (a.add (i * P.cellsOf e))) (P.cellsOf e) = some es ∧ ArgC P h n e es
  | some (.struct fs) => cs.length = P.cellsOf t ∧ ∀ f ∈ fs.toList, ArgC P h n f.type ((cs.drop f.offset).take (P.cellsOf f.type))
  | some (.array m e) => cs.length = P.cellsOf t ∧ ∀ i, i < m → ArgC P h n e ((cs.drop (i * P.cellsOf e)).take (P.cellsOf e))
  | _ => True
def ArgT (P : Program) (h : AH) (t : TypeId) (cs : List AV) : Prop := ∃ n, ArgC P h n t cs
def tiles (P : Program) (total : Nat) : List Field → Nat → Bool
 | [], n => Nat.beq n total
 | f :: fs, n => Nat.beq f.offset n && tiles P total fs (n + P.cellsOf f.type)
def argTy (P : Program) : Nat → TypeId → Bool
 | 0, _ => false
 | d + 1, t => match P.underlying t with
  | some (.int _) | some .bool | some .string => true
  | some (.pointer e) => argTy P d e
  | some (.slice e) => argTy P d e
  | some (.struct fs) => fs.toList.all (fun f => argTy P d f.type) && tiles P (P.cellsOf t) fs.toList 0
  | some (.array m e) => argTy P d e && Nat.beq (P.cellsOf t) (m * P.cellsOf e)
  | _ => false
theorem kpf : ∀ {us : List Value} {vs : List AV}, AV.ofCells us = some vs → vs.length = us.length ∧ ∀ (i : Nat) (u : Value), us[i]? = some u → ∃ v, vs[i]? = some v ∧ AV.ofCell u = some v
 | [], vs, h => by simp [AV.ofCells] at h; subst h; simp
 | u :: us, vs, h => by
  simp only [AV.ofCells] at h
  split at h
  ·rename_i x xs hx hxs
   cases h
   obtain ⟨h1, h2⟩ := kpf hxs
   refine ⟨by simp [h1], fun i w hw => ?_⟩
   cases i with
   | zero => simp at hw; subst hw; exact ⟨x, by simp, hx⟩
   | succ i => simpa using h2 i w (by simpa using hw)
  ·cases h
theorem kpk : ∀ {us : List Value} {vs : List AV} (n : Nat), AV.ofCells us = some vs → AV.ofCells (us.take n) = some (vs.take n)
 | _, _, 0, h => by simp [AV.ofCells]
 | [], vs, n + 1, h => by simp [AV.ofCells] at h; subst h; simp [AV.ofCells]
 | u :: us, vs, n + 1, h => by
  simp only [AV.ofCells] at h
  split at h
  ·rename_i x xs hx hxs
   cases h
   simp [AV.ofCells, hx, kpk n hxs]
  ·cases h
theorem kod : ∀ {us : List Value} {vs : List AV} (n : Nat), AV.ofCells us = some vs → AV.ofCells (us.drop n) = some (vs.drop n)
 | _, _, 0, h => by simpa using h
 | [], vs, n + 1, h => by simp [AV.ofCells] at h; subst h; simp [AV.ofCells]
 | u :: us, vs, n + 1, h => by
  simp only [AV.ofCells] at h
  split at h
  ·rename_i x xs hx hxs
   cases h
   simpa using kod n hxs
  ·cases h
theorem cell_old {w : World} {a : Addr} {u : Value} (h : w.cell? a = some u) : AH.cell ⟨w.heap, #[]⟩ (.old a) = AV.ofCell u := by
 simp only [World.cell?] at h
 simp only [AH.cell]
 split at h
 ·rename_i c e k hb
  rw [hb]
  dsimp only
  split at h
  ·cases h
  ·rename_i hs
   rw [if_neg hs, h]
   rfl
 ·cases h
theorem ksi {w : World} : ∀ (n : Nat) {r : Ref} {us : List Value} {vs : List AV}, us.length = n → (∀ (i : Nat) (u : Value), us[i]? = some u → AH.cell ⟨w.heap, #[]⟩ (r.add i) = AV.ofCell u) → AV.ofCells us = some vs → AH.gets ⟨w.heap, #[]⟩ r n = some vs
 | 0, r, us, vs, hl, hc, hv => by
  have : us = [] := List.length_eq_zero_iff.1 hl
  subst this
  simp [AV.ofCells] at hv
  subst hv
  rfl
 | n + 1, r, u :: us, vs, hl, hc, hv => by
  simp only [AV.ofCells] at hv
  split at hv
  ·rename_i x xs hx hxs
   cases hv
   have h0 := hc 0 u (by simp)
   have e0 : r.add 0 = r := by cases r <;> simp [Ref.add, Addr.add]
   rw [e0] at h0
   have e1 : ∀ i, (r.add 1).add i = r.add (i + 1) := by
    intro i
    cases r with
    | old a =>
     simp only [Ref.add, Addr.add]
     by_cases hi : i = 0
     ·subst hi; simp
     ·simp [hi, Nat.add_assoc, Nat.add_comm 1 i]
    | new j o => simp only [Ref.add]; congr 1; omega
   have := ksi n (r := r.add 1) (us := us) (by simpa using hl) (fun i u' hu => by
    rw [e1]
    exact hc (i + 1) u' (by simpa using hu)) hxs
   simp only [AH.gets, h0, hx, Option.bind_some, this, Option.map_some]
  ·cases hv
theorem k0a {w : World} {base n : Nat} {a : Addr} {cs : List Value} (h : w.cells? base a n = some cs) : cs.length = n ∧ ∀ (i : Nat) (u : Value), cs[i]? = some u → w.cell? (a.add i) = some u := by
 unfold World.cells? at h
 split at h
 ·have hl := mapM_some_length h
  simp at hl
  refine ⟨hl, fun i u hu => ?_⟩
  have hi : i < n := by
   rcases Nat.lt_or_ge i n with h' | h'
   ·exact h'
   ·rw [List.getElem?_eq_none (by omega)] at hu; cases hu
  have := mapM_some_get h i i (by simp [hi])
  rw [this, hu]
 ·cases h
theorem kq8 {w : World} {base n : Nat} {a : Addr} {cs : List Value} {vs : List AV} (h : w.cells? base a n = some cs) (hv : AV.ofCells cs = some vs) : AH.gets ⟨w.heap, #[]⟩ (.old a) n = some vs := by
 obtain ⟨h1, h2⟩ := k0a h
 exact ksi n h1 (fun i u hu => cell_old (h2 i u hu)) hv
theorem ktl {us xs : List Value} {vs ys : List AV} (h : AV.ofCells us = some vs) (k : AV.ofCells xs = some ys) : AV.ofCells (us ++ xs) = some (vs ++ ys) := by
 induction us generalizing vs with
 | nil => simp [AV.ofCells] at h; subst h; simpa using k
 | cons u us ih =>
  simp only [AV.ofCells] at h
  split at h
  ·rename_i a as ha has
   cases h
   simp [AV.ofCells, ha, ih has]
  ·cases h
theorem ksq {P : Program} {cs : List Value} {total : Nat} (hl : cs.length = total) : ∀ (fs : List Field) (n : Nat), tiles P total fs n = true → (∀ f ∈ fs, ∃ vs, AV.ofCells ((cs.drop f.offset).take (P.cellsOf f.type)) = some vs) → ∃ vs, AV.ofCells (cs.drop n) = some vs
 | [], n, ht, h => by
  simp only [tiles] at ht
  have := Nat.eq_of_beq_eq_true ht
  exact ⟨[], by rw [List.drop_of_length_le (by omega)]; rfl⟩
 | f :: fs, n, ht, h => by
  simp only [tiles, Bool.and_eq_true] at ht
  have h1 := Nat.eq_of_beq_eq_true ht.1
  obtain ⟨vs, hv⟩ := h f (by simp)
  obtain ⟨ws, hw⟩ := ksq hl fs _ ht.2 fun g hg => h g (by simp [hg])
  refine ⟨vs ++ ws, ?_⟩
  rw [h1] at hv
  rw [← List.take_append_drop (P.cellsOf f.type) (cs.drop n), List.drop_drop]
  exact ktl hv hw
theorem ksp {cs : List Value} {c : Nat} : ∀ (m n : Nat), cs.length = (n + m) * c → (∀ i, n ≤ i → i < n + m → ∃ vs, AV.ofCells ((cs.drop (i * c)).take c) = some vs) → ∃ vs, AV.ofCells (cs.drop (n * c)) = some vs
 | 0, n, hl, h => ⟨[], by rw [List.drop_of_length_le (by simp at hl; omega)]; rfl⟩
 | m + 1, n, hl, h => by
  obtain ⟨vs, hv⟩ := h n (Nat.le_refl _) (by omega)
  obtain ⟨ws, hw⟩ := ksp m (n + 1) (by rw [hl]; congr 1; omega) fun i h1 h2 => h i (by omega) (by omega)
  refine ⟨vs ++ ws, ?_⟩
  rw [← List.take_append_drop c (cs.drop (n * c)), List.drop_drop]
  rw [Nat.succ_mul] at hw
  exact ktl hv hw
theorem kjs {H : Type} {enc : TypeId × Value → H} {w : World} {base : Nat} {spare : Nat → Bool} {held : Bool} : ∀ (n d : Nat) {t : TypeId} {cs : List Value} {x : DataW H × List MemPlace},
  argTy P d t = true → DataW.trod enc P w base spare held n t cs = some x → ∃ vs, AV.ofCells cs = some vs ∧ ArgC P ⟨w.heap, #[]⟩ n t vs
 | 0, d, t, cs, x, ha, h => by simp [DataW.trod] at h
 | n + 1, 0, t, cs, x, ha, h => by simp [argTy] at ha
 | n + 1, d + 1, t, cs, x, ha, h => by
  simp only [argTy] at ha
  simp only [ArgC]
  split at ha
  ·rename_i k hu
   have : ∃ z, cs = [.int k z] ∧ (Lit.int k z).wf = true := by
    unfold DataW.trod at h
    rw [hu] at h
    split at h <;> simp_all
   obtain ⟨z, rfl, hz⟩ := this
   exact ⟨[.int k z], rfl, z, rfl, hz⟩
  ·rename_i hu
   have : ∃ z, cs = [.bool z] := by
    unfold DataW.trod at h
    rw [hu] at h
    split at h <;> simp_all
   obtain ⟨z, rfl⟩ := this
   exact ⟨[.bool z], rfl, z, rfl⟩
  ·rename_i hu
   have : ∃ z, cs = [.string z] ∧ z.size ≤ maxLen := by
    unfold DataW.trod at h
    rw [hu] at h
    split at h <;> simp_all
   obtain ⟨z, rfl, hz⟩ := this
   exact ⟨[.str z], rfl, z, rfl, hz⟩
  ·rename_i e hu
   rcases DataW.trod_pointer hu h with ⟨rfl, -⟩ | ⟨a, cs', y, m, hm, rfl, -, hc, hy⟩
   ·exact ⟨[.ptr none], rfl, .inl rfl⟩
   ·cases hm
    obtain ⟨es, h1, h2⟩ := kjs n d ha hy
    exact ⟨[.ptr (some (.old a))], rfl, .inr ⟨a, es, rfl, kq8 hc h1, h2⟩⟩
  ·rename_i e hu
   rcases DataW.trod_slice hu h with ⟨rfl, -⟩ | ⟨a, len, cap, elems, rest, m, hm, rfl, -, -, hl, hc, hel, hi, -, -⟩
   ·exact ⟨[.slice none 0 (.is 0)], rfl, .inl rfl⟩
   ·cases hm
    refine ⟨[.slice (some (.old a)) len (.is cap)], by simp [AV.ofCells, AV.ofCell, Nat.ble_eq_true_of_le hl], .inr ⟨a, len, cap, rfl, hl, hc, fun i hlt => ?_⟩⟩
    have h1 := hi i hlt
    have : ∃ y, elems[i]? = some y := ⟨elems[i]'(by omega), by simp⟩
    obtain ⟨y, hy⟩ := this
    rw [hy, Option.bind_eq_some_iff] at h1
    obtain ⟨cs', h2, h3⟩ := h1
    obtain ⟨es, h4, h5⟩ := kjs n d ha h3
    exact ⟨es, kq8 h2 h4, h5⟩
  ·rename_i fs hu
   simp only [Bool.and_eq_true, List.all_eq_true] at ha
   obtain ⟨xs, m, hm, -, hl, hx, hf⟩ := DataW.trod_struct hu h
   cases hm
   have key : ∀ f ∈ fs.toList, ∃ vs, AV.ofCells ((cs.drop f.offset).take (P.cellsOf f.type)) = some vs ∧ ArgC P ⟨w.heap, #[]⟩ n f.type vs := by
    intro f hf'
    obtain ⟨i, hi, rfl⟩ := List.getElem_of_mem hf'
    have h1 := hf i fs.toList[i] (by simp)
    have : ∃ y, xs[i]? = some y := ⟨xs[i]'(by simp at hi; omega), by simp⟩
    obtain ⟨y, hy⟩ := this
    rw [hy] at h1
    exact kjs n d (ha.1 _ hf') h1
   obtain ⟨vs, hv⟩ := ksq (P := P) hl fs.toList 0 ha.2 fun f hf' => (key f hf').imp fun _ h => h.1
   rw [List.drop_zero] at hv
   refine ⟨vs, hv, by rw [(kpf hv).1, hl], fun f hf' => ?_⟩
   obtain ⟨ws, h1, h2⟩ := key f hf'
   have := kpk (P.cellsOf f.type) (kod f.offset hv)
   rw [h1] at this
   cases this
   exact h2
  ·rename_i m e hu
   simp only [Bool.and_eq_true] at ha
   have hce := Nat.eq_of_beq_eq_true ha.2
   unfold DataW.trod at h
   rw [hu] at h
   have h : (if cs.length = P.cellsOf t then ((List.range m).mapM fun i => DataW.trod enc P w base spare held n e ((cs.drop (i * P.cellsOf e)).take (P.cellsOf e))).map fun xs => ((.agg (xs.map (·.1)), xs.flatMap (·.2)) : DataW H × List MemPlace) else none) = some x := by
    split at h <;> simp_all
   split at h
   ·rename_i hl
    simp only [Option.map_eq_some_iff] at h
    obtain ⟨xs, h1, -⟩ := h
    have hxl := mapM_some_length h1
    simp at hxl
    have key : ∀ i, i < m → ∃ vs, AV.ofCells ((cs.drop (i * P.cellsOf e)).take (P.cellsOf e)) = some vs ∧ ArgC P ⟨w.heap, #[]⟩ n e vs := by
     intro i hi
     have h2 := mapM_some_get h1 i i (by simp [hi])
     have : ∃ y, xs[i]? = some y := ⟨xs[i]'(by omega), by simp⟩
     obtain ⟨y, hy⟩ := this
     rw [hy] at h2
     exact kjs n d ha.1 h2
    obtain ⟨vs, hv⟩ := ksp (c := P.cellsOf e) m 0 (by rw [hl, hce, Nat.zero_add]) fun i _ hi => (key i (by omega)).imp fun _ h => h.1
    rw [Nat.zero_mul, List.drop_zero] at hv
    refine ⟨vs, hv, by rw [(kpf hv).1, hl], fun i hi => ?_⟩
    obtain ⟨ws, h2, h3⟩ := key i hi
    have := kpk (P.cellsOf e) (kod (i * P.cellsOf e) hv)
    rw [h2] at this
    cases this
    exact h3
   ·cases h
  ·cases ha
def ArgV (P : Program) (h : AH) (t : TypeId) (x : AV) : Prop :=
 match P.underlying t with
 | some (.struct _) | some (.array _ _) => ∃ cs, x = .agg cs ∧ ArgT P h t cs
 | _ => ArgT P h t [x]
theorem arg_open {H : Type} {enc : TypeId × Value → H} {W : World} {base base' : Nat} {spare : Nat → Bool} {held : Bool} {t : TypeId} {v : Value} {d : DataW H} {ps : List MemPlace} {rch : Reach} (d' : Nat) (ha : argTy P (d' + 1) t = true)
  (hv : Value.okWide P W rch base t v) (h : DataW.Trod enc P W base' spare held t v d ps) : ∃ x, VRel (fun _ => none) x v ∧ ArgV P ⟨W.heap, #[]⟩ t x := by
 obtain ⟨n, hn⟩ := h
 obtain ⟨vs, h1, h2⟩ := kjs n (d' + 1) ha hn
 have agg : ∀ cs : Array Value, v = .agg cs → ∃ x, VRel (fun _ => none) x v ∧ ∃ cs', x = .agg cs' ∧ ArgT P ⟨W.heap, #[]⟩ t cs' := by
  rintro cs rfl
  obtain ⟨h3, h4⟩ := VRels.ofCells (μ := fun _ => none) h1
  exact ⟨.agg vs, by simp only [VRel]; exact ⟨cs, rfl, h3, h4⟩, vs, rfl, n, h2⟩
 have cell : ∀ u, v.cells.toList = [u] → v = u → ∃ x, VRel (fun _ => none) x v ∧ ArgT P ⟨W.heap, #[]⟩ t [x] := by
  rintro u hc rfl
  rw [hc] at h1
  simp only [AV.ofCells] at h1
  split at h1
  ·rename_i x xs hx hxs
   cases h1
   cases hxs
   exact ⟨x, (VRel.ofCell hx).1, n, h2⟩
  ·cases h1
 have cell' : (∀ cs, v ≠ .agg cs) → ∃ x, VRel (fun _ => none) x v ∧ ArgT P ⟨W.heap, #[]⟩ t [x] := by
  intro hne
  refine cell v ?_ rfl
  cases v <;> first | rfl | exact absurd rfl (hne _)
 simp only [argTy] at ha
 unfold ArgV
 split at ha
 ·rename_i k hu
  simp only [hu]
  obtain ⟨z, rfl, -⟩ := okWide_int hu hv
  exact cell' fun cs hcs => by cases hcs
 ·rename_i hu
  simp only [hu]
  obtain ⟨z, rfl⟩ := okWide_bool hu hv
  exact cell' fun cs hcs => by cases hcs
 ·rename_i hu
  simp only [hu]
  obtain ⟨z, rfl⟩ := okWide_string hu hv
  exact cell' fun cs hcs => by cases hcs
 ·rename_i e hu
  simp only [hu]
  obtain ⟨z, rfl⟩ := okWide_pointer hu hv
  exact cell' fun cs hcs => by cases hcs
 ·rename_i e hu
  simp only [hu]
  obtain ⟨z, l, c, rfl⟩ := okWide_slice hu hv
  exact cell' fun cs hcs => by cases hcs
 ·rename_i fs hu
  simp only [hu]
  obtain ⟨cs, hcs, -⟩ := okWide_struct hu hv
  exact agg cs hcs
 ·rename_i m e hu
  simp only [hu]
  unfold Value.okWide at hv
  rw [hu] at hv
  obtain ⟨cs, hcs, -⟩ := hv
  exact agg cs hcs
 ·cases ha
theorem ArgT.int {h : AH} {t : TypeId} {k : IntKind} {cs : List AV} (hu : P.underlying t = some (.int k)) (a : ArgT P h t cs) : ∃ x, cs = [.int k x] ∧ (Lit.int k x).wf = true := by
 obtain ⟨n, a⟩ := a
 cases n with
 | zero => simp [ArgC] at a
 | succ n => simpa [ArgC, hu] using a
theorem ArgT.bool {h : AH} {t : TypeId} {cs : List AV} (hu : P.underlying t = some .bool) (a : ArgT P h t cs) : ∃ x, cs = [.bool x] := by
 obtain ⟨n, a⟩ := a
 cases n with
 | zero => simp [ArgC] at a
 | succ n => simpa [ArgC, hu] using a
theorem ArgT.str {h : AH} {t : TypeId} {cs : List AV} (hu : P.underlying t = some .string) (a : ArgT P h t cs) : ∃ x, cs = [.str x] ∧ x.size ≤ maxLen := by
 obtain ⟨n, a⟩ := a
 cases n with
 | zero => simp [ArgC] at a
 | succ n => simpa [ArgC, hu] using a
theorem ArgT.ptr {h : AH} {t e : TypeId} {cs : List AV} (hu : P.underlying t = some (.pointer e)) (a : ArgT P h t cs) : cs = [.ptr none] ∨ ∃ a es, cs = [.ptr (some (.old a))] ∧ h.gets (.old a) (P.cellsOf e) = some es ∧ ArgT P h e es := by
 obtain ⟨n, a⟩ := a
 cases n with
 | zero => simp [ArgC] at a
 | succ n =>
  simp only [ArgC, hu] at a
  rcases a with a | ⟨a, es, h1, h2, h3⟩
  ·exact .inl a
  ·exact .inr ⟨a, es, h1, h2, n, h3⟩
theorem ArgT.slice {h : AH} {t e : TypeId} {cs : List AV} (hu : P.underlying t = some (.slice e)) (a : ArgT P h t cs) : cs = [.slice none 0 (.is 0)] ∨ ∃ a len cap, cs = [.slice (some (.old a)) len (.is cap)] ∧ len ≤ cap ∧ cap ≤ maxLen ∧
    ∀ i, i < len → ∃ es, h.gets (.old (a.add (i * P.cellsOf e))) (P.cellsOf e) = some es ∧ ArgT P h e es := by
 obtain ⟨n, a⟩ := a
 cases n with
 | zero => simp [ArgC] at a
 | succ n =>
  simp only [ArgC, hu] at a
  rcases a with a | ⟨a, len, cap, h1, h2, h3, h4⟩
  ·exact .inl a
  ·exact .inr ⟨a, len, cap, h1, h2, h3, fun i hi => (h4 i hi).imp fun es h => ⟨h.1, n, h.2⟩⟩
theorem ArgT.struct {h : AH} {t : TypeId} {fs : Array Field} {cs : List AV} (hu : P.underlying t = some (.struct fs)) (a : ArgT P h t cs) : cs.length = P.cellsOf t ∧ ∀ f ∈ fs.toList, ArgT P h f.type ((cs.drop f.offset).take (P.cellsOf f.type)) := by
 obtain ⟨n, a⟩ := a
 cases n with
 | zero => simp [ArgC] at a
 | succ n =>
  simp only [ArgC, hu] at a
  exact ⟨a.1, fun f hf => ⟨n, a.2 f hf⟩⟩
theorem ArgT.array {h : AH} {t e : TypeId} {m : Nat} {cs : List AV} (hu : P.underlying t = some (.array m e)) (a : ArgT P h t cs) : cs.length = P.cellsOf t ∧ ∀ i, i < m → ArgT P h e ((cs.drop (i * P.cellsOf e)).take (P.cellsOf e)) := by
 obtain ⟨n, a⟩ := a
 cases n with
 | zero => simp [ArgC] at a
 | succ n =>
  simp only [ArgC, hu] at a
  exact ⟨a.1, fun i hi => ⟨n, a.2 i hi⟩⟩
end Go.Ab

/- squeezed -/
set_option linter.unusedVariables false
set_option linter.unusedSimpArgs false
namespace Go.Ab
def AH.push (h : AH) (b : ABlk) : AH := h.alloc b
@[simp] theorem kf5 {R : Type} (h : AH) (b : ABlk) (k : Ref → AH → R) : newK h b k = k (.new h.blks.size 0) (h.push b) := rfl
@[simp] theorem kc (k : IntKind) (n : Int) : AV.asInt k (.int k n) = some n := by simp [AV.asInt]
@[simp] theorem keo (b : Bool) : AV.asBool (.bool b) = some b := rfl
@[simp] theorem asStr_str (s : ByteArray) : AV.asStr (.str s) = some s := rfl
@[simp] theorem asPtr_ptr (r : Option Ref) : AV.asPtr (.ptr r) = some r := rfl
@[simp] theorem asMap_map (r : Option Nat) : AV.asMap (.map r) = some r := rfl
@[simp] theorem asSl_slice (r : Option Ref) (n : Nat) (c : Cap) : AV.asSl (.slice r n c) = some ⟨r, n, c⟩ := rfl
@[simp] theorem asSl_v (s : Sl) : AV.asSl s.v = some s := rfl
@[simp] theorem asAgg_agg (cs : List AV) : AV.asAgg (.agg cs) = some cs := rfl
@[simp] theorem asIface_iface (t : TypeId) (v : AV) : AV.asIface (.iface t v) = some (t, v) := rfl
@[simp] theorem asTup0_tup : AV.asTup0 (.tup []) = some () := rfl
@[simp] theorem kf8 (a b : AV) : AV.asTup2 (.tup [a, b]) = some (a, b) := rfl
@[simp] theorem k5r (a b c : AV) : AV.asTup3 (.tup [a, b, c]) = some (a, b, c) := rfl
@[simp] theorem asTup4_tup (a b c d : AV) : AV.asTup4 (.tup [a, b, c, d]) = some (a, b, c, d) := rfl
attribute [simp] Ref.add_zero
@[simp] theorem Ref.add_new (i o n : Nat) : (Ref.new i o).add n = .new i (o + n) := rfl
@[simp] theorem AH.push_size (h : AH) (b : ABlk) : (h.push b).blks.size = h.blks.size + 1 := by simp [AH.push, AH.alloc]
def Ref.inn (h : AH) : Ref → Prop
 | .old _ => True
 | .new i _ => i < h.blks.size
structure Grow (h h' : AH) : Prop where
 old : h'.old = h.old
 size : h.blks.size ≤ h'.blks.size
 blk : ∀ i, i < h.blks.size → h'.blks[i]? = h.blks[i]?
theorem Grow.refl (h : AH) : Grow h h := ⟨rfl, Nat.le_refl _, fun _ _ => rfl⟩
theorem Grow.trans {a b c : AH} (x : Grow a b) (y : Grow b c) : Grow a c :=
 ⟨y.old.trans x.old, Nat.le_trans x.size y.size, fun i hi => (y.blk i (Nat.lt_of_lt_of_le hi x.size)).trans (x.blk i hi)⟩
theorem Grow.push (h : AH) (b : ABlk) : Grow h (h.push b) :=
 ⟨rfl, by simp, fun i hi => by simp [AH.push, AH.alloc, Array.getElem?_push, Nat.ne_of_lt hi]⟩
theorem Grow.push' {h h' : AH} {b : ABlk} (g : Grow (h.push b) h') : Grow h h' := (Grow.push h b).trans g
theorem Grow.cell {h h' : AH} (g : Grow h h') {r : Ref} (hr : r.inn h) : h'.cell r = h.cell r := by
 cases r with
 | old a => simp only [AH.cell, g.old]
 | new i o => simp only [AH.cell, g.blk i hr]
theorem AH.cell_inn {h : AH} {r : Ref} {v : AV} (hc : h.cell r = some v) : r.inn h := by
 cases r with
 | old a => trivial
 | new i o =>
  simp only [AH.cell] at hc
  rcases Nat.lt_or_ge i h.blks.size with hlt | hge
  ·exact hlt
  ·rw [Array.getElem?_eq_none hge] at hc
   cases hc
theorem Grow.cell_some {h h' : AH} (g : Grow h h') {r : Ref} {v : AV} (hc : h.cell r = some v) : h'.cell r = some v := by
 rw [g.cell (AH.cell_inn hc), hc]
@[simp] theorem AH.cell_push (h : AH) (cs : List AV) (e : TypeId) (o : Nat) : (h.push (.cells cs e)).cell (.new h.blks.size o) = cs[o]? := by
 simp [AH.cell, AH.push, AH.alloc]
theorem Grow.cell_new {h h' : AH} {cs : List AV} {e : TypeId} (g : Grow (h.push (.cells cs e)) h') (o : Nat) : h'.cell (.new h.blks.size o) = cs[o]? := by
 rw [g.cell (by simp [Ref.inn]), AH.cell_push]
theorem AH.put_push (h : AH) (cs : List AV) (e : TypeId) (o : Nat) (v : AV) (ho : o < cs.length) : (h.push (.cells cs e)).put (.new h.blks.size o) v = some (h.push (.cells (cs.set o v) e)) := by
 simp only [AH.put, AH.push, AH.alloc, Array.getElem?_push_size, if_pos ho, Option.some.injEq, AH.mk.injEq, true_and]
 apply Array.ext
 ·simp
 ·intro i h1 h2
  have h3 : i < h.blks.size + 1 := by simpa using h2
  rw [Array.getElem_setIfInBounds (by simpa using h3)]
  by_cases e : h.blks.size = i
  ·subst e; simp
  ·rw [if_neg e, Array.getElem_push_lt (by omega), Array.getElem_push_lt (by omega)]
theorem AH.puts_push_gen (h : AH) (e : TypeId) : ∀ (vs : List AV) (o : Nat) (cs : List AV), o + vs.length ≤ cs.length → (h.push (.cells cs e)).puts (.new h.blks.size o) vs = some (h.push (.cells (cs.take o ++ vs ++ cs.drop (o + vs.length)) e))
 | [], o, cs, _ => by simp [AH.puts]
 | v :: vs, o, cs, ho => by
  simp only [List.length_cons] at ho
  simp only [AH.puts]
  rw [AH.put_push _ _ _ _ _ (by omega), Option.bind_some, Ref.add_new, AH.puts_push_gen h e vs (o + 1) _ (by simp; omega)]
  have e1 : (cs.set o v).take (o + 1) = cs.take o ++ [v] := by
   apply List.ext_getElem?
   intro i
   rw [List.getElem?_take]
   by_cases hi : i < o
   ·rw [if_pos (by omega), List.getElem?_set_ne (by omega), List.getElem?_append_left (by simp; omega), List.getElem?_take, if_pos hi]
   ·by_cases hi2 : i = o
    ·subst hi2
     rw [if_pos (by omega), List.getElem?_set_self (by omega), List.getElem?_append_right (by simp; omega)]
     simp [Nat.min_eq_left (show i ≤ cs.length by omega)]
    ·rw [if_neg (by omega), List.getElem?_eq_none (by simp; omega)]
  have e2 : (cs.set o v).drop (o + 1 + vs.length) = cs.drop (o + (vs.length + 1)) := by
   rw [List.drop_set_of_lt (by omega)]
   congr 1
   omega
  rw [e1, e2]
  simp
theorem AH.puts_push (h : AH) (e : TypeId) (cs vs : List AV) (hl : vs.length = cs.length) : (h.push (.cells cs e)).puts (.new h.blks.size 0) vs = some (h.push (.cells vs e)) := by
 rw [AH.puts_push_gen h e vs 0 cs (by omega)]
 simp [hl]
@[simp] theorem kda (r : Ref) (len : Nat) (i : Int) (size : Nat) (h0 : 0 ≤ i) (h1 : i < (len : Int)) : idx (some r) len i size = some (r.add (i.toNat * size)) := by
 simp [idx, h0, h1]
theorem bool_ans {b : Bool} {p : Prop} [Decidable p] {h : AH} (e : b = true ↔ p) : (some (AV.bool b, h) : Option (AV × AH)) = some (AV.bool (decide p), h) := by
 have : b = decide p := by cases b <;> simp_all
 rw [this]
theorem ans_eq {b b' : Bool} {h : AH} (e : b = true ↔ b' = true) : (some (AV.bool b, h) : Option (AV × AH)) = some (AV.bool b', h) := by
 have : b = b' := by cases b <;> cases b' <;> simp_all
 rw [this]
theorem ite_elim {A : Type} {p : Prop} [Decidable p] {x y z : A} (h1 : p → x = z) (h2 : ¬ p → y = z) : (if p then x else y) = z := by
 split
 ·rename_i h; exact h1 h
 ·rename_i h; exact h2 h
theorem kir {A : Type} {b : Bool} {x y z : A} (h1 : b = true → x = z) (h2 : b = false → y = z) : cond b x y = z := by
 cases b
 ·exact h2 rfl
 ·exact h1 rfl
theorem cond_elim_ex {A C : Type} {b : Bool} {x y : A} {z : C → A} (h1 : b = true → ∃ c, x = z c) (h2 : b = false → ∃ c, y = z c) : ∃ c, cond b x y = z c := by
 cases b
 ·exact h2 rfl
 ·exact h1 rfl
theorem wrap64 {n : Int} (h1 : -9223372036854775808 ≤ n) (h2 : n ≤ 9223372036854775807) : IntKind.wrap .i64 n = n := by
 simp [IntKind.wrap, IntKind.bits, IntKind.signed]
 omega
theorem wrapU (n : Int) : IntKind.wrap .u64 n = n % 18446744073709551616 := by
 simp [IntKind.wrap, IntKind.bits, IntKind.signed]
theorem kq3 (a b : Int) : imin a b = min a b := by
 unfold imin
 by_cases h : b < a <;> simp [h] <;> omega
theorem kw9 (a b : Int) : imax a b = max a b := by
 unfold imax
 by_cases h : a < b <;> simp [h] <;> omega
end Go.Ab

/- squeezed -/
set_option linter.unusedVariables false
set_option linter.unusedSimpArgs false
namespace Go.Ab
def AH.upd (h : AH) (i : Nat) (cs : List AV) (e : TypeId) : AH := { h with blks := h.blks.setIfInBounds i (.cells cs e) }
@[reducible] def AH.has (h : AH) (i : Nat) (cs : List AV) (e : TypeId) : Prop := h.blks[i]? = some (.cells cs e)
theorem AH.has.lt {h : AH} {i : Nat} {cs : List AV} {e : TypeId} (b : h.has i cs e) : i < h.blks.size := (Array.getElem?_eq_some_iff.1 b).1
theorem AH.has.cell {h : AH} {i : Nat} {cs : List AV} {e : TypeId} (b : h.has i cs e) (o : Nat) : h.cell (.new i o) = cs[o]? := by
 simp only [AH.cell, show h.blks[i]? = _ from b]
theorem AH.has.inn {h : AH} {i : Nat} {cs : List AV} {e : TypeId} (b : h.has i cs e) (o : Nat) : (Ref.new i o).inn h := b.lt
theorem AH.has_push (h : AH) (cs : List AV) (e : TypeId) : (h.push (.cells cs e)).has h.blks.size cs e := by simp [AH.has, AH.push, AH.alloc]
theorem Grow.has {h h' : AH} (g : Grow h h') {i : Nat} {cs : List AV} {e : TypeId} (b : h.has i cs e) : h'.has i cs e := (g.blk i b.lt).trans b
theorem AH.has_upd {h : AH} {i : Nat} {cs : List AV} {e : TypeId} (b : h.has i cs e) (cs' : List AV) (e' : TypeId) : (h.upd i cs' e').has i cs' e' := by
 simp [AH.has, AH.upd, b.lt]
theorem Grow.upd {h h' : AH} (g : Grow h h') {i : Nat} (hi : h.blks.size ≤ i) (cs : List AV) (e : TypeId) : Grow h (h'.upd i cs e) :=
 ⟨g.old, by simpa [AH.upd] using g.size, fun j hj => by
  show (h'.blks.setIfInBounds i (.cells cs e))[j]? = _
  rw [Array.getElem?_setIfInBounds_ne (by omega)]
  exact g.blk j hj⟩
theorem AH.has.put {h : AH} {i : Nat} {cs : List AV} {e : TypeId} (b : h.has i cs e) {o : Nat} {v : AV} (ho : o < cs.length) : h.put (.new i o) v = some (h.upd i (cs.set o v) e) := by
 simp only [AH.put, show h.blks[i]? = _ from b, if_pos ho, AH.upd]
theorem AH.upd_upd (h : AH) (i : Nat) (cs cs' : List AV) (e e' : TypeId) : (h.upd i cs e).upd i cs' e' = h.upd i cs' e' := by
 simp [AH.upd]
theorem AH.has.puts {h : AH} {i : Nat} {e : TypeId} : ∀ {vs : List AV} {o : Nat} {cs : List AV}, h.has i cs e → o + vs.length ≤ cs.length → h.puts (.new i o) vs = some (h.upd i (cs.take o ++ vs ++ cs.drop (o + vs.length)) e)
 | [], o, cs, b, _ => by
  simp only [AH.puts, List.append_nil, List.length_nil, Nat.add_zero, List.take_append_drop, Option.some.injEq]
  have hb : h.blks[i]? = some (.cells cs e) := b
  have : h.blks.setIfInBounds i (.cells cs e) = h.blks := by
   apply Array.ext
   ·simp
   ·intro j h1 h2
    rw [Array.getElem_setIfInBounds (by simpa using h1)]
    split
    ·rename_i hij; subst hij
     have := Array.getElem?_eq_getElem h2
     rw [this] at hb
     exact (Option.some.inj hb).symm
    ·rfl
  cases h
  simp only [AH.upd] at this ⊢
  rw [this]
 | v :: vs, o, cs, b, ho => by
  simp only [List.length_cons] at ho
  simp only [AH.puts]
  rw [b.put (by omega), Option.bind_some, Ref.add_new, AH.has.puts (AH.has_upd b _ e) (by simp; omega), AH.upd_upd]
  have e1 : (cs.set o v).take (o + 1) = cs.take o ++ [v] := by
   apply List.ext_getElem?
   intro i
   rw [List.getElem?_take]
   by_cases hi : i < o
   ·rw [if_pos (by omega), List.getElem?_set_ne (by omega), List.getElem?_append_left (by simp; omega), List.getElem?_take, if_pos hi]
   ·by_cases hi2 : i = o
    ·subst hi2
     rw [if_pos (by omega), List.getElem?_set_self (by omega), List.getElem?_append_right (by simp; omega)]
     simp [Nat.min_eq_left (show i ≤ cs.length by omega)]
    ·rw [if_neg (by omega), List.getElem?_eq_none (by simp; omega)]
  have e2 : (cs.set o v).drop (o + 1 + vs.length) = cs.drop (o + (vs.length + 1)) := by
   rw [List.drop_set_of_lt (by omega)]
   congr 1
   omega
  rw [e1, e2]
  simp
theorem AH.has.puts_all {h : AH} {i : Nat} {e : TypeId} {cs vs : List AV} (b : h.has i cs e) (hl : vs.length = cs.length) : h.puts (.new i 0) vs = some (h.upd i vs e) := by
 rw [b.puts (by omega)]
 simp [hl]
theorem Grow.same {h h' : AH} (g : Grow h h') {i : Nat} {cs : List AV} {e : TypeId} (b : h.has i cs e) (o n : Nat) : SameAt h h' (.new i o) n := ⟨fun j _ => by
 rw [Ref.add_new]
 exact g.cell (b.inn _), fun _ => g.blk i b.lt⟩
@[simp] theorem kwo {R : Type} {p : Prop} {x : Option R} (hp : p) : whenK p x = x := by
 unfold whenK
 rw [if_pos hp]
def Sl.fit (s : Sl) (n : Nat) : Prop := match s.cap with
 | .is c => s.len ≤ c
 | .opn z => z = n
structure Cells (h : AH) (s : Sl) (n : Nat) (flat : List AV) : Prop where
 fit : s.fit n
 len : s.len * n = flat.length
 get : ∀ (i : Nat) (v : AV), flat[i]? = some v → ∃ r, s.ref = some r ∧ h.cell (r.add i) = some v
theorem Cells.grow {h h' : AH} (g : Grow h h') {s : Sl} {n : Nat} {flat : List AV} (c : Cells h s n flat) : Cells h' s n flat :=
 ⟨c.fit, c.len, fun i v hv => by
  obtain ⟨r, e1, e2⟩ := c.get i v hv
  exact ⟨r, e1, g.cell_some e2⟩⟩
theorem Cells.nil (h : AH) (n : Nat) : Cells h ⟨none, 0, .is 0⟩ n [] := ⟨Nat.le_refl _, by simp, fun i v hv => by simp at hv⟩
theorem Cells.of_has {h : AH} {i n m : Nat} {cs : List AV} {e : TypeId} (b : h.has i cs e) (hm : m * n = cs.length) : Cells h ⟨some (.new i 0), m, .is m⟩ n cs :=
 ⟨Nat.le_refl _, hm, fun j v hv => ⟨_, rfl, by rw [Ref.add_new, Nat.zero_add, b.cell]; exact hv⟩⟩
theorem Cells.gets {h : AH} {s : Sl} {n : Nat} {flat : List AV} (c : Cells h s n flat) : h.getsO s.ref (s.len * n) = some flat := by
 rw [c.len]
 unfold AH.getsO
 cases hr : s.ref with
 | none =>
  have : flat = [] := by
   cases flat with
   | nil => rfl
   | cons v vs =>
    obtain ⟨r, e1, _⟩ := c.get 0 v rfl
    rw [hr] at e1
    cases e1
  rw [this]
 | some r =>
  have key : ∀ (vs : List AV) (r : Ref), (∀ i v, vs[i]? = some v → h.cell (r.add i) = some v) → h.gets r vs.length = some vs := by
   intro vs
   induction vs with
   | nil => intro r _; rfl
   | cons v vs ih =>
    intro r hall
    have h0 := hall 0 v rfl
    rw [Ref.add_zero] at h0
    have h1 := ih (r.add 1) fun i x hx => by
     rw [Ref.add_add, Nat.add_comm]
     exact hall (i + 1) x (by simpa using hx)
    simp only [List.length_cons, AH.gets, h0, Option.bind_some, h1, Option.map_some]
  exact key flat r fun i v hv => by
   obtain ⟨r', e1, e2⟩ := c.get i v hv
   rw [hr] at e1
   cases e1
   exact e2
def Own (h : AH) (s : Sl) : Prop := ∀ r, s.ref = some r → ∃ i o, r = .new i o ∧ h.blks.size ≤ i
theorem AH.cell_upd_ne {h : AH} {i : Nat} {cs : List AV} {e : TypeId} {r : Ref} (hr : ∀ o, r ≠ .new i o) : (h.upd i cs e).cell r = h.cell r := by
 cases r with
 | old a => rfl
 | new j o =>
  have : i ≠ j := fun hij => hr o (by rw [hij])
  simp only [AH.cell, AH.upd]
  rw [Array.getElem?_setIfInBounds_ne this]
theorem Cells.upd {h h0 : AH} {s : Sl} {n : Nat} {flat : List AV} (c : Cells h s n flat) (ho : Own h0 s) {i : Nat} (hi : i < h0.blks.size) (cs : List AV) (e : TypeId) : Cells (h.upd i cs e) s n flat :=
 ⟨c.fit, c.len, fun k v hv => by
  obtain ⟨r, e1, e2⟩ := c.get k v hv
  refine ⟨r, e1, ?_⟩
  obtain ⟨j, o, rfl, hj⟩ := ho r e1
  rw [AH.cell_upd_ne]
  ·exact e2
  ·intro o' he
   simp only [Ref.add_new, Ref.new.injEq] at he
   omega⟩
theorem Own.of_le {h h0 : AH} (g : Grow h h0) {s : Sl} (o : Own h0 s) : Own h s := fun r hr => by
 obtain ⟨i, k, h1, h2⟩ := o r hr
 exact ⟨i, k, h1, Nat.le_trans g.size h2⟩
theorem Own.nil (h : AH) {n : Nat} {c : Cap} : Own h ⟨none, n, c⟩ := fun r hr => by cases hr
theorem Cells.cut {h : AH} {s : Sl} {m : Nat} {flat : List AV} (c : Cells h s m flat) {l n : Nat} (h1 : l ≤ n) (h2 : n ≤ s.len) : ∃ s', cutSl s (l : Int) (n : Int) m = some s' ∧ s'.len = n - l ∧
  Cells h s' m ((flat.drop (l * m)).take ((n - l) * m)) ∧ ∀ h0, Own h0 s → Own h0 s' := by
 have hm : n * m ≤ s.len * m := Nat.mul_le_mul_right m h2
 have hlm : l * m ≤ n * m := Nat.mul_le_mul_right m h1
 have hsub : (n - l) * m = n * m - l * m := Nat.sub_mul _ _ _
 have cell : ∀ (ref : Option Ref), (∀ r, s.ref = some r → n ≠ l → ref = some (r.add (l * m))) → ∀ (i : Nat) (v : AV), ((flat.drop (l * m)).take ((n - l) * m))[i]? = some v → ∃ r, ref = some r ∧ h.cell (r.add i) = some v := by
  intro ref hr i v hv
  rw [List.getElem?_take] at hv
  split at hv
  ·rename_i hi
   rw [List.getElem?_drop] at hv
   obtain ⟨r, e1, e2⟩ := c.get _ v hv
   have hne : n ≠ l := by
    rintro rfl
    simp at hi
   exact ⟨_, hr r e1 hne, by rw [Ref.add_add]; exact e2⟩
  ·cases hv
 have len : ((flat.drop (l * m)).take ((n - l) * m)).length = (n - l) * m := by
  rw [List.length_take, List.length_drop, ← c.len]
  omega
 have own : ∀ (ref : Option Ref) (k : Nat) (cp : Cap), (ref = s.ref ∨ ref = s.ref.map (·.add (l * m))) → ∀ h0, Own h0 s → Own h0 ⟨ref, k, cp⟩ := by
  intro ref k cp hr h0 ho r e
  dsimp only at e
  rcases hr with rfl | rfl
  ·exact ho r e
  ·rw [Option.map_eq_some_iff] at e
   obtain ⟨r0, e1, rfl⟩ := e
   obtain ⟨i, o, rfl, h3⟩ := ho r0 e1
   exact ⟨i, _, rfl, h3⟩
 have hf := c.fit
 unfold Sl.fit at hf
 unfold cutSl
 split at hf
 ·rename_i cp hcp
  simp only [hcp]
  rw [show (decide (0 ≤ (l : Int) ∧ (l : Int) ≤ (n : Int) ∧ (n : Int) ≤ (cp : Int))) = true from by simp; omega]
  refine ⟨_, rfl, by simp, ⟨?_, by rw [len]; simp, cell _ ?_⟩, own _ _ _ ?_⟩
  ·show (n : Int).toNat - (l : Int).toNat ≤ cp - (l : Int).toNat
   simp
   omega
  ·intro r hr hne
   simp only [Int.toNat_natCast]
   rw [if_neg (by omega), hr]
   rfl
  ·split
   ·exact .inl rfl
   ·exact .inr (by simp)
 ·rename_i z hz
  simp only [hz]
  subst hf
  rw [show Nat.beq z z = true from Nat.beq_refl z, show (decide (0 ≤ (l : Int) ∧ (l : Int) ≤ (n : Int) ∧ (n : Int) ≤ (s.len : Int))) = true from by simp; omega]
  refine ⟨_, rfl, by simp, ⟨?_, by rw [len]; simp, cell _ ?_⟩, own _ _ _ (.inr (by simp))⟩
  ·exact rfl
  ·intro r hr hne
   simp [hr]
@[reducible] def u64 (x : Nat) : AV := .int .u64 (x : Int)
structure Nats (h : AH) (s : Sl) (xs : List Nat) : Prop where
 cells : Cells h s 1 (xs.map u64)
 lt : ∀ x ∈ xs, x < 18446744073709551616
 short : xs.length ≤ 9223372036854775807
theorem Nats.len {h : AH} {s : Sl} {xs : List Nat} (n : Nats h s xs) : s.len = xs.length := by
 have := n.cells.len
 simpa using this
theorem Nats.grow {h h' : AH} (g : Grow h h') {s : Sl} {xs : List Nat} (n : Nats h s xs) : Nats h' s xs := ⟨n.cells.grow g, n.lt, n.short⟩
theorem Nats.nil (h : AH) : Nats h ⟨none, 0, .is 0⟩ [] := ⟨Cells.nil h 1, by simp, by simp⟩
theorem Nats.upd {h h0 : AH} {s : Sl} {xs : List Nat} (c : Nats h s xs) (ho : Own h0 s) {i : Nat} (hi : i < h0.blks.size) (cs : List AV) (e : TypeId) : Nats (h.upd i cs e) s xs := ⟨c.cells.upd ho hi cs e, c.lt, c.short⟩
theorem Nats.at {h : AH} {s : Sl} {xs : List Nat} (n : Nats h s xs) {i : Nat} (hi : i < xs.length) : ∃ r, idx s.ref s.len (i : Int) 1 = some r ∧ h.cell r = some (.int .u64 ((xs[i] : Nat) : Int)) := by
 obtain ⟨r, e1, e2⟩ := n.cells.get i (u64 xs[i]) (by simp [hi])
 refine ⟨r.add i, ?_, e2⟩
 rw [e1, kda _ _ _ _ (by omega) (by rw [n.len]; omega)]
 simp
theorem Nats.cut {h : AH} {s : Sl} {xs : List Nat} (c : Nats h s xs) {l n : Nat} (h1 : l ≤ n) (h2 : n ≤ xs.length) : ∃ s', cutSl s (l : Int) (n : Int) 1 = some s' ∧ Nats h s' ((xs.drop l).take (n - l)) ∧ ∀ h0, Own h0 s → Own h0 s' := by
 obtain ⟨s', e1, e2, e3, e4⟩ := c.cells.cut h1 (by rw [c.len]; exact h2)
 refine ⟨s', e1, ⟨by simpa [List.map_drop, List.map_take] using e3, fun x hx => c.lt x (List.mem_of_mem_drop (List.mem_of_mem_take hx)), ?_⟩, e4⟩
 have := c.short
 rw [List.length_take, List.length_drop]
 omega
theorem kbq {i : Nat} (h : i ≤ 9223372036854775807) : IntKind.wrap .i64 (i : Int) = (i : Int) := wrap64 (by omega) (by omega)
theorem kf {i : Nat} (h : i < 9223372036854775807) : IntKind.wrap .i64 ((i : Int) + 1) = ((i + 1 : Nat) : Int) := by
 rw [wrap64 (by omega) (by omega)]; omega
theorem klg {i : Nat} (h : i < 9223372036854775807) : IntKind.wrap .i64 (((i + 1 : Nat) : Int) - 1) = (i : Int) := by
 rw [wrap64 (by omega) (by omega)]; omega
end Go.Ab

/- squeezed -/
set_option linter.unusedVariables false
set_option linter.unusedSimpArgs false
namespace Go.Ab
variable {P : Program}
theorem kiz {h : AH} {s : Sl} {elem : TypeId} {flat : List AV} (c : Cells h s (P.cellsOf elem) flat) : kbc P elem s.v h = some (flat, s.len) := by
 show (h.getsO s.ref (s.len * P.cellsOf elem)).map (fun cs => (cs, s.len)) = _
 rw [c.gets]
 rfl
theorem kgo {h : AH} {s : Sl} {c n m : Nat} {elem : TypeId} {cs old : List AV} (hs : s.cap = .is c) (hc : c < s.len + n) (hg : growOk P (s.len + n) elem m = true) (ho : Cells h s m old) :
  kr P s cs n elem m h = some (Sl.v ⟨some (.new h.blks.size 0), s.len + n, .opn m⟩, h.push (.cells (old ++ cs) elem)) := by
 unfold kr
 simp only [hs]
 rw [show Nat.ble (s.len + n) c = false from by
  cases hb : Nat.ble (s.len + n) c with
  | false => rfl
  | true => have := Nat.le_of_ble_eq_true hb; omega]
 simp only [cond_false, hg, cond_true, ho.gets, Option.bind_some]
 rfl
theorem kpr {h : AH} {s : Sl} {m : Nat} {elem : TypeId} {old : List AV} (hm : 0 < m) (ho : Cells h s m old) : ∃ s', kr P s [] 0 elem m h = some (s'.v, h) ∧ Cells h s' m old ∧ ∀ h0, Own h0 s → Own h0 s' := by
 have hf := ho.fit
 unfold Sl.fit at hf
 unfold kr
 split at hf
 ·rename_i c hc
  simp only [hc]
  rw [show Nat.ble (s.len + 0) c = true from Nat.ble_eq_true_of_le (by omega)]
  cases hr : s.ref with
  | none =>
   refine ⟨⟨none, 0, .is 0⟩, rfl, ?_, fun h0 _ => Own.nil h0⟩
   have hl : old = [] := by
    cases old with
    | nil => rfl
    | cons v vs =>
     obtain ⟨r, e1, _⟩ := ho.get 0 v rfl
     rw [hr] at e1
     cases e1
   rw [hl]
   exact Cells.nil h m
  | some r =>
   refine ⟨⟨some r, s.len, .is c⟩, rfl, ⟨hf, ho.len, fun i v hv => ?_⟩, fun h0 hh r' hr' => hh r' (by rw [hr]; exact hr')⟩
   obtain ⟨r', e1, e2⟩ := ho.get i v hv
   rw [hr] at e1
   exact ⟨r', e1, e2⟩
 ·rename_i z hz
  simp only [hz]
  refine ⟨s, by simp [Sl.v, hz], ho, fun h0 hh => hh⟩
structure Mine (h0 h : AH) (s : Sl) (elem : TypeId) (m : Nat) (flat : List AV) : Prop where
 grow : Grow h0 h
 cells : Cells h s m flat
 own : s = ⟨none, 0, .is 0⟩ ∨ ∃ i bs, s.ref = some (.new i 0) ∧ s.cap = .opn m ∧ h0.blks.size ≤ i ∧ h.has i bs elem
theorem Mine.nil (h : AH) (elem : TypeId) (m : Nat) : Mine h h ⟨none, 0, .is 0⟩ elem m [] := ⟨Grow.refl h, Cells.nil h m, .inl rfl⟩
theorem Mine.grow' {h0 h h' : AH} {s : Sl} {elem : TypeId} {m : Nat} {flat : List AV} (M : Mine h0 h s elem m flat) (g : Grow h h') : Mine h0 h' s elem m flat :=
 ⟨M.grow.trans g, M.cells.grow g, M.own.imp id fun ⟨i, bs, e1, e2, e3, e4⟩ => ⟨i, bs, e1, e2, e3, g.has e4⟩⟩
theorem Grow.kill {h h' : AH} (g : Grow h h') {i : Nat} (hi : h.blks.size ≤ i) : Grow h (h'.kill (some (.new i 0))) :=
 ⟨g.old, by simpa [AH.kill] using g.size, fun j hj => by
  show (h'.blks.setIfInBounds i .dead)[j]? = _
  rw [Array.getElem?_setIfInBounds_ne (by omega)]
  exact g.blk j hj⟩
theorem Mine.append {h0 h : AH} {s : Sl} {elem : TypeId} {m n : Nat} {flat cs : List AV} (M : Mine h0 h s elem m flat) (hn : 0 < n) (hl : cs.length = n * m) (hg : growOk P (s.len + n) elem m = true) :
  ∃ s' h', kr P s cs n elem m h = some (s'.v, h') ∧ s'.len = s.len + n ∧ Mine h0 h' s' elem m (flat ++ cs) ∧ ∀ (j : Nat) (bs : List AV) (e : TypeId), h.has j bs e → s.ref ≠ some (.new j 0) → h'.has j bs e := by
 have fl : (s.len + n) * m = (flat ++ cs).length := by rw [Nat.add_mul, M.cells.len, List.length_append, hl]
 rcases M.own with rfl | ⟨i, bs, e1, e2, e3, e4⟩
 ·rw [kgo (c := 0) rfl (by simpa using hn) hg M.cells]
  refine ⟨_, _, rfl, rfl, ⟨M.grow.trans (Grow.push _ _), ⟨rfl, fl, fun j v hv => ⟨_, rfl, by simpa using hv⟩⟩, .inr ⟨_, _, rfl, rfl, M.grow.size, AH.has_push _ _ _⟩⟩, fun j bs e hb _ => (Grow.push _ _).has hb⟩
 ·have : kr P s cs n elem m h = some (Sl.v ⟨some (.new h.blks.size 0), s.len + n, .opn m⟩, (h.kill s.ref).push (.cells (flat ++ cs) elem)) := by
   unfold kr
   simp only [e2]
   rw [show Nat.beq n 0 = false from by
    cases hb : Nat.beq n 0 with
    | false => rfl
    | true => have := Nat.eq_of_beq_eq_true hb; omega, show Nat.beq m m = true from Nat.beq_refl m]
   simp only [cond_false, hg, Bool.and_true, cond_true, e1, show h.blks[i]? = _ from e4]
   have hgets := M.cells.gets
   rw [e1] at hgets
   simp only [cond_true, hgets, Option.bind_some]
   have : (AH.kill h (some (Ref.new i 0))).blks.size = h.blks.size := by simp [AH.kill]
   simp [AH.next, this, Sl.v]
   rfl
  rw [this, e1]
  have sz : (h.kill (some (.new i 0))).blks.size = h.blks.size := by simp [AH.kill]
  refine ⟨_, _, rfl, rfl, ⟨(M.grow.kill e3).trans (Grow.push _ _), ⟨rfl, fl, fun j v hv => ⟨_, rfl, ?_⟩⟩, .inr ⟨h.blks.size, flat ++ cs, rfl, rfl, M.grow.size, ?_⟩⟩, fun j bs' e hb hne => ?_⟩
  ·rw [← sz]
   simpa using hv
  ·have := AH.has_push (h.kill (some (.new i 0))) (flat ++ cs) elem
   rw [sz] at this
   exact this
  ·refine (Grow.push _ _).has ?_
   have hij : i ≠ j := by
    rintro rfl
    exact hne rfl
   show (h.blks.setIfInBounds i .dead)[j]? = _
   rw [Array.getElem?_setIfInBounds_ne hij]
   exact hb
theorem Mine.own_of {h0 h : AH} {s : Sl} {elem : TypeId} {m : Nat} {flat : List AV} (M : Mine h0 h s elem m flat) : Own h0 s := by
 rcases M.own with rfl | ⟨i, bs, e1, e2, e3, e4⟩
 ·exact Own.nil h0
 ·intro r hr
  rw [e1] at hr
  cases hr
  exact ⟨i, 0, rfl, e3⟩
theorem ks6 {l c : Int} {elem : TypeId} {bytes n : Nat} {zs : List AV} {h : AH} (h1 : l = (n : Int)) (h2 : c = (n : Int)) (h3 : n * bytes ≤ 70368744177664) (h4 : n ≤ 70368744177664) :
  kbl l c elem bytes zs h = some (⟨some (.new h.blks.size 0), n, .is n⟩, h.push (.cells (repC zs n) elem)) := by
 subst h1 h2
 unfold kbl
 have h3' : ((n * bytes : Nat) : Int) ≤ 70368744177664 := by omega
 rw [show (decide (0 ≤ (n : Int) ∧ (n : Int) ≤ (n : Int) ∧ (n : Int) ≤ (ks : Int) ∧ (n : Int) * (bytes : Int) ≤ (ks : Int))) = true from by
  rw [decide_eq_true_eq]
  simp only [ks]
  rw [Int.natCast_mul] at h3'
  omega]
 simp
 rfl
theorem ktk (v : AV) (n : Nat) : repC [v] n = List.replicate n v := by
 induction n with
 | zero => rfl
 | succ n ih => simp [repC, ih, List.replicate_succ]
end Go.Ab

/- squeezed -/
set_option linter.unusedVariables false
namespace Go.Ab
def Runs (x : Option (AV × AH)) (P : AV → AH → Prop) : Prop := ∃ v h', x = some (v, h') ∧ P v h'
structure Upd (h h' : AH) (i : Nat) : Prop where
 old : h'.old = h.old
 size : h.blks.size ≤ h'.blks.size
 blk : ∀ j, j ≠ i → j < h.blks.size → h'.blks[j]? = h.blks[j]?
theorem AH.upd_Upd (h : AH) (i : Nat) (cs : List AV) (e : TypeId) : Upd h (h.upd i cs e) i :=
 ⟨rfl, by simp [AH.upd], fun j hj _ => by
  show (h.blks.setIfInBounds i (.cells cs e))[j]? = _
  rw [Array.getElem?_setIfInBounds_ne (fun x => hj x.symm)]⟩
theorem Grow.updr {h h1 h2 : AH} (g : Grow h h1) {i : Nat} (hi : h.blks.size ≤ i) (u : Upd h1 h2 i) : Grow h h2 :=
 ⟨u.old.trans g.old, Nat.le_trans g.size u.size, fun j hj => (u.blk j (by omega) (Nat.lt_of_lt_of_le hj g.size)).trans (g.blk j hj)⟩
theorem AH.has.updr {h1 h2 : AH} {j : Nat} {cs : List AV} {e : TypeId} (b : h1.has j cs e) {i : Nat} (hij : j ≠ i) (u : Upd h1 h2 i) : h2.has j cs e := (u.blk j hij b.lt).trans b
theorem Upd.trans {h1 h2 h3 : AH} {i : Nat} (u : Upd h1 h2 i) (w : Upd h2 h3 i) : Upd h1 h3 i :=
 ⟨w.old.trans u.old, Nat.le_trans u.size w.size, fun j hj hl => (w.blk j hj (Nat.lt_of_lt_of_le hl u.size)).trans (u.blk j hj hl)⟩
theorem Grow.toUpd {h1 h2 : AH} (g : Grow h1 h2) (i : Nat) : Upd h1 h2 i := ⟨g.old, g.size, fun j _ hl => g.blk j hl⟩
theorem Upd.cell {h1 h2 : AH} {i : Nat} (u : Upd h1 h2 i) {r : Ref} {v : AV} (hc : h1.cell r = some v) (hr : ∀ o, r ≠ .new i o) : h2.cell r = some v := by
 have hi := AH.cell_inn hc
 cases r with
 | old a => simpa only [AH.cell, u.old] using hc
 | new j o => simpa only [AH.cell, u.blk j (fun hj => hr o (by rw [hj])) hi] using hc
theorem Cells.updr {h0 h1 h2 : AH} {s : Sl} {n : Nat} {flat : List AV} (c : Cells h1 s n flat) (ho : Own h0 s) {i : Nat} (hi : i < h0.blks.size) (u : Upd h1 h2 i) : Cells h2 s n flat :=
 ⟨c.fit, c.len, fun k v hv => by
  obtain ⟨r, e1, e2⟩ := c.get k v hv
  refine ⟨r, e1, ?_⟩
  obtain ⟨j, o, rfl, hj⟩ := ho r e1
  refine u.cell e2 fun o' he => ?_
  simp only [Ref.add_new, Ref.new.injEq] at he
  omega⟩
theorem Nats.updr {h0 h1 h2 : AH} {s : Sl} {xs : List Nat} (c : Nats h1 s xs) (ho : Own h0 s) {i : Nat} (hi : i < h0.blks.size) (u : Upd h1 h2 i) : Nats h2 s xs := ⟨c.cells.updr ho hi u, c.lt, c.short⟩
section
variable {P : AV → AH → Prop}
theorem Runs.ret {v : AV} {h : AH} (p : P v h) : Runs (some (v, h)) P := ⟨v, h, rfl, p⟩
theorem Runs.imp {x : Option (AV × AH)} {Q : AV → AH → Prop} (r : Runs x Q) (f : ∀ v h, Q v h → P v h) : Runs x P := by
 obtain ⟨v, h', e, q⟩ := r
 exact ⟨v, h', e, f v h' q⟩
theorem Runs.step {A : Type} {o : Option A} {a : A} {K : A → Option (AV × AH)} (e : o = some a) (H : Runs (K a) P) : Runs (o.bind K) P := by
 subst e
 exact H
theorem Runs.new {h : AH} {cs : List AV} {e : TypeId} {K : Ref → AH → Option (AV × AH)} (H : ∀ h', h'.has h.blks.size cs e → Grow h h' → Runs (K (.new h.blks.size 0) h') P) : Runs (newK h (.cells cs e) K) P :=
 H _ (AH.has_push h cs e) (Grow.push h _)
theorem Runs.puts {h : AH} {i : Nat} {cs vs : List AV} {e : TypeId} {K : AH → Option (AV × AH)} (b : h.has i cs e) (hl : vs.length = cs.length) (H : ∀ h', h'.has i vs e → Upd h h' i → Runs (K h') P) : Runs ((h.puts (.new i 0) vs).bind K) P := by
 rw [b.puts_all hl]
 exact H _ (AH.has_upd b vs e) (AH.upd_Upd h i vs e)
theorem Runs.ifT {c : Bool} {a b : Option (AV × AH)} (e : c = true) (H : Runs a P) : Runs (cond c a b) P := by
 subst e
 exact H
theorem Runs.ifF {c : Bool} {a b : Option (AV × AH)} (e : c = false) (H : Runs b P) : Runs (cond c a b) P := by
 subst e
 exact H
theorem Runs.cond {c : Bool} {a b : Option (AV × AH)} (Ht : c = true → Runs a P) (Hf : c = false → Runs b P) : Runs (cond c a b) P := by
 cases c
 ·exact Hf rfl
 ·exact Ht rfl
theorem Runs.when {p : Prop} {x : Option (AV × AH)} (hp : p) (H : Runs x P) : Runs (whenK p x) P := by
 rw [kwo hp]
 exact H
end
theorem AH.has.rd {A : Type} {f : AV → Option A} {h : AH} {i : Nat} {cs : List AV} {e : TypeId} (b : h.has i cs e) (k : Nat) {v : AV} {x : A} (hk : cs[k]? = some v) (hf : f v = some x) : (h.cell ((Ref.new i 0).add k)).bind f = some x := by
 rw [Ref.add_new, Nat.zero_add, b.cell, hk]
 exact hf
theorem AH.has.rd0 {A : Type} {f : AV → Option A} {h : AH} {i : Nat} {cs : List AV} {e : TypeId} (b : h.has i cs e) {v : AV} {x : A} (hk : cs[0]? = some v) (hf : f v = some x) : (h.cell (Ref.new i 0)).bind f = some x := by
 rw [b.cell, hk]
 exact hf
theorem seen {A : Type} {f : AV → Option A} {v : AV} {x : A} (hf : f v = some x) : (some v).bind f = some x := hf
theorem seenAt {A : Type} {f : AV → Option A} {cs : List AV} {k : Nat} {v : AV} {x : A} (hk : cs[k]? = some v) (hf : f v = some x) : (cs[k]?).bind f = some x := by
 rw [hk]
 exact hf
theorem Nats.of_has {h : AH} {i : Nat} {e : TypeId} {xs : List Nat} (b : h.has i (xs.map u64) e) (hl : ∀ x ∈ xs, x < 18446744073709551616) (hs : xs.length ≤ 9223372036854775807) : Nats h ⟨some (.new i 0), xs.length, .is xs.length⟩ xs :=
 ⟨Cells.of_has b (by simp), hl, hs⟩
theorem Own.box {h h' : AH} (g : Grow h h') {n : Nat} {c : Cap} : Own h ⟨some (.new h'.blks.size 0), n, c⟩ := fun r hr => by
 cases hr
 exact ⟨_, _, rfl, g.size⟩
theorem condT {A : Type} {c : Bool} {a b : A} (e : c = true) : cond c a b = a := by subst e; rfl
theorem condF {A : Type} {c : Bool} {a b : A} (e : c = false) : cond c a b = b := by subst e; rfl
end Go.Ab

/- squeezed -/
set_option linter.unusedVariables false
set_option maxRecDepth 10000
namespace Go.Ab
inductive Iter {S R : Type} (f : S → Option (S ⊕ R)) : S → R → Prop
 | done {s : S} {r : R} : f s = some (.inr r) → Iter f s r
 | next {s s' : S} {r : R} : f s = some (.inl s') → Iter f s' r → Iter f s r
def GoodS {S R : Type} (A : S → Prop) (r : R) : S ⊕ R → Prop
 | .inl s => A s
 | .inr r' => r' = r
theorem Iter.ind {S R : Type} {f : S → Option (S ⊕ R)} {A : S → Prop} {r : R} (H : ∀ s o, f s = some o → GoodS A r o → A s) {s : S} (it : Iter f s r) : A s := by
 induction it with
 | done e => exact H _ _ e rfl
 | next e _ ih => exact H _ _ e (ih H)
theorem Iter.det {S R : Type} {f : S → Option (S ⊕ R)} {s : S} {r r' : R} (a : Iter f s r) (b : Iter f s r') : r = r' := by
 induction a with
 | done e =>
  cases b with
  | done e' => rw [e] at e'; cases e'; rfl
  | next e' _ => rw [e] at e'; cases e'
 | next e _ ih =>
  cases b with
  | done e' => rw [e] at e'; cases e'
  | next e' b' => rw [e] at e'; cases e'; exact ih b'
noncomputable def runP {S R : Type} (f : S → Option (S ⊕ R)) (s : S) : Option R := by
 classical
 exact if h : ∃ r, Iter f s r then some h.choose else none
theorem khh {S R : Type} {f : S → Option (S ⊕ R)} {s : S} {r : R} (q : runP f s = some r) : Iter f s r := by
 unfold runP at q
 split at q
 ·rename_i h
  cases q
  exact h.choose_spec
 ·cases q
theorem kd8 {S R : Type} {f : S → Option (S ⊕ R)} {s : S} {r : R} (it : Iter f s r) : runP f s = some r := by
 unfold runP
 have h : ∃ r, Iter f s r := ⟨r, it⟩
 rw [dif_pos h]
 rw [h.choose_spec.det it]
def atI (xs : List Nat) (i : Int) : Option Nat := if 0 ≤ i then xs[i.toNat]? else none
def inI (n : Nat) (i : Int) : Option Nat := if 0 ≤ i ∧ i < (n : Int) then some i.toNat else none
def mkI (l c : Int) : Option Nat := if l = c ∧ 0 ≤ l ∧ l ≤ 8796093022208 then some l.toNat else none
def u64P (v : Int) : Option Nat := if 0 ≤ v ∧ v < 18446744073709551616 then some v.toNat else none
def add64P (x y c : Int) : Option (Int × Int) := if 0 ≤ x ∧ 0 ≤ y ∧ 0 ≤ c ∧ c ≤ 1 then some ((x + y + c) % 18446744073709551616, (x + y + c) / 18446744073709551616) else none
noncomputable def need (p : Prop) : Option (PLift p) := by
 classical
 exact if h : p then some ⟨h⟩ else none
theorem kg {p : Prop} (h : p) : need p = some ⟨h⟩ := by
 unfold need
 rw [dif_pos h]
theorem kba1 {xs : List Nat} {i : Int} {y : Nat} (q : atI xs i = some y) : ∃ j : Nat, i = (j : Int) ∧ ∃ hj : j < xs.length, xs[j] = y := by
 unfold atI at q
 split at q
 ·rename_i h
  obtain ⟨h1, h2⟩ := List.getElem?_eq_some_iff.1 q
  exact ⟨i.toNat, by omega, h1, h2⟩
 ·cases q
theorem km8 {n : Nat} {i : Int} {j : Nat} (q : inI n i = some j) : i = (j : Int) ∧ j < n := by
 unfold inI at q
 split at q
 ·cases q
  omega
 ·cases q
theorem k2p {l c : Int} {n : Nat} (q : mkI l c = some n) : l = (n : Int) ∧ c = (n : Int) ∧ n ≤ 8796093022208 := by
 unfold mkI at q
 split at q
 ·cases q
  omega
 ·cases q
theorem km1 {v : Int} {n : Nat} (q : u64P v = some n) : v = (n : Int) ∧ n < 18446744073709551616 := by
 unfold u64P at q
 split at q
 ·cases q
  omega
 ·cases q
theorem kbd {xs : List Nat} {i : Nat} (h : i < xs.length) : atI xs (i : Int) = some xs[i] := by
 unfold atI
 rw [if_pos (by omega), Int.toNat_natCast, List.getElem?_eq_getElem h]
theorem kw {n i : Nat} (h : i < n) : inI n (i : Int) = some i := by
 unfold inI
 rw [if_pos (by omega), Int.toNat_natCast]
theorem kdn {n : Nat} (h : n ≤ 8796093022208) : mkI (n : Int) (n : Int) = some n := by
 unfold mkI
 rw [if_pos (by omega), Int.toNat_natCast]
theorem kz {n : Nat} (h : n < 18446744073709551616) : u64P (n : Int) = some n := by
 unfold u64P
 rw [if_pos (by omega), Int.toNat_natCast]
theorem kfe (x y : Nat) {c : Nat} (h : c ≤ 1) : add64P (x : Int) (y : Int) (c : Int) = some ((((x + y + c) % 18446744073709551616 : Nat) : Int), (((x + y + c) / 18446744073709551616 : Nat) : Int)) := by
 unfold add64P
 rw [if_pos (by omega)]
 rfl
theorem kgw {x y c : Int} {p : Int × Int} {h : AH} {k1 k2 k3 : IntKind} (q : add64P x y c = some p) : ((prim "math/bits.Add64" [.int k1 x, .int k2 y, .int k3 c]).map fun v => (v, h)) = some (.tup [.int .u64 p.1, .int .u64 p.2], h) := by
 unfold add64P at q
 split at q
 ·rename_i hc
  cases q
  show (cond (decide (0 ≤ x ∧ 0 ≤ y ∧ 0 ≤ c ∧ c ≤ 1)) (some (AV.tup [.int .u64 ((x + y + c) % 18446744073709551616), .int .u64 ((x + y + c) / 18446744073709551616)])) none).map _ = _
  rw [decide_eq_true hc]
  rfl
 ·cases q
theorem Nats.atI {h : AH} {s : Sl} {xs : List Nat} (n : Nats h s xs) {i : Int} {y : Nat} (q : Go.Ab.atI xs i = some y) : ∃ r, idx s.ref xs.length i 1 = some r ∧ h.cell r = some (.int .u64 (y : Int)) := by
 obtain ⟨j, rfl, hj, rfl⟩ := kba1 q
 rw [← n.len]
 exact n.at hj
theorem rdc {A : Type} {f : AV → Option A} {h : AH} {r : Ref} {v : AV} {x : A} (hc : h.cell r = some v) (hf : f v = some x) : (h.cell r).bind f = some x := by
 rw [hc]
 exact hf
structure Vec (h : AH) (s : Sl) (i : Nat) (xs : List Nat) : Prop where
 is : s = ⟨some (.new i 0), xs.length, .is xs.length⟩
 has : ∃ e, h.has i (xs.map u64) e
 lt : ∀ x ∈ xs, x < 18446744073709551616
 short : xs.length ≤ 9223372036854775807
theorem Vec.len {h : AH} {s : Sl} {i : Nat} {xs : List Nat} (v : Vec h s i xs) : s.len = xs.length := by rw [v.is]
theorem Vec.nats {h : AH} {s : Sl} {i : Nat} {xs : List Nat} (v : Vec h s i xs) : Nats h s xs := by
 obtain ⟨e, b⟩ := v.has
 rw [v.is]
 exact Nats.of_has b v.lt v.short
theorem Vec.inn {h : AH} {s : Sl} {i : Nat} {xs : List Nat} (v : Vec h s i xs) : i < h.blks.size := v.has.choose_spec.lt
theorem Vec.grow {h h' : AH} (g : Grow h h') {s : Sl} {i : Nat} {xs : List Nat} (v : Vec h s i xs) : Vec h' s i xs := ⟨v.is, v.has.imp fun _ b => g.has b, v.lt, v.short⟩
theorem Vec.updr {h h' : AH} {s : Sl} {i : Nat} {xs : List Nat} (v : Vec h s i xs) {j : Nat} (hij : i ≠ j) (u : Upd h h' j) : Vec h' s i xs := ⟨v.is, v.has.imp fun _ b => b.updr hij u, v.lt, v.short⟩
theorem Vec.own {h h0 : AH} {s : Sl} {i : Nat} {xs : List Nat} (v : Vec h s i xs) (hi : h0.blks.size ≤ i) : Own h0 s := fun r hr => by
 rw [v.is] at hr
 cases hr
 exact ⟨_, _, rfl, hi⟩
theorem Vec.idx {h : AH} {s : Sl} {i : Nat} {xs : List Nat} (v : Vec h s i xs) {n : Nat} (hn : xs.length = n) {k : Int} {j : Nat} (q : inI n k = some j) : Go.Ab.idx s.ref n k 1 = some (.new i j) := by
 subst hn
 obtain ⟨rfl, hj⟩ := km8 q
 rw [v.is, kda _ _ _ _ (by omega) (by omega)]
 simp
theorem Vec.rd {A : Type} {f : AV → Option A} {h : AH} {s : Sl} {i : Nat} {xs : List Nat} (v : Vec h s i xs) {n : Nat} (hn : xs.length = n) {j : Nat} {k : Int} (q : inI n k = some j) {x : A} (hf : f (.int .u64 ((xs.getD j 0 : Nat) : Int)) = some x) : (h.cell (.new i j)).bind f = some x := by
 subst hn
 obtain ⟨e, b⟩ := v.has
 have hj := (km8 q).2
 rw [b.cell, List.getElem?_map, List.getElem?_eq_getElem hj]
 simpa [List.getD, hj] using hf
section
variable {P : AV → AH → Prop}
theorem Runs.vput {h : AH} {s : Sl} {i : Nat} {xs : List Nat} {j w : Nat} {k x : Int} {K : AH → Option (AV × AH)} (v : Vec h s i xs) {n : Nat} (hn : xs.length = n) (q : inI n k = some j) (z : u64P x = some w)
  (H : ∀ h', Vec h' s i (xs.set j w) → Upd h h' i → Runs (K h') P) : Runs ((h.puts (.new i j) [.int .u64 x]).bind K) P := by
 subst hn
 obtain ⟨e, b⟩ := v.has
 have hj := (km8 q).2
 obtain ⟨rfl, hw⟩ := km1 z
 rw [b.puts (by simp; omega)]
 have e1 : (xs.map u64).take j ++ [AV.int .u64 (w : Int)] ++ (xs.map u64).drop (j + [AV.int .u64 (w : Int)].length) = (xs.set j w).map u64 := by
  apply List.ext_getElem?
  intro t
  rw [List.map_set]
  simp only [List.length_singleton]
  rcases Nat.lt_trichotomy t j with ht | ht | ht
  ·rw [List.append_assoc, List.getElem?_append_left (by simp; omega), List.getElem?_take, if_pos ht, List.getElem?_set_ne (by omega)]
  ·subst ht
   rw [List.append_assoc, List.getElem?_append_right (by simp; omega), List.getElem?_set_self (by simp; omega)]
   simp [Nat.min_eq_left (Nat.le_of_lt hj)]
  ·rw [List.getElem?_append_right (by simp; omega), List.getElem?_drop, List.getElem?_set_ne (by omega)]
   have : j + 1 + (t - (List.take j (xs.map u64) ++ [AV.int .u64 (w : Int)]).length) = t := by
    rw [List.length_append, List.length_take, List.length_map, List.length_singleton]
    omega
   rw [this]
 rw [e1]
 refine H _ ⟨?_, ⟨e, AH.has_upd b _ _⟩, ?_, ?_⟩ (AH.upd_Upd h i _ e)
 ·rw [List.length_set]; exact v.is
 ·intro y hy
  rcases List.mem_or_eq_of_mem_set hy with h1 | h1
  ·exact v.lt y h1
  ·rw [h1]; exact hw
 ·rw [List.length_set]; exact v.short
theorem Runs.mk {h : AH} {l c : Int} {elem : TypeId} {bytes n : Nat} {K : Sl × AH → Option (AV × AH)} (q : mkI l c = some n) (hb : bytes = 8)
  (H : ∀ s h', Vec h' s h.blks.size (List.replicate n 0) → Grow h h' → Runs (K (s, h')) P) : Runs ((kbl l c elem bytes [.int .u64 0] h).bind K) P := by
 obtain ⟨h1, h2, h3⟩ := k2p q
 subst hb
 rw [ks6 h1 h2 (by omega) (by omega), ktk]
 refine H _ _ ⟨?_, ⟨elem, ?_⟩, ?_, ?_⟩ (Grow.push h _)
 ·simp
 ·have := AH.has_push h (List.replicate n (AV.int .u64 0)) elem
  rw [List.map_replicate]
  exact this
 ·intro x hx
  rw [List.eq_of_mem_replicate hx]
  omega
 ·simp; omega
end
def InB (s : Sl) (i : Nat) : Prop := ∀ r, s.ref = some r → ∃ o, r = .new i o
theorem Vec.inB {h : AH} {s : Sl} {i : Nat} {xs : List Nat} (v : Vec h s i xs) : InB s i := fun r hr => by
 rw [v.is] at hr
 cases hr
 exact ⟨_, rfl⟩
theorem InB.own {s : Sl} {i : Nat} (b : InB s i) {h : AH} (hi : h.blks.size ≤ i) : Own h s := fun r hr => by
 obtain ⟨o, rfl⟩ := b r hr
 exact ⟨i, o, rfl, hi⟩
theorem InB.cut {s s' : Sl} {l n : Int} {m i : Nat} (b : InB s i) (e : cutSl s l n m = some s') : InB s' i := fun r hr => by
 have key : s'.ref = s.ref ∨ ∃ d, s'.ref = s.ref.map (·.add d) := by
  unfold cutSl at e
  split at e
  ·cases hc : decide (0 ≤ l ∧ l ≤ n ∧ n ≤ ((_ : Nat) : Int)) with
   | true =>
    rw [hc, cond_true] at e
    cases e
    dsimp only
    split
    ·exact .inl rfl
    ·exact .inr ⟨_, rfl⟩
   | false => rw [hc, cond_false] at e; cases e
  ·cases hc : decide (0 ≤ l ∧ l ≤ n ∧ n ≤ (s.len : Int)) with
   | true =>
    rename_i z _
    cases hz : Nat.beq z m with
    | true =>
     rw [hz, hc, cond_true, cond_true] at e
     cases e
     exact .inr ⟨_, rfl⟩
    | false => rw [hz] at e; cases e
   | false =>
    rename_i z _
    cases hz : Nat.beq z m with
    | true => rw [hz, hc, cond_true, cond_false] at e; cases e
    | false => rw [hz] at e; cases e
 rcases key with k | ⟨d, k⟩
 ·exact b r (k ▸ hr)
 ·rw [k, Option.map_eq_some_iff] at hr
  obtain ⟨r0, e1, rfl⟩ := hr
  obtain ⟨o, rfl⟩ := b r0 e1
  exact ⟨_, rfl⟩
structure Win (s : Sl) (i lo n : Nat) : Prop where
 ref : s.ref = some (.new i lo)
 len : s.len = n
 fit : s.fit 1
def cutP (len : Nat) (lo hi : Int) : Option (Nat × Nat) := if 0 ≤ lo ∧ lo < hi ∧ hi ≤ (len : Int) then some (lo.toNat, (hi - lo).toNat) else none
theorem ksh {len : Nat} {lo hi : Int} {p : Nat × Nat} (q : cutP len lo hi = some p) : lo = (p.1 : Int) ∧ hi = ((p.1 + p.2 : Nat) : Int) ∧ 0 < p.2 ∧ p.1 + p.2 ≤ len := by
 unfold cutP at q
 split at q
 ·cases q
  dsimp only
  omega
 ·cases q
theorem krz {len lo n : Nat} (h0 : 0 < n) (h : lo + n ≤ len) : cutP len (lo : Int) ((lo + n : Nat) : Int) = some (lo, n) := by
 unfold cutP
 rw [if_pos (by omega), Int.toNat_natCast, show ((lo + n : Nat) : Int) - (lo : Int) = (n : Int) from by omega, Int.toNat_natCast]
theorem Vec.cutW {h : AH} {s : Sl} {i : Nat} {xs : List Nat} (v : Vec h s i xs) {n : Nat} (hn : xs.length = n) {lo hi : Int} {p : Nat × Nat} (q : cutP n lo hi = some p) : ∃ s', cutSl s lo hi 1 = some s' ∧ Win s' i p.1 p.2 := by
 subst hn
 obtain ⟨rfl, rfl, h1, h2⟩ := ksh q
 rw [v.is]
 unfold cutSl
 dsimp only
 rw [show (decide (0 ≤ (p.1 : Int) ∧ (p.1 : Int) ≤ ((p.1 + p.2 : Nat) : Int) ∧ ((p.1 + p.2 : Nat) : Int) ≤ (xs.length : Int))) = true from by rw [decide_eq_true_eq]; omega, cond_true]
 refine ⟨_, rfl, ?_, ?_, ?_⟩
 ·simp only [Int.toNat_natCast]
  rw [if_neg (by omega)]
  simp
 ·simp only [Int.toNat_natCast]
  omega
 ·show ((p.1 + p.2 : Nat) : Int).toNat - (p.1 : Int).toNat ≤ xs.length - (p.1 : Int).toNat
  simp only [Int.toNat_natCast]
  omega
theorem Win.nats {h : AH} {s t : Sl} {i lo n : Nat} {xs : List Nat} (w : Win s i lo n) (v : Vec h t i xs) (hl : lo + n ≤ xs.length) : Nats h s ((xs.drop lo).take n) := by
 have hlen : ((xs.drop lo).take n).length = n := by simp; omega
 obtain ⟨e, b⟩ := v.has
 refine ⟨⟨w.fit, by rw [w.len, List.length_map, hlen, Nat.mul_one], fun k y hy => ⟨_, w.ref, ?_⟩⟩, fun y hy => v.lt y (List.mem_of_mem_drop (List.mem_of_mem_take hy)), by have := v.short; omega⟩
 rw [Ref.add_new, b.cell]
 rw [List.getElem?_map] at hy ⊢
 rw [List.getElem?_take] at hy
 split at hy
 ·rwa [List.getElem?_drop] at hy
 ·cases hy
def setW (xs : List Nat) (lo n : Nat) (ys : List Nat) : Option (List Nat) := if lo + n ≤ xs.length ∧ ys.length = n then some (xs.take lo ++ ys ++ xs.drop (lo + n)) else none
theorem kvd {xs ys zs : List Nat} {lo n : Nat} (q : setW xs lo n ys = some zs) : zs.length = xs.length := by
 unfold setW at q
 split at q
 ·cases q
  simp
  omega
 ·cases q
theorem Vec.copyW {h : AH} {s d t : Sl} {i lo n : Nat} {xs ys zs : List Nat} (v : Vec h t i xs) (w : Win d i lo n) (m : Nats h s ys) (q : setW xs lo n ys = some zs) : ∃ h', copyH s d 1 h = some h' ∧ Vec h' t i zs ∧ Upd h h' i := by
 have hz := kvd q
 unfold setW at q
 split at q
 ·rename_i hc
  cases q
  have hg := m.cells.gets
  rw [m.len] at hg
  obtain ⟨e, b⟩ := v.has
  unfold copyH
  rw [w.ref, m.len, w.len, hc.2, Nat.min_self]
  cases hs : s.ref with
  | none =>
   have : ys = [] := by
    cases ys with
    | nil => rfl
    | cons y ys =>
     obtain ⟨r, e, _⟩ := m.cells.get 0 _ rfl
     rw [hs] at e
     cases e
   subst this
   have : n = 0 := hc.2.symm
   subst this
   exact ⟨h, rfl, by simpa using v, (Grow.refl h).toUpd i⟩
  | some r =>
   rw [hs, hc.2] at hg
   simp only [AH.getsO] at hg
   dsimp only
   rw [hg, Option.bind_some, b.puts (by simp; omega)]
   have e1 : (xs.map u64).take lo ++ ys.map u64 ++ (xs.map u64).drop (lo + (ys.map u64).length) = (xs.take lo ++ ys ++ xs.drop (lo + n)).map u64 := by
    simp [List.map_take, List.map_drop, hc.2]
   rw [e1]
   refine ⟨_, rfl, ⟨?_, ⟨e, AH.has_upd b _ _⟩, ?_, ?_⟩, AH.upd_Upd h i _ e⟩
   ·rw [hz]
    exact v.is
   ·intro z h1
    rcases List.mem_append.1 h1 with h1 | h1
    ·rcases List.mem_append.1 h1 with h1 | h1
     ·exact v.lt z (List.mem_of_mem_take h1)
     ·exact m.lt z h1
    ·exact v.lt z (List.mem_of_mem_drop h1)
   ·rw [hz]
    exact v.short
 ·cases q
def Av (s : Sl) (i : Nat) (xs : List Nat) : Prop := xs = [] ∨ ∀ o, s.ref ≠ some (.new i o)
theorem Av.of_base {h0 : AH} {s : Sl} {xs : List Nat} (n : Nats h0 s xs) {i : Nat} (hi : h0.blks.size ≤ i) : Av s i xs := by
 by_cases hx : xs = []
 ·exact .inl hx
 ·right
  intro o ho
  have hl : 0 < xs.length := by cases xs; exact absurd rfl hx; simp
  obtain ⟨r, e1, e2⟩ := n.cells.get 0 _ (by rw [List.getElem?_map, List.getElem?_eq_getElem hl]; rfl)
  rw [ho] at e1
  cases e1
  have := AH.cell_inn e2
  simp only [Ref.add_new, Ref.inn] at this
  omega
theorem Av.of_own {h1 : AH} {s : Sl} {xs : List Nat} (o : Own h1 s) {i : Nat} (hi : i < h1.blks.size) : Av s i xs := .inr fun k hk => by
 obtain ⟨j, k', e, hj⟩ := o _ hk
 cases e
 omega
theorem Av.of_in {s : Sl} {j : Nat} {xs : List Nat} (b : InB s j) {i : Nat} (hij : j ≠ i) : Av s i xs := .inr fun k hk => by
 obtain ⟨o, e⟩ := b _ hk
 cases e
 exact hij rfl
theorem Av.nil (s : Sl) (i : Nat) : Av s i [] := .inl rfl
theorem Nats.upda {h1 h2 : AH} {s : Sl} {xs : List Nat} (c : Nats h1 s xs) {i : Nat} (av : Av s i xs) (u : Upd h1 h2 i) : Nats h2 s xs :=
 ⟨⟨c.cells.fit, c.cells.len, fun k v hv => by
  obtain ⟨r, e1, e2⟩ := c.cells.get k v hv
  refine ⟨r, e1, u.cell e2 fun o' he => ?_⟩
  rcases av with rfl | av
  ·simp at hv
  ·cases r with
   | old a => cases he
   | new j o =>
    simp only [Ref.add_new, Ref.new.injEq] at he
    exact av o (by rw [e1, he.1])⟩, c.lt, c.short⟩
end Go.Ab

/- squeezed -/
set_option linter.unusedVariables false
namespace Go.Ab
section
variable {P : AV → AH → Prop} {K : AV × AH → Option (AV × AH)}
end
end Go.Ab

/- squeezed -/
set_option linter.unusedVariables false
namespace Go.Num
def num (b : Nat) : List Nat → Nat
 | [] => 0
 | x :: xs => x + b * num b xs
def digs (b n : Nat) : List Nat := if h : b ≤ 1 ∨ n = 0 then [] else n % b :: digs b (n / b)
termination_by n
decreasing_by
 have : n ≠ 0 := fun e => h (.inr e)
 have : 1 < b := by omega
 exact Nat.div_lt_self (by omega) this
theorem kb2 (b : Nat) : digs b 0 = [] := by rw [digs]; simp
theorem kdw {b n : Nat} (hb : 2 ≤ b) (hn : n ≠ 0) : digs b n = n % b :: digs b (n / b) := by
 rw [digs, dif_neg (by omega)]
theorem ki {b : Nat} (hb : 2 ≤ b) (n : Nat) : num b (digs b n) = n := by
 induction n using Nat.strongRecOn with
 | ind n ih =>
  by_cases hn : n = 0
  ·subst hn; simp [kb2, num]
  ·rw [kdw hb hn, num, ih _ (Nat.div_lt_self (by omega) hb), Nat.mod_add_div]
theorem kbk {b : Nat} (hb : 2 ≤ b) (n : Nat) : ∀ x ∈ digs b n, x < b := by
 induction n using Nat.strongRecOn with
 | ind n ih =>
  by_cases hn : n = 0
  ·subst hn; simp [kb2]
  ·rw [kdw hb hn]
   intro x hx
   rcases List.mem_cons.1 hx with rfl | hx
   ·exact Nat.mod_lt _ (by omega)
   ·exact ih _ (Nat.div_lt_self (by omega) hb) x hx
theorem kcu (b : Nat) (xs ys : List Nat) : num b (xs ++ ys) = num b xs + b ^ xs.length * num b ys := by
 induction xs with
 | nil => simp [num]
 | cons x xs ih =>
  simp only [List.cons_append, num, ih, List.length_cons, Nat.pow_succ, Nat.mul_add]
  rw [Nat.mul_comm (b ^ xs.length) b, Nat.mul_assoc]
  omega
theorem num_lt {b : Nat} (hb : 1 ≤ b) : ∀ {xs : List Nat}, (∀ x ∈ xs, x < b) → num b xs < b ^ xs.length
 | [], _ => by simp [num]
 | x :: xs, h => by
  have h1 := h x (by simp)
  have h2 := num_lt hb (xs := xs) fun y hy => h y (by simp [hy])
  simp only [num, List.length_cons, Nat.pow_succ]
  calc x + b * num b xs < b + b * num b xs := by omega
   _ = b * (num b xs + 1) := by rw [Nat.mul_add, Nat.mul_one, Nat.add_comm]
   _ ≤ b * b ^ xs.length := Nat.mul_le_mul_left _ h2
   _ = b ^ xs.length * b := Nat.mul_comm _ _
def Trim (xs : List Nat) : Prop := ∀ h : xs ≠ [], xs.getLast h ≠ 0
theorem Trim.tail {x : Nat} {xs : List Nat} (h : Trim (x :: xs)) : Trim xs := fun hx => by
 have := h (by simp)
 rwa [List.getLast_cons hx] at this
theorem kl8 {b : Nat} (hb : 1 ≤ b) : ∀ {xs : List Nat}, Trim xs → num b xs = 0 → xs = []
 | [], _, _ => rfl
 | x :: xs, ht, h => by
  simp only [num] at h
  have h1 : num b xs = 0 := by
   rcases Nat.eq_zero_or_pos (num b xs) with e | e
   ·exact e
   ·have : 0 < b * num b xs := Nat.mul_pos hb e
    omega
  have := kl8 hb ht.tail h1
  subst this
  have := ht (by simp)
  simp at this
  omega
theorem ker {b : Nat} (hb : 2 ≤ b) : ∀ {xs : List Nat}, (∀ x ∈ xs, x < b) → Trim xs → digs b (num b xs) = xs
 | [], _, _ => by simp [num, kb2]
 | x :: xs, h, ht => by
  have hx := h x (by simp)
  have hn : num b (x :: xs) ≠ 0 := fun e => by
   have := kl8 (by omega) ht e
   cases this
  rw [kdw hb hn]
  simp only [num]
  rw [Nat.add_mul_mod_self_left, Nat.mod_eq_of_lt hx, Nat.add_mul_div_left _ _ (by omega), Nat.div_eq_of_lt hx, Nat.zero_add,
   ker hb (fun y hy => h y (by simp [hy])) ht.tail]
theorem kb7 {b : Nat} (hb : 2 ≤ b) (n : Nat) : Trim (digs b n) := by
 induction n using Nat.strongRecOn with
 | ind n ih =>
  by_cases hn : n = 0
  ·subst hn; simp [kb2, Trim]
  ·rw [kdw hb hn]
   intro _
   by_cases hd : digs b (n / b) = []
   ·simp only [hd, List.getLast_singleton]
    have : n / b = 0 := by
     rcases Nat.eq_zero_or_pos (n / b) with e | e
     ·exact e
     ·rw [kdw hb (by omega)] at hd; cases hd
    have := Nat.mod_add_div n b
    rw [‹n / b = 0›] at this
    omega
   ·rw [List.getLast_cons hd]
    exact ih _ (Nat.div_lt_self (by omega) hb) hd
theorem kv {b : Nat} (hb : 2 ≤ b) (n k : Nat) : (digs b n).length ≤ k ↔ n < b ^ k := by
 induction k generalizing n with
 | zero =>
  simp only [Nat.pow_zero, Nat.le_zero_eq]
  by_cases hn : n = 0
  ·subst hn; simp [kb2]
  ·rw [kdw hb hn]; simp; omega
 | succ k ih =>
  by_cases hn : n = 0
  ·subst hn
   simp only [kb2, List.length_nil, Nat.zero_le, true_iff]
   exact Nat.pow_pos (by omega)
  ·rw [kdw hb hn, List.length_cons, Nat.add_le_add_iff_right, ih, Nat.pow_succ, Nat.div_lt_iff_lt_mul (by omega)]
theorem ktr {b : Nat} (hb : 2 ≤ b) {n : Nat} : digs b n = [] ↔ n = 0 := by
 constructor
 ·intro h
  have := ki hb n
  rw [h] at this
  simpa [num] using this.symm
 ·rintro rfl; exact kb2 b
theorem ke8 (b : Nat) (xs : List Nat) (k : Nat) : num b (xs ++ List.replicate k 0) = num b xs := by
 rw [kcu]
 have : num b (List.replicate k 0) = 0 := by
  induction k with
  | zero => rfl
  | succ k ih => simp [List.replicate_succ, num, ih]
 rw [this]
 omega
theorem k5q {b : Nat} {xs : List Nat} {n : Nat} (h : ∀ i, n ≤ i → (hi : i < xs.length) → xs[i] = 0) : num b (xs.take n) = num b xs := by
 have e : xs = xs.take n ++ xs.drop n := (List.take_append_drop n xs).symm
 have e2 : xs.drop n = List.replicate (xs.length - n) 0 := by
  apply List.ext_getElem
  ·simp
  ·intro i h1 h2
   simp only [List.getElem_drop, List.getElem_replicate]
   exact h _ (by omega) _
 conv => rhs; rw [e, e2]
 rw [ke8]
theorem kmu {b : Nat} (hb : 2 ≤ b) {xs : List Nat} {n : Nat} (hx : ∀ x ∈ xs, x < b) (h : ∀ i, n ≤ i → (hi : i < xs.length) → xs[i] = 0) (hn : n ≤ xs.length) (ht : n = 0 ∨ ∃ h : n - 1 < xs.length, xs[n - 1] ≠ 0) :
  xs.take n = digs b (num b xs) := by
 rw [← k5q h]
 symm
 refine ker hb (fun x hx' => hx x (List.mem_of_mem_take hx')) fun hne => ?_
 rcases ht with rfl | ⟨h1, h2⟩
 ·simp at hne
 ·have : (xs.take n).getLast hne = xs[n - 1] := by
   rw [List.getLast_eq_getElem]
   simp only [List.getElem_take, List.length_take]
   congr 1
   omega
  rw [this]
  exact h2
theorem ko6 {b : Nat} (hb : 2 ≤ b) {xs ys : List Nat} (hx : ∀ x ∈ xs, x < b) (hy : ∀ x ∈ ys, x < b) (ty : Trim ys) (h : xs.length < ys.length) : num b xs < num b ys := by
 rw [← ker hb hy ty] at h
 rcases Nat.lt_or_ge (num b xs) (num b ys) with h1 | h1
 ·exact h1
 ·exfalso
  have h2 := num_lt (b := b) (by omega) hx
  have h3 := (kv hb (num b ys) xs.length).2 (by omega)
  omega
def cmp (a b : Nat) : Int := if a < b then -1 else if a = b then 0 else 1
theorem kcb (b : Nat) {xs : List Nat} {k : Nat} (h : k < xs.length) : num b (xs.take (k + 1)) = num b (xs.take k) + b ^ k * xs[k] := by
 rw [List.take_succ_eq_append_getElem h, kcu]
 simp [num, Nat.min_eq_left (Nat.le_of_lt h)]
theorem k1t {b p q x y k : Nat} (hp : p < b ^ k) (hq : q < b ^ k) : cmp (p + b ^ k * x) (q + b ^ k * y) = if x < y then -1 else if x = y then cmp p q else 1 := by
 have key : ∀ {p q x y : Nat}, p < b ^ k → x < y → p + b ^ k * x < q + b ^ k * y := by
  intro p q x y hp hxy
  have : b ^ k * (x + 1) ≤ b ^ k * y := Nat.mul_le_mul_left _ hxy
  rw [Nat.mul_add, Nat.mul_one] at this
  omega
 unfold cmp
 rcases Nat.lt_trichotomy x y with h | h | h
 ·have := key (q := q) hp h
  simp [h, this]
 ·subst h
  simp
 ·have := key (q := p) hq h
  rw [if_neg (by omega), if_neg (by omega), if_neg (by omega), if_neg (by omega)]
theorem ksm {b : Nat} (hb : 2 ≤ b) (m n : Nat) : (digs b (m + n)).length ≤ max (digs b m).length (digs b n).length + 1 := by
 rw [kv hb]
 have h1 := (kv hb m _).1 (Nat.le_max_left (digs b m).length (digs b n).length)
 have h2 := (kv hb n _).1 (Nat.le_max_right (digs b m).length (digs b n).length)
 generalize max (digs b m).length (digs b n).length = k at h1 h2 ⊢
 rw [Nat.pow_succ]
 have : b ^ k * 2 ≤ b ^ k * b := Nat.mul_le_mul_left _ hb
 omega
theorem kxn {b c : Nat} {f : Nat → List Nat} {k : Nat} (hc : c = b ^ k) {xs : List Nat} (hf : ∀ x ∈ xs, (f x).length = k ∧ num b (f x) = x) : num b (xs.flatMap f) = num c xs := by
 induction xs with
 | nil => rfl
 | cons x xs ih =>
  obtain ⟨h1, h2⟩ := hf x (by simp)
  rw [List.flatMap_cons, kcu, h1, h2, ih fun y hy => hf y (by simp [hy]), ← hc]
  rfl
def dig4 (x : Nat) : List Nat := [x % 65536, x / 65536 % 65536, x / 65536 / 65536 % 65536, x / 65536 / 65536 / 65536 % 65536]
theorem k3k {x : Nat} (h : x < 18446744073709551616) : (dig4 x).length = 4 ∧ num 65536 (dig4 x) = x := by
 refine ⟨rfl, ?_⟩
 simp only [dig4, num]
 omega
end Go.Num

/- squeezed -/
set_option linter.unusedVariables false
namespace Go.Num
theorem kgz {b : Nat} : ∀ {xs : List Nat} {j : Nat} (h : j < xs.length) (w : Nat), num b (xs.set j w) + b ^ j * xs[j] = num b xs + b ^ j * w
 | x :: xs, 0, h, w => by simp only [List.set_cons_zero, num, List.getElem_cons_zero, Nat.pow_zero, Nat.one_mul]; omega
 | x :: xs, j + 1, h, w => by
  have h' : j < xs.length := by simpa using h
  have ih := kgz (b := b) (xs := xs) (j := j) h' w
  simp only [List.set_cons_succ, num, List.getElem_cons_succ]
  have e1 : b ^ (j + 1) * xs[j] = b * (b ^ j * xs[j]) := by rw [Nat.pow_succ, Nat.mul_comm (b ^ j) b, Nat.mul_assoc]
  have e2 : b ^ (j + 1) * w = b * (b ^ j * w) := by rw [Nat.pow_succ, Nat.mul_comm (b ^ j) b, Nat.mul_assoc]
  rw [e1, e2]
  have e3 := congrArg (b * ·) ih
  simp only [Nat.mul_add] at e3
  omega
theorem ks9 {b P n n' o l c c' t T : Nat} (h1 : n' + P * o = n + P * l) (h2 : t + o + c = c' * b + l) (h3 : n + c * P = T) : n' + c' * (P * b) = T + P * t := by
 have e := congrArg (P * ·) h2
 simp only [Nat.mul_add] at e
 have e1 : P * (c' * b) = c' * (P * b) := by rw [Nat.mul_left_comm]
 have e2 : P * c = c * P := Nat.mul_comm _ _
 rw [e1, e2] at e
 omega
def Row (b : Nat) (o : List Nat) (i k c x : Nat) (ys : List Nat) (T : Nat) : Prop := num b o + c * b ^ (i + k) = T + b ^ i * (x * num b (ys.take k))
theorem Row.start {b : Nat} {o : List Nat} {i x : Nat} {ys : List Nat} {T : Nat} (h : num b o = T) : Row b o i 0 0 x ys T := by
 unfold Row
 simp [num, h]
theorem Row.step {b : Nat} {o : List Nat} {i k c x : Nat} {ys : List Nat} {T c' l : Nat} (r : Row b o i k c x ys T) (hk : k < ys.length) (ho : i + k < o.length) (e : x * ys[k] + o[i + k] + c = c' * b + l) : Row b (o.set (i + k) l) i (k + 1) c' x ys T := by
 unfold Row at r ⊢
 have h1 := kgz (b := b) ho l
 have := ks9 h1 e r
 rw [show i + (k + 1) = i + k + 1 from rfl, Nat.pow_succ, this, kcb b hk, Nat.mul_add, Nat.mul_add, Nat.pow_add]
 rw [Nat.mul_assoc (b ^ i) (b ^ k), Nat.mul_left_comm (b ^ k) x]
 omega
theorem Row.stop {b : Nat} {o : List Nat} {i c x : Nat} {ys : List Nat} {T : Nat} (r : Row b o i ys.length c x ys T) (ho : i + ys.length < o.length) (h0 : o[i + ys.length] = 0) : num b (o.set (i + ys.length) c) = T + b ^ i * (x * num b ys) := by
 unfold Row at r
 have h1 := kgz (b := b) ho c
 rw [h0, Nat.mul_zero, Nat.add_zero] at h1
 rw [h1, Nat.mul_comm, r, List.take_length]
theorem ksj {b : Nat} {xs ys : List Nat} {i T : Nat} (hi : i < xs.length) (h : T = num b (xs.take i) * num b ys) : T + b ^ i * (xs[i] * num b ys) = num b (xs.take (i + 1)) * num b ys := by
 rw [kcb b hi, Nat.add_mul, h, Nat.mul_assoc]
theorem kp5 {b x y o c : Nat} (hx : x < b) (hy : y < b) (ho : o < b) (hc : c < b) : (x * y + o + c) / b < b := by
 have hb : 0 < b := by omega
 rw [Nat.div_lt_iff_lt_mul hb]
 have h1 : x * y ≤ (b - 1) * (b - 1) := Nat.mul_le_mul (by omega) (by omega)
 obtain ⟨a, rfl⟩ : ∃ a, b = a + 1 := ⟨b - 1, by omega⟩
 simp only [Nat.add_sub_cancel] at h1
 have : (a + 1) * (a + 1) = a * a + 2 * a + 1 := by rw [Nat.add_mul, Nat.mul_add]; omega
 omega
end Go.Num

/- squeezed -/
set_option linter.unusedVariables false
namespace Go.Num
section
variable {b v1 v0 u32 u1 q r v w : Nat}
theorem kn_lt (hu : u32 < v) (hu1 : u1 < b) (hw : w = u32 * b + u1) : w < v * b := by
 have : (u32 + 1) * b ≤ v * b := Nat.mul_le_mul_right _ hu
 rw [Nat.add_mul, Nat.one_mul] at this
 omega
theorem kn_mul (hv : v = v1 * b + v0) : q * v = q * v1 * b + q * v0 := by rw [hv, Nat.mul_add, Nat.mul_assoc]
theorem kn_hi (hv : v = v1 * b + v0) (hu : u32 < v) (hu1 : u1 < b) (hw : w = u32 * b + u1) (e : q * v1 + r = u32) (hge : w / v ≤ q) (t : b ≤ q ∨ b * r + u1 < q * v0) : w / v ≤ q - 1 ∧ 1 ≤ q := by
 have hvp : 0 < v := by omega
 have hl := kn_lt hu hu1 hw
 have h1 : w / v < q := by
  rcases t with t | t
  ·have : w / v < b := (Nat.div_lt_iff_lt_mul hvp).2 (by rw [Nat.mul_comm]; exact hl)
   omega
  ·rw [Nat.div_lt_iff_lt_mul hvp, kn_mul hv, hw, ← e, Nat.add_mul, Nat.mul_comm r b]
   omega
 clear hge
 generalize w / v = k at *
 omega
theorem kn_lo (hv : v = v1 * b + v0) (hu : u32 < v) (hw : w = u32 * b + u1) (e : q * v1 + r = u32) (hge : w / v ≤ q) (t : q * v0 ≤ b * r + u1) : w / v = q := by
 have hvp : 0 < v := by omega
 refine Nat.le_antisymm hge ?_
 rw [Nat.le_div_iff_mul_le hvp, kn_mul hv, hw, ← e, Nat.add_mul, Nat.mul_comm r b]
 omega
theorem kn_out (hv : v = v1 * b + v0) (hv0 : v0 < b) (hu : u32 < v) (e : q * v1 + r = u32) (hr : b ≤ r) : q * v0 ≤ b * r + u1 := by
 have h1 : q * v1 < b * v1 := by
  rw [Nat.mul_comm b v1]
  omega
 have h2 : q < b := Nat.lt_of_mul_lt_mul_right h1
 have h3 : q * v0 ≤ b * b := Nat.mul_le_mul (by omega) (by omega)
 have h4 : b * b ≤ b * r := Nat.mul_le_mul_left _ hr
 omega
theorem krq (hv1 : 0 < v1) (hv : v = v1 * b + v0) (hu : u32 < v) (hu1 : u1 < b) (hw : w = u32 * b + u1) (hb : 0 < b) : w / v ≤ u32 / v1 := by
 have hvp : 0 < v := by omega
 rw [Nat.le_div_iff_mul_le hv1]
 have h1 : w / v * v ≤ w := Nat.div_mul_le_self w v
 rw [kn_mul hv, hw] at h1
 have h2 : w / v * v1 * b < (u32 + 1) * b := by
  rw [Nat.add_mul, Nat.one_mul]
  rw [hw]
  omega
 have := Nat.lt_of_mul_lt_mul_right h2
 omega
end
theorem k54 {b v w x : Nat} (hv : 0 < v) (hx : x < b) : (w * b + x) / v = w / v * b + (w % v * b + x) / v ∧ (w * b + x) % v = (w % v * b + x) % v := by
 have e : w * b + x = v * (w / v * b) + (w % v * b + x) := by
  have := Nat.div_add_mod w v
  have h : (v * (w / v) + w % v) * b = w * b := by rw [this]
  rw [Nat.add_mul, Nat.mul_assoc] at h
  omega
 constructor
 ·rw [e, Nat.mul_add_div hv]
 ·rw [e, Nat.mul_add_mod]
end Go.Num
