/- The abstract operations against the machine's: one by one. -/
import Derived.Test.YtddnmijnpieokaaAbsG
import Derived.Laws.Tables
import Derived.Laws.MakeOwn
import Derived.Laws.BitsLemmas
set_option linter.unusedVariables false
set_option linter.unusedSimpArgs false
namespace Go.Ab

variable {P : Program} {O : World} {R : Type}

def OpGoes (P : Program) (o : Oper) (a : Act) (w : World) (G : Value → World → Prop) : Prop :=
  ∀ (next : Act → World → Prop) (Q : Exit → Act → World → Prop), (∀ u w', G u w' → next (a.put o.dst u) w') → o.wp P a w next Q

theorem OpGoes.of_value {o : Oper} {a : Act} {w w' : World} {u : Value} {G : Value → World → Prop} (h : (execOp a.eval o).run P w = .ok (.value u) w') (g : G u w') : OpGoes P o a w G := fun next Q hn => by
  unfold Oper.wp
  rw [h, Oper.upon_value]
  exact hn u w' g
theorem OpGoes.of_skip {o : Oper} {a : Act} {w w' : World} {G : Value → World → Prop} (h : (execOp a.eval o).run P w = .ok .skip w') (g : G undef w') : OpGoes P o a w G := fun next Q hn => by
  unfold Oper.wp
  rw [h, Oper.upon_skip]
  exact hn undef w' g
theorem OpGoes.of_call {o : Oper} {a : Act} {w w' : World} {f : FuncId} {args : Array Value} {G : Value → World → Prop} (h : (execOp a.eval o).run P w = .ok (.enter f args) w')
    (g : Calls P f args w' fun e w'' => ∃ u, e = .returned u ∧ G u w'') : OpGoes P o a w G := fun next Q hn => by
  unfold Oper.wp
  rw [h, Oper.upon_enter]
  refine g.mono fun e w'' ⟨u, he, hg⟩ => ?_
  subst he
  exact hn u w'' hg
theorem OpGoes.of_sem {o : Oper} {a : Act} {w w' : World} {u : Value} {s : Sem Value} {G : Value → World → Prop} (he : execOp a.eval o = (do pure (.value (← s)))) (h : s.run P w = .ok u w') (g : G u w') : OpGoes P o a w G :=
  OpGoes.of_value (by rw [he]; simp only [Sem.run_bind, h, Result.andThen_ok, Sem.run_pure]) g

/-- What an operation is asked: that it goes, and the rest with it. -/
def OpOk (P : Program) (O : World) (μ : Mu) (h : AH) (w : World) (o : Oper) (a : Act) (k : AV → AH → Option R) (r : R) : Prop :=
  ∃ v h1, k v h1 = some r ∧ OpGoes P o a w (Good P O μ h w v h1)

theorem makeArr (n : Nat) (zs : Array Value) (hz : 0 < n → 0 < zs.size) : ((Array.range (n * zs.size)).map (zs[· % zs.size]!)).toList = (List.replicate n zs.toList).flatten := by
  simp only [Array.toList_map, Array.toList_range]
  induction n with
  | zero => simp
  | succ n ih =>
    have hpos := hz (by omega)
    have ih := ih (fun h => hpos)
    rw [List.replicate_succ', List.flatten_append, ← ih, show (n + 1) * zs.size = n * zs.size + zs.size from by rw [Nat.succ_mul], List.range_add, List.map_append]
    congr 1
    simp only [List.map_map, List.flatten_cons, List.flatten_nil, List.append_nil]
    apply List.ext_getElem
    · simp
    · intro i h1 h2
      simp at h1
      simp [Nat.mul_add_mod_self_right, Nat.mod_eq_of_lt h1, getElem!_pos, h1]

theorem repC_eq (l : List AV) (n : Nat) : repC l n = (List.replicate n l).flatten := by
  induction n with
  | zero => rfl
  | succ n ih => simp [repC, ih, List.replicate_succ]

theorem VRels.rep {μ : Mu} {vs : List AV} {us : List Value} (h : VRels μ vs us) : ∀ n, VRels μ (List.replicate n vs).flatten (List.replicate n us).flatten
  | 0 => VRels.nil
  | n + 1 => by simp only [List.replicate_succ, List.flatten_cons]; exact h.append (VRels.rep h n)

theorem all_rep {vs : List AV} (h : vs.all AV.one = true) (n : Nat) : (repC vs n).all AV.one = true := by
  rw [repC_eq]
  simp only [List.all_eq_true] at *
  intro x hx
  simp only [List.mem_flatten, List.mem_replicate] at hx
  obtain ⟨l, ⟨_, rfl⟩, hx⟩ := hx
  exact h x hx

theorem asIntOf_int (k : IntKind) (n : Int) (w : World) : (asIntOf (.int k n)).run P w = .ok (k, n) w := rfl
theorem asInt_int (k : IntKind) (n : Int) (w : World) : (asInt (.int k n)).run P w = .ok n w := rfl

theorem idx_sound {μ : Mu} {r : Option Ref} {n : Nat} {i : Int} {size : Nat} {q : Ref} (h : idx r n i size = some q) : ∃ r', r = some r' ∧ 0 ≤ i ∧ i < n ∧ q = r'.add (i.toNat * size) := by
  unfold idx at h
  split at h
  · rename_i r'
    obtain ⟨h1, h2⟩ := cond_none h
    simp at h1
    cases h2
    exact ⟨r', rfl, h1.1, h1.2, rfl⟩
  · cases h

theorem wrap_i64_id {n : Int} (h0 : 0 ≤ n) (h1 : n < 9223372036854775808) : IntKind.i64.wrap n = n := by
  rw [IntKind.wrap_i64]; omega

theorem places_get {fs : Array Field} {pl : List (Nat × Nat)} (h : fieldPlaces P fs = some pl) (i : Nat) (off : Nat) (t : TypeId) (hi : ((fs.toList[i]?).map fun f => (f.offset, f.type)) = some (off, t)) : pl[i]? = some (off, P.cellsOf t) := by
  unfold fieldPlaces at h
  generalize fs.toList = l at h hi
  induction l generalizing pl i with
  | nil => simp at hi
  | cons f l ih =>
    rw [List.mapM_cons] at h
    simp only [bind, Option.bind_eq_some_iff, Option.map_eq_some_iff, pure, Option.some.injEq] at h
    obtain ⟨p, ⟨ti, hti, rfl⟩, rest, hrest, rfl⟩ := h
    cases i with
    | zero =>
      simp at hi
      obtain ⟨rfl, rfl⟩ := hi
      simp [Program.cellsOf, hti]
    | succ i =>
      have := ih i hrest (by simpa using hi)
      simpa using this

theorem zeroCells_info {μ : Mu} {t : TypeId} {zs : List AV} (h : zeroCells? P t = some zs) :
    ∃ z i, P.info? t = some i ∧ i.zero = some z ∧ VRels μ zs z.cells.toList ∧ zs.all AV.one = true := by
  unfold zeroCells? at h
  split at h
  · rename_i i hi
    split at h
    · rename_i z hz
      obtain ⟨h1, h2⟩ := VRels.ofCells (μ := μ) h
      exact ⟨z, i, hi, hz, h1, h2⟩
    · cases h
  · cases h

theorem op_build {rec : Rec} {μ : Mu} {N : Nat} {fr : Fr} {h : AH} {w : World} {o : Oper} {a : Act} (S : Sim P O μ h w) (F : FRel μ N fr a.tmps) {t : TypeId} {parts : Array (Nat × Operand)} (ho : o.op = .build t parts)
    {k : AV → AH → Option R} {r : R} (hk : opK P rec o.op o.type fr h k = some r) : OpOk P O μ h w o a k r := by
  obtain ⟨dst, op, type, pos, after, guard⟩ := o
  dsimp only at hk ho
  subst ho
  simp only [opK] at hk
  have hex : execOp a.eval ⟨dst, .build t parts, type, pos, after, guard⟩ = (do pure (.value (← Instr.build t (parts.map fun (i, x) => (i, a.eval x))))) := rfl
  have hzip : (parts.map fun (i, x) => (i, a.eval x)).toList = (parts.toList.map (·.1)).zip ((parts.toList.map (·.2)).map a.eval) := by
    simp only [Array.toList_map, List.map_map]
    generalize parts.toList = l
    induction l with
    | nil => rfl
    | cons p l ih => simp [ih]
  have hmap : ∀ vs : List AV, evs fr (parts.toList.map (·.2)) = some vs → ((parts.toList.map (·.1)).zip vs).map (·.1) = parts.toList.map (·.1) ∧ ((parts.toList.map (·.1)).zip vs).map (·.2) = vs := by
    intro vs hvs
    have := (evs_sound F hvs).length
    simp only [List.length_map] at this
    exact ⟨List.map_fst_zip (by rw [List.length_map]; omega), List.map_snd_zip (by rw [List.length_map]; omega)⟩
  split at hk
  · rename_i vs zs fs hvs hz hd
    obtain ⟨hp, hk2⟩ := cond_none hk
    obtain ⟨pl, hpl⟩ := Option.isSome_iff_exists.1 hp
    obtain ⟨z, ti, hti, hz0, h2, h3⟩ := zeroCells_info (μ := μ) hz
    obtain ⟨m1, m2⟩ := hmap vs hvs
    obtain ⟨cs, out, hk3, f1, f2, f3, f4⟩ := fillK_sound (μ := μ) (rp := fun i => pl.toArray[i]?) (fun i off t' hi => by simpa using places_get hpl i off t' hi) hk2 (us := (parts.toList.map (·.2)).map a.eval) (arr := z.cells) (by rw [m2]; exact evs_sound F hvs) h2 h3
    refine ⟨_, h, hk3, OpGoes.of_sem hex (run_build w t _ out ?_) (Good.pure S (by simp only [VRel]; exact ⟨out, rfl, f2, f3⟩))⟩
    rw [hzip]
    rw [m1] at f1
    unfold fieldPlaces at hpl
    simp only [Program.built, hti, hd, hz0, hpl]
    exact f1
  · rename_i vs zs n e hvs hz hd
    obtain ⟨hp, hk2⟩ := cond_none hk
    obtain ⟨ie, hie⟩ := Option.isSome_iff_exists.1 hp
    obtain ⟨z, ti, hti, hz0, h2, h3⟩ := zeroCells_info (μ := μ) hz
    obtain ⟨m1, m2⟩ := hmap vs hvs
    obtain ⟨cs, out, hk3, f1, f2, f3, f4⟩ := fillK_sound (μ := μ) (rp := fun i => some (i * ie.size, ie.size)) (fun i off t' hi => by simp at hi; obtain ⟨rfl, rfl⟩ := hi; simp [Program.cellsOf, hie]) hk2 (us := (parts.toList.map (·.2)).map a.eval) (arr := z.cells) (by rw [m2]; exact evs_sound F hvs) h2 h3
    refine ⟨_, h, hk3, OpGoes.of_sem hex (run_build w t _ out ?_) (Good.pure S (by simp only [VRel]; exact ⟨out, rfl, f2, f3⟩))⟩
    rw [hzip]
    rw [m1] at f1
    simp only [Program.built, hti, hd, hz0, hie]
    exact f1
  · cases hk

theorem op_buildSlice {rec : Rec} {μ : Mu} {N : Nat} {fr : Fr} {h : AH} {w : World} {o : Oper} {a : Act} (S : Sim P O μ h w) (F : FRel μ N fr a.tmps) {t : TypeId} {n : Nat} {parts : Array (Nat × Operand)} (ho : o.op = .buildSlice t n parts)
    {k : AV → AH → Option R} {r : R} (hk : opK P rec o.op o.type fr h k = some r) : OpOk P O μ h w o a k r := by
  obtain ⟨dst, op, type, pos, after, guard⟩ := o
  dsimp only at hk ho
  subst ho
  simp only [opK] at hk
  have hex : execOp a.eval ⟨dst, .buildSlice t n parts, type, pos, after, guard⟩ = (do pure (.value (← Instr.buildSlice t n (parts.map fun (i, x) => (i, a.eval x))))) := rfl
  have hzip : (parts.map fun (i, x) => (i, a.eval x)).toList = (parts.toList.map (·.1)).zip ((parts.toList.map (·.2)).map a.eval) := by
    simp only [Array.toList_map, List.map_map]
    generalize parts.toList = l
    induction l with
    | nil => rfl
    | cons p l ih => simp [ih]
  split at hk
  · rename_i vs e hvs hd
    split at hk
    · rename_i zs hz
      obtain ⟨hb, hk2⟩ := cond_none hk
      simp only [Bool.and_eq_true] at hb
      have hb1 : n * P.cellsOf e ≤ 16777216 := Nat.le_of_ble_eq_true hb.1
      have hb2 : zs.length = P.cellsOf e := Nat.eq_of_beq_eq_true hb.2
      obtain ⟨z, ti, hti, hz0, h2, h3⟩ := zeroCells_info (μ := μ) hz
      have hsz : z.cells.size = P.cellsOf e := by have := h2.length; simp at this; omega
      have hlen := (evs_sound F hvs).length
      simp only [List.length_map] at hlen
      have m1 : ((parts.toList.map (·.1)).zip vs).map (·.1) = parts.toList.map (·.1) := List.map_fst_zip (by rw [List.length_map]; exact Nat.le_of_eq hlen)
      have m2 : ((parts.toList.map (·.1)).zip vs).map (·.2) = vs := List.map_snd_zip (by rw [List.length_map]; exact Nat.le_of_eq hlen.symm)
      have harr : ((Array.range (n * P.cellsOf e)).map (z.cells[· % z.cells.size]!)).toList = (List.replicate n z.cells.toList).flatten := by
        by_cases h0 : P.cellsOf e = 0
        · have : z.cells.toList = [] := by apply List.eq_nil_of_length_eq_zero; rw [Array.length_toList]; omega
          rw [h0, this]
          simp [Array.range_zero']
        · rw [← hsz]
          exact makeArr n z.cells (by omega)
      obtain ⟨cs, out, hk3, f1, f2, f3, f4⟩ := fillK_sound (μ := μ) (rp := fun i => some (i * P.cellsOf e, P.cellsOf e)) (fun i off t' hi => by simp at hi ⊢; exact ⟨hi.1, by rw [hi.2]⟩) hk2 (us := (parts.toList.map (·.2)).map a.eval) (arr := (Array.range (n * P.cellsOf e)).map (z.cells[· % z.cells.size]!))
        (by rw [m2]; exact evs_sound F hvs) (by rw [harr, repC_eq]; exact h2.rep n) (all_rep h3 n)
      rw [m1, ← hzip] at f1
      obtain ⟨g1, g2, g3⟩ := alloc_sound (rest := []) S (us := out.toList) f2 f3 e
      simp only [List.append_nil, Array.toArray_toList] at g1 g2 g3
      refine ⟨_, _, hk3, OpGoes.of_sem hex (w' := w.alloc (.cells out e)) (u := .slice (some ⟨w.heap.size, 0, none⟩) n n) ?_ ⟨_, rowSlice rfl n, g1, g2, g3⟩⟩
      have hs : (sizeOf e).run P w = .ok (P.cellsOf e) w := by simp [sizeOf, typeInfo, hti, Program.cellsOf]
      have hgt : ¬ (16777216 < n * P.cellsOf e) := by omega
      by_cases h0 : n * P.cellsOf e = 0
      · have hz' : ∀ f g : Nat → Value, (Array.range (n * P.cellsOf e)).map f = (Array.range (n * P.cellsOf e)).map g := fun f g => by rw [h0]; simp [Array.range_zero']
        rw [hz' (z.cells[· % z.cells.size]!) ((#[] : Array Value)[· % (#[] : Array Value).size]!)] at f1
        simp only [Instr.buildSlice, Sem.run_bind, run_underlying hd, Result.andThen_ok, hs, Sem.run_ite, if_neg hgt, h0, if_true, Sem.run_pure]
        rw [h0] at f1
        simp only [f1, newRow, Sem.run_bind, run_newObj, Result.andThen_ok, Sem.run_pure]
        rfl
      · simp only [Instr.buildSlice, Sem.run_bind, run_underlying hd, Result.andThen_ok, hs, Sem.run_ite, if_neg hgt, if_neg h0, zeroValue, typeInfo, run_program, hti, hz0, Sem.run_pure, f1, newRow, run_newObj]
        rfl
    · cases hk
  · cases hk

theorem op_makeSlice {rec : Rec} {μ : Mu} {N : Nat} {fr : Fr} {h : AH} {w : World} {o : Oper} {a : Act} (S : Sim P O μ h w) (F : FRel μ N fr a.tmps) {t : TypeId} {l c : Operand} (ho : o.op = .makeSlice t l c)
    {k : AV → AH → Option R} {r : R} (hk : opK P rec o.op o.type fr h k = some r) : OpOk P O μ h w o a k r := by
  obtain ⟨dst, op, type, pos, after, guard⟩ := o
  dsimp only at hk ho
  subst ho
  simp only [opK] at hk
  split at hk
  · rename_i k1 l' k2 c' e hl hc hd
    split at hk
    · rename_i zs hz
      obtain ⟨hb, hk2⟩ := cond_none hk
      have hb := Nat.eq_of_beq_eq_true hb
      rw [Option.bind_eq_some_iff] at hk2
      obtain ⟨q, hq, hk3⟩ := hk2
      unfold makeSliceH at hq
      obtain ⟨hq1, hq2⟩ := cond_none hq
      simp only [decide_eq_true_eq] at hq1
      obtain ⟨b1, b2, b3, b4⟩ := hq1
      simp only [Option.some.injEq] at hq2
      subst hq2
      obtain ⟨z, ti, hti, hz0, h2, h3⟩ := zeroCells_info (μ := μ) hz
      have hsz : z.cells.size = ti.size := by have := h2.length; simp [Program.cellsOf, hti] at this hb; omega
      have hvl := evO_sound F hl
      have hvc := evO_sound F hc
      simp only [VRel] at hvl hvc
      have hm : (mostBytes : Int) = 70368744177664 := rfl
      rw [hm] at b3 b4
      have hby : (ti.bytes : Int) * c' ≤ 281474976710656 := by
        have hbe : P.bytesOf e = ti.bytes := by simp [Program.bytesOf, hti]
        rw [hbe, Int.mul_comm] at b4; omega
      have hrun := run_make (P := P) w t e ti z hd hti hz0 k1 k2 l' c' b1 b2 hby (by omega)
      have harr : (madeCells z.cells (c'.toNat * ti.size)).toList = (List.replicate c'.toNat z.cells.toList).flatten := by
        unfold madeCells
        by_cases h0 : ti.size = 0
        · have : z.cells.toList = [] := by apply List.eq_nil_of_length_eq_zero; rw [Array.length_toList]; omega
          rw [h0, this]
          simp [Array.range_zero']
        · rw [← hsz]
          exact makeArr _ z.cells (by omega)
      obtain ⟨g1, g2, g3⟩ := alloc_sound (rest := []) S (cs := repC zs c'.toNat) (us := (madeCells z.cells (c'.toNat * ti.size)).toList) (by rw [harr, repC_eq]; exact h2.rep _) (all_rep h3 _) e
      simp only [List.append_nil, Array.toArray_toList] at g1 g2 g3
      refine ⟨_, _, hk3, OpGoes.of_sem (s := Instr.makeSlice t (a.eval l) (a.eval c)) rfl (by rw [hvl, hvc]; exact hrun) ⟨_, ?_, g1, g2, g3⟩⟩
      simp only [VRel, Sl.v]
      exact ⟨_, _, rfl, .inr (RRel.new 0), by omega, rfl⟩
    · cases hk
  · cases hk

theorem op_fieldAddr {rec : Rec} {μ : Mu} {N : Nat} {fr : Fr} {h : AH} {w : World} {o : Oper} {a : Act} (S : Sim P O μ h w) (F : FRel μ N fr a.tmps) {s : TypeId} {x : Operand} {f : Nat} (ho : o.op = .fieldAddr s x f)
    {k : AV → AH → Option R} {r : R} (hk : opK P rec o.op o.type fr h k = some r) : OpOk P O μ h w o a k r := by
  obtain ⟨dst, op, type, pos, after, guard⟩ := o
  dsimp only at hk ho
  subst ho
  simp only [opK] at hk
  split at hk
  · rename_i p fd hp hfd
    obtain ⟨h0, hk2⟩ := cond_none' hk
    rw [Option.bind_eq_some_iff] at hk2
    obtain ⟨q, hq, hk3⟩ := hk2
    subst hq
    have hr := evO_sound F hp
    simp only [VRel] at hr
    obtain ⟨ad, hr, he⟩ := hr
    unfold fieldOf at hfd
    split at hfd
    · rename_i fs hd
      have hne : P.cellsOf fd.type ≠ 0 := fun e => by rw [e] at h0; cases h0
      have hs : ∃ i, P.info? fd.type = some i := by
        cases hi : P.info? fd.type with
        | none => simp [Program.cellsOf, hi] at hne
        | some i => exact ⟨i, rfl⟩
      obtain ⟨i, hi⟩ := hs
      have hsz : (sizeOf fd.type).run P w = .ok (P.cellsOf fd.type) w := by simp [sizeOf, typeInfo, hi, Program.cellsOf]
      simp only [Array.getElem?_toList] at hfd
      refine ⟨_, h, hk3, OpGoes.of_sem (s := Instr.fieldAt s (a.eval x) f) (u := .pointer (some (ad.add fd.offset))) rfl ?_ (Good.pure S (by simp only [VRel]; exact ⟨_, hr.add _, rfl⟩))⟩
      rw [he]
      simp [Instr.fieldAt, run_underlying hd, hfd, Instr.sureAddr, fieldPlace, hsz, hne]
    · cases hfd
  · cases hk

theorem op_field {rec : Rec} {μ : Mu} {N : Nat} {fr : Fr} {h : AH} {w : World} {o : Oper} {a : Act} (S : Sim P O μ h w) (F : FRel μ N fr a.tmps) {t : TypeId} {x : Operand} {f : Nat} (ho : o.op = .field t x f)
    {k : AV → AH → Option R} {r : R} (hk : opK P rec o.op o.type fr h k = some r) : OpOk P O μ h w o a k r := by
  obtain ⟨dst, op, type, pos, after, guard⟩ := o
  dsimp only at hk ho
  subst ho
  simp only [opK] at hk
  split at hk
  · rename_i cs fd hc hfd
    rw [Option.bind_eq_some_iff] at hk
    obtain ⟨v, hv, hk3⟩ := hk
    have hr := evO_sound F hc
    simp only [VRel] at hr
    obtain ⟨us, he, hus, h1⟩ := hr
    unfold fieldOf at hfd
    split at hfd
    · rename_i fs hd
      simp only [Array.getElem?_toList] at hfd
      obtain ⟨u, hu, hvu⟩ := part_sound hv hus h1 w
      refine ⟨v, h, hk3, OpGoes.of_sem (s := Instr.field t (a.eval x) f) rfl ?_ (Good.pure S hvu)⟩
      rw [he]
      simp [Instr.field, run_underlying hd, hfd, asAgg, hu]
    · cases hfd
  · cases hk

theorem op_indexAddr {rec : Rec} {μ : Mu} {N : Nat} {fr : Fr} {h : AH} {w : World} {o : Oper} {a : Act} (S : Sim P O μ h w) (F : FRel μ N fr a.tmps) {t : TypeId} {x i : Operand} (ho : o.op = .indexAddr t x i)
    {k : AV → AH → Option R} {r : R} (hk : opK P rec o.op o.type fr h k = some r) : OpOk P O μ h w o a k r := by
  obtain ⟨dst, op, type, pos, after, guard⟩ := o
  dsimp only at hk ho
  subst ho
  simp only [opK] at hk
  split at hk
  · rename_i p n cp kd j e hx hi hd
    obtain ⟨hinf, hk1⟩ := cond_none hk
    rw [Option.bind_eq_some_iff] at hk1
    obtain ⟨q, hq, hk3⟩ := hk1
    obtain ⟨r', rfl, j0, j1, rfl⟩ := idx_sound (μ := μ) hq
    have hr := evO_sound F hx
    have hvi := evO_sound F hi
    simp only [VRel] at hr hvi
    obtain ⟨ad, c, he, hcr, hcap⟩ := hr
    obtain ⟨ie, hie⟩ := Option.isSome_iff_exists.1 hinf
    have hs : (sizeOf e).run P w = .ok (P.cellsOf e) w := by simp [sizeOf, typeInfo, hie, Program.cellsOf]
    have hrr : RRel μ r' ad := by
      rcases hcr with h0 | h0
      · have : n ≤ c := by cases cp <;> exact hcap.1
        omega
      · exact h0
    refine ⟨_, h, hk3, OpGoes.of_sem (s := Instr.indexAt t (a.eval x) (a.eval i)) (u := .pointer (some (ad.add (j.toNat * P.cellsOf e)))) rfl ?_ (Good.pure S (by simp only [VRel]; exact ⟨_, hrr.add _, rfl⟩))⟩
    rw [he, hvi]
    simp [Instr.indexAt, asIntOf, run_underlying hd, j0, j1, hs]
  · rename_i p kd j n e hx hi hd
    obtain ⟨hinf, hk1⟩ := cond_none hk
    rw [Option.bind_eq_some_iff] at hk1
    obtain ⟨q, hq, hk3⟩ := hk1
    obtain ⟨r', rfl, j0, j1, rfl⟩ := idx_sound (μ := μ) hq
    have hr := evO_sound F hx
    have hvi := evO_sound F hi
    simp only [VRel] at hr hvi
    obtain ⟨ad, hrr, he⟩ := hr
    obtain ⟨ie, hie⟩ := Option.isSome_iff_exists.1 hinf
    have hs : (sizeOf e).run P w = .ok (P.cellsOf e) w := by simp [sizeOf, typeInfo, hie, Program.cellsOf]
    refine ⟨_, h, hk3, OpGoes.of_sem (s := Instr.indexAt t (a.eval x) (a.eval i)) (u := .pointer (some (ad.add (j.toNat * P.cellsOf e)))) rfl ?_ (Good.pure S (by simp only [VRel]; exact ⟨_, hrr.add _, rfl⟩))⟩
    rw [he, hvi]
    simp [Instr.indexAt, asIntOf, run_underlying hd, j0, j1, hs, Instr.sureAddr]
  · cases hk

theorem op_index {rec : Rec} {μ : Mu} {N : Nat} {fr : Fr} {h : AH} {w : World} {o : Oper} {a : Act} (S : Sim P O μ h w) (F : FRel μ N fr a.tmps) {t : TypeId} {x i : Operand} (ho : o.op = .index t x i)
    {k : AV → AH → Option R} {r : R} (hk : opK P rec o.op o.type fr h k = some r) : OpOk P O μ h w o a k r := by
  obtain ⟨dst, op, type, pos, after, guard⟩ := o
  dsimp only at hk ho
  subst ho
  simp only [opK] at hk
  split at hk
  · rename_i cs kd j n e hx hi hd
    obtain ⟨hj, hk2⟩ := cond_none hk
    simp only [decide_eq_true_eq] at hj
    rw [Option.bind_eq_some_iff] at hk2
    obtain ⟨v, hv, hk3⟩ := hk2
    have hr := evO_sound F hx
    have hvi := evO_sound F hi
    simp only [VRel] at hr hvi
    obtain ⟨us, he, hus, h1⟩ := hr
    obtain ⟨u, hu, hvu⟩ := part_sound hv hus h1 w
    have hsz : ∃ d, P.underlying e = some d := by
      unfold partA at hv
      split at hv
      · exact ⟨_, ‹_›⟩
      · cases hv
    obtain ⟨d, hde⟩ := hsz
    refine ⟨v, h, hk3, OpGoes.of_sem (s := Instr.index t (a.eval x) (a.eval i)) rfl ?_ (Good.pure S hvu)⟩
    rw [he, hvi]
    simp [Instr.index, asIntOf, run_underlying hd, hj.1, hj.2, run_sizeOf' hde, hu]
  · rename_i s kd j hx hi hd
    obtain ⟨hj, hk2⟩ := cond_none hk
    simp only [decide_eq_true_eq] at hj
    rw [Option.bind_eq_some_iff] at hk2
    obtain ⟨b, hb, hk3⟩ := hk2
    have hr := evO_sound F hx
    have hvi := evO_sound F hi
    simp only [VRel] at hr hvi
    refine ⟨_, h, hk3, OpGoes.of_sem (s := Instr.index t (a.eval x) (a.eval i)) (u := .int .u8 (b.toNat : Int)) rfl ?_ (Good.pure S (by simp [VRel]))⟩
    rw [hr, hvi]
    simp [Instr.index, asIntOf, run_underlying hd, hj, hb]
  · cases hk

theorem op_store {rec : Rec} {μ : Mu} {N : Nat} {fr : Fr} {h : AH} {w : World} {o : Oper} {a : Act} (S : Sim P O μ h w) (F : FRel μ N fr a.tmps) {t : TypeId} {x y : Operand} (ho : o.op = .store t x y)
    {k : AV → AH → Option R} {r : R} (hk : opK P rec o.op o.type fr h k = some r) : OpOk P O μ h w o a k r := by
  obtain ⟨dst, op, type, pos, after, guard⟩ := o
  dsimp only at hk ho
  subst ho
  simp only [opK] at hk
  split at hk
  · rename_i p v hp hv
    obtain ⟨cs, hk2, h1, h2, h3, h4, d, hd⟩ := cellsK_some hk (evO_sound F hv)
    rw [Option.bind_eq_some_iff] at hk2
    obtain ⟨q, hq, hk3⟩ := hk2
    subst hq
    rw [Option.bind_eq_some_iff] at hk3
    obtain ⟨h', hp', hk4⟩ := hk3
    have hr := evO_sound F hp
    simp only [VRel] at hr
    obtain ⟨ad, hr, he⟩ := hr
    obtain ⟨w', e1, e2, e3, e4⟩ := puts_sound (i := 0) S (by simpa [Addr.add] using hr) h1 h2 hp'
    refine ⟨_, h', hk4, OpGoes.of_skip (w' := w') ?_ ⟨μ, by simp [VRel, undef, VRels], e2, e3, e4⟩⟩
    simp only [execOp, Sem.run_bind]
    rw [he]
    simp [Instr.storeAt, Instr.sureAddr, storeVar, run_sizeOf' hd, h3, e1]
  · cases hk

theorem boundK_some {μ : Mu} {N : Nat} {fr : Fr} {a : Act} (F : FRel μ N fr a.tmps) {x : Option Operand} {d : Int} {k : Int → Option R} {r : R} (h : boundK fr x d k = some r) :
    ∃ n, k n = some r ∧ ((x.map a.eval = none ∧ n = d) ∨ ∃ kd, x.map a.eval = some (.int kd n)) := by
  unfold boundK at h
  split at h
  · exact ⟨d, h, .inl ⟨rfl, rfl⟩⟩
  · split at h
    · rename_i kd n hn
      have := evO_sound F hn
      simp only [VRel] at this
      exact ⟨n, h, .inr ⟨kd, by simp [this]⟩⟩
    · cases h

theorem sliceBound_ok {kd : IntKind} {n : Int} {y : Nat} {c : BoundsCode} (h0 : 0 ≤ n) (h1 : n ≤ y) (w : World) : (Instr.sliceBound (.int kd n) y c).run P w = .ok n.toNat w := by
  simp [Instr.sliceBound, asIntOf, h0, h1]

theorem bounds2 {isS : Bool} {len cap : Nat} {lo hi : Option Value} {l h : Int} (hl : (lo = none ∧ l = 0) ∨ ∃ kd, lo = some (.int kd l)) (hh : (hi = none ∧ h = (len : Int)) ∨ ∃ kd, hi = some (.int kd h))
    (b : 0 ≤ l ∧ l ≤ h ∧ h ≤ (cap : Int)) (w : World) : (Instr.sliceBounds isS len cap lo hi none).run P w = .ok (l.toNat, h.toNat, cap) w := by
  obtain ⟨b1, b2, b3⟩ := b
  rcases hl with ⟨rfl, rfl⟩ | ⟨kl, rfl⟩ <;> rcases hh with ⟨rfl, rfl⟩ | ⟨kh, rfl⟩
  · simp [Instr.sliceBounds]
  · simp [Instr.sliceBounds, sliceBound_ok (P := P) (show 0 ≤ h by omega) b3]
  · simp [Instr.sliceBounds, sliceBound_ok (P := P) b1 b2]
  · simp [Instr.sliceBounds, sliceBound_ok (P := P) (show 0 ≤ h by omega) b3, sliceBound_ok (P := P) b1 (show l ≤ (h.toNat : Int) by omega)]

theorem bounds3 {isS : Bool} {len cap : Nat} {lo hi mx : Option Value} {l h m : Int} (hl : (lo = none ∧ l = 0) ∨ ∃ kd, lo = some (.int kd l)) (hh : ∃ kd, hi = some (.int kd h)) (hm : ∃ kd, mx = some (.int kd m))
    (b : 0 ≤ l ∧ l ≤ h ∧ h ≤ m ∧ m ≤ (cap : Int)) (w : World) : (Instr.sliceBounds isS len cap lo hi mx).run P w = .ok (l.toNat, h.toNat, m.toNat) w := by
  obtain ⟨b1, b2, b3, b4⟩ := b
  obtain ⟨kh, rfl⟩ := hh
  obtain ⟨km, rfl⟩ := hm
  rcases hl with ⟨rfl, rfl⟩ | ⟨kl, rfl⟩
  · simp [Instr.sliceBounds, sliceBound_ok (P := P) (show 0 ≤ m by omega) b4, sliceBound_ok (P := P) (show 0 ≤ h by omega) (show h ≤ (m.toNat : Int) by omega)]
  · simp [Instr.sliceBounds, sliceBound_ok (P := P) (show 0 ≤ m by omega) b4, sliceBound_ok (P := P) (show 0 ≤ h by omega) (show h ≤ (m.toNat : Int) by omega), sliceBound_ok (P := P) b1 (show l ≤ (h.toNat : Int) by omega)]

/-- A slice's value, cut. -/
theorem cut_rel {μ : Mu} {r : Option Ref} {n : Nat} {c : Cap} {l h : Int} {size : Nat} {s : Sl} (hc : cutSl ⟨r, n, c⟩ l h size = some s) {u : Value} (hv : VRel μ (.slice r n c) u) :
    ∃ ad cap, u = .slice ad n cap ∧ (0 ≤ l ∧ l ≤ h ∧ h ≤ (cap : Int)) ∧ VRel μ s.v (.slice (if cap = l.toNat then ad else ad.map (·.add (l.toNat * size))) (h.toNat - l.toNat) (cap - l.toNat)) := by
  unfold cutSl at hc
  cases c with
  | is c =>
    obtain ⟨b, hs⟩ := cond_none hc
    simp only [decide_eq_true_eq] at b
    simp only [Option.some.injEq] at hs
    subst hs
    cases r with
    | none =>
      simp only [VRel] at hv
      obtain ⟨rfl, h2, rfl⟩ := hv
      cases h2
      have hl : l = 0 := by omega
      have hh : h = 0 := by omega
      subst hl; subst hh
      exact ⟨none, 0, rfl, by simp, by simp [VRel, Sl.v]⟩
    | some r =>
      simp only [VRel] at hv
      obtain ⟨ad, c', rfl, hcr, hle, hcc⟩ := hv
      subst hcc
      refine ⟨some ad, c', rfl, b, ?_⟩
      by_cases hcl : c' = l.toNat
      · simp only [hcl, if_true, Sl.v, VRel]
        exact ⟨ad, _, rfl, .inl (by omega), by omega, rfl⟩
      · simp only [hcl, if_false, Sl.v, Option.map_some, VRel]
        refine ⟨_, _, rfl, ?_, by omega, rfl⟩
        rcases hcr with h0 | h0
        · omega
        · exact .inr (h0.add _)
  | opn sz =>
    obtain ⟨hz, hc⟩ := cond_none hc
    have hz := Nat.eq_of_beq_eq_true hz
    subst hz
    obtain ⟨b, hs⟩ := cond_none hc
    simp only [decide_eq_true_eq] at b
    simp only [Option.some.injEq] at hs
    subst hs
    cases r with
    | none =>
      simp only [VRel] at hv
      obtain ⟨_, h2, _⟩ := hv
      cases h2
    | some r =>
      simp only [VRel] at hv
      obtain ⟨ad, c', rfl, hcr, hle, i, o, L, rfl, hL, hcap⟩ := hv
      refine ⟨some ad, c', rfl, ⟨b.1, b.2.1, by omega⟩, ?_⟩
      have hlc : l.toNat ≤ c' := by omega
      have hmul : l.toNat * sz + (c' - l.toNat) * sz = c' * sz := by rw [← Nat.add_mul]; congr 1; omega
      by_cases hcl : c' = l.toNat
      · simp only [hcl, if_true, Sl.v, Option.map_some, VRel]
        exact ⟨ad, _, rfl, .inl (by omega), by omega, i, _, L, rfl, hL, by rw [hcl] at hmul hcap; omega⟩
      · simp only [hcl, if_false, Sl.v, Option.map_some, VRel]
        refine ⟨_, _, rfl, ?_, by omega, i, _, L, rfl, hL, by omega⟩
        rcases hcr with h0 | h0
        · omega
        · exact .inr (h0.add _)

theorem cut3_rel {μ : Mu} {r : Option Ref} {n : Nat} {c : Cap} {l h m : Int} {size : Nat} {s : Sl} (hc : cutSl3 ⟨r, n, c⟩ l h m size = some s) {u : Value} (hv : VRel μ (.slice r n c) u) :
    ∃ ad cap, u = .slice ad n cap ∧ (0 ≤ l ∧ l ≤ h ∧ h ≤ m ∧ m ≤ (cap : Int)) ∧ VRel μ s.v (.slice (if m.toNat = l.toNat then ad else ad.map (·.add (l.toNat * size))) (h.toNat - l.toNat) (m.toNat - l.toNat)) := by
  unfold cutSl3 at hc
  cases c with
  | is c =>
    obtain ⟨b, hs⟩ := cond_none hc
    simp only [decide_eq_true_eq] at b
    simp only [Option.some.injEq] at hs
    subst hs
    cases r with
    | none =>
      simp only [VRel] at hv
      obtain ⟨rfl, h2, rfl⟩ := hv
      cases h2
      have hl : l = 0 := by omega
      have hh : h = 0 := by omega
      have hm : m = 0 := by omega
      subst hl; subst hh; subst hm
      exact ⟨none, 0, rfl, by simp, by simp [VRel, Sl.v]⟩
    | some r =>
      simp only [VRel] at hv
      obtain ⟨ad, c', rfl, hcr, hle, hcc⟩ := hv
      subst hcc
      refine ⟨some ad, c', rfl, b, ?_⟩
      by_cases hcl : m.toNat = l.toNat
      · simp only [hcl, if_true, Sl.v, VRel]
        exact ⟨ad, _, rfl, .inl (by omega), by omega, rfl⟩
      · simp only [hcl, if_false, Sl.v, Option.map_some, VRel]
        refine ⟨_, _, rfl, ?_, by omega, rfl⟩
        rcases hcr with h0 | h0
        · omega
        · exact .inr (h0.add _)
  | opn sz =>
    obtain ⟨b, hs⟩ := cond_none hc
    simp only [decide_eq_true_eq] at b
    simp only [Option.some.injEq] at hs
    obtain ⟨rfl, rfl, rfl⟩ := b
    subst hs
    cases r with
    | none =>
      simp only [VRel] at hv
      obtain ⟨_, h2, _⟩ := hv
      cases h2
    | some r =>
      simp only [VRel] at hv
      obtain ⟨ad, c', rfl, hcr, hle, _⟩ := hv
      refine ⟨some ad, c', rfl, by simp, ?_⟩
      simp only [if_true, Sl.v, VRel]
      exact ⟨ad, _, rfl, .inl (by simp), by simp, rfl⟩

theorem op_slice {rec : Rec} {μ : Mu} {N : Nat} {fr : Fr} {h : AH} {w : World} {o : Oper} {a : Act} (S : Sim P O μ h w) (F : FRel μ N fr a.tmps) {t : TypeId} {x : Operand} {lo hi mx : Option Operand} (ho : o.op = .slice t x lo hi mx)
    {k : AV → AH → Option R} {r : R} (hk : opK P rec o.op o.type fr h k = some r) : OpOk P O μ h w o a k r := by
  obtain ⟨dst, op, type, pos, after, guard⟩ := o
  dsimp only at hk ho
  subst ho
  simp only [opK] at hk
  split at hk
  · rename_i v hv
    have hr := evO_sound F hv
    unfold sliceK at hk
    split at hk
    · rename_i e q n c hd
      obtain ⟨l, hk1, hl⟩ := boundK_some F hk
      obtain ⟨hh, hk2, hhh⟩ := boundK_some F hk1
      split at hk2
      · obtain ⟨hinf, hk2⟩ := cond_none hk2
        obtain ⟨ie, hie⟩ := Option.isSome_iff_exists.1 hinf
        have hs : (sizeOf e).run P w = .ok (P.cellsOf e) w := by simp [sizeOf, typeInfo, hie, Program.cellsOf]
        rw [Option.bind_eq_some_iff] at hk2
        obtain ⟨s, hs', hk3⟩ := hk2
        obtain ⟨ad, cap, he, hb, hrel⟩ := cut_rel hs' hr
        refine ⟨_, h, hk3, OpGoes.of_sem (s := Instr.sliceAt t (a.eval x) (lo.map a.eval) (hi.map a.eval) none) rfl ?_ (Good.pure S hrel)⟩
        rw [he]
        simp only [Instr.sliceAt, Sem.run_bind, run_underlying hd, Result.andThen_ok, Instr.slice, bounds2 (P := P) (isS := true) hl hhh hb, hs, Sem.run_pure]
      · rename_i m
        obtain ⟨hinf, hk2⟩ := cond_none hk2
        simp only [Bool.and_eq_true] at hinf
        obtain ⟨hinf, hsome⟩ := hinf
        obtain ⟨ie, hie⟩ := Option.isSome_iff_exists.1 hinf
        have hs : (sizeOf e).run P w = .ok (P.cellsOf e) w := by simp [sizeOf, typeInfo, hie, Program.cellsOf]
        obtain ⟨mm, hk3, hmm⟩ := boundK_some F hk2
        rw [Option.bind_eq_some_iff] at hk3
        obtain ⟨s, hs', hk4⟩ := hk3
        obtain ⟨ad, cap, he, hb, hrel⟩ := cut3_rel hs' hr
        have hh1 : ∃ kd, hi.map a.eval = some (.int kd hh) := by
          rcases hhh with ⟨h0, _⟩ | h0
          · cases hi <;> simp at h0 hsome
          · exact h0
        have hm1 : ∃ kd, (some m).map a.eval = some (.int kd mm) := by
          rcases hmm with ⟨h0, _⟩ | h0
          · simp at h0
          · exact h0
        refine ⟨_, h, hk4, OpGoes.of_sem (s := Instr.sliceAt t (a.eval x) (lo.map a.eval) (hi.map a.eval) ((some m).map a.eval)) rfl ?_ (Good.pure S hrel)⟩
        rw [he]
        simp only [Instr.sliceAt, Sem.run_bind, run_underlying hd, Result.andThen_ok, Instr.slice, bounds3 (P := P) (isS := true) hl hh1 hm1 hb, hs, Sem.run_pure]
    · rename_i n e q hd
      obtain ⟨l, hk1, hl⟩ := boundK_some F hk
      obtain ⟨hh, hk2, hhh⟩ := boundK_some F hk1
      split at hk2
      · obtain ⟨hinf, hk2⟩ := cond_none hk2
        obtain ⟨ie, hie⟩ := Option.isSome_iff_exists.1 hinf
        have hs : (sizeOf e).run P w = .ok (P.cellsOf e) w := by simp [sizeOf, typeInfo, hie, Program.cellsOf]
        rw [Option.bind_eq_some_iff] at hk2
        obtain ⟨s, hs', hk3⟩ := hk2
        simp only [VRel] at hr
        obtain ⟨ad0, hr, he0⟩ := hr
        obtain ⟨ad, cap, he, hb, hrel⟩ := cut_rel hs' (u := .slice (some ad0) n n) (by simp only [VRel]; exact ⟨ad0, n, rfl, .inr hr, Nat.le_refl _, rfl⟩)
        cases he
        refine ⟨_, h, hk3, OpGoes.of_sem (s := Instr.sliceAt t (a.eval x) (lo.map a.eval) (hi.map a.eval) none) rfl ?_ (Good.pure S hrel)⟩
        rw [he0]
        simp only [Instr.sliceAt, Sem.run_bind, run_underlying hd, Result.andThen_ok, Instr.sureAddr, Sem.run_pure, bounds2 (P := P) (isS := false) hl hhh hb, hs]
        by_cases hcl : n = l.toNat <;> simp [hcl]
      · cases hk2
    · rename_i s hd
      obtain ⟨l, hk1, hl⟩ := boundK_some F hk
      obtain ⟨hh, hk2, hhh⟩ := boundK_some F hk1
      split at hk2
      · obtain ⟨hb, hk3⟩ := cond_none hk2
        simp only [decide_eq_true_eq] at hb
        simp only [VRel] at hr
        refine ⟨_, h, hk3, OpGoes.of_sem (s := Instr.sliceAt t (a.eval x) (lo.map a.eval) (hi.map a.eval) none) (u := .string (s.extract l.toNat hh.toNat)) rfl ?_ (Good.pure S (by simp [VRel]))⟩
        rw [hr]
        simp [Instr.sliceAt, Instr.slice, run_underlying hd, bounds2 (P := P) (isS := false) hl hhh hb]
      · cases hk2
    · cases hk
  · cases hk

theorem op_sound {rec : Rec} {μ : Mu} {N : Nat} {fr : Fr} {h : AH} {w : World} {o : Oper} {a : Act} (S : Sim P O μ h w) (F : FRel μ N fr a.tmps) (hnc : ∀ c, o.op ≠ .call c)
    {k : AV → AH → Option R} {r : R} (hk : opK P rec o.op o.type fr h k = some r) : OpOk P O μ h w o a k r := by
  obtain ⟨dst, op, type, pos, after, guard⟩ := o
  dsimp only at hk hnc
  cases op <;> simp only [opK] at hk
  case call c => exact absurd rfl (hnc c)
  case move x =>
    rw [Option.bind_eq_some_iff] at hk
    obtain ⟨v, hv, hk⟩ := hk
    exact ⟨v, h, hk, OpGoes.of_value (u := a.eval x) rfl (Good.pure S (evO_sound F hv))⟩
  case assign x =>
    rw [Option.bind_eq_some_iff] at hk
    obtain ⟨v, hv, hk⟩ := hk
    exact ⟨v, h, hk, OpGoes.of_value (u := a.eval x) rfl (Good.pure S (evO_sound F hv))⟩
  case pick c x y =>
    split at hk
    · rename_i t ht
      have hc := evO_sound F ht
      simp only [VRel] at hc
      rcases cond_some hk with ⟨rfl, hk2⟩ | ⟨rfl, hk2⟩ <;> rw [Option.bind_eq_some_iff] at hk2 <;> obtain ⟨v, hv, hk2⟩ := hk2
      · exact ⟨v, h, hk2, OpGoes.of_value (u := a.eval x) (by simp [execOp, hc, asBool]) (Good.pure S (evO_sound F hv))⟩
      · exact ⟨v, h, hk2, OpGoes.of_value (u := a.eval y) (by simp [execOp, hc, asBool]) (Good.pure S (evO_sound F hv))⟩
    · cases hk
  case alloc t =>
    split at hk
    · rename_i zs hz
      obtain ⟨z, h1, h2, h3⟩ := zeroCells_sound (μ := μ) hz w
      refine ⟨_, _, hk, OpGoes.of_sem (s := Instr.alloc t true (.tuple #[])) rfl ?_ (box_good S h2 h3 t)⟩
      simp [Instr.alloc, h1, newVar, newRow]
    · cases hk
  case box t x =>
    rw [Option.bind_eq_some_iff] at hk
    obtain ⟨v, hv, hk⟩ := hk
    obtain ⟨cs, hk, h1, h2, h3, _⟩ := cellsK_some hk (evO_sound F hv)
    refine ⟨_, _, hk, OpGoes.of_sem (s := Instr.box t (a.eval x)) rfl ?_ (box_good S h1 h2 t)⟩
    simp [Instr.box, newVar, newRow]
  case build t parts => exact op_build (rec := rec) S F rfl hk
  case buildSlice t n parts => exact op_buildSlice (rec := rec) S F rfl hk
  case load t x =>
    split at hk
    · rename_i q hq
      have hv := evO_sound F hq
      simp only [VRel] at hv
      obtain ⟨ad, hr, he⟩ := hv
      obtain ⟨v, u, hk, hvu, hl⟩ := loadK_sound S hr hk
      refine ⟨v, h, hk, OpGoes.of_sem (s := Instr.loadAt t (a.eval x)) rfl ?_ (Good.pure S hvu)⟩
      rw [he]
      simp [Instr.loadAt, Instr.sureAddr, hl]
    · cases hk
    · cases hk
  case store t x y => exact op_store (rec := rec) S F rfl hk
  case nilCheck x =>
    split at hk
    · rename_i p hp
      rw [Option.bind_eq_some_iff] at hk
      obtain ⟨q, rfl, hk⟩ := hk
      have hr := evO_sound F hp
      refine ⟨_, h, hk, OpGoes.of_value (u := a.eval x) ?_ (Good.pure S hr)⟩
      simp only [VRel] at hr
      obtain ⟨ad, _, he⟩ := hr
      simp only [execOp]
      rw [he]
      rfl
    · rename_i f b c hf
      have hr := evO_sound F hf
      refine ⟨_, h, hk, OpGoes.of_value (u := a.eval x) ?_ (Good.pure S hr)⟩
      simp only [VRel] at hr
      obtain ⟨g, x1, x2, he, hg, _⟩ := hr
      simp only [FnRel] at hg
      subst hg
      simp only [execOp]
      rw [he]
      rfl
    · cases hk
  case binOp op t x y yt =>
    split at hk
    · rename_i v1 v2 h1 h2
      obtain ⟨z, u, hk, hz, e1, e2⟩ := binK_sound hk (evO_sound F h1) (evO_sound F h2) x y w
      refine ⟨z, h, hk, OpGoes.of_value (u := u) ?_ (Good.pure S hz)⟩
      simp [execOp, e1, e2]
    · cases hk
  case unOp op t x =>
    split at hk
    · rename_i v h1
      obtain ⟨z, u, hk, hz, e1⟩ := unK_sound (P := P) hk (evO_sound F h1) w
      exact ⟨z, h, hk, OpGoes.of_sem rfl e1 (Good.pure S hz)⟩
    · cases hk
  case convert s d x =>
    split at hk
    · rename_i v h1
      obtain ⟨z, u, hk, hz, e1⟩ := convertK_sound hk (evO_sound F h1) w
      exact ⟨z, h, hk, OpGoes.of_sem rfl e1 (Good.pure S hz)⟩
    · cases hk
  case makeFunc f first captured =>
    split at hk
    · rename_i x y g h1 h2
      refine ⟨_, h, hk, OpGoes.of_value (u := .func (.func g) (first.map a.eval) (captured.map a.eval)) rfl (Good.pure S ?_)⟩
      simp only [VRel]
      exact ⟨_, _, _, rfl, rfl, by simpa using evs_sound F h1, by simpa using evs_sound F h2⟩
    · cases hk
  case makeSlice t l c => exact op_makeSlice (rec := rec) S F rfl hk
  case slice t x lo hi mx => exact op_slice (rec := rec) S F rfl hk
  case fieldAddr s x f => exact op_fieldAddr (rec := rec) S F rfl hk
  case field t x f => exact op_field (rec := rec) S F rfl hk
  case indexAddr t x i => exact op_indexAddr (rec := rec) S F rfl hk
  case index t x i => exact op_index (rec := rec) S F rfl hk
  case extract x i =>
    split at hk
    · rename_i vs hv
      rw [Option.bind_eq_some_iff] at hk
      obtain ⟨v, hvi, hk⟩ := hk
      have hr := evO_sound F hv
      simp only [VRel] at hr
      obtain ⟨us, he, hus⟩ := hr
      obtain ⟨u, hu, hvu⟩ := hus.get i v hvi
      refine ⟨v, h, hk, OpGoes.of_sem (s := Instr.extract (a.eval x) i) rfl ?_ (Good.pure S hvu)⟩
      rw [he]
      simp only [Array.getElem?_toList] at hu
      simp [Instr.extract, hu]
    · cases hk
  all_goals cases hk

end Go.Ab
