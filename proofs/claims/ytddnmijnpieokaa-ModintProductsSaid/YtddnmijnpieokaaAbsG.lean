/- The abstract operations against the machine's: what makes, reads and writes memory. -/
import Derived.Test.YtddnmijnpieokaaAbsF
set_option linter.unusedVariables false
set_option linter.unusedSimpArgs false
namespace Go.Ab

variable {P : Program} {O : World} {R : Type}

theorem binK_sound {μ : Mu} {op : BinOp} {t : TypeId} {x y : AV} {k : AV → Option R} {r : R} (h : binK P op t x y k = some r) {u v : Value} (hx : VRel μ x u) (hy : VRel μ y v) (xo yo : Operand) (w : World) :
    ∃ z a, k z = some r ∧ VRel μ z a ∧ (eqGuard op t xo yo u v).run P w = .ok () w ∧ (binOp op t u v).run P w = .ok a w := by
  have eqcase : ∀ (neg : Bool), (op = if neg then .neq else .eql) → (∃ b, eqAV P t x y = some b ∧ k (.bool (if neg then !b else b)) = some r) →
      ∃ z a, k z = some r ∧ VRel μ z a ∧ (eqGuard op t xo yo u v).run P w = .ok () w ∧ (binOp op t u v).run P w = .ok a w := by
    intro neg hop ⟨b, hb, hk⟩
    have hop' : op = .eql ∨ op = .neq := by cases neg <;> simp at hop <;> simp [hop]
    have hval : (if op = .eql then b else !b) = (if neg then !b else b) := by cases neg <;> simp at hop <;> subst hop <;> simp
    unfold eqAV at hb
    split at hb
    · rename_i xs ys
      obtain ⟨hg, hb⟩ := cond_none' hb
      simp only [VRel] at hx hy
      obtain ⟨us, rfl, hu, h1⟩ := hx
      obtain ⟨vs, rfl, hv, h2⟩ := hy
      have hE := eqD_sound (P := P) (μ := μ) w 20 t _ _ b hb (.agg us) (.agg vs) (by simp only [VRel]; exact ⟨us, rfl, hu, h1⟩) (by simp only [VRel]; exact ⟨vs, rfl, hv, h2⟩) 9980
      have hE' : (Op.equal t (.agg us) (.agg vs)).run P w = .ok b w := hE
      refine ⟨_, .bool (if neg then !b else b), hk, by simp [VRel], ?_, ?_⟩
      · rcases hop' with rfl | rfl <;> simp [eqGuard, hg]
      · rw [← hval]
        rcases hop' with rfl | rfl
        · show (do pure (.bool (← Op.equal t (.agg us) (.agg vs))) : Sem Value).run P w = _
          simp only [Sem.run_bind, hE', Result.andThen_ok, Sem.run_pure, if_true]
        · show (do pure (.bool (!(← Op.equal t (.agg us) (.agg vs)))) : Sem Value).run P w = _
          simp only [Sem.run_bind, hE', Result.andThen_ok, Sem.run_pure]
          rfl
    · split at hb
      · rename_i d hd
        obtain ⟨_, hb⟩ := cond_none' hb
        obtain ⟨hf, hb⟩ := cond_none hb
        obtain ⟨e1, e2⟩ := eqCell_sound hb hx hy hd hf op hop' xo yo w
        refine ⟨_, .bool (if neg then !b else b), hk, by simp [VRel], e1, ?_⟩
        rw [e2, hval]
      · cases hb
  unfold binK at h
  split at h
  · rename_i kd a _ b
    obtain ⟨h1, h⟩ := cond_none' h
    simp only [VRel] at hx hy
    subst hx; subst hy
    simp at h1
    refine ⟨_, .int kd (ishl kd a b), h, by simp [VRel], eqGuard_int _ _ _ _ _ _ _ _ _, ?_⟩
    have : ¬ b < 0 := by omega
    simp [binOp, Op.shift, this, ishl]
  · rename_i kd a _ b
    obtain ⟨h1, h⟩ := cond_none' h
    simp only [VRel] at hx hy
    subst hx; subst hy
    simp at h1
    refine ⟨_, .int kd (ishr kd a b), h, by simp [VRel], eqGuard_int _ _ _ _ _ _ _ _ _, ?_⟩
    have : ¬ b < 0 := by omega
    simp [binOp, Op.shift, this, ishr]
  · rename_i kd a kd' b _ _
    obtain ⟨h1, h2⟩ := cond_none h
    simp only [VRel] at hx hy
    simp at h1
    subst h1
    obtain ⟨z, a', e1, e2, e3⟩ := intK_sound h2 t w
    subst hx; subst hy
    exact ⟨z, a', e1, e2 μ, eqGuard_int _ _ _ _ _ _ _ _ _, e3⟩
  · rw [Option.bind_eq_some_iff] at h
    obtain ⟨b, hb, hk⟩ := h
    exact eqcase false rfl ⟨b, hb, hk⟩
  · rw [Option.bind_eq_some_iff] at h
    obtain ⟨b, hb, hk⟩ := h
    exact eqcase true rfl ⟨b, hb, hk⟩
  · cases h

theorem unK_sound {μ : Mu} {op : UnOp} {x : AV} {k : AV → Option R} {r : R} (h : unK op x k = some r) {u : Value} (hx : VRel μ x u) (w : World) :
    ∃ z a, k z = some r ∧ VRel μ z a ∧ (Op.unary op u).run P w = .ok a w := by
  unfold unK at h
  split at h
  · rename_i kd n
    simp only [VRel] at hx; subst hx
    exact ⟨_, .int kd (kd.wrap (0 - n)), h, by simp [VRel], by simp [Op.unary, Op.intArith]⟩
  · rename_i kd n
    simp only [VRel] at hx; subst hx
    refine ⟨_, .int kd (ixor kd (cond kd.signed (-1) kd.max) n), h, by simp [VRel], ?_⟩
    simp only [Op.unary, Op.intBits, ixor]
    cases kd.signed <;> rfl
  · rename_i b
    simp only [VRel] at hx; subst hx
    exact ⟨_, .bool (!b), h, by simp [VRel], by simp [Op.unary]⟩
  · cases h

theorem convertK_sound {μ : Mu} {s d : TypeId} {x : AV} {k : AV → Option R} {r : R} (h : convertK P s d x k = some r) {u : Value} (hx : VRel μ x u) (w : World) :
    ∃ z a, k z = some r ∧ VRel μ z a ∧ (convert s d u).run P w = .ok a w := by
  unfold convertK at h
  split at h
  · rename_i k1 kd _ n h1 h2
    simp only [VRel] at hx; subst hx
    refine ⟨_, .int kd (kd.wrap n), h, by simp [VRel], ?_⟩
    simp [convert, run_underlying h1, run_underlying h2, Conv.intToInt]
  · rename_i s' h1 h2
    simp only [VRel] at hx; subst hx
    exact ⟨_, .string s', h, by simp [VRel], by simp [convert, run_underlying h1, run_underlying h2]⟩
  · cases h

theorem Frm.same {μ : Mu} {h : AH} {w : World} : Frm μ h w w := Frm.refl _ _ _

theorem box_good {μ : Mu} {h : AH} {w : World} (S : Sim P O μ h w) {cs : List AV} {us : List Value} (hv : VRels μ cs us) (h1 : cs.all AV.one = true) (e : TypeId) :
    Good P O μ h w (.ptr (some h.next)) (h.alloc (.cells cs e)) (.pointer (some ⟨w.heap.size, 0, none⟩)) (w.alloc (.cells us.toArray e)) := by
  obtain ⟨a, b, c⟩ := alloc_sound (rest := []) S hv h1 e
  simp only [List.append_nil] at a b c
  refine ⟨_, ?_, a, b, c⟩
  simp only [VRel]
  exact ⟨_, RRel.new 0, rfl⟩

theorem rowSlice {μ : Mu} {i : Nat} {L : Loc} (hb : L.base = 0) (n : Nat) : VRel (Mu.set μ i L) (.slice (some (.new i 0)) n (.is n)) (.slice (some ⟨L.block, 0, none⟩) n n) := by
  simp only [VRel]
  exact ⟨_, n, rfl, .inr ⟨L, set_self _ _ _, by simp [hb]⟩, Nat.le_refl _, rfl⟩

/-! ### fill -/
theorem foldl_set (vs : List Value) : ∀ (k off : Nat) (cells : Array Value), off + k + vs.length ≤ cells.size →
    ((vs.zipIdx k).foldl (fun cs (c : Value × Nat) => cs.setIfInBounds (off + c.2) c.1) cells).toList = cells.toList.take (off + k) ++ vs ++ cells.toList.drop (off + k + vs.length) := by
  induction vs with
  | nil => intro k off cells h; simp
  | cons v vs ih =>
    intro k off cells h
    simp only [List.length_cons] at h
    simp only [List.zipIdx_cons, List.foldl_cons]
    rw [ih (k + 1) off _ (by simp; omega)]
    simp only [Array.toList_setIfInBounds]
    have h1 : (cells.toList.set (off + k) v).take (off + (k + 1)) = cells.toList.take (off + k) ++ [v] := by
      rw [show off + (k + 1) = (off + k) + 1 from by omega, List.take_succ_eq_append_getElem (by simp; omega)]
      rw [List.take_set_of_le (Nat.le_refl _)]
      simp
    have h2 : (cells.toList.set (off + k) v).drop (off + (k + 1) + vs.length) = cells.toList.drop (off + k + (vs.length + 1)) := by
      rw [List.drop_set_of_lt (by omega)]
      congr 1
      omega
    rw [h1, h2]
    simp

theorem all_splice {cells cs : List AV} (h : cells.all AV.one = true) (k : cs.all AV.one = true) (off : Nat) : (splice cells off cs).all AV.one = true := by
  rw [List.all_eq_true] at *
  intro x hx
  simp only [splice, List.mem_append] at hx
  rcases hx with (hx | hx) | hx
  · exact h x (List.mem_of_mem_take hx)
  · exact k x hx
  · exact h x (List.mem_of_mem_drop hx)

theorem fillK_sound {μ : Mu} {place : Nat → Option (Nat × TypeId)} {rp : Nat → Option (Nat × Nat)} (hp : ∀ i off t, place i = some (off, t) → rp i = some (off, P.cellsOf t)) :
    ∀ {parts : List (Nat × AV)} {cells : List AV} {k : List AV → Option R} {r : R}, fillK P place parts cells k = some r →
    ∀ {us : List Value} {arr : Array Value}, VRels μ (parts.map (·.2)) us → VRels μ cells arr.toList → cells.all AV.one = true →
    ∃ cs out, k cs = some r ∧ Instr.fill rp arr ((parts.map (·.1)).zip us) = some out ∧ VRels μ cs out.toList ∧ cs.all AV.one = true ∧ out.size = arr.size
  | [], cells, k, r, h, us, arr, hu, hc, h1 => by
    have := hu.nil_inv
    subst this
    exact ⟨cells, arr, h, rfl, hc, h1, rfl⟩
  | (i, v) :: rest, cells, k, r, h, us, arr, hu, hc, h1 => by
    obtain ⟨x, xs, rfl, hx, hxs⟩ := hu.cons_inv
    simp only [fillK] at h
    split at h
    · cases h
    · rename_i off t hpl
      obtain ⟨cs, h, e1, e2, e3, e4, _⟩ := cellsK_some h hx
      obtain ⟨hb, h⟩ := cond_none h
      have hle : off + cs.length ≤ cells.length := Nat.le_of_ble_eq_true hb
      have hcl := hc.length
      have hel := e1.length
      have hsz : off + x.cells.size ≤ arr.size := by simp at hcl hel; omega
      have hf := foldl_set x.cells.toList 0 off arr (by simp; omega)
      have hrel : VRels μ (splice cells off cs) ((x.cells.toList.zipIdx 0).foldl (fun cs (c : Value × Nat) => cs.setIfInBounds (off + c.2) c.1) arr).toList := by
        rw [hf]
        simp only [splice, Nat.add_zero]
        refine ((hc.take off).append e1).append ?_
        rw [hel]
        exact hc.drop _
      obtain ⟨cs', out, f1, f2, f3, f4, f5⟩ := fillK_sound hp h hxs hrel (all_splice h1 e2 off)
      refine ⟨cs', out, f1, ?_, f3, f4, ?_⟩
      · simp only [List.map_cons, List.zip_cons_cons, Instr.fill, hp i off t hpl]
        rw [if_neg (by simp [e3]; rw [← e3]; omega)]
        have hz : x.cells.zipIdx.foldl (fun cs (c : Value × Nat) => cs.setIfInBounds (off + c.2) c.1) arr = (x.cells.toList.zipIdx 0).foldl (fun cs (c : Value × Nat) => cs.setIfInBounds (off + c.2) c.1) arr := by
          rw [← Array.foldl_toList, Array.toList_zipIdx]
        exact (congrArg (fun q => Instr.fill rp q ((rest.map (·.1)).zip xs)) hz).trans f2
      · rw [f5]
        have := congrArg List.length hf
        simp only [Array.length_toList, List.length_append, List.length_take, List.length_drop] at this
        omega

end Go.Ab
