/- The abstract operations against the machine's: calls. -/
import Derived.Test.YtddnmijnpieokaaAbsI
set_option linter.unusedVariables false
set_option linter.unusedSimpArgs false
namespace Go.Ab

variable {P : Program} {O : World} {R : Type}

theorem lenK_sound {μ : Mu} {t : TypeId} {x : AV} {k : AV → Option R} {r : R} (h : lenK P t x k = some r) {u : Value} (hx : VRel μ x u) {ts : Array TypeId} (h0 : ts[0]? = some t) (ty : TypeId) (w : World) :
    ∃ z a, k z = some r ∧ VRel μ z a ∧ (Builtin.len_ ts ty #[u]).run P w = .ok a w := by
  unfold lenK at h
  split at h
  · rename_i s hd
    simp only [VRel] at hx; subst hx
    exact ⟨_, .int .i64 s.size, h, by simp [VRel], by simp [Builtin.len_, h0, run_underlying hd, goInt]⟩
  · rename_i n e hd
    exact ⟨_, .int .i64 n, h, by simp [VRel], by simp [Builtin.len_, h0, run_underlying hd, goInt]⟩
  · rename_i e r n c hd
    obtain ⟨a, cap, rfl, _⟩ := hx.slice_open
    exact ⟨_, .int .i64 n, h, by simp [VRel], by simp [Builtin.len_, h0, run_underlying hd, goInt]⟩
  · cases h

theorem copy_sound {μ : Mu} {h : AH} {w : World} (S : Sim P O μ h w) {ts : Array TypeId} {ty t e : TypeId} (h0 : ts[0]? = some t) (hd : P.underlying t = some (.slice e)) (hie : (P.info? e).isSome = true)
    {r r' : Option Ref} {n n' : Nat} {c c' : Cap} {u u' : Value} (hu : VRel μ (.slice r n c) u) (hu' : VRel μ (.slice r' n' c') u') {h' : AH} (hc : copyH ⟨r', n', c'⟩ ⟨r, n, c⟩ (P.cellsOf e) h = some h') :
    Yields P (Builtin.copy_ ts ty #[u, u']) w (Good P O μ h w (.int .i64 ((min n' n : Nat) : Int)) h') := by
  obtain ⟨ie, hi⟩ := Option.isSome_iff_exists.1 hie
  have hs : (sizeOf e).run P w = .ok (P.cellsOf e) w := by simp [sizeOf, typeInfo, hi, Program.cellsOf]
  have hlen : (Builtin.lenOf u').run P w = .ok n' w := by
    obtain ⟨_, _, rfl, _⟩ := hu'.slice_open; rfl
  unfold copyH at hc
  have hmin : min n' n = Nat.min n' n := rfl
  split at hc
  · rename_i rd rs hrd hrs
    dsimp only at hrd hrs hc
    subst hrd; subst hrs
    simp only [Option.bind_eq_some_iff] at hc
    obtain ⟨cs, hg, hp⟩ := hc
    obtain ⟨us, k1, k2, k3, k4⟩ := firstCells_sound S hu' (m := min n' n) (Nat.min_le_left _ _) (by simpa [AH.getsO] using hg)
    simp only [VRel] at hu
    obtain ⟨a, cap, rfl, hcr, hcap⟩ := hu
    have hle : n ≤ cap := by cases c <;> exact hcap.1
    rw [hmin] at k2
    rcases hcr with h00 | hrr
    · have hn : n = 0 := by omega
      subst hn
      have hnil : us = [] := List.eq_nil_of_length_eq_zero (by simpa using k1)
      subst hnil
      have hcs : cs = [] := List.eq_nil_of_length_eq_zero k3.length.symm
      subst hcs
      simp only [AH.puts, Option.some.injEq] at hp
      subst hp
      refine ⟨.int .i64 ((min n' 0 : Nat) : Int), w, ?_, Good.pure S (by simp [VRel])⟩
      simp [Builtin.copy_, h0, run_underlying hd, hlen, hs, ← hmin] at k2 ⊢
      simp [k2, storeCells, goInt]
    · obtain ⟨w', e1, e2, e3, e4⟩ := puts_sound (i := 0) (a := a) S (by rw [show a.add 0 = a from by simp [Addr.add]]; exact hrr) k3 k4 hp
      refine ⟨.int .i64 ((min n' n : Nat) : Int), w', ?_, μ, by simp [VRel], e2, e3, e4⟩
      simp [Builtin.copy_, h0, run_underlying hd, hlen, hs, k2, e1, goInt, hmin]
  · rename_i hno
    simp only [Option.some.injEq] at hc
    subst hc
    have hz : min n' n = 0 ∨ False := by
      cases r with
      | none => simp only [VRel] at hu; left; rw [hu.1]; simp
      | some r => cases r' with
        | none => simp only [VRel] at hu'; left; rw [hu'.1]; simp
        | some r' => exact absurd rfl (hno r r' rfl)
    have hz : min n' n = 0 := by simpa using hz
    obtain ⟨us, k1, k2, k3, k4⟩ := firstCells_sound (size := P.cellsOf e) S hu' (m := 0) (Nat.zero_le _) (by cases r' <;> simp [AH.getsO, AH.gets] <;> rfl)
    have hnil : us = [] := List.eq_nil_of_length_eq_zero (by simpa using k1)
    subst hnil
    have hz' : Nat.min n' n = 0 := hz
    refine ⟨.int .i64 ((min n' n : Nat) : Int), w, ?_, Good.pure S (by simp [VRel])⟩
    obtain ⟨base, cap, rfl, _⟩ := hu.slice_open
    cases base <;> simp [Builtin.copy_, h0, run_underlying hd, hlen, hs, hz', k2, storeCells, goInt, hz]

theorem execOp_call (ρ : Operand → Value) (o : Oper) (c : Call) (ho : o.op = .call c) : execOp ρ o = (do let d ← resolve ρ c o.type; invoke d.target d.args) := by
  unfold execOp; rw [ho]

theorem leafK_slice {v : AV} {k : AV → Option R} {r : R} (h : leafK .slice (some v) k = some r) : k v = some r := by
  obtain ⟨x, hx, hk⟩ := leafK_some h
  cases hx
  exact hk

theorem args1 {c : Call} {ρ : Operand → Value} {us : List Value} (h : c.args.toList.map ρ = us) : c.args.map ρ = us.toArray := by
  apply Array.ext'
  simpa using h

/-- A built-in call. -/
theorem builtinK_sound {μ : Mu} {h : AH} {w : World} (S : Sim P O μ h w) {b : Builtin} {ts : Array TypeId} {xs : List AV} {us : List Value} (hx : VRels μ xs us) {k : AV → AH → Option R} {r : R} (hk : builtinK P b ts.toList xs h k = some r) (ty : TypeId) (consts : Array Bool) :
    ∃ v h1, k v h1 = some r ∧ ∃ u w', (builtin b ts ty consts us.toArray).run P w = .ok (.value u) w' ∧ Good P O μ h w v h1 u w' := by
  unfold builtinK at hk
  split at hk
  · rename_i t ts' x hts
    obtain ⟨u, us', rfl, hu, hus⟩ := hx.cons_inv
    have := hus.nil_inv; subst this
    have h0 : ts[0]? = some t := by have := congrArg (·[0]?) hts; simpa using this
    obtain ⟨z, a, hk2, hz, hr⟩ := lenK_sound hk hu h0 ty w
    exact ⟨z, h, hk2, a, w, by simp [builtin, hr], Good.pure S hz⟩
  · rename_i kd a kd' b
    obtain ⟨u, us', rfl, hu, hus⟩ := hx.cons_inv
    obtain ⟨u2, us2, rfl, hu2, hus2⟩ := hus.cons_inv
    have := hus2.nil_inv; subst this
    simp only [VRel] at hu hu2
    subst hu; subst hu2
    refine ⟨_, h, hk, .int kd (imin a b), w, ?_, Good.pure S (by simp [VRel])⟩
    simp only [builtin, Builtin.min_, List.foldlM_cons, List.foldlM_nil, Builtin.min2, imin]
    by_cases hba : b < a <;> simp [hba]
  · rename_i kd a kd' b
    obtain ⟨u, us', rfl, hu, hus⟩ := hx.cons_inv
    obtain ⟨u2, us2, rfl, hu2, hus2⟩ := hus.cons_inv
    have := hus2.nil_inv; subst this
    simp only [VRel] at hu hu2
    subst hu; subst hu2
    refine ⟨_, h, hk, .int kd (imax a b), w, ?_, Good.pure S (by simp [VRel])⟩
    simp only [builtin, Builtin.max_, List.foldlM_cons, List.foldlM_nil, Builtin.max2, imax]
    by_cases hba : a < b <;> simp [hba]
  · rename_i t u' ts' q n c x hts
    obtain ⟨u, us', rfl, hu, hus⟩ := hx.cons_inv
    obtain ⟨u2, us2, rfl, hu2, hus2⟩ := hus.cons_inv
    have := hus2.nil_inv; subst this
    have h0 : ts[0]? = some t := by have := congrArg (·[0]?) hts; simpa using this
    have h1 : ts[1]? = some u' := by have := congrArg (·[1]?) hts; simpa using this
    split at hk
    · rename_i e f hd hd'
      obtain ⟨hie, hk2⟩ := cond_none hk
      simp only [Option.bind_eq_some_iff] at hk2
      obtain ⟨p, hp, q, hq, hk3⟩ := hk2
      obtain ⟨u3, w', hr, g⟩ := append_sound (ty := ty) S h0 h1 hd hd' hie hu hu2 hp hq
      exact ⟨q.1, q.2, leafK_slice hk3, u3, w', by simp [builtin, hr], g⟩
    · cases hk
  · rename_i t ts' q n c q' n' c' hts
    obtain ⟨u, us', rfl, hu, hus⟩ := hx.cons_inv
    obtain ⟨u2, us2, rfl, hu2, hus2⟩ := hus.cons_inv
    have := hus2.nil_inv; subst this
    have h0 : ts[0]? = some t := by have := congrArg (·[0]?) hts; simpa using this
    split at hk
    · rename_i e hd
      obtain ⟨hie, hk2⟩ := cond_none hk
      simp only [Option.bind_eq_some_iff] at hk2
      obtain ⟨h', hc, hk3⟩ := hk2
      obtain ⟨u3, w', hr, g⟩ := copy_sound (ty := ty) S h0 hd hie hu hu2 hc
      exact ⟨_, h', hk3, u3, w', by simp [builtin, hr], g⟩
    · cases hk
  · cases hk


/-! ### the functions without a text -/
theorem next_none : (Extern.allNextRows.lookup "math/bits.Add64").isSome = false ∧ (Extern.allNextRows.lookup "math/bits.Sub64").isSome = false ∧ (Extern.allNextRows.lookup "").isSome = false := by
  refine ⟨by kernel_rfl, by kernel_rfl, by kernel_rfl⟩
theorem generic_none : (Extern.allGenericRows.lookup "math/bits.Add64").isSome = false ∧ (Extern.allGenericRows.lookup "math/bits.Sub64").isSome = false := by
  refine ⟨by kernel_rfl, by kernel_rfl⟩
theorem typed_none : (Extern.allTypedRows.lookup "math/bits.Add64").isSome = false ∧ (Extern.allTypedRows.lookup "math/bits.Sub64").isSome = false := by
  refine ⟨by kernel_rfl, by kernel_rfl⟩
def addSem (args : Array Value) : Sem Value := do
  let (x, y, c) ← Extern.MathBitsCarry.three "Add64" args
  pure (Extern.MathBitsCarry.pair ((x + y + c) % Extern.MathBitsCarry.m64) ((x + y + c) / Extern.MathBitsCarry.m64))
def subSem (args : Array Value) : Sem Value := do
  let (x, y, b) ← Extern.MathBitsCarry.three "Sub64" args
  pure (Extern.MathBitsCarry.pair ((x + Extern.MathBitsCarry.m64 - y - b) % Extern.MathBitsCarry.m64) (if x < y + b then 1 else 0))
theorem add_row : Extern.allRows.lookup "math/bits.Add64" = some addSem := by kernel_rfl
theorem sub_row : Extern.allRows.lookup "math/bits.Sub64" = some subSem := by kernel_rfl

theorem three_lit (name : String) (x y c : Value) : Extern.MathBitsCarry.three name #[x, y, c] = (do
    let c := (← asInt c).toNat
    if c > 1 then unsupported (.noEntry ("extern/math/bits." ++ name ++ ": a carry that is neither 0 nor 1"))
    pure ((← asInt x).toNat, (← asInt y).toNat, c)) := rfl

theorem three_run (name : String) (k1 k2 k3 : IntKind) (x y c : Int) (h : ¬ c.toNat > 1) (w : World) : (Extern.MathBitsCarry.three name #[.int k1 x, .int k2 y, .int k3 c]).run P w = .ok (x.toNat, y.toNat, c.toNat) w := by
  rw [three_lit]
  simp only [Sem.run_bind, asInt_int, Result.andThen_ok, Sem.run_ite, if_neg h, Sem.run_pure]

theorem none_of {α : Type} {x : Option α} (h : x.isSome = false) : x = none := by cases x <;> simp at h; rfl

theorem findNext_of {fn : Func} (h1 : Extern.allNextRows.lookup fn.name = none) (h2 : Extern.allNextRows.lookup fn.origin = none) : Extern.findNext fn = none := by
  unfold Extern.findNext
  dsimp only
  rw [h1, h2]
  rfl
theorem find_of {fn : Func} {s : Array Value → Sem Value} (h1 : Extern.allGenericRows.lookup fn.name = none) (h2 : Extern.allTypedRows.lookup fn.name = none) (h3 : Extern.allRows.lookup fn.name = some s) : Extern.find fn = some s := by
  unfold Extern.find
  dsimp only
  rw [h1, h2, h3]
  rfl

theorem prim_sound {μ : Mu} {f : FuncId} {fn : Func} (hf : P.funcs[f]? = some fn) (hname : (fn.name == "runtime.NumGoroutine") = false) (hb : fn.body = none) (ho : fn.origin = "") {xs : List AV} {v : AV} (hp : prim fn.name xs = some v)
    {us : List Value} (hx : VRels μ xs us) (w : World) : ∃ u, (callFunc f us.toArray).run P w = .ok (.value u) w ∧ VRel μ v u := by
  have hname' : fn.name ≠ "runtime.NumGoroutine" := by simpa using hname
  unfold prim at hp
  split at hp
  · rename_i k1 x k2 y k3 c
    obtain ⟨u1, r1, rfl, v1, hx1⟩ := hx.cons_inv
    obtain ⟨u2, r2, rfl, v2, hx2⟩ := hx1.cons_inv
    obtain ⟨u3, r3, rfl, v3, hx3⟩ := hx2.cons_inv
    have := hx3.nil_inv; subst this
    simp only [VRel] at v1 v2 v3
    subst v1; subst v2; subst v3
    have hm : (Extern.MathBitsCarry.m64 : Nat) = 18446744073709551616 := rfl
    rcases cond_some hp with ⟨hn, hp1⟩ | ⟨_, hp1⟩
    · obtain ⟨hd, hp2⟩ := cond_none hp1
      simp only [decide_eq_true_eq] at hd
      simp only [beq_iff_eq] at hn
      cases hp2
      obtain ⟨d1, d2, d3, d4⟩ := hd
      have hnx : Extern.findNext fn = none := findNext_of (by rw [hn]; exact none_of next_none.1) (by rw [ho]; exact none_of next_none.2.2)
      have hfd : Extern.find fn = some addSem := find_of (by rw [hn]; exact none_of generic_none.1) (by rw [hn]; exact none_of typed_none.1) (by rw [hn]; exact add_row)
      have hthree := three_run (P := P) "Add64" k1 k2 k3 x y c (by omega) w
      refine ⟨Extern.MathBitsCarry.pair ((x.toNat + y.toNat + c.toNat) % Extern.MathBitsCarry.m64) ((x.toNat + y.toNat + c.toNat) / Extern.MathBitsCarry.m64), ?_, ?_⟩
      · simp [callFunc, hf, hname', hb, hnx, hfd, addSem, hthree, -String.reduceAppend]
      · simp only [VRel]
        refine ⟨_, rfl, VRels.cons ?_ (VRels.cons ?_ VRels.nil)⟩
        · simp only [VRel, Value.int.injEq, true_and, hm]; simp; omega
        · simp only [VRel, Value.int.injEq, true_and, hm]; simp; omega
    · obtain ⟨hn, hp2⟩ := cond_none hp1
      obtain ⟨hd, hp3⟩ := cond_none hp2
      simp only [decide_eq_true_eq] at hd
      simp only [beq_iff_eq] at hn
      cases hp3
      obtain ⟨d1, d2, d3, d4, d5⟩ := hd
      have hnx : Extern.findNext fn = none := findNext_of (by rw [hn]; exact none_of next_none.2.1) (by rw [ho]; exact none_of next_none.2.2)
      have hfd : Extern.find fn = some subSem := find_of (by rw [hn]; exact none_of generic_none.2) (by rw [hn]; exact none_of typed_none.2) (by rw [hn]; exact sub_row)
      have hthree := three_run (P := P) "Sub64" k1 k2 k3 x y c (by omega) w
      refine ⟨Extern.MathBitsCarry.pair ((x.toNat + Extern.MathBitsCarry.m64 - y.toNat - c.toNat) % Extern.MathBitsCarry.m64) (if x.toNat < y.toNat + c.toNat then 1 else 0), ?_, ?_⟩
      · simp [callFunc, hf, hname', hb, hnx, hfd, subSem, hthree]
      · simp only [VRel]
        refine ⟨_, rfl, VRels.cons ?_ (VRels.cons ?_ VRels.nil)⟩
        · simp only [VRel, Value.int.injEq, true_and, hm]; simp; omega
        · simp only [VRel, Value.int.injEq, true_and]
          by_cases hlt : x < y + c
          · rw [if_pos (by omega)]; simp [hlt]
          · rw [if_neg (by omega)]; simp [hlt]
  · cases hp

end Go.Ab
