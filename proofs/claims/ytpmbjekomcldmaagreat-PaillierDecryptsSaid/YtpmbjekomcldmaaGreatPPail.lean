/- squeezed -/
import Derived.Test.YtpmbjekomcldmaaGreatPP3
import Derived.Test.YtpmbjekomcldmaaGreatPS52

set_option linter.unusedVariables false
set_option linter.unusedSimpArgs false
namespace Go.Num
theorem k5d {n f : Nat} (co : Nat.Coprime n f) (hn : 1 < n) : ∃ g, g < n ∧ Cg n (f * g) 1 := by
 have pm : ((List.range n).map fun i => f * i % n).Perm (List.range n) := by
  refine kty (kuf List.nodup_range fun x hx y hy e => ?_) (fun z hz => ?_) (by simp)
  ·exact (Cg.cancel_left co e).eq (List.mem_range.1 hx) (List.mem_range.1 hy)
  ·obtain ⟨x, _, e⟩ := List.mem_map.1 hz
   subst e
   exact List.mem_range.2 (Nat.mod_lt _ (by omega))
 have h1 : 1 ∈ (List.range n).map fun i => f * i % n := pm.mem_iff.2 (List.mem_range.2 hn)
 obtain ⟨g, hg, e⟩ := List.mem_map.1 h1
 exact ⟨g, List.mem_range.1 hg, by unfold Cg; rw [e, Nat.mod_eq_of_lt hn]⟩
def Hid (n f c m : Nat) : Prop := m < n ∧ Cg (n * n) (c ^ f) (1 + n * (m * f))
theorem Hid.uniq {n f c x y : Nat} (co : Nat.Coprime n f) (hn : 0 < n) (h : Hid n f c x) (k : Hid n f c y) : x = y := by
 have e := (h.2.symm.trans k.2).cancel_add
 exact ((e.div hn).cancel co).eq h.1 k.1
theorem Hid.mul {n f c d x y : Nat} (hn : 0 < n) (h : Hid n f c x) (k : Hid n f d y) : Hid n f (c * d) ((x + y) % n) := by
 refine ⟨Nat.mod_lt _ hn, ?_⟩
 rw [Nat.mul_pow]
 refine (h.2.mul k.2).trans ?_
 have e : (1 + n * (x * f)) * (1 + n * (y * f)) = 1 + n * ((x + y) * f) + n * n * (x * f * (y * f)) := by
  rw [Nat.add_mul, Nat.mul_add, Nat.mul_add, Nat.add_mul x y, Nat.mul_add]
  simp only [Nat.mul_assoc, Nat.mul_comm, Nat.mul_left_comm, Nat.one_mul, Nat.mul_one]
  omega
 rw [e]
 refine Cg.add_mul.trans (Cg.rfl.add (Cg.times ?_))
 exact (Cg.mod.symm).mul Cg.rfl
theorem Hid.pow {n f c x : Nat} (hn : 0 < n) (h : Hid n f c x) (k : Nat) : Hid n f (c ^ k) (x * k % n) := by
 refine ⟨Nat.mod_lt _ hn, ?_⟩
 rw [← Nat.pow_mul, Nat.mul_comm k f, Nat.pow_mul]
 refine ((h.2.pow k).trans (binom1 n (x * f) k)).trans (Cg.rfl.add (Cg.times ?_))
 have e : x * f * k = x * k * f := by simp only [Nat.mul_assoc, Nat.mul_comm, Nat.mul_left_comm]
 rw [e]
 exact (Cg.mod.symm).mul Cg.rfl
structure KeyOk (p q : Nat) : Prop where
 hp : IsPrime p
 hq : IsPrime q
 ne : p ≠ q
 co : Nat.Coprime (p * q) ((p - 1) * (q - 1))
theorem KeyOk.swap {p q : Nat} (k : KeyOk p q) : KeyOk q p := ⟨k.hq, k.hp, fun e => k.ne e.symm, by rw [Nat.mul_comm q p, Nat.mul_comm (q - 1)]; exact k.co⟩
section
variable {p q : Nat} (k : KeyOk p q)
include k
theorem KeyOk.not_dvd : ¬ p ∣ q := fun d => by
 rcases k.hq.2 p d with e | e
 ·have := k.hp.1
  omega
 ·exact k.ne e
theorem KeyOk.copq : Nat.Coprime p q := k.hp.coprime k.not_dvd
theorem KeyOk.pos : 1 < p * q := by
 have := Nat.mul_le_mul k.hp.1 k.hq.1
 omega
theorem KeyOk.cof : Nat.Coprime p (q - 1) := Nat.Coprime.coprime_dvd_left (Nat.dvd_mul_right p q) (Nat.Coprime.coprime_dvd_right (Nat.dvd_mul_left (q - 1) (p - 1)) k.co)
theorem KeyOk.ndq : ¬ p ∣ q * (p - 1) := fun d => by
 rcases k.hp.dvd_mul d with d | d
 ·exact k.not_dvd d
 ·have := Nat.le_of_dvd (by have := k.hp.1; omega) d
  have := k.hp.1
  omega
theorem KeyOk.unit {c : Nat} (h : Nat.Coprime c (p * q)) : ¬ p ∣ c := fun d => by
 have h1 : p ∣ Nat.gcd c (p * q) := Nat.dvd_gcd d (Nat.dvd_mul_right p q)
 rw [h] at h1
 have := Nat.le_of_dvd (by decide) h1
 have := k.hp.1
 omega
theorem KeyOk.euler {c : Nat} (h : Nat.Coprime c (p * q)) : Cg (p * q) (c ^ ((p - 1) * (q - 1))) 1 := by
 refine Cg.both k.copq ?_ ?_
 ·rw [Nat.pow_mul]
  refine ((fermat k.hp (k.unit h)).pow _).trans (Cg.of_eq (Nat.one_pow _))
 ·rw [Nat.mul_comm, Nat.pow_mul]
  refine ((fermat k.hq (k.swap.unit (by rw [Nat.mul_comm]; exact h))).pow _).trans (Cg.of_eq (Nat.one_pow _))
omit k in
theorem kx6 {n u : Nat} (hn : 1 < n) (h : Cg n u 1) : u = 1 + n * (u / n) := by
 unfold Cg at h
 rw [Nat.mod_eq_of_lt hn] at h
 have := Nat.div_add_mod u n
 omega
theorem KeyOk.hid {c : Nat} (h : Nat.Coprime c (p * q)) : ∃ m, Hid (p * q) ((p - 1) * (q - 1)) c m := by
 obtain ⟨g, hg, eg⟩ := k5d k.co k.pos
 have e := kx6 k.pos (k.euler h)
 generalize hf : (p - 1) * (q - 1) = f at *
 generalize hn : p * q = n at *
 refine ⟨c ^ f / n * g % n, Nat.mod_lt _ (by have := k.pos; omega), ?_⟩
 refine (Cg.of_eq e).trans (Cg.rfl.add (Cg.times ?_))
 refine Cg.trans ?_ ((Cg.mod.symm).mul Cg.rfl)
 have e2 : c ^ f / n * g * f = c ^ f / n * (f * g) := by simp only [Nat.mul_assoc, Nat.mul_comm, Nat.mul_left_comm]
 rw [e2]
 have := (Cg.rfl (n := n) (a := c ^ f / n)).mul eg.symm
 rwa [Nat.mul_one] at this
def sayP (p x : Nat) : Nat := (x % (p * p)) ^ (p - 1) % (p * p) / p
theorem KeyOk.say {x : Nat} (h : ¬ p ∣ x) : (x % (p * p)) ^ (p - 1) % (p * p) = 1 + p * sayP p x ∧ sayP p x < p ∧ Cg (p * p) (x ^ (p - 1)) (1 + p * sayP p x) := by
 have hp := k.hp.1
 have e0 : Cg (p * p) ((x % (p * p)) ^ (p - 1) % (p * p)) (x ^ (p - 1)) := Cg.mod.trans (Cg.mod.pow _)
 have e1 : Cg p ((x % (p * p)) ^ (p - 1) % (p * p)) 1 := (e0.of_dvd (Nat.dvd_mul_right p p)).trans (fermat k.hp h)
 have e2 := kx6 (by omega : 1 < p) e1
 refine ⟨e2, ?_, ?_⟩
 ·unfold sayP
  rw [Nat.div_lt_iff_lt_mul (by omega)]
  exact Nat.mod_lt _ (Nat.mul_pos (by omega) (by omega))
 ·exact e0.symm.trans (Cg.of_eq e2)
theorem KeyOk.say_one : Cg p (sayP p (1 * (p * q) + 1)) (q * (p - 1)) := by
 have hp := k.hp.1
 have nd : ¬ p ∣ 1 * (p * q) + 1 := fun d => by
  have : p ∣ 1 := (Nat.dvd_add_right (Nat.dvd_trans (Nat.dvd_mul_right p q) (Nat.dvd_mul_left _ _))).1 d
  have := Nat.le_of_dvd (by decide) this
  omega
 obtain ⟨_, _, e⟩ := k.say nd
 have e1 : 1 * (p * q) + 1 = 1 + p * q := by omega
 rw [e1] at e ⊢
 exact ((e.symm.trans (binom1 p q (p - 1))).cancel_add).div (by omega)
theorem KeyOk.part {c m : Nat} (h : Nat.Coprime c (p * q)) (d : Hid (p * q) ((p - 1) * (q - 1)) c m) : Cg p (sayP p c) (m * sayP p (1 * (p * q) + 1)) := by
 have hp := k.hp.1
 obtain ⟨_, _, e⟩ := k.say (k.unit h)
 have e1 : Cg (p * p) (c ^ ((p - 1) * (q - 1))) (1 + p * (sayP p c * (q - 1))) := by
  rw [Nat.pow_mul]
  exact (e.pow _).trans (binom1 p _ _)
 have e2 : Cg (p * p) (c ^ ((p - 1) * (q - 1))) (1 + p * q * (m * ((p - 1) * (q - 1)))) := d.2.of_dvd (Nat.mul_dvd_mul (Nat.dvd_mul_right p q) (Nat.dvd_mul_right p q))
 have e3 := (e1.symm.trans e2).cancel_add
 rw [Nat.mul_assoc] at e3
 have e4 := e3.div (by omega)
 have e5 : q * (m * ((p - 1) * (q - 1))) = m * (q * (p - 1)) * (q - 1) := by simp only [Nat.mul_assoc, Nat.mul_comm, Nat.mul_left_comm]
 rw [e5] at e4
 refine (e4.cancel k.cof).trans ?_
 exact Cg.rfl.mul k.say_one.symm
theorem KeyOk.say_unit : Nat.Coprime p (sayP p (1 * (p * q) + 1)) := k.hp.coprime fun d => k.ndq (by
 have e := k.say_one
 unfold Cg at e
 rw [Nat.mod_eq_zero_of_dvd d] at e
 exact Nat.dvd_of_mod_eq_zero e.symm)
theorem KeyOk.found {c m i : Nat} (h : Nat.Coprime c (p * q)) (d : Hid (p * q) ((p - 1) * (q - 1)) c m) (hi : Cg p (sayP p (1 * (p * q) + 1) * i) 1) : sayP p c * i % p = m % p := by
 have e := (k.part h d).mul (Cg.rfl (n := p) (a := i))
 refine e.trans ?_
 rw [Nat.mul_assoc]
 have := (Cg.rfl (n := p) (a := m)).mul hi
 rwa [Nat.mul_one] at this
end
theorem Hid.doc {n f c m g : Nat} (hn : 1 < n) (h : Hid n f c m) (hg : Cg n (f * g) 1) : (c ^ f % (n * n) - 1) / n * g % n = m := by
 have hm := h.1
 have hnn : n < n * n := by
  have := Nat.mul_lt_mul_of_pos_left hn (show 0 < n by omega)
  omega
 have e0 : Cg n (c ^ f % (n * n)) 1 := (Cg.mod.of_dvd (Nat.dvd_mul_right n n)).trans ((h.2.of_dvd (Nat.dvd_mul_right n n)).trans Cg.add_mul)
 have e1 : c ^ f % (n * n) = 1 + n * (c ^ f % (n * n) / n) := by
  unfold Cg at e0
  rw [Nat.mod_eq_of_lt hn] at e0
  have := Nat.div_add_mod (c ^ f % (n * n)) n
  omega
 have e2 : Cg (n * n) (c ^ f % (n * n)) (1 + n * (m * f)) := Cg.mod.trans h.2
 have e3 : (c ^ f % (n * n) - 1) / n = c ^ f % (n * n) / n := by
  generalize c ^ f % (n * n) = u at e1
  generalize hv : u / n = v at e1 ⊢
  rw [e1, Nat.add_sub_cancel_left, Nat.mul_div_cancel_left _ (by omega)]
 rw [e3]
 rw [e1] at e2
 have e4 := e2.cancel_add.div (by omega)
 have e5 := e4.mul (Cg.rfl (n := n) (a := g))
 rw [Nat.mul_assoc] at e5
 have e6 := e5.trans ((Cg.rfl (n := n) (a := m)).mul hg)
 rw [Nat.mul_one] at e6
 have e7 : c ^ f % (n * n) / n * g % n = m % n := e6
 rw [e7, Nat.mod_eq_of_lt hm]
end Go.Num

/- squeezed -/
set_option linter.unusedVariables false
set_option linter.unusedSimpArgs false
namespace Go.Num
def Least (n d : Nat) : Prop := 2 ≤ d ∧ d ∣ n ∧ ∀ e, 2 ≤ e → e ∣ n → d ≤ e
theorem Least.uniq {n d e : Nat} (a : Least n d) (b : Least n e) : d = e := Nat.le_antisymm (a.2.2 e b.1 b.2.1) (b.2.2 d a.1 a.2.1)
theorem k1r {n : Nat} (h : 2 ≤ n) : ∃ d, Least n d := by
 have key : ∀ k, (∃ d, d ≤ k ∧ 2 ≤ d ∧ d ∣ n) → ∃ d, Least n d := by
  intro k
  induction k with
  | zero => rintro ⟨d, h1, h2, _⟩; omega
  | succ k ih =>
   rintro ⟨d, h1, h2, h3⟩
   by_cases hk : ∃ e, e ≤ k ∧ 2 ≤ e ∧ e ∣ n
   ·exact ih hk
   ·refine ⟨d, h2, h3, fun e he hd => ?_⟩
    rcases Nat.lt_or_ge e d with h | h
    ·exact absurd ⟨e, by omega, he, hd⟩ hk
    ·exact h
 exact key n ⟨n, Nat.le_refl _, h, Nat.dvd_refl _⟩
noncomputable def leastN (n : Nat) : Nat := by
 classical
 exact if h : ∃ d, Least n d then h.choose else 0
theorem kew {n d : Nat} (h : Least n d) : leastN n = d := by
 unfold leastN
 have hx : ∃ d, Least n d := ⟨d, h⟩
 rw [dif_pos hx]
 exact hx.choose_spec.uniq h
theorem k6g {n : Nat} (h : 2 ≤ n) : Least n (leastN n) := by
 obtain ⟨d, hd⟩ := k1r h
 rw [kew hd]; exact hd
theorem Least.prime {n d : Nat} (h : Least n d) : IsPrime d := ⟨h.1, fun e he => by
 rcases Nat.eq_zero_or_pos e with h0 | h0
 ·rw [h0] at he
  have := Nat.eq_zero_of_zero_dvd he
  have := h.1
  omega
 ·rcases Nat.lt_or_ge e 2 with h1 | h1
  ·left; omega
  ·right
   exact Nat.le_antisymm (Nat.le_of_dvd (by have := h.1; omega) he) (h.2.2 e h1 (Nat.dvd_trans he h.2.1))⟩
theorem kix {n : Nat} (h : 2 ≤ n) (no : ∀ e, 2 ≤ e → e * e ≤ n → ¬ e ∣ n) : Least n n := by
 obtain ⟨d, hd⟩ := k1r h
 rcases Nat.lt_or_ge n (d * d) with hl | hl
 ·obtain ⟨c, hc⟩ := hd.2.1
  have : c = 1 := by
   rcases Nat.lt_or_ge c 2 with h2 | h2
   ·rcases Nat.eq_zero_or_pos c with h0 | h0
    ·rw [h0] at hc; omega
    ·omega
   ·have h3 := hd.2.2 c h2 ⟨d, by rw [hc, Nat.mul_comm]⟩
    have : d * d ≤ d * c := Nat.mul_le_mul_left _ h3
    omega
  rw [this, Nat.mul_one] at hc
  rw [← hc] at hd
  exact hd
 ·exact absurd hd.2.1 (no d hd.1 hl)
theorem km3 {n d : Nat} (h : 2 ≤ d) (hd : d ∣ n) (no : ∀ e, 2 ≤ e → e < d → ¬ e ∣ n) : Least n d := ⟨h, hd, fun e he hn => by
 rcases Nat.lt_or_ge e d with h' | h'
 ·exact absurd hn (no e he h')
 ·exact h'⟩
theorem kwd {n : Nat} (h : 2 ≤ n) : leastN n = n ↔ IsPrime n := by
 constructor
 ·intro e
  have := (k6g h).prime
  rwa [e] at this
 ·intro hp
  refine kew ⟨h, Nat.dvd_refl _, fun e he hd => ?_⟩
  rcases hp.2 e hd with h1 | h1 <;> omega
end Go.Num

/- squeezed -/
set_option linter.unusedVariables false
set_option linter.unusedSimpArgs false
set_option maxRecDepth 10000
namespace Go.Ab
open Go.Proofs Go.Num
section
variable {h : AH} {l i2 i3 n : Nat}
noncomputable def lnote (st : LoopState) (pe : Option Code) (n i2 i3 : Nat) (g : AV) : ABlk := kro Fx.ks1 F.kcg 0 st pe [(0, .int .u64 (n : Int)), (1, .ptr (some (.new i2 0))), (2, .ptr (some (.new i3 0))), (4, .int .u64 (n : Int)), (5, g)]
noncomputable def lfin (h : AH) (l n i2 i3 : Nat) (g : AV) (d : Nat) : AH := (h.upd i3 [.int .u64 (d : Int)] T.kc).setBlk l (lnote .done (some .ret) n i2 i3 g)
theorem rdU {h : AH} {i : Nat} {x : Int} {e : TypeId} (b : h.has i [.int .u64 x] e) : (h.cell (.new i 0)).bind (AV.asInt .u64) = some x := b.rd0 rfl rfl
theorem wrapSq {d : Nat} (hd : d < 4294967296) : IntKind.wrap .u64 ((d : Int) * (d : Int)) = ((d * d : Nat) : Int) := by
 rw [← Int.natCast_mul, wrapU]
 have : d * d < 18446744073709551616 := Nat.lt_of_lt_of_le (Nat.mul_lt_mul'' hd hd) (by decide)
 omega
theorem kog {g : AV} (hb : h.blks[l]? = some (lnote .ready none n i2 i3 g)) (b2 : h.has i2 [.int .u64 (n : Int)] T.kc) (b3 : h.has i3 [.int .u64 0] T.kc) {d : Nat} (hd : 0 < d) :
  go (.round l [.int .u64 (d : Int)]) h = if d ∣ n then some (.bool false, lfin h l n i2 i3 g d) else some (.bool true, h) := by
 have hl : l < h.blks.size := (Array.getElem?_eq_some_iff.1 hb).1
 have n2 : i2 ≠ l := fun e => by rw [e] at b2; rw [AH.has, hb] at b2; cases b2
 have n3 : i3 ≠ l := fun e => by rw [e] at b3; rw [AH.has, hb] at b3; cases b3
 rw [kbat l none _ _ _ _ _ _ _ hb, k8x (h := h) hb, Option.bind_some]
 generalize hq : h.setBlk l _ = h'
 have b2' : h'.has i2 [.int .u64 (n : Int)] T.kc := by rw [AH.has, ← hq, AH.setBlk_ne n2]; exact b2
 have b3' : h'.has i3 [.int .u64 0] T.kc := by rw [AH.has, ← hq, AH.setBlk_ne n3]; exact b3
 have bl : h'.blks[l]? = some (lnote .busy none n i2 i3 g) := by rw [← hq]; exact AH.setBlk_get hl
 rw [rdU b2', Option.bind_some, condF (by rw [decide_eq_false_iff_not]; omega)]
 have hmod : Int.tmod (n : Int) (d : Int) = ((n % d : Nat) : Int) := rfl
 rw [hmod]
 by_cases hdv : d ∣ n
 ·rw [if_pos hdv, condT (by rw [decide_eq_true_eq, Nat.mod_eq_zero_of_dvd hdv]; rfl), b3'.puts_all (vs := [AV.int .u64 (d : Int)]) rfl, Option.bind_some]
  have hb4 : (h'.upd i3 [AV.int .u64 (d : Int)] T.kc).blks[l]? = some (lnote .busy none n i2 i3 g) := by
   simp only [AH.upd]
   rw [Array.getElem?_setIfInBounds_ne n3]
   exact bl
  rw [k1i hb4]
  have e : (h'.upd i3 [AV.int .u64 (d : Int)] T.kc) = (h.upd i3 [AV.int .u64 (d : Int)] T.kc).setBlk l (lnote .busy none n i2 i3 g) := by
   rw [← hq]
   simp only [AH.upd, AH.setBlk]
   rw [Array.setIfInBounds_comm _ _ n3.symm]
   rfl
  rw [e, AH.setBlk_setBlk]
  rfl
 ·rw [if_neg hdv, condF (by rw [decide_eq_false_iff_not]; intro e; exact hdv (Nat.dvd_of_mod_eq_zero (by omega))), k1i bl]
  rw [← hq, AH.setBlk_setBlk]
  show some (AV.bool true, h.setBlk l (lnote .ready none n i2 i3 g)) = _
  rw [AH.setBlk_same hb]
def Found (h : AH) (l n i2 i3 : Nat) (g : AV) (x : Option (AV × AH)) : Prop := (x = some (.tup [], h) ∧ Least n n) ∨ x = some (.tup [], lfin h l n i2 i3 g (leastN n))
theorem wheel {g : AV} (h2n : 2 ≤ n) (hn : n < 1099511627776) (hb : h.blks[l]? = some (lnote .ready none n i2 i3 g)) (b2 : h.has i2 [.int .u64 (n : Int)] T.kc) (b3 : h.has i3 [.int .u64 0] T.kc) {j2 : Nat} (c2 : h.has j2 [.int .u64 (n : Int)] T.kc) :
  ∀ k d, 1048600 ≤ d + 6 * k → d ≤ 1048600 → 5 ≤ d → d % 6 = 5 → (∀ e, 2 ≤ e → e < d → ¬ e ∣ n) → Found h l n i2 i3 g (go (.pt F.kbz Td.klt [(0, .func (.yield l) [] []), (1, .ptr (some (.new j2 0))), (5, .int .u64 (d : Int))]) h) := by
 intro k
 induction k with
 | zero =>
  intro d h1 h2 h5 h6 no
  rw [kt4, rdU c2, Option.bind_some, wrapSq (by omega)]
  have : 1048600 * 1048600 ≤ d * d := Nat.mul_le_mul (by omega) (by omega)
  rw [condF (by rw [decide_eq_false_iff_not]; omega)]
  refine .inl ⟨rfl, kix h2n fun e he hee => ?_⟩
  exact no e he (by
   rcases Nat.lt_or_ge e d with h | h
   ·exact h
   ·have : d * d ≤ e * e := Nat.mul_le_mul h h
    omega)
 | succ k ih =>
  intro d h1 h2 h5 h6 no
  rw [kt4, rdU c2, Option.bind_some, wrapSq (by omega)]
  by_cases hdd : d * d ≤ n
  ·rw [condT (by rw [decide_eq_true_eq]; omega), kog hb b2 b3 (by omega)]
   have hd20 : d < 1048576 := by
    rcases Nat.lt_or_ge d 1048576 with h | h
    ·exact h
    ·have : 1048576 * 1048576 ≤ d * d := Nat.mul_le_mul h h
     omega
   by_cases hdv : d ∣ n
   ·rw [if_pos hdv, Option.bind_some]
    refine .inr ?_
    rw [kew (km3 (by omega) hdv no)]
    rfl
   ·rw [if_neg hdv, Option.bind_some]
    show Found h l n i2 i3 g (((h.cell (.new j2 0)).bind (AV.asInt .u64)).bind _)
    rw [rdU c2, Option.bind_some]
    have w2 : IntKind.wrap .u64 ((d : Int) + 2) = ((d + 2 : Nat) : Int) := by
     rw [show ((d : Int) + 2) = ((d + 2 : Nat) : Int) from by omega, wrapU]; omega
    have w6 : IntKind.wrap .u64 ((d : Int) + 6) = ((d + 6 : Nat) : Int) := by
     rw [show ((d : Int) + 6) = ((d + 6 : Nat) : Int) from by omega, wrapU]; omega
    rw [w2, w6, wrapSq (by omega)]
    have even : ∀ e, e % 2 = 0 → ¬ e ∣ n := fun e he hv => no 2 (by omega) (by omega) (Nat.dvd_trans (Nat.dvd_of_mod_eq_zero he) hv)
    have three : ∀ e, e % 3 = 0 → ¬ e ∣ n := fun e he hv => no 3 (by omega) (by omega) (Nat.dvd_trans (Nat.dvd_of_mod_eq_zero he) hv)
    have no2 : ∀ e, 2 ≤ e → e < d + 2 → ¬ e ∣ n := fun e he hl hv => by
     rcases Nat.lt_or_ge e d with h | h
     ·exact no e he h hv
     ·rcases Nat.lt_or_ge d e with h' | h'
      ·exact even e (by omega) hv
      ·have : e = d := by omega
       subst this
       exact hdv hv
    by_cases hd2 : (d + 2) * (d + 2) ≤ n
    ·rw [condT (by rw [decide_eq_true_eq]; omega), kog hb b2 b3 (by omega)]
     by_cases hdv2 : d + 2 ∣ n
     ·rw [if_pos hdv2, Option.bind_some]
      refine .inr ?_
      rw [kew (km3 (by omega) hdv2 no2)]
      rfl
     ·rw [if_neg hdv2, Option.bind_some]
      refine ih (d + 6) (by omega) (by omega) (by omega) (by omega) fun e he hl hv => ?_
      rcases Nat.lt_or_ge e (d + 2) with h | h
      ·exact no2 e he h hv
      ·have : e = d + 2 ∨ e = d + 3 ∨ e = d + 4 ∨ e = d + 5 := by omega
       rcases this with rfl | rfl | rfl | rfl
       ·exact hdv2 hv
       ·exact even _ (by omega) hv
       ·exact three _ (by omega) hv
       ·exact even _ (by omega) hv
    ·rw [condF (by rw [decide_eq_false_iff_not]; omega)]
     have self : Least n n := kix h2n fun e he hee hv => by
      rcases Nat.lt_or_ge e (d + 2) with h | h
      ·exact no2 e he h hv
      ·have : (d + 2) * (d + 2) ≤ e * e := Nat.mul_le_mul h h
       omega
     refine .inl ⟨?_, self⟩
     rw [kt4, rdU c2, Option.bind_some, wrapSq (by omega)]
     have : (d + 2) * (d + 2) ≤ (d + 6) * (d + 6) := Nat.mul_le_mul (by omega) (by omega)
     rw [condF (by rw [decide_eq_false_iff_not]; omega)]
  ·rw [condF (by rw [decide_eq_false_iff_not]; omega)]
   refine .inl ⟨rfl, kix h2n fun e he hee hv => ?_⟩
   rcases Nat.lt_or_ge e d with h | h
   ·exact no e he h hv
   ·have : d * d ≤ e * e := Nat.mul_le_mul h h
    omega
theorem small {g : AV} (h2n : 2 ≤ n) (hn : n < 1099511627776) (hb : h.blks[l]? = some (lnote .ready none n i2 i3 g)) (b2 : h.has i2 [.int .u64 (n : Int)] T.kc) (b3 : h.has i3 [.int .u64 0] T.kc) {j2 j : Nat} (c2 : h.has j2 [.int .u64 (n : Int)] T.kc) (cj : h.has j [.int .u64 2, .int .u64 3] T.kc) :
  Found h l n i2 i3 g (go (.pt F.kbz Td.khe [(0, .func (.yield l) [] []), (1, .ptr (some (.new j2 0))), (6, (⟨some (.new j 0), 2, .is 2⟩ : Sl).v), (7, .int .i64 2), (8, .int .i64 0)]) h) := by
 have r2 := kog (d := 2) hb b2 b3 (by decide)
 have r3 := kog (d := 3) hb b2 b3 (by decide)
 have e0 : idx (⟨some (.new j 0), 2, .is 2⟩ : Sl).ref (⟨some (.new j 0), 2, .is 2⟩ : Sl).len 0 1 = some (.new j 0) := rfl
 have e1 : idx (⟨some (.new j 0), 2, .is 2⟩ : Sl).ref (⟨some (.new j 0), 2, .is 2⟩ : Sl).len 1 1 = some (.new j 1) := rfl
 have l0 : (h.cell (Ref.new j 0)).bind (AV.asInt .u64) = some 2 := by rw [cj.cell]; rfl
 have l1 : (h.cell (Ref.new j 1)).bind (AV.asInt .u64) = some 3 := by rw [cj.cell]; rfl
 have w4 : IntKind.wrap .u64 ((2 : Int) * 2) = 4 := by decide
 have w9 : IntKind.wrap .u64 ((3 : Int) * 3) = 9 := by decide
 have i1 : IntKind.wrap .i64 ((0 : Int) + 1) = 1 := by decide
 have i2' : IntKind.wrap .i64 ((1 : Int) + 1) = 2 := by decide
 rw [ktq, condT (show decide ((0 : Int) < 2) = true from rfl), e0, Option.bind_some, l0, Option.bind_some, rdU c2, Option.bind_some, w4]
 by_cases h4 : n < 4
 ·rw [condT (by rw [decide_eq_true_eq]; omega)]
  refine .inl ⟨rfl, kix h2n fun e he hee => ?_⟩
  have : 2 * 2 ≤ e * e := Nat.mul_le_mul he he
  omega
 ·rw [condF (by rw [decide_eq_false_iff_not]; omega), show (2 : Int) = ((2 : Nat) : Int) from rfl, r2]
  by_cases d2 : 2 ∣ n
  ·rw [if_pos d2, Option.bind_some]
   refine .inr ?_
   rw [kew (d := 2) (km3 (by decide) d2 fun e h1 h2 => by omega)]
   rfl
  ·rw [if_neg d2, Option.bind_some]
   show Found h l n i2 i3 g (go (.pt F.kbz Td.khe [(0, .func (.yield l) [] []), (1, .ptr (some (.new j2 0))), (6, (⟨some (.new j 0), 2, .is 2⟩ : Sl).v), (7, .int .i64 2), (8, .int .i64 (IntKind.wrap .i64 ((0 : Int) + 1)))]) h)
   rw [i1, ktq, condT (show decide ((1 : Int) < 2) = true from rfl), e1, Option.bind_some, l1, Option.bind_some, rdU c2, Option.bind_some, w9]
   by_cases h9 : n < 9
   ·rw [condT (by rw [decide_eq_true_eq]; omega)]
    refine .inl ⟨rfl, kix h2n fun e he hee => ?_⟩
    rcases Nat.lt_or_ge e 3 with h | h
    ·have : e = 2 := by omega
     subst this
     exact d2
    ·have : 3 * 3 ≤ e * e := Nat.mul_le_mul h h
     omega
   ·rw [condF (by rw [decide_eq_false_iff_not]; omega), show (3 : Int) = ((3 : Nat) : Int) from rfl, r3]
    by_cases d3 : 3 ∣ n
    ·rw [if_pos d3, Option.bind_some]
     refine .inr ?_
     have d23 : ∀ e, 2 ≤ e → e < 3 → ¬ e ∣ n := fun e h1 h2 => by
      have : e = 2 := by omega
      subst this
      exact d2
     rw [kew (d := 3) (km3 (by decide) d3 d23)]
     rfl
    ·rw [if_neg d3, Option.bind_some]
     show Found h l n i2 i3 g (go (.pt F.kbz Td.khe [(0, .func (.yield l) [] []), (1, .ptr (some (.new j2 0))), (6, (⟨some (.new j 0), 2, .is 2⟩ : Sl).v), (7, .int .i64 2), (8, .int .i64 (IntKind.wrap .i64 ((1 : Int) + 1)))]) h)
     rw [i2', ktq, condF (show decide ((2 : Int) < 2) = false from rfl)]
     refine wheel h2n hn hb b2 b3 c2 174766 5 (by omega) (by omega) (by omega) (by omega) fun e h1 h2 hv => ?_
     have : e = 2 ∨ e = 3 ∨ e = 4 := by omega
     rcases this with rfl | rfl | rfl
     ·exact d2 hv
     ·exact d3 hv
     ·exact d2 (Nat.dvd_trans (by decide) hv)
end
theorem a_none {a1 : Int} {a2 a3 : Ref} {a4 : Int} {a5 : AV} {h : AH} : go (.pt F.kcg (((none : Option Code).map Item.code).toList ++ Ta.kk7) [(0, .int .u64 a1), (1, .ptr (some a2)), (2, .ptr (some a3)), (4, .int .u64 a4), (5, a5)]) h =
 ((h.cell a2).bind (AV.asInt .u64)).bind fun n6 => (h.puts a3 [.int .u64 n6]).bind fun h7 => ((h7.cell a3).bind (AV.asInt .u64)).bind fun n8 => some (.int .u64 n8, h7) := kbb4 a1 a2 a3 a4 a5 h
theorem kbep {n : Nat} (h2n : 2 ≤ n) (hn : n < 1099511627776) (h : AH) : Runs (go (.fn F.kcg [.int .u64 (n : Int)]) h) fun v h' => v = .int .u64 ((leastN n : Nat) : Int) ∧ Grow h h' := by
 rw [kbfg]
 refine Runs.new fun h1 b1 g1 => Runs.new fun h2 b2 g2 => ?_
 have b1' := g2.has b1
 refine Runs.step (rdU b1') ?_
 rw [k7n]
 show Runs (newK h2 (.cells [.int .u64 (n : Int)] T.kc) fun h2r h3 => go (.pt F.kcg Tr.krq [(0, .int .u64 (n : Int)), (1, .ptr (some (.new h.blks.size 0))), (2, .ptr (some (.new h1.blks.size 0))), (4, .int .u64 (n : Int)), (5, .func (.func F.kbz) [] [.ptr (some h2r)])]) h3) _
 refine Runs.new fun h3 b3 g3 => ?_
 rw [k95, k51]
 refine Runs.newM fun h4 hb g4 => ?_
 rw [k9a]
 have c1 : h4.has h.blks.size [.int .u64 (n : Int)] T.kc := g4.has (g3.has b1')
 have c2 : h4.has h1.blks.size [.int .u64 0] T.kc := g4.has (g3.has b2)
 have c3 : h4.has h2.blks.size [.int .u64 (n : Int)] T.kc := g4.has b3
 have hs1 : h.blks.size < h1.blks.size := b1.lt
 have hs2 : h1.blks.size < h2.blks.size := b2.lt
 have hs3 : h2.blks.size < h3.blks.size := b3.lt
 have hs4 : h3.blks.size < h4.blks.size := (Array.getElem?_eq_some_iff.1 hb).1
 have gA : Grow h h4 := ((g1.trans g2).trans g3).trans g4
 generalize hg : (AV.func (.func F.kbz) [] [AV.ptr (some (Ref.new h2.blks.size 0))]) = gv at hb
 show Runs ((go (.fn F.kbz [.func (.yield h3.blks.size) [] [], .ptr (some (.new h2.blks.size 0))]) h4).bind _) _
 rw [kbcg]
 generalize hK : (fun q8 : AV × AH => (kdn h3.blks.size q8.2).bind fun p9 => go (.pt F.kcg ((p9.1.map Item.code).toList ++ Ta.kk7) [(0, .int .u64 (n : Int)), (1, .ptr (some (.new h.blks.size 0))), (2, .ptr (some (.new h1.blks.size 0))), (4, .int .u64 (n : Int)), (5, gv)]) p9.2) = K
 show Runs ((newK h4 (.cells [.int .u64 2, .int .u64 3] T.kc) fun h3r h5 => (go (.pt F.kbz Td.khe [(0, .func (.yield h3.blks.size) [] []), (1, .ptr (some (.new h2.blks.size 0))), (6, (⟨some h3r, 2, .is 2⟩ : Sl).v), (7, .int .i64 2), (8, .int .i64 0)]) h5).bind K)) _
 refine Runs.new fun h5 b5 g5 => ?_
 have hb5 : h5.blks[h3.blks.size]? = some (lnote .ready none n h.blks.size h1.blks.size gv) := (g5.blk _ hs4).trans hb
 have gB := gA.trans g5
 rcases small h2n hn hb5 (g5.has c1) (g5.has c2) (g5.has c3) b5 with ⟨e, hl⟩ | e
 ·rw [e, ← hK]
  show Runs ((kdn h3.blks.size h5).bind _) _
  rw [kbeu hb5, Option.bind_some, a_none]
  have d1 : (h5.setBlk h3.blks.size .dead).has h.blks.size [.int .u64 (n : Int)] T.kc := by rw [AH.has, AH.setBlk_ne (by omega)]; exact g5.has c1
  have d2 : (h5.setBlk h3.blks.size .dead).has h1.blks.size [.int .u64 0] T.kc := by rw [AH.has, AH.setBlk_ne (by omega)]; exact g5.has c2
  refine Runs.step (rdU d1) (Runs.puts d2 rfl fun h6 b6 u6 => Runs.step (rdU b6) (Runs.ret ⟨by rw [kew hl], ?_⟩))
  exact (gB.setBlk (l := h3.blks.size) (by omega) .dead).updr (by omega) u6
 ·rw [e, ← hK]
  have f1 : (lfin h5 h3.blks.size n h.blks.size h1.blks.size gv (leastN n)).blks[h3.blks.size]? = some (lnote .done (some .ret) n h.blks.size h1.blks.size gv) := AH.setBlk_get (by simp only [AH.upd]; simp; exact (Array.getElem?_eq_some_iff.1 hb5).1)
  show Runs ((kdn h3.blks.size _).bind _) _
  rw [kbb9 f1, Option.bind_some, kbhn]
  have f2 : ((lfin h5 h3.blks.size n h.blks.size h1.blks.size gv (leastN n)).setBlk h3.blks.size .dead).has h1.blks.size [.int .u64 ((leastN n : Nat) : Int)] T.kc := by
   rw [AH.has, AH.setBlk_ne (by omega)]
   unfold lfin
   rw [AH.setBlk_ne (by omega)]
   exact AH.has_upd (g5.has c2) _ _
  refine Runs.step (rdU f2) (Runs.ret ⟨rfl, ?_⟩)
  exact ((gB.upd (by omega) _ _).setBlk (by omega) _).setBlk (by omega) _
theorem k40 {n : Nat} (h2n : 2 ≤ n) (hn : n < 1099511627776) (h : AH) : go (.fn F.ke6 [.int .u64 (n : Int)]) h = some (.int .u64 ((leastN n : Nat) : Int), h) := by
 rw [k21]
 have key : ∀ k d, 1048600 ≤ d + k → d ≤ 1048600 → 2 ≤ d → (∀ e, 2 ≤ e → e < d → ¬ e ∣ n) → go (.pt F.ke6 Td.kpg [(0, .int .u64 (n : Int)), (3, .int .u64 (d : Int))]) h = some (.int .u64 ((leastN n : Nat) : Int), h) := by
  intro k
  induction k with
  | zero =>
   intro d h1 h2 h3 no
   have : 1048600 * 1048600 ≤ d * d := Nat.mul_le_mul (by omega) (by omega)
   rw [k0z, wrapSq (by omega), condF (by rw [decide_eq_false_iff_not]; omega), kew (kix h2n fun e he hee => no e he (by
    rcases Nat.lt_or_ge e d with h | h
    ·exact h
    ·have : d * d ≤ e * e := Nat.mul_le_mul h h
     omega))]
  | succ k ih =>
   intro d h1 h2 h3 no
   rw [k0z, wrapSq (by omega)]
   by_cases hdd : d * d ≤ n
   ·have hmod : Int.tmod (n : Int) (d : Int) = ((n % d : Nat) : Int) := rfl
    rw [condT (by rw [decide_eq_true_eq]; omega), condF (by rw [decide_eq_false_iff_not]; omega), hmod]
    by_cases hdv : d ∣ n
    ·rw [condT (by rw [decide_eq_true_eq, Nat.mod_eq_zero_of_dvd hdv]; rfl), kew (km3 h3 hdv no)]
    ·have hd20 : d < 1048576 := by
      rcases Nat.lt_or_ge d 1048576 with h | h
      ·exact h
      ·have : 1048576 * 1048576 ≤ d * d := Nat.mul_le_mul h h
       omega
     have w1 : IntKind.wrap .u64 ((d : Int) + 1) = ((d + 1 : Nat) : Int) := by
      rw [show ((d : Int) + 1) = ((d + 1 : Nat) : Int) from by omega, wrapU]; omega
     rw [condF (by rw [decide_eq_false_iff_not]; intro e; exact hdv (Nat.dvd_of_mod_eq_zero (by omega))), w1]
     refine ih (d + 1) (by omega) (by omega) (by omega) fun e he hl hv => ?_
     rcases Nat.lt_or_ge e d with h | h
     ·exact no e he h hv
     ·have : e = d := by omega
      subst this
      exact hdv hv
   ·rw [condF (by rw [decide_eq_false_iff_not]; omega), kew (kix h2n fun e he hee => no e he (by
     rcases Nat.lt_or_ge e d with h | h
     ·exact h
     ·have : d * d ≤ e * e := Nat.mul_le_mul h h
      omega))]
 exact key 1048598 2 (by omega) (by omega) (by omega) fun e h1 h2 => by omega
end Go.Ab

/- squeezed -/
set_option linter.unusedVariables false
set_option linter.unusedSimpArgs false
set_option maxRecDepth 10000
namespace Go.Ab
open Go.Proofs Go.Num
theorem k6p {a : Int} {h : AH} (c : (2 : Int) ≤ a ∧ a < 1099511627776) : Runs (go (.fn F.kcg [.int .u64 a]) h) fun v h' => v = .int .u64 ((leastN (Int.toNat a) : Nat) : Int) ∧ Grow h h' := by
 obtain ⟨x, rfl⟩ : ∃ x : Nat, a = (x : Int) := ⟨a.toNat, by omega⟩
 exact kbep (by omega) (by omega) h
theorem kxr {a : Int} {h : AH} (c : (2 : Int) ≤ a ∧ a < 1099511627776) : go (.fn F.ke6 [.int .u64 a]) h = some (.int .u64 ((leastN (Int.toNat a) : Nat) : Int), h) := by
 obtain ⟨x, rfl⟩ : ∃ x : Nat, a = (x : Int) := ⟨a.toNat, by omega⟩
 exact k40 (by omega) (by omega) h
inductive kjq
 | fn (a1 : Int)
 | no
abbrev kg1 := Bool
noncomputable def kll (a1 : Int) : Option (kjq ⊕ kg1) :=
 cond (decide (a1 < 128)) (some (.inr true)) (cond (decide (a1 ≥ 1099511627776)) (some (.inr true)) ((need ((2 : Int) ≤ a1 ∧ a1 < 1099511627776)).bind fun c4_0 => some (.inr (!decide ((((leastN (Int.toNat a1) : Nat) : Int)) = a1)))))
noncomputable def k1l : kjq → Option (kjq ⊕ kg1)
 | .fn a1 => kll a1
 | .no => none
@[reducible] def kwg (h0 : AH) (r : kg1) (v : AV) (h' : AH) : Prop := v = .bool r ∧ Grow h0 h'
def ktz (r : kg1) : kjq → Prop
 | .fn a1 => ∀ {h : AH}, Runs (go (.fn F.kjt [.int .u64 a1]) h) (kwg h r)
 | .no => True
theorem kbbu {r : kg1} {o : kjq ⊕ kg1} {a1 : Int} (e : kll a1 = some o) (good : GoodS (ktz r) r o) : ktz r (.fn a1) := by
 intro h
 rw [k1w]
 unfold kll at e
 refine Runs.cond (fun k2 => ?_) (fun k2 => ?_)
 ·replace e := (condT k2).symm.trans e
  cases e
  cases good
  exact Runs.ret ⟨rfl, (Grow.refl _)⟩
 ·replace e := (condF k2).symm.trans e
  refine Runs.cond (fun k3 => ?_) (fun k3 => ?_)
  ·replace e := (condT k3).symm.trans e
   cases e
   cases good
   exact Runs.ret ⟨rfl, (Grow.refl _)⟩
  ·replace e := (condF k3).symm.trans e
   obtain ⟨c4_0, q4_0, e⟩ := Option.bind_eq_some_iff.1 e
   obtain ⟨_, H4, e4, rfl, g4⟩ := k6p  c4_0.down
   refine Runs.step e4 ?_
   refine Runs.step (seen (kb _ _)) ?_
   cases e
   cases good
   exact Runs.ret ⟨rfl, g4⟩
theorem kbc9 {s : kjq} {r : kg1} (it : Iter k1l s r) : ktz r s := Iter.ind (fun s o e good => by
 cases s with
 | fn a1 => exact @kbbu _ _ a1 e good
 | no => exact True.intro
 ) it
theorem kbcu {h : AH} {a1 : Int}  {r : kg1} (q : runP k1l (.fn a1) = some r) : Runs (go (.fn F.kjt [.int .u64 a1]) h) (kwg h r) := kbc9 (kbn q)
inductive kjl
 | fn (x1 : List Nat)
 | no
abbrev kg6 := Int × Bool
noncomputable def km1 (x1 : List Nat) : Option (kjl ⊕ kg6) :=
 cond (!(rt x1)) (some (.inr (0, false))) (cond (decide ((List.length x1 : Int) > 1)) (some (.inr (0, false))) (cond (decide ((List.length x1 : Int) = 0)) (some (.inr (0, true))) ((atI x1 0).bind fun y6 => some (.inr (((y6 : Int)), true)))))
noncomputable def k07 : kjl → Option (kjl ⊕ kg6)
 | .fn x1 => km1 x1
 | .no => none
@[reducible] def kuj (h0 : AH) (r : kg6) (v : AV) (h' : AH) : Prop := v = .tup [.int .u64 r.1, .bool r.2] ∧ Grow h0 h'
def krp (r : kg6) : kjl → Prop
 | .fn x1 => ∀ {h : AH} {a1 : Sl}, Nats h a1 x1 → Runs (go (.fn F.kmf [a1.v]) h) (kuj h r)
 | .no => True
theorem kbbw {r : kg6} {o : kjl ⊕ kg6} {x1 : List Nat} (e : km1 x1 = some o) (good : GoodS (krp r) r o) : krp r (.fn x1) := by
 intro h a1 n1
 rw [kbee]
 unfold km1 at e
 rw [n1.len]
 refine Runs.step (kbr n1) ?_
 refine Runs.step (seen rfl) ?_
 refine Runs.cond (fun k3 => ?_) (fun k3 => ?_)
 ·replace e := (condT k3).symm.trans e
  cases e
  cases good
  exact Runs.ret ⟨rfl, (Grow.refl _)⟩
 ·replace e := (condF k3).symm.trans e
  refine Runs.cond (fun k4 => ?_) (fun k4 => ?_)
  ·replace e := (condT k4).symm.trans e
   cases e
   cases good
   exact Runs.ret ⟨rfl, (Grow.refl _)⟩
  ·replace e := (condF k4).symm.trans e
   refine Runs.cond (fun k5 => ?_) (fun k5 => ?_)
   ·replace e := (condT k5).symm.trans e
    cases e
    cases good
    exact Runs.ret ⟨rfl, (Grow.refl _)⟩
   ·replace e := (condF k5).symm.trans e
    obtain ⟨y6, q6, e⟩ := Option.bind_eq_some_iff.1 e
    obtain ⟨r6, j6, l6⟩ := n1.atI q6
    refine Runs.step j6 ?_
    refine Runs.step (rdc l6 (kb _ _)) ?_
    cases e
    cases good
    exact Runs.ret ⟨rfl, (Grow.refl _)⟩
theorem kbfk {s : kjl} {r : kg6} (it : Iter k07 s r) : krp r s := Iter.ind (fun s o e good => by
 cases s with
 | fn x1 => exact @kbbw _ _ x1 e good
 | no => exact True.intro
 ) it
theorem kbdx {h : AH} {a1 : Sl} {x1 : List Nat} (n1 : Nats h a1 x1) {r : kg6} (q : runP k07 (.fn x1) = some r) : Runs (go (.fn F.kmf [a1.v]) h) (kuj h r) := kbfk (kbn q) n1
inductive kkd
 | fn (a1 : Int)
 | no
abbrev kg3 := Int
noncomputable def kne (a1 : Int) : Option (kkd ⊕ kg3) :=
 (u64P a1).bind fun p2 => some (.inr (((bitsN (digs B p2) : Nat) : Int)))
noncomputable def kv3 : kkd → Option (kkd ⊕ kg3)
 | .fn a1 => kne a1
 | .no => none
@[reducible] def ks0 (h0 : AH) (r : kg3) (v : AV) (h' : AH) : Prop := v = .int .i64 r ∧ Grow h0 h'
def ku4 (r : kg3) : kkd → Prop
 | .fn a1 => ∀ {h : AH}, Runs (go (.fn F.kiz [.int .u64 a1]) h) (ks0 h r)
 | .no => True
theorem kber {r : kg3} {o : kkd ⊕ kg3} {a1 : Int} (e : kne a1 = some o) (good : GoodS (ku4 r) r o) : ku4 r (.fn a1) := by
 intro h
 rw [kbc0]
 unfold kne at e
 obtain ⟨p2, q2, e⟩ := Option.bind_eq_some_iff.1 e
 obtain ⟨s2, H2, e2, n2, g2, o2⟩ := kcv q2
 refine Runs.step e2 ?_
 refine Runs.step (seen (asSl_v _)) ?_
 obtain ⟨_, H3, e3, rfl, g3⟩ := ksu n2
 refine Runs.step e3 ?_
 refine Runs.step (seen (kb _ _)) ?_
 cases e
 cases good
 exact Runs.ret ⟨rfl, (g2.trans g3)⟩
theorem kbaa {s : kkd} {r : kg3} (it : Iter kv3 s r) : ku4 r s := Iter.ind (fun s o e good => by
 cases s with
 | fn a1 => exact @kber _ _ a1 e good
 | no => exact True.intro
 ) it
theorem kbe7 {h : AH} {a1 : Int}  {r : kg3} (q : runP kv3 (.fn a1) = some r) : Runs (go (.fn F.kiz [.int .u64 a1]) h) (ks0 h r) := kbaa (kbn q)
end Go.Ab

/- squeezed -/
set_option linter.unusedVariables false
set_option linter.unusedSimpArgs false
set_option maxRecDepth 10000
namespace Go.Ab
open Go.Proofs Go.Num
noncomputable def oddF (a : Int) : Bool := cond (decide (a < 128)) true (cond (decide (a ≥ 1099511627776)) true (!decide (((leastN (Int.toNat a) : Nat) : Int) = a)))
theorem kvy {h : AH} (a : Int) : Runs (go (.fn F.kjt [.int .u64 a]) h) fun v h' => v = .bool (oddF a) ∧ Grow h h' := kbcu (kbg (.done (by
 show kll a = _
 unfold kll oddF
 by_cases h1 : a < 128
 ·rw [decide_eq_true h1]; rfl
 ·rw [decide_eq_false h1]
  by_cases h2 : a ≥ 1099511627776
  ·rw [decide_eq_true h2]; rfl
  ·rw [decide_eq_false h2, ki (by omega)]
   rfl)))
def smlN (xs : List Nat) : Int × Bool := cond (!rt xs) (0, false) (cond (decide ((List.length xs : Int) > 1)) (0, false) (((xs.headD 0 : Nat) : Int), true))
theorem k3q {h : AH} {s : Sl} {xs : List Nat} (n : Nats h s xs) : Runs (go (.fn F.kmf [s.v]) h) (kuj h (smlN xs)) := kbdx n (kbg (.done (by
 show km1 xs = _
 unfold km1 smlN
 cases (!rt xs)
 ·rw [cond_false, cond_false]
  by_cases h1 : (List.length xs : Int) > 1
  ·rw [decide_eq_true h1]; rfl
  ·rw [decide_eq_false h1, cond_false, cond_false]
   cases xs with
   | nil => rfl
   | cons x xs => rfl
 ·rfl)))
theorem kxk {h : AH} {a : Int} (c : 0 ≤ a ∧ a < 18446744073709551616) : Runs (go (.fn F.kiz [.int .u64 a]) h) (ks0 h ((bitsN (digs B (Int.toNat a)) : Nat) : Int)) := kbe7 (kbg (.done (by
 show kne a = _
 unfold kne u64P
 rw [if_pos c]
 rfl)))
end Go.Ab

/- squeezed -/
set_option linter.unusedVariables false
set_option linter.unusedSimpArgs false
set_option maxRecDepth 10000
namespace Go.Ab
open Go.Proofs Go.Num
inductive kkg
 | fn (a1 : Int) (a2 : Int)
 | no
abbrev khd := Int
noncomputable def klm (a1 : Int) (a2 : Int) : Option (kkg ⊕ khd) :=
 cond (((oddF a1))) (some (.inr 9)) (cond (((oddF a2))) (some (.inr 9)) (cond (decide (a1 = a2)) (some (.inr 9)) ((need (0 ≤ a1 ∧ a1 < 18446744073709551616)).bind fun c9_0 => (need (0 ≤ a2 ∧ a2 < 18446744073709551616)).bind fun c10_0 => cond (!decide ((((bl (Int.toNat a1) : Nat) : Int)) = (((bl (Int.toNat a2) : Nat) : Int)))) (some (.inr 9)) ((u64P a1).bind fun w16 => (u64P a2).bind fun w17 => (u64P (IntKind.wrap .u64 (a1 - 1))).bind fun w23 => (u64P (IntKind.wrap .u64 (a2 - 1))).bind fun w24 => (u64P 1).bind fun w30 => cond (!decide ((cmpN ((gcdN ((mulN [w16] [w17]).1) ((mulN [w23] [w24]).1)).1) [w30]) = 0)) (some (.inr 9)) (some (.inr 0))))))
noncomputable def ktj : kkg → Option (kkg ⊕ khd)
 | .fn a1 a2 => klm a1 a2
 | .no => none
@[reducible] def ks6 (h0 : AH) (r : khd) (v : AV) (h' : AH) : Prop := v = .int .i64 r ∧ Grow h0 h'
def krh (r : khd) : kkg → Prop
 | .fn a1 a2 => ∀ {h : AH}, Runs (go (.fn F.klz [.agg [.int .u64 a1, .int .u64 a2]]) h) (ks6 h r)
 | .no => True
theorem kbc6 {r : khd} {o : kkg ⊕ khd} {a1 : Int} {a2 : Int} (e : klm a1 a2 = some o) (good : GoodS (krh r) r o) : krh r (.fn a1 a2) := by
 intro h
 rw [k7q]
 unfold klm at e
 refine Runs.new fun H3 b3 g3 => ?_
 refine Runs.step (AH.has.rd b3 0 rfl (kb _ _)) ?_
 obtain ⟨_, H4, e4, rfl, g4⟩ := kvy a1
 refine Runs.step e4 ?_
 refine Runs.step (seen rfl) ?_
 refine Runs.cond (fun k5 => ?_) (fun k5 => ?_)
 ·replace e := (condT k5).symm.trans e
  cases e
  cases good
  exact Runs.ret ⟨rfl, (g3.trans g4)⟩
 ·replace e := (condF k5).symm.trans e
  refine Runs.step (AH.has.rd (g4.has b3) 1 rfl (kb _ _)) ?_
  obtain ⟨_, H6, e6, rfl, g6⟩ := kvy a2
  refine Runs.step e6 ?_
  refine Runs.step (seen rfl) ?_
  refine Runs.cond (fun k7 => ?_) (fun k7 => ?_)
  ·replace e := (condT k7).symm.trans e
   cases e
   cases good
   have G8 := ((g3.trans g4).trans g6)
   exact Runs.ret ⟨rfl, G8⟩
  ·replace e := (condF k7).symm.trans e
   refine Runs.step (AH.has.rd ((g4.trans g6).has b3) 0 rfl (kb _ _)) ?_
   refine Runs.step (AH.has.rd ((g4.trans g6).has b3) 1 rfl (kb _ _)) ?_
   refine Runs.cond (fun k8 => ?_) (fun k8 => ?_)
   ·replace e := (condT k8).symm.trans e
    cases e
    cases good
    have G9 := ((g3.trans g4).trans g6)
    exact Runs.ret ⟨rfl, G9⟩
   ·replace e := (condF k8).symm.trans e
    refine Runs.step (AH.has.rd ((g4.trans g6).has b3) 0 rfl (kb _ _)) ?_
    refine Runs.step (AH.has.rd ((g4.trans g6).has b3) 1 rfl (kb _ _)) ?_
    obtain ⟨c9_0, q9_0, e⟩ := Option.bind_eq_some_iff.1 e
    refine Runs.step (kt3  c9_0.down) ?_
    refine Runs.step (seen (kb _ _)) ?_
    refine Runs.when ((Grow.refl _).same ((g4.trans g6).has b3) 1 1) ?_
    obtain ⟨c10_0, q10_0, e⟩ := Option.bind_eq_some_iff.1 e
    refine Runs.step (kt3  c10_0.down) ?_
    refine Runs.step (seen (kb _ _)) ?_
    refine Runs.cond (fun k11 => ?_) (fun k11 => ?_)
    ·replace e := (condT k11).symm.trans e
     cases e
     cases good
     have G12 := ((g3.trans g4).trans g6)
     exact Runs.ret ⟨rfl, G12⟩
    ·replace e := (condF k11).symm.trans e
     refine Runs.step (AH.has.rd ((g4.trans g6).has b3) 0 rfl (kb _ _)) ?_
     refine Runs.new fun H12 b12 g12 => ?_
     have G13 := ((g4.trans g6).trans g12)
     have b3_14 := G13.has b3
     refine Runs.step (AH.has.rd b3_14 1 rfl (kb _ _)) ?_
     refine Runs.new fun H15 b15 g15 => ?_
     obtain ⟨w16, z16, e⟩ := Option.bind_eq_some_iff.1 e
     obtain ⟨w17, z17, e⟩ := Option.bind_eq_some_iff.1 e
     obtain ⟨s18, H18, e18, n18, g18, o18⟩ := ke9 (Nats.of_has1 (g15.has b12) z16) (Nats.of_has1 b15 z17)
     refine Runs.step e18 ?_
     refine Runs.step rfl ?_
     refine Runs.step (seen (asSl_v _)) ?_
     refine Runs.step (seen (kb _ _)) ?_
     refine Runs.step (AH.has.rd ((g15.trans g18).has b3_14) 0 rfl (kb _ _)) ?_
     refine Runs.new fun H19 b19 g19 => ?_
     have G20 := ((g15.trans g18).trans g19)
     have b3_21 := G20.has b3_14
     refine Runs.step (AH.has.rd b3_21 1 rfl (kb _ _)) ?_
     refine Runs.new fun H22 b22 g22 => ?_
     obtain ⟨w23, z23, e⟩ := Option.bind_eq_some_iff.1 e
     obtain ⟨w24, z24, e⟩ := Option.bind_eq_some_iff.1 e
     obtain ⟨s25, H25, e25, n25, g25, o25⟩ := ke9 (Nats.of_has1 (g22.has b19) z23) (Nats.of_has1 b22 z24)
     refine Runs.step e25 ?_
     refine Runs.step rfl ?_
     refine Runs.step (seen (asSl_v _)) ?_
     refine Runs.step (seen (kb _ _)) ?_
     have G26 := ((g19.trans g22).trans g25)
     have n18_27 := n18.grow G26
     obtain ⟨_, H28, e28, s28, rfl, n28, g28, o28⟩ := k1d n18_27 n25
     refine Runs.step e28 ?_
     refine Runs.step rfl ?_
     refine Runs.step (seen (asSl_v _)) ?_
     refine Runs.step (seen (kb _ _)) ?_
     refine Runs.new fun H29 b29 g29 => ?_
     obtain ⟨w30, z30, e⟩ := Option.bind_eq_some_iff.1 e
     obtain ⟨H31, e31, g31⟩ := kc8 (n28.grow g29) (Nats.of_has1 b29 z30)
     refine Runs.step e31 ?_
     refine Runs.step (seen (kb _ _)) ?_
     refine Runs.cond (fun k32 => ?_) (fun k32 => ?_)
     ·replace e := (condT k32).symm.trans e
      cases e
      cases good
      have G33 := (((((((((((g3.trans g4).trans g6).trans g12).trans g15).trans g18).trans g19).trans g22).trans g25).trans g28).trans g29).trans g31)
      exact Runs.ret ⟨rfl, G33⟩
     ·replace e := (condF k32).symm.trans e
      cases e
      cases good
      have G33 := (((((((((((g3.trans g4).trans g6).trans g12).trans g15).trans g18).trans g19).trans g22).trans g25).trans g28).trans g29).trans g31)
      exact Runs.ret ⟨rfl, G33⟩
theorem kbfi {s : kkg} {r : khd} (it : Iter ktj s r) : krh r s := Iter.ind (fun s o e good => by
 cases s with
 | fn a1 a2 => exact @kbc6 _ _ a1 a2 e good
 | no => exact True.intro
 ) it
theorem kbgt {h : AH} {a1 : Int} {a2 : Int}  {r : khd} (q : runP ktj (.fn a1 a2) = some r) : Runs (go (.fn F.klz [.agg [.int .u64 a1, .int .u64 a2]]) h) (ks6 h r) := kbfi (kbn q)
inductive kj8
 | fn (a1 : Int) (a2 : Int)
 | no
abbrev kgw := Int
noncomputable def kkn (a1 : Int) (a2 : Int) : Option (kj8 ⊕ kgw) :=
 cond (decide (a1 < 128)) (some (.inr 9)) (cond (decide (a2 < 128)) (some (.inr 9)) (cond (decide (a1 ≥ 1099511627776)) (some (.inr 9)) (cond (decide (a2 ≥ 1099511627776)) (some (.inr 9)) ((need ((2 : Int) ≤ a1 ∧ a1 < 1099511627776)).bind fun c8_0 => cond (!decide ((((leastN (Int.toNat a1) : Nat) : Int)) = a1)) (some (.inr 9)) ((need ((2 : Int) ≤ a2 ∧ a2 < 1099511627776)).bind fun c10_0 => cond (!decide ((((leastN (Int.toNat a2) : Nat) : Int)) = a2)) (some (.inr 9)) (cond (decide (a1 = a2)) (some (.inr 9)) ((need (0 ≤ a1 ∧ a1 < 18446744073709551616)).bind fun c13_0 => (need (0 ≤ a2 ∧ a2 < 18446744073709551616)).bind fun c14_0 => cond (!decide ((((bitsN (digs B (Int.toNat a1)) : Nat) : Int)) = (((bitsN (digs B (Int.toNat a2)) : Nat) : Int)))) (some (.inr 9)) ((u64P a1).bind fun p16 => (u64P a2).bind fun p17 => (u64P (IntKind.wrap .u64 (a1 - 1))).bind fun p21 => (u64P (IntKind.wrap .u64 (a2 - 1))).bind fun p22 => cond (!decide (((smlN ((gcdN ((mulN (digs B p16) (digs B p17)).1) ((mulN (digs B p21) (digs B p22)).1)).1)).1) = 1)) (some (.inr 9)) (some (.inr 0))))))))))
noncomputable def ktm : kj8 → Option (kj8 ⊕ kgw)
 | .fn a1 a2 => kkn a1 a2
 | .no => none
@[reducible] def ksp (h0 : AH) (r : kgw) (v : AV) (h' : AH) : Prop := v = .int .i64 r ∧ Grow h0 h'
def ku9 (r : kgw) : kj8 → Prop
 | .fn a1 a2 => ∀ {h : AH}, Runs (go (.fn F.kmg [.agg [.int .u64 a1, .int .u64 a2]]) h) (ksp h r)
 | .no => True
theorem k4o {r : kgw} {o : kj8 ⊕ kgw} {a1 : Int} {a2 : Int} (e : kkn a1 a2 = some o) (good : GoodS (ku9 r) r o) : ku9 r (.fn a1 a2) := by
 intro h
 rw [kbci]
 unfold kkn at e
 refine Runs.new fun H3 b3 g3 => ?_
 refine Runs.step (AH.has.rd b3 0 rfl (kb _ _)) ?_
 refine Runs.cond (fun k4 => ?_) (fun k4 => ?_)
 ·replace e := (condT k4).symm.trans e
  cases e
  cases good
  exact Runs.ret ⟨rfl, g3⟩
 ·replace e := (condF k4).symm.trans e
  refine Runs.step (AH.has.rd b3 1 rfl (kb _ _)) ?_
  refine Runs.cond (fun k5 => ?_) (fun k5 => ?_)
  ·replace e := (condT k5).symm.trans e
   cases e
   cases good
   exact Runs.ret ⟨rfl, g3⟩
  ·replace e := (condF k5).symm.trans e
   refine Runs.step (AH.has.rd b3 0 rfl (kb _ _)) ?_
   refine Runs.cond (fun k6 => ?_) (fun k6 => ?_)
   ·replace e := (condT k6).symm.trans e
    cases e
    cases good
    exact Runs.ret ⟨rfl, g3⟩
   ·replace e := (condF k6).symm.trans e
    refine Runs.step (AH.has.rd b3 1 rfl (kb _ _)) ?_
    refine Runs.cond (fun k7 => ?_) (fun k7 => ?_)
    ·replace e := (condT k7).symm.trans e
     cases e
     cases good
     exact Runs.ret ⟨rfl, g3⟩
    ·replace e := (condF k7).symm.trans e
     refine Runs.step (AH.has.rd b3 0 rfl (kb _ _)) ?_
     refine Runs.step (AH.has.rd b3 0 rfl (kb _ _)) ?_
     obtain ⟨c8_0, q8_0, e⟩ := Option.bind_eq_some_iff.1 e
     refine Runs.step (kxr  c8_0.down) ?_
     refine Runs.step (seen (kb _ _)) ?_
     refine Runs.when ((Grow.refl _).same b3 0 1) ?_
     refine Runs.cond (fun k9 => ?_) (fun k9 => ?_)
     ·replace e := (condT k9).symm.trans e
      cases e
      cases good
      exact Runs.ret ⟨rfl, g3⟩
     ·replace e := (condF k9).symm.trans e
      refine Runs.step (AH.has.rd b3 1 rfl (kb _ _)) ?_
      refine Runs.step (AH.has.rd b3 1 rfl (kb _ _)) ?_
      obtain ⟨c10_0, q10_0, e⟩ := Option.bind_eq_some_iff.1 e
      refine Runs.step (kxr  c10_0.down) ?_
      refine Runs.step (seen (kb _ _)) ?_
      refine Runs.when ((Grow.refl _).same b3 1 1) ?_
      refine Runs.cond (fun k11 => ?_) (fun k11 => ?_)
      ·replace e := (condT k11).symm.trans e
       cases e
       cases good
       exact Runs.ret ⟨rfl, g3⟩
      ·replace e := (condF k11).symm.trans e
       refine Runs.step (AH.has.rd b3 0 rfl (kb _ _)) ?_
       refine Runs.step (AH.has.rd b3 1 rfl (kb _ _)) ?_
       refine Runs.cond (fun k12 => ?_) (fun k12 => ?_)
       ·replace e := (condT k12).symm.trans e
        cases e
        cases good
        exact Runs.ret ⟨rfl, g3⟩
       ·replace e := (condF k12).symm.trans e
        refine Runs.step (AH.has.rd b3 0 rfl (kb _ _)) ?_
        refine Runs.step (AH.has.rd b3 1 rfl (kb _ _)) ?_
        obtain ⟨c13_0, q13_0, e⟩ := Option.bind_eq_some_iff.1 e
        obtain ⟨_, H13, e13, rfl, g13⟩ := kxk  c13_0.down
        refine Runs.step e13 ?_
        refine Runs.step (seen (kb _ _)) ?_
        refine Runs.when (g13.same b3 1 1) ?_
        obtain ⟨c14_0, q14_0, e⟩ := Option.bind_eq_some_iff.1 e
        obtain ⟨_, H14, e14, rfl, g14⟩ := kxk  c14_0.down
        refine Runs.step e14 ?_
        refine Runs.step (seen (kb _ _)) ?_
        refine Runs.cond (fun k15 => ?_) (fun k15 => ?_)
        ·replace e := (condT k15).symm.trans e
         cases e
         cases good
         have G16 := ((g3.trans g13).trans g14)
         exact Runs.ret ⟨rfl, G16⟩
        ·replace e := (condF k15).symm.trans e
         refine Runs.step (AH.has.rd ((g13.trans g14).has b3) 0 rfl (kb _ _)) ?_
         refine Runs.step (AH.has.rd ((g13.trans g14).has b3) 1 rfl (kb _ _)) ?_
         obtain ⟨p16, q16, e⟩ := Option.bind_eq_some_iff.1 e
         obtain ⟨s16, H16, e16, n16, g16, o16⟩ := kcv q16
         refine Runs.step e16 ?_
         refine Runs.step (seen (asSl_v _)) ?_
         refine Runs.when (g16.same ((g13.trans g14).has b3) 1 1) ?_
         obtain ⟨p17, q17, e⟩ := Option.bind_eq_some_iff.1 e
         obtain ⟨s17, H17, e17, n17, g17, o17⟩ := kcv q17
         refine Runs.step e17 ?_
         refine Runs.step (seen (asSl_v _)) ?_
         obtain ⟨s18, H18, e18, n18, g18, o18⟩ := khn (n16.grow g17) n17
         refine Runs.step e18 ?_
         refine Runs.step rfl ?_
         refine Runs.step (seen (asSl_v _)) ?_
         refine Runs.step (seen (kb _ _)) ?_
         have G19 := ((((g13.trans g14).trans g16).trans g17).trans g18)
         have b3_20 := G19.has b3
         refine Runs.step (AH.has.rd b3_20 0 rfl (kb _ _)) ?_
         refine Runs.step (AH.has.rd b3_20 1 rfl (kb _ _)) ?_
         obtain ⟨p21, q21, e⟩ := Option.bind_eq_some_iff.1 e
         obtain ⟨s21, H21, e21, n21, g21, o21⟩ := kcv q21
         refine Runs.step e21 ?_
         refine Runs.step (seen (asSl_v _)) ?_
         refine Runs.when (g21.same b3_20 1 1) ?_
         obtain ⟨p22, q22, e⟩ := Option.bind_eq_some_iff.1 e
         obtain ⟨s22, H22, e22, n22, g22, o22⟩ := kcv q22
         refine Runs.step e22 ?_
         refine Runs.step (seen (asSl_v _)) ?_
         obtain ⟨s23, H23, e23, n23, g23, o23⟩ := khn (n21.grow g22) n22
         refine Runs.step e23 ?_
         refine Runs.step rfl ?_
         refine Runs.step (seen (asSl_v _)) ?_
         refine Runs.step (seen (kb _ _)) ?_
         have G24 := ((g21.trans g22).trans g23)
         have n18_25 := n18.grow G24
         obtain ⟨_, H26, e26, s26, rfl, n26, g26, o26⟩ := kyx n18_25 n23
         refine Runs.step e26 ?_
         refine Runs.step rfl ?_
         refine Runs.step (seen (asSl_v _)) ?_
         refine Runs.step (seen (kb _ _)) ?_
         obtain ⟨_, H27, e27, rfl, g27⟩ := k3q n26
         refine Runs.step e27 ?_
         refine Runs.step rfl ?_
         refine Runs.step (seen (kb _ _)) ?_
         refine Runs.step (seen rfl) ?_
         refine Runs.cond (fun k28 => ?_) (fun k28 => ?_)
         ·replace e := (condT k28).symm.trans e
          cases e
          cases good
          have G29 := ((((((((((g3.trans g13).trans g14).trans g16).trans g17).trans g18).trans g21).trans g22).trans g23).trans g26).trans g27)
          exact Runs.ret ⟨rfl, G29⟩
         ·replace e := (condF k28).symm.trans e
          cases e
          cases good
          have G29 := ((((((((((g3.trans g13).trans g14).trans g16).trans g17).trans g18).trans g21).trans g22).trans g23).trans g26).trans g27)
          exact Runs.ret ⟨rfl, G29⟩
theorem kbhg {s : kj8} {r : kgw} (it : Iter ktm s r) : ku9 r s := Iter.ind (fun s o e good => by
 cases s with
 | fn a1 a2 => exact @k4o _ _ a1 a2 e good
 | no => exact True.intro
 ) it
theorem k9f {h : AH} {a1 : Int} {a2 : Int}  {r : kgw} (q : runP ktm (.fn a1 a2) = some r) : Runs (go (.fn F.kmg [.agg [.int .u64 a1, .int .u64 a2]]) h) (ksp h r) := kbhg (kbn q)
end Go.Ab

/- squeezed -/
set_option linter.unusedVariables false
set_option linter.unusedSimpArgs false
set_option maxRecDepth 10000
namespace Go.Ab
open Go.Proofs Go.Num
theorem kb9 {x : Nat} (h0 : 0 < x) (h : x < B) : digs B x = [x] := by
 rw [kdf B2 (by omega), Nat.mod_eq_of_lt h, Nat.div_eq_of_lt h, kbe]
theorem kpu {x : Nat} (h0 : 0 < x) (h : x < B) : rt [x] = true := by
 rw [← kb9 h0 h]
 exact kj (Nat.lt_of_lt_of_le h (by decide))
theorem kdk {a : Nat} (h : a < 1099511627776) : a < B ^ 30 := Nat.lt_of_lt_of_le h (by decide)
noncomputable def badF (a b : Int) : Bool := oddF a || (oddF b || (decide (a = b) || (!decide (bl a.toNat = bl b.toNat) || !decide (Nat.gcd (a.toNat * b.toNat) ((a.toNat - 1) * (b.toNat - 1)) = 1))))
noncomputable def keyF (a b : Int) : Int := cond (badF a b) 9 0
theorem kja {a : Int} (h : oddF a = false) : ∃ p : Nat, a = (p : Int) ∧ 128 ≤ p ∧ p < 1099511627776 ∧ leastN p = p := by
 unfold oddF at h
 by_cases h1 : a < 128
 ·rw [decide_eq_true h1] at h; cases h
 ·rw [decide_eq_false h1, cond_false] at h
  by_cases h2 : a ≥ 1099511627776
  ·rw [decide_eq_true h2] at h; cases h
  ·rw [decide_eq_false h2, cond_false] at h
   have h3 : ((leastN (Int.toNat a) : Nat) : Int) = a := by simpa using h
   exact ⟨a.toNat, by omega, by omega, by omega, by omega⟩
theorem B40 : (1099511627776 : Nat) < B := by decide
theorem k0t {p q : Nat} (hp : 128 ≤ p) (hp2 : p < 1099511627776) (hq : 128 ≤ q) (hq2 : q < 1099511627776) :
  (gcdN ((mulN [p] [q]).1) ((mulN [p - 1] [q - 1]).1)).1 = digs B (Nat.gcd (p * q) ((p - 1) * (q - 1))) := by
 have b40 := B40
 have lt : ∀ {a b : Nat}, a < 1099511627776 → b < 1099511627776 → a * b < B ^ 2 := fun ha hb => Nat.lt_of_lt_of_le (Nat.mul_lt_mul'' ha hb) (by decide)
 have e1 : mulN [p] [q] = (digs B (p * q), 0) := by
  rw [← kb9 (x := p) (by omega) (by omega), ← kb9 (x := q) (by omega) (by omega), kdt (kdk hp2) (kdk hq2)]
 have e2 : mulN [p - 1] [q - 1] = (digs B ((p - 1) * (q - 1)), 0) := by
  rw [← kb9 (x := p - 1) (by omega) (by omega), ← kb9 (x := q - 1) (by omega) (by omega), kdt (kdk (by omega)) (kdk (by omega))]
 have r1 : rt (digs B (p * q)) = true := kj (Nat.lt_of_lt_of_le (lt hp2 hq2) (Nat.pow_le_pow_right (by decide) (by decide)))
 have r2 : rt (digs B ((p - 1) * (q - 1))) = true := kj (Nat.lt_of_lt_of_le (lt (by omega) (by omega)) (Nat.pow_le_pow_right (by decide) (by decide)))
 rw [e1, e2]
 unfold gcdN
 rw [if_pos ⟨r1, r2⟩, kf B2, kf B2]
theorem gcd_lt {p q : Nat} (hp : 128 ≤ p) (hp2 : p < 1099511627776) (hq : 128 ≤ q) (hq2 : q < 1099511627776) : Nat.gcd (p * q) ((p - 1) * (q - 1)) < B ^ 64 := by
 have h1 : Nat.gcd (p * q) ((p - 1) * (q - 1)) ≤ p * q := Nat.gcd_le_left _ (Nat.mul_pos (by omega) (by omega))
 have h2 : p * q < 1099511627776 * 1099511627776 := Nat.mul_lt_mul'' hp2 hq2
 exact Nat.lt_of_le_of_lt h1 (Nat.lt_of_lt_of_le h2 (by decide))
theorem kz1 {g : Nat} (h : g < B ^ 64) : decide (cmpN (digs B g) [1] = 0) = decide (g = 1) := by
 rw [kmt (kj h) (by decide), kf B2]
 have : num B [1] = 1 := by decide
 rw [this, decide_eq_decide]
 unfold cmp
 split
 ·omega
 ·split <;> omega
theorem kbh3 {g : Nat} (h : g < B ^ 64) : decide ((smlN (digs B g)).1 = 1) = decide (g = 1) := by
 unfold smlN
 rw [kj h, Bool.not_true, cond_false, decide_eq_decide]
 by_cases h1 : (List.length (digs B g) : Int) > 1
 ·rw [decide_eq_true h1, cond_true]
  constructor
  ·intro h; cases h
  ·rintro rfl
   rw [kga] at h1
   exact absurd h1 (by decide)
 ·rw [decide_eq_false h1, cond_false]
  have hB : g < B := by
   have := (kp B2 g 1).1 (by omega)
   simpa using this
  rcases Nat.eq_zero_or_pos g with rfl | hg
  ·rw [kbe]; decide
  ·rw [kb9 hg hB]
   simp only [List.headD_cons]
   omega
theorem kim {p : Nat} (h1 : 1 ≤ p) (h : p < B) : IntKind.wrap .u64 ((p : Int) - 1) = ((p - 1 : Nat) : Int) := by
 have e : ((p : Int) - 1) = ((p - 1 : Nat) : Int) := by omega
 rw [e, wrapU]
 have : p - 1 < 18446744073709551616 := Nat.lt_of_le_of_lt (Nat.sub_le _ _) h
 omega
theorem u64P_B {p : Nat} (h : p < B) : u64P (p : Int) = some p := kbb h
theorem kbf7 (a b : Int) : Iter ktj (.fn a b) (keyF a b) := by
 refine .done ?_
 show klm a b = _
 unfold klm keyF badF
 cases ha : oddF a
 case true => rfl
 cases hb : oddF b
 case true => rfl
 obtain ⟨p, rfl, p1, p2, p3⟩ := kja ha
 obtain ⟨q, rfl, q1, q2, q3⟩ := kja hb
 have b40 := B40
 rw [cond_false, cond_false, Bool.false_or, Bool.false_or]
 cases hpq : decide ((p : Int) = (q : Int))
 case true => rfl
 rw [cond_false, Bool.false_or, ki (by omega), Option.bind_some, ki (by omega), Option.bind_some, Int.toNat_natCast, Int.toNat_natCast]
 have e1 : decide (((bl p : Nat) : Int) = ((bl q : Nat) : Int)) = decide (bl p = bl q) := by rw [decide_eq_decide]; omega
 rw [e1]
 cases hl : decide (bl p = bl q)
 case false => rfl
 rw [Bool.not_true, cond_false, Bool.false_or, u64P_B (by omega), Option.bind_some, u64P_B (by omega), Option.bind_some, kim (by omega) (by omega), kim (by omega) (by omega), u64P_B (by omega), Option.bind_some, u64P_B (by omega), Option.bind_some, show u64P 1 = some 1 from rfl, Option.bind_some, k0t p1 p2 q1 q2, kz1 (gcd_lt p1 p2 q1 q2)]
 cases decide (Nat.gcd (p * q) ((p - 1) * (q - 1)) = 1) <;> rfl
theorem kbg9 (a b : Int) : Iter ktm (.fn a b) (keyF a b) := by
 refine .done ?_
 show kkn a b = _
 have odd1 : ∀ {x : Int}, x < 128 → oddF x = true := fun h => by unfold oddF; rw [decide_eq_true h]; rfl
 have odd2 : ∀ {x : Int}, x ≥ 1099511627776 → oddF x = true := fun h => by
  unfold oddF
  rw [decide_eq_false (by omega), decide_eq_true h]; rfl
 have odd3 : ∀ {x : Int}, ¬ x < 128 → ¬ x ≥ 1099511627776 → oddF x = !decide (((leastN (Int.toNat x) : Nat) : Int) = x) := fun h h' => by
  unfold oddF
  rw [decide_eq_false h, decide_eq_false h']; rfl
 have bad1 : oddF a = true → keyF a b = 9 := fun h => by unfold keyF badF; rw [h]; rfl
 have bad2 : oddF b = true → keyF a b = 9 := fun h => by unfold keyF badF; rw [h]; cases oddF a <;> rfl
 unfold kkn
 by_cases a1 : a < 128
 ·rw [decide_eq_true a1, bad1 (odd1 a1)]; rfl
 rw [decide_eq_false a1, cond_false]
 by_cases b1 : b < 128
 ·rw [decide_eq_true b1, bad2 (odd1 b1)]; rfl
 rw [decide_eq_false b1, cond_false]
 by_cases a2 : a ≥ 1099511627776
 ·rw [decide_eq_true a2, bad1 (odd2 a2)]; rfl
 rw [decide_eq_false a2, cond_false]
 by_cases b2 : b ≥ 1099511627776
 ·rw [decide_eq_true b2, bad2 (odd2 b2)]; rfl
 rw [decide_eq_false b2, cond_false, ki (by omega), Option.bind_some, ki (p := (2 : Int) ≤ b ∧ b < 1099511627776) (by omega), Option.bind_some, ← odd3 a1 a2, ← odd3 b1 b2]
 cases ha : oddF a
 case true => rw [bad1 ha]; rfl
 cases hb : oddF b
 case true => rw [bad2 hb]; rfl
 unfold keyF badF
 rw [ha, hb]
 obtain ⟨p, rfl, p1, p2, p3⟩ := kja ha
 obtain ⟨q, rfl, q1, q2, q3⟩ := kja hb
 have b40 := B40
 rw [cond_false, cond_false, Bool.false_or, Bool.false_or]
 cases hpq : decide ((p : Int) = (q : Int))
 case true => rfl
 rw [cond_false, Bool.false_or, ki (by omega), Option.bind_some, ki (by omega), Option.bind_some, Int.toNat_natCast, Int.toNat_natCast]
 have eb : ∀ {x : Nat}, x < B → bitsN (digs B x) = bl x := fun h => by
  unfold bitsN
  rw [if_pos (kj (Nat.lt_of_lt_of_le h (by decide))), kf B2]
 rw [eb (by omega), eb (by omega)]
 have e1 : decide (((bl p : Nat) : Int) = ((bl q : Nat) : Int)) = decide (bl p = bl q) := by rw [decide_eq_decide]; omega
 rw [e1]
 cases hl : decide (bl p = bl q)
 case false => rfl
 rw [Bool.not_true, cond_false, Bool.false_or, u64P_B (by omega), Option.bind_some, u64P_B (by omega), Option.bind_some, kim (by omega) (by omega), kim (by omega) (by omega), u64P_B (by omega), Option.bind_some, u64P_B (by omega), Option.bind_some,
  kb9 (x := p) (by omega) (by omega), kb9 (x := q) (by omega) (by omega), kb9 (x := p - 1) (by omega) (by omega), kb9 (x := q - 1) (by omega) (by omega), k0t p1 p2 q1 q2, kbh3 (gcd_lt p1 p2 q1 q2)]
 cases decide (Nat.gcd (p * q) ((p - 1) * (q - 1)) = 1) <;> rfl
theorem kbgh {h : AH} (a b : Int) : Runs (go (.fn F.klz [.agg [.int .u64 a, .int .u64 b]]) h) (ks6 h (keyF a b)) := kbgt (kbg (kbf7 a b))
theorem k46 {h : AH} (a b : Int) : Runs (go (.fn F.kmg [.agg [.int .u64 a, .int .u64 b]]) h) (ksp h (keyF a b)) := k9f (kbg (kbg9 a b))
end Go.Ab

/- squeezed -/
set_option linter.unusedVariables false
set_option linter.unusedSimpArgs false
set_option maxRecDepth 10000
namespace Go.Ab
open Go.Proofs Go.Num
inductive kjx
 | fn (a1 : Int) (a2 : Int)
 | no
abbrev kgc := List Nat × Int
noncomputable def km0 (a1 : Int) (a2 : Int) : Option (kjx ⊕ kgc) :=
 cond (!decide (((keyF a1 a2)) = 0)) (some (.inr ([], ((keyF a1 a2))))) ((u64P a1).bind fun w8 => (u64P a2).bind fun w9 => some (.inr ((mulN [w8] [w9]).1, ((mulN [w8] [w9]).2))))
noncomputable def kr5 : kjx → Option (kjx ⊕ kgc)
 | .fn a1 a2 => km0 a1 a2
 | .no => none
@[reducible] def ksd (h0 : AH) (r : kgc) (v : AV) (h' : AH) : Prop := ∃ s1 : Sl, v = .tup [s1.v, .int .i64 r.2] ∧ Nats h' s1 r.1 ∧ Grow h0 h' ∧ Own h0 s1
def kvb (r : kgc) : kjx → Prop
 | .fn a1 a2 => ∀ {h : AH}, Runs (go (.fn F.kk0 [.agg [.int .u64 a1, .int .u64 a2]]) h) (ksd h r)
 | .no => True
theorem k5v {r : kgc} {o : kjx ⊕ kgc} {a1 : Int} {a2 : Int} (e : km0 a1 a2 = some o) (good : GoodS (kvb r) r o) : kvb r (.fn a1 a2) := by
 intro h
 rw [kbhy]
 unfold km0 at e
 refine Runs.new fun H3 b3 g3 => ?_
 refine Runs.step (AH.has.rd b3 0 rfl (kb _ _)) ?_
 refine Runs.step (AH.has.rd b3 1 rfl (kb _ _)) ?_
 obtain ⟨_, H4, e4, rfl, g4⟩ := kbgh a1 a2
 refine Runs.step e4 ?_
 refine Runs.step (seen (kb _ _)) ?_
 refine Runs.cond (fun k5 => ?_) (fun k5 => ?_)
 ·replace e := (condT k5).symm.trans e
  cases e
  cases good
  exact Runs.ret ⟨(⟨none, 0, .is 0⟩ : Sl), rfl, (Nats.nil _), (g3.trans g4), (Own.nil _)⟩
 ·replace e := (condF k5).symm.trans e
  refine Runs.step (AH.has.rd (g4.has b3) 0 rfl (kb _ _)) ?_
  refine Runs.new fun H6 b6 g6 => ?_
  refine Runs.step (AH.has.rd ((g4.trans g6).has b3) 1 rfl (kb _ _)) ?_
  refine Runs.new fun H7 b7 g7 => ?_
  obtain ⟨w8, z8, e⟩ := Option.bind_eq_some_iff.1 e
  obtain ⟨w9, z9, e⟩ := Option.bind_eq_some_iff.1 e
  obtain ⟨s10, H10, e10, n10, g10, o10⟩ := ke9 (Nats.of_has1 (g7.has b6) z8) (Nats.of_has1 b7 z9)
  refine Runs.step e10 ?_
  refine Runs.step rfl ?_
  refine Runs.step (seen (asSl_v _)) ?_
  refine Runs.step (seen (kb _ _)) ?_
  cases e
  cases good
  have G11 := (((g3.trans g4).trans g6).trans g7)
  have G12 := (G11.trans g10)
  exact Runs.ret ⟨s10, rfl, n10, G12, (o10.of_le G11)⟩
theorem k5t {s : kjx} {r : kgc} (it : Iter kr5 s r) : kvb r s := Iter.ind (fun s o e good => by
 cases s with
 | fn a1 a2 => exact @k5v _ _ a1 a2 e good
 | no => exact True.intro
 ) it
theorem kbao {h : AH} {a1 : Int} {a2 : Int}  {r : kgc} (q : runP kr5 (.fn a1 a2) = some r) : Runs (go (.fn F.kk0 [.agg [.int .u64 a1, .int .u64 a2]]) h) (ksd h r) := k5t (kbn q)
inductive kji
 | fn (a1 : Int) (a2 : Int)
 | no
abbrev kgh := List Nat × Int
noncomputable def knd (a1 : Int) (a2 : Int) : Option (kji ⊕ kgh) :=
 cond (!decide (((keyF a1 a2)) = 0)) (some (.inr ([], ((keyF a1 a2))))) ((u64P a1).bind fun p6 => (u64P a2).bind fun p7 => some (.inr ((mulN (digs B p6) (digs B p7)).1, ((mulN (digs B p6) (digs B p7)).2))))
noncomputable def krw : kji → Option (kji ⊕ kgh)
 | .fn a1 a2 => knd a1 a2
 | .no => none
@[reducible] def kue (h0 : AH) (r : kgh) (v : AV) (h' : AH) : Prop := ∃ s1 : Sl, v = .tup [s1.v, .int .i64 r.2] ∧ Nats h' s1 r.1 ∧ Grow h0 h' ∧ Own h0 s1
def ktn (r : kgh) : kji → Prop
 | .fn a1 a2 => ∀ {h : AH}, Runs (go (.fn F.kms [.agg [.int .u64 a1, .int .u64 a2]]) h) (kue h r)
 | .no => True
theorem kbb3 {r : kgh} {o : kji ⊕ kgh} {a1 : Int} {a2 : Int} (e : knd a1 a2 = some o) (good : GoodS (ktn r) r o) : ktn r (.fn a1 a2) := by
 intro h
 rw [k6e]
 unfold knd at e
 refine Runs.new fun H3 b3 g3 => ?_
 refine Runs.step (AH.has.rd b3 0 rfl (kb _ _)) ?_
 refine Runs.step (AH.has.rd b3 1 rfl (kb _ _)) ?_
 obtain ⟨_, H4, e4, rfl, g4⟩ := k46 a1 a2
 refine Runs.step e4 ?_
 refine Runs.step (seen (kb _ _)) ?_
 refine Runs.cond (fun k5 => ?_) (fun k5 => ?_)
 ·replace e := (condT k5).symm.trans e
  cases e
  cases good
  exact Runs.ret ⟨(⟨none, 0, .is 0⟩ : Sl), rfl, (Nats.nil _), (g3.trans g4), (Own.nil _)⟩
 ·replace e := (condF k5).symm.trans e
  refine Runs.step (AH.has.rd (g4.has b3) 0 rfl (kb _ _)) ?_
  refine Runs.step (AH.has.rd (g4.has b3) 1 rfl (kb _ _)) ?_
  obtain ⟨p6, q6, e⟩ := Option.bind_eq_some_iff.1 e
  obtain ⟨s6, H6, e6, n6, g6, o6⟩ := kcv q6
  refine Runs.step e6 ?_
  refine Runs.step (seen (asSl_v _)) ?_
  refine Runs.when (g6.same (g4.has b3) 1 1) ?_
  obtain ⟨p7, q7, e⟩ := Option.bind_eq_some_iff.1 e
  obtain ⟨s7, H7, e7, n7, g7, o7⟩ := kcv q7
  refine Runs.step e7 ?_
  refine Runs.step (seen (asSl_v _)) ?_
  obtain ⟨s8, H8, e8, n8, g8, o8⟩ := khn (n6.grow g7) n7
  refine Runs.step e8 ?_
  refine Runs.step rfl ?_
  refine Runs.step (seen (asSl_v _)) ?_
  refine Runs.step (seen (kb _ _)) ?_
  cases e
  cases good
  have G9 := (((g3.trans g4).trans g6).trans g7)
  have G10 := (G9.trans g8)
  exact Runs.ret ⟨s8, rfl, n8, G10, (o8.of_le G9)⟩
theorem k7b {s : kji} {r : kgh} (it : Iter krw s r) : ktn r s := Iter.ind (fun s o e good => by
 cases s with
 | fn a1 a2 => exact @kbb3 _ _ a1 a2 e good
 | no => exact True.intro
 ) it
theorem k7t {h : AH} {a1 : Int} {a2 : Int}  {r : kgh} (q : runP krw (.fn a1 a2) = some r) : Runs (go (.fn F.kms [.agg [.int .u64 a1, .int .u64 a2]]) h) (kue h r) := k7b (kbn q)
end Go.Ab

/- squeezed -/
set_option linter.unusedVariables false
set_option linter.unusedSimpArgs false
set_option maxRecDepth 10000
namespace Go.Ab
open Go.Proofs Go.Num
noncomputable def pubF (a b : Int) : List Nat × Int := cond (badF a b) ([], 9) (digs B (a.toNat * b.toNat), 0)
theorem koj {a b : Int} (h : badF a b = false) : ∃ p q : Nat, a = (p : Int) ∧ b = (q : Int) ∧ 128 ≤ p ∧ p < 1099511627776 ∧ leastN p = p ∧ 128 ≤ q ∧ q < 1099511627776 ∧ leastN q = q ∧ p ≠ q ∧ bl p = bl q ∧ Nat.gcd (p * q) ((p - 1) * (q - 1)) = 1 := by
 unfold badF at h
 rw [Bool.or_eq_false_iff, Bool.or_eq_false_iff, Bool.or_eq_false_iff, Bool.or_eq_false_iff] at h
 obtain ⟨ha, hb, hne, hl, hg⟩ := h
 obtain ⟨p, rfl, p1, p2, p3⟩ := kja ha
 obtain ⟨q, rfl, q1, q2, q3⟩ := kja hb
 refine ⟨p, q, rfl, rfl, p1, p2, p3, q1, q2, q3, ?_, ?_, ?_⟩
 ·intro e
  subst e
  simp at hne
 ·simpa using hl
 ·simpa using hg
theorem kym {p q : Nat} (hp : 128 ≤ p) (hp2 : p < 1099511627776) (hq : 128 ≤ q) (hq2 : q < 1099511627776) : mulN [p] [q] = (digs B (p * q), 0) := by
 have b40 := B40
 rw [← kb9 (x := p) (by omega) (by omega), ← kb9 (x := q) (by omega) (by omega), kdt (kdk hp2) (kdk hq2)]
theorem kbad (a b : Int) : Iter kr5 (.fn a b) (pubF a b) := by
 refine .done ?_
 show km0 a b = _
 unfold km0 keyF pubF
 cases hb : badF a b
 ·obtain ⟨p, q, rfl, rfl, p1, p2, -, q1, q2, -, -, -, -⟩ := koj hb
  have b40 := B40
  rw [cond_false, condF (show (!decide ((0 : Int) = 0)) = false from rfl), u64P_B (by omega), Option.bind_some, u64P_B (by omega), Option.bind_some, kym p1 p2 q1 q2]
  rfl
 ·rfl
theorem kbgp (a b : Int) : Iter krw (.fn a b) (pubF a b) := by
 refine .done ?_
 show knd a b = _
 unfold knd keyF pubF
 cases hb : badF a b
 ·obtain ⟨p, q, rfl, rfl, p1, p2, -, q1, q2, -, -, -, -⟩ := koj hb
  have b40 := B40
  rw [cond_false, condF (show (!decide ((0 : Int) = 0)) = false from rfl), u64P_B (by omega), Option.bind_some, u64P_B (by omega), Option.bind_some, kb9 (by omega) (by omega), kb9 (by omega) (by omega), kym p1 p2 q1 q2]
  rfl
 ·rfl
theorem k8j {h : AH} (a b : Int) : Runs (go (.fn F.kk0 [.agg [.int .u64 a, .int .u64 b]]) h) (ksd h (pubF a b)) := kbao (kbg (kbad a b))
theorem k3w {h : AH} (a b : Int) : Runs (go (.fn F.kms [.agg [.int .u64 a, .int .u64 b]]) h) (kue h (pubF a b)) := k7t (kbg (kbgp a b))
theorem k6a {h : AH} {x : AV} (a : ArgV Pg h T.kdz x) : ∃ m n : Int, x = .agg [.int .u64 m, .int .u64 n] := by
 unfold ArgV at a
 rw [k0y] at a
 obtain ⟨cs, rfl, t⟩ := a
 obtain ⟨hl, hf⟩ := t.struct k0y
 rw [kbh0] at hl
 match cs, hl with
 | [x0, x1], _ =>
  simp [kh0] at hf
  obtain ⟨h0, h1⟩ := hf
  obtain ⟨m, e0, _⟩ := h0.int kss
  obtain ⟨n, e1, _⟩ := h1.int kss
  cases e0; cases e1
  exact ⟨m, n, rfl⟩
end Go.Ab

/- squeezed -/
set_option linter.unusedVariables false
set_option linter.unusedSimpArgs false
set_option maxRecDepth 10000
namespace Go.Ab
open Go.Proofs Go.Num
end Go.Ab

/- squeezed -/
set_option linter.unusedVariables false
set_option linter.unusedSimpArgs false
set_option maxRecDepth 10000
namespace Go.Ab
open Go.Proofs Go.Num
end Go.Ab

/- squeezed -/
set_option linter.unusedVariables false
set_option linter.unusedSimpArgs false
set_option maxRecDepth 10000
namespace Go.Ab
open Go.Proofs Go.Num
def RingAt (h : AH) (j N : Nat) : Prop := ∃ (v : Nat) (s0 s2 s3 : Sl), RingOk N (digs B N).length v ∧ h.has j [s0.v, .int .u64 (v : Int), s2.v, s3.v] T.kcf ∧ Nats h s0 (digs B N) ∧ Nats h s2 (form N (digs B N).length 1) ∧
 Nats h s3 (digs B (2 ^ (64 * (digs B N).length) * 2 ^ (64 * (digs B N).length) % N))
theorem RingAt.grow {h h' : AH} {j N : Nat} (r : RingAt h j N) (g : Grow h h') : RingAt h' j N := by
 obtain ⟨v, s0, s2, s3, a, b, c, d, e⟩ := r
 exact ⟨v, s0, s2, s3, a, g.has b, c.grow g, d.grow g, e.grow g⟩
theorem kbd0 {h : AH} {s : Sl} {N : Nat} (n : Nats h s (digs B N)) (h8 : N < B ^ 8) (h1 : 1 < N) (ho : N % 2 = 1) : Runs (go (.fn F.kdo [s.v]) h) fun w h' => ∃ j, w = .tup [.ptr (some (.new j 0)), .int .i64 0] ∧ RingAt h' j N ∧ Grow h h' := by
 have hn : num B (digs B N) = N := kf B2 _
 have l8 : (digs B N).length ≤ 8 := (kp B2 _ 8).2 h8
 obtain ⟨_, h2, e2, j, v, s0, s2, s3, rfl, v1, v2, b, m0, m2, m3, g2⟩ := k1e n (kj (Nat.lt_of_lt_of_le h8 (Nat.pow_le_pow_right (by decide) (by decide)))) (fun e => by rw [List.length_eq_zero_iff] at e; have := (keu B2).1 e; omega) l8 (by rw [hn]; exact ho) (by rw [hn]; exact h1)
 refine ⟨_, h2, e2, j, rfl, ⟨v, s0, s2, s3, ?_, b, m0, ?_, ?_⟩, g2⟩
 ·rw [hn] at v2
  exact ⟨by omega, by have := num_lt B1 (ku B2 N); rwa [hn] at this, h1, ho, v1, v2, rfl⟩
 ·rw [hn] at m2
  unfold form
  rw [Nat.one_mul, ← B_pow2]
  rwa [Nat.one_mul] at m2
 ·rw [hn] at m3
  rw [← Nat.pow_add, ← Nat.two_mul, show 2 * (64 * (digs B N).length) = 64 * (2 * (digs B N).length) from by omega, ← B_pow2]
  exact m3
theorem kbgx {h : AH} {j N A : Nat} (r : RingAt h j N) (hA : A < N) {t u : Sl} {es : List Nat} (n : Nats h t (digs B A)) (m : Nats h u es) (re : rt es = true) (h8 : es.length ≤ 8) :
  Runs (go (.fn F.kby [.ptr (some (.new j 0)), t.v, u.v]) h) fun w h' => ∃ s' : Sl, w = .tup [s'.v, .int .i64 0] ∧ Nats h' s' (digs B (A ^ num B es % N)) ∧ Grow h h' ∧ Own h s' := by
 obtain ⟨v, s0, s2, s3, a, b, c, d, e⟩ := r
 obtain ⟨_, h3, e3, s4, rfl, n4, g4, o4⟩ := ky2 b c d e n m (k02 a hA m.lt re h8)
 exact ⟨_, h3, e3, s4, rfl, n4, g4, o4⟩
theorem kih {h : AH} {i x : Nat} {e : TypeId} (b : h.has i [.int .u64 (x : Int)] e) (hx : x < B) : Nats h (⟨some (.new i 0), 1, .is 1⟩ : Sl) [x] := Nats.of_has (xs := [x]) b (by intro y hy; rw [List.mem_singleton.1 hy]; exact hx) (by simp)
theorem kye {p : Nat} (hp : 0 < p) (hp2 : p < 1099511627776) : kw [p] = digs B (p * p) := by
 unfold kw
 rw [← kb9 (x := p) hp (Nat.lt_trans hp2 B40), kdt (kdk hp2) (kdk hp2)]
theorem sq_lt {p : Nat} (hp2 : p < 1099511627776) : p * p < B ^ 2 := Nat.lt_of_lt_of_le (Nat.mul_lt_mul'' hp2 hp2) (by decide)
theorem up64 {a : Nat} (h : a < B ^ 2) : a < B ^ 64 := Nat.lt_of_lt_of_le h (Nat.pow_le_pow_right (by decide) (by decide))
theorem km5 {xs : List Nat} (lx : ∀ x ∈ xs, x < B) (hx : rt xs = true) {m : Nat} (h0 : 0 < m) (hm : m < B ^ 64) : divN xs (digs B m) = (digs B (num B xs / m), digs B (num B xs % m), 0) := by
 unfold divN
 rw [if_pos ⟨hx, kj hm⟩, if_neg (fun e => by have := (keu B2).1 e; omega), kf B2]
section
variable {h : AH} {p i2 i3 i4 j : Nat} {s : Sl}
structure SayAt (h : AH) (p i2 i3 i4 j : Nat) (s : Sl) : Prop where
 b2 : h.has i2 [s.v] T.kq
 n2 : Nats h s [p]
 b3 : h.has i3 [.ptr (some (.new j 0))] T.koh
 ring : RingAt h j (p * p)
 b4 : h.has i4 [.int .u64 (p : Int)] T.kc
theorem SayAt.grow {h' : AH} (a : SayAt h p i2 i3 i4 j s) (g : Grow h h') : SayAt h' p i2 i3 i4 j s := ⟨g.has a.b2, a.n2.grow g, g.has a.b3, a.ring.grow g, g.has a.b4⟩
theorem say_is (a : SayAt h p i2 i3 i4 j s) {q : Nat} (k : KeyOk p q) (p1 : 128 ≤ p) (p2 : p < 1099511627776) {t : Sl} {xs : List Nat} (n : Nats h t xs) (hx : rt xs = true) (nd : ¬ p ∣ num B xs) :
  Runs (go (.fn F.kpn [t.v, .ptr (some (.new i2 0)), .ptr (some (.new i3 0)), .ptr (some (.new i4 0))]) h) fun w h' => ∃ s' : Sl, w = s'.v ∧ Nats h' s' (digs B (sayP p (num B xs))) ∧ Grow h h' ∧ Own h s' := by
 have b40 := B40
 have hpp : 0 < p * p := Nat.mul_pos (by omega) (by omega)
 rw [k6z]
 refine Runs.step (a.b2.rd0 (f := AV.asSl) rfl (asSl_v _)) ?_
 obtain ⟨_, h1, e1, s1, rfl, n1, g1, o1⟩ := klv a.n2
 refine Runs.step e1 ?_
 refine Runs.step (seen (asSl_v _)) ?_
 rw [kye (by omega) p2] at n1
 obtain ⟨sa, sb, h2, e2, na, nb, g2, -, -⟩ := kfm (n.grow g1) n1
 rw [km5 n.lt hx hpp (up64 (sq_lt p2))] at e2 na nb
 have G2 := g1.trans g2
 refine Runs.step e2 ?_
 refine Runs.step rfl ?_
 refine Runs.step (seen (asSl_v _)) ?_
 refine Runs.step (seen (asSl_v _)) ?_
 refine Runs.step (seen (kb _ _)) ?_
 refine Runs.step ((G2.has a.b3).rd0 (f := AV.asPtr) rfl rfl) ?_
 refine Runs.step ((G2.has a.b4).rd0 (f := AV.asInt .u64) rfl (kb _ _)) ?_
 rw [kim (by omega) (by omega)]
 refine Runs.new fun h3 b3 g3 => ?_
 have ne : Nats h3 (⟨some (.new h2.blks.size 0), 1, .is 1⟩ : Sl) [p - 1] := kih b3 (by omega)
 have G3 := G2.trans g3
 obtain ⟨_, h4, e4, s4, rfl, n4, g4, -⟩ := kbgx (a.ring.grow G3) (Nat.mod_lt _ hpp) (nb.grow g3) ne (kpu (by omega) (by omega)) (by simp)
 refine Runs.step e4 ?_
 refine Runs.step rfl ?_
 refine Runs.step (seen (asSl_v _)) ?_
 refine Runs.step (seen (kb _ _)) ?_
 refine Runs.new fun h5 b5 g5 => ?_
 have n1' : Nats h5 (⟨some (.new h4.blks.size 0), 1, .is 1⟩ : Sl) [1] := kih b5 (by decide)
 obtain ⟨s6, h6, e6, n6, g6, -⟩ := klb (n4.grow g5) n1'
 obtain ⟨u1, u2, -⟩ := k.say nd
 have num1 : ∀ y : Nat, num B [y] = y := fun y => by simp [num]
 rw [num1, u1] at n6 e6
 generalize hy : sayP p (num B xs) = y at *
 have hu : 1 + p * y < B ^ 64 := by
  have : p * y < p * p := Nat.mul_lt_mul_of_pos_left u2 (by omega)
  have := sq_lt p2
  exact Nat.lt_of_lt_of_le (show 1 + p * y < B ^ 3 from by
   have : B ^ 2 + 1 < B ^ 3 := by decide
   omega) (Nat.pow_le_pow_right (by decide) (by decide))
 have es : subN (digs B (1 + p * y)) [1] = (digs B (p * y), 0) := by
  unfold subN
  rw [if_pos ⟨kj hu, by decide⟩, kf B2, num1, if_neg (by omega), Nat.add_sub_cancel_left]
 rw [es] at n6 e6
 refine Runs.step e6 ?_
 refine Runs.step rfl ?_
 refine Runs.step (seen (asSl_v _)) ?_
 refine Runs.step (seen (kb _ _)) ?_
 have G6 := ((G3.trans g4).trans g5).trans g6
 refine Runs.step ((G6.has a.b2).rd0 (f := AV.asSl) rfl (asSl_v _)) ?_
 have hpy : p * y < B ^ 64 := by omega
 have np := a.n2.grow G6
 rw [← kb9 (x := p) (by omega) (by omega)] at np
 obtain ⟨sc, sd, h7, e7, nc, nd', g7, oc, -⟩ := kfm n6 np
 rw [km5 n6.lt (kj hpy) (by omega) (Nat.lt_of_lt_of_le (show p < B from by omega) (by decide)), kf B2, Nat.mul_div_cancel_left _ (show 0 < p from by omega)] at e7 nc
 refine Runs.step e7 ?_
 refine Runs.step rfl ?_
 refine Runs.step (seen (asSl_v _)) ?_
 refine Runs.step (seen (asSl_v _)) ?_
 refine Runs.step (seen (kb _ _)) ?_
 exact Runs.ret ⟨sc, rfl, nc, G6.trans g7, oc.of_le G6⟩
end
end Go.Ab

/- squeezed -/
set_option linter.unusedVariables false
set_option linter.unusedSimpArgs false
set_option maxRecDepth 10000
namespace Go.Ab
open Go.Proofs Go.Num
theorem kdc (y : Nat) : num B [y] = y := by simp [num]
section
variable {p q : Nat} (k : KeyOk p q) (p1 : 128 ≤ p) (p2 : p < 1099511627776) (q2 : q < 1099511627776)
include k p1 p2 q2
omit k p1 in
theorem kbhl : kgv (digs B (p * q)) [1] = digs B (1 * (p * q) + 1) := by
 have h1 : p * q < B ^ 2 := Nat.lt_of_lt_of_le (Nat.mul_lt_mul'' p2 q2) (by decide)
 have h2 : 1 * (p * q) + 1 < B ^ 64 := by
  have : B ^ 2 + 1 < B ^ 64 := by decide
  omega
 unfold kgv
 rw [← kga, kdt (by decide) (Nat.lt_of_lt_of_le h1 (Nat.pow_le_pow_right (by decide) (by decide)))]
 unfold addN told
 rw [if_pos ⟨kj (by omega), kj (by decide)⟩, kf B2, kf B2]
 rw [if_pos h2]
theorem k0c {h : AH} {s t : Sl} {cs : List Nat} (nc : Nats h s cs) (nn : Nats h t (digs B (p * q))) (rc : rt cs = true) (co : Nat.Coprime (num B cs) (p * q)) {m : Nat} (d : Hid (p * q) ((p - 1) * (q - 1)) (num B cs) m) :
  Runs (go (.fn F.kp5 [s.v, t.v, .int .u64 (p : Int)]) h) fun w h' => ∃ s' : Sl, w = s'.v ∧ Nats h' s' (digs B (m % p)) ∧ Grow h h' ∧ Own h s' := by
 have b40 := B40
 have hpp : 1 < p * p := Nat.lt_of_lt_of_le (by decide) (Nat.mul_le_mul p1 p1)
 have odd : p % 2 = 1 := by
  rcases Nat.mod_two_eq_zero_or_one p with e | e
  ·rcases k.hp.2 2 (Nat.dvd_of_mod_eq_zero e) with h | h <;> omega
  ·exact e
 rw [k8e]
 refine Runs.new fun h4 b4 g4 => ?_
 refine Runs.step (b4.rd0 (f := AV.asInt .u64) rfl (kb _ _)) ?_
 refine Runs.new fun h6 b6 g6 => ?_
 refine Runs.new fun h7 b7 g7 => ?_
 have l4 : h.blks.size < h4.blks.size := b4.lt
 have l6 : h4.blks.size < h6.blks.size := b6.lt
 have l7 : h6.blks.size < h7.blks.size := b7.lt
 refine Runs.puts b7 rfl fun h8 b8 u8 => ?_
 have G7 := (g4.trans g6).trans g7
 have G8 : Grow h h8 := G7.updr (by omega) u8
 have c4 : h8.has h.blks.size [.int .u64 (p : Int)] T.kc := (g7.has (g6.has b4)).updr (by omega) u8
 have c6 : h8.has h4.blks.size [.int .u64 (p : Int)] T.kc := (g7.has b6).updr (by omega) u8
 have l8 : h7.blks.size ≤ h8.blks.size := u8.size
 generalize hs : (⟨some (.new h4.blks.size 0), 1, .is 1⟩ : Sl) = ps at *
 have np : Nats h8 ps [p] := by rw [← hs]; exact kih c6 (by omega)
 refine Runs.step (b8.rd0 (f := AV.asSl) rfl (asSl_v _)) ?_
 obtain ⟨_, h9, e9, s9, rfl, n9, g9, -⟩ := klv np
 refine Runs.step e9 ?_
 refine Runs.step (seen (asSl_v _)) ?_
 rw [kye (by omega) p2] at n9
 obtain ⟨_, h10, e10, j, rfl, r10, g10⟩ := kbd0 n9 (Nat.lt_of_lt_of_le (sq_lt p2) (by decide)) hpp (by rw [Nat.mul_mod, odd])
 refine Runs.step e10 ?_
 refine Runs.step rfl ?_
 refine Runs.step (seen rfl) ?_
 refine Runs.step (seen (kb _ _)) ?_
 refine Runs.new fun h11 b11 g11 => ?_
 have l11 : h10.blks.size < h11.blks.size := b11.lt
 have lA := g9.size
 have lB := g10.size
 have jlt : j < h10.blks.size := by
  obtain ⟨_, _, _, _, _, bb, _⟩ := r10
  exact bb.lt
 refine Runs.puts b11 rfl fun h12 b12 u12 => ?_
 have GG := (g9.trans g10).trans g11
 have d4 := (GG.has c4).updr (i := h10.blks.size) (by omega) u12
 have d6 := (GG.has c6).updr (i := h10.blks.size) (by omega) u12
 have d8 := (GG.has b8).updr (i := h10.blks.size) (by omega) u12
 have gU : Grow h10 h12 := g11.updr (Nat.le_refl _) u12
 have r12 : RingAt h12 j (p * p) := r10.grow gU
 have G12 : Grow h h12 := ((G8.trans g9).trans g10).trans gU
 have at12 : SayAt h12 p h6.blks.size h10.blks.size h.blks.size j ps := ⟨d8, by rw [← hs]; exact kih d6 (by omega), b12, r12, d4⟩
 refine Runs.step (d8.rd0 (f := AV.asSl) rfl (asSl_v _)) ?_
 refine Runs.new fun h13 b13 g13 => ?_
 refine Runs.when (g13.same d8 0 1) ?_
 obtain ⟨_, h14, e14, s14, rfl, n14, g14, -⟩ := k1m (nn.grow (G12.trans g13)) (kih b13 (x := 1) (by decide))
 refine Runs.step e14 ?_
 refine Runs.step (seen (asSl_v _)) ?_
 rw [kbhl p2 q2] at n14
 refine Runs.when (g14.same (g13.has d8) 0 1) ?_
 have sh64 : 1 * (p * q) + 1 < B ^ 64 := by
  have h1 : p * q < B ^ 2 := Nat.lt_of_lt_of_le (Nat.mul_lt_mul'' p2 q2) (by decide)
  have : B ^ 2 + 1 < B ^ 64 := by decide
  omega
 have nd1 : ¬ p ∣ num B (digs B (1 * (p * q) + 1)) := by
  rw [kf B2]
  intro hd
  have : p ∣ 1 := (Nat.dvd_add_right (Nat.dvd_trans (Nat.dvd_mul_right p q) (by rw [Nat.one_mul]; exact Nat.dvd_refl _))).1 hd
  have := Nat.le_of_dvd (by decide) this
  omega
 have at14 := at12.grow (g13.trans g14)
 obtain ⟨_, h15, e15, s15, rfl, n15, g15, -⟩ := say_is at14 k p1 p2 n14 (kj sh64) nd1
 refine Runs.step e15 ?_
 refine Runs.step (seen (asSl_v _)) ?_
 rw [kf B2] at n15
 refine Runs.when (g15.same at14.b2 0 1) ?_
 have at15 := at14.grow g15
 have sayB : ∀ {x : Nat}, ¬ p ∣ x → sayP p x < p := fun h => (k.say h).2.1
 rw [kf B2] at nd1
 have hA := sayB nd1
 have np15 := at15.n2
 obtain ⟨_, h16, e16, s16, rfl, n16, g16, -⟩ := kya n15 np15
 have sp := (klf n15.lt np15.lt).2.2.1 ⟨kj (Nat.lt_trans hA (Nat.lt_of_lt_of_le (show p < B from by omega) (by decide))), kpu (by omega) (by omega), by rw [kdc]; omega⟩
 rw [kdc, kf B2] at sp
 obtain ⟨w, w1, w2, w3⟩ := sp.2 (by
  rw [Nat.gcd_comm, ← Nat.gcd_rec]
  exact k.say_unit)
 rw [w2] at e16 n16
 refine Runs.step e16 ?_
 refine Runs.step rfl ?_
 refine Runs.step (seen (asSl_v _)) ?_
 refine Runs.step (seen (kb _ _)) ?_
 have at16 := at15.grow g16
 have ndc : ¬ p ∣ num B cs := k.unit co
 have G16 := ((((G12.trans g13).trans g14).trans g15).trans g16)
 obtain ⟨_, h17, e17, s17, rfl, n17, g17, -⟩ := say_is at16 k p1 p2 (nc.grow G16) rc ndc
 refine Runs.step e17 ?_
 refine Runs.step (seen (asSl_v _)) ?_
 obtain ⟨s18, h18, e18, n18, g18, -⟩ := ke9 n17 (n16.grow g17)
 have hC := sayB ndc
 rw [kdt (kdk (by omega)) (kdk (by omega))] at e18 n18
 refine Runs.step e18 ?_
 refine Runs.step rfl ?_
 refine Runs.step (seen (asSl_v _)) ?_
 refine Runs.step (seen (kb _ _)) ?_
 have at18 := (at16.grow g17).grow g18
 refine Runs.step (at18.b2.rd0 (f := AV.asSl) rfl (asSl_v _)) ?_
 have np18 := at18.n2
 rw [← kb9 (x := p) (by omega) (by omega)] at np18
 obtain ⟨sx, sy, h19, e19, nx, ny, g19, ox, oy⟩ := kfm n18 np18
 have hprod : sayP p (num B cs) * w < B ^ 64 := Nat.lt_of_lt_of_le (Nat.mul_lt_mul'' (show _ < 1099511627776 from by omega) (show w < 1099511627776 from by omega)) (by decide)
 rw [km5 n18.lt (kj hprod) (by omega) (Nat.lt_of_lt_of_le (show p < B from by omega) (by decide)), kf B2] at e19 ny
 rw [k.found co d (i := w) (by
  show _ % p = 1 % p
  rw [Nat.mul_comm, w3, Nat.mod_eq_of_lt (show 1 < p from by omega)])] at e19 ny
 refine Runs.step e19 ?_
 refine Runs.step rfl ?_
 refine Runs.step (seen (asSl_v _)) ?_
 refine Runs.step (seen (asSl_v _)) ?_
 refine Runs.step (seen (kb _ _)) ?_
 have G18 := (G16.trans g17).trans g18
 exact Runs.ret ⟨sy, rfl, ny, G18.trans g19, oy.of_le G18⟩
end
end Go.Ab

/- squeezed -/
set_option linter.unusedVariables false
set_option linter.unusedSimpArgs false
set_option maxRecDepth 10000
namespace Go.Ab
open Go.Proofs Go.Num
noncomputable def hidOf (p q c : Nat) : Nat := by
 classical
 exact if h : ∃ m, Hid (p * q) ((p - 1) * (q - 1)) c m then h.choose else 0
theorem kzb {p q c : Nat} (k : KeyOk p q) (h : Nat.Coprime c (p * q)) : Hid (p * q) ((p - 1) * (q - 1)) c (hidOf p q c) := by
 unfold hidOf
 have hx := k.hid h
 rw [dif_pos hx]
 exact hx.choose_spec
theorem kwf {p q : Nat} (p1 : 128 ≤ p) (hp : leastN p = p) (q1 : 128 ≤ q) (hq : leastN q = q) (ne : p ≠ q) (hg : Nat.gcd (p * q) ((p - 1) * (q - 1)) = 1) : KeyOk p q :=
 ⟨(kwd (by omega)).1 hp, (kwd (by omega)).1 hq, ne, hg⟩
theorem kbid {cs ns bs : List Nat} (lc : ∀ x ∈ cs, x < B) (hn : rt ns = true) (ln : ∀ x ∈ ns, x < B) (hb : rt bs = true) : kbc cs ns bs = true ↔ rt cs = true ∧ cs ≠ [] ∧ num B cs < num B bs ∧ Nat.gcd (num B cs) (num B ns) = 1 := by
 unfold kbc
 cases hc : rt cs with
 | false => simp
 | true =>
  rw [Bool.not_true, cond_false]
  by_cases h0 : (List.length cs : Int) = 0
  ·rw [decide_eq_true h0, cond_true]
   have : cs = [] := List.length_eq_zero_iff.1 (by omega)
   simp [this]
  ·rw [decide_eq_false h0, cond_false, kmt hc hb]
   have hne : cs ≠ [] := fun e => h0 (by simp [e])
   have hg : Nat.gcd (num B cs) (num B ns) < B ^ 64 := by
    have h1 := kjo lc hc
    have h2 : 0 < num B cs := kuy B1 (rt_iff.1 hc).2 hne
    exact Nat.lt_of_le_of_lt (Nat.gcd_le_left _ h2) h1
   have e1 : decide (cmpN ((gcdN cs ns).1) [1] = 0) = decide (Nat.gcd (num B cs) (num B ns) = 1) := by
    unfold gcdN
    rw [if_pos ⟨hc, hn⟩, kz1 hg]
   rw [e1]
   by_cases hl : num B cs < num B bs
   ·have : cmp (num B cs) (num B bs) < 0 := cmp_lt.2 hl
    rw [decide_eq_false (show ¬ cmp (num B cs) (num B bs) ≥ 0 from by omega), cond_false]
    simp [hne, hl]
   ·have : ¬ cmp (num B cs) (num B bs) < 0 := fun h => hl (cmp_lt.1 h)
    rw [decide_eq_true (show cmp (num B cs) (num B bs) ≥ 0 from by omega), cond_true]
    simp [hl]
theorem kz3 {N : Nat} (h : N < B ^ 30) : kw (digs B N) = digs B (N * N) := by
 unfold kw
 rw [kdt h h]
theorem key_lt {p q : Nat} (p2 : p < 1099511627776) (q2 : q < 1099511627776) : p * q < B ^ 2 := Nat.lt_of_lt_of_le (Nat.mul_lt_mul'' p2 q2) (by decide)
theorem kzo {p q : Nat} (p2 : p < 1099511627776) (q2 : q < 1099511627776) : p * q < B ^ 30 := Nat.lt_of_lt_of_le (key_lt p2 q2) (Nat.pow_le_pow_right (by decide) (by decide))
theorem key_sq {p q : Nat} (p2 : p < 1099511627776) (q2 : q < 1099511627776) : p * q * (p * q) < B ^ 4 := Nat.lt_of_lt_of_le (Nat.mul_lt_mul'' (key_lt p2 q2) (key_lt p2 q2)) (by decide)
theorem k04 {p q : Nat} (p2 : p < 1099511627776) (q2 : q < 1099511627776) {cs : List Nat} (lc : ∀ x ∈ cs, x < B) :
  kcp (digs B (p * q)) cs = true ↔ k0 (digs B (p * q)) = true ∧ rt cs = true ∧ cs ≠ [] ∧ num B cs < p * q * (p * q) ∧ Nat.Coprime (num B cs) (p * q) := by
 unfold kcp
 rw [kz3 (kzo p2 q2)]
 cases k0 (digs B (p * q)) with
 | false => simp
 | true =>
  rw [cond_true, kbid lc (kj (up64 (key_lt p2 q2))) (ku B2 _) (kj (Nat.lt_of_lt_of_le (key_sq p2 q2) (Nat.pow_le_pow_right (by decide) (by decide)))), kf B2, kf B2]
  simp [Nat.Coprime]
noncomputable def decF (a b : Int) (cs : List Nat) : List Nat × Int := cond (badF a b) ([], 9) (cond (!kcp (digs B (a.toNat * b.toNat)) cs) ([], 11) (digs B (hidOf a.toNat b.toNat (num B cs)), 0))
@[reducible] def kbgi (h0 : AH) (r : List Nat × Int) (v : AV) (h' : AH) : Prop := ∃ s1 : Sl, v = .tup [s1.v, .int .i64 r.2] ∧ Nats h' s1 r.1 ∧ Grow h0 h' ∧ Own h0 s1
theorem kbdc {p q m : Nat} (k : KeyOk p q) (p1 : 128 ≤ p) (p2 : p < 1099511627776) (q1 : 128 ≤ q) (q2 : q < 1099511627776) (hm : m < p * q) : crtN (digs B (m % p)) [p] (digs B (m % q)) [q] = (digs B m, 0) := by
 have b40 := B40
 have lp : m % p < B := Nat.lt_trans (Nat.mod_lt _ (by omega)) (by omega)
 have lq : m % q < B := Nat.lt_trans (Nat.mod_lt _ (by omega)) (by omega)
 have one : ∀ {x : Nat}, x < B → ∀ y ∈ [x], y < B := fun h y hy => by rw [List.mem_singleton.1 hy]; exact h
 obtain ⟨-, -, -, s2, s3⟩ := kxu (x1 := digs B (m % p)) (x2 := [p]) (x3 := digs B (m % q)) (x4 := [q]) (ku B2 _) (one (by omega)) (ku B2 _) (one (by omega))
 have l1 : ∀ {x : Nat}, x < B → (digs B x).length ≤ 8 := fun h => (kp B2 _ 8).2 (Nat.lt_of_lt_of_le h (by decide))
 have r1 : ∀ {x : Nat}, x < B → rt (digs B x) = true := fun h => kj (Nat.lt_of_lt_of_le h (by decide))
 have ok : CrtOk (digs B (m % p)) [p] (digs B (m % q)) [q] := by
  refine ⟨⟨r1 lp, l1 lp⟩, ⟨kpu (by omega) (by omega), by simp⟩, ⟨r1 lq, l1 lq⟩, ⟨kpu (by omega) (by omega), by simp⟩, ?_, ?_, ?_, ?_⟩
  ·rw [kdc]; omega
  ·rw [kdc]; omega
  ·rw [kdc, kf B2]; exact Nat.mod_lt _ (by omega)
  ·rw [kdc, kf B2]; exact Nat.mod_lt _ (by omega)
 have cop : Nat.gcd q p = 1 := by rw [Nat.gcd_comm]; exact k.copq
 obtain ⟨X, e1, -, e2, e3, e4⟩ := s3 (s2 ok (by rw [kdc, kdc, Nat.gcd_comm, ← Nat.gcd_rec]; exact cop))
 rw [kdc, kdc] at e2
 rw [kdc, kf B2] at e3
 rw [kdc, kf B2] at e4
 have : Cg (p * q) X m := Cg.both k.copq e3 e4
 rw [e1, this.eq e2 hm]
theorem kbhh {h : AH} {s : Sl} {cs : List Nat} (n : Nats h s cs) (a b : Int) : Runs (go (.fn F.ku0 [.agg [.int .u64 a, .int .u64 b], s.v]) h) (kbgi h (decF a b cs)) := by
 rw [k3u]
 refine Runs.new fun h4 b4 g4 => ?_
 refine Runs.step (b4.rd 0 (f := AV.asInt .u64) rfl (kb _ _)) ?_
 refine Runs.step (b4.rd 1 (f := AV.asInt .u64) rfl (kb _ _)) ?_
 obtain ⟨_, h7, e7, s7, rfl, n7, g7, o7⟩ := k8j (h := h4) a b
 refine Runs.step e7 ?_
 refine Runs.step rfl ?_
 refine Runs.step (seen (asSl_v _)) ?_
 refine Runs.step (seen (kb _ _)) ?_
 have nilN : ∀ h : AH, Nats h (⟨none, 0, .is 0⟩ : Sl) [] := fun h => Nats.nil h
 cases hb : badF a b with
 | true =>
  have e : pubF a b = ([], 9) := by unfold pubF; rw [hb]; rfl
  rw [e]
  refine Runs.ifT rfl ?_
  have dec : decF a b cs = ([], 9) := by unfold decF; rw [hb]; rfl
  rw [dec]
  exact Runs.ret ⟨(⟨none, 0, .is 0⟩ : Sl), rfl, nilN _, g4.trans g7, Own.nil _⟩
 | false =>
  have e : pubF a b = (digs B (a.toNat * b.toNat), 0) := by unfold pubF; rw [hb]; rfl
  rw [e] at n7 ⊢
  refine Runs.ifF rfl ?_
  obtain ⟨p, q, rfl, rfl, p1, p2, p3, q1, q2, q3, ne, -, hg⟩ := koj hb
  rw [Int.toNat_natCast, Int.toNat_natCast] at n7
  have k := kwf p1 p3 q1 q3 ne hg
  obtain ⟨_, h11, e11, rfl, g11⟩ := kbb0 n7 (n.grow (g4.trans g7))
  refine Runs.step e11 ?_
  refine Runs.step (seen rfl) ?_
  have dec : decF (p : Int) (q : Int) cs = cond (!kcp (digs B (p * q)) cs) ([], 11) (digs B (hidOf p q (num B cs)), 0) := by
   unfold decF
   rw [hb, cond_false, Int.toNat_natCast, Int.toNat_natCast]
  rw [dec]
  cases hv : kcp (digs B (p * q)) cs with
  | false =>
   refine Runs.ifT rfl ?_
   exact Runs.ret ⟨(⟨none, 0, .is 0⟩ : Sl), rfl, nilN _, (g4.trans g7).trans g11, Own.nil _⟩
  | true =>
   refine Runs.ifF rfl ?_
   obtain ⟨-, rc, -, -, co⟩ := (k04 p2 q2 n.lt).1 hv
   have hm := kzb k co
   have co' : Nat.Coprime (num B cs) (q * p) := by rw [Nat.mul_comm]; exact co
   have hm' : Hid (q * p) ((q - 1) * (p - 1)) (num B cs) (hidOf p q (num B cs)) := by rw [Nat.mul_comm q p, Nat.mul_comm (q - 1)]; exact hm
   have G11 := (g7.trans g11)
   have c4 := G11.has b4
   refine Runs.step (c4.rd 0 (f := AV.asInt .u64) rfl (kb _ _)) ?_
   refine Runs.step (c4.rd 1 (f := AV.asInt .u64) rfl (kb _ _)) ?_
   refine Runs.new fun h15 b15 g15 => Runs.new fun h16 b16 g16 => ?_
   have d4 := g16.has (g15.has c4)
   have d15 := g16.has b15
   refine Runs.step (d4.rd 0 (f := AV.asInt .u64) rfl (kb _ _)) ?_
   refine Runs.step (d4.rd 0 (f := AV.asInt .u64) rfl (kb _ _)) ?_
   refine Runs.step (d4.rd 1 (f := AV.asInt .u64) rfl (kb _ _)) ?_
   refine Runs.step (d4.rd 1 (f := AV.asInt .u64) rfl (kb _ _)) ?_
   have G16 : Grow h h16 := ((g4.trans G11).trans g15).trans g16
   have nn : Nats h16 s7 (digs B (p * q)) := n7.grow ((g11.trans g15).trans g16)
   obtain ⟨_, h21, e21, s21, rfl, n21, g21, -⟩ := k0c k p1 p2 q2 (n.grow G16) nn rc co hm
   refine Runs.step e21 ?_
   refine Runs.step (seen (asSl_v _)) ?_
   refine Runs.when (g21.same d4 1 1) (Runs.when (g21.same d4 1 1) (Runs.when (g21.same d4 0 1) (Runs.when (g21.same b16 0 0) (Runs.when (g21.same d15 0 0) ?_))))
   have nn' := nn.grow g21
   rw [Nat.mul_comm p q] at nn'
   obtain ⟨_, h23, e23, s23, rfl, n23, g23, -⟩ := k0c k.swap q1 q2 p2 (n.grow (G16.trans g21)) nn' rc co' hm'
   refine Runs.step e23 ?_
   refine Runs.step (seen (asSl_v _)) ?_
   refine Runs.when (g23.same (g21.has d4) 1 1) (Runs.when (g23.same (g21.has d4) 0 1) (Runs.when (g23.same (g21.has b16) 0 0) (Runs.when (g23.same (g21.has d15) 0 0) ?_)))
   have b40 := B40
   obtain ⟨_, h25, e25, s25, rfl, n25, g25, o25⟩ := kbaz (n21.grow g23) (kih (g23.has (g21.has d15)) (by omega)) n23 (kih (g23.has (g21.has b16)) (by omega))
   rw [kbdc k p1 p2 q1 q2 hm.1] at e25 n25
   refine Runs.step e25 ?_
   refine Runs.step rfl ?_
   refine Runs.step (seen (asSl_v _)) ?_
   refine Runs.step (seen (kb _ _)) ?_
   refine Runs.when rfl ?_
   have G23 := (G16.trans g21).trans g23
   exact Runs.ret ⟨s25, rfl, n25, G23.trans g25, o25.of_le G23⟩
end Go.Ab

/- squeezed -/
set_option linter.unusedVariables false
set_option linter.unusedSimpArgs false
set_option maxRecDepth 10000
namespace Go.Ab
open Go.Proofs Go.Num
theorem kxt {h : AH} {s t : Sl} {xs ys : List Nat} (n : Nats h s xs) (m : Nats h t ys) (hl : xs.length = ys.length) : ∀ (k i : Nat), i + k = xs.length →
  go (.pt F.khp Td.kpb [(0, s.v), (1, t.v), (5, .int .i64 (i : Int))]) h = some (.bool (decide (xs.drop i = ys.drop i)), h)
 | 0, i, hi => by
  rw [kxs, condF (by rw [decide_eq_false_iff_not, n.len]; omega), List.drop_of_length_le (by omega), List.drop_of_length_le (by omega)]
  rfl
 | k + 1, i, hi => by
  have hx : i < xs.length := by omega
  have hy : i < ys.length := by omega
  obtain ⟨r1, a1, a2⟩ := n.at hx
  obtain ⟨r2, b1, b2⟩ := m.at hy
  have hs := n.short
  rw [kxs, condT (by rw [decide_eq_true_eq, n.len]; omega), a1, Option.bind_some, rdc a2 (kb _ _), Option.bind_some, b1, Option.bind_some, rdc b2 (kb _ _), Option.bind_some]
  have ex := List.drop_eq_getElem_cons hx
  have ey := List.drop_eq_getElem_cons hy
  by_cases e : xs[i] = ys[i]
  ·rw [condF (by rw [e]; simp), ks (by omega), kxt n m hl k (i + 1) (by omega)]
   congr 3
   rw [decide_eq_decide, ex, ey, List.cons.injEq]
   exact ⟨fun h => ⟨e, h⟩, fun h => h.2⟩
  ·rw [condT (by rw [decide_eq_false (show ¬ ((xs[i] : Nat) : Int) = ((ys[i] : Nat) : Int) from by omega)]; rfl)]
   congr 3
   symm
   rw [decide_eq_false_iff_not, ex, ey, List.cons.injEq]
   exact fun h => e h.1
theorem kbhd {h : AH} {s t : Sl} {xs ys : List Nat} (n : Nats h s xs) (m : Nats h t ys) : go (.fn F.khp [s.v, t.v]) h = some (.bool (decide (xs = ys)), h) := by
 rw [k7l, n.len, m.len]
 by_cases hl : xs.length = ys.length
 ·rw [condF (by rw [hl]; simp)]
  have := kxt n m hl xs.length 0 (by omega)
  simpa using this
 ·rw [condT (by rw [decide_eq_false (show ¬ ((xs.length : Nat) : Int) = ((ys.length : Nat) : Int) from by omega)]; rfl), decide_eq_false (fun e => hl (by rw [e]))]
end Go.Ab

/- squeezed -/
set_option linter.unusedVariables false
set_option linter.unusedSimpArgs false
set_option maxRecDepth 10000
namespace Go.Ab
open Go.Proofs Go.Num
end Go.Ab

/- squeezed -/
set_option linter.unusedVariables false
set_option linter.unusedSimpArgs false
set_option maxRecDepth 10000
namespace Go.Ab
open Go.Proofs Go.Num
theorem k42 {X Y : Nat} (hX : X < B ^ 64) (hY : Y < B ^ 64) (h0 : 0 < Y) : (divN (digs B X) (digs B Y)).2.1 = digs B (X % Y) := by
 rw [km5 (ku B2 X) (kj hX) h0 hY, kf B2]
end Go.Ab

/- squeezed -/
set_option linter.unusedVariables false
set_option linter.unusedSimpArgs false
set_option maxRecDepth 10000
namespace Go.Ab
open Go.Proofs Go.Num
inductive kjw
 | fn (a1 : Int) (a2 : Int) (x3 : List Nat)
 | no
abbrev kg8 := List Nat × Int
noncomputable def km6 (a1 : Int) (a2 : Int) (x3 : List Nat) : Option (kjw ⊕ kg8) :=
 cond (!decide (((pubF a1 a2).2) = 0)) (some (.inr ([], ((pubF a1 a2).2)))) (cond (!((kcp ((pubF a1 a2).1) x3))) (some (.inr ([], 11))) ((u64P (IntKind.wrap .u64 (a1 - 1))).bind fun p9 => (u64P (IntKind.wrap .u64 (a2 - 1))).bind fun p10 => (need (powOk x3 ((mulN (digs B p9) (digs B p10)).1) (kw ((pubF a1 a2).1)))).bind fun c17_0 => (u64P 1).bind fun p18 => some (.inr ((kcr ((divN ((subN (powN x3 ((mulN (digs B p9) (digs B p10)).1) (kw ((pubF a1 a2).1))) (digs B p18)).1) ((pubF a1 a2).1)).1) ((invN ((mulN (digs B p9) (digs B p10)).1) ((pubF a1 a2).1)).1) ((pubF a1 a2).1)), 0))))
noncomputable def krz : kjw → Option (kjw ⊕ kg8)
 | .fn a1 a2 x3 => km6 a1 a2 x3
 | .no => none
@[reducible] def kst (h0 : AH) (r : kg8) (v : AV) (h' : AH) : Prop := ∃ s1 : Sl, v = .tup [s1.v, .int .i64 r.2] ∧ Nats h' s1 r.1 ∧ Grow h0 h' ∧ Own h0 s1
def kum (r : kg8) : kjw → Prop
 | .fn a1 a2 x3 => ∀ {h : AH} {a3 : Sl}, Nats h a3 x3 → Runs (go (.fn F.kli [.agg [.int .u64 a1, .int .u64 a2], a3.v]) h) (kst h r)
 | .no => True
theorem kbh5 {r : kg8} {o : kjw ⊕ kg8} {a1 : Int} {a2 : Int} {x3 : List Nat} (e : km6 a1 a2 x3 = some o) (good : GoodS (kum r) r o) : kum r (.fn a1 a2 x3) := by
 intro h a3 n3
 rw [k7a]
 unfold km6 at e
 refine Runs.new fun H4 b4 g4 => ?_
 refine Runs.step (AH.has.rd b4 0 rfl (kb _ _)) ?_
 refine Runs.step (AH.has.rd b4 1 rfl (kb _ _)) ?_
 obtain ⟨_, H5, e5, s5, rfl, n5, g5, o5⟩ := k3w a1 a2
 refine Runs.step e5 ?_
 refine Runs.step rfl ?_
 refine Runs.step (seen (asSl_v _)) ?_
 refine Runs.step (seen (kb _ _)) ?_
 refine Runs.cond (fun k6 => ?_) (fun k6 => ?_)
 ·replace e := (condT k6).symm.trans e
  cases e
  cases good
  exact Runs.ret ⟨(⟨none, 0, .is 0⟩ : Sl), rfl, (Nats.nil _), (g4.trans g5), (Own.nil _)⟩
 ·replace e := (condF k6).symm.trans e
  obtain ⟨_, H7, e7, rfl, g7⟩ := kbaq n5 (n3.grow (g4.trans g5))
  refine Runs.step e7 ?_
  refine Runs.step (seen rfl) ?_
  refine Runs.cond (fun k8 => ?_) (fun k8 => ?_)
  ·replace e := (condT k8).symm.trans e
   cases e
   cases good
   have G9 := ((g4.trans g5).trans g7)
   exact Runs.ret ⟨(⟨none, 0, .is 0⟩ : Sl), rfl, (Nats.nil _), G9, (Own.nil _)⟩
  ·replace e := (condF k8).symm.trans e
   refine Runs.step (AH.has.rd ((g5.trans g7).has b4) 0 rfl (kb _ _)) ?_
   refine Runs.step (AH.has.rd ((g5.trans g7).has b4) 1 rfl (kb _ _)) ?_
   obtain ⟨p9, q9, e⟩ := Option.bind_eq_some_iff.1 e
   obtain ⟨s9, H9, e9, n9, g9, o9⟩ := kcv q9
   refine Runs.step e9 ?_
   refine Runs.step (seen (asSl_v _)) ?_
   refine Runs.when (g9.same ((g5.trans g7).has b4) 1 1) ?_
   obtain ⟨p10, q10, e⟩ := Option.bind_eq_some_iff.1 e
   obtain ⟨s10, H10, e10, n10, g10, o10⟩ := kcv q10
   refine Runs.step e10 ?_
   refine Runs.step (seen (asSl_v _)) ?_
   obtain ⟨s11, H11, e11, n11, g11, o11⟩ := khn (n9.grow g10) n10
   refine Runs.step e11 ?_
   refine Runs.step rfl ?_
   refine Runs.step (seen (asSl_v _)) ?_
   refine Runs.step (seen (kb _ _)) ?_
   have G12 := (((g7.trans g9).trans g10).trans g11)
   have n5_13 := n5.grow G12
   obtain ⟨_, H14, e14, s14, rfl, n14, g14, o14⟩ := k1j n5_13
   refine Runs.step e14 ?_
   refine Runs.step (seen (asSl_v _)) ?_
   have G15 := ((((((g4.trans g5).trans g7).trans g9).trans g10).trans g11).trans g14)
   have n3_16 := n3.grow G15
   obtain ⟨c17_0, q17_0, e⟩ := Option.bind_eq_some_iff.1 e
   obtain ⟨_, H17, e17, s17, rfl, n17, g17, o17⟩ := kbar n3_16 (n11.grow g14) n14  c17_0.down
   refine Runs.step e17 ?_
   refine Runs.step (seen (asSl_v _)) ?_
   obtain ⟨p18, q18, e⟩ := Option.bind_eq_some_iff.1 e
   obtain ⟨s18, H18, e18, n18, g18, o18⟩ := kcv q18
   refine Runs.step e18 ?_
   refine Runs.step (seen (asSl_v _)) ?_
   obtain ⟨s19, H19, e19, n19, g19, o19⟩ := kou (n17.grow g18) n18
   refine Runs.step e19 ?_
   refine Runs.step rfl ?_
   refine Runs.step (seen (asSl_v _)) ?_
   refine Runs.step (seen (kb _ _)) ?_
   have G20 := (((g14.trans g17).trans g18).trans g19)
   have n5_21 := n5_13.grow G20
   obtain ⟨s22, s22b, H22, e22, n22, n22b, g22, o22, o22b⟩ := kpz n19 n5_21
   refine Runs.step e22 ?_
   refine Runs.step rfl ?_
   refine Runs.step (seen (asSl_v _)) ?_
   refine Runs.step (seen (asSl_v _)) ?_
   refine Runs.step (seen (kb _ _)) ?_
   have G23 := (G20.trans g22)
   have n11_24 := n11.grow G23
   obtain ⟨_, H25, e25, s25, rfl, n25, g25, o25⟩ := kbgy n11_24 (n5_21.grow g22)
   refine Runs.step e25 ?_
   refine Runs.step rfl ?_
   refine Runs.step (seen (asSl_v _)) ?_
   refine Runs.step (seen (kb _ _)) ?_
   obtain ⟨_, H26, e26, s26, rfl, n26, g26, o26⟩ := kuw (n22.grow g25) n25 (n5_21.grow (g22.trans g25))
   refine Runs.step e26 ?_
   refine Runs.step (seen (asSl_v _)) ?_
   cases e
   cases good
   have G27 := (((((G15.trans g17).trans g18).trans g19).trans g22).trans g25)
   have G28 := (G27.trans g26)
   exact Runs.ret ⟨s26, rfl, n26, G28, (o26.of_le G27)⟩
theorem kbas {s : kjw} {r : kg8} (it : Iter krz s r) : kum r s := Iter.ind (fun s o e good => by
 cases s with
 | fn a1 a2 x3 => exact @kbh5 _ _ a1 a2 x3 e good
 | no => exact True.intro
 ) it
theorem k9q {h : AH} {a3 : Sl} {a1 : Int} {a2 : Int} {x3 : List Nat} (n3 : Nats h a3 x3) {r : kg8} (q : runP krz (.fn a1 a2 x3) = some r) : Runs (go (.fn F.kli [.agg [.int .u64 a1, .int .u64 a2], a3.v]) h) (kst h r) := kbas (kbn q) n3
end Go.Ab

/- squeezed -/
set_option linter.unusedVariables false
set_option linter.unusedSimpArgs false
set_option maxRecDepth 10000
namespace Go.Ab
open Go.Proofs Go.Num
theorem k85 (a b : Int) {cs : List Nat} (lc : ∀ x ∈ cs, x < B) : Iter krz (.fn a b cs) (decF a b cs) := by
 refine .done ?_
 show km6 a b cs = _
 unfold km6 decF
 cases hb : badF a b with
 | true =>
  have e : pubF a b = ([], 9) := by unfold pubF; rw [hb]; rfl
  rw [e]; rfl
 | false =>
  have e : pubF a b = (digs B (a.toNat * b.toNat), 0) := by unfold pubF; rw [hb]; rfl
  rw [e]
  obtain ⟨p, q, rfl, rfl, p1, p2, p3, q1, q2, q3, ne, -, hg⟩ := koj hb
  rw [Int.toNat_natCast, Int.toNat_natCast]
  have k := kwf p1 p3 q1 q3 ne hg
  rw [condF (show (!decide (((digs B (p * q), (0 : Int)).2) = 0)) = false from rfl), cond_false]
  dsimp only
  cases hv : kcp (digs B (p * q)) cs with
  | false => rfl
  | true =>
   obtain ⟨-, rc, hne, hlt, co⟩ := (k04 p2 q2 lc).1 hv
   have b40 := B40
   have hn := k.pos
   have hN2 := key_lt p2 q2
   have hS := key_sq p2 q2
   have up : ∀ {x : Nat}, x < B ^ 4 → x < B ^ 64 := fun h => Nat.lt_of_lt_of_le h (Nat.pow_le_pow_right (by decide) (by decide))
   have up30 : ∀ {x : Nat}, x < B ^ 4 → x < B ^ 30 := fun h => Nat.lt_of_lt_of_le h (Nat.pow_le_pow_right (by decide) (by decide))
   have hN4 : p * q < B ^ 4 := Nat.lt_of_lt_of_le hN2 (by decide)
   rw [Bool.not_true, cond_false, cond_false, kim (by omega) (by omega), kim (by omega) (by omega), u64P_B (by omega), Option.bind_some, u64P_B (by omega), Option.bind_some, kdt (kdk (by omega)) (kdk (by omega)), kz3 (kzo p2 q2)]
   dsimp only
   have hf : (p - 1) * (q - 1) < B ^ 4 := Nat.lt_of_le_of_lt (Nat.mul_le_mul (Nat.sub_le _ _) (Nat.sub_le _ _)) hN4
   have hNN : 1 < p * q * (p * q) := Nat.lt_of_lt_of_le hn (Nat.le_mul_of_pos_right _ (by omega))
   have ok : powOk cs (digs B ((p - 1) * (q - 1))) (digs B (p * q * (p * q))) := by
    refine ⟨rc, kj (up hf), kj (up hS), (kp B2 _ 30).2 (up30 hS), ?_, ?_⟩
    ·rw [kf B2]; exact hNN
    ·rw [kf B2]; exact hlt
   rw [ki ok, Option.bind_some, show u64P 1 = some 1 from rfl, Option.bind_some]
   have hid := kzb k co
   generalize hC : num B cs = C at *
   generalize hF : (p - 1) * (q - 1) = F at *
   have hpw : powN cs (digs B F) (digs B (p * q * (p * q))) = digs B (C ^ F % (p * q * (p * q))) := by
    unfold powN
    rw [kf B2, kf B2, hC]
   have hU : C ^ F % (p * q * (p * q)) < B ^ 4 := Nat.lt_trans (Nat.mod_lt _ (by omega)) hS
   have hU1 : 1 ≤ C ^ F % (p * q * (p * q)) := by
    have h1 : Cg (p * q) (C ^ F) 1 := by rw [← hF]; exact k.euler co
    have h2 : Cg (p * q) (C ^ F % (p * q * (p * q))) 1 := (Cg.of_dvd (Nat.dvd_mul_right _ _) Cg.mod).trans h1
    rcases Nat.eq_zero_or_pos (C ^ F % (p * q * (p * q))) with h0 | h0
    ·rw [h0] at h2
     have h3 : 0 % (p * q) = 1 % (p * q) := h2
     rw [Nat.zero_mod, Nat.mod_eq_of_lt hn] at h3
     omega
    ·exact h0
   have hsub : subN (digs B (C ^ F % (p * q * (p * q)))) (digs B 1) = (digs B (C ^ F % (p * q * (p * q)) - 1), 0) := by
    unfold subN
    rw [if_pos ⟨kj (up hU), kj (by decide)⟩, kf B2, kf B2, if_neg (by omega)]
   rw [hpw, hsub]
   dsimp only
   have hU2 : C ^ F % (p * q * (p * q)) - 1 < B ^ 4 := by omega
   have hdiv : (divN (digs B (C ^ F % (p * q * (p * q)) - 1)) (digs B (p * q))).1 = digs B ((C ^ F % (p * q * (p * q)) - 1) / (p * q)) := by
    rw [km5 (ku B2 _) (kj (up hU2)) (by omega) (up hN4), kf B2]
   rw [hdiv]
   obtain ⟨-, -, sp⟩ := klf (xs := digs B F) (ys := digs B (p * q)) (ku B2 _) (ku B2 _)
   have sp := sp.1 ⟨kj (up hf), kj (up hN4), by rw [kf B2]; omega⟩
   rw [kf B2, kf B2] at sp
   obtain ⟨w, w1, w2, w3⟩ := sp.2 (by
    rw [Nat.gcd_comm, ← Nat.gcd_rec, ← hF]
    exact k.co)
   rw [w2]
   unfold kcr
   have hv1 : (C ^ F % (p * q * (p * q)) - 1) / (p * q) < B ^ 4 := Nat.lt_of_le_of_lt (Nat.div_le_self _ _) hU2
   have hw : w < B ^ 4 := Nat.lt_trans w1 hN4
   rw [kdt (up30 hv1) (up30 hw)]
   have hprod : (C ^ F % (p * q * (p * q)) - 1) / (p * q) * w < B ^ 64 := Nat.lt_of_lt_of_le (Nat.mul_lt_mul'' hv1 hw) (by decide)
   rw [k42 hprod (up hN4) (by omega)]
   have hg1 : Cg (p * q) (F * w) 1 := by
    show _ % _ = 1 % _
    rw [Nat.mul_comm, w3, Nat.mod_eq_of_lt hn]
   have fin := Hid.doc hn hid hg1
   rw [fin]
theorem k3z {h : AH} {s : Sl} {cs : List Nat} (n : Nats h s cs) (a b : Int) : Runs (go (.fn F.kli [.agg [.int .u64 a, .int .u64 b], s.v]) h) (kst h (decF a b cs)) := k9q n (kbg (k85 a b n.lt))
end Go.Ab

/- squeezed -/
set_option linter.unusedVariables false
set_option linter.unusedSimpArgs false
set_option maxRecDepth 10000
namespace Go.Ab
open Go.Proofs Go.Num
noncomputable def kee (a1 : Int) (a2 : Int) (x3 : List Nat) : Bool :=
 cond (!((few06 [x3]))) (true) (cond (true) (cond (((decide (((decF a1 a2 x3).1) = ((decF a1 a2 x3).1))))) (decide (((decF a1 a2 x3).2) = ((decF a1 a2 x3).2))) (false)) (false))
theorem k2u {h : AH} {a3 : Sl} {x3 : List Nat} (n3 : Nats h a3 x3) (a1 : Int) (a2 : Int) : Runs (go (.fn F.ksx [.agg [.int .u64 a1, .int .u64 a2], a3.v]) h) fun v h' => v = .bool (kee a1 a2 x3) ∧ Grow h h' := by
 rw [kbhr]
 refine Runs.new fun H4 b4 g4 => ?_
 refine Runs.new fun H5 b5 g5 => ?_
 obtain ⟨_, H6, e6, rfl, g6⟩ := kbbe (Seq.lit (E := El.nats) (rows := [[(a3).v]]) (n := 1) b5 (.cons ⟨_, rfl, (n3.grow (g4.trans g5))⟩ .nil) rfl) (by simp)
 refine Runs.step e6 ?_
 refine Runs.step (seen rfl) ?_
 refine Runs.cond (fun k7 => ?_) (fun k7 => ?_)
 ·have z : kee a1 a2 x3 = true := by unfold kee; exact (condT k7).trans rfl
  rw [z]
  have G8 := ((g4.trans g5).trans g6)
  exact Runs.ret ⟨rfl, G8⟩
 ·obtain ⟨H8, e8, g8⟩ := k73
  refine Runs.step e8 ?_
  refine Runs.step (seen rfl) ?_
  have G9 := ((g5.trans g6).trans g8)
  have b4_10 := G9.has b4
  refine Runs.step (AH.has.rd b4_10 0 rfl (kb _ _)) ?_
  refine Runs.step (AH.has.rd b4_10 1 rfl (kb _ _)) ?_
  have G11 := (((g4.trans g5).trans g6).trans g8)
  have n3_12 := n3.grow G11
  obtain ⟨_, H13, e13, s13, rfl, n13, g13, o13⟩ := kbhh n3_12 a1 a2
  refine Runs.step e13 ?_
  refine Runs.step rfl ?_
  refine Runs.step (seen (asSl_v _)) ?_
  refine Runs.step (seen (kb _ _)) ?_
  refine Runs.step (AH.has.rd (g13.has b4_10) 0 rfl (kb _ _)) ?_
  refine Runs.step (AH.has.rd (g13.has b4_10) 1 rfl (kb _ _)) ?_
  obtain ⟨_, H14, e14, s14, rfl, n14, g14, o14⟩ := k3z (n3_12.grow g13) a1 a2
  refine Runs.step e14 ?_
  refine Runs.step rfl ?_
  refine Runs.step (seen (asSl_v _)) ?_
  refine Runs.step (seen (kb _ _)) ?_
  refine Runs.step (kbhd (n13.grow g14) n14) ?_
  refine Runs.step (seen rfl) ?_
  refine Runs.cond (fun k16 => ?_) (fun k16 => ?_)
  ·refine Runs.cond (fun k17 => ?_) (fun k17 => ?_)
   ·have z : kee a1 a2 x3 = decide (((decF a1 a2 x3).2) = ((decF a1 a2 x3).2)) := by unfold kee; exact (condF k7).trans ((condT k16).trans ((condT k17).trans rfl))
    rw [z]
    have G18 := ((G11.trans g13).trans g14)
    exact Runs.ret ⟨rfl, G18⟩
   ·have z : kee a1 a2 x3 = false := by unfold kee; exact (condF k7).trans ((condT k16).trans ((condF k17).trans rfl))
    rw [z]
    have G18 := ((G11.trans g13).trans g14)
    exact Runs.ret ⟨rfl, G18⟩
  ·have z : kee a1 a2 x3 = false := by unfold kee; exact (condF k7).trans ((condF k16).trans rfl)
   rw [z]
   have G17 := ((G11.trans g13).trans g14)
   exact Runs.ret ⟨rfl, G17⟩
end Go.Ab

/- squeezed -/
set_option linter.unusedVariables false
set_option linter.unusedSimpArgs false
set_option maxRecDepth 10000
namespace Go.Ab
open Go.Proofs Go.Num
theorem PaillierDecrypts_law (h : AH) {x0 x1 : AV} (z0 : ArgV Pg h T.kdz x0) (z1 : ArgV Pg h T.kq x1) : ∃ h', go (.fn F.ksx [x0, x1]) h = some (.bool true, h') := by
 obtain ⟨a, b, rfl⟩ := k6a z0
 obtain ⟨s, xs, rfl, n⟩ := k2g z1
 obtain ⟨_, h', e, rfl, _⟩ := k2u n a b
 refine ⟨h', e.trans ?_⟩
 have : kee a b xs = true := by
  unfold kee
  refine kb6 (fun _ => rfl) fun _ => ?_
  simp
 rw [this]
end Go.Ab

/- squeezed -/
set_option linter.unusedVariables false
set_option linter.unusedSimpArgs false
set_option maxRecDepth 10000
namespace Go.Ab
open Go.Proofs Go.Num
end Go.Ab

/- squeezed -/
set_option linter.unusedVariables false
set_option linter.unusedSimpArgs false
set_option maxRecDepth 10000
namespace Go.Ab
open Go.Proofs Go.Num
section
variable {p q : Nat} (k : KeyOk p q) (p2 : p < 1099511627776) (q2 : q < 1099511627776) (hb : badF (p : Int) (q : Int) = false) (may : k0 (digs B (p * q)) = true)
include k p2 q2 hb may
end
end Go.Ab
