/- squeezed -/
import Derived.Test.YtdgeifgljeebbaaGreatPP7

set_option linter.unusedVariables false
set_option linter.unusedSimpArgs false
set_option maxRecDepth 10000
namespace Go.Ab
open Go.Proofs Go.Num
noncomputable def drawn (w n : Nat) (bs : List Nat) : Option Nat × List Nat :=
 if h : 0 < w ∧ (w + 7) / 8 ≤ bs.length then
  (if beN (bs.take ((w + 7) / 8)) % 2 ^ w < n then (some (beN (bs.take ((w + 7) / 8)) % 2 ^ w), bs.drop ((w + 7) / 8)) else drawn w n (bs.drop ((w + 7) / 8)))
 else (none, bs)
termination_by bs.length
decreasing_by rw [List.length_drop]; omega
theorem kln {w n : Nat} {bs : List Nat} (h : bs.length < (w + 7) / 8) : drawn w n bs = (none, bs) := by
 rw [drawn, dif_neg (by omega)]
theorem kvx {w n : Nat} {bs : List Nat} (h0 : 0 < w) (h : (w + 7) / 8 ≤ bs.length) (hx : beN (bs.take ((w + 7) / 8)) % 2 ^ w < n) : drawn w n bs = (some (beN (bs.take ((w + 7) / 8)) % 2 ^ w), bs.drop ((w + 7) / 8)) := by
 rw [drawn, dif_pos ⟨h0, h⟩, if_pos hx]
theorem kt1 {w n : Nat} {bs : List Nat} (h0 : 0 < w) (h : (w + 7) / 8 ≤ bs.length) (hx : ¬ beN (bs.take ((w + 7) / 8)) % 2 ^ w < n) : drawn w n bs = drawn w n (bs.drop ((w + 7) / 8)) := by
 rw [drawn, dif_pos ⟨h0, h⟩, if_neg hx]
theorem ky1 {w n : Nat} : ∀ (L : Nat) {bs : List Nat}, bs.length ≤ L → (drawn w n bs).2.length ≤ bs.length ∧ ((drawn w n bs).1.isSome → (drawn w n bs).2.length < bs.length) := by
 intro L
 induction L with
 | zero =>
  intro bs hl
  rw [drawn]
  split
  ·omega
  ·exact ⟨Nat.le_refl _, fun h => by cases h⟩
 | succ L ih =>
  intro bs hl
  rw [drawn]
  split
  ·split
   ·simp
    omega
   ·have := ih (bs := bs.drop ((w + 7) / 8)) (by rw [List.length_drop]; omega)
    rw [List.length_drop] at this
    exact ⟨by omega, fun h => by have := this.2 h; omega⟩
  ·exact ⟨Nat.le_refl _, fun h => by cases h⟩
theorem kbad : ∀ (r : _root_.Fin 8) (b : _root_.Fin 256), iand .u8 (b.val : Int) (IntKind.wrap .u8 (ishl .u8 1 (r.val : Int) - 1)) = ((b.val % 2 ^ r.val : Nat) : Int) := by decide +kernel
theorem ktx (b : Nat) (bs : List Nat) : beN (b :: bs) = beN bs + 256 ^ bs.length * b := by
 unfold beN
 rw [List.reverse_cons, kbs, List.length_reverse]
 simp [num]
theorem beN_lt {bs : List Nat} (h : ∀ b ∈ bs, b < 256) : beN bs < 256 ^ bs.length := by
 have := kog (bs := bs.reverse) fun b hb => h b (List.mem_reverse.1 hb)
 rwa [List.length_reverse] at this
theorem k7i {b : Nat} {bs : List Nat} (h : ∀ x ∈ bs, x < 256) (r : Nat) : beN (b % 2 ^ r :: bs) = beN (b :: bs) % 2 ^ (8 * bs.length + r) := by
 have hl := beN_lt h
 rw [ktx, ktx, Nat.pow_add, show (2 : Nat) ^ (8 * bs.length) = 256 ^ bs.length from by rw [Nat.pow_mul], Nat.mod_mul, Nat.add_mul_mod_self_left, Nat.mod_eq_of_lt hl, Nat.add_mul_div_left _ _ (Nat.pow_pos (by decide)), Nat.div_eq_of_lt hl, Nat.zero_add]
theorem Nats.md {h h' : AH} {T : Fp} {s : Sl} {xs : List Nat} (n : Nats h s xs) (m : Md T h h') (a : ∀ j, T j → Av s j xs) : Nats h' s xs := n.mdE (S := fun j => ¬ Av s j xs) (fun j k => k) m fun j k t => k (a j t)
def DrawP (tape : AH → Fp → Nat → List Nat → Prop) (h : AH) (S : Fp) (i : Nat) (r : (List Nat × Int) × List Nat) (v : AV) (h' : AH) : Prop :=
 ∃ s1 : Sl, v = .tup [s1.v, .int .i64 r.1.2] ∧ Nats h' s1 r.1.1 ∧ Own h s1 ∧ tape h' S i r.2 ∧ Md (fun j => j = i) h h'
def toldD (r : Option Nat × List Nat) : (List Nat × Int) × List Nat := ((match r.1 with | none => [] | some x => digs B x, match r.1 with | none => 7 | some _ => 0), r.2)
theorem DrawP.next {tape : AH → Fp → Nat → List Nat → Prop} {h h1 : AH} {S : Fp} {i : Nat} {r : (List Nat × Int) × List Nat} {x : Option (AV × AH)} (m : Md (fun j => j = i) h h1) (R : Runs x (DrawP tape h1 S i r)) : Runs x (DrawP tape h S i r) := by
 refine R.imp fun v h' ⟨s1, e, n, o, t, m'⟩ => ⟨s1, e, n, fun q hq => ?_, t, m.trans m'⟩
 obtain ⟨j, k, e, l⟩ := o q hq
 exact ⟨j, k, e, Nat.le_trans m.size l⟩
theorem kob {x n : Nat} (hx : x < B ^ 64) (hn : n < B ^ 64) : (cmpN (digs B x) (digs B n) < 0) ↔ x < n := by
 rw [kn3 (kbp hx) (kbp hn), kf B2, kf B2, cmp_lt]
theorem kbbk {S : Fp} {i w n : Nat} (hw : 0 < w) (hw2 : w < 4096) (hn : n < B ^ 64) : ∀ (L : Nat) (bs : List Nat), bs.length ≤ L → ∀ {h : AH} {a3 : Sl}, TapeA h S i bs → Nats h a3 (digs B n) → Av a3 i (digs B n) →
  Runs (go (.pt F.ke3 Td.kha [(0, .func (.func F.kc1) [.ptr (some (.new i 0))] []), (1, .int .i64 (w : Int)), (2, a3.v)]) h) (DrawP TapeA h S i (toldD (drawn w n bs))) := by
 have wk : IntKind.wrap .i64 (Int.tdiv (IntKind.wrap .i64 ((w : Int) + 7)) 8) = (((w + 7) / 8 : Nat) : Int) := by
  rw [show ((w : Int) + 7) = ((w + 7 : Nat) : Int) from rfl, kn (by omega), show Int.tdiv ((w + 7 : Nat) : Int) 8 = (((w + 7) / 8 : Nat) : Int) from rfl, kn (by omega)]
 have wm : Int.tmod (w : Int) 8 = ((w % 8 : Nat) : Int) := rfl
 intro L
 induction L with
 | zero =>
  intro bs hl h a3 t n3 av
  rw [kx8, wk]
  obtain ⟨v, h', e, hh⟩ := kwa t (k := (w + 7) / 8) (by omega)
  refine Runs.step e ?_
  rcases hh with ⟨h1, rfl, rfl⟩ | ⟨h1, _⟩
  ·refine Runs.step rfl (Runs.step (seen (asSl_v _)) (Runs.step (seen (kb _ _)) ?_))
   refine Runs.ifT rfl ?_
   rw [kln h1]
   exact Runs.ret ⟨⟨none, 0, .is 0⟩, rfl, Nats.nil _, Own.nil _, t, Md.refl _ _⟩
  ·omega
 | succ L ih =>
  intro bs hl h a3 t n3 av
  rw [kx8, wk]
  obtain ⟨v, h1, e, hh⟩ := kwa t (k := (w + 7) / 8) (by omega)
  refine Runs.step e ?_
  rcases hh with ⟨c1, rfl, rfl⟩ | ⟨c1, s1, o, rfl, v1, l1, t1, m1⟩
  ·refine Runs.step rfl (Runs.step (seen (asSl_v _)) (Runs.step (seen (kb _ _)) ?_))
   refine Runs.ifT rfl ?_
   rw [kln c1]
   exact Runs.ret ⟨⟨none, 0, .is 0⟩, rfl, Nats.nil _, Own.nil _, t, Md.refl _ _⟩
  ·refine Runs.step rfl (Runs.step (seen (asSl_v _)) (Runs.step (seen (kb _ _)) ?_))
   refine Runs.ifF rfl ?_
   have hlen : (bs.take ((w + 7) / 8)).length = (w + 7) / 8 := by rw [List.length_take]; omega
   have lt := kmr v1.sq
   have hX : beN (bs.take ((w + 7) / 8)) < B ^ 64 := by
    refine Nat.lt_of_lt_of_le (beN_lt lt) ?_
    rw [hlen]
    refine Nat.le_trans (krl _) (Nat.pow_le_pow_right (by decide) (by omega))
   have n31 : Nats h1 a3 (digs B n) := n3.md m1 fun j hj => by subst hj; exact av
   have tail : ∀ {h2 : AH} {y : Nat} {sy : Sl}, y = beN (bs.take ((w + 7) / 8)) % 2 ^ w → Nats h2 sy (digs B y) → Own h sy → TapeA h2 S i (bs.drop ((w + 7) / 8)) → Md (fun j => j = i) h h2 → Nats h2 a3 (digs B n) →
     Runs ((go (.fn F.kdj [sy.v, a3.v]) h2).bind fun q22 => ((some q22.1).bind (AV.asInt .i64)).bind fun n23 => cond (decide (n23 < 0)) (some (.tup [sy.v, .int .i64 0], q22.2))
      (go (.pt F.ke3 Td.kha [(0, .func (.func F.kc1) [.ptr (some (.new i 0))] []), (1, .int .i64 (w : Int)), (2, a3.v)]) q22.2)) (DrawP TapeA h S i (toldD (drawn w n bs))) := fun {h2 y sy} hy ny oy t2 m2 n32 => by
    have hyB : y < B ^ 64 := by rw [hy]; exact Nat.lt_of_le_of_lt (Nat.mod_le _ _) hX
    obtain ⟨h3, e3, g3⟩ := kib ny n32
    refine Runs.step e3 (Runs.step (seen (kb _ _)) ?_)
    refine Runs.cond (fun c => ?_) (fun c => ?_)
    ·rw [decide_eq_true_eq, kob hyB hn, hy] at c
     rw [kvx hw c1 c, ← hy]
     exact Runs.ret ⟨sy, rfl, ny.grow g3, oy, t2.grow g3, m2.thenG g3⟩
    ·rw [decide_eq_false_iff_not, kob hyB hn, hy] at c
     rw [kt1 hw c1 c]
     exact DrawP.next (m2.thenG g3) (ih _ (by rw [List.length_drop]; omega) (t2.grow g3) (n32.grow g3) av)
   have read : ∀ {h2 : AH} {ys : List Nat} {S2 : Fp}, Sq Ef.byte h2 S2 s1 ys → ys.length = (w + 7) / 8 → beN ys = beN (bs.take ((w + 7) / 8)) % 2 ^ w → TapeA h2 S i (bs.drop ((w + 7) / 8)) → Md (fun j => j = i) h h2 → Nats h2 a3 (digs B n) →
     Runs ((go (.fn F.ke1 [s1.v]) h2).bind fun q18 => (AV.asTup2 q18.1).bind fun p19 => ((some p19.1).bind AV.asSl).bind fun l20 => ((some p19.2).bind (AV.asInt .i64)).bind fun n21 =>
      (go (.fn F.kdj [l20.v, a3.v]) q18.2).bind fun q22 => ((some q22.1).bind (AV.asInt .i64)).bind fun n23 => cond (decide (n23 < 0)) (some (.tup [l20.v, .int .i64 0], q22.2))
      (go (.pt F.ke3 Td.kha [(0, .func (.func F.kc1) [.ptr (some (.new i 0))] []), (1, .int .i64 (w : Int)), (2, a3.v)]) q22.2)) (DrawP TapeA h S i (toldD (drawn w n bs))) := fun {h2 ys S2} ny hys hbe t2 m2 n32 => by
    obtain ⟨_, h3, e3, sy, rfl, ny3, g3, o3⟩ := k6c ny (by omega)
    refine Runs.step e3 (Runs.step rfl (Runs.step (seen (asSl_v _)) (Runs.step (seen (kb _ _)) ?_)))
    rw [hbe] at ny3
    refine tail rfl ny3 (fun q hq => ?_) (t2.grow g3) (m2.thenG g3) (n32.grow g3)
    obtain ⟨j, k, e, l⟩ := o3 q hq
    exact ⟨j, k, e, Nat.le_trans m2.size l⟩
   rw [wm]
   refine Runs.cond (fun c => ?_) (fun c => ?_)
   ·rw [decide_eq_true_eq] at c
    have hr : 0 < w % 8 := by omega
    obtain ⟨b0, rest, hbr⟩ : ∃ b0 rest, bs.take ((w + 7) / 8) = b0 :: rest := by
     cases hb : bs.take ((w + 7) / 8) with
     | nil => rw [hb] at hlen; simp at hlen; omega
     | cons a l => exact ⟨a, l, rfl⟩
    rw [hbr] at v1 hlen lt
    have hrl : rest.length = (w + 7) / 8 - 1 := by simp at hlen; omega
    have hb0 : b0 < 256 := lt b0 (by simp)
    obtain ⟨r, f1, f2, -⟩ := kg3 v1.sq (i := 0) (by simp)
    have f1 : idx s1.ref s1.len 0 1 = some r := f1
    refine Runs.step f1 (Runs.step f2 ?_)
    refine Runs.ifF (by rw [decide_eq_false_iff_not]; omega) ?_
    have hm : iand .u8 ((b0 : Nat) : Int) (IntKind.wrap .u8 (ishl .u8 1 ((w % 8 : Nat) : Int) - 1)) = ((b0 % 2 ^ (w % 8) : Nat) : Int) := kbad ⟨w % 8, Nat.mod_lt _ (by decide)⟩ ⟨b0, hb0⟩
    obtain ⟨r', h4, f4, f5, v4, u4⟩ := v1.set (T := Fp.no) (cs := [.int .u8 ((b0 % 2 ^ (w % 8) : Nat) : Int)]) (x := b0 % 2 ^ (w % 8)) ⟨rfl, Nat.lt_of_le_of_lt (Nat.mod_le _ _) hb0⟩ NotO.no (z := 0) (j := 0) (kv (i := 0) (by simp))
    have hz : s1.len = (b0 :: rest).length := v1.len
    rw [← hz] at f4
    have f4 : idx s1.ref s1.len 0 1 = some r' := f4
    refine Runs.step f4 ?_
    show Runs ((h1.puts r' [.int .u8 (iand .u8 ((b0 : Nat) : Int) _)]).bind _) _
    rw [hm]
    refine Runs.step f5 ?_
    have oT : ∀ k, o = some k → k ≠ i ∧ h.blks.size ≤ k := fun k hk => by
     subst hk
     have : h.blks.size ≤ k := l1
     have := t.lt
     exact ⟨by omega, by omega⟩
    have m4 : Md (fun j => o = some j) h1 h4 := UpdO.md u4 fun k hk => hk
    have m5 : Md (fun j => j = i) h h4 := m1.next m4 fun j hj hk => by
     have := (oT j hk).2
     omega
    refine read v4.sq (by simpa using hlen) ?_ (t1.md m4 fun j hj hk => ?_) m5 (n31.md m4 fun j hj => ?_)
    ·rw [hbr]
     show beN (b0 % 2 ^ (w % 8) :: rest) = _
     rw [k7i (fun x hx => lt x (by simp [hx])), hrl, show 8 * ((w + 7) / 8 - 1) + w % 8 = w from by omega]
    ·have := (oT j hk).2
     have := t.1 j hj
     omega
    ·exact Av.of_base n3 (oT j hj).2
   ·rw [decide_eq_false_iff_not] at c
    have hr : w % 8 = 0 := by omega
    refine read v1.sq hlen ?_ t1 m1 n31
    rw [Nat.mod_eq_of_lt]
    refine Nat.lt_of_lt_of_le (beN_lt lt) ?_
    rw [hlen, show (256 : Nat) = 2 ^ 8 from rfl, ← Nat.pow_mul]
    exact Nat.pow_le_pow_right (by decide) (by omega)
end Go.Ab

/- squeezed -/
set_option linter.unusedVariables false
set_option linter.unusedSimpArgs false
set_option maxRecDepth 10000
namespace Go.Ab
open Go.Proofs Go.Num
theorem k45 {S : Fp} {i w n : Nat} (hw : 0 < w) (hw2 : w < 4096) (hn : n < B ^ 64) : ∀ (L : Nat) (bs : List Nat), bs.length ≤ L → ∀ {h : AH} {a3 : Sl}, TapeB h S i bs → Nats h a3 (digs B n) → Av a3 i (digs B n) →
  Runs (go (.pt F.khe Td.klt [(0, .ptr (some (.new i 0))), (1, a3.v), (9, .int .i64 (w : Int))]) h) (DrawP TapeB h S i (toldD (drawn w n bs))) := by
 have wk : IntKind.wrap .i64 (Int.tdiv (IntKind.wrap .i64 ((w : Int) + 7)) 8) = (((w + 7) / 8 : Nat) : Int) := by
  rw [show ((w : Int) + 7) = ((w + 7 : Nat) : Int) from rfl, kn (by omega), show Int.tdiv ((w + 7 : Nat) : Int) 8 = (((w + 7) / 8 : Nat) : Int) from rfl, kn (by omega)]
 intro L
 induction L with
 | zero =>
  intro bs hl h a3 t n3 av
  rw [kvh, wk]
  obtain ⟨v, h', e, hh⟩ := kx9 t (k := (w + 7) / 8) (by omega)
  refine Runs.step e ?_
  rcases hh with ⟨h1, rfl, rfl⟩ | ⟨h1, _⟩
  ·refine Runs.step rfl (Runs.step (seen (asSl_v _)) (Runs.step (seen (kb _ _)) ?_))
   refine Runs.ifT rfl ?_
   rw [kln h1]
   exact Runs.ret ⟨⟨none, 0, .is 0⟩, rfl, Nats.nil _, Own.nil _, t, Md.refl _ _⟩
  ·omega
 | succ L ih =>
  intro bs hl h a3 t n3 av
  rw [kvh, wk]
  obtain ⟨v, h1, e, hh⟩ := kx9 t (k := (w + 7) / 8) (by omega)
  refine Runs.step e ?_
  rcases hh with ⟨c1, rfl, rfl⟩ | ⟨c1, s1, o, rfl, v1, l1, t1, m1⟩
  ·refine Runs.step rfl (Runs.step (seen (asSl_v _)) (Runs.step (seen (kb _ _)) ?_))
   refine Runs.ifT rfl ?_
   rw [kln c1]
   exact Runs.ret ⟨⟨none, 0, .is 0⟩, rfl, Nats.nil _, Own.nil _, t, Md.refl _ _⟩
  ·refine Runs.step rfl (Runs.step (seen (asSl_v _)) (Runs.step (seen (kb _ _)) ?_))
   refine Runs.ifF rfl ?_
   have hlen : (bs.take ((w + 7) / 8)).length = (w + 7) / 8 := by rw [List.length_take]; omega
   have lt := kmr v1.sq
   generalize hXe : beN (bs.take ((w + 7) / 8)) = X at *
   have hX : X < B ^ 64 := by
    rw [← hXe]
    refine Nat.lt_of_lt_of_le (beN_lt lt) ?_
    rw [hlen]
    refine Nat.le_trans (krl _) (Nat.pow_le_pow_right (by decide) (by omega))
   have n31 : Nats h1 a3 (digs B n) := n3.md m1 fun j hj => by subst hj; exact av
   obtain ⟨_, h2, e2, sx, rfl, nx, g2, o2⟩ := kbcs v1.sq (by omega)
   rw [hXe] at nx
   refine Runs.step e2 (Runs.step rfl (Runs.step (seen (asSl_v _)) (Runs.step (seen (kb _ _)) ?_)))
   have hw3 : X / 2 ^ w * 2 ^ w ≤ X := Nat.div_mul_le_self _ _
   obtain ⟨_, h3, e3, st, rfl, nt, g3, o3⟩ := Shr_is nx hX hw2
   refine Runs.step e3 (Runs.step rfl (Runs.step (seen (asSl_v _)) (Runs.step (seen (kb _ _)) ?_)))
   obtain ⟨_, h4, e4, sh, rfl, nh, g4, o4⟩ := Shl_is (T := X / 2 ^ w) (w := w) nt (Nat.lt_of_le_of_lt hw3 hX) (by omega)
   refine Runs.step e4 (Runs.step rfl (Runs.step (seen (asSl_v _)) (Runs.step (seen (kb _ _)) ?_)))
   have G := (g2.trans g3).trans g4
   obtain ⟨sy, h5, e5, ny, g5, o5⟩ := kw1 (nx.grow (g3.trans g4)) nh
   have hs : subN (digs B X) (digs B (X / 2 ^ w * 2 ^ w)) = (digs B (X % 2 ^ w), 0) := by
    unfold subN
    rw [if_pos ⟨kbp hX, kbp (Nat.lt_of_le_of_lt hw3 hX)⟩, kf B2, kf B2, if_neg (by omega)]
    have := Nat.div_add_mod X (2 ^ w)
    rw [Nat.mul_comm] at this
    rw [show X - X / 2 ^ w * 2 ^ w = X % 2 ^ w from by omega]
   rw [hs] at e5 ny
   refine Runs.step e5 (Runs.step rfl (Runs.step (seen (asSl_v _)) (Runs.step (seen (kb _ _)) ?_)))
   have hyB : X % 2 ^ w < B ^ 64 := Nat.lt_of_le_of_lt (Nat.mod_le _ _) hX
   have n35 := n31.grow (G.trans g5)
   obtain ⟨h6, e6, g6⟩ := km6 ny n35
   refine Runs.step e6 (Runs.step (seen (kb _ _)) ?_)
   have m6 := m1.thenG ((G.trans g5).trans g6)
   have t6 := t1.grow ((G.trans g5).trans g6)
   refine Runs.cond (fun c => ?_) (fun c => ?_)
   ·rw [decide_eq_true_eq, kob hyB hn] at c
    rw [kvx hw c1 (by rw [hXe]; exact c), hXe]
    exact Runs.ret ⟨sy, rfl, ny.grow g6, o5.md (m1.thenG G), t6, m6⟩
   ·rw [decide_eq_false_iff_not, kob hyB hn] at c
    rw [kt1 hw c1 (by rw [hXe]; exact c)]
    exact DrawP.next m6 (ih _ (by rw [List.length_drop]; omega) t6 (n35.grow g6) av)
noncomputable def drawF (xs : List Nat) (bs : List Nat) : (List Nat × Int) × List Nat :=
 if rt xs = true ∧ xs.length ≠ 0 then (if num B xs - 1 = 0 then (([], 0), bs) else toldD (drawn (bl (num B xs - 1)) (num B xs) bs)) else (([], 1), bs)
section
variable {S : Fp} {i : Nat} {xs bs : List Nat}
theorem bl_B {x k : Nat} (h : x < B ^ k) : bl x ≤ 64 * k := bl_le (by rw [Nat.pow_mul]; exact h)
theorem kt5 {xs : List Nat} (hx : ∀ x ∈ xs, x < B) (hr : rt xs = true) (h0 : xs.length ≠ 0) (hl : xs.length ≤ 63) : subN xs [1] = (digs B (num B xs - 1), 0) ∧ num B xs < B ^ 63 ∧ 0 < num B xs ∧ digs B (num B xs) = xs ∧ bitsN (digs B (num B xs - 1)) = bl (num B xs - 1) ∧ bl (num B xs - 1) < 4096 := by
 have ht := (rt_iff.1 hr).2
 have hd : digs B (num B xs) = xs := kds B2 hx ht
 have h1 : num B xs < B ^ 63 := (kp B2 _ 63).1 (by rw [hd]; exact hl)
 have hp : 0 < num B xs := by
  rcases Nat.eq_zero_or_pos (num B xs) with h | h
  ·rw [h, kbl] at hd
   rw [← hd] at h0
   exact absurd rfl h0
  ·exact h
 have hB : B ^ 63 < B ^ 64 := by decide +kernel
 refine ⟨?_, h1, hp, hd, ?_, ?_⟩
 ·unfold subN
  rw [if_pos ⟨hr, by decide⟩, show num B [1] = 1 from by decide, if_neg (by omega)]
 ·unfold bitsN
  rw [kbp (by omega), if_pos rfl, kf B2]
 ·exact Nat.lt_of_le_of_lt (bl_B (k := 63) (Nat.lt_of_le_of_lt (Nat.sub_le _ _) h1)) (by decide)
theorem bl_pos {x : Nat} (h : x ≠ 0) : 0 < bl x := by
 rw [kua (by omega)]
 omega
theorem kut {h : AH} (t : TapeA h S i bs) {s : Sl} (n : Nats h s xs) (av : Av s i xs) (hl : xs.length ≤ 63 ∨ rt xs = false) : Runs (go (.fn F.krd [.ptr (some (.new i 0)), s.v]) h) (DrawP TapeA h S i (drawF xs bs)) := by
 rw [k2w]
 refine Runs.step (kc4 n) (Runs.step (seen rfl) ?_)
 cases hr : rt xs with
 | false =>
  refine Runs.ifT rfl ?_
  unfold drawF
  rw [hr, if_neg (by simp)]
  exact Runs.ret ⟨⟨none, 0, .is 0⟩, rfl, Nats.nil _, Own.nil _, t, Md.refl _ _⟩
 | true =>
  refine Runs.ifF rfl ?_
  rw [n.len]
  refine Runs.cond (fun c => ?_) (fun c => ?_)
  ·rw [decide_eq_true_eq] at c
   unfold drawF
   rw [if_neg (by omega)]
   exact Runs.ret ⟨⟨none, 0, .is 0⟩, rfl, Nats.nil _, Own.nil _, t, Md.refl _ _⟩
  ·rw [decide_eq_false_iff_not] at c
   obtain ⟨f1, f2, f3, f4, f5, f6⟩ := kt5 n.lt hr (by omega) (by rw [hr] at hl; simpa using hl)
   have hB : B ^ 63 < B ^ 64 := by decide +kernel
   refine Runs.new fun h1 b1 g1 => ?_
   have n1 : Nats h1 ⟨some (.new h.blks.size 0), 1, .is 1⟩ [1] := Nats.of_has (xs := [1]) b1 (by simp) (by simp)
   obtain ⟨s2, h2, e2, n2, g2, o2⟩ := kya (n.grow g1) n1
   rw [f1] at e2 n2
   refine Runs.step e2 (Runs.step rfl (Runs.step (seen (asSl_v _)) (Runs.step (seen (kb _ _)) ?_)))
   have hb : drawF xs bs = (if num B xs - 1 = 0 then (([], 0), bs) else toldD (drawn (bl (num B xs - 1)) (num B xs) bs)) := by
    unfold drawF
    rw [if_pos ⟨hr, by omega⟩]
   have G := g1.trans g2
   rw [hb]
   refine Runs.cond (fun c2 => ?_) (fun c2 => ?_)
   ·rw [decide_eq_true_eq, n2.len] at c2
    dsimp only at c2
    have : num B xs - 1 = 0 := (kk7 B2).1 (List.length_eq_zero_iff.1 (by omega))
    rw [if_pos this]
    exact Runs.ret ⟨⟨none, 0, .is 0⟩, rfl, Nats.nil _, Own.nil _, t.grow G, G.md _⟩
   ·rw [decide_eq_false_iff_not, n2.len] at c2
    dsimp only at c2
    have hne : num B xs - 1 ≠ 0 := fun e => c2 (by rw [e, kbl]; rfl)
    rw [if_neg hne]
    obtain ⟨_, h3, e3, rfl, g3⟩ := kqv n2
    refine Runs.step e3 (Runs.step (seen (kb _ _)) ?_)
    rw [f5, k96]
    obtain ⟨v, h4, e4, s4, rfl, d⟩ := DrawP.next ((G.trans g3).md _) (kbbk (bl_pos hne) f6 (Nat.lt_trans f2 hB) _ bs (Nat.le_refl _) (t.grow (G.trans g3)) (by rw [f4]; exact n.grow (G.trans g3)) (by rw [f4]; exact av))
    refine Runs.step e4 (Runs.step rfl (Runs.step (seen (asSl_v _)) (Runs.step (seen (kb _ _)) ?_)))
    exact Runs.ret ⟨s4, rfl, d⟩
theorem kwo {h : AH} (t : TapeB h S i bs) {s : Sl} (n : Nats h s xs) (av : Av s i xs) (hl : xs.length ≤ 63 ∨ rt xs = false) : Runs (go (.fn F.khe [.ptr (some (.new i 0)), s.v]) h) (DrawP TapeB h S i (drawF xs bs)) := by
 rw [k7z]
 refine Runs.step (kbr n) (Runs.step (seen rfl) ?_)
 cases hr : rt xs with
 | false =>
  refine Runs.ifT rfl ?_
  unfold drawF
  rw [hr, if_neg (by simp)]
  exact Runs.ret ⟨⟨none, 0, .is 0⟩, rfl, Nats.nil _, Own.nil _, t, Md.refl _ _⟩
 | true =>
  refine Runs.ifF rfl ?_
  rw [n.len]
  refine Runs.cond (fun c => ?_) (fun c => ?_)
  ·rw [decide_eq_true_eq] at c
   unfold drawF
   rw [if_neg (by omega)]
   exact Runs.ret ⟨⟨none, 0, .is 0⟩, rfl, Nats.nil _, Own.nil _, t, Md.refl _ _⟩
  ·rw [decide_eq_false_iff_not] at c
   obtain ⟨f1, f2, f3, f4, f5, f6⟩ := kt5 n.lt hr (by omega) (by rw [hr] at hl; simpa using hl)
   have hB : B ^ 63 < B ^ 64 := by decide +kernel
   obtain ⟨s1, h1, e1, n1, g1, o1⟩ := kmn (h := h)
   refine Runs.step e1 (Runs.step (seen (asSl_v _)) ?_)
   obtain ⟨s2, h2, e2, n2, g2, o2⟩ := kw1 (n.grow g1) n1
   rw [f1] at e2 n2
   refine Runs.step e2 (Runs.step rfl (Runs.step (seen (asSl_v _)) (Runs.step (seen (kb _ _)) ?_)))
   have hb : drawF xs bs = (if num B xs - 1 = 0 then (([], 0), bs) else toldD (drawn (bl (num B xs - 1)) (num B xs) bs)) := by
    unfold drawF
    rw [if_pos ⟨hr, by omega⟩]
   have G := g1.trans g2
   obtain ⟨_, h3, e3, rfl, g3⟩ := kp5 n2
   refine Runs.step e3 (Runs.step (seen (kb _ _)) ?_)
   rw [f5, hb]
   refine Runs.cond (fun c2 => ?_) (fun c2 => ?_)
   ·rw [decide_eq_true_eq] at c2
    have : num B xs - 1 = 0 := by
     rcases Nat.eq_zero_or_pos (num B xs - 1) with h | h
     ·exact h
     ·have := bl_pos (x := num B xs - 1) (by omega)
      omega
    rw [if_pos this]
    exact Runs.ret ⟨⟨none, 0, .is 0⟩, rfl, Nats.nil _, Own.nil _, t.grow (G.trans g3), (G.trans g3).md _⟩
   ·rw [decide_eq_false_iff_not] at c2
    have hne : num B xs - 1 ≠ 0 := fun e => c2 (by rw [e, kxh]; rfl)
    rw [if_neg hne]
    exact DrawP.next ((G.trans g3).md _) (k45 (bl_pos hne) f6 (Nat.lt_trans f2 hB) _ bs (Nat.le_refl _) (t.grow (G.trans g3)) (by rw [f4]; exact n.grow (G.trans g3)) (by rw [f4]; exact av))
end
end Go.Ab

/- squeezed -/
set_option linter.unusedVariables false
set_option linter.unusedSimpArgs false
set_option maxRecDepth 10000
namespace Go.Ab
open Go.Proofs Go.Num
theorem kym {k : IntKind} {x : Int} (h : (Lit.int k x).wf = true) (hk : k = .u8) : 0 ≤ x ∧ x < 256 := by
 subst hk
 have : 0 ≤ x ∧ x ≤ 255 := by simpa [Lit.wf, IntKind.has, IntKind.min, IntKind.max, IntKind.bits, IntKind.signed] using h
 omega
theorem k76 {h : AH} {x : AV} (a : ArgV Pg h T.kr7 x) : ∃ (s : Sl) (xs : List Nat), x = s.v ∧ Sq Ef.byte h Fp.no s xs := by
 unfold ArgV at a
 rw [kvu] at a
 obtain ⟨s, xs, e, n⟩ := Sq.of_arg (E := Ef.byte) (S := Fp.no) kvu kor (fun es t => by
  obtain ⟨y, rfl, w⟩ := t.int k9a
  obtain ⟨h1, h2⟩ := kym w rfl
  exact ⟨y.toNat, by rw [Int.toNat_of_nonneg h1], by omega⟩) a
 cases e
 exact ⟨s, xs, rfl, n⟩
noncomputable def drawsF (ns ms bs : List Nat) : (List Nat × Int) × List Nat :=
 if (drawF ns bs).1.2 ≠ 0 then (([], (drawF ns bs).1.2), (drawF ns bs).2)
 else if kbj (drawF ns bs).1.1 ns ns = true then (encF ns ms (drawF ns bs).1.1, (drawF ns bs).2)
 else if h : (drawF ns bs).2.length < bs.length then drawsF ns ms (drawF ns bs).2
 else (([], 0), bs)
termination_by bs.length
section
variable {S : Fp} {i : Nat} {ns ms : List Nat}
theorem koh {bs : List Nat} (hm : ks ns = true) (h0 : (drawF ns bs).1.2 = 0) : (drawF ns bs).2.length < bs.length := by
 have hr : rt ns = true := by
  cases hr : rt ns with
  | true => rfl
  | false => unfold ks at hm; rw [hr] at hm; cases hm
 have hb : bitsN ns ≥ 15 := by
  unfold ks at hm
  rw [hr, cond_true] at hm
  cases h1 : bitN ns 0 with
  | false => rw [h1] at hm; cases hm
  | true =>
   rw [h1, cond_true] at hm
   rcases Nat.lt_or_ge (bitsN ns) 15 with h | h
   ·rw [condF (by rw [decide_eq_false_iff_not]; omega)] at hm
    cases hm
   ·exact h
 unfold bitsN at hb
 rw [if_pos hr] at hb
 have hn : num B ns - 1 ≠ 0 := fun e => by
  have : bl (num B ns) ≤ 1 := bl_le (by omega)
  omega
 have hl : ns.length ≠ 0 := fun e => by
  rw [List.length_eq_zero_iff.1 e] at hn
  exact hn rfl
 unfold drawF at *
 rw [if_pos ⟨hr, hl⟩, if_neg hn] at h0 ⊢
 unfold toldD at *
 generalize hd : drawn (bl (num B ns - 1)) (num B ns) bs = r at *
 have := (ky1 (w := bl (num B ns - 1)) (n := num B ns) bs.length (Nat.le_refl _)).2
 rw [hd] at this
 refine this ?_
 cases r1 : r.1 with
 | none => rw [r1] at h0; cases h0
 | some x => rfl
theorem kzi (hm : ks ns = true) (hl : ns.length ≤ 63) : ∀ (L : Nat) (bs : List Nat), bs.length ≤ L → ∀ {h : AH} {s u : Sl}, TapeA h S i bs → Nats h s ns → Av s i ns → Nats h u ms → Av u i ms →
  Runs (go (.pt F.kft Td.koz [(0, s.v), (1, u.v), (2, .ptr (some (.new i 0)))]) h) (DrawP TapeA h S i (drawsF ns ms bs)) := by
 intro L
 induction L with
 | zero =>
  intro bs hbs h s u t n av m au
  rw [ks8]
  obtain ⟨_, h1, e1, s1, rfl, n1, o1, t1, m1⟩ := kut t n av (.inl hl)
  refine Runs.step e1 (Runs.step rfl (Runs.step (seen (asSl_v _)) (Runs.step (seen (kb _ _)) ?_)))
  refine Runs.cond (fun c => ?_) (fun c => ?_)
  ·have c : (drawF ns bs).1.2 ≠ 0 := by simpa using c
   rw [drawsF, if_pos c]
   exact Runs.ret ⟨⟨none, 0, .is 0⟩, rfl, Nats.nil _, Own.nil _, t1, m1⟩
  ·have c : (drawF ns bs).1.2 = 0 := by simpa using c
   have := koh hm c
   omega
 | succ L ih =>
  intro bs hbs h s u t n av m au
  rw [ks8]
  obtain ⟨_, h1, e1, s1, rfl, n1, o1, t1, m1⟩ := kut t n av (.inl hl)
  refine Runs.step e1 (Runs.step rfl (Runs.step (seen (asSl_v _)) (Runs.step (seen (kb _ _)) ?_)))
  refine Runs.cond (fun c => ?_) (fun c => ?_)
  ·have c : (drawF ns bs).1.2 ≠ 0 := by simpa using c
   rw [drawsF, if_pos c]
   exact Runs.ret ⟨⟨none, 0, .is 0⟩, rfl, Nats.nil _, Own.nil _, t1, m1⟩
  ·have c : (drawF ns bs).1.2 = 0 := by simpa using c
   have hd := koh hm c
   have n' := n.md m1 fun j hj => by subst hj; exact av
   have m' := m.md m1 fun j hj => by subst hj; exact au
   obtain ⟨_, h2, e2, rfl, g2⟩ := kur n1 n' n'
   refine Runs.step e2 (Runs.step (seen rfl) ?_)
   refine Runs.cond (fun c2 => ?_) (fun c2 => ?_)
   ·obtain ⟨_, h3, e3, s3, rfl, n3, g3, o3⟩ := k08 (n'.grow g2) (m'.grow g2) (n1.grow g2)
    refine Runs.step e3 (Runs.step rfl (Runs.step (seen (asSl_v _)) (Runs.step (seen (kb _ _)) ?_)))
    rw [drawsF, if_neg (by simpa using c), if_pos c2]
    exact Runs.ret ⟨s3, rfl, n3, o3.md (m1.thenG g2), t1.grow (g2.trans g3), m1.thenG (g2.trans g3)⟩
   ·rw [drawsF, if_neg (by simpa using c), if_neg (by rw [c2]; decide), dif_pos hd]
    exact DrawP.next (m1.thenG g2) (ih _ (by omega) (t1.grow g2) (n'.grow g2) av (m'.grow g2) au)
theorem kzc (hm : ks ns = true) (hl : ns.length ≤ 63) : ∀ (L : Nat) (bs : List Nat), bs.length ≤ L → ∀ {h : AH} {s u : Sl}, TapeB h S i bs → Nats h s ns → Av s i ns → Nats h u ms → Av u i ms →
  Runs (go (.pt F.kfk Td.knd [(0, s.v), (1, u.v), (2, .ptr (some (.new i 0)))]) h) (DrawP TapeB h S i (drawsF ns ms bs)) := by
 intro L
 induction L with
 | zero =>
  intro bs hbs h s u t n av m au
  rw [ku1]
  obtain ⟨_, h1, e1, s1, rfl, n1, o1, t1, m1⟩ := kwo t n av (.inl hl)
  refine Runs.step e1 (Runs.step rfl (Runs.step (seen (asSl_v _)) (Runs.step (seen (kb _ _)) ?_)))
  refine Runs.cond (fun c => ?_) (fun c => ?_)
  ·have c : (drawF ns bs).1.2 ≠ 0 := by simpa using c
   rw [drawsF, if_pos c]
   exact Runs.ret ⟨⟨none, 0, .is 0⟩, rfl, Nats.nil _, Own.nil _, t1, m1⟩
  ·have c : (drawF ns bs).1.2 = 0 := by simpa using c
   have := koh hm c
   omega
 | succ L ih =>
  intro bs hbs h s u t n av m au
  rw [ku1]
  obtain ⟨_, h1, e1, s1, rfl, n1, o1, t1, m1⟩ := kwo t n av (.inl hl)
  refine Runs.step e1 (Runs.step rfl (Runs.step (seen (asSl_v _)) (Runs.step (seen (kb _ _)) ?_)))
  refine Runs.cond (fun c => ?_) (fun c => ?_)
  ·have c : (drawF ns bs).1.2 ≠ 0 := by simpa using c
   rw [drawsF, if_pos c]
   exact Runs.ret ⟨⟨none, 0, .is 0⟩, rfl, Nats.nil _, Own.nil _, t1, m1⟩
  ·have c : (drawF ns bs).1.2 = 0 := by simpa using c
   have hd := koh hm c
   have n' := n.md m1 fun j hj => by subst hj; exact av
   have m' := m.md m1 fun j hj => by subst hj; exact au
   obtain ⟨_, h2, e2, rfl, g2⟩ := ktl n1 n' n'
   refine Runs.step e2 (Runs.step (seen rfl) ?_)
   refine Runs.cond (fun c2 => ?_) (fun c2 => ?_)
   ·obtain ⟨_, h3, e3, s3, rfl, n3, g3, o3⟩ := k86 (n'.grow g2) (m'.grow g2) (n1.grow g2)
    refine Runs.step e3 (Runs.step rfl (Runs.step (seen (asSl_v _)) (Runs.step (seen (kb _ _)) ?_)))
    rw [drawsF, if_neg (by simpa using c), if_pos c2]
    exact Runs.ret ⟨s3, rfl, n3, o3.md (m1.thenG g2), t1.grow (g2.trans g3), m1.thenG (g2.trans g3)⟩
   ·rw [drawsF, if_neg (by simpa using c), if_neg (by rw [c2]; decide), dif_pos hd]
    exact DrawP.next (m1.thenG g2) (ih _ (by omega) (t1.grow g2) (n'.grow g2) av (m'.grow g2) au)
noncomputable def drawA (ns ms bs : List Nat) : (List Nat × Int) × List Nat :=
 if ks ns = true then (if kcg ns ms = true then drawsF ns ms bs else (([], 10), bs)) else (([], 1), bs)
theorem k6o (hl : ns.length ≤ 63) {bs : List Nat} {h : AH} {s u : Sl} (t : TapeA h S i bs) (n : Nats h s ns) (av : Av s i ns) (m : Nats h u ms) (au : Av u i ms) :
  Runs (go (.fn F.kft [s.v, u.v, .ptr (some (.new i 0))]) h) (DrawP TapeA h S i (drawA ns ms bs)) := by
 rw [kuw]
 unfold drawA
 obtain ⟨_, h1, e1, rfl, g1⟩ := krk n
 refine Runs.step e1 (Runs.step (seen rfl) ?_)
 refine Runs.cond (fun c => ?_) (fun c => ?_)
 ·rw [if_neg (by simpa using c)]
  exact Runs.ret ⟨⟨none, 0, .is 0⟩, rfl, Nats.nil _, Own.nil _, t.grow g1, g1.md _⟩
 ·have c : ks ns = true := by simpa using c
  rw [if_pos c]
  obtain ⟨_, h2, e2, rfl, g2⟩ := kqs (n.grow g1) (m.grow g1)
  refine Runs.step e2 (Runs.step (seen rfl) ?_)
  have G := g1.trans g2
  refine Runs.cond (fun c2 => ?_) (fun c2 => ?_)
  ·rw [if_neg (by simpa using c2)]
   exact Runs.ret ⟨⟨none, 0, .is 0⟩, rfl, Nats.nil _, Own.nil _, t.grow G, G.md _⟩
  ·rw [if_pos (by simpa using c2)]
   refine Runs.ifF rfl ?_
   exact DrawP.next (G.md _) (kzi c hl _ bs (Nat.le_refl _) (t.grow G) (n.grow G) av (m.grow G) au)
theorem k8u (hl : ns.length ≤ 63) {bs : List Nat} {h : AH} {s u : Sl} (t : TapeB h S i bs) (n : Nats h s ns) (av : Av s i ns) (m : Nats h u ms) (au : Av u i ms) :
  Runs (go (.fn F.kfk [s.v, u.v, .ptr (some (.new i 0))]) h) (DrawP TapeB h S i (drawA ns ms bs)) := by
 rw [kv1]
 unfold drawA
 obtain ⟨_, h1, e1, rfl, g1⟩ := kr5 n
 refine Runs.step e1 (Runs.step (seen rfl) ?_)
 refine Runs.cond (fun c => ?_) (fun c => ?_)
 ·rw [if_neg (by simpa using c)]
  exact Runs.ret ⟨⟨none, 0, .is 0⟩, rfl, Nats.nil _, Own.nil _, t.grow g1, g1.md _⟩
 ·have c : ks ns = true := by simpa using c
  rw [if_pos c]
  obtain ⟨_, h2, e2, rfl, g2⟩ := kr2 (n.grow g1) (m.grow g1)
  refine Runs.step e2 (Runs.step (seen rfl) ?_)
  have G := g1.trans g2
  refine Runs.cond (fun c2 => ?_) (fun c2 => ?_)
  ·rw [if_neg (by simpa using c2)]
   exact Runs.ret ⟨⟨none, 0, .is 0⟩, rfl, Nats.nil _, Own.nil _, t.grow G, G.md _⟩
  ·rw [if_pos (by simpa using c2)]
   refine Runs.ifF rfl ?_
   exact DrawP.next (G.md _) (kzc c hl _ bs (Nat.le_refl _) (t.grow G) (n.grow G) av (m.grow G) au)
noncomputable def drawNo (ns ms : List Nat) : Int := if ks ns = true then (if kcg ns ms = true then 1 else 10) else 1
theorem k19 {h : AH} {s u : Sl} (n : Nats h s ns) (m : Nats h u ms) : Runs (go (.fn F.kft [s.v, u.v, .ptr none]) h) fun v h' => v = .tup [(⟨none, 0, .is 0⟩ : Sl).v, .int .i64 (drawNo ns ms)] ∧ Grow h h' := by
 rw [kuw]
 unfold drawNo
 obtain ⟨_, h1, e1, rfl, g1⟩ := krk n
 refine Runs.step e1 (Runs.step (seen rfl) ?_)
 refine Runs.cond (fun c => ?_) (fun c => ?_)
 ·rw [if_neg (by simpa using c)]
  exact Runs.ret ⟨rfl, g1⟩
 ·rw [if_pos (by simpa using c)]
  obtain ⟨_, h2, e2, rfl, g2⟩ := kqs (n.grow g1) (m.grow g1)
  refine Runs.step e2 (Runs.step (seen rfl) ?_)
  refine Runs.cond (fun c2 => ?_) (fun c2 => ?_)
  ·rw [if_neg (by simpa using c2)]
   exact Runs.ret ⟨rfl, g1.trans g2⟩
  ·rw [if_pos (by simpa using c2)]
   exact Runs.ifT rfl (Runs.ret ⟨rfl, g1.trans g2⟩)
theorem k4n {h : AH} {s u : Sl} (n : Nats h s ns) (m : Nats h u ms) : Runs (go (.fn F.kfk [s.v, u.v, .ptr none]) h) fun v h' => v = .tup [(⟨none, 0, .is 0⟩ : Sl).v, .int .i64 (drawNo ns ms)] ∧ Grow h h' := by
 rw [kv1]
 unfold drawNo
 obtain ⟨_, h1, e1, rfl, g1⟩ := kr5 n
 refine Runs.step e1 (Runs.step (seen rfl) ?_)
 refine Runs.cond (fun c => ?_) (fun c => ?_)
 ·rw [if_neg (by simpa using c)]
  exact Runs.ret ⟨rfl, g1⟩
 ·rw [if_pos (by simpa using c)]
  obtain ⟨_, h2, e2, rfl, g2⟩ := kr2 (n.grow g1) (m.grow g1)
  refine Runs.step e2 (Runs.step (seen rfl) ?_)
  refine Runs.cond (fun c2 => ?_) (fun c2 => ?_)
  ·rw [if_neg (by simpa using c2)]
   exact Runs.ret ⟨rfl, g1.trans g2⟩
  ·rw [if_pos (by simpa using c2)]
   exact Runs.ifT rfl (Runs.ret ⟨rfl, g1.trans g2⟩)
end
theorem kbam {h : AH} {S : Fp} {i : Nat} {bs : List Nat} (t : TapeA h S i bs) : go (.fn F.kmv [.ptr (some (.new i 0))]) h = some (.int .i64 (bs.length : Int), h) := by
 obtain ⟨hz, hS, hlen, s, b, n⟩ := t
 have : Runs (go (.fn F.kmv [.ptr (some (.new i 0))]) h) fun v h' => v = .int .i64 (bs.length : Int) ∧ h' = h := by
  rw [kbb5]
  refine Runs.step rfl (Runs.step (b.rd 0 rfl (asSl_v _)) ?_)
  exact Runs.ret ⟨by rw [n.len], rfl⟩
 obtain ⟨_, _, e, rfl, rfl⟩ := this
 exact e
theorem k3t {h : AH} {S : Fp} {i : Nat} {bs : List Nat} (t : TapeB h S i bs) : go (.fn F.kno [.ptr (some (.new i 0))]) h = some (.int .i64 (bs.length : Int), h) := by
 obtain ⟨hz, hS, s, all, u, hlen, hu, rfl, b, n⟩ := t
 have : Runs (go (.fn F.kno [.ptr (some (.new i 0))]) h) fun v h' => v = .int .i64 ((all.drop u).length : Int) ∧ h' = h := by
  rw [k3x]
  refine Runs.step rfl (Runs.step (b.rd 0 rfl (asSl_v _)) (Runs.step rfl (Runs.step (b.rd 1 rfl (kb _ _)) ?_)))
  refine Runs.ret ⟨?_, rfl⟩
  rw [n.len, IntKind.wrap_i64, List.length_drop]
  congr 1
  omega
 obtain ⟨_, _, e, rfl, rfl⟩ := this
 exact e
theorem PaillierDraws_law (h : AH) {x0 x1 x2 : AV} (z0 : ArgV Pg h T.kr x0) (z1 : ArgV Pg h T.kr x1) (z2 : ArgV Pg h T.kr7 x2) : ∃ h', go (.fn F.kpp [x0, x1, x2]) h = some (.bool true, h') := by
 obtain ⟨s, ns, rfl, n⟩ := kwk z0
 obtain ⟨t, ms, rfl, m⟩ := kwk z1
 obtain ⟨u, bs, rfl, b⟩ := k76 z2
 suffices H : Runs (go (.fn F.kpp [s.v, t.v, u.v]) h) fun v _ => v = .bool true by
  obtain ⟨_, h', e, rfl⟩ := H
  exact ⟨h', e⟩
 rw [ky3]
 refine Runs.new fun h4 b4 g4 => ?_
 obtain ⟨_, h5, e5, rfl, g5⟩ := k0g (Seq.lit (E := El.nats) (rows := [[s.v], [t.v]]) (n := 2) b4 (.cons ⟨_, rfl, n.grow g4⟩ (.cons ⟨_, rfl, m.grow g4⟩ .nil)) rfl) (by simp)
 refine Runs.step e5 (Runs.step (seen rfl) ?_)
 refine Runs.cond (fun c => Runs.ret rfl) (fun c => ?_)
 have hl : ns.length ≤ 20 := by
  simp [few06] at c
  exact c.1
 obtain ⟨h7, e7, g7⟩ := k35 (h := h5)
 refine Runs.step e7 (Runs.step (seen rfl) ?_)
 have G7 := (g4.trans g5).trans g7
 obtain ⟨_, h9, e9, g9, d9⟩ := kba3 (b.grow G7)
 refine Runs.step e9 ?_
 rcases d9 with ⟨hb, rfl⟩ | ⟨hb, i, rfl, tA⟩
 ·refine Runs.step rfl (Runs.step (seen rfl) (Runs.step (seen (kb _ _)) ?_))
  obtain ⟨_, h13, e13, g13, d13⟩ := kv9 (b.grow (G7.trans g9))
  refine Runs.step e13 ?_
  rcases d13 with ⟨_, rfl⟩ | ⟨hb', _⟩
  ·refine Runs.step rfl (Runs.step (seen rfl) (Runs.step (seen (kb _ _)) ?_))
   refine Runs.ifF rfl (Runs.ifF rfl (Runs.ifF rfl ?_))
   have G := (G7.trans g9).trans g13
   obtain ⟨_, h17, e17, rfl, g17⟩ := k19 (n.grow G) (m.grow G)
   refine Runs.step e17 (Runs.step rfl (Runs.step (seen (asSl_v _)) (Runs.step (seen (kb _ _)) ?_)))
   obtain ⟨_, h21, e21, rfl, g21⟩ := k4n (n.grow (G.trans g17)) (m.grow (G.trans g17))
   refine Runs.step e21 (Runs.step rfl (Runs.step (seen (asSl_v _)) (Runs.step (seen (kb _ _)) ?_)))
   refine Runs.step (kul (Nats.nil h21) (Nats.nil h21)) (Runs.step (seen rfl) ?_)
   refine Runs.ifT rfl (Runs.ifT (by simp) (Runs.ifT rfl (Runs.ret rfl)))
  ·omega
 ·refine Runs.step rfl (Runs.step (seen rfl) (Runs.step (seen (kb _ _)) ?_))
  obtain ⟨_, h13, e13, g13, d13⟩ := kv9 (b.grow (G7.trans g9))
  refine Runs.step e13 ?_
  rcases d13 with ⟨hb', _⟩ | ⟨_, k, rfl, tB⟩
  ·omega
  ·refine Runs.step rfl (Runs.step (seen rfl) (Runs.step (seen (kb _ _)) ?_))
   refine Runs.ifF rfl (Runs.ifF rfl (Runs.ifF rfl ?_))
   have G := (G7.trans g9).trans g13
   have hi : h.blks.size ≤ i := Nat.le_trans G7.size tA.2.1.1
   have hk : h.blks.size ≤ k := Nat.le_trans (G7.trans g9).size tB.2.1.1
   have ik : i < h9.blks.size := tA.lt
   have kk : h9.blks.size ≤ k := tB.2.1.1
   obtain ⟨_, h17, e17, s17, rfl, n17, o17, t17, m17⟩ := k6o (by omega) (tA.grow g13) (n.grow G) (Av.of_base n hi) (m.grow G) (Av.of_base m hi)
   refine Runs.step e17 (Runs.step rfl (Runs.step (seen (asSl_v _)) (Runs.step (seen (kb _ _)) ?_)))
   have tB' := tB.md m17 fun j hj e => by
    subst e
    exact absurd hj.1 (by omega)
   have av : ∀ {s : Sl} {xs : List Nat}, Nats h s xs → ∀ j, j = i → Av s j xs := fun n j e => by subst e; exact Av.of_base n hi
   obtain ⟨_, h21, e21, s21, rfl, n21, o21, t21, m21⟩ := k8u (by omega) tB' ((n.grow G).md m17 (av n)) (Av.of_base n hk) ((m.grow G).md m17 (av m)) (Av.of_base m hk)
   refine Runs.step e21 (Runs.step rfl (Runs.step (seen (asSl_v _)) (Runs.step (seen (kb _ _)) ?_)))
   have n17' := n17.md m21 fun j e => by
    subst e
    exact Av.of_own o17 (by have := tB.lt; omega)
   refine Runs.step (kul n17' n21) (Runs.step (seen rfl) ?_)
   have t17' := t17.md m21 fun j hj e => by
    subst e
    exact absurd hj.2 (by omega)
   refine Runs.ifT rfl (Runs.ifT (by simp) (Runs.ifF rfl ?_))
   refine Runs.step (kbam t17') (Runs.step (seen (kb _ _)) (Runs.step (k3t t21) (Runs.step (seen (kb _ _)) ?_)))
   exact Runs.ret (by simp)
end Go.Ab
