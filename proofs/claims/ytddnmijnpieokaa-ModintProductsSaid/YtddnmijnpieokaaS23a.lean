/- Layer 1: what the long product is made of. -/
import Derived.Test.YtddnmijnpieokaaS22
set_option linter.unusedVariables false
set_option linter.unusedSimpArgs false
set_option maxRecDepth 10000
namespace Go.Ab
open Go.Proofs Go.Num

@[reducible] def halvesV (p : Ref) : AV := .func (.func F.nat_product_1) [] [.ptr (some p)]

theorem callV_halves (p : Ref) (x y : AV) (h : AH) : callV Pg go (halvesV p) [x, y] h = go (.fn F.nat_product_1 [x, y, .ptr (some p)]) h := by kernel_rfl

theorem Grow.same_cell {h h' : AH} (g : Grow h h') {p : Ref} {v : AV} (c : h.cell p = some v) : SameAt h h' p 1 := fun j hj => by
  have : j = 0 := by omega
  subst this
  rw [Ref.add_zero, c, g.cell_some c]

theorem copy_vec {h : AH} {s d : Sl} {i : Nat} {xs ys : List Nat} (n : Nats h s xs) (v : Vec h d i ys) (hl : xs.length ≤ ys.length) : ∃ h', copyH s d 1 h = some h' ∧ Vec h' d i (xs ++ ys.drop xs.length) ∧ Upd h h' i := by
  have hd : d.ref = some (.new i 0) := by rw [v.is]
  have hdl : d.len = ys.length := v.len
  have hg := n.cells.gets
  unfold copyH
  rw [hd]
  cases hs : s.ref with
  | none =>
    have : xs = [] := by
      cases xs with
      | nil => rfl
      | cons x xs =>
        obtain ⟨r, e, _⟩ := n.cells.get 0 _ rfl
        rw [hs] at e
        cases e
    subst this
    exact ⟨h, rfl, by simpa using v, (Grow.refl h).toUpd i⟩
  | some r =>
    rw [hs, n.len] at hg
    simp only [AH.getsO] at hg
    dsimp only
    rw [n.len, hdl, Nat.min_eq_left hl, hg, Option.bind_some]
    obtain ⟨e, b⟩ := v.has
    rw [b.puts (by simp; omega)]
    have e1 : (ys.map u64).take 0 ++ xs.map u64 ++ (ys.map u64).drop (0 + (xs.map u64).length) = (xs ++ ys.drop xs.length).map u64 := by
      simp [List.map_drop]
    rw [e1]
    refine ⟨_, rfl, ⟨?_, ⟨e, AH.has_upd b _ _⟩, ?_, ?_⟩, AH.upd_Upd h i _ e⟩
    · have : (xs ++ ys.drop xs.length).length = ys.length := by simp; omega
      rw [this]
      exact v.is
    · intro z hz
      rcases List.mem_append.1 hz with h1 | h1
      · exact n.lt z h1
      · exact v.lt z (List.mem_of_mem_drop h1)
    · have := v.short
      simp
      omega

theorem product_low {h : AH} {s : Sl} {xs : List Nat} {p : Ref} {k : Nat} (n : Nats h s xs) (c : h.cell p = some (.int .i64 (k : Int))) : ∃ s', go (.fn F.nat_product_1_1 [s.v, .ptr (some p)]) h = some (s'.v, h) ∧ Nats h s' (digs B (num B (xs.take (min k xs.length)))) := by
  rw [u_nat_product_1_1, c, Option.bind_some, avInt_int, Option.bind_some, imin_eq, n.len]
  obtain ⟨s1, e1, n1, _⟩ := n.cut (l := 0) (n := min k xs.length) (by omega) (by omega)
  rw [show min (k : Int) (xs.length : Int) = ((min k xs.length : Nat) : Int) from by omega, show (0 : Int) = ((0 : Nat) : Int) from rfl, e1, Option.bind_some]
  obtain ⟨s2, e2, n2, _⟩ := nat_trim_spec n1
  rw [e2, Option.bind_some, Option.bind_some, asSl_v, Option.bind_some]
  exact ⟨s2, rfl, by simpa using n2⟩

theorem product_high {h : AH} {s : Sl} {xs : List Nat} {p : Ref} {k : Nat} (n : Nats h s xs) (c : h.cell p = some (.int .i64 (k : Int))) : ∃ s', go (.fn F.nat_product_1_2 [s.v, .ptr (some p)]) h = some (s'.v, h) ∧ Nats h s' (xs.drop (min k xs.length)) := by
  rw [u_nat_product_1_2, c, Option.bind_some, avInt_int, Option.bind_some, imin_eq, n.len]
  obtain ⟨s1, e1, n1, _⟩ := n.cut (l := min k xs.length) (n := xs.length) (by omega) (by omega)
  rw [show min (k : Int) (xs.length : Int) = ((min k xs.length : Nat) : Int) from by omega, e1, Option.bind_some]
  refine ⟨s1, rfl, ?_⟩
  rwa [List.take_of_length_le (by simp)] at n1

end Go.Ab
