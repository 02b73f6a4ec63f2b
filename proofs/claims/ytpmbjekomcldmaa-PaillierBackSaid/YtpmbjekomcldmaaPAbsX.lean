/- Slices of values: read, grown. -/
import Derived.Test.YtpmbjekomcldmaaPAbsP
import Derived.Test.YtpmbjekomcldmaaPS42

set_option linter.unusedVariables false
set_option linter.unusedSimpArgs false
namespace Go.Ab

variable {P : Program}

inductive All2 {α β : Type} (R : α → β → Prop) : List α → List β → Prop
  | nil : All2 R [] []
  | cons {a : α} {b : β} {ls : List α} {bs : List β} : R a b → All2 R ls bs → All2 R (a :: ls) (b :: bs)

section
variable {α β : Type} {R S : α → β → Prop}
theorem All2.imp (f : ∀ a b, R a b → S a b) {ls : List α} {bs : List β} (a : All2 R ls bs) : All2 S ls bs := by
  induction a with
  | nil => exact .nil
  | cons h _ ih => exact .cons (f _ _ h) ih
theorem All2.length {ls : List α} {bs : List β} (a : All2 R ls bs) : ls.length = bs.length := by
  induction a with
  | nil => rfl
  | cons h _ ih => simp [ih]
theorem All2.get {ls : List α} {bs : List β} (a : All2 R ls bs) : ∀ {i : Nat} {y : β}, bs[i]? = some y → ∃ x, ls[i]? = some x ∧ R x y := by
  induction a with
  | nil => intro i y h; simp at h
  | cons h _ ih =>
    intro i y hy
    cases i with
    | zero => cases hy; exact ⟨_, rfl, h⟩
    | succ i => exact ih hy
theorem All2.snoc {ls : List α} {bs : List β} (a : All2 R ls bs) {x : α} {y : β} (h : R x y) : All2 R (ls ++ [x]) (bs ++ [y]) := by
  induction a with
  | nil => exact .cons h .nil
  | cons h' _ ih => exact .cons h' ih
end

/-- What a list's element is: its cells say a value. -/
structure El (α : Type) where
  w : Nat
  pos : 0 < w
  has : AH → List AV → α → Prop
  av : Nat → List AV → α → Prop
  len : ∀ {h : AH} {cs : List AV} {a : α}, has h cs a → cs.length = w
  grow : ∀ {h h' : AH} {cs : List AV} {a : α}, Grow h h' → has h cs a → has h' cs a
  upd : ∀ {h h' : AH} {i : Nat} {cs : List AV} {a : α}, has h cs a → av i cs a → Upd h h' i → has h' cs a
  new : ∀ {h : AH} {i : Nat} {cs : List AV} {a : α}, has h cs a → h.blks.size ≤ i → av i cs a

def El.int (k : IntKind) : El Int where
  w := 1
  pos := by decide
  has _ cs n := cs = [.int k n]
  av _ _ _ := True
  len e := by rw [e]; rfl
  grow _ e := e
  upd e _ _ := e
  new _ _ := trivial

def El.bool : El Bool where
  w := 1
  pos := by decide
  has _ cs b := cs = [.bool b]
  av _ _ _ := True
  len e := by rw [e]; rfl
  grow _ e := e
  upd e _ _ := e
  new _ _ := trivial

theorem Sl.vs_inj {s t : Sl} (h : [Sl.v s] = [Sl.v t]) : s = t := by
  cases s; cases t
  simp only [Sl.v, List.cons.injEq, AV.slice.injEq, and_true] at h
  obtain ⟨rfl, rfl, rfl⟩ := h
  rfl

def El.nats : El (List Nat) where
  w := 1
  pos := by decide
  has h cs xs := ∃ s, cs = [Sl.v s] ∧ Nats h s xs
  av i cs xs := ∃ s, cs = [Sl.v s] ∧ Av s i xs
  len := fun ⟨s, e, _⟩ => by rw [e]; rfl
  grow g := fun ⟨s, e, n⟩ => ⟨s, e, n.grow g⟩
  upd := fun ⟨s, e, n⟩ ⟨t, e', a⟩ u => by
    rw [e] at e'
    cases Sl.vs_inj e'
    exact ⟨s, e, n.upda a u⟩
  new := fun ⟨s, e, n⟩ hi => ⟨s, e, Av.of_base n hi⟩

def El.pair {α β : Type} (A : El α) (B : El β) : El (α × β) where
  w := A.w + B.w
  pos := by have := A.pos; omega
  has h cs p := ∃ c1 c2, cs = c1 ++ c2 ∧ A.has h c1 p.1 ∧ B.has h c2 p.2
  av i cs p := ∃ c1 c2, cs = c1 ++ c2 ∧ c1.length = A.w ∧ A.av i c1 p.1 ∧ B.av i c2 p.2
  len := fun ⟨c1, c2, e, a, b⟩ => by rw [e, List.length_append, A.len a, B.len b]
  grow g := fun ⟨c1, c2, e, a, b⟩ => ⟨c1, c2, e, A.grow g a, B.grow g b⟩
  upd := fun ⟨c1, c2, e, a, b⟩ ⟨d1, d2, e', l, a', b'⟩ u => by
    rw [e] at e'
    obtain ⟨rfl, rfl⟩ := List.append_inj e' (by rw [A.len a, l])
    exact ⟨c1, c2, e, A.upd a a' u, B.upd b b' u⟩
  new := fun ⟨c1, c2, e, a, b⟩ hi => ⟨c1, c2, e, A.len a, A.new a hi, B.new b hi⟩

theorem flat_len {w : Nat} : ∀ {rows : List (List AV)}, (∀ r ∈ rows, r.length = w) → rows.flatten.length = rows.length * w
  | [], _ => by simp
  | r :: rows, h => by
    rw [List.flatten_cons, List.length_append, flat_len (fun q hq => h q (by simp [hq])), h r (by simp), List.length_cons, Nat.add_mul]
    omega

theorem flat_get {w : Nat} : ∀ {rows : List (List AV)}, (∀ r ∈ rows, r.length = w) → ∀ {i : Nat} {r : List AV} {k : Nat} {v : AV}, rows[i]? = some r → r[k]? = some v → rows.flatten[i * w + k]? = some v
  | [], _, i, r, k, v, hi, _ => by simp at hi
  | q :: rows, h, 0, r, k, v, hi, hk => by
    cases hi
    rw [List.flatten_cons, List.getElem?_append_left (by have := (List.getElem?_eq_some_iff.1 hk).1; omega)]
    simpa using hk
  | q :: rows, h, i + 1, r, k, v, hi, hk => by
    have := flat_get (fun q hq => h q (by simp [hq])) (show rows[i]? = some r from hi) hk
    rw [List.flatten_cons, List.getElem?_append_right (by rw [h q (by simp), Nat.add_mul]; omega), h q (by simp), show (i + 1) * w + k - w = i * w + k from by rw [Nat.add_mul]; omega]
    exact this

theorem All2.rows {α : Type} {E : El α} {h : AH} {rows : List (List AV)} {xs : List α} (a : All2 (E.has h) rows xs) : ∀ r ∈ rows, r.length = E.w := by
  induction a with
  | nil => simp
  | cons h' _ ih =>
    intro r hr
    rcases List.mem_cons.1 hr with rfl | hr
    · exact E.len h'
    · exact ih r hr

/-- A slice of values. -/
structure Seq {α : Type} (E : El α) (h : AH) (s : Sl) (xs : List α) : Prop where
  rows : ∃ rows, Cells h s E.w rows.flatten ∧ All2 (E.has h) rows xs
  len : s.len = xs.length
  short : xs.length ≤ 9223372036854775807

theorem Seq.grow {α : Type} {E : El α} {h h' : AH} {s : Sl} {xs : List α} (n : Seq E h s xs) (g : Grow h h') : Seq E h' s xs := by
  obtain ⟨⟨rows, c, a⟩, l, sh⟩ := n
  exact ⟨⟨rows, c.grow g, a.imp fun _ _ => E.grow g⟩, l, sh⟩

theorem Seq.nil {α : Type} (E : El α) (h : AH) : Seq E h ⟨none, 0, .is 0⟩ [] := ⟨⟨[], Cells.nil h _, .nil⟩, rfl, by simp⟩

def atX {α : Type} (xs : List α) (i : Int) : Option α := if 0 ≤ i then xs[i.toNat]? else none
theorem atX_some {α : Type} {xs : List α} {i : Int} {y : α} (q : atX xs i = some y) : ∃ j : Nat, i = (j : Int) ∧ xs[j]? = some y := by
  unfold atX at q
  split at q
  · exact ⟨i.toNat, by omega, q⟩
  · cases q
theorem atX_nat {α : Type} {xs : List α} {i : Nat} (h : i < xs.length) : atX xs (i : Int) = some xs[i] := by
  unfold atX
  rw [if_pos (by omega), Int.toNat_natCast, List.getElem?_eq_getElem h]

/-- Where an element lies. -/
structure Lies (h : AH) (r : Ref) (cs : List AV) : Prop where
  at' : ∀ k v, cs[k]? = some v → h.cell (r.add k) = some v

theorem Lies.rd {A : Type} {f : AV → Option A} {h h' : AH} {r : Ref} {cs : List AV} (l : Lies h r cs) (g : Grow h h') (k : Nat) {v : AV} {x : A} (hk : cs[k]? = some v) (hf : f v = some x) : (h'.cell (r.add k)).bind f = some x := by
  rw [g.cell_some (l.at' k v hk)]
  exact hf
theorem Lies.rd0 {A : Type} {f : AV → Option A} {h h' : AH} {r : Ref} {cs : List AV} (l : Lies h r cs) (g : Grow h h') {v : AV} {x : A} (hk : cs[0]? = some v) (hf : f v = some x) : (h'.cell r).bind f = some x := by
  have := l.rd g 0 hk hf
  rwa [Ref.add_zero] at this

theorem Seq.at {α : Type} {E : El α} {h : AH} {s : Sl} {xs : List α} (n : Seq E h s xs) {i : Int} {y : α} (q : atX xs i = some y) : ∃ (r : Ref) (cs : List AV), idx s.ref xs.length i E.w = some r ∧ E.has h cs y ∧ Lies h r cs := by
  obtain ⟨⟨rows, c, a⟩, l, sh⟩ := n
  obtain ⟨j, rfl, hj⟩ := atX_some q
  obtain ⟨cs, e1, e2⟩ := a.get hj
  have hjl := (List.getElem?_eq_some_iff.1 hj).1
  have hr := a.rows
  have key : ∀ k v, cs[k]? = some v → ∃ r, s.ref = some r ∧ h.cell (r.add (j * E.w + k)) = some v := fun k v hk => c.get _ _ (flat_get hr e1 hk)
  cases hs : s.ref with
  | none =>
    exfalso
    cases cs with
    | nil => have := E.len e2; have := E.pos; simp at *; omega
    | cons v vs =>
      obtain ⟨r, e, _⟩ := key 0 v rfl
      rw [hs] at e
      cases e
  | some r =>
    refine ⟨r.add (j * E.w), cs, ?_, e2, ⟨fun k v hk => ?_⟩⟩
    · rw [idx_some _ _ _ _ (by omega) (by omega)]
      simp
    · obtain ⟨r', e, e'⟩ := key k v hk
      rw [hs] at e
      cases e
      rw [Ref.add_add]
      exact e'


/-! ### Growing ones -/
/-- A slice that grows in block i. -/
structure GL {α : Type} (E : El α) (elem : TypeId) (h : AH) (s : Sl) (i : Nat) (xs : List α) : Prop where
  rows : ∃ rows, Cells h s E.w rows.flatten ∧ All2 (fun cs a => E.has h cs a ∧ E.av i cs a) rows xs
  len : s.len = xs.length
  own : s.cap = .is s.len ∨ (s.ref = some (.new i 0) ∧ s.cap = .opn E.w ∧ ∃ bs, h.has i bs elem)
  loc : ∀ r, s.ref = some r → ∃ o, r = .new i o

theorem GL.nil {α : Type} (E : El α) (elem : TypeId) (h : AH) (i : Nat) : GL E elem h ⟨none, 0, .is 0⟩ i [] :=
  ⟨⟨[], Cells.nil h _, .nil⟩, rfl, .inl rfl, fun r hr => by cases hr⟩

theorem GL.one {α : Type} {E : El α} {elem e : TypeId} {h : AH} {i : Nat} {cs : List AV} {x : α} (b : h.has i cs e) (c : E.has h cs x) (a : E.av i cs x) : GL E elem h ⟨some (.new i 0), 1, .is 1⟩ i [x] :=
  ⟨⟨[cs], Cells.of_has (by simpa using b) (by simp [E.len c]), .cons ⟨c, a⟩ .nil⟩, rfl, .inl rfl, fun r hr => by cases hr; exact ⟨_, rfl⟩⟩

theorem GL.grow {α : Type} {E : El α} {elem : TypeId} {h h' : AH} {s : Sl} {i : Nat} {xs : List α} (v : GL E elem h s i xs) (g : Grow h h') : GL E elem h' s i xs := by
  obtain ⟨⟨rows, c, a⟩, l, o, lo⟩ := v
  exact ⟨⟨rows, c.grow g, a.imp fun _ _ p => ⟨E.grow g p.1, p.2⟩⟩, l, o.imp id fun ⟨e1, e2, bs, b⟩ => ⟨e1, e2, bs, g.has b⟩, lo⟩

theorem GL.seq {α : Type} {E : El α} {elem : TypeId} {h : AH} {s : Sl} {i : Nat} {xs : List α} (v : GL E elem h s i xs) (hs : xs.length ≤ 9223372036854775807) : Seq E h s xs := by
  obtain ⟨⟨rows, c, a⟩, l, o, lo⟩ := v
  exact ⟨⟨rows, c, a.imp fun _ _ p => p.1⟩, l, hs⟩

theorem GL.own_of {α : Type} {E : El α} {elem : TypeId} {h h0 : AH} {s : Sl} {i : Nat} {xs : List α} (v : GL E elem h s i xs) (hi : h0.blks.size ≤ i) : Own h0 s := fun r hr => by
  obtain ⟨o, rfl⟩ := v.loc r hr
  exact ⟨i, o, rfl, hi⟩

theorem AH.kill_Upd (h : AH) (i : Nat) : Upd h (h.kill (some (.new i 0))) i :=
  ⟨rfl, by simp [AH.kill], fun j hj _ => by
    show (h.blks.setIfInBounds i .dead)[j]? = _
    rw [Array.getElem?_setIfInBounds_ne (fun x => hj x.symm)]⟩

theorem GL.push {α : Type} {E : El α} {elem : TypeId} {h : AH} {s : Sl} {i : Nat} {xs : List α} (v : GL E elem h s i xs) {cs : List AV} {x : α} (c : E.has h cs x) (a : E.av i cs x) (hg : growOk P (xs.length + 1) elem E.w = true) :
    ∃ s' h', appendH P s cs 1 elem E.w h = some (s'.v, h') ∧ GL E elem h' s' h.blks.size (xs ++ [x]) ∧ Upd h h' i := by
  obtain ⟨⟨rows, cc, aa⟩, l, o, lo⟩ := v
  rw [← l] at hg
  have fl : (s.len + 1) * E.w = (rows.flatten ++ cs).length := by rw [Nat.add_mul, cc.len, List.length_append, E.len c, Nat.one_mul]
  have fr : rows.flatten ++ cs = (rows ++ [cs]).flatten := by simp
  rcases o with e | ⟨e1, e2, bs, b⟩
  · rw [append_new e (by omega) hg cc]
    refine ⟨_, _, rfl, ⟨⟨rows ++ [cs], ⟨rfl, by rw [← fr]; exact fl, fun j w hw => ⟨_, rfl, ?_⟩⟩, ?_⟩, by simp [l], .inr ⟨rfl, rfl, rows.flatten ++ cs, AH.has_push _ _ _⟩, fun r hr => by cases hr; exact ⟨_, rfl⟩⟩, (Grow.push _ _).toUpd i⟩
    · rw [fr]
      simpa using hw
    · refine All2.snoc (aa.imp fun _ _ p => ?_) ⟨E.grow (Grow.push _ _) c, E.new c (Nat.le_refl _)⟩
      exact ⟨E.grow (Grow.push _ _) p.1, E.new p.1 (Nat.le_refl _)⟩
  · have hap : appendH P s cs 1 elem E.w h = some (Sl.v ⟨some (.new h.blks.size 0), s.len + 1, .opn E.w⟩, (h.kill s.ref).push (.cells (rows.flatten ++ cs) elem)) := by
      unfold appendH
      simp only [e2]
      rw [show Nat.beq 1 0 = false from rfl, show Nat.beq E.w E.w = true from Nat.beq_refl _]
      simp only [cond_false, hg, Bool.and_true, cond_true, e1, show h.blks[i]? = _ from b]
      have hgets := cc.gets
      rw [e1] at hgets
      simp only [hgets, Option.bind_some]
      rw [show Nat.beq elem elem = true from Nat.beq_refl _, cond_true]
      have : (AH.kill h (some (Ref.new i 0))).blks.size = h.blks.size := by simp [AH.kill]
      simp [AH.next, this, Sl.v]
      rfl
    rw [hap, e1]
    have sz : (h.kill (some (.new i 0))).blks.size = h.blks.size := by simp [AH.kill]
    have u : Upd h (h.kill (some (.new i 0))) i := AH.kill_Upd h i
    refine ⟨_, _, rfl, ⟨⟨rows ++ [cs], ⟨rfl, by rw [← fr]; exact fl, fun j w hw => ⟨_, rfl, ?_⟩⟩, ?_⟩, by simp [l], .inr ⟨rfl, rfl, rows.flatten ++ cs, ?_⟩, fun r hr => by cases hr; exact ⟨_, rfl⟩⟩, u.trans ((Grow.push _ _).toUpd i)⟩
    · rw [fr, ← sz]
      simpa using hw
    · refine All2.snoc (aa.imp fun _ _ p => ?_) ⟨E.grow (Grow.push _ _) (E.upd c a u), E.new c (Nat.le_refl _)⟩
      exact ⟨E.grow (Grow.push _ _) (E.upd p.1 p.2 u), E.new p.1 (Nat.le_refl _)⟩
    · have := AH.has_push (h.kill (some (.new i 0))) (rows.flatten ++ cs) elem
      rw [sz] at this
      exact this

theorem appendArgs_lit {h : AH} {i n : Nat} {cs : List AV} {e elem : TypeId} (b : h.has i cs e) (hl : n * P.cellsOf elem = cs.length) : appendArgs P elem (Sl.v ⟨some (.new i 0), n, .is n⟩) h = some (cs, n) :=
  appendArgs_of (Cells.of_has b hl)

section
variable {Q : AV → AH → Prop}
/-- A store into a part of a block. -/
theorem Runs.putAt {h : AH} {i o : Nat} {cs cs' vs : List AV} {e : TypeId} {K : AH → Option (AV × AH)} (b : h.has i cs e) (hl : o + vs.length ≤ cs.length) (hc : cs.take o ++ vs ++ cs.drop (o + vs.length) = cs') (H : ∀ h', h'.has i cs' e → Upd h h' i → Runs (K h') Q) : Runs ((h.puts ((Ref.new i 0).add o) vs).bind K) Q := by
  subst hc
  rw [Ref.add_new, Nat.zero_add, b.puts hl]
  exact H _ (AH.has_upd b _ e) (AH.upd_Upd h i _ e)
end

end Go.Ab

/- More words: a whole slice is written over; lists of numbers that grow. -/
set_option linter.unusedVariables false
set_option linter.unusedSimpArgs false
namespace Go.Ab


/-- What a slice is, when another one was copied onto its first places. -/
def overW (xs ys : List Nat) : Option (List Nat) := if ys.length ≤ xs.length then some (ys ++ xs.drop ys.length) else none
theorem overW_len {xs ys zs : List Nat} (q : overW xs ys = some zs) : zs.length = xs.length := by
  unfold overW at q
  split at q
  · cases q
    simp
    omega
  · cases q

theorem Vec.copyV {h : AH} {s t : Sl} {i : Nat} {xs ys zs : List Nat} (v : Vec h t i xs) (m : Nats h s ys) (q : overW xs ys = some zs) : ∃ h', copyH s t 1 h = some h' ∧ Vec h' t i zs ∧ Upd h h' i := by
  unfold overW at q
  split at q
  · rename_i hl
    cases q
    have hf : (⟨some (.new i 0), ys.length, .is ys.length⟩ : Sl).fit 1 := Nat.le_refl _
    have w : Win ⟨some (.new i 0), ys.length, .is ys.length⟩ i 0 ys.length := ⟨rfl, rfl, hf⟩
    obtain ⟨h', e, v', u⟩ := v.copyW (zs := ys ++ xs.drop ys.length) w m (by unfold setW; rw [if_pos ⟨by omega, rfl⟩]; simp)
    refine ⟨h', ?_, v', u⟩
    rw [← e]
    unfold copyH
    rw [m.len, v.is, Nat.min_self, Nat.min_eq_left hl]
  · cases q

theorem Seq.atN {h : AH} {s : Sl} {xss : List (List Nat)} (n : Seq El.nats h s xss) {i : Int} {y : List Nat} (q : atX xss i = some y) : ∃ (r : Ref) (t : Sl), idx s.ref xss.length i 1 = some r ∧ h.cell r = some t.v ∧ Nats h t y := by
  obtain ⟨r, cs, e, ⟨t, e2, n2⟩, l⟩ := n.at q
  have := l.at' 0 t.v (by rw [e2]; rfl)
  rw [Ref.add_zero] at this
  exact ⟨r, t, e, this, n2⟩

end Go.Ab

/- Slices that grow, from none on. -/
set_option linter.unusedVariables false
set_option linter.unusedSimpArgs false
namespace Go.Ab

variable {P : Program}

/-! ### A block that may not be there -/
def UpdO (h h' : AH) : Option Nat → Prop
  | none => Grow h h'
  | some k => Upd h h' k
def AvO (s : Sl) (xs : List Nat) : Option Nat → Prop
  | none => True
  | some k => Av s k xs
def LeO (n : Nat) : Option Nat → Prop
  | none => True
  | some k => n ≤ k
def LtO (n : Nat) : Option Nat → Prop
  | none => True
  | some k => k < n
def NeO (j : Nat) : Option Nat → Prop
  | none => True
  | some k => j ≠ k
def NeOO : Option Nat → Option Nat → Prop
  | none, _ => True
  | some j, i => NeO j i

theorem LeO.trans {m n : Nat} (h : m ≤ n) : ∀ {i : Option Nat}, LeO n i → LeO m i
  | none, _ => trivial
  | some k, l => Nat.le_trans h l
theorem NeO.of_lt {j n : Nat} : ∀ {i : Option Nat}, LtO n i → n ≤ j → NeO j i
  | none, _, _ => trivial
  | some k, l, h => by
    have : k < n := l
    show j ≠ k
    omega
theorem NeO.of_le {j n : Nat} : ∀ {i : Option Nat}, LeO n i → j < n → NeO j i
  | none, _, _ => trivial
  | some k, l, h => by
    have : n ≤ k := l
    show j ≠ k
    omega
theorem NeOO.of_lt {n : Nat} : ∀ {j i : Option Nat}, LeO n j → LtO n i → NeOO j i
  | none, _, _, _ => trivial
  | some j, _, l, h => NeO.of_lt h l
theorem NeOO.of_le {n : Nat} : ∀ {j i : Option Nat}, LtO n j → LeO n i → NeOO j i
  | none, _, _, _ => trivial
  | some j, _, l, h => NeO.of_le h l
theorem AvO.of_base {h0 : AH} {s : Sl} {xs : List Nat} (n : Nats h0 s xs) : ∀ {i : Option Nat}, LeO h0.blks.size i → AvO s xs i
  | none, _ => trivial
  | some k, l => Av.of_base n l
theorem AvO.of_own {h1 : AH} {s : Sl} {xs : List Nat} (o : Own h1 s) : ∀ {i : Option Nat}, LtO h1.blks.size i → AvO s xs i
  | none, _ => trivial
  | some k, l => Av.of_own o l
theorem AvO.of_vec {h : AH} {s : Sl} {j : Nat} {xs : List Nat} (v : Vec h s j xs) : ∀ {i : Option Nat}, NeO j i → AvO s xs i
  | none, _ => trivial
  | some k, l => Av.of_vec v l
theorem AvO.nil (i : Option Nat) (s : Sl) : AvO s [] i := by
  cases i
  · trivial
  · exact .inl rfl
theorem Grow.toUpdO {h h' : AH} (g : Grow h h') : ∀ i : Option Nat, UpdO h h' i
  | none => g
  | some k => g.toUpd k
theorem UpdO.trans {h1 h2 h3 : AH} : ∀ {i : Option Nat}, UpdO h1 h2 i → UpdO h2 h3 i → UpdO h1 h3 i
  | none, u, w => Grow.trans u w
  | some k, u, w => Upd.trans u w
theorem Grow.updo {h h1 h2 : AH} (g : Grow h h1) : ∀ {i : Option Nat}, LeO h.blks.size i → UpdO h1 h2 i → Grow h h2
  | none, _, u => g.trans u
  | some k, l, u => g.updr l u
theorem AH.has.updo {h1 h2 : AH} {j : Nat} {cs : List AV} {e : TypeId} (b : h1.has j cs e) : ∀ {i : Option Nat}, NeO j i → UpdO h1 h2 i → h2.has j cs e
  | none, _, u => u.has b
  | some k, l, u => AH.has.updr b l u
theorem Vec.updo {h1 h2 : AH} {s : Sl} {j : Nat} {xs : List Nat} (b : Vec h1 s j xs) : ∀ {i : Option Nat}, NeO j i → UpdO h1 h2 i → Vec h2 s j xs
  | none, _, u => b.grow u
  | some k, l, u => b.updr l u
theorem Nats.updo {h1 h2 : AH} {s : Sl} {xs : List Nat} (b : Nats h1 s xs) : ∀ {i : Option Nat}, AvO s xs i → UpdO h1 h2 i → Nats h2 s xs
  | none, _, u => b.grow u
  | some k, l, u => b.upda l u

/-! ### The slice -/
/-- A slice that grows: none at first, or in a block of its own. -/
def GO {α : Type} (E : El α) (elem : TypeId) (h : AH) (s : Sl) (i : Option Nat) (xs : List α) : Prop :=
  xs.length ≤ 9223372036854775807 ∧ match i with
  | none => s = ⟨none, 0, .is 0⟩ ∧ xs = []
  | some k => GL E elem h s k xs ∧ k < h.blks.size

/-- The elements do not lie in it. -/
def AvE {α : Type} (E : El α) (cs : List AV) (x : α) : Option Nat → Prop
  | none => True
  | some k => E.av k cs x

variable {α : Type} {E : El α} {elem : TypeId}

theorem GO.none (E : El α) (elem : TypeId) (h : AH) : GO E elem h ⟨none, 0, .is 0⟩ none [] := ⟨by simp, rfl, rfl⟩
theorem GO.one {h : AH} {i : Nat} {cs : List AV} {x : α} {e : TypeId} (b : h.has i cs e) (c : E.has h cs x) (a : E.av i cs x) : GO E elem h ⟨some (.new i 0), 1, .is 1⟩ (some i) [x] :=
  ⟨by simp, GL.one b c a, b.lt⟩
theorem GO.grow {h h' : AH} {s : Sl} : ∀ {i : Option Nat} {xs : List α}, GO E elem h s i xs → Grow h h' → GO E elem h' s i xs
  | .none, _, v, g => v
  | .some k, _, ⟨l, v, lt⟩, g => ⟨l, v.grow g, Nat.lt_of_lt_of_le lt g.size⟩
theorem GO.lt {h : AH} {s : Sl} : ∀ {i : Option Nat} {xs : List α}, GO E elem h s i xs → LtO h.blks.size i
  | .none, _, _ => trivial
  | .some k, _, v => v.2.2
theorem GO.seq {h : AH} {s : Sl} : ∀ {i : Option Nat} {xs : List α}, GO E elem h s i xs → Seq E h s xs
  | .none, xs, ⟨_, e1, e2⟩ => by
    subst e1; subst e2
    exact Seq.nil E h
  | .some k, _, v => v.2.1.seq v.1
theorem GO.len {h : AH} {s : Sl} {i : Option Nat} {xs : List α} (v : GO E elem h s i xs) : s.len = xs.length := v.seq.len
theorem GO.own {h h0 : AH} {s : Sl} : ∀ {i : Option Nat} {xs : List α}, GO E elem h s i xs → LeO h0.blks.size i → Own h0 s
  | .none, _, v, _ => fun r hr => by rw [v.2.1] at hr; cases hr
  | .some k, _, v, l => v.2.1.own_of l

theorem GL.lt {h : AH} {s : Sl} {i : Nat} {x : α} {xs : List α} (v : GL E elem h s i (xs ++ [x])) : i < h.blks.size := by
  obtain ⟨⟨rows, c, a⟩, l, o, lo⟩ := v
  have hr : rows.length = xs.length + 1 := by have := All2.length a; simpa using this
  have hf := flat_len (w := E.w) (rows := rows) (All2.rows (a.imp fun _ _ p => p.1))
  have hp := E.pos
  have h0 : 0 < rows.flatten.length := by
    rw [hf, hr]
    exact Nat.mul_pos (by omega) hp
  obtain ⟨r, e1, e2⟩ := c.get 0 _ (List.getElem?_eq_getElem h0)
  obtain ⟨k, rfl⟩ := lo r e1
  have := AH.cell_inn e2
  rw [Ref.add_new] at this
  exact this

theorem growOk_le {n m : Nat} (h : growOk P n elem m = true) : n ≤ 9223372036854775807 := by
  unfold growOk at h
  rw [Bool.and_eq_true, decide_eq_true_eq] at h
  have := h.1.2
  simp only [mostBytes] at this
  omega

theorem GO.push {h : AH} {s : Sl} {i : Option Nat} {xs : List α} (v : GO E elem h s i xs) {cs : List AV} {x : α} (c : E.has h cs x) (a : AvE E cs x i) (hg : growOk P (xs.length + 1) elem E.w = true) :
    ∃ s' h', appendH P s cs 1 elem E.w h = some (s'.v, h') ∧ GO E elem h' s' (some h.blks.size) (xs ++ [x]) ∧ UpdO h h' i := by
  have hl := growOk_le hg
  cases i with
  | none =>
    obtain ⟨_, e1, e2⟩ := v
    subst e1; subst e2
    obtain ⟨s', h', e, v', u⟩ := (GL.nil E elem h h.blks.size).push c (E.new c (Nat.le_refl _)) hg
    exact ⟨s', h', e, ⟨by simp, v', v'.lt⟩, (Grow.refl h).updr (Nat.le_refl _) u⟩
  | some k =>
    obtain ⟨s', h', e, v', u⟩ := v.2.1.push c a hg
    exact ⟨s', h', e, ⟨by simpa using hl, v', v'.lt⟩, u⟩

/-- A list that stands as a literal. -/
theorem Seq.lit {h : AH} {i n : Nat} {rows : List (List AV)} {e : TypeId} {xs : List α} (b : h.has i rows.flatten e) (a : All2 (E.has h) rows xs) (hn : xs.length = n) (hs : n ≤ 9223372036854775807 := by decide) : Seq E h ⟨some (.new i 0), n, .is n⟩ xs := by
  refine ⟨⟨rows, Cells.of_has b ?_, a⟩, hn.symm, by omega⟩
  rw [flat_len a.rows, All2.length a, hn]

theorem AvE.nats {s : Sl} {xs : List Nat} : ∀ {i : Option Nat}, AvO s xs i → AvE El.nats [s.v] xs i
  | .none, _ => trivial
  | .some k, a => ⟨s, rfl, a⟩
theorem AvE.int {k : IntKind} {n : Int} {cs : List AV} : ∀ {i : Option Nat}, AvE (El.int k) cs n i
  | .none => trivial
  | .some _ => trivial
theorem AvE.bool {b : Bool} {cs : List AV} : ∀ {i : Option Nat}, AvE El.bool cs b i
  | .none => trivial
  | .some _ => trivial
theorem AvE.pair {α β : Type} {A : El α} {B : El β} {c1 c2 : List AV} {a : α} {b : β} : ∀ {i : Option Nat}, c1.length = A.w → AvE A c1 a i → AvE B c2 b i → AvE (El.pair A B) (c1 ++ c2) (a, b) i
  | .none, _, _, _ => trivial
  | .some k, l, x, y => ⟨c1, c2, rfl, l, x, y⟩

end Go.Ab

/- Reckoning by an odd modulus, in whole numbers: no program in sight. -/
set_option linter.unusedVariables false
set_option linter.unusedSimpArgs false
namespace Go.Num

/-- The inverse of 2 by an odd number. -/
def half (n : Nat) : Nat := (n + 1) / 2

theorem half_pow {n : Nat} (ho : n % 2 = 1) (e : Nat) : (2 ^ e * half n ^ e) % n = 1 % n := by
  rw [← Nat.mul_pow, show 2 * half n = n + 1 from by unfold half; omega, Nat.pow_mod, Nat.add_mod_left, ← Nat.pow_mod, Nat.one_pow]

/-- What is left of z, divided by 2 so many times. -/
def redc (n e z : Nat) : Nat := z * half n ^ e % n

theorem redc_mod (n e z : Nat) : redc n e (z % n) = redc n e z := by
  unfold redc
  rw [Nat.mod_mul_mod]

theorem redc_mul {n : Nat} (ho : n % 2 = 1) (e x : Nat) : redc n e (x * 2 ^ e) = x % n := by
  unfold redc
  rw [Nat.mul_assoc, Nat.mul_mod, half_pow ho, ← Nat.mul_mod, Nat.mul_one]

/-- The one number below n of which so many times 2 leaves z. -/
theorem redc_of {n e r z : Nat} (ho : n % 2 = 1) (hr : r < n) (h : (r * 2 ^ e) % n = z % n) : r = redc n e z := by
  rw [← redc_mod, ← h, redc_mod, redc_mul ho, Nat.mod_eq_of_lt hr]

theorem redc_form {n e x y : Nat} (ho : n % 2 = 1) : redc n e (x * 2 ^ e % n * (y * 2 ^ e % n)) = x * y * 2 ^ e % n := by
  rw [← redc_mod, ← Nat.mul_mod, redc_mod, show x * 2 ^ e * (y * 2 ^ e) = x * y * 2 ^ e * 2 ^ e from by simp only [Nat.mul_assoc, Nat.mul_comm, Nat.mul_left_comm], redc_mul ho]

theorem redc_in {n e a : Nat} (ho : n % 2 = 1) : redc n e (a * (2 ^ e * 2 ^ e % n)) = a * 2 ^ e % n := by
  rw [← redc_mod, Nat.mul_mod_mod, redc_mod, ← Nat.mul_assoc, redc_mul ho]

theorem redc_out {n e x : Nat} (ho : n % 2 = 1) : redc n e (x * 2 ^ e % n * 1) = x % n := by
  rw [Nat.mul_one, redc_mod, redc_mul ho]

/-- One round: T and Y by a limb, and N so many times that the lowest limb is nought. -/
theorem mont_low {b T Y x N v : Nat} (hb : 0 < b) (hv : (N * v + 1) % b = 0) : (T + Y * x + N * ((T + Y * x) % b * v % b)) % b = 0 := by
  generalize T + Y * x = U
  have e1 : (U + N * (U % b * v % b)) % b = (U + N * (U * v)) % b := by
    rw [Nat.add_mod, Nat.mul_mod_mod_aux N U v b, ← Nat.add_mod]
  rw [e1, show U + N * (U * v) = U * (N * v + 1) from by rw [Nat.mul_add, Nat.mul_one, Nat.add_comm]; simp only [Nat.mul_comm, Nat.mul_left_comm], Nat.mul_mod, hv, Nat.mul_zero, Nat.zero_mod]
where
  Nat.mul_mod_mod_aux (N U v b : Nat) : N * (U % b * v % b) % b = N * (U * v) % b := by
    rw [Nat.mul_mod_mod, ← Nat.mul_mod_mod, Nat.mod_mul_mod, Nat.mul_mod_mod]

theorem mont_bound {b T Y x N m : Nat} (hT : T < Y + N) (hx : x < b) (hm : m < b) : (T + Y * x + N * m) / b < Y + N := by
  have hb : 0 < b := by omega
  rw [Nat.div_lt_iff_lt_mul hb]
  have h1 : Y * x ≤ Y * (b - 1) := Nat.mul_le_mul_left _ (by omega)
  have h2 : N * m ≤ N * (b - 1) := Nat.mul_le_mul_left _ (by omega)
  obtain ⟨c, rfl⟩ : ∃ c, b = c + 1 := ⟨b - 1, by omega⟩
  rw [Nat.add_mul, Nat.mul_add Y, Nat.mul_add N, Nat.mul_one, Nat.mul_one]
  simp only [Nat.add_sub_cancel] at h1 h2
  omega

/-- The rounds so far: T so many times b is X times Y and so many times N. -/
theorem mont_round {b p T Y x X N M m T' : Nat} (h : T * p = X * Y + N * M) (e : T + Y * x + N * m = T' * b) : T' * (p * b) = (X + p * x) * Y + N * (M + p * m) := by
  have : T' * (p * b) = (T' * b) * p := by simp only [Nat.mul_assoc, Nat.mul_comm, Nat.mul_left_comm]
  rw [this, ← e, Nat.add_mul, Nat.add_mul, h, Nat.add_mul, Nat.mul_add]
  simp only [Nat.mul_assoc, Nat.mul_comm, Nat.mul_left_comm]
  omega

/-- An inverse by 2 to a power has twice so many bits after one step. -/
theorem newton {n x p : Nat} {w : Nat} (hw : w = p * p) (h : (n * x) % p = 1 % p) : ∀ y : Int, (y % (w : Int)) = ((x : Int) * (2 - (n : Int) * x)) % (w : Int) → ((n : Int) * y) % (w : Int) = 1 % (w : Int) := by
  intro y hy
  have h1 : ((n : Int) * x) % (p : Int) = 1 % (p : Int) := by exact_mod_cast h
  have h2 : (p : Int) ∣ ((n : Int) * x - 1) := (Int.emod_emod_of_dvd_aux h1)
  obtain ⟨c, hc⟩ := h2
  have h3 : (n : Int) * x = 1 + p * c := by omega
  rw [← Int.mul_emod_aux (n : Int) y (w : Int), hy, Int.mul_emod_aux]
  have e : (n : Int) * ((x : Int) * (2 - (n : Int) * x)) = 1 + (w : Int) * (-(c * c)) := by
    rw [← Int.mul_assoc, h3, hw]
    push_cast
    have : (1 + (p : Int) * c) * (2 - (1 + p * c)) = 1 - (p * c) * (p * c) := by
      generalize (p : Int) * c = t
      rw [Int.mul_sub, Int.add_mul 1 t (1 + t), Int.mul_add, Int.mul_add]
      omega
    rw [this, Int.mul_neg, Int.sub_eq_add_neg]
    congr 2
    simp only [Int.mul_assoc, Int.mul_comm, Int.mul_left_comm]
  rw [e, Int.add_mul_emod_self_left]
where
  Int.emod_emod_of_dvd_aux {a p : Int} (h : a % p = 1 % p) : p ∣ a - 1 := Int.dvd_of_emod_eq_zero (by rw [Int.sub_emod, h, Int.sub_self, Int.zero_emod])
  Int.mul_emod_aux (a y w : Int) : a * (y % w) % w = a * y % w := by rw [Int.mul_emod, Int.emod_emod, ← Int.mul_emod]

end Go.Num

/- Layer 2: noughts behind are taken away. -/
set_option linter.unusedVariables false
set_option linter.unusedSimpArgs false
set_option maxRecDepth 10000
namespace Go.Ab
open Go.Proofs Go.Num

/-- The loop that takes noughts away: it stops at a place. -/
theorem mont_trim_loop {h : AH} {s : Sl} {xs : List Nat} (n : Nats h s xs) : ∀ (k : Nat), k ≤ xs.length → (∀ i, k ≤ i → (hi : i < xs.length) → xs[i] = 0) →
    ∃ s', go (.pt F.mont_trim Td.mont_trim_2 [(0, s.v), (3, .int .i64 (k : Int))]) h = some (s'.v, h) ∧ Nats h s' (digs B (num B xs)) ∧ ∀ h0, Own h0 s → Own h0 s'
  | 0, hk, hz => by
    rw [p_mont_trim_2]
    obtain ⟨s', e1, e2, e3⟩ := n.cut (l := 0) (n := 0) (Nat.le_refl _) hk
    have := take_digs B2 n.lt hz hk (.inl rfl)
    simp at e1
    simp only [Int.natCast_zero, gt_iff_lt, Int.lt_irrefl, decide_false, cond_false, e1, Option.bind_some]
    refine ⟨s', rfl, ?_, e3⟩
    rw [← this]
    simpa using e2
  | k + 1, hk, hz => by
    rw [p_mont_trim_2]
    obtain ⟨r, e1, e2⟩ := n.at (i := k) (by omega)
    have hs := n.short
    rw [wrap_pred (by omega)]
    rw [show (decide (((k + 1 : Nat) : Int) > 0)) = true from by rw [decide_eq_true_eq]; omega]
    simp only [cond_true, e1, e2, Option.bind_some, avInt_int]
    by_cases hx : xs[k] = 0
    · rw [hx, show (decide (((0 : Nat) : Int) = 0)) = true from rfl, cond_true]
      refine mont_trim_loop n k (by omega) fun i hi hil => ?_
      rcases Nat.lt_or_ge k i with h1 | h1
      · exact hz i (by omega) hil
      · have : i = k := by omega
        subst this
        exact hx
    · obtain ⟨s', e3, e4, e5⟩ := n.cut (l := 0) (n := k + 1) (by omega) hk
      have ht := take_digs B2 n.lt hz hk (.inr ⟨by omega, by simpa using hx⟩)
      rw [show (decide (((xs[k] : Nat) : Int) = 0)) = false from by rw [decide_eq_false_iff_not]; omega]
      simp only [cond_false]
      rw [show cutSl s 0 ((k + 1 : Nat) : Int) 1 = some s' from e3]
      refine ⟨s', rfl, ?_, e5⟩
      rw [← ht]
      simpa using e4

theorem mont_trim_spec {h : AH} {s : Sl} {xs : List Nat} (n : Nats h s xs) : ∃ s', go (.fn F.mont_trim [s.v]) h = some (s'.v, h) ∧ Nats h s' (digs B (num B xs)) ∧ ∀ h0, Own h0 s → Own h0 s' := by
  rw [u_mont_trim, n.len]
  exact mont_trim_loop n xs.length (Nat.le_refl _) fun i h1 h2 => by omega

end Go.Ab

/- Layer 2: a number times a limb, its walk: printed by wip/tools/walk.py. -/
set_option linter.unusedVariables false
set_option linter.unusedSimpArgs false
set_option maxRecDepth 10000
namespace Go.Ab
open Go.Proofs Go.Num

inductive mont_add_St
  | fn (x1 : List Nat) (x2 : List Nat) (a3 : Int)
  | p2 (x1 : List Nat) (x2 : List Nat) (a3 : Int) (a4 : Int) (a5 : Int) (a6 : Int)

abbrev mont_add_Res := List Nat

noncomputable def mont_add_fn' (x1 : List Nat) (x2 : List Nat) (a3 : Int) : Option (mont_add_St ⊕ mont_add_Res) :=
  some (.inl (.p2 x1 x2 a3 0 (List.length x1 : Int) 0))

noncomputable def mont_add_p2' (x1 : List Nat) (x2 : List Nat) (a3 : Int) (a4 : Int) (a5 : Int) (a6 : Int) : Option (mont_add_St ⊕ mont_add_Res) :=
  cond (decide (a6 < a5)) (cond (decide (a6 < (List.length x2 : Int))) ((atI x2 a6).bind fun y9 => (add64P ((mul64 ((y9 : Int)) a3).2) a4 0).bind fun p11 => (inI (List.length x1) a6).bind fun j12 => (add64P (((List.getD x1 j12 0 : Nat) : Int)) (p11.1) 0).bind fun p13 => (inI (List.length x1) a6).bind fun j14 => (u64P (p13.1)).bind fun w15 => some (.inl (.p2 (List.set x1 j14 w15) x2 a3 (IntKind.wrap .u64 ((IntKind.wrap .u64 (((mul64 ((y9 : Int)) a3).1) + (p11.2))) + (p13.2))) a5 (IntKind.wrap .i64 (a6 + 1))))) ((add64P 0 a4 0).bind fun p9 => (inI (List.length x1) a6).bind fun j10 => (add64P (((List.getD x1 j10 0 : Nat) : Int)) (p9.1) 0).bind fun p11 => (inI (List.length x1) a6).bind fun j12 => (u64P (p11.1)).bind fun w13 => some (.inl (.p2 (List.set x1 j12 w13) x2 a3 (IntKind.wrap .u64 ((IntKind.wrap .u64 (0 + (p9.2))) + (p11.2))) a5 (IntKind.wrap .i64 (a6 + 1)))))) (some (.inr x1))

noncomputable def mont_add_step : mont_add_St → Option (mont_add_St ⊕ mont_add_Res)
  | .fn x1 x2 a3 => mont_add_fn' x1 x2 a3
  | .p2 x1 x2 a3 a4 a5 a6 => mont_add_p2' x1 x2 a3 a4 a5 a6

@[reducible] def mont_add_post (h0 : AH) (a : Sl) (i : Nat) (r : mont_add_Res) (v : AV) (h' : AH) : Prop := v = .tup [] ∧ Vec h' a i r ∧ Upd h0 h' i

def mont_add_At (r : mont_add_Res) : mont_add_St → Prop
  | .fn x1 x2 a3 => ∀ {h : AH} {a1 : Sl} {a2 : Sl} {i1 : Nat}, Vec h a1 i1 x1 → Nats h a2 x2 → Av a2 i1 x2 → Runs (go (.fn F.mont_add [a1.v, a2.v, .int .u64 a3]) h) (mont_add_post h a1 i1 r)
  | .p2 x1 x2 a3 a4 a5 a6 => ∀ {h0 h : AH} {a1 : Sl} {a2 : Sl} {i1 : Nat}, Upd h0 h i1 → Vec h a1 i1 x1 → Nats h a2 x2 → Av a2 i1 x2 → Runs (go (.pt F.mont_add Td.mont_add_2 [(0, a1.v), (1, a2.v), (2, .int .u64 a3), (6, .int .u64 a4), (12, .int .i64 a5), (13, .int .i64 a6)]) h) (mont_add_post h0 a1 i1 r)

theorem mont_add_fn_walk {r : mont_add_Res} {o : mont_add_St ⊕ mont_add_Res} {x1 : List Nat} {x2 : List Nat} {a3 : Int} (e : mont_add_fn' x1 x2 a3 = some o) (good : GoodS (mont_add_At r) r o) : mont_add_At r (.fn x1 x2 a3) := by
  intro h a1 a2 i1 v1 n2 av2_1
  rw [u_mont_add]
  unfold mont_add_fn' at e
  rw [v1.nats.len]
  cases e
  exact good ((Grow.refl _).toUpd _) v1 n2 av2_1

theorem mont_add_p2_walk {r : mont_add_Res} {o : mont_add_St ⊕ mont_add_Res} {x1 : List Nat} {x2 : List Nat} {a3 : Int} {a4 : Int} {a5 : Int} {a6 : Int} (e : mont_add_p2' x1 x2 a3 a4 a5 a6 = some o) (good : GoodS (mont_add_At r) r o) : mont_add_At r (.p2 x1 x2 a3 a4 a5 a6) := by
  intro h0 h a1 a2 i1 g0 v1 n2 av2_1
  rw [p_mont_add_2]
  unfold mont_add_p2' at e
  rw [v1.nats.len]
  rw [n2.len]
  refine Runs.cond (fun k7 => ?_) (fun k7 => ?_)
  · replace e := (condT k7).symm.trans e
    refine Runs.cond (fun k8 => ?_) (fun k8 => ?_)
    · replace e := (condT k8).symm.trans e
      obtain ⟨y9, q9, e⟩ := Option.bind_eq_some_iff.1 e
      obtain ⟨r9, j9, l9⟩ := n2.atI q9
      refine Runs.step j9 ?_
      refine Runs.step (rdc l9 (avInt_int _ _)) ?_
      refine Runs.step (math_bits_Mul64_spec ((y9 : Int)) a3) ?_
      refine Runs.step rfl ?_
      refine Runs.step (seen (avInt_int _ _)) ?_
      refine Runs.step (seen (avInt_int _ _)) ?_
      obtain ⟨p11, q11, e⟩ := Option.bind_eq_some_iff.1 e
      refine Runs.step (prim_add64 q11) ?_
      refine Runs.step rfl ?_
      refine Runs.step (seen (avInt_int _ _)) ?_
      refine Runs.step (seen (avInt_int _ _)) ?_
      obtain ⟨j12, q12, e⟩ := Option.bind_eq_some_iff.1 e
      refine Runs.step (v1.idx rfl q12) ?_
      refine Runs.step (v1.rd rfl q12 (avInt_int _ _)) ?_
      obtain ⟨p13, q13, e⟩ := Option.bind_eq_some_iff.1 e
      refine Runs.step (prim_add64 q13) ?_
      refine Runs.step rfl ?_
      refine Runs.step (seen (avInt_int _ _)) ?_
      refine Runs.step (seen (avInt_int _ _)) ?_
      obtain ⟨j14, q14, e⟩ := Option.bind_eq_some_iff.1 e
      refine Runs.step (v1.idx rfl q14) ?_
      obtain ⟨w15, z15, e⟩ := Option.bind_eq_some_iff.1 e
      refine Runs.vput v1 rfl q14 z15 fun H15 v15 u15 => ?_
      have n2_15 := n2.upda av2_1 u15
      cases e
      exact good (g0.trans u15) v15 n2_15 av2_1
    · replace e := (condF k8).symm.trans e
      obtain ⟨p9, q9, e⟩ := Option.bind_eq_some_iff.1 e
      refine Runs.step (prim_add64 q9) ?_
      refine Runs.step rfl ?_
      refine Runs.step (seen (avInt_int _ _)) ?_
      refine Runs.step (seen (avInt_int _ _)) ?_
      obtain ⟨j10, q10, e⟩ := Option.bind_eq_some_iff.1 e
      refine Runs.step (v1.idx rfl q10) ?_
      refine Runs.step (v1.rd rfl q10 (avInt_int _ _)) ?_
      obtain ⟨p11, q11, e⟩ := Option.bind_eq_some_iff.1 e
      refine Runs.step (prim_add64 q11) ?_
      refine Runs.step rfl ?_
      refine Runs.step (seen (avInt_int _ _)) ?_
      refine Runs.step (seen (avInt_int _ _)) ?_
      obtain ⟨j12, q12, e⟩ := Option.bind_eq_some_iff.1 e
      refine Runs.step (v1.idx rfl q12) ?_
      obtain ⟨w13, z13, e⟩ := Option.bind_eq_some_iff.1 e
      refine Runs.vput v1 rfl q12 z13 fun H13 v13 u13 => ?_
      have n2_13 := n2.upda av2_1 u13
      cases e
      exact good (g0.trans u13) v13 n2_13 av2_1
  · replace e := (condF k7).symm.trans e
    cases e
    cases good
    exact Runs.ret ⟨rfl, v1, g0⟩

theorem mont_add_run {s : mont_add_St} {r : mont_add_Res} (it : Iter mont_add_step s r) : mont_add_At r s := Iter.ind (fun s o e good => by
  cases s with
  | fn x1 x2 a3 => exact @mont_add_fn_walk _ _ x1 x2 a3 e good
  | p2 x1 x2 a3 a4 a5 a6 => exact @mont_add_p2_walk _ _ x1 x2 a3 a4 a5 a6 e good
  ) it

theorem mont_add_opt {h : AH} {a1 : Sl} {a2 : Sl} {i1 : Nat} {x1 : List Nat} {x2 : List Nat} {a3 : Int} (v1 : Vec h a1 i1 x1) (n2 : Nats h a2 x2) (av2_1 : Av a2 i1 x2) {r : mont_add_Res} (q : runP mont_add_step (.fn x1 x2 a3) = some r) : Runs (go (.fn F.mont_add [a1.v, a2.v, .int .u64 a3]) h) (mont_add_post h a1 i1 r) := mont_add_run (runP_iter q) v1 n2 av2_1

end Go.Ab

/- Layer 2: a number times a limb, what it answers. -/
set_option linter.unusedVariables false
set_option linter.unusedSimpArgs false
set_option maxRecDepth 10000
namespace Go.Ab
open Go.Proofs Go.Num

/-- A number and another one times a limb, as so many limbs. -/
def addMul : List Nat → List Nat → Nat → Nat → List Nat
  | [], _, _, _ => []
  | t :: ts, ys, a, c => (t + ys.headD 0 * a + c) % B :: addMul ts ys.tail a ((t + ys.headD 0 * a + c) / B)

theorem addMul_len : ∀ (ts ys : List Nat) (a c : Nat), (addMul ts ys a c).length = ts.length
  | [], _, _, _ => rfl
  | t :: ts, ys, a, c => by rw [addMul, List.length_cons, List.length_cons, addMul_len]

theorem addMul_lt : ∀ (ts ys : List Nat) (a c : Nat), ∀ x ∈ addMul ts ys a c, x < B
  | [], _, _, _, x, h => by cases h
  | t :: ts, ys, a, c, x, h => by
    rw [addMul] at h
    rcases List.mem_cons.1 h with rfl | h
    · exact Nat.mod_lt _ (by decide)
    · exact addMul_lt ts _ _ _ x h

theorem num_cons (b x : Nat) (xs : List Nat) : num b (x :: xs) = x + b * num b xs := rfl

theorem num_headD (b : Nat) (ys : List Nat) : num b ys = ys.headD 0 + b * num b ys.tail := by
  cases ys with
  | nil => simp [num]
  | cons y ys => rfl

theorem num_addMul : ∀ (ts ys : List Nat) (a c : Nat), num B (addMul ts ys a c) = (num B ts + num B ys * a + c) % B ^ ts.length
  | [], ys, a, c => by simp [addMul, num, Nat.mod_one]
  | t :: ts, ys, a, c => by
    rw [addMul, num_cons, num_addMul ts, num_cons, num_headD B ys, List.length_cons, Nat.pow_succ, Nat.mul_comm (B ^ ts.length) B, Nat.mod_mul]
    generalize ys.headD 0 = y
    generalize num B ys.tail = Y
    generalize num B ts = T
    have e : t + B * T + (y + B * Y) * a + c = (t + y * a + c) + B * (T + Y * a) := by
      rw [Nat.add_mul, Nat.mul_add, Nat.mul_assoc]
      omega
    rw [e, Nat.add_mul_mod_self_left, Nat.add_mul_div_left _ _ (show 0 < B from by decide)]
    congr 3
    omega

theorem carry_eq2 {t o c : Nat} (ho : o < 18446744073709551616) (hc : c < 18446744073709551616) (h : (o + t + c) / 18446744073709551616 < 18446744073709551616) :
    (o + (t % 18446744073709551616 + c + 0) % 18446744073709551616 + 0) % 18446744073709551616 = (o + t + c) % 18446744073709551616 ∧
    IntKind.wrap .u64 (IntKind.wrap .u64 (((t / 18446744073709551616 : Nat) : Int) + (((t % 18446744073709551616 + c + 0) / 18446744073709551616 : Nat) : Int)) + (((o + (t % 18446744073709551616 + c + 0) % 18446744073709551616 + 0) / 18446744073709551616 : Nat) : Int)) = (((o + t + c) / 18446744073709551616 : Nat) : Int) := by
  rw [wrapU, wrapU]
  omega

theorem carry_eq0 {o c : Nat} (ho : o < 18446744073709551616) (hc : c < 18446744073709551616) :
    (o + (0 + c + 0) % 18446744073709551616 + 0) % 18446744073709551616 = (o + c) % 18446744073709551616 ∧
    IntKind.wrap .u64 (IntKind.wrap .u64 (0 + (((0 + c + 0) / 18446744073709551616 : Nat) : Int)) + (((o + (0 + c + 0) % 18446744073709551616 + 0) / 18446744073709551616 : Nat) : Int)) = (((o + c) / 18446744073709551616 : Nat) : Int) := by
  rw [wrapU, wrapU]
  omega

theorem set_mid {α : Type} (l : List α) (x y : α) (r : List α) {n : Nat} (h : n = l.length) : (l ++ x :: r).set n y = (l ++ [y]) ++ r := by
  subst h
  simp

theorem mont_add_loop {ys : List Nat} {a : Nat} (ha : a < B) (ly : ∀ y ∈ ys, y < B) : ∀ (ts l : List Nat) (c : Nat), (∀ t ∈ ts, t < B) → c < B → l.length + ts.length ≤ 8796093022208 →
    Iter mont_add_step (.p2 (l ++ ts) ys (a : Int) (c : Int) ((l.length + ts.length : Nat) : Int) (l.length : Int)) (l ++ addMul ts (ys.drop l.length) a c)
  | [], l, c, _, _, _ => by
    refine .done ?_
    show mont_add_p2' _ _ _ _ _ _ = _
    unfold mont_add_p2'
    rw [condF (by rw [decide_eq_false_iff_not]; simp)]
    rfl
  | t :: ts, l, c, lt, hc, hn => by
    have ht := lt t (by simp)
    have hn' : l.length + ts.length + 1 ≤ 8796093022208 := by simpa [Nat.add_assoc] using hn
    have hj : l.length < (l ++ t :: ts).length := by simp
    have hg : List.getD (l ++ t :: ts) l.length 0 = t := by rw [getD_lt hj]; simp
    have rek := fun (c' : Nat) (hc' : c' < B) (x : Nat) => mont_add_loop ha ly ts (l ++ [x]) c' (fun t h => lt t (by simp [h])) hc' (by simp; omega)
    have key : ∀ (c' x : Nat), c' < B → mont_add_p2' (l ++ t :: ts) ys (a : Int) (c : Int) ((l.length + (t :: ts).length : Nat) : Int) (l.length : Int) = some (.inl (.p2 ((l ++ [x]) ++ ts) ys (a : Int) (c' : Int) ((l.length + (t :: ts).length : Nat) : Int) ((l.length + 1 : Nat) : Int))) →
        x = (t + (ys.drop l.length).headD 0 * a + c) % B → c' = (t + (ys.drop l.length).headD 0 * a + c) / B → Iter mont_add_step (.p2 (l ++ t :: ts) ys (a : Int) (c : Int) ((l.length + (t :: ts).length : Nat) : Int) (l.length : Int)) (l ++ addMul (t :: ts) (ys.drop l.length) a c) := fun c' x hc' h1 hx hcc => by
      refine .next h1 ?_
      have := rek c' hc' x
      have e1 : (l ++ [x]).length + ts.length = l.length + (t :: ts).length := by simp; omega
      have e2 : (l ++ [x]).length = l.length + 1 := by simp
      rw [e1, e2] at this
      rw [addMul, ← hx, ← hcc, List.tail_drop]
      simpa using this
    by_cases hi : l.length < ys.length
    · have hy := ly ys[l.length] (List.getElem_mem _)
      have hd : (ys.drop l.length).headD 0 = ys[l.length] := by rw [List.drop_eq_getElem_cons hi]; rfl
      rw [hd] at key
      have hcl : (t + ys[l.length] * a + c) / B < B := by rw [Nat.add_comm t]; exact carry_lt hy ha ht hc
      obtain ⟨c1, c2⟩ := carry_eq2 (t := ys[l.length] * a) ht hc hcl
      refine key _ _ hcl ?_ rfl rfl
      unfold mont_add_p2'
      rw [condT (by rw [decide_eq_true_eq]; rw [List.length_cons]; omega), condT (by rw [decide_eq_true_eq]; omega), atI_nat hi, Option.bind_some, mul64_eq hy ha]
      dsimp only
      have a1 := add64P_nat (ys[l.length] * a % B) c (c := 0) (by omega)
      have a2 := add64P_nat t ((ys[l.length] * a % B + c + 0) % 18446744073709551616) (c := 0) (by omega)
      rw [show ((0 : Nat) : Int) = 0 from rfl] at a1 a2
      rw [a1, Option.bind_some, inI_nat hj, Option.bind_some, hg]
      dsimp only
      rw [a2, Option.bind_some, Option.bind_some]
      dsimp only
      rw [c1, c2, u64P_nat (Nat.mod_lt _ (by decide)), Option.bind_some, wrap_succ (by omega), set_mid l t _ ts rfl]
    · have hd : (ys.drop l.length).headD 0 = 0 := by rw [List.drop_eq_nil_of_le (by omega)]; rfl
      simp only [hd, Nat.zero_mul, Nat.add_zero] at key
      have hcl : (t + c) / B < B := by
        have : t < 18446744073709551616 := ht
        have : c < 18446744073709551616 := hc
        show (t + c) / 18446744073709551616 < 18446744073709551616
        omega
      obtain ⟨c1, c2⟩ := carry_eq0 ht hc
      refine key _ _ hcl ?_ rfl rfl
      unfold mont_add_p2'
      rw [condT (by rw [decide_eq_true_eq]; rw [List.length_cons]; omega), condF (by rw [decide_eq_false_iff_not]; omega)]
      have a1 := add64P_nat 0 c (c := 0) (by omega)
      have a2 := add64P_nat t ((0 + c + 0) % 18446744073709551616) (c := 0) (by omega)
      rw [show ((0 : Nat) : Int) = 0 from rfl] at a1 a2
      rw [a1, Option.bind_some, inI_nat hj, Option.bind_some, hg]
      dsimp only
      rw [a2, Option.bind_some, Option.bind_some]
      dsimp only
      rw [c1, c2, u64P_nat (Nat.mod_lt _ (by decide)), Option.bind_some, wrap_succ (by omega), set_mid l t _ ts rfl]

theorem mont_add_iter {ts ys : List Nat} {a : Nat} (lt : ∀ t ∈ ts, t < B) (ly : ∀ y ∈ ys, y < B) (ha : a < B) (hn : ts.length ≤ 8796093022208) : runP mont_add_step (.fn ts ys (a : Int)) = some (addMul ts ys a 0) := by
  refine runP_of (.next rfl ?_)
  have := mont_add_loop ha ly ts [] 0 lt (by decide) (by simpa using hn)
  simpa using this

end Go.Ab

/- Layer 2: products, their walk: printed by wip/tools/walk.py. -/
set_option linter.unusedVariables false
set_option linter.unusedSimpArgs false
set_option maxRecDepth 10000
namespace Go.Ab
open Go.Proofs Go.Num

inductive mont_Ring_product_St
  | fn (x1c0 : List Nat) (z1c1 : Int) (x1c2 : List Nat) (x1c3 : List Nat) (x2 : List Nat) (x3 : List Nat)
  | p4 (x1c0 : List Nat) (z1c1 : Int) (x1c2 : List Nat) (x1c3 : List Nat) (x2 : List Nat) (x3 : List Nat) (a4 : Int) (x5 : List Nat) (a6 : Int) (a7 : Int)

abbrev mont_Ring_product_Res := List Nat

noncomputable def mont_Ring_product_fn' (x1c0 : List Nat) (z1c1 : Int) (x1c2 : List Nat) (x1c3 : List Nat) (x2 : List Nat) (x3 : List Nat) : Option (mont_Ring_product_St ⊕ mont_Ring_product_Res) :=
  (mkI (IntKind.wrap .i64 ((List.length x1c0 : Int) + 2)) (IntKind.wrap .i64 ((List.length x1c0 : Int) + 2))).bind fun m4 => some (.inl (.p4 x1c0 z1c1 x1c2 x1c3 x2 x3 (List.length x1c0 : Int) (List.replicate m4 0) (List.length x1c0 : Int) 0))

noncomputable def mont_Ring_product_p4' (x1c0 : List Nat) (z1c1 : Int) (x1c2 : List Nat) (x1c3 : List Nat) (x2 : List Nat) (x3 : List Nat) (a4 : Int) (x5 : List Nat) (a6 : Int) (a7 : Int) : Option (mont_Ring_product_St ⊕ mont_Ring_product_Res) :=
  cond (decide (a7 < a6)) (cond (decide (a7 < (List.length x2 : Int))) ((atI x2 a7).bind fun y10 => (runP mont_add_step (.fn x5 x3 ((y10 : Int)))).bind fun p11 => (need (List.length p11 = List.length x5)).bind fun c11 => (inI (List.length x5) 0).bind fun j12 => (runP mont_add_step (.fn p11 x1c0 (IntKind.wrap .u64 ((((List.getD p11 j12 0 : Nat) : Int)) * z1c1)))).bind fun p13 => (need (List.length p13 = List.length p11)).bind fun c13 => (cutP (List.length x5) 1 (List.length x5 : Int)).bind fun p14 => (overW p13 (List.take p14.2 (List.drop p14.1 p13))).bind fun y15 => (inI (List.length x5) (IntKind.wrap .i64 (a4 + 1))).bind fun j16 => (u64P 0).bind fun w17 => some (.inl (.p4 x1c0 z1c1 x1c2 x1c3 x2 x3 a4 (List.set y15 j16 w17) a6 (IntKind.wrap .i64 (a7 + 1))))) ((runP mont_add_step (.fn x5 x3 0)).bind fun p10 => (need (List.length p10 = List.length x5)).bind fun c10 => (inI (List.length x5) 0).bind fun j11 => (runP mont_add_step (.fn p10 x1c0 (IntKind.wrap .u64 ((((List.getD p10 j11 0 : Nat) : Int)) * z1c1)))).bind fun p12 => (need (List.length p12 = List.length p10)).bind fun c12 => (cutP (List.length x5) 1 (List.length x5 : Int)).bind fun p13 => (overW p12 (List.take p13.2 (List.drop p13.1 p12))).bind fun y14 => (inI (List.length x5) (IntKind.wrap .i64 (a4 + 1))).bind fun j15 => (u64P 0).bind fun w16 => some (.inl (.p4 x1c0 z1c1 x1c2 x1c3 x2 x3 a4 (List.set y14 j15 w16) a6 (IntKind.wrap .i64 (a7 + 1)))))) (cond (decide ((cmpN (digs B (num B x5)) x1c0) ≥ 0)) (some (.inr ((subN (digs B (num B x5)) x1c0).1))) (some (.inr (digs B (num B x5)))))

noncomputable def mont_Ring_product_step : mont_Ring_product_St → Option (mont_Ring_product_St ⊕ mont_Ring_product_Res)
  | .fn x1c0 z1c1 x1c2 x1c3 x2 x3 => mont_Ring_product_fn' x1c0 z1c1 x1c2 x1c3 x2 x3
  | .p4 x1c0 z1c1 x1c2 x1c3 x2 x3 a4 x5 a6 a7 => mont_Ring_product_p4' x1c0 z1c1 x1c2 x1c3 x2 x3 a4 x5 a6 a7

@[reducible] def mont_Ring_product_post (h0 : AH) (r : mont_Ring_product_Res) (v : AV) (h' : AH) : Prop := ∃ s1 : Sl, v = s1.v ∧ Nats h' s1 r ∧ Grow h0 h' ∧ Own h0 s1

def mont_Ring_product_At (r : mont_Ring_product_Res) : mont_Ring_product_St → Prop
  | .fn x1c0 z1c1 x1c2 x1c3 x2 x3 => ∀ {h : AH} {s1c0 : Sl} {s1c2 : Sl} {s1c3 : Sl} {a2 : Sl} {a3 : Sl} {i1 : Nat}, h.has i1 [s1c0.v, .int .u64 z1c1, s1c2.v, s1c3.v] T.mont_Ring → Nats h s1c0 x1c0 → Nats h s1c2 x1c2 → Nats h s1c3 x1c3 → Nats h a2 x2 → Nats h a3 x3 → Runs (go (.fn F.mont_Ring_product [.ptr (some (.new i1 0)), a2.v, a3.v]) h) (mont_Ring_product_post h r)
  | .p4 x1c0 z1c1 x1c2 x1c3 x2 x3 a4 x5 a6 a7 => ∀ {h0 h : AH} {s1c0 : Sl} {s1c2 : Sl} {s1c3 : Sl} {a2 : Sl} {a3 : Sl} {a5 : Sl} {i5 : Nat} {i1 : Nat}, Grow h0 h → h0.has i1 [s1c0.v, .int .u64 z1c1, s1c2.v, s1c3.v] T.mont_Ring → Nats h0 s1c0 x1c0 → Nats h0 s1c2 x1c2 → Nats h0 s1c3 x1c3 → Nats h0 a2 x2 → Nats h0 a3 x3 → Vec h a5 i5 x5 → h0.blks.size ≤ i5 → Runs (go (.pt F.mont_Ring_product Td.mont_Ring_product_4 [(0, .ptr (some (.new i1 0))), (1, a2.v), (2, a3.v), (7, .int .i64 a4), (8, a5.v), (20, .int .i64 a6), (21, .int .i64 a7)]) h) (mont_Ring_product_post h0 r)

theorem mont_Ring_product_fn_walk {r : mont_Ring_product_Res} {o : mont_Ring_product_St ⊕ mont_Ring_product_Res} {x1c0 : List Nat} {z1c1 : Int} {x1c2 : List Nat} {x1c3 : List Nat} {x2 : List Nat} {x3 : List Nat} (e : mont_Ring_product_fn' x1c0 z1c1 x1c2 x1c3 x2 x3 = some o) (good : GoodS (mont_Ring_product_At r) r o) : mont_Ring_product_At r (.fn x1c0 z1c1 x1c2 x1c3 x2 x3) := by
  intro h s1c0 s1c2 s1c3 a2 a3 i1 b1 n1c0 n1c2 n1c3 n2 n3
  rw [u_mont_Ring_product]
  unfold mont_Ring_product_fn' at e
  refine Runs.step rfl ?_
  refine Runs.step (AH.has.rd b1 0 rfl (asSl_v _)) ?_
  rw [n1c0.len]
  obtain ⟨m4, q4, e⟩ := Option.bind_eq_some_iff.1 e
  refine Runs.mk q4 bytes_uint64 fun s4 H4 v4 g4 => ?_
  cases e
  exact good g4 b1 n1c0 n1c2 n1c3 n2 n3 v4 (Nat.le_refl _)

theorem mont_Ring_product_p4_walk {r : mont_Ring_product_Res} {o : mont_Ring_product_St ⊕ mont_Ring_product_Res} {x1c0 : List Nat} {z1c1 : Int} {x1c2 : List Nat} {x1c3 : List Nat} {x2 : List Nat} {x3 : List Nat} {a4 : Int} {x5 : List Nat} {a6 : Int} {a7 : Int} (e : mont_Ring_product_p4' x1c0 z1c1 x1c2 x1c3 x2 x3 a4 x5 a6 a7 = some o) (good : GoodS (mont_Ring_product_At r) r o) : mont_Ring_product_At r (.p4 x1c0 z1c1 x1c2 x1c3 x2 x3 a4 x5 a6 a7) := by
  intro h0 h s1c0 s1c2 s1c3 a2 a3 a5 i5 i1 g0 b1 n1c0 n1c2 n1c3 n2 n3 v5 hi5
  rw [p_mont_Ring_product_4]
  unfold mont_Ring_product_p4' at e
  rw [(n2.grow g0).len]
  rw [v5.nats.len]
  refine Runs.cond (fun k8 => ?_) (fun k8 => ?_)
  · replace e := (condT k8).symm.trans e
    refine Runs.cond (fun k9 => ?_) (fun k9 => ?_)
    · replace e := (condT k9).symm.trans e
      obtain ⟨y10, q10, e⟩ := Option.bind_eq_some_iff.1 e
      obtain ⟨r10, j10, l10⟩ := (n2.grow g0).atI q10
      refine Runs.step j10 ?_
      refine Runs.step (rdc l10 (avInt_int _ _)) ?_
      obtain ⟨p11, q11, e⟩ := Option.bind_eq_some_iff.1 e
      obtain ⟨_, H11, e11, rfl, v11, u11⟩ := mont_add_opt v5 (n3.grow g0) (Av.of_base n3 hi5) q11
      refine Runs.step e11 ?_
      obtain ⟨c11, d11, e⟩ := Option.bind_eq_some_iff.1 e
      have hl11 := c11.down
      refine Runs.step rfl ?_
      refine Runs.step rfl ?_
      refine Runs.step (AH.has.rd ((g0.updr hi5 u11).has b1) 0 rfl (asSl_v _)) ?_
      obtain ⟨j12, q12, e⟩ := Option.bind_eq_some_iff.1 e
      refine Runs.step (v11.idx (by simp only [List.length_set, hl11]) q12) ?_
      refine Runs.step (v11.rd (by simp only [List.length_set, hl11]) q12 (avInt_int _ _)) ?_
      refine Runs.step rfl ?_
      refine Runs.step (AH.has.rd ((g0.updr hi5 u11).has b1) 1 rfl (avInt_int _ _)) ?_
      obtain ⟨p13, q13, e⟩ := Option.bind_eq_some_iff.1 e
      obtain ⟨_, H13, e13, rfl, v13, u13⟩ := mont_add_opt v11 (n1c0.grow (g0.updr hi5 u11)) (Av.of_base n1c0 hi5) q13
      refine Runs.step e13 ?_
      obtain ⟨c13, d13, e⟩ := Option.bind_eq_some_iff.1 e
      have hl13 := c13.down
      refine Runs.step rfl ?_
      obtain ⟨p14, q14, e⟩ := Option.bind_eq_some_iff.1 e
      obtain ⟨s14, e14, w14⟩ := v13.cutW (by simp only [List.length_set, hl13, hl11]) q14
      refine Runs.step e14 ?_
      obtain ⟨y15, q15, e⟩ := Option.bind_eq_some_iff.1 e
      have hl15 := overW_len q15
      obtain ⟨H15, e15, v15, u15⟩ := v13.copyV (w14.nats v13 (by have := (cutP_some q14).2.2.2; simpa only [List.length_set, hl13, hl11] using this)) q15
      refine Runs.step e15 ?_
      obtain ⟨j16, q16, e⟩ := Option.bind_eq_some_iff.1 e
      refine Runs.step (v15.idx (by simp only [List.length_set, hl15, hl13, hl11]) q16) ?_
      obtain ⟨w17, z17, e⟩ := Option.bind_eq_some_iff.1 e
      refine Runs.vput v15 (by simp only [List.length_set, hl15, hl13, hl11]) q16 z17 fun H17 v17 u17 => ?_
      cases e
      have G18 := ((((g0.updr hi5 u11).updr hi5 u13).updr hi5 u15).updr hi5 u17)
      exact good G18 b1 n1c0 n1c2 n1c3 n2 n3 v17 hi5
    · replace e := (condF k9).symm.trans e
      obtain ⟨p10, q10, e⟩ := Option.bind_eq_some_iff.1 e
      obtain ⟨_, H10, e10, rfl, v10, u10⟩ := mont_add_opt v5 (n3.grow g0) (Av.of_base n3 hi5) q10
      refine Runs.step e10 ?_
      obtain ⟨c10, d10, e⟩ := Option.bind_eq_some_iff.1 e
      have hl10 := c10.down
      refine Runs.step rfl ?_
      refine Runs.step rfl ?_
      refine Runs.step (AH.has.rd ((g0.updr hi5 u10).has b1) 0 rfl (asSl_v _)) ?_
      obtain ⟨j11, q11, e⟩ := Option.bind_eq_some_iff.1 e
      refine Runs.step (v10.idx (by simp only [List.length_set, hl10]) q11) ?_
      refine Runs.step (v10.rd (by simp only [List.length_set, hl10]) q11 (avInt_int _ _)) ?_
      refine Runs.step rfl ?_
      refine Runs.step (AH.has.rd ((g0.updr hi5 u10).has b1) 1 rfl (avInt_int _ _)) ?_
      obtain ⟨p12, q12, e⟩ := Option.bind_eq_some_iff.1 e
      obtain ⟨_, H12, e12, rfl, v12, u12⟩ := mont_add_opt v10 (n1c0.grow (g0.updr hi5 u10)) (Av.of_base n1c0 hi5) q12
      refine Runs.step e12 ?_
      obtain ⟨c12, d12, e⟩ := Option.bind_eq_some_iff.1 e
      have hl12 := c12.down
      refine Runs.step rfl ?_
      obtain ⟨p13, q13, e⟩ := Option.bind_eq_some_iff.1 e
      obtain ⟨s13, e13, w13⟩ := v12.cutW (by simp only [List.length_set, hl12, hl10]) q13
      refine Runs.step e13 ?_
      obtain ⟨y14, q14, e⟩ := Option.bind_eq_some_iff.1 e
      have hl14 := overW_len q14
      obtain ⟨H14, e14, v14, u14⟩ := v12.copyV (w13.nats v12 (by have := (cutP_some q13).2.2.2; simpa only [List.length_set, hl12, hl10] using this)) q14
      refine Runs.step e14 ?_
      obtain ⟨j15, q15, e⟩ := Option.bind_eq_some_iff.1 e
      refine Runs.step (v14.idx (by simp only [List.length_set, hl14, hl12, hl10]) q15) ?_
      obtain ⟨w16, z16, e⟩ := Option.bind_eq_some_iff.1 e
      refine Runs.vput v14 (by simp only [List.length_set, hl14, hl12, hl10]) q15 z16 fun H16 v16 u16 => ?_
      cases e
      have G17 := ((((g0.updr hi5 u10).updr hi5 u12).updr hi5 u14).updr hi5 u16)
      exact good G17 b1 n1c0 n1c2 n1c3 n2 n3 v16 hi5
  · replace e := (condF k8).symm.trans e
    obtain ⟨s9, e9, n9, o9⟩ := mont_trim_spec v5.nats
    refine Runs.step e9 ?_
    refine Runs.step (seen (asSl_v _)) ?_
    refine Runs.step rfl ?_
    refine Runs.step (AH.has.rd (g0.has b1) 0 rfl (asSl_v _)) ?_
    obtain ⟨H10, e10, g10⟩ := nat_Cmp_spec n9 (n1c0.grow g0)
    refine Runs.step e10 ?_
    refine Runs.step (seen (avInt_int _ _)) ?_
    refine Runs.cond (fun k11 => ?_) (fun k11 => ?_)
    · replace e := (condT k11).symm.trans e
      refine Runs.step rfl ?_
      refine Runs.step (AH.has.rd ((g0.trans g10).has b1) 0 rfl (asSl_v _)) ?_
      obtain ⟨s12, H12, e12, n12, g12, o12⟩ := nat_Sub_spec (n9.grow g10) (n1c0.grow (g0.trans g10))
      refine Runs.step e12 ?_
      refine Runs.step rfl ?_
      refine Runs.step (seen (asSl_v _)) ?_
      refine Runs.step (seen (avInt_int _ _)) ?_
      cases e
      cases good
      have G13 := ((g0.trans g10).trans g12)
      exact Runs.ret ⟨s12, rfl, n12, G13, (o12.of_le (g0.trans g10))⟩
    · replace e := (condF k11).symm.trans e
      cases e
      cases good
      exact Runs.ret ⟨s9, rfl, (n9.grow g10), (g0.trans g10), ((o9 _ (v5.own hi5)).of_le (Grow.refl _))⟩

theorem mont_Ring_product_run {s : mont_Ring_product_St} {r : mont_Ring_product_Res} (it : Iter mont_Ring_product_step s r) : mont_Ring_product_At r s := Iter.ind (fun s o e good => by
  cases s with
  | fn x1c0 z1c1 x1c2 x1c3 x2 x3 => exact @mont_Ring_product_fn_walk _ _ x1c0 z1c1 x1c2 x1c3 x2 x3 e good
  | p4 x1c0 z1c1 x1c2 x1c3 x2 x3 a4 x5 a6 a7 => exact @mont_Ring_product_p4_walk _ _ x1c0 z1c1 x1c2 x1c3 x2 x3 a4 x5 a6 a7 e good
  ) it

theorem mont_Ring_product_opt {h : AH} {s1c0 : Sl} {s1c2 : Sl} {s1c3 : Sl} {a2 : Sl} {a3 : Sl} {i1 : Nat} {x1c0 : List Nat} {z1c1 : Int} {x1c2 : List Nat} {x1c3 : List Nat} {x2 : List Nat} {x3 : List Nat} (b1 : h.has i1 [s1c0.v, .int .u64 z1c1, s1c2.v, s1c3.v] T.mont_Ring) (n1c0 : Nats h s1c0 x1c0) (n1c2 : Nats h s1c2 x1c2) (n1c3 : Nats h s1c3 x1c3) (n2 : Nats h a2 x2) (n3 : Nats h a3 x3) {r : mont_Ring_product_Res} (q : runP mont_Ring_product_step (.fn x1c0 z1c1 x1c2 x1c3 x2 x3) = some r) : Runs (go (.fn F.mont_Ring_product [.ptr (some (.new i1 0)), a2.v, a3.v]) h) (mont_Ring_product_post h r) := mont_Ring_product_run (runP_iter q) b1 n1c0 n1c2 n1c3 n2 n3

end Go.Ab

/- Layer 2: what the ring's product answers. -/
set_option linter.unusedVariables false
set_option linter.unusedSimpArgs false
set_option maxRecDepth 10000
namespace Go.Ab
open Go.Proofs Go.Num

theorem getD0 (xs : List Nat) : xs.getD 0 0 = xs.headD 0 := by cases xs <;> rfl

theorem headD_num {b : Nat} {xs : List Nat} (h : ∀ x ∈ xs, x < b) (hb : 0 < b) : xs.headD 0 = num b xs % b := by
  cases xs with
  | nil => simp [num]
  | cons x xs =>
    rw [num_cons, Nat.add_mul_mod_self_left, Nat.mod_eq_of_lt (h x (by simp))]
    rfl

/-- What a round makes of the sum so far. -/
def montR (ts ys ns : List Nat) (v x : Nat) : List Nat :=
  let p := addMul ts ys x 0
  (addMul p ns (p.headD 0 * v % B) 0).tail ++ [0]

theorem montR_ok {ts ys ns : List Nat} {v x k : Nat} (lt : ∀ t ∈ ts, t < B) (hl : ts.length = k + 2) (hx : x < B) (hv : (num B ns * v + 1) % B = 0) (hY : num B ys < B ^ k) (hN : num B ns < B ^ k) (hT : num B ts < num B ys + num B ns) :
    (montR ts ys ns v x).length = k + 2 ∧ (∀ t ∈ montR ts ys ns v x, t < B) ∧ (∃ m, m < B ∧ num B ts + num B ys * x + num B ns * m = num B (montR ts ys ns v x) * B) := by
  have B0 : 0 < B := by decide
  unfold montR
  dsimp only
  generalize hp : addMul ts ys x 0 = p
  generalize hT' : num B ts = T at *
  generalize hY' : num B ys = Y at *
  generalize hN' : num B ns = N at *
  have lp : p.length = k + 2 := by rw [← hp, addMul_len, hl]
  have ltp : ∀ t ∈ p, t < B := by rw [← hp]; exact addMul_lt _ _ _ _
  have e1 : Y * x ≤ B ^ k * B := Nat.mul_le_mul (by omega) (by omega)
  have e3 : B ^ (k + 2) = B ^ k * B * B := by rw [Nat.pow_succ, Nat.pow_succ]
  have e4 : B ^ k * B * 4 ≤ B ^ k * B * B := Nat.mul_le_mul_left _ (by decide)
  have e5 : B ^ k * 2 ≤ B ^ k * B := Nat.mul_le_mul_left _ (by decide)
  have np : num B p = T + Y * x := by
    rw [← hp, num_addMul, hT', hY', hl, Nat.add_zero]
    refine Nat.mod_eq_of_lt ?_
    omega
  have hh : p.headD 0 = (T + Y * x) % B := by rw [headD_num ltp B0, np]
  rw [hh]
  generalize hm : (T + Y * x) % B * v % B = m
  have mB : m < B := by rw [← hm]; exact Nat.mod_lt _ B0
  have e2 : N * m ≤ B ^ k * B := Nat.mul_le_mul (by omega) (by omega)
  generalize hp' : addMul p ns m 0 = p'
  have lp' : p'.length = k + 2 := by rw [← hp', addMul_len, lp]
  have ltp' : ∀ t ∈ p', t < B := by rw [← hp']; exact addMul_lt _ _ _ _
  have np' : num B p' = T + Y * x + N * m := by
    rw [← hp', num_addMul, np, hN', lp, Nat.add_zero]
    refine Nat.mod_eq_of_lt ?_
    omega
  have h0 : p'.headD 0 = 0 := by
    rw [headD_num ltp' B0, np', ← hm]
    exact mont_low B0 hv
  refine ⟨by simp; omega, ?_, m, mB, ?_⟩
  · intro t ht
    rcases List.mem_append.1 ht with h | h
    · exact ltp' t (List.mem_of_mem_tail h)
    · rw [List.mem_singleton.1 h]; exact B0
  · rw [← np', num_headD B p', h0, show [0] = List.replicate 1 0 from rfl, num_noughts, Nat.zero_add, Nat.mul_comm]

theorem tail_take {p : List Nat} {k : Nat} (h : p.length = k + 2) : List.take (k + 1) (List.drop 1 p) = p.tail := by
  rw [List.drop_one, List.take_of_length_le (by simp; omega)]

theorem over_tail {p : List Nat} {k : Nat} (h : p.length = k + 2) : ∃ z, overW p p.tail = some (p.tail ++ [z]) := by
  unfold overW
  rw [if_pos (by simp)]
  have hd : (p.drop p.tail.length).length = 1 := by simp; omega
  obtain ⟨z, hz⟩ := List.length_eq_one_iff.1 hd
  exact ⟨z, by rw [hz]⟩

theorem getD_none {xs : List Nat} {i : Nat} (h : xs.length ≤ i) : xs.getD i 0 = 0 := by simp [List.getD, List.getElem?_eq_none h]

theorem cmpN_rt2 {xs ys : List Nat} (hx : rt xs = true) (hy : rt ys = true) : cmpN xs ys = cmp (num B xs) (num B ys) := by
  unfold cmpN
  rw [if_pos ⟨hx, hy⟩]

theorem take_getD (b : Nat) {xs : List Nat} (i : Nat) : num b (xs.take (i + 1)) = num b (xs.take i) + b ^ i * xs.getD i 0 := by
  rcases Nat.lt_or_ge i xs.length with h | h
  · rw [num_take_succ b h, getD_lt h]
  · rw [List.take_of_length_le (by omega), List.take_of_length_le h, getD_none h]
    simp

section
variable {ns xs ys ones nexts : List Nat} {v k N X Y : Nat}

theorem product_step (hk : k ≤ 60) (ln : ns.length = k) (ltn : ∀ t ∈ ns, t < B) (lx : ∀ t ∈ xs, t < B) (ly : ∀ t ∈ ys, t < B) (hvB : v < B) (hv : (num B ns * v + 1) % B = 0) (hY : num B ys < num B ns) {ts : List Nat} (lt : ∀ t ∈ ts, t < B) (hl : ts.length = k + 2) {i : Nat} (hi : i < k) (hT : num B ts < num B ys + num B ns) :
    mont_Ring_product_p4' ns (v : Int) ones nexts xs ys (k : Int) ts (k : Int) (i : Int) = some (.inl (.p4 ns (v : Int) ones nexts xs ys (k : Int) (montR ts ys ns v (xs.getD i 0)) (k : Int) ((i + 1 : Nat) : Int))) := by
  have hN : num B ns < B ^ k := ln ▸ num_lt B1 ltn
  have run : ∀ x : Nat, x < B → ∀ p, addMul ts ys x 0 = p → ∀ q, addMul p ns (p.headD 0 * v % B) 0 = q →
      p.length = k + 2 ∧ q.length = k + 2 ∧ runP mont_add_step (.fn ts ys (x : Int)) = some p ∧ runP mont_add_step (.fn p ns (IntKind.wrap .u64 (((List.getD p 0 0 : Nat) : Int) * (v : Int)))) = some q := by
    intro x hx p hp q hq
    have l1 : p.length = k + 2 := by rw [← hp, addMul_len, hl]
    refine ⟨l1, by rw [← hq, addMul_len, l1], ?_, ?_⟩
    · rw [mont_add_iter lt ly hx (by omega), hp]
    · rw [← Int.natCast_mul, wrapU, getD0]
      have : (((p.headD 0 * v : Nat) : Int)) % 18446744073709551616 = ((p.headD 0 * v % B : Nat) : Int) := rfl
      rw [this, mont_add_iter (hp ▸ addMul_lt _ _ _ _) ltn (Nat.mod_lt _ (by decide)) (by omega), hq]
  unfold mont_Ring_product_p4'
  rw [condT (by rw [decide_eq_true_eq]; omega)]
  have fin : ∀ q : List Nat, q.length = k + 2 → ∀ r : Option (mont_Ring_product_St ⊕ mont_Ring_product_Res), r = ((cutP ts.length 1 (ts.length : Int)).bind fun p14 => (overW q (List.take p14.2 (List.drop p14.1 q))).bind fun y15 => (inI ts.length (IntKind.wrap .i64 ((k : Int) + 1))).bind fun j16 => (u64P 0).bind fun w17 => some (.inl (.p4 ns (v : Int) ones nexts xs ys (k : Int) (List.set y15 j16 w17) (k : Int) (IntKind.wrap .i64 ((i : Int) + 1))))) →
      r = some (.inl (.p4 ns (v : Int) ones nexts xs ys (k : Int) (q.tail ++ [0]) (k : Int) ((i + 1 : Nat) : Int))) := by
    intro q lq r hr
    rw [hr, hl]
    have c := cutP_nat (len := k + 2) (lo := 1) (n := k + 1) (by omega) (by omega)
    rw [show 1 + (k + 1) = k + 2 from by omega] at c
    rw [show ((1 : Nat) : Int) = 1 from rfl] at c
    obtain ⟨z, hz⟩ := over_tail lq
    rw [c, Option.bind_some]
    dsimp only
    rw [tail_take lq, hz, Option.bind_some, wrap_succ (by omega), inI_nat (by omega), Option.bind_some, show u64P 0 = some 0 from rfl, Option.bind_some, wrap_succ (by omega)]
    have := set_mid q.tail z 0 [] (n := k + 1) (by simp; omega)
    rw [this, List.append_nil]
  by_cases hx : i < xs.length
  · have hxB := lx xs[i] (List.getElem_mem _)
    obtain ⟨l1, l2, r1, r2⟩ := run xs[i] hxB _ rfl _ rfl
    rw [condT (by rw [decide_eq_true_eq]; omega), atI_nat hx, Option.bind_some, r1, Option.bind_some, need_of (by rw [l1, hl]), Option.bind_some, show (0 : Int) = ((0 : Nat) : Int) from rfl, inI_nat (by omega), Option.bind_some, r2, Option.bind_some, need_of (by rw [l1, l2]), Option.bind_some]
    refine (fin _ l2 _ rfl).trans ?_
    unfold montR
    rw [getD_lt hx]
  · obtain ⟨l1, l2, r1, r2⟩ := run 0 (by decide) _ rfl _ rfl
    rw [show ((0 : Nat) : Int) = 0 from rfl] at r1
    rw [condF (by rw [decide_eq_false_iff_not]; omega), r1, Option.bind_some, need_of (by rw [l1, hl]), Option.bind_some, show (0 : Int) = ((0 : Nat) : Int) from rfl, inI_nat (by omega), Option.bind_some, r2, Option.bind_some, need_of (by rw [l1, l2]), Option.bind_some]
    refine (fin _ l2 _ rfl).trans ?_
    unfold montR
    rw [getD_none (show xs.length ≤ i from by omega)]

theorem product_loop (hk : k ≤ 60) (ln : ns.length = k) (ltn : ∀ t ∈ ns, t < B) (tn : Trim ns) (lx : ∀ t ∈ xs, t < B) (ly : ∀ t ∈ ys, t < B) (hvB : v < B) (hv : (num B ns * v + 1) % B = 0) (ho : num B ns % 2 = 1) (hX : xs.length ≤ k) (hY : num B ys < num B ns) :
    ∀ (d i : Nat), i + d = k → ∀ ts : List Nat, (∀ t ∈ ts, t < B) → ts.length = k + 2 → num B ts < num B ys + num B ns → (∃ M, num B ts * B ^ i = num B (xs.take i) * num B ys + num B ns * M) →
      Iter mont_Ring_product_step (.p4 ns (v : Int) ones nexts xs ys (k : Int) ts (k : Int) (i : Int)) (digs B (redc (num B ns) (64 * k) (num B xs * num B ys)))
  | 0, i, hi, ts, lt, hl, hT, ⟨M, hM⟩ => by
    have hi : i = k := by omega
    subst hi
    have hN : num B ns < B ^ i := ln ▸ num_lt B1 ltn
    have h64 : B ^ i * 2 ≤ B ^ 64 := by
      calc B ^ i * 2 ≤ B ^ i * B := Nat.mul_le_mul_left _ (by decide)
        _ = B ^ (i + 1) := (Nat.pow_succ ..).symm
        _ ≤ B ^ 64 := Nat.pow_le_pow_right (by decide) (by omega)
    have rn : rt ns = true := rt_iff.2 ⟨by omega, tn⟩
    have rT : rt (digs B (num B ts)) = true := rt_digs (by omega)
    rw [List.take_of_length_le hX] at hM
    have e64 : B ^ i = 2 ^ (64 * i) := by rw [show B = 2 ^ 64 from rfl, ← Nat.pow_mul]
    rw [e64] at hM
    refine .done ?_
    show mont_Ring_product_p4' _ _ _ _ _ _ _ _ _ _ = _
    unfold mont_Ring_product_p4'
    rw [condF (by rw [decide_eq_false_iff_not]; omega), cmpN_rt2 rT rn, num_digs B2]
    by_cases hc : num B ts < num B ns
    · have : cmp (num B ts) (num B ns) = -1 := by unfold cmp; rw [if_pos hc]
      rw [this, show decide ((-1 : Int) ≥ 0) = false from rfl, cond_false]
      rw [← redc_of ho hc (by rw [hM, Nat.add_mul_mod_self_left])]
    · have : decide (cmp (num B ts) (num B ns) ≥ 0) = true := by
        unfold cmp
        rw [if_neg hc]
        split <;> rfl
      rw [this, cond_true]
      unfold subN
      rw [if_pos ⟨rT, rn⟩, num_digs B2, if_neg hc]
      rw [← redc_of (r := num B ts - num B ns) ho (by omega)]
      rw [Nat.sub_mul, hM, ← Nat.add_mul_mod_self_left (_ - _) (num B ns) (2 ^ (64 * i)), Nat.sub_add_cancel]
      · rw [Nat.add_mul_mod_self_left]
      · rw [← hM]
        exact Nat.mul_le_mul_right _ (by omega)
  | d + 1, i, hi, ts, lt, hl, hT, ⟨M, hM⟩ => by
    have hN : num B ns < B ^ k := ln ▸ num_lt B1 ltn
    have hx : xs.getD i 0 < B := by
      rcases Nat.lt_or_ge i xs.length with h | h
      · rw [getD_lt h]; exact lx _ (List.getElem_mem _)
      · rw [getD_none h]; decide
    obtain ⟨o1, o2, m, hm, o3⟩ := montR_ok (v := v) (ns := ns) (ys := ys) lt hl hx hv (by omega) hN hT
    refine .next (product_step hk ln ltn lx ly hvB hv hY lt hl (by omega) hT) (product_loop hk ln ltn tn lx ly hvB hv ho hX hY d (i + 1) (by omega) _ o2 o1 ?_ ⟨M + B ^ i * m, ?_⟩)
    · have := mont_bound hT hx hm
      rwa [o3, Nat.mul_div_cancel _ (by decide)] at this
    · rw [take_getD, Nat.pow_succ]
      have := mont_round hM o3
      rw [this, Nat.mul_comm (B ^ i) m, Nat.mul_comm m]

theorem mont_Ring_product_iter (hk : k ≤ 60) (ln : ns.length = k) (ltn : ∀ t ∈ ns, t < B) (tn : Trim ns) (lx : ∀ t ∈ xs, t < B) (ly : ∀ t ∈ ys, t < B) (hvB : v < B) (hv : (num B ns * v + 1) % B = 0) (ho : num B ns % 2 = 1) (hX : xs.length ≤ k) (hY : num B ys < num B ns) :
    runP mont_Ring_product_step (.fn ns (v : Int) ones nexts xs ys) = some (digs B (redc (num B ns) (64 * k) (num B xs * num B ys))) := by
  refine runP_of (.next (s' := .p4 ns (v : Int) ones nexts xs ys (k : Int) (List.replicate (k + 2) 0) (k : Int) ((0 : Nat) : Int)) ?_ (product_loop hk ln ltn tn lx ly hvB hv ho hX hY k 0 (by omega) _ ?_ (by simp) ?_ ⟨0, ?_⟩))
  · show mont_Ring_product_fn' _ _ _ _ _ _ = _
    unfold mont_Ring_product_fn'
    rw [ln, show ((k : Int) + 2) = ((k + 2 : Nat) : Int) from by omega, wrap_nat (by omega), mkI_nat (by omega), Option.bind_some]
    rfl
  · intro t ht
    rw [List.eq_of_mem_replicate ht]
    decide
  · have : num B (List.replicate (k + 2) 0) = 0 := by have := num_noughts B [] (k + 2); simpa [num] using this
    rw [this]
    omega
  · have : num B (List.replicate (k + 2) 0) = 0 := by have := num_noughts B [] (k + 2); simpa [num] using this
    simp [this, num]
end

end Go.Ab

/- Layer 1: bits, their walk: printed by wip/tools/walk.py. -/
set_option linter.unusedVariables false
set_option linter.unusedSimpArgs false
set_option maxRecDepth 10000
namespace Go.Ab
open Go.Proofs Go.Num

theorem Bl.det {x m n : Nat} (a : Bl x m) (b : Bl x n) : m = n := Nat.le_antisymm (a.le b.1) (b.le a.1)

theorem len64_need {a : Int} {h : AH} (c : 0 ≤ a ∧ a < 18446744073709551616) : go (.fn F.math_bits_Len64 [.int .u64 a]) h = some (.int .i64 ((bl (Int.toNat a) : Nat) : Int), h) := by
  obtain ⟨x, rfl⟩ : ∃ x : Nat, a = (x : Int) := ⟨a.toNat, by omega⟩
  obtain ⟨n, e, b⟩ := len64_spec (x := x) (by omega) (h := h)
  rw [e, Int.toNat_natCast, b.det (bl_Bl x)]

inductive nat_Bits_St
  | fn (x1 : List Nat)
  | no

abbrev nat_Bits_Res := Int

noncomputable def nat_Bits_fn' (x1 : List Nat) : Option (nat_Bits_St ⊕ nat_Bits_Res) :=
  cond (!(rt x1)) (some (.inr 0)) (cond (decide ((List.length x1 : Int) = 0)) (some (.inr 0)) ((atI x1 (IntKind.wrap .i64 ((List.length x1 : Int) - 1))).bind fun y5 => (need (0 ≤ ((y5 : Int)) ∧ ((y5 : Int)) < 18446744073709551616)).bind fun c6_0 => some (.inr (IntKind.wrap .i64 ((IntKind.wrap .i64 (64 * (IntKind.wrap .i64 ((List.length x1 : Int) - 1)))) + (((bl (Int.toNat ((y5 : Int))) : Nat) : Int)))))))

noncomputable def nat_Bits_step : nat_Bits_St → Option (nat_Bits_St ⊕ nat_Bits_Res)
  | .fn x1 => nat_Bits_fn' x1
  | .no => none

@[reducible] def nat_Bits_post (h0 : AH) (r : nat_Bits_Res) (v : AV) (h' : AH) : Prop := v = .int .i64 r ∧ Grow h0 h'

def nat_Bits_At (r : nat_Bits_Res) : nat_Bits_St → Prop
  | .fn x1 => ∀ {h : AH} {a1 : Sl}, Nats h a1 x1 → Runs (go (.fn F.nat_Bits [a1.v]) h) (nat_Bits_post h r)
  | .no => True

theorem nat_Bits_fn_walk {r : nat_Bits_Res} {o : nat_Bits_St ⊕ nat_Bits_Res} {x1 : List Nat} (e : nat_Bits_fn' x1 = some o) (good : GoodS (nat_Bits_At r) r o) : nat_Bits_At r (.fn x1) := by
  intro h a1 n1
  rw [u_nat_Bits]
  unfold nat_Bits_fn' at e
  rw [n1.len]
  refine Runs.step (nat_Right_spec n1) ?_
  refine Runs.step (seen rfl) ?_
  refine Runs.cond (fun k3 => ?_) (fun k3 => ?_)
  · replace e := (condT k3).symm.trans e
    cases e
    cases good
    exact Runs.ret ⟨rfl, (Grow.refl _)⟩
  · replace e := (condF k3).symm.trans e
    refine Runs.cond (fun k4 => ?_) (fun k4 => ?_)
    · replace e := (condT k4).symm.trans e
      cases e
      cases good
      exact Runs.ret ⟨rfl, (Grow.refl _)⟩
    · replace e := (condF k4).symm.trans e
      obtain ⟨y5, q5, e⟩ := Option.bind_eq_some_iff.1 e
      obtain ⟨r5, j5, l5⟩ := n1.atI q5
      refine Runs.step j5 ?_
      refine Runs.step (rdc l5 (avInt_int _ _)) ?_
      obtain ⟨c6_0, q6_0, e⟩ := Option.bind_eq_some_iff.1 e
      refine Runs.step (len64_need  c6_0.down) ?_
      refine Runs.step (seen (avInt_int _ _)) ?_
      cases e
      cases good
      exact Runs.ret ⟨rfl, (Grow.refl _)⟩

theorem nat_Bits_run {s : nat_Bits_St} {r : nat_Bits_Res} (it : Iter nat_Bits_step s r) : nat_Bits_At r s := Iter.ind (fun s o e good => by
  cases s with
  | fn x1 => exact @nat_Bits_fn_walk _ _ x1 e good
  | no => exact True.intro
  ) it

theorem nat_Bits_opt {h : AH} {a1 : Sl} {x1 : List Nat} (n1 : Nats h a1 x1) {r : nat_Bits_Res} (q : runP nat_Bits_step (.fn x1) = some r) : Runs (go (.fn F.nat_Bits [a1.v]) h) (nat_Bits_post h r) := nat_Bits_run (runP_iter q) n1

inductive nat_Bit_St
  | fn (x1 : List Nat) (a2 : Int)
  | no

abbrev nat_Bit_Res := Bool

noncomputable def nat_Bit_fn' (x1 : List Nat) (a2 : Int) : Option (nat_Bit_St ⊕ nat_Bit_Res) :=
  cond ((rt x1)) (cond (decide (a2 ≥ 0)) (cond (decide ((IntKind.wrap .i64 (Int.tdiv a2 64)) < (List.length x1 : Int))) ((atI x1 (IntKind.wrap .i64 (Int.tdiv a2 64))).bind fun y7 => cond (decide ((Int.tmod a2 64) < 0)) (none) (some (.inr (decide ((iand .u64 (ishr .u64 ((y7 : Int)) (Int.tmod a2 64)) 1) = 1))))) (some (.inr false))) (some (.inr false))) (some (.inr false))

noncomputable def nat_Bit_step : nat_Bit_St → Option (nat_Bit_St ⊕ nat_Bit_Res)
  | .fn x1 a2 => nat_Bit_fn' x1 a2
  | .no => none

@[reducible] def nat_Bit_post (h0 : AH) (r : nat_Bit_Res) (v : AV) (h' : AH) : Prop := v = .bool r ∧ Grow h0 h'

def nat_Bit_At (r : nat_Bit_Res) : nat_Bit_St → Prop
  | .fn x1 a2 => ∀ {h : AH} {a1 : Sl}, Nats h a1 x1 → Runs (go (.fn F.nat_Bit [a1.v, .int .i64 a2]) h) (nat_Bit_post h r)
  | .no => True

theorem nat_Bit_fn_walk {r : nat_Bit_Res} {o : nat_Bit_St ⊕ nat_Bit_Res} {x1 : List Nat} {a2 : Int} (e : nat_Bit_fn' x1 a2 = some o) (good : GoodS (nat_Bit_At r) r o) : nat_Bit_At r (.fn x1 a2) := by
  intro h a1 n1
  rw [u_nat_Bit]
  unfold nat_Bit_fn' at e
  rw [n1.len]
  refine Runs.step (nat_Right_spec n1) ?_
  refine Runs.step (seen rfl) ?_
  refine Runs.cond (fun k4 => ?_) (fun k4 => ?_)
  · replace e := (condT k4).symm.trans e
    refine Runs.cond (fun k5 => ?_) (fun k5 => ?_)
    · replace e := (condT k5).symm.trans e
      refine Runs.cond (fun k6 => ?_) (fun k6 => ?_)
      · replace e := (condT k6).symm.trans e
        obtain ⟨y7, q7, e⟩ := Option.bind_eq_some_iff.1 e
        obtain ⟨r7, j7, l7⟩ := n1.atI q7
        refine Runs.step j7 ?_
        refine Runs.step (rdc l7 (avInt_int _ _)) ?_
        refine Runs.cond (fun k8 => ?_) (fun k8 => ?_)
        · replace e := (condT k8).symm.trans e
          cases e
        · replace e := (condF k8).symm.trans e
          cases e
          cases good
          exact Runs.ret ⟨rfl, (Grow.refl _)⟩
      · replace e := (condF k6).symm.trans e
        cases e
        cases good
        exact Runs.ret ⟨rfl, (Grow.refl _)⟩
    · replace e := (condF k5).symm.trans e
      cases e
      cases good
      exact Runs.ret ⟨rfl, (Grow.refl _)⟩
  · replace e := (condF k4).symm.trans e
    cases e
    cases good
    exact Runs.ret ⟨rfl, (Grow.refl _)⟩

theorem nat_Bit_run {s : nat_Bit_St} {r : nat_Bit_Res} (it : Iter nat_Bit_step s r) : nat_Bit_At r s := Iter.ind (fun s o e good => by
  cases s with
  | fn x1 a2 => exact @nat_Bit_fn_walk _ _ x1 a2 e good
  | no => exact True.intro
  ) it

theorem nat_Bit_opt {h : AH} {a1 : Sl} {x1 : List Nat} {a2 : Int} (n1 : Nats h a1 x1) {r : nat_Bit_Res} (q : runP nat_Bit_step (.fn x1 a2) = some r) : Runs (go (.fn F.nat_Bit [a1.v, .int .i64 a2]) h) (nat_Bit_post h r) := nat_Bit_run (runP_iter q) n1

end Go.Ab

/- Layer 1: bits, what they are. -/
set_option linter.unusedVariables false
set_option linter.unusedSimpArgs false
set_option maxRecDepth 10000
namespace Go.Ab
open Go.Proofs Go.Num

def bitsN (xs : List Nat) : Nat := if rt xs = true then bl (num B xs) else 0
def bitN (xs : List Nat) (i : Int) : Bool := rt xs && (decide (0 ≤ i) && (num B xs).testBit i.toNat)

theorem num_div {xs : List Nat} (l : ∀ x ∈ xs, x < B) : ∀ i : Nat, num B xs / B ^ i = num B (xs.drop i)
  | 0 => by simp
  | i + 1 => by
    rw [Nat.pow_succ, Nat.mul_comm, ← Nat.div_div_eq_div_mul, num_headD B xs]
    have h : xs.headD 0 < B := by
      cases xs with
      | nil => decide
      | cons x xs => exact l x (by simp)
    rw [Nat.add_mul_div_left _ _ (show 0 < B by decide), Nat.div_eq_of_lt h, Nat.zero_add, num_div (xs := xs.tail) (fun x hx => l x (List.mem_of_mem_tail hx)) i]
    rw [← List.drop_one, List.drop_drop, Nat.add_comm]

theorem B_pow2 (i : Nat) : B ^ i = 2 ^ (64 * i) := by rw [show B = 2 ^ 64 from rfl, ← Nat.pow_mul]

theorem bl_num {xs : List Nat} (l : ∀ x ∈ xs, x < B) (h : xs.length ≠ 0) (h0 : xs[xs.length - 1] ≠ 0) : bl (num B xs) = 64 * (xs.length - 1) + bl xs[xs.length - 1] := by
  have hd := num_div l (xs.length - 1)
  rw [List.drop_eq_getElem_cons (by omega), show xs.length - 1 + 1 = xs.length from by omega, List.drop_length, B_pow2] at hd
  have e : num B xs / 2 ^ (64 * (xs.length - 1)) = xs[xs.length - 1] := by rw [hd]; simp [num]
  refine (bl_Bl _).det (Bl.up (n := bl xs[xs.length - 1]) ?_ ?_)
  · rw [e]; exact bl_Bl _
  · rw [e]; omega

theorem bl_le {x m : Nat} (h : x < 2 ^ m) : bl x ≤ m := (bl_Bl x).le h

theorem rt_last {xs : List Nat} (h : rt xs = true) (hl : xs.length ≠ 0) : xs[xs.length - 1] ≠ 0 := by
  have t := (rt_iff.1 h).2 (fun e => hl (by rw [e]; rfl))
  rwa [List.getLast_eq_getElem] at t

theorem nat_Bits_iter {xs : List Nat} (l : ∀ x ∈ xs, x < B) : runP nat_Bits_step (.fn xs) = some ((bitsN xs : Nat) : Int) := by
  refine runP_of (.done ?_)
  show nat_Bits_fn' _ = _
  unfold nat_Bits_fn' bitsN
  by_cases hr : rt xs = true
  · rw [hr, if_pos rfl, show (!true) = false from rfl, cond_false]
    have h64 := (rt_iff.1 hr).1
    by_cases hl : xs.length = 0
    · rw [condT (by rw [decide_eq_true_eq]; omega), List.length_eq_zero_iff.1 hl]
      rfl
    · have hb := l xs[xs.length - 1] (List.getElem_mem _)
      have hb' : xs[xs.length - 1] < 18446744073709551616 := hb
      have hbl := bl_le (x := xs[xs.length - 1]) (m := 64) hb
      rw [condF (by rw [decide_eq_false_iff_not]; omega), show ((xs.length : Int) - 1) = ((xs.length - 1 : Nat) : Int) from by omega, wrap_nat (by omega), atI_nat (by omega), Option.bind_some]
      have hn : 0 ≤ ((xs[xs.length - 1] : Nat) : Int) ∧ ((xs[xs.length - 1] : Nat) : Int) < 18446744073709551616 := by omega
      simp only [need_of hn, Option.bind_some]
      rw [Int.toNat_natCast, bl_num l hl (rt_last hr hl), show (64 * ((xs.length - 1 : Nat) : Int)) = ((64 * (xs.length - 1) : Nat) : Int) from by omega, wrap_nat (by omega), ← Int.natCast_add, wrap_nat (by omega)]
  · rw [if_neg hr, show rt xs = false from by simpa using hr]
    rfl

theorem nat_Bits_is {h : AH} {s : Sl} {xs : List Nat} (n : Nats h s xs) : Runs (go (.fn F.nat_Bits [s.v]) h) (nat_Bits_post h (bitsN xs)) := nat_Bits_opt n (nat_Bits_iter n.lt)

theorem iand_one {x : Nat} (hx : x < 18446744073709551616) : iand .u64 (x : Int) 1 = ((x % 2 : Nat) : Int) := by
  unfold iand
  rw [show IntKind.bits .u64 = 64 from rfl, wrapU]
  have e1 : BitVec.ofInt 64 (x : Int) = BitVec.ofNat 64 x := rfl
  have e2 : BitVec.ofInt 64 1 = BitVec.ofNat 64 1 := rfl
  rw [e1, e2, BitVec.toNat_and, BitVec.toNat_ofNat, BitVec.toNat_ofNat]
  rw [Nat.mod_eq_of_lt (show x < 2 ^ 64 from hx), Nat.mod_eq_of_lt (show 1 < 2 ^ 64 from by decide), Nat.and_one_is_mod]
  omega

theorem bit_limb {xs : List Nat} (l : ∀ x ∈ xs, x < B) {q r : Nat} (hq : q < xs.length) (hr : r < 64) : (num B xs).testBit (64 * q + r) = decide (xs[q] / 2 ^ r % 2 = 1) := by
  rw [Nat.testBit_eq_decide_div_mod_eq, Nat.pow_add, ← Nat.div_div_eq_div_mul, ← B_pow2, num_div l, List.drop_eq_getElem_cons hq, num_cons]
  generalize num B (xs.drop (q + 1)) = Y
  congr 2
  have e : B = 2 ^ r * (2 ^ (63 - r) * 2) := by
    rw [← Nat.pow_succ, ← Nat.pow_add, show r + (63 - r).succ = 64 from by omega]
  have e2 : xs[q] + B * Y = xs[q] + 2 ^ r * (2 ^ (63 - r) * 2 * Y) := by rw [← Nat.mul_assoc, ← e]
  rw [e2, Nat.add_mul_div_left _ _ (Nat.pow_pos (by decide)), show 2 ^ (63 - r) * 2 * Y = 2 * (2 ^ (63 - r) * Y) from by rw [Nat.mul_comm (2 ^ (63 - r)) 2, Nat.mul_assoc], Nat.add_mul_mod_self_left]

theorem bit_over {xs : List Nat} (l : ∀ x ∈ xs, x < B) {i : Nat} (hq : xs.length ≤ i / 64) : (num B xs).testBit i = false := by
  refine Nat.testBit_lt_two_pow ?_
  have h1 := num_lt B1 l
  rw [B_pow2] at h1
  have h2 : 2 ^ (64 * xs.length) ≤ 2 ^ i := Nat.pow_le_pow_right (by decide) (by omega)
  omega

theorem tdiv64 (n : Nat) : Int.tdiv (n : Int) 64 = ((n / 64 : Nat) : Int) := rfl
theorem tmod64 (n : Nat) : Int.tmod (n : Int) 64 = ((n % 64 : Nat) : Int) := rfl
theorem bitN_not {xs : List Nat} {i : Int} (h : rt xs = false) : bitN xs i = false := by unfold bitN; rw [h]; rfl
theorem bitN_neg {xs : List Nat} {i : Int} (h : i < 0) : bitN xs i = false := by unfold bitN; rw [show decide (0 ≤ i) = false from by rw [decide_eq_false_iff_not]; omega]; cases rt xs <;> rfl
theorem bitN_nat {xs : List Nat} {i : Nat} (h : rt xs = true) : bitN xs (i : Int) = (num B xs).testBit i := by unfold bitN; rw [h, show decide (0 ≤ (i : Int)) = true from by rw [decide_eq_true_eq]; omega]; rfl

theorem nat_Bit_iter {xs : List Nat} (l : ∀ x ∈ xs, x < B) {i : Int} (hi : i ≤ 9223372036854775807) : runP nat_Bit_step (.fn xs i) = some (bitN xs i) := by
  refine runP_of (.done ?_)
  show nat_Bit_fn' _ _ = _
  unfold nat_Bit_fn'
  by_cases hr : rt xs = true
  · rw [hr, cond_true]
    by_cases h0 : i < 0
    · rw [condF (by rw [decide_eq_false_iff_not]; omega), bitN_neg h0]
    · obtain ⟨j, rfl⟩ : ∃ j : Nat, i = (j : Int) := ⟨i.toNat, by omega⟩
      rw [condT (by rw [decide_eq_true_eq]; omega), bitN_nat hr, tdiv64, tmod64, wrap_nat (by omega)]
      by_cases hq : j / 64 < xs.length
      · have hb : xs[j / 64] < 18446744073709551616 := l _ (List.getElem_mem _)
        have h2 : xs[j / 64] / 2 ^ (j % 64) < 18446744073709551616 := Nat.lt_of_le_of_lt (Nat.div_le_self _ _) hb
        rw [condT (by rw [decide_eq_true_eq]; omega), atI_nat hq, Option.bind_some, condF (by rw [decide_eq_false_iff_not]; omega), ishr_nat, Nat.min_eq_left (by omega), iand_one h2]
        have := bit_limb l hq (Nat.mod_lt j (show 0 < 64 by decide))
        rw [Nat.div_add_mod] at this
        rw [this]
        generalize xs[j / 64] / 2 ^ (j % 64) = z
        congr 3
        exact propext (by omega)
      · rw [condF (by rw [decide_eq_false_iff_not]; omega), bit_over l (by omega)]
  · rw [show rt xs = false from by simpa using hr, cond_false, bitN_not (by simpa using hr)]

theorem nat_Bit_need {h : AH} {s : Sl} {xs : List Nat} (n : Nats h s xs) {i : Int} (hi : i ≤ 9223372036854775807) : Runs (go (.fn F.nat_Bit [s.v, .int .i64 i]) h) (nat_Bit_post h (bitN xs i)) := nat_Bit_opt n (nat_Bit_iter n.lt hi)

end Go.Ab

/- Layer 2: which numbers are below a ring's modulus. -/
set_option linter.unusedVariables false
set_option linter.unusedSimpArgs false
set_option maxRecDepth 10000
namespace Go.Ab
open Go.Proofs Go.Num

def belowF (xs ns : List Nat) : Bool := rt xs && decide (cmpN xs ns < 0)

theorem mont_Ring_below_1_spec {h : AH} {i p : Nat} {a s0 s2 s3 : Sl} {z : Int} {xs ns : List Nat} (b : h.has i [s0.v, .int .u64 z, s2.v, s3.v] T.mont_Ring) (hp : h.has p [.ptr (some (.new i 0))] T.P_mont_Ring) (m : Nats h s0 ns) (n : Nats h a xs) :
    Runs (go (.fn F.mont_Ring_below_1 [a.v, .ptr (some (.new p 0))]) h) fun v h' => v = .bool (!belowF xs ns) ∧ Grow h h' := by
  rw [u_mont_Ring_below_1]
  refine Runs.step (nat_Right_spec n) ?_
  refine Runs.step (seen rfl) ?_
  unfold belowF
  refine Runs.cond (fun k => ?_) (fun k => ?_)
  · rw [show rt xs = false from by simpa using k]
    exact Runs.ret ⟨rfl, Grow.refl _⟩
  · rw [show rt xs = true from by simpa using k, Bool.true_and]
    refine Runs.step rfl ?_
    refine Runs.step (AH.has.rd0 hp rfl rfl) ?_
    refine Runs.step rfl ?_
    refine Runs.step (AH.has.rd b 0 rfl (asSl_v _)) ?_
    obtain ⟨h', e, g⟩ := nat_Cmp_spec n m
    refine Runs.step e ?_
    refine Runs.step (seen (avInt_int _ _)) ?_
    refine Runs.ret ⟨?_, g⟩
    congr 1
    rw [Bool.eq_iff_iff]
    simp

theorem mont_Ring_below_one {h : AH} {i j : Nat} {a s0 s2 s3 : Sl} {z : Int} {xs ns ones nexts : List Nat} {e : TypeId} (b : h.has i [s0.v, .int .u64 z, s2.v, s3.v] T.mont_Ring) (m : Nats h s0 ns) (m2 : Nats h s2 ones) (m3 : Nats h s3 nexts) (c : h.has j [a.v] e) (n : Nats h a xs) :
    Runs (go (.fn F.mont_Ring_below [.ptr (some (.new i 0)), (⟨some (.new j 0), 1, .is 1⟩ : Sl).v]) h) fun v h' => v = .bool (belowF xs ns) ∧ Grow h h' := by
  rw [u_mont_Ring_below]
  refine Runs.new fun H1 b1 g1 => ?_
  have key : Runs (go (.fn F.slices_ContainsFunc_api_Nat_api_Nat [(⟨some (.new j 0), 1, .is 1⟩ : Sl).v, .func (.func F.mont_Ring_below_1) [] [.ptr (some (.new h.blks.size 0))]]) H1) fun v h' => v = .bool (!belowF xs ns) ∧ Grow H1 h' := by
    rw [u_slices_ContainsFunc_api_Nat_api_Nat__mont_Ring_below_1]
    have inner : Runs (go (.fn F.slices_IndexFunc_api_Nat_api_Nat [(⟨some (.new j 0), 1, .is 1⟩ : Sl).v, .func (.func F.mont_Ring_below_1) [] [.ptr (some (.new h.blks.size 0))]]) H1) fun v h' => v = .int .i64 (if belowF xs ns = true then -1 else 0) ∧ Grow H1 h' := by
      rw [u_slices_IndexFunc_api_Nat_api_Nat__mont_Ring_below_1, p_slices_IndexFunc_api_Nat_api_Nat_2__mont_Ring_below_1]
      refine Runs.ifT rfl ?_
      refine Runs.step (show idx (some (Ref.new j 0)) 1 0 1 = some ((Ref.new j 0).add 0) from rfl) ?_
      refine Runs.step (AH.has.rd (g1.has c) 0 rfl (asSl_v _)) ?_
      obtain ⟨_, H2, e2, rfl, g2⟩ := mont_Ring_below_1_spec (g1.has b) b1 (m.grow g1) (n.grow g1)
      refine Runs.step e2 ?_
      refine Runs.step (seen rfl) ?_
      cases hb : belowF xs ns
      · refine Runs.ifT rfl ?_
        exact Runs.ret ⟨rfl, g2⟩
      · refine Runs.ifF rfl ?_
        rw [p_slices_IndexFunc_api_Nat_api_Nat_2__mont_Ring_below_1]
        refine Runs.ifF (show decide (IntKind.wrap .i64 (0 + 1) < ((1 : Nat) : Int)) = false from by decide) ?_
        exact Runs.ret ⟨rfl, g2⟩
    obtain ⟨_, H2, e2, rfl, g2⟩ := inner
    refine Runs.step e2 ?_
    refine Runs.step (seen (avInt_int _ _)) ?_
    refine Runs.ret ⟨?_, g2⟩
    cases belowF xs ns <;> rfl
  obtain ⟨_, H2, e2, rfl, g2⟩ := key
  refine Runs.step e2 ?_
  refine Runs.step (seen rfl) ?_
  refine Runs.ret ⟨?_, g1.trans g2⟩
  cases belowF xs ns <;> rfl

end Go.Ab

/- Layer 2: powers, their walk: printed by wip/tools/walk.py. -/
set_option linter.unusedVariables false
set_option linter.unusedSimpArgs false
set_option maxRecDepth 10000
namespace Go.Ab
open Go.Proofs Go.Num

inductive mont_Ring_Exp_St
  | fn (x1c0 : List Nat) (z1c1 : Int) (x1c2 : List Nat) (x1c3 : List Nat) (x2 : List Nat) (x3 : List Nat)
  | p7 (x1c0 : List Nat) (z1c1 : Int) (x1c2 : List Nat) (x1c3 : List Nat) (x2 : List Nat) (x4 : List (List Nat)) (x5 : List Nat) (a6 : Int)
  | p12 (x1 : List Nat) (x2c0 : List Nat) (z2c1 : Int) (x2c2 : List Nat) (x2c3 : List Nat) (x3 : List (List Nat)) (x4 : List Nat) (a5 : Int)
  | p16 (x1 : List Nat) (x2c0 : List Nat) (z2c1 : Int) (x2c2 : List Nat) (x2c3 : List Nat) (x3 : List (List Nat)) (x4 : List Nat) (a5 : Int) (a6 : Int) (a7 : Int)

abbrev mont_Ring_Exp_Res := List Nat × Int

noncomputable def mont_Ring_Exp_fn' (x1c0 : List Nat) (z1c1 : Int) (x1c2 : List Nat) (x1c3 : List Nat) (x2 : List Nat) (x3 : List Nat) : Option (mont_Ring_Exp_St ⊕ mont_Ring_Exp_Res) :=
  cond (!((belowF x2 x1c0))) (some (.inr ([], 1))) (cond (!(rt x3)) (some (.inr ([], 1))) (cond (decide ((List.length x3 : Int) > 8)) (some (.inr ([], 1))) ((runP mont_Ring_product_step (.fn x1c0 z1c1 x1c2 x1c3 x2 x1c3)).bind fun p17 => some (.inl (.p7 x1c0 z1c1 x1c2 x1c3 x3 [x1c2] p17 0)))))

noncomputable def mont_Ring_Exp_p7' (x1c0 : List Nat) (z1c1 : Int) (x1c2 : List Nat) (x1c3 : List Nat) (x2 : List Nat) (x4 : List (List Nat)) (x5 : List Nat) (a6 : Int) : Option (mont_Ring_Exp_St ⊕ mont_Ring_Exp_Res) :=
  cond (decide (a6 < 15)) ((atX x4 (IntKind.wrap .i64 ((List.length x4 : Int) - 1))).bind fun y8 => (runP mont_Ring_product_step (.fn x1c0 z1c1 x1c2 x1c3 y8 x5)).bind fun p9 => (need (growOk Pg (List.length x4 + 1) T.api_Nat 1 = true)).bind fun c11 => some (.inl (.p7 x1c0 z1c1 x1c2 x1c3 x2 (x4 ++ [p9]) x5 (IntKind.wrap .i64 (a6 + 1))))) (some (.inl (.p12 x2 x1c0 z1c1 x1c2 x1c3 x4 x1c2 (IntKind.wrap .i64 (Int.tdiv (IntKind.wrap .i64 ((IntKind.wrap .i64 ((((bitsN x2 : Nat) : Int)) + 4)) - 1)) 4)))))

noncomputable def mont_Ring_Exp_p12' (x1 : List Nat) (x2c0 : List Nat) (z2c1 : Int) (x2c2 : List Nat) (x2c3 : List Nat) (x3 : List (List Nat)) (x4 : List Nat) (a5 : Int) : Option (mont_Ring_Exp_St ⊕ mont_Ring_Exp_Res) :=
  cond (decide (a5 > 0)) (some (.inl (.p16 x1 x2c0 z2c1 x2c2 x2c3 x3 x4 a5 0 0))) ((u64P 1).bind fun w8 => (runP mont_Ring_product_step (.fn x2c0 z2c1 x2c2 x2c3 x4 [w8])).bind fun p9 => some (.inr (p9, 0)))

noncomputable def mont_Ring_Exp_p16' (x1 : List Nat) (x2c0 : List Nat) (z2c1 : Int) (x2c2 : List Nat) (x2c3 : List Nat) (x3 : List (List Nat)) (x4 : List Nat) (a5 : Int) (a6 : Int) (a7 : Int) : Option (mont_Ring_Exp_St ⊕ mont_Ring_Exp_Res) :=
  cond (decide (a7 < 4)) ((runP mont_Ring_product_step (.fn x2c0 z2c1 x2c2 x2c3 x4 x4)).bind fun p9 => (need (((IntKind.wrap .i64 ((IntKind.wrap .i64 ((IntKind.wrap .i64 (a5 * 4)) - 1)) - a7)) : Int) ≤ 9223372036854775807)).bind fun c10_0 => cond (((bitN x1 (IntKind.wrap .i64 ((IntKind.wrap .i64 ((IntKind.wrap .i64 (a5 * 4)) - 1)) - a7))))) (cond (decide ((IntKind.wrap .i64 (3 - a7)) < 0)) (none) (some (.inl (.p16 x1 x2c0 z2c1 x2c2 x2c3 x3 p9 a5 (ior .i64 a6 (ishl .i64 1 (IntKind.wrap .i64 (3 - a7)))) (IntKind.wrap .i64 (a7 + 1)))))) (some (.inl (.p16 x1 x2c0 z2c1 x2c2 x2c3 x3 p9 a5 a6 (IntKind.wrap .i64 (a7 + 1)))))) ((atX x3 a6).bind fun y9 => (runP mont_Ring_product_step (.fn x2c0 z2c1 x2c2 x2c3 x4 y9)).bind fun p10 => some (.inl (.p12 x1 x2c0 z2c1 x2c2 x2c3 x3 p10 (IntKind.wrap .i64 (a5 - 1)))))

noncomputable def mont_Ring_Exp_step : mont_Ring_Exp_St → Option (mont_Ring_Exp_St ⊕ mont_Ring_Exp_Res)
  | .fn x1c0 z1c1 x1c2 x1c3 x2 x3 => mont_Ring_Exp_fn' x1c0 z1c1 x1c2 x1c3 x2 x3
  | .p7 x1c0 z1c1 x1c2 x1c3 x2 x4 x5 a6 => mont_Ring_Exp_p7' x1c0 z1c1 x1c2 x1c3 x2 x4 x5 a6
  | .p12 x1 x2c0 z2c1 x2c2 x2c3 x3 x4 a5 => mont_Ring_Exp_p12' x1 x2c0 z2c1 x2c2 x2c3 x3 x4 a5
  | .p16 x1 x2c0 z2c1 x2c2 x2c3 x3 x4 a5 a6 a7 => mont_Ring_Exp_p16' x1 x2c0 z2c1 x2c2 x2c3 x3 x4 a5 a6 a7

@[reducible] def mont_Ring_Exp_post (h0 : AH) (r : mont_Ring_Exp_Res) (v : AV) (h' : AH) : Prop := ∃ s1 : Sl, v = .tup [s1.v, .int .i64 r.2] ∧ Nats h' s1 r.1 ∧ Grow h0 h' ∧ Own h0 s1

def mont_Ring_Exp_At (r : mont_Ring_Exp_Res) : mont_Ring_Exp_St → Prop
  | .fn x1c0 z1c1 x1c2 x1c3 x2 x3 => ∀ {h : AH} {s1c0 : Sl} {s1c2 : Sl} {s1c3 : Sl} {a2 : Sl} {a3 : Sl} {i1 : Nat}, h.has i1 [s1c0.v, .int .u64 z1c1, s1c2.v, s1c3.v] T.mont_Ring → Nats h s1c0 x1c0 → Nats h s1c2 x1c2 → Nats h s1c3 x1c3 → Nats h a2 x2 → Nats h a3 x3 → Runs (go (.fn F.mont_Ring_Exp [.ptr (some (.new i1 0)), a2.v, a3.v]) h) (mont_Ring_Exp_post h r)
  | .p7 x1c0 z1c1 x1c2 x1c3 x2 x4 x5 a6 => ∀ {h0 h : AH} {s1c0 : Sl} {s1c2 : Sl} {s1c3 : Sl} {a2 : Sl} {a4 : Sl} {a5 : Sl} {i4 : Option Nat} {i1 : Nat}, Grow h0 h → h0.has i1 [s1c0.v, .int .u64 z1c1, s1c2.v, s1c3.v] T.mont_Ring → Nats h0 s1c0 x1c0 → Nats h0 s1c2 x1c2 → Nats h0 s1c3 x1c3 → Nats h0 a2 x2 → GO El.nats T.api_Nat h a4 i4 x4 → Nats h a5 x5 → LeO h0.blks.size i4 → AvO a5 x5 i4 → Runs (go (.pt F.mont_Ring_Exp Td.mont_Ring_Exp_7 [(0, .ptr (some (.new i1 0))), (2, a2.v), (8, .func (.func F.mont_Ring_product) [.ptr (some (.new i1 0))] []), (9, a4.v), (10, a5.v), (44, .int .i64 a6)]) h) (mont_Ring_Exp_post h0 r)
  | .p12 x1 x2c0 z2c1 x2c2 x2c3 x3 x4 a5 => ∀ {h0 h : AH} {a1 : Sl} {s2c0 : Sl} {s2c2 : Sl} {s2c3 : Sl} {a3 : Sl} {a4 : Sl} {i2 : Nat}, Grow h0 h → Nats h0 a1 x1 → h0.has i2 [s2c0.v, .int .u64 z2c1, s2c2.v, s2c3.v] T.mont_Ring → Nats h0 s2c0 x2c0 → Nats h0 s2c2 x2c2 → Nats h0 s2c3 x2c3 → Seq El.nats h a3 x3 → Nats h a4 x4 → Runs (go (.pt F.mont_Ring_Exp Td.mont_Ring_Exp_12 [(2, a1.v), (8, .func (.func F.mont_Ring_product) [.ptr (some (.new i2 0))] []), (9, a3.v), (11, a4.v), (12, .int .i64 a5)]) h) (mont_Ring_Exp_post h0 r)
  | .p16 x1 x2c0 z2c1 x2c2 x2c3 x3 x4 a5 a6 a7 => ∀ {h0 h : AH} {a1 : Sl} {s2c0 : Sl} {s2c2 : Sl} {s2c3 : Sl} {a3 : Sl} {a4 : Sl} {i2 : Nat}, Grow h0 h → Nats h0 a1 x1 → h0.has i2 [s2c0.v, .int .u64 z2c1, s2c2.v, s2c3.v] T.mont_Ring → Nats h0 s2c0 x2c0 → Nats h0 s2c2 x2c2 → Nats h0 s2c3 x2c3 → Seq El.nats h a3 x3 → Nats h a4 x4 → Runs (go (.pt F.mont_Ring_Exp Td.mont_Ring_Exp_16 [(2, a1.v), (8, .func (.func F.mont_Ring_product) [.ptr (some (.new i2 0))] []), (9, a3.v), (11, a4.v), (12, .int .i64 a5), (13, .int .i64 a6), (72, .int .i64 a7)]) h) (mont_Ring_Exp_post h0 r)

theorem mont_Ring_Exp_fn_walk {r : mont_Ring_Exp_Res} {o : mont_Ring_Exp_St ⊕ mont_Ring_Exp_Res} {x1c0 : List Nat} {z1c1 : Int} {x1c2 : List Nat} {x1c3 : List Nat} {x2 : List Nat} {x3 : List Nat} (e : mont_Ring_Exp_fn' x1c0 z1c1 x1c2 x1c3 x2 x3 = some o) (good : GoodS (mont_Ring_Exp_At r) r o) : mont_Ring_Exp_At r (.fn x1c0 z1c1 x1c2 x1c3 x2 x3) := by
  intro h s1c0 s1c2 s1c3 a2 a3 i1 b1 n1c0 n1c2 n1c3 n2 n3
  rw [u_mont_Ring_Exp]
  unfold mont_Ring_Exp_fn' at e
  rw [n3.len]
  refine Runs.new fun H4 b4 g4 => ?_
  obtain ⟨_, H5, e5, rfl, g5⟩ := mont_Ring_below_one (g4.has b1) (n1c0.grow g4) (n1c2.grow g4) (n1c3.grow g4) b4 (n2.grow g4)
  refine Runs.step e5 ?_
  refine Runs.step (seen rfl) ?_
  refine Runs.cond (fun k6 => ?_) (fun k6 => ?_)
  · replace e := (condT k6).symm.trans e
    cases e
    cases good
    exact Runs.ret ⟨(⟨none, 0, .is 0⟩ : Sl), rfl, (Nats.nil _), (g4.trans g5), (Own.nil _)⟩
  · replace e := (condF k6).symm.trans e
    refine Runs.step (nat_Right_spec (n3.grow (g4.trans g5))) ?_
    refine Runs.step (seen rfl) ?_
    refine Runs.cond (fun k8 => ?_) (fun k8 => ?_)
    · replace e := (condT k8).symm.trans e
      cases e
      cases good
      exact Runs.ret ⟨(⟨none, 0, .is 0⟩ : Sl), rfl, (Nats.nil _), (g4.trans g5), (Own.nil _)⟩
    · replace e := (condF k8).symm.trans e
      refine Runs.cond (fun k9 => ?_) (fun k9 => ?_)
      · replace e := (condT k9).symm.trans e
        cases e
        cases good
        exact Runs.ret ⟨(⟨none, 0, .is 0⟩ : Sl), rfl, (Nats.nil _), (g4.trans g5), (Own.nil _)⟩
      · replace e := (condF k9).symm.trans e
        refine Runs.step rfl ?_
        refine Runs.step (AH.has.rd ((g4.trans g5).has b1) 2 rfl (asSl_v _)) ?_
        refine Runs.new fun H10 b10 g10 => ?_
        refine Runs.step rfl ?_
        have G11 := ((g4.trans g5).trans g10)
        have b1_12 := G11.has b1
        refine Runs.step (AH.has.rd b1_12 3 rfl (asSl_v _)) ?_
        have n1c0_13 := n1c0.grow G11
        have n1c2_14 := n1c2.grow G11
        have n1c3_15 := n1c3.grow G11
        have n2_16 := n2.grow G11
        obtain ⟨p17, q17, e⟩ := Option.bind_eq_some_iff.1 e
        obtain ⟨_, H17, e17, s17, rfl, n17, g17, o17⟩ := mont_Ring_product_opt b1_12 n1c0_13 n1c2_14 n1c3_15 n2_16 n1c3_15 q17
        refine Runs.step e17 ?_
        refine Runs.step (seen (asSl_v _)) ?_
        cases e
        have G18 := (G11.trans g17)
        exact good G18 b1 n1c0 n1c2 n1c3 n3 (GO.one (g17.has b10) ⟨_, rfl, (n1c2_14.grow g17)⟩ (AvE.nats (i := some (H5.blks.size)) (Av.of_base n1c2 (Nat.le_trans ((g4.trans g5)).size (Nat.le_refl _))))) n17 (Nat.le_trans ((g4.trans g5)).size (Nat.le_refl _)) (Av.of_own o17 (b10).lt)

theorem mont_Ring_Exp_p7_walk {r : mont_Ring_Exp_Res} {o : mont_Ring_Exp_St ⊕ mont_Ring_Exp_Res} {x1c0 : List Nat} {z1c1 : Int} {x1c2 : List Nat} {x1c3 : List Nat} {x2 : List Nat} {x4 : List (List Nat)} {x5 : List Nat} {a6 : Int} (e : mont_Ring_Exp_p7' x1c0 z1c1 x1c2 x1c3 x2 x4 x5 a6 = some o) (good : GoodS (mont_Ring_Exp_At r) r o) : mont_Ring_Exp_At r (.p7 x1c0 z1c1 x1c2 x1c3 x2 x4 x5 a6) := by
  intro h0 h s1c0 s1c2 s1c3 a2 a4 a5 i4 i1 g0 b1 n1c0 n1c2 n1c3 n2 v4 n5 hi4 av5_4
  rw [p_mont_Ring_Exp_7__mont_Ring_product]
  unfold mont_Ring_Exp_p7' at e
  rw [(v4).seq.len]
  refine Runs.cond (fun k7 => ?_) (fun k7 => ?_)
  · replace e := (condT k7).symm.trans e
    obtain ⟨y8, q8, e⟩ := Option.bind_eq_some_iff.1 e
    obtain ⟨r8, cs8, j8, E8, l8⟩ := ((v4).seq).at q8
    obtain ⟨s8, rfl, n8⟩ := E8
    refine Runs.step j8 ?_
    refine Runs.step (l8.rd0 (Grow.refl _) rfl (asSl_v _)) ?_
    obtain ⟨p9, q9, e⟩ := Option.bind_eq_some_iff.1 e
    obtain ⟨_, H9, e9, s9, rfl, n9, g9, o9⟩ := mont_Ring_product_opt (g0.has b1) (n1c0.grow g0) (n1c2.grow g0) (n1c3.grow g0) n8 n5 q9
    refine Runs.step e9 ?_
    refine Runs.step (seen (asSl_v _)) ?_
    refine Runs.new fun H10 b10 g10 => ?_
    refine Runs.step (appendArgs_lit b10 (by rw [cells_api_Nat]; rfl)) ?_
    obtain ⟨c11, q11, e⟩ := Option.bind_eq_some_iff.1 e
    obtain ⟨s11, H11, e11, v11, u11⟩ := GO.push (E := El.nats) (v4.grow (g9.trans g10)) ⟨_, rfl, (n9.grow g10)⟩ (AvE.nats (AvO.of_own o9 (v4).lt)) c11.down
    refine Runs.step e11 ?_
    have n5_11 := (n5.grow (g9.trans g10)).updo av5_4 u11
    have n9_11 := (n9.grow g10).updo (AvO.of_own o9 (v4).lt) u11
    have b10_11 := AH.has.updo b10 (NeO.of_lt ((v4.grow g9)).lt (Nat.le_refl _)) u11
    refine Runs.step (asSl_v _) ?_
    have G12 := ((g0.trans g9).trans g10)
    cases e
    have G13 := (G12.updo hi4 u11)
    exact good G13 b1 n1c0 n1c2 n1c3 n2 v11 n5_11 (LeO.trans (G12).size (Nat.le_refl _)) (AvO.of_base n5 (LeO.trans ((g9.trans g10)).size (Nat.le_refl _)))
  · replace e := (condF k7).symm.trans e
    refine Runs.step rfl ?_
    refine Runs.step (AH.has.rd (g0.has b1) 2 rfl (asSl_v _)) ?_
    obtain ⟨_, H8, e8, rfl, g8⟩ := nat_Bits_is (n2.grow g0)
    refine Runs.step e8 ?_
    refine Runs.step (seen (avInt_int _ _)) ?_
    cases e
    exact good (g0.trans g8) n2 b1 n1c0 n1c2 n1c3 (((v4.grow g8)).seq) (n1c2.grow (g0.trans g8))

theorem mont_Ring_Exp_p12_walk {r : mont_Ring_Exp_Res} {o : mont_Ring_Exp_St ⊕ mont_Ring_Exp_Res} {x1 : List Nat} {x2c0 : List Nat} {z2c1 : Int} {x2c2 : List Nat} {x2c3 : List Nat} {x3 : List (List Nat)} {x4 : List Nat} {a5 : Int} (e : mont_Ring_Exp_p12' x1 x2c0 z2c1 x2c2 x2c3 x3 x4 a5 = some o) (good : GoodS (mont_Ring_Exp_At r) r o) : mont_Ring_Exp_At r (.p12 x1 x2c0 z2c1 x2c2 x2c3 x3 x4 a5) := by
  intro h0 h a1 s2c0 s2c2 s2c3 a3 a4 i2 g0 n1 b2 n2c0 n2c2 n2c3 n3 n4
  rw [p_mont_Ring_Exp_12__mont_Ring_product]
  unfold mont_Ring_Exp_p12' at e
  refine Runs.cond (fun k6 => ?_) (fun k6 => ?_)
  · replace e := (condT k6).symm.trans e
    cases e
    exact good g0 n1 b2 n2c0 n2c2 n2c3 n3 n4
  · replace e := (condF k6).symm.trans e
    refine Runs.new fun H7 b7 g7 => ?_
    obtain ⟨w8, z8, e⟩ := Option.bind_eq_some_iff.1 e
    obtain ⟨p9, q9, e⟩ := Option.bind_eq_some_iff.1 e
    obtain ⟨_, H9, e9, s9, rfl, n9, g9, o9⟩ := mont_Ring_product_opt ((g0.trans g7).has b2) (n2c0.grow (g0.trans g7)) (n2c2.grow (g0.trans g7)) (n2c3.grow (g0.trans g7)) (n4.grow g7) (Nats.of_has1 b7 z8) q9
    refine Runs.step e9 ?_
    refine Runs.step (seen (asSl_v _)) ?_
    cases e
    cases good
    have G10 := ((g0.trans g7).trans g9)
    exact Runs.ret ⟨s9, rfl, n9, G10, (o9.of_le (g0.trans g7))⟩

theorem mont_Ring_Exp_p16_walk {r : mont_Ring_Exp_Res} {o : mont_Ring_Exp_St ⊕ mont_Ring_Exp_Res} {x1 : List Nat} {x2c0 : List Nat} {z2c1 : Int} {x2c2 : List Nat} {x2c3 : List Nat} {x3 : List (List Nat)} {x4 : List Nat} {a5 : Int} {a6 : Int} {a7 : Int} (e : mont_Ring_Exp_p16' x1 x2c0 z2c1 x2c2 x2c3 x3 x4 a5 a6 a7 = some o) (good : GoodS (mont_Ring_Exp_At r) r o) : mont_Ring_Exp_At r (.p16 x1 x2c0 z2c1 x2c2 x2c3 x3 x4 a5 a6 a7) := by
  intro h0 h a1 s2c0 s2c2 s2c3 a3 a4 i2 g0 n1 b2 n2c0 n2c2 n2c3 n3 n4
  rw [p_mont_Ring_Exp_16__mont_Ring_product]
  unfold mont_Ring_Exp_p16' at e
  rw [n3.len]
  refine Runs.cond (fun k8 => ?_) (fun k8 => ?_)
  · replace e := (condT k8).symm.trans e
    obtain ⟨p9, q9, e⟩ := Option.bind_eq_some_iff.1 e
    obtain ⟨_, H9, e9, s9, rfl, n9, g9, o9⟩ := mont_Ring_product_opt (g0.has b2) (n2c0.grow g0) (n2c2.grow g0) (n2c3.grow g0) n4 n4 q9
    refine Runs.step e9 ?_
    refine Runs.step (seen (asSl_v _)) ?_
    obtain ⟨c10_0, q10_0, e⟩ := Option.bind_eq_some_iff.1 e
    obtain ⟨_, H10, e10, rfl, g10⟩ := nat_Bit_need (n1.grow (g0.trans g9))  c10_0.down
    refine Runs.step e10 ?_
    refine Runs.step (seen rfl) ?_
    refine Runs.cond (fun k11 => ?_) (fun k11 => ?_)
    · replace e := (condT k11).symm.trans e
      refine Runs.cond (fun k12 => ?_) (fun k12 => ?_)
      · replace e := (condT k12).symm.trans e
        cases e
      · replace e := (condF k12).symm.trans e
        cases e
        have G13 := ((g0.trans g9).trans g10)
        exact good G13 n1 b2 n2c0 n2c2 n2c3 (n3.grow (g9.trans g10)) (n9.grow g10)
    · replace e := (condF k11).symm.trans e
      cases e
      have G12 := ((g0.trans g9).trans g10)
      exact good G12 n1 b2 n2c0 n2c2 n2c3 (n3.grow (g9.trans g10)) (n9.grow g10)
  · replace e := (condF k8).symm.trans e
    obtain ⟨y9, q9, e⟩ := Option.bind_eq_some_iff.1 e
    obtain ⟨r9, cs9, j9, E9, l9⟩ := (n3).at q9
    obtain ⟨s9, rfl, n9⟩ := E9
    refine Runs.step j9 ?_
    refine Runs.step (l9.rd0 (Grow.refl _) rfl (asSl_v _)) ?_
    obtain ⟨p10, q10, e⟩ := Option.bind_eq_some_iff.1 e
    obtain ⟨_, H10, e10, s10, rfl, n10, g10, o10⟩ := mont_Ring_product_opt (g0.has b2) (n2c0.grow g0) (n2c2.grow g0) (n2c3.grow g0) n4 n9 q10
    refine Runs.step e10 ?_
    refine Runs.step (seen (asSl_v _)) ?_
    cases e
    exact good (g0.trans g10) n1 b2 n2c0 n2c2 n2c3 (n3.grow g10) n10

theorem mont_Ring_Exp_run {s : mont_Ring_Exp_St} {r : mont_Ring_Exp_Res} (it : Iter mont_Ring_Exp_step s r) : mont_Ring_Exp_At r s := Iter.ind (fun s o e good => by
  cases s with
  | fn x1c0 z1c1 x1c2 x1c3 x2 x3 => exact @mont_Ring_Exp_fn_walk _ _ x1c0 z1c1 x1c2 x1c3 x2 x3 e good
  | p7 x1c0 z1c1 x1c2 x1c3 x2 x4 x5 a6 => exact @mont_Ring_Exp_p7_walk _ _ x1c0 z1c1 x1c2 x1c3 x2 x4 x5 a6 e good
  | p12 x1 x2c0 z2c1 x2c2 x2c3 x3 x4 a5 => exact @mont_Ring_Exp_p12_walk _ _ x1 x2c0 z2c1 x2c2 x2c3 x3 x4 a5 e good
  | p16 x1 x2c0 z2c1 x2c2 x2c3 x3 x4 a5 a6 a7 => exact @mont_Ring_Exp_p16_walk _ _ x1 x2c0 z2c1 x2c2 x2c3 x3 x4 a5 a6 a7 e good
  ) it

theorem mont_Ring_Exp_opt {h : AH} {s1c0 : Sl} {s1c2 : Sl} {s1c3 : Sl} {a2 : Sl} {a3 : Sl} {i1 : Nat} {x1c0 : List Nat} {z1c1 : Int} {x1c2 : List Nat} {x1c3 : List Nat} {x2 : List Nat} {x3 : List Nat} (b1 : h.has i1 [s1c0.v, .int .u64 z1c1, s1c2.v, s1c3.v] T.mont_Ring) (n1c0 : Nats h s1c0 x1c0) (n1c2 : Nats h s1c2 x1c2) (n1c3 : Nats h s1c3 x1c3) (n2 : Nats h a2 x2) (n3 : Nats h a3 x3) {r : mont_Ring_Exp_Res} (q : runP mont_Ring_Exp_step (.fn x1c0 z1c1 x1c2 x1c3 x2 x3) = some r) : Runs (go (.fn F.mont_Ring_Exp [.ptr (some (.new i1 0)), a2.v, a3.v]) h) (mont_Ring_Exp_post h r) := mont_Ring_Exp_run (runP_iter q) b1 n1c0 n1c2 n1c3 n2 n3

end Go.Ab

/- Layer 2: what the ring's powers answer. -/
set_option linter.unusedVariables false
set_option linter.unusedSimpArgs false
set_option maxRecDepth 10000
namespace Go.Ab
open Go.Proofs Go.Num

theorem growOk_Nat {n : Nat} (h : n ≤ 1000000) : growOk Pg n T.api_Nat 1 = true := by
  unfold growOk
  rw [zero_api_Nat, bytes_api_Nat]
  have h1 : n * 24 ≤ mostBytes := by simp only [mostBytes]; omega
  have h2 : n ≤ mostBytes := by simp only [mostBytes]; omega
  simp [h1, h2]

theorem digit_one : ∀ c : _root_.Fin 4, ∀ m : _root_.Fin (2 ^ c.val), ior .i64 ((m.val * 2 ^ (4 - c.val) : Nat) : Int) (ishl .i64 1 (IntKind.wrap .i64 (3 - (c.val : Int)))) = (((2 * m.val + 1) * 2 ^ (3 - c.val) : Nat) : Int) := by decide +kernel

theorem div_bit (E j : Nat) : E / 2 ^ j = 2 * (E / 2 ^ (j + 1)) + (E.testBit j).toNat := by
  rw [Nat.testBit_eq_decide_div_mod_eq, Nat.pow_succ, ← Nat.div_div_eq_div_mul]
  generalize E / 2 ^ j = z
  have := Nat.mod_two_eq_zero_or_one z
  rcases this with h | h <;> rw [h] <;> simp <;> omega

/-- A ring that may be: its modulus, and what it keeps. -/
structure RingOk (N k v : Nat) : Prop where
  hk : k ≤ 60
  lt : N < B ^ k
  one : 1 < N
  odd : N % 2 = 1
  hv : v < B
  inv : (N * v + 1) % B = 0
  len : (digs B N).length = k

def form (N k u : Nat) : List Nat := digs B (u * 2 ^ (64 * k) % N)
def powersL (N k A : Nat) (j : Nat) : List (List Nat) := (List.range (j + 1)).map fun i => form N k (A ^ i)

section
variable {N k v : Nat} {ones nexts : List Nat}

theorem RingOk.prod (r : RingOk N k v) {X Y : Nat} (hX : X < N) (hY : Y < N) : runP mont_Ring_product_step (.fn (digs B N) (v : Int) ones nexts (digs B X) (digs B Y)) = some (digs B (redc N (64 * k) (X * Y))) := by
  have := mont_Ring_product_iter (ns := digs B N) (xs := digs B X) (ys := digs B Y) (ones := ones) (nexts := nexts) r.hk r.len (digs_lt B2 N) (digs_trim B2 N) (digs_lt B2 X) (digs_lt B2 Y) r.hv
    (by rw [num_digs B2]; exact r.inv) (by rw [num_digs B2]; exact r.odd) ((digs_len B2 X k).2 (Nat.lt_trans hX r.lt)) (by rw [num_digs B2, num_digs B2]; exact hY)
  simpa only [num_digs B2] using this

theorem RingOk.forms (r : RingOk N k v) (x y : Nat) : runP mont_Ring_product_step (.fn (digs B N) (v : Int) ones nexts (form N k x) (form N k y)) = some (form N k (x * y)) := by
  have hN : 0 < N := by have := r.one; omega
  unfold form
  rw [r.prod (Nat.mod_lt _ hN) (Nat.mod_lt _ hN), redc_form r.odd]

theorem RingOk.into (r : RingOk N k v) {a : Nat} (ha : a < N) : runP mont_Ring_product_step (.fn (digs B N) (v : Int) ones nexts (digs B a) (digs B (2 ^ (64 * k) * 2 ^ (64 * k) % N))) = some (form N k a) := by
  have hN : 0 < N := by have := r.one; omega
  unfold form
  rw [r.prod ha (Nat.mod_lt _ hN), redc_in r.odd]

theorem RingOk.out (r : RingOk N k v) (x : Nat) : runP mont_Ring_product_step (.fn (digs B N) (v : Int) ones nexts (form N k x) [1]) = some (digs B (x % N)) := by
  have hN : 0 < N := by have := r.one; omega
  have h1 : ([1] : List Nat) = digs B 1 := by rw [digs_pos B2 (by decide), show 1 / B = 0 from rfl, digs_zero]; rfl
  unfold form
  rw [h1, r.prod (Nat.mod_lt _ hN) r.one, redc_out r.odd]

theorem powersL_succ (A j : Nat) : powersL N k A (j + 1) = powersL N k A j ++ [form N k (A ^ (j + 1))] := by
  unfold powersL
  rw [List.range_succ, List.map_append]
  rfl

theorem powersL_at {A j i : Nat} (h : i ≤ j) : atX (powersL N k A j) (i : Int) = some (form N k (A ^ i)) := by
  unfold powersL
  rw [atX_nat (by rw [List.length_map, List.length_range]; omega), List.getElem_map, List.getElem_range]

theorem exp_p16 (r : RingOk N k v) {es : List Nat} (le : ∀ x ∈ es, x < B) (re : rt es = true) {A t : Nat} (ht : t ≤ 100000) (K : Iter mont_Ring_Exp_step (.p12 es (digs B N) (v : Int) ones nexts (powersL N k A 15) (form N k (A ^ (num B es / 2 ^ (4 * t)))) (t : Int)) (digs B (A ^ num B es % N), 0)) :
    ∀ (d c m q : Nat), c + d = 4 → num B es / 2 ^ (4 * (t + 1) - c) = q * 2 ^ c + m → m < 2 ^ c →
      Iter mont_Ring_Exp_step (.p16 es (digs B N) (v : Int) ones nexts (powersL N k A 15) (form N k (A ^ (q * 2 ^ c))) ((t + 1 : Nat) : Int) ((m * 2 ^ (4 - c) : Nat) : Int) (c : Int)) (digs B (A ^ num B es % N), 0)
  | 0, c, m, q, hc, hq, hm => by
    have hc : c = 4 := by omega
    subst hc
    refine .next ?_ K
    show mont_Ring_Exp_p16' _ _ _ _ _ _ _ _ _ _ = _
    unfold mont_Ring_Exp_p16'
    have h16 : (2 : Nat) ^ 4 = 16 := rfl
    rw [h16] at hm
    rw [condF (by decide), show m * 2 ^ (4 - 4) = m from by simp, powersL_at (by omega), Option.bind_some, r.forms, Option.bind_some, show (((t + 1 : Nat) : Int) - 1) = (t : Int) from by omega, wrap_nat (by omega), ← Nat.pow_add, ← hq, show 4 * (t + 1) - 4 = 4 * t from by omega]
  | d + 1, c, m, q, hc, hq, hm => by
    have hb := div_bit (num B es) (4 * (t + 1) - (c + 1))
    rw [show 4 * (t + 1) - (c + 1) + 1 = 4 * (t + 1) - c from by omega, hq] at hb
    have hd := digit_one ⟨c, by omega⟩ ⟨m, hm⟩
    dsimp only at hd
    have e1 : q * 2 ^ (c + 1) = q * 2 ^ c + q * 2 ^ c := by rw [Nat.pow_succ, ← Nat.mul_assoc]; omega
    have e2 : m * 2 ^ (4 - c) = 2 * m * 2 ^ (4 - (c + 1)) := by rw [show 4 - c = 4 - (c + 1) + 1 from by omega, Nat.pow_succ, Nat.mul_comm (2 ^ (4 - (c + 1))) 2, ← Nat.mul_assoc, Nat.mul_comm m 2]
    have hi : (IntKind.wrap .i64 ((IntKind.wrap .i64 ((IntKind.wrap .i64 (((t + 1 : Nat) : Int) * 4)) - 1)) - (c : Int))) = ((4 * (t + 1) - (c + 1) : Nat) : Int) := by
      rw [show ((t + 1 : Nat) : Int) * 4 = ((4 * (t + 1) : Nat) : Int) from by omega, wrap_nat (by omega), show ((4 * (t + 1) : Nat) : Int) - 1 = ((4 * (t + 1) - 1 : Nat) : Int) from by omega, wrap_nat (by omega), show ((4 * (t + 1) - 1 : Nat) : Int) - (c : Int) = ((4 * (t + 1) - (c + 1) : Nat) : Int) from by omega, wrap_nat (by omega)]
    have hm2 : 2 ^ (c + 1) = 2 * 2 ^ c := by rw [Nat.pow_succ]; omega
    have hneed : ((4 * (t + 1) - (c + 1) : Nat) : Int) ≤ 9223372036854775807 := by omega
    have step : mont_Ring_Exp_p16' es (digs B N) (v : Int) ones nexts (powersL N k A 15) (form N k (A ^ (q * 2 ^ c))) ((t + 1 : Nat) : Int) ((m * 2 ^ (4 - c) : Nat) : Int) (c : Int) =
        some (.inl (.p16 es (digs B N) (v : Int) ones nexts (powersL N k A 15) (form N k (A ^ (q * 2 ^ (c + 1)))) ((t + 1 : Nat) : Int) (((2 * m + ((num B es).testBit (4 * (t + 1) - (c + 1))).toNat) * 2 ^ (4 - (c + 1)) : Nat) : Int) ((c + 1 : Nat) : Int))) := by
      unfold mont_Ring_Exp_p16'
      rw [condT (by rw [decide_eq_true_eq]; omega), r.forms, Option.bind_some, hi, need_of hneed, Option.bind_some, bitN_nat re, wrap_succ (by omega), ← Nat.pow_add, ← e1]
      cases hbit : (num B es).testBit (4 * (t + 1) - (c + 1))
      · rw [cond_false, e2]
        rfl
      · rw [cond_true, condF (by rw [decide_eq_false_iff_not, show (3 : Int) - (c : Int) = ((3 - c : Nat) : Int) from by omega, wrap_nat (by omega)]; omega), hd, show 4 - (c + 1) = 3 - c from by omega]
        rfl
    refine .next step (exp_p16 r le re ht K d (c + 1) _ q (by omega) ?_ ?_)
    · rw [hb, e1]
      omega
    · cases (num B es).testBit (4 * (t + 1) - (c + 1))
      · show 2 * m + 0 < _
        omega
      · show 2 * m + 1 < _
        omega

theorem exp_p12 (r : RingOk N k v) {es : List Nat} (le : ∀ x ∈ es, x < B) (re : rt es = true) {A : Nat} : ∀ t : Nat, t ≤ 100000 →
    Iter mont_Ring_Exp_step (.p12 es (digs B N) (v : Int) ones nexts (powersL N k A 15) (form N k (A ^ (num B es / 2 ^ (4 * t)))) (t : Int)) (digs B (A ^ num B es % N), 0)
  | 0, _ => by
    refine .done ?_
    show mont_Ring_Exp_p12' _ _ _ _ _ _ _ _ = _
    unfold mont_Ring_Exp_p12'
    rw [condF (by decide), show u64P 1 = some 1 from rfl, Option.bind_some, r.out, Option.bind_some, Nat.mul_zero, Nat.pow_zero, Nat.div_one]
  | t + 1, ht => by
    have K := exp_p12 r le re (A := A) t (by omega)
    have := exp_p16 r le re (by omega) K 4 0 0 (num B es / 2 ^ (4 * (t + 1))) (by omega) (by simp) (by simp)
    rw [Nat.pow_zero, Nat.mul_one, Nat.zero_mul] at this
    refine .next ?_ this
    show mont_Ring_Exp_p12' _ _ _ _ _ _ _ _ = _
    unfold mont_Ring_Exp_p12'
    rw [condT (by rw [decide_eq_true_eq]; omega)]
    rfl

theorem exp_p7 (r : RingOk N k v) (h1 : ones = form N k 1) {es : List Nat} (le : ∀ x ∈ es, x < B) (re : rt es = true) {A : Nat} : ∀ (d j : Nat), j + d = 15 →
    Iter mont_Ring_Exp_step (.p7 (digs B N) (v : Int) ones nexts es (powersL N k A j) (form N k A) (j : Int)) (digs B (A ^ num B es % N), 0)
  | 0, j, hj => by
    have hj : j = 15 := by omega
    subst hj
    have h64 := (rt_iff.1 re).1
    have hlt := num_lt B1 le
    rw [B_pow2] at hlt
    have hb : bitsN es ≤ 64 * 64 := by
      unfold bitsN
      rw [if_pos re]
      exact Nat.le_trans (bl_le hlt) (Nat.mul_le_mul_left _ h64)
    have hE : num B es < 2 ^ bitsN es := by
      unfold bitsN
      rw [if_pos re]
      exact (bl_Bl _).1
    have := exp_p12 r le re (A := A) (ones := ones) (nexts := nexts) ((bitsN es + 3) / 4) (by omega)
    have hz : num B es / 2 ^ (4 * ((bitsN es + 3) / 4)) = 0 := by
      refine Nat.div_eq_of_lt (Nat.lt_of_lt_of_le hE (Nat.pow_le_pow_right (by decide) (by omega)))
    rw [hz, Nat.pow_zero, ← h1] at this
    refine .next ?_ this
    show mont_Ring_Exp_p7' _ _ _ _ _ _ _ _ = _
    unfold mont_Ring_Exp_p7'
    rw [condF (by decide), show ((bitsN es : Nat) : Int) + 4 = ((bitsN es + 4 : Nat) : Int) from by omega, wrap_nat (by omega), show ((bitsN es + 4 : Nat) : Int) - 1 = ((bitsN es + 3 : Nat) : Int) from by omega, wrap_nat (by omega), show Int.tdiv ((bitsN es + 3 : Nat) : Int) 4 = (((bitsN es + 3) / 4 : Nat) : Int) from rfl, wrap_nat (by omega)]
  | d + 1, j, hj => by
    have hl : (powersL N k A j).length = j + 1 := by unfold powersL; simp
    refine .next ?_ (exp_p7 r h1 le re d (j + 1) (by omega))
    show mont_Ring_Exp_p7' _ _ _ _ _ _ _ _ = _
    unfold mont_Ring_Exp_p7'
    have hg : growOk Pg (j + 1 + 1) T.api_Nat 1 = true := growOk_Nat (by omega)
    rw [condT (by rw [decide_eq_true_eq]; omega), hl, show ((j + 1 : Nat) : Int) - 1 = (j : Int) from by omega, wrap_nat (by omega), powersL_at (Nat.le_refl _), Option.bind_some, r.forms, Option.bind_some, need_of hg, Option.bind_some, wrap_succ (by omega), powersL_succ, Nat.pow_succ]

theorem mont_Ring_Exp_iter (r : RingOk N k v) {A : Nat} (hA : A < N) {es : List Nat} (le : ∀ x ∈ es, x < B) (re : rt es = true) (h8 : es.length ≤ 8) :
    runP mont_Ring_Exp_step (.fn (digs B N) (v : Int) (form N k 1) (digs B (2 ^ (64 * k) * 2 ^ (64 * k) % N)) (digs B A) es) = some (digs B (A ^ num B es % N), 0) := by
  have := exp_p7 r rfl (nexts := digs B (2 ^ (64 * k) * 2 ^ (64 * k) % N)) le re (A := A) 15 0 (by omega)
  refine runP_of (.next ?_ this)
  show mont_Ring_Exp_fn' _ _ _ _ _ _ = _
  have h60 : N < B ^ 64 := Nat.lt_of_lt_of_le r.lt (Nat.pow_le_pow_right (by decide) (by have := r.hk; omega))
  have hb : belowF (digs B A) (digs B N) = true := by
    unfold belowF
    rw [rt_digs (Nat.lt_trans hA h60), cmpN_rt2 (rt_digs (Nat.lt_trans hA h60)) (rt_digs h60), num_digs B2, num_digs B2]
    unfold cmp
    rw [if_pos hA]
    rfl
  unfold mont_Ring_Exp_fn'
  rw [hb, re, show (!true) = false from rfl, cond_false, cond_false, condF (by rw [decide_eq_false_iff_not]; omega), r.into hA, Option.bind_some]
  simp [powersL, form]
end

end Go.Ab

/- Layer 2: rests of R, their walk: printed by wip/tools/walk.py. -/
set_option linter.unusedVariables false
set_option linter.unusedSimpArgs false
set_option maxRecDepth 10000
namespace Go.Ab
open Go.Proofs Go.Num

inductive mont_Ring_rest_St
  | fn (x1c0 : List Nat) (z1c1 : Int) (x1c2 : List Nat) (x1c3 : List Nat) (a2 : Int)
  | no

abbrev mont_Ring_rest_Res := List Nat

noncomputable def mont_Ring_rest_fn' (x1c0 : List Nat) (z1c1 : Int) (x1c2 : List Nat) (x1c3 : List Nat) (a2 : Int) : Option (mont_Ring_rest_St ⊕ mont_Ring_rest_Res) :=
  (mkI (IntKind.wrap .i64 ((IntKind.wrap .i64 (a2 * (List.length x1c0 : Int))) + 1)) (IntKind.wrap .i64 ((IntKind.wrap .i64 (a2 * (List.length x1c0 : Int))) + 1))).bind fun m3 => (inI (List.length (List.replicate m3 0)) (IntKind.wrap .i64 (a2 * (List.length x1c0 : Int)))).bind fun j4 => (u64P 1).bind fun w5 => some (.inr ((divN (List.set (List.replicate m3 0) j4 w5) x1c0).2.1))

noncomputable def mont_Ring_rest_step : mont_Ring_rest_St → Option (mont_Ring_rest_St ⊕ mont_Ring_rest_Res)
  | .fn x1c0 z1c1 x1c2 x1c3 a2 => mont_Ring_rest_fn' x1c0 z1c1 x1c2 x1c3 a2
  | .no => none

@[reducible] def mont_Ring_rest_post (h0 : AH) (r : mont_Ring_rest_Res) (v : AV) (h' : AH) : Prop := ∃ s1 : Sl, v = s1.v ∧ Nats h' s1 r ∧ Grow h0 h' ∧ Own h0 s1

def mont_Ring_rest_At (r : mont_Ring_rest_Res) : mont_Ring_rest_St → Prop
  | .fn x1c0 z1c1 x1c2 x1c3 a2 => ∀ {h : AH} {s1c0 : Sl} {s1c2 : Sl} {s1c3 : Sl} {i1 : Nat}, h.has i1 [s1c0.v, .int .u64 z1c1, s1c2.v, s1c3.v] T.mont_Ring → Nats h s1c0 x1c0 → Nats h s1c2 x1c2 → Nats h s1c3 x1c3 → Runs (go (.fn F.mont_Ring_rest [.ptr (some (.new i1 0)), .int .i64 a2]) h) (mont_Ring_rest_post h r)
  | .no => True

theorem mont_Ring_rest_fn_walk {r : mont_Ring_rest_Res} {o : mont_Ring_rest_St ⊕ mont_Ring_rest_Res} {x1c0 : List Nat} {z1c1 : Int} {x1c2 : List Nat} {x1c3 : List Nat} {a2 : Int} (e : mont_Ring_rest_fn' x1c0 z1c1 x1c2 x1c3 a2 = some o) (good : GoodS (mont_Ring_rest_At r) r o) : mont_Ring_rest_At r (.fn x1c0 z1c1 x1c2 x1c3 a2) := by
  intro h s1c0 s1c2 s1c3 i1 b1 n1c0 n1c2 n1c3
  rw [u_mont_Ring_rest]
  unfold mont_Ring_rest_fn' at e
  refine Runs.step rfl ?_
  refine Runs.step (AH.has.rd b1 0 rfl (asSl_v _)) ?_
  rw [n1c0.len]
  obtain ⟨m3, q3, e⟩ := Option.bind_eq_some_iff.1 e
  refine Runs.mk q3 bytes_uint64 fun s3 H3 v3 g3 => ?_
  rw [v3.nats.len]
  refine Runs.step rfl ?_
  refine Runs.step (AH.has.rd (g3.has b1) 0 rfl (asSl_v _)) ?_
  rw [(n1c0.grow g3).len]
  obtain ⟨j4, q4, e⟩ := Option.bind_eq_some_iff.1 e
  refine Runs.step (v3.idx rfl q4) ?_
  obtain ⟨w5, z5, e⟩ := Option.bind_eq_some_iff.1 e
  refine Runs.vput v3 rfl q4 z5 fun H5 v5 u5 => ?_
  refine Runs.step rfl ?_
  refine Runs.step (AH.has.rd ((g3.updr (Nat.le_refl _) u5).has b1) 0 rfl (asSl_v _)) ?_
  obtain ⟨s6, s6b, H6, e6, n6, n6b, g6, o6, o6b⟩ := nat_Div_spec v5.nats (n1c0.grow (g3.updr (Nat.le_refl _) u5))
  refine Runs.step e6 ?_
  refine Runs.step rfl ?_
  refine Runs.step (seen (asSl_v _)) ?_
  refine Runs.step (seen (asSl_v _)) ?_
  refine Runs.step (seen (avInt_int _ _)) ?_
  cases e
  cases good
  have G7 := ((g3.updr (Nat.le_refl _) u5).trans g6)
  exact Runs.ret ⟨s6b, rfl, n6b, G7, (o6b.of_le (g3.updr (Nat.le_refl _) u5))⟩

theorem mont_Ring_rest_run {s : mont_Ring_rest_St} {r : mont_Ring_rest_Res} (it : Iter mont_Ring_rest_step s r) : mont_Ring_rest_At r s := Iter.ind (fun s o e good => by
  cases s with
  | fn x1c0 z1c1 x1c2 x1c3 a2 => exact @mont_Ring_rest_fn_walk _ _ x1c0 z1c1 x1c2 x1c3 a2 e good
  | no => exact True.intro
  ) it

theorem mont_Ring_rest_opt {h : AH} {s1c0 : Sl} {s1c2 : Sl} {s1c3 : Sl} {i1 : Nat} {x1c0 : List Nat} {z1c1 : Int} {x1c2 : List Nat} {x1c3 : List Nat} {a2 : Int} (b1 : h.has i1 [s1c0.v, .int .u64 z1c1, s1c2.v, s1c3.v] T.mont_Ring) (n1c0 : Nats h s1c0 x1c0) (n1c2 : Nats h s1c2 x1c2) (n1c3 : Nats h s1c3 x1c3) {r : mont_Ring_rest_Res} (q : runP mont_Ring_rest_step (.fn x1c0 z1c1 x1c2 x1c3 a2) = some r) : Runs (go (.fn F.mont_Ring_rest [.ptr (some (.new i1 0)), .int .i64 a2]) h) (mont_Ring_rest_post h r) := mont_Ring_rest_run (runP_iter q) b1 n1c0 n1c2 n1c3

end Go.Ab

/- Layer 2: a ring is made. -/
set_option linter.unusedVariables false
set_option linter.unusedSimpArgs false
set_option maxRecDepth 10000
namespace Go.Ab
open Go.Proofs Go.Num

theorem num_rep1 (n : Nat) : num B (List.replicate n 0 ++ [1]) = B ^ n := by
  have h : num B (List.replicate n 0) = 0 := by have := num_noughts B [] n; simpa [num] using this
  rw [num_append, h, List.length_replicate]
  simp [num]

theorem rest_iter {ns c2 c3 : List Nat} (z : Int) {p k : Nat} (hk : ns.length = k) (hp : p ≤ 2) (h8 : k ≤ 8) (h0 : k ≠ 0) (r : rt ns = true) : runP mont_Ring_rest_step (.fn ns z c2 c3 (p : Int)) = some (digs B (B ^ (p * k) % num B ns)) := by
  have hpk : p * k ≤ 2 * 8 := Nat.mul_le_mul hp h8
  refine runP_of (.done ?_)
  show mont_Ring_rest_fn' ns z c2 c3 (p : Int) = _
  unfold mont_Ring_rest_fn'
  have e : IntKind.wrap .i64 ((p : Int) * (k : Int)) = ((p * k : Nat) : Int) := by rw [← Int.natCast_mul, wrap_nat (by omega)]
  rw [hk, e, wrap_succ (by omega), mkI_nat (by omega), Option.bind_some, List.length_replicate, inI_nat (by omega), Option.bind_some, show u64P 1 = some 1 from rfl, Option.bind_some]
  have hs : (List.replicate (p * k + 1) 0).set (p * k) 1 = List.replicate (p * k) 0 ++ [1] := by
    rw [List.replicate_succ']
    have := set_mid (List.replicate (p * k) 0) 0 1 [] (n := p * k) (by simp)
    rw [this, List.append_nil]
  have rx : rt (List.replicate (p * k) 0 ++ [1]) = true := rt_iff.2 ⟨by simp; omega, fun h => by simp⟩
  rw [hs, divN_rest rx r (fun e => h0 (by rw [← hk, e]; rfl)), num_rep1]

theorem wrap_newton (n x : Int) : IntKind.wrap .u64 (x * IntKind.wrap .u64 (2 - IntKind.wrap .u64 (n * x))) = (x * (2 - n * x)) % 18446744073709551616 := by
  rw [wrapU, wrapU, wrapU]
  have : (2 - n * x % 18446744073709551616) % 18446744073709551616 = (2 - n * x) % 18446744073709551616 := by
    generalize n * x = t
    omega
  rw [this, newton.Int.mul_emod_aux]

theorem newton_round {n x i : Nat} (hi : i < 6) (h : (n * x) % 2 ^ (2 ^ i) = 1 % 2 ^ (2 ^ i)) : ∃ y : Nat, y < 18446744073709551616 ∧ (((x : Int) * (2 - (n : Int) * (x : Int))) % 18446744073709551616) = (y : Int) ∧ (n * y) % 2 ^ (2 ^ (i + 1)) = 1 % 2 ^ (2 ^ (i + 1)) := by
  have h1 := Int.emod_nonneg ((x : Int) * (2 - (n : Int) * (x : Int))) (show (18446744073709551616 : Int) ≠ 0 by decide)
  have h2 := Int.emod_lt_of_pos ((x : Int) * (2 - (n : Int) * (x : Int))) (show (0 : Int) < 18446744073709551616 by decide)
  refine ⟨(((x : Int) * (2 - (n : Int) * (x : Int))) % 18446744073709551616).toNat, by omega, by omega, ?_⟩
  have hw : (2 : Nat) ^ (2 ^ (i + 1)) = 2 ^ (2 ^ i) * 2 ^ (2 ^ i) := by rw [← Nat.pow_add, Nat.pow_succ, Nat.mul_two]
  have hd : (2 : Nat) ^ (2 ^ (i + 1)) ∣ 18446744073709551616 := Nat.pow_dvd_pow 2 (show 2 ^ (i + 1) ≤ 2 ^ 6 from Nat.pow_le_pow_right (by decide) (by omega))
  generalize (2 : Nat) ^ (2 ^ (i + 1)) = w at hw hd ⊢
  have hd' : (w : Int) ∣ 18446744073709551616 := Int.natCast_dvd_natCast.2 hd
  have := newton hw h (((x : Int) * (2 - (n : Int) * (x : Int))) % 18446744073709551616) (Int.emod_emod_of_dvd _ hd')
  have e : ((((x : Int) * (2 - (n : Int) * (x : Int))) % 18446744073709551616).toNat : Int) = ((x : Int) * (2 - (n : Int) * (x : Int))) % 18446744073709551616 := by omega
  rw [← e] at this
  generalize (((x : Int) * (2 - (n : Int) * (x : Int))) % 18446744073709551616).toNat = y at this ⊢
  rw [← Int.natCast_mul] at this
  exact Int.ofNat.inj this

theorem minus_ok {n x : Nat} (h : (n * x) % 2 ^ (2 ^ 6) = 1 % 2 ^ (2 ^ 6)) : ∃ v : Nat, v < 18446744073709551616 ∧ IntKind.wrap .u64 (0 - (x : Int)) = (v : Int) ∧ (n * v + 1) % 18446744073709551616 = 0 := by
  rw [wrapU]
  refine ⟨((0 - (x : Int)) % 18446744073709551616).toNat, by omega, by omega, ?_⟩
  have e : ((((0 - (x : Int)) % 18446744073709551616).toNat : Nat) : Int) = (0 - (x : Int)) % 18446744073709551616 := by omega
  have h' : (n * x) % 18446744073709551616 = 1 := h
  have k : ((n : Int) * ((0 - (x : Int)) % 18446744073709551616) + 1) % 18446744073709551616 = 0 := by
    rw [Int.add_emod, newton.Int.mul_emod_aux, ← Int.add_emod, Int.zero_sub, Int.mul_neg, ← Int.natCast_mul]
    omega
  rw [← e] at k
  generalize ((0 - (x : Int)) % 18446744073709551616).toNat = y at k ⊢
  rw [← Int.natCast_mul] at k
  omega

/-- What New makes of a modulus. -/
def NewP (h : AH) (ns : List Nat) (w : AV) (h' : AH) : Prop :=
  ∃ (j v : Nat) (s0 s2 s3 : Sl), w = .tup [.ptr (some (.new j 0)), .int .i64 0] ∧ v < B ∧ (num B ns * v + 1) % B = 0 ∧ h'.has j [s0.v, .int .u64 (v : Int), s2.v, s3.v] T.mont_Ring ∧ Nats h' s0 ns ∧ Nats h' s2 (digs B (B ^ (1 * ns.length) % num B ns)) ∧ Nats h' s3 (digs B (B ^ (2 * ns.length) % num B ns)) ∧ Grow h h'

theorem mont_New_loop {h0 h : AH} {s : Sl} {ns : List Nat} (n : Nats h s ns) (hn : 0 < ns.length) (h8 : ns.length ≤ 8) (r : rt ns = true) (g : Grow h0 h) : ∀ (d i x : Nat), i + d = 6 → x < 18446744073709551616 → (ns[0] * x) % 2 ^ (2 ^ i) = 1 % 2 ^ (2 ^ i) →
    Runs (go (.pt F.mont_New Td.mont_New_5 [(0, s.v), (4, .int .u64 (x : Int)), (40, .int .i64 (i : Int))]) h) (NewP h0 ns)
  | 0, i, x, hi, hx, e => by
    have hi : i = 6 := by omega
    subst hi
    obtain ⟨v, v1, v2, v3⟩ := minus_ok e
    rw [p_mont_New_5]
    refine Runs.ifF (by decide) ?_
    obtain ⟨s1, h1, e1, n1, g1, o1⟩ := clone_spec n (by omega)
    refine Runs.step e1 ?_
    refine Runs.step (seen (asSl_v _)) ?_
    rw [v2]
    refine Runs.new fun h2 b2 g2 => ?_
    obtain ⟨_, h3, e3, s3, rfl, n3, g3, o3⟩ := mont_Ring_rest_opt b2 (n1.grow g2) (Nats.nil _) (Nats.nil _) (rest_iter (v : Int) rfl (show 1 ≤ 2 by decide) h8 (by omega) r)
    refine Runs.step e3 ?_
    refine Runs.step (seen (asSl_v _)) ?_
    refine Runs.putAt (o := 2) (cs' := [s1.v, .int .u64 (v : Int), s3.v, (⟨none, 0, .is 0⟩ : Sl).v]) (vs := [s3.v]) (g3.has b2) (by simp) rfl fun h4 b4 u4 => ?_
    have n3' := n3.upda (Av.of_own o3 b2.lt) u4
    have gg : Grow h1 h4 := (g2.trans g3).updr (Nat.le_refl _) u4
    obtain ⟨_, h5, e5, s5, rfl, n5, g5, o5⟩ := mont_Ring_rest_opt (a2 := ((2 : Nat) : Int)) b4 (n1.grow gg) n3' (Nats.nil _) (rest_iter (v : Int) rfl (show 2 ≤ 2 by decide) h8 (by omega) r)
    refine Runs.step e5 ?_
    refine Runs.step (seen (asSl_v _)) ?_
    refine Runs.putAt (o := 3) (cs' := [s1.v, .int .u64 (v : Int), s3.v, s5.v]) (vs := [s5.v]) (g5.has b4) (by simp) rfl fun h6 b6 u6 => ?_
    have gg6 : Grow h1 h6 := (gg.trans g5).updr (Nat.le_refl _) u6
    refine Runs.ret ⟨_, v, s1, s3, s5, rfl, v1, ?_, b6, n1.grow gg6, (n3'.grow g5).upda (Av.of_own o3 b2.lt) u6, n5.upda (Av.of_own o5 b4.lt) u6, (g.trans g1).trans gg6⟩
    rw [num_headD B ns, Nat.add_mul, Nat.mul_assoc, Nat.add_right_comm, Nat.add_mul_mod_self_left]
    have : ns.headD 0 = ns[0] := by
      cases ns with
      | nil => simp at hn
      | cons y ys => rfl
    rw [this]
    exact v3
  | d + 1, i, x, hi, hx, e => by
    rw [p_mont_New_5]
    refine Runs.ifT (by rw [decide_eq_true_eq]; omega) ?_
    obtain ⟨q, e1, e2⟩ := n.at (i := 0) hn
    rw [n.len] at e1 ⊢
    refine Runs.step e1 ?_
    refine Runs.step (rdc e2 (avInt_int _ _)) ?_
    obtain ⟨y, y1, y2, y3⟩ := newton_round (by omega) e
    rw [wrap_newton, y2, wrap_succ (by omega)]
    exact mont_New_loop n hn h8 r g d (i + 1) y (by omega) y1 y3

theorem mont_New_ok {h : AH} {s : Sl} {ns : List Nat} (n : Nats h s ns) (r : rt ns = true) (hn : ns.length ≠ 0) (h8 : ns.length ≤ 8) (ho : num B ns % 2 = 1) (h1 : 1 < num B ns) : Runs (go (.fn F.mont_New [s.v]) h) (NewP h ns) := by
  have hp : 0 < ns.length := by omega
  have hd : ns.headD 0 = ns[0] := by
    cases ns with
    | nil => simp at hp
    | cons y ys => rfl
  have hb : ns[0] < 18446744073709551616 := n.lt _ (List.getElem_mem _)
  have hodd : ns[0] % 2 = 1 := by
    rw [num_headD B ns, hd] at ho
    have : (ns[0] + 18446744073709551616 * num B ns.tail) % 2 = 1 := ho
    omega
  have hs : (ns[0] * ns[0]) % 2 ^ (2 ^ 0) = 1 % 2 ^ (2 ^ 0) := by
    show (ns[0] * ns[0]) % 2 = 1
    rw [Nat.mul_mod, hodd]
  have rd : ∀ {K : Ref → Option (AV × AH)} {Q : AV → AH → Prop}, (∀ q, h.cell q = some (.int .u64 ((ns[0] : Nat) : Int)) → Runs (K q) Q) → Runs ((idx s.ref ns.length 0 1).bind K) Q := by
    intro K Q H
    obtain ⟨q, e1, e2⟩ := n.at (i := 0) hp
    rw [n.len] at e1
    exact Runs.step e1 (H q e2)
  rw [u_mont_New]
  refine Runs.step (nat_Right_spec n) ?_
  refine Runs.step (seen rfl) ?_
  rw [show s.len = ns.length from n.len]
  refine Runs.ifF (by rw [r]; rfl) ?_
  refine Runs.ifF (by rw [decide_eq_false_iff_not]; omega) ?_
  refine Runs.ifF (by rw [decide_eq_false_iff_not]; omega) ?_
  refine rd fun q hq => ?_
  refine Runs.step (rdc hq (avInt_int _ _)) ?_
  refine Runs.ifF (by rw [iand_one hb, decide_eq_false_iff_not]; omega) ?_
  have lp : Runs (go (.pt F.mont_New Td.mont_New_5 [(0, s.v), (4, .int .u64 ((ns[0] : Nat) : Int)), (40, .int .i64 0)]) h) (NewP h ns) := mont_New_loop n hp h8 r (Grow.refl h) 6 0 ns[0] rfl hb hs
  refine Runs.cond (fun k => ?_) (fun k => ?_)
  · refine rd fun q hq => ?_
    refine Runs.step (rdc hq (avInt_int _ _)) ?_
    refine Runs.ifF ?_ ?_
    · rw [decide_eq_false_iff_not]
      intro e
      have hl : ns.length = 1 := by rw [decide_eq_true_eq] at k; omega
      obtain ⟨y, hy⟩ := List.length_eq_one_iff.1 hl
      subst hy
      simp [num] at h1 e
      omega
    · refine rd fun q hq => ?_
      refine Runs.step (rdc hq (avInt_int _ _)) ?_
      exact lp
  · refine rd fun q hq => ?_
    refine Runs.step (rdc hq (avInt_int _ _)) ?_
    exact lp

end Go.Ab

/- Layer 6: what is asked first, its walk: printed by wip/tools/walk.py. -/
set_option linter.unusedVariables false
set_option linter.unusedSimpArgs false
set_option maxRecDepth 10000
namespace Go.Ab
open Go.Proofs Go.Num

def paillier_square' (x1 : List Nat) : List Nat :=
  (mulN x1 x1).1

theorem paillier_square_spec {h : AH} {a1 : Sl} {x1 : List Nat} (n1 : Nats h a1 x1)  : Runs (go (.fn F.paillier_square [a1.v]) h) fun v h' => ∃ s1 : Sl, v = s1.v ∧ Nats h' s1 (paillier_square' x1) ∧ Grow h h' ∧ Own h s1 := by
  rw [u_paillier_square]
  obtain ⟨s2, H2, e2, n2, g2, o2⟩ := nat_Mul_spec n1 n1
  refine Runs.step e2 ?_
  refine Runs.step rfl ?_
  refine Runs.step (seen (asSl_v _)) ?_
  refine Runs.step (seen (avInt_int _ _)) ?_
  have z : paillier_square' x1 = (mulN x1 x1).1 := by unfold paillier_square'; exact rfl
  rw [z]
  exact Runs.ret ⟨s2, rfl, n2, g2, (o2.of_le (Grow.refl _))⟩

def paillier_May' (x1 : List Nat) : Bool :=
  cond ((rt x1)) (cond (((bitN x1 0))) (cond (decide ((((bitsN x1 : Nat) : Int)) ≥ 15)) (decide ((((bitsN x1 : Nat) : Int)) ≤ 80)) (false)) (false)) (false)

theorem paillier_May_spec {h : AH} {a1 : Sl} {x1 : List Nat} (n1 : Nats h a1 x1)  : Runs (go (.fn F.paillier_May [a1.v]) h) fun v h' => v = .bool (paillier_May' x1) ∧ Grow h h' := by
  rw [u_paillier_May]
  obtain ⟨_, H2, e2, rfl, g2⟩ := nat_Bits_is n1
  refine Runs.step e2 ?_
  refine Runs.step (seen (avInt_int _ _)) ?_
  refine Runs.step (nat_Right_spec (n1.grow g2)) ?_
  refine Runs.step (seen rfl) ?_
  refine Runs.cond (fun k4 => ?_) (fun k4 => ?_)
  · obtain ⟨_, H5, e5, rfl, g5⟩ := nat_Bit_need (n1.grow g2) (i := 0) (by decide)
    refine Runs.step e5 ?_
    refine Runs.step (seen rfl) ?_
    refine Runs.cond (fun k6 => ?_) (fun k6 => ?_)
    · refine Runs.cond (fun k7 => ?_) (fun k7 => ?_)
      · have z : paillier_May' x1 = decide ((((bitsN x1 : Nat) : Int)) ≤ 80) := by unfold paillier_May'; exact (condT k4).trans ((condT k6).trans ((condT k7).trans rfl))
        rw [z]
        exact Runs.ret ⟨rfl, (g2.trans g5)⟩
      · have z : paillier_May' x1 = false := by unfold paillier_May'; exact (condT k4).trans ((condT k6).trans ((condF k7).trans rfl))
        rw [z]
        exact Runs.ret ⟨rfl, (g2.trans g5)⟩
    · have z : paillier_May' x1 = false := by unfold paillier_May'; exact (condT k4).trans ((condF k6).trans rfl)
      rw [z]
      exact Runs.ret ⟨rfl, (g2.trans g5)⟩
  · have z : paillier_May' x1 = false := by unfold paillier_May'; exact (condF k4).trans rfl
    rw [z]
    exact Runs.ret ⟨rfl, g2⟩

def paillier_isPlain' (x1 : List Nat) (x2 : List Nat) : Bool :=
  cond ((rt x2)) (decide ((cmpN x2 x1) < 0)) (false)

theorem paillier_isPlain_spec {h : AH} {a1 : Sl} {x1 : List Nat} {a2 : Sl} {x2 : List Nat} (n1 : Nats h a1 x1) (n2 : Nats h a2 x2)  : Runs (go (.fn F.paillier_isPlain [a1.v, a2.v]) h) fun v h' => v = .bool (paillier_isPlain' x1 x2) ∧ Grow h h' := by
  rw [u_paillier_isPlain]
  refine Runs.step (nat_Right_spec n2) ?_
  refine Runs.step (seen rfl) ?_
  refine Runs.cond (fun k4 => ?_) (fun k4 => ?_)
  · obtain ⟨H5, e5, g5⟩ := nat_Cmp_spec n2 n1
    refine Runs.step e5 ?_
    refine Runs.step (seen (avInt_int _ _)) ?_
    have z : paillier_isPlain' x1 x2 = decide ((cmpN x2 x1) < 0) := by unfold paillier_isPlain'; exact (condT k4).trans rfl
    rw [z]
    exact Runs.ret ⟨rfl, g5⟩
  · have z : paillier_isPlain' x1 x2 = false := by unfold paillier_isPlain'; exact (condF k4).trans rfl
    rw [z]
    exact Runs.ret ⟨rfl, (Grow.refl _)⟩

def paillier_alone' (x1 : List Nat) (x2 : List Nat) (x3 : List Nat) : Bool :=
  cond (!(rt x1)) (false) (cond (decide ((List.length x1 : Int) = 0)) (false) (cond (decide ((cmpN x1 x3) ≥ 0)) (false) (decide ((cmpN ((gcdN x1 x2).1) [1]) = 0))))

theorem paillier_alone_spec {h : AH} {a1 : Sl} {x1 : List Nat} {a2 : Sl} {x2 : List Nat} {a3 : Sl} {x3 : List Nat} (n1 : Nats h a1 x1) (n2 : Nats h a2 x2) (n3 : Nats h a3 x3)  : Runs (go (.fn F.paillier_alone [a1.v, a2.v, a3.v]) h) fun v h' => v = .bool (paillier_alone' x1 x2 x3) ∧ Grow h h' := by
  rw [u_paillier_alone]
  rw [n1.len]
  refine Runs.step (nat_Right_spec n1) ?_
  refine Runs.step (seen rfl) ?_
  refine Runs.cond (fun k5 => ?_) (fun k5 => ?_)
  · have z : paillier_alone' x1 x2 x3 = false := by unfold paillier_alone'; exact (condT k5).trans rfl
    rw [z]
    exact Runs.ret ⟨rfl, (Grow.refl _)⟩
  · refine Runs.cond (fun k6 => ?_) (fun k6 => ?_)
    · have z : paillier_alone' x1 x2 x3 = false := by unfold paillier_alone'; exact (condF k5).trans ((condT k6).trans rfl)
      rw [z]
      exact Runs.ret ⟨rfl, (Grow.refl _)⟩
    · obtain ⟨H7, e7, g7⟩ := nat_Cmp_spec n1 n3
      refine Runs.step e7 ?_
      refine Runs.step (seen (avInt_int _ _)) ?_
      refine Runs.cond (fun k8 => ?_) (fun k8 => ?_)
      · have z : paillier_alone' x1 x2 x3 = false := by unfold paillier_alone'; exact (condF k5).trans ((condF k6).trans ((condT k8).trans rfl))
        rw [z]
        exact Runs.ret ⟨rfl, g7⟩
      · obtain ⟨_, H9, e9, s9, rfl, n9, g9, o9⟩ := modint_Gcd_spec (n1.grow g7) (n2.grow g7)
        refine Runs.step e9 ?_
        refine Runs.step rfl ?_
        refine Runs.step (seen (asSl_v _)) ?_
        refine Runs.step (seen (avInt_int _ _)) ?_
        refine Runs.new fun H10 b10 g10 => ?_
        obtain ⟨H11, e11, g11⟩ := nat_Cmp_spec (n9.grow g10) (Nats.of_has (xs := [1]) b10 (by decide) (by decide))
        refine Runs.step e11 ?_
        refine Runs.step (seen (avInt_int _ _)) ?_
        have z : paillier_alone' x1 x2 x3 = decide ((cmpN ((gcdN x1 x2).1) [1]) = 0) := by unfold paillier_alone'; exact (condF k5).trans ((condF k6).trans ((condF k8).trans rfl))
        rw [z]
        have G12 := (((g7.trans g9).trans g10).trans g11)
        exact Runs.ret ⟨rfl, G12⟩

def paillier_Valid' (x1 : List Nat) (x2 : List Nat) : Bool :=
  cond (((paillier_May' x1))) (((paillier_alone' x2 x1 (paillier_square' x1)))) (false)

theorem paillier_Valid_spec {h : AH} {a1 : Sl} {x1 : List Nat} {a2 : Sl} {x2 : List Nat} (n1 : Nats h a1 x1) (n2 : Nats h a2 x2)  : Runs (go (.fn F.paillier_Valid [a1.v, a2.v]) h) fun v h' => v = .bool (paillier_Valid' x1 x2) ∧ Grow h h' := by
  rw [u_paillier_Valid]
  obtain ⟨_, H3, e3, rfl, g3⟩ := paillier_May_spec n1
  refine Runs.step e3 ?_
  refine Runs.step (seen rfl) ?_
  refine Runs.cond (fun k4 => ?_) (fun k4 => ?_)
  · obtain ⟨_, H5, e5, s5, rfl, n5, g5, o5⟩ := paillier_square_spec (n1.grow g3)
    refine Runs.step e5 ?_
    refine Runs.step (seen (asSl_v _)) ?_
    obtain ⟨_, H6, e6, rfl, g6⟩ := paillier_alone_spec (n2.grow (g3.trans g5)) (n1.grow (g3.trans g5)) n5
    refine Runs.step e6 ?_
    refine Runs.step (seen rfl) ?_
    have z : paillier_Valid' x1 x2 = ((paillier_alone' x2 x1 (paillier_square' x1))) := by unfold paillier_Valid'; exact (condT k4).trans rfl
    rw [z]
    have G7 := ((g3.trans g5).trans g6)
    exact Runs.ret ⟨rfl, G7⟩
  · have z : paillier_Valid' x1 x2 = false := by unfold paillier_Valid'; exact (condF k4).trans rfl
    rw [z]
    exact Runs.ret ⟨rfl, g3⟩

def paillier_times' (x1 : List Nat) (x2 : List Nat) (x3 : List Nat) : List Nat :=
  (divN ((mulN x2 x3).1) (paillier_square' x1)).2.1

theorem paillier_times_spec {h : AH} {a1 : Sl} {x1 : List Nat} {a2 : Sl} {x2 : List Nat} {a3 : Sl} {x3 : List Nat} (n1 : Nats h a1 x1) (n2 : Nats h a2 x2) (n3 : Nats h a3 x3)  : Runs (go (.fn F.paillier_times [a1.v, a2.v, a3.v]) h) fun v h' => ∃ s1 : Sl, v = s1.v ∧ Nats h' s1 (paillier_times' x1 x2 x3) ∧ Grow h h' ∧ Own h s1 := by
  rw [u_paillier_times]
  obtain ⟨s4, H4, e4, n4, g4, o4⟩ := nat_Mul_spec n2 n3
  refine Runs.step e4 ?_
  refine Runs.step rfl ?_
  refine Runs.step (seen (asSl_v _)) ?_
  refine Runs.step (seen (avInt_int _ _)) ?_
  obtain ⟨_, H5, e5, s5, rfl, n5, g5, o5⟩ := paillier_square_spec (n1.grow g4)
  refine Runs.step e5 ?_
  refine Runs.step (seen (asSl_v _)) ?_
  obtain ⟨s6, s6b, H6, e6, n6, n6b, g6, o6, o6b⟩ := nat_Div_spec (n4.grow g5) n5
  refine Runs.step e6 ?_
  refine Runs.step rfl ?_
  refine Runs.step (seen (asSl_v _)) ?_
  refine Runs.step (seen (asSl_v _)) ?_
  refine Runs.step (seen (avInt_int _ _)) ?_
  have z : paillier_times' x1 x2 x3 = (divN ((mulN x2 x3).1) (paillier_square' x1)).2.1 := by unfold paillier_times'; exact rfl
  rw [z]
  have G7 := ((g4.trans g5).trans g6)
  exact Runs.ret ⟨s6b, rfl, n6b, G7, (o6b.of_le (g4.trans g5))⟩

def paillier_shown' (x1 : List Nat) (x2 : List Nat) : List Nat :=
  (addN ((mulN x2 x1).1) [1]).1

theorem paillier_shown_spec {h : AH} {a1 : Sl} {x1 : List Nat} {a2 : Sl} {x2 : List Nat} (n1 : Nats h a1 x1) (n2 : Nats h a2 x2)  : Runs (go (.fn F.paillier_shown [a1.v, a2.v]) h) fun v h' => ∃ s1 : Sl, v = s1.v ∧ Nats h' s1 (paillier_shown' x1 x2) ∧ Grow h h' ∧ Own h s1 := by
  rw [u_paillier_shown]
  obtain ⟨s3, H3, e3, n3, g3, o3⟩ := nat_Mul_spec n2 n1
  refine Runs.step e3 ?_
  refine Runs.step rfl ?_
  refine Runs.step (seen (asSl_v _)) ?_
  refine Runs.step (seen (avInt_int _ _)) ?_
  refine Runs.new fun H4 b4 g4 => ?_
  obtain ⟨s5, H5, e5, n5, g5, o5⟩ := nat_Add_spec (n3.grow g4) (Nats.of_has (xs := [1]) b4 (by decide) (by decide))
  refine Runs.step e5 ?_
  refine Runs.step rfl ?_
  refine Runs.step (seen (asSl_v _)) ?_
  refine Runs.step (seen (avInt_int _ _)) ?_
  have z : paillier_shown' x1 x2 = (addN ((mulN x2 x1).1) [1]).1 := by unfold paillier_shown'; exact rfl
  rw [z]
  have G6 := ((g3.trans g4).trans g5)
  exact Runs.ret ⟨s5, rfl, n5, G6, (o5.of_le (g3.trans g4))⟩

def ref02_Times' (x1 : List Nat) (x2 : List Nat) (x3 : List Nat) : List Nat :=
  (divN ((mulN x1 x2).1) x3).2.1

end Go.Ab

/- Layer 2: the document's power, its walk: printed by wip/tools/walk.py. -/
set_option linter.unusedVariables false
set_option linter.unusedSimpArgs false
set_option maxRecDepth 10000
namespace Go.Ab
open Go.Proofs Go.Num

end Go.Ab

/- Layers 2 and 6: powers, what they are. -/
set_option linter.unusedVariables false
set_option linter.unusedSimpArgs false
set_option maxRecDepth 10000
namespace Go.Ab
open Go.Proofs Go.Num

def powOk (xs es ns : List Nat) : Prop := rt xs = true ∧ rt es = true ∧ rt ns = true ∧ ns.length ≤ 30 ∧ 1 < num B ns ∧ num B xs < num B ns
def powN (xs es ns : List Nat) : List Nat := digs B (num B xs ^ num B es % num B ns)

theorem mulN_digs {a b : Nat} (ha : a < B ^ 30) (hb : b < B ^ 30) : mulN (digs B a) (digs B b) = (digs B (a * b), 0) := by
  have h60 : a * b < B ^ 64 := by
    calc a * b < B ^ 30 * B ^ 30 := Nat.mul_lt_mul_of_lt_of_lt ha hb
      _ = B ^ 60 := by rw [← Nat.pow_add]
      _ ≤ B ^ 64 := Nat.pow_le_pow_right (by decide) (by decide)
  have up : ∀ {c : Nat}, c < B ^ 30 → c < B ^ 64 := fun h => Nat.lt_of_lt_of_le h (Nat.pow_le_pow_right (by decide) (by decide))
  unfold mulN
  rw [if_pos ⟨rt_digs (up ha), rt_digs (up hb)⟩, num_digs B2, num_digs B2]
  unfold told
  rw [if_pos h60]

theorem digs_of_rt {xs : List Nat} (l : ∀ x ∈ xs, x < B) (r : rt xs = true) : digs B (num B xs) = xs := digs_num B2 l (rt_iff.1 r).2

theorem may_facts {ns : List Nat} (l : ∀ x ∈ ns, x < B) (h : paillier_May' ns = true) : rt ns = true ∧ num B ns % 2 = 1 ∧ 16384 ≤ num B ns ∧ num B ns < 2 ^ 80 := by
  unfold paillier_May' at h
  simp only [Bool.cond_eq_true_distrib, Bool.cond_false_right, Bool.and_eq_true, decide_eq_true_eq] at h
  obtain ⟨h1, h2, h3, h4⟩ := h
  have hb : bitsN ns = bl (num B ns) := by unfold bitsN; rw [if_pos h1]
  rw [hb] at h3 h4
  obtain ⟨b1, b2⟩ := bl_Bl (num B ns)
  refine ⟨h1, ?_, ?_, ?_⟩
  · rw [show (0 : Int) = ((0 : Nat) : Int) from rfl, bitN_nat h1, Nat.testBit_zero, decide_eq_true_eq] at h2
    exact h2
  · rcases b2 with b2 | b2
    · omega
    · exact Nat.le_trans (Nat.pow_le_pow_right (n := 2) (i := 14) (by decide) (by omega)) b2
  · exact Nat.lt_of_lt_of_le b1 (Nat.pow_le_pow_right (by decide) (by omega))

theorem square_may {ns : List Nat} (l : ∀ x ∈ ns, x < B) (h : paillier_May' ns = true) : paillier_square' ns = digs B (num B ns * num B ns) ∧ num B ns * num B ns < B ^ 3 ∧ 1 < num B ns * num B ns ∧ num B ns * num B ns % 2 = 1 := by
  obtain ⟨h1, h2, h3, h4⟩ := may_facts l h
  have h30 : num B ns < B ^ 30 := Nat.lt_trans h4 (by decide)
  refine ⟨?_, ?_, ?_, ?_⟩
  · unfold paillier_square'
    have := mulN_digs h30 h30
    rw [digs_of_rt l h1] at this
    rw [this]
  · calc num B ns * num B ns < 2 ^ 80 * 2 ^ 80 := Nat.mul_lt_mul_of_lt_of_lt h4 h4
      _ < B ^ 3 := by decide
  · calc 1 < 16384 * 16384 := by decide
      _ ≤ num B ns * num B ns := Nat.mul_le_mul h3 h3
  · rw [Nat.mul_mod, h2]

def powerOk (ns xs es : List Nat) : Prop := paillier_May' ns = true ∧ rt xs = true ∧ num B xs < num B ns * num B ns ∧ rt es = true ∧ es.length ≤ 8

theorem paillier_power_need {h : AH} {s t u : Sl} {ns xs es : List Nat} (nn : Nats h s ns) (nx : Nats h t xs) (ne : Nats h u es) (c : powerOk ns xs es) :
    Runs (go (.fn F.paillier_power [s.v, t.v, u.v]) h) fun v h' => ∃ s1 : Sl, v = s1.v ∧ Nats h' s1 (powN xs es (paillier_square' ns)) ∧ Grow h h' ∧ Own h s1 := by
  obtain ⟨c1, c2, c3, c4, c5⟩ := c
  obtain ⟨q1, q2, q3, q4⟩ := square_may nn.lt c1
  have hN0 : num B ns * num B ns ≠ 0 := by omega
  rw [u_paillier_power]
  obtain ⟨_, h1, e1, s1, rfl, n1, g1, o1⟩ := paillier_square_spec nn
  refine Runs.step e1 ?_
  refine Runs.step (seen (asSl_v _)) ?_
  rw [q1] at n1 ⊢
  have hl3 : (digs B (num B ns * num B ns)).length ≤ 3 := (digs_len B2 _ 3).2 q2
  have hn : num B (digs B (num B ns * num B ns)) = num B ns * num B ns := num_digs B2 _
  obtain ⟨_, h2, e2, j, v, s0, s2, s3, rfl, v1, v2, b, m0, m2, m3, g2⟩ := mont_New_ok n1 (rt_digs (Nat.lt_of_lt_of_le q2 (Nat.pow_le_pow_right (by decide) (by decide)))) (fun e => hN0 (by rw [List.length_eq_zero_iff] at e; exact (digs_nil B2).1 e)) (by omega) (by rw [hn]; exact q4) (by rw [hn]; exact q3)
  refine Runs.step e2 ?_
  refine Runs.step rfl ?_
  refine Runs.step (seen rfl) ?_
  refine Runs.step (seen (avInt_int _ _)) ?_
  rw [hn] at v2 m2 m3
  have ring : RingOk (num B ns * num B ns) (digs B (num B ns * num B ns)).length v := ⟨by omega, by have := num_lt B1 (digs_lt B2 (num B ns * num B ns)); rwa [hn] at this, q3, q4, v1, v2, rfl⟩
  have f1 : digs B (B ^ (1 * (digs B (num B ns * num B ns)).length) % (num B ns * num B ns)) = form (num B ns * num B ns) (digs B (num B ns * num B ns)).length 1 := by
    unfold form
    rw [Nat.one_mul, Nat.one_mul, B_pow2]
  have f2 : B ^ (2 * (digs B (num B ns * num B ns)).length) = 2 ^ (64 * (digs B (num B ns * num B ns)).length) * 2 ^ (64 * (digs B (num B ns * num B ns)).length) := by
    rw [Nat.two_mul, Nat.pow_add, B_pow2]
  rw [f1] at m2
  rw [f2] at m3
  have it := mont_Ring_Exp_iter ring c3 ne.lt c4 c5
  rw [digs_of_rt nx.lt c2] at it
  obtain ⟨_, h3, e3, s4, rfl, n4, g4, o4⟩ := mont_Ring_Exp_opt b m0 m2 m3 (nx.grow (g1.trans g2)) (ne.grow (g1.trans g2)) it
  refine Runs.step e3 ?_
  refine Runs.step rfl ?_
  refine Runs.step (seen (asSl_v _)) ?_
  refine Runs.step (seen (avInt_int _ _)) ?_
  refine Runs.ret ⟨s4, rfl, ?_, (g1.trans g2).trans g4, o4.of_le (g1.trans g2)⟩
  unfold powN
  rw [hn]
  exact n4

end Go.Ab

/- Layer 6: faults, their walk: printed by wip/tools/walk.py. -/
set_option linter.unusedVariables false
set_option linter.unusedSimpArgs false
set_option maxRecDepth 10000
namespace Go.Ab
open Go.Proofs Go.Num

inductive law06_few_St
  | fn (x1 : List (List Nat))
  | p2 (x1 : List (List Nat)) (a2 : Int)

abbrev law06_few_Res := Bool

noncomputable def law06_few_fn' (x1 : List (List Nat)) : Option (law06_few_St ⊕ law06_few_Res) :=
  some (.inl (.p2 x1 0))

noncomputable def law06_few_p2' (x1 : List (List Nat)) (a2 : Int) : Option (law06_few_St ⊕ law06_few_Res) :=
  cond (decide (a2 < (List.length x1 : Int))) ((atX x1 a2).bind fun y4 => cond (decide ((List.length y4 : Int) > 20)) (some (.inr false)) (some (.inl (.p2 x1 (IntKind.wrap .i64 (a2 + 1)))))) (some (.inr true))

noncomputable def law06_few_step : law06_few_St → Option (law06_few_St ⊕ law06_few_Res)
  | .fn x1 => law06_few_fn' x1
  | .p2 x1 a2 => law06_few_p2' x1 a2

@[reducible] def law06_few_post (h0 : AH) (r : law06_few_Res) (v : AV) (h' : AH) : Prop := v = .bool r ∧ Grow h0 h'

def law06_few_At (r : law06_few_Res) : law06_few_St → Prop
  | .fn x1 => ∀ {h : AH} {a1 : Sl}, Seq El.nats h a1 x1 → Runs (go (.fn F.law06_few [a1.v]) h) (law06_few_post h r)
  | .p2 x1 a2 => ∀ {h0 h : AH} {a1 : Sl}, Grow h0 h → Seq El.nats h a1 x1 → Runs (go (.pt F.law06_few Td.law06_few_2 [(0, a1.v), (3, .int .i64 a2)]) h) (law06_few_post h0 r)

theorem law06_few_fn_walk {r : law06_few_Res} {o : law06_few_St ⊕ law06_few_Res} {x1 : List (List Nat)} (e : law06_few_fn' x1 = some o) (good : GoodS (law06_few_At r) r o) : law06_few_At r (.fn x1) := by
  intro h a1 n1
  rw [u_law06_few]
  unfold law06_few_fn' at e
  cases e
  exact good (Grow.refl _) n1

theorem law06_few_p2_walk {r : law06_few_Res} {o : law06_few_St ⊕ law06_few_Res} {x1 : List (List Nat)} {a2 : Int} (e : law06_few_p2' x1 a2 = some o) (good : GoodS (law06_few_At r) r o) : law06_few_At r (.p2 x1 a2) := by
  intro h0 h a1 g0 n1
  rw [p_law06_few_2]
  unfold law06_few_p2' at e
  rw [n1.len]
  refine Runs.cond (fun k3 => ?_) (fun k3 => ?_)
  · replace e := (condT k3).symm.trans e
    obtain ⟨y4, q4, e⟩ := Option.bind_eq_some_iff.1 e
    obtain ⟨r4, cs4, j4, E4, l4⟩ := (n1).at q4
    obtain ⟨s4, rfl, n4⟩ := E4
    refine Runs.step j4 ?_
    refine Runs.step (l4.rd0 (Grow.refl _) rfl (asSl_v _)) ?_
    rw [n4.len]
    refine Runs.cond (fun k5 => ?_) (fun k5 => ?_)
    · replace e := (condT k5).symm.trans e
      cases e
      cases good
      exact Runs.ret ⟨rfl, g0⟩
    · replace e := (condF k5).symm.trans e
      cases e
      exact good g0 n1
  · replace e := (condF k3).symm.trans e
    cases e
    cases good
    exact Runs.ret ⟨rfl, g0⟩

theorem law06_few_run {s : law06_few_St} {r : law06_few_Res} (it : Iter law06_few_step s r) : law06_few_At r s := Iter.ind (fun s o e good => by
  cases s with
  | fn x1 => exact @law06_few_fn_walk _ _ x1 e good
  | p2 x1 a2 => exact @law06_few_p2_walk _ _ x1 a2 e good
  ) it

theorem law06_few_opt {h : AH} {a1 : Sl} {x1 : List (List Nat)} (n1 : Seq El.nats h a1 x1) {r : law06_few_Res} (q : runP law06_few_step (.fn x1) = some r) : Runs (go (.fn F.law06_few [a1.v]) h) (law06_few_post h r) := law06_few_run (runP_iter q) n1

end Go.Ab

/- Layer 6: faults; few. -/
set_option linter.unusedVariables false
set_option linter.unusedSimpArgs false
set_option maxRecDepth 10000
namespace Go.Ab
open Go.Proofs Go.Num

def few06 (l : List (List Nat)) : Bool := l.all fun x => decide (x.length ≤ 20)

theorem few_loop {l : List (List Nat)} (hl : l.length ≤ 1000000) : ∀ (d i : Nat), i + d = l.length → Iter law06_few_step (.p2 l (i : Int)) ((l.drop i).all fun x => decide (x.length ≤ 20))
  | 0, i, hi => by
    refine .done ?_
    show law06_few_p2' _ _ = _
    unfold law06_few_p2'
    rw [condF (by rw [decide_eq_false_iff_not]; omega), List.drop_eq_nil_of_le (by omega)]
    rfl
  | d + 1, i, hi => by
    have hi' : i < l.length := by omega
    have K := few_loop hl d (i + 1) (by omega)
    rw [List.drop_eq_getElem_cons hi', List.all_cons]
    have step : law06_few_p2' l (i : Int) = cond (decide (((l[i]).length : Int) > 20)) (some (.inr false)) (some (.inl (.p2 l ((i + 1 : Nat) : Int)))) := by
      unfold law06_few_p2'
      rw [condT (by rw [decide_eq_true_eq]; omega), atX_nat hi', Option.bind_some, wrap_succ (by omega)]
    by_cases h20 : (l[i]).length ≤ 20
    · rw [show decide ((l[i]).length ≤ 20) = true from by rw [decide_eq_true_eq]; exact h20, Bool.true_and]
      refine .next ?_ K
      show law06_few_p2' _ _ = _
      rw [step, condF (by rw [decide_eq_false_iff_not]; omega)]
    · rw [show decide ((l[i]).length ≤ 20) = false from by rw [decide_eq_false_iff_not]; exact h20, Bool.false_and]
      refine .done ?_
      show law06_few_p2' _ _ = _
      rw [step, condT (by rw [decide_eq_true_eq]; omega)]

theorem few_iter {l : List (List Nat)} (hl : l.length ≤ 1000000) : Iter law06_few_step (.fn l) (few06 l) := by
  refine .next rfl ?_
  have := few_loop hl l.length 0 (by omega)
  exact this

theorem law06_few_is {h : AH} {t : Sl} {l : List (List Nat)} (m : Seq El.nats h t l) (hl : l.length ≤ 1000000) : Runs (go (.fn F.law06_few [t.v]) h) (law06_few_post h (few06 l)) := law06_few_opt m (runP_of (few_iter hl))

end Go.Ab
