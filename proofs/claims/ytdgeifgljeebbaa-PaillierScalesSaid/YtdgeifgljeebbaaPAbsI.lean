/- The abstract operations against the machine's: the built-in calls. -/
import Derived.Test.YtdgeifgljeebbaaPAbsA

set_option linter.unusedVariables false
set_option linter.unusedSimpArgs false
namespace Go.Ab

variable {P : Program} {O : World} {R : Type}

theorem growBy_le (need : Nat) : ∀ (rounds c : Nat), c ≤ need + (need + 768) / 4 → Builtin.growBy need rounds c ≤ need + (need + 768) / 4
  | 0, c, h => h
  | n + 1, c, h => by
    unfold Builtin.growBy
    split
    · exact h
    · exact growBy_le need n _ (by omega)

theorem nextslicecap_le {need old : Nat} (h : old < need) : Builtin.nextslicecap need old ≤ 2 * need := by
  unfold Builtin.nextslicecap
  split
  · omega
  · split
    · omega
    · have := growBy_le need 4 old (by omega)
      omega

/-- The cells of a slice from its begin on. -/
theorem firstCells_sound {μ : Mu} {h : AH} {w : World} (S : Sim P O μ h w) {r : Option Ref} {n m size : Nat} {c : Cap} {u : Value} (hv : VRel μ (.slice r n c) u) (hm : m ≤ n) {cs : List AV}
    (hg : h.getsO r (m * size) = some cs) :
    ∃ us : List Value, us.length = m * size ∧ (Builtin.firstCells size m u).run P w = .ok us.toArray w ∧ VRels μ cs us ∧ cs.all AV.one = true := by
  cases r with
  | none =>
    simp only [VRel] at hv
    obtain ⟨rfl, _, rfl⟩ := hv
    simp [AH.getsO] at hg
    subst hg
    have : m = 0 := by omega
    subst this
    exact ⟨[], by simp, by simp [Builtin.firstCells], VRels.nil, rfl⟩
  | some r =>
    simp only [VRel] at hv
    obtain ⟨a, c', rfl, hcr, hcap⟩ := hv
    have hle : n ≤ c' := by cases c <;> exact hcap.1
    simp only [AH.getsO] at hg
    rcases hcr with h0 | hr
    · have : m = 0 := by omega
      subst this
      simp only [Nat.zero_mul, AH.gets, Option.some.injEq] at hg
      subst hg
      exact ⟨[], by simp, by simp [Builtin.firstCells, loadCells, loadCellsFrom], VRels.nil, rfl⟩
    · obtain ⟨us, k1, k2, k3, k4⟩ := gets_sound S _ hr hg
      exact ⟨us, k1, run_firstCells_some w size m a n c' us k1 k2, k3, k4⟩

theorem zeroCells_size (zero : Array Value) (n : Nat) : (Builtin.zeroCells zero n).size = n * zero.size := by simp [Builtin.zeroCells]

theorem Sim.drew {μ : Mu} {h : AH} {w : World} (S : Sim P O μ h w) : Sim P O μ h w.drew :=
  { old := S.old, os := S.os, tape := S.tape, output := S.output, base := S.base, keep := S.keep, dom := S.dom, place := S.place, blk := fun i L b hL hb => (S.blk i L b hL hb).step (Mu.le_refl μ) (fun _ => rfl), inj := S.inj }

theorem appendCap_ge (need old : Nat) (elem : TypeId) (t : Nat) : need ≤ Question.cut (.appendCap need old elem) t := by
  simp [Question.cut]

/-- Growing: a new row. -/
theorem run_append_new {μ : Mu} {ts : Array TypeId} {ty t t' e f : TypeId} {w : World} {base : Option Addr} {n c m size : Nat} {ux : Value} {olds news : List Value}
    (h0 : ts[0]? = some t) (h1 : ts[1]? = some t') (hd : P.underlying t = some (.slice e)) (hd' : P.underlying t' = some (.slice f)) (hs : P.cellsOf e = size)
    (hn : (Builtin.lenOf ux).run P w = .ok m w) (hlt : c < n + m) (hok : growOk P (n + m) e size = true)
    (ho : (Builtin.firstCells size n (.slice base n c)).run P w.drew = .ok olds.toArray w.drew) (hnw : (Builtin.firstCells size m ux).run P w.drew = .ok news.toArray w.drew) :
    ∃ (cap : Nat) (rest : List Value), n + m ≤ cap ∧ rest.length = (cap - (n + m)) * size ∧
      (Builtin.append_ ts ty #[.slice base n c, ux]).run P w = .ok (.slice (some ⟨w.heap.size, 0, none⟩) (n + m) cap) (w.drew.alloc (.cells ((olds ++ news) ++ rest).toArray e)) := by
  unfold growOk at hok
  simp only [Bool.and_eq_true, decide_eq_true_eq] at hok
  obtain ⟨⟨hb1, hb2⟩, hz⟩ := hok
  split at hz
  · rename_i zs hzs
    have hz := Nat.eq_of_beq_eq_true hz
    obtain ⟨z, ti, hti, hz0, hzv, _⟩ := zeroCells_info (μ := μ) hzs
    have hzz : z.cells.size = size := by have := hzv.length; simp at this; omega
    have hby : P.bytesOf e = ti.bytes := by simp [Program.bytesOf, hti]
    have hsz : P.cellsOf e = ti.size := by simp [Program.cellsOf, hti]
    have hm : mostBytes = 70368744177664 := rfl
    rw [hm, hby] at hb1
    rw [hm] at hb2
    have hns := nextslicecap_le hlt
    have hcap : ¬ (281474976710656 < Builtin.nextslicecap (n + m) c * ti.bytes) := by
      have : Builtin.nextslicecap (n + m) c * ti.bytes ≤ 2 * (n + m) * ti.bytes := Nat.mul_le_mul_right _ hns
      rw [Nat.mul_assoc] at this
      omega
    have hmax : ¬ ((n : Int) + (m : Int) > IntKind.i64.max) := by
      have : IntKind.i64.max = 9223372036854775807 := rfl
      rw [this]; omega
    refine ⟨Question.cut (.appendCap (n + m) c e) (w.tape w.drawn (.appendCap (n + m) c e)), (Builtin.zeroCells z.cells (Question.cut (.appendCap (n + m) c e) (w.tape w.drawn (.appendCap (n + m) c e)) - (n + m))).toList, appendCap_ge _ _ _ _, by simp [zeroCells_size, hzz], ?_⟩
    have hroom : ¬ (n + m ≤ c) := by omega
    have hforced : (Question.appendCap (n + m) c e).forced = false := rfl
    rw [← hs, hsz] at ho hnw
    have hroom' : c < n + m := hlt
    simp [Builtin.append_, h0, h1, run_underlying hd, run_underlying hd', sizeOf, typeInfo, hti, hn, hroom', hroom, hmax, hcap, ho, hnw, zeroValue, hz0, newRow, hforced]
    rw [if_neg (by omega)]
    congr 3
    apply Array.ext'
    simp
  · cases hz


theorem kill_sound {μ : Mu} {h : AH} {w : World} (S : Sim P O μ h w) (i o : Nat) : Sim P O μ (h.kill (some (.new i o))) w ∧ Ext μ h w μ (h.kill (some (.new i o))) := by
  have hlive : ∀ j, Live (h.kill (some (.new i o))) j → Live h j ∧ (j = i → h.blks.size ≤ i) := fun j hj => by
    by_cases hji : i = j
    · subst hji
      rcases Nat.lt_or_ge i h.blks.size with hlt | hge
      · exact absurd rfl (hj .dead (by simp [AH.kill, hlt]))
      · exact ⟨fun b hb => by simp [Array.getElem?_eq_none hge] at hb, fun _ => hge⟩
    · exact ⟨fun b hb => hj b (by simp only [AH.kill]; rw [Array.getElem?_setIfInBounds_ne hji]; exact hb), fun e => absurd e.symm hji⟩
  refine ⟨{ old := S.old, os := S.os, tape := S.tape, output := S.output, base := S.base, keep := S.keep, dom := fun j L hL => by simpa [AH.kill] using S.dom j L hL, place := S.place, blk := fun j L b hL hb => ?_, inj := fun j k L M hL hM lj lk he => S.inj j k L M hL hM (hlive j lj).1 (hlive k lk).1 he }, ?_⟩
  · by_cases hji : i = j
    · subst hji
      have := S.dom i L hL
      simp [AH.kill, this] at hb
      subst hb
      trivial
    · simp only [AH.kill] at hb
      rw [Array.getElem?_setIfInBounds_ne hji] at hb
      exact S.blk j L b hL hb
  · exact ⟨by simp [AH.kill], Mu.le_refl μ, fun _ _ => rfl, fun j _ hj => (hlive j hj).1, fun j M h1 h2 => by simp [AH.kill] at h2; omega⟩

/-- A killed block's row goes on under a new number. -/
theorem move_sound {μ : Mu} {h : AH} {w w' : World} (S : Sim P O μ h w) {i o : Nat} {L : Loc} (hL : μ i = some L) {bs : List AV} {e : TypeId} (hb : h.blks[i]? = some (.cells bs e)) {c' : Array Value} {cs : List AV}
    (hnew : w'.heap[L.block]? = some (.cells c' e (0, 0))) (hsz : c'.size = L.base + L.total) (ho : o ≤ L.total) (hle : cs.length ≤ L.total - o) (hcs : ∀ (j : Nat) (v : AV), cs[j]? = some v → ∃ u, c'[L.base + o + j]? = some u ∧ VRel μ v u) (h1 : cs.all AV.one = true)
    (hoth : ∀ b, b ≠ L.block → w'.heap[b]? = w.heap[b]?) (hsize : w'.heap.size = w.heap.size) (hos : w'.os = w.os) (htape : w'.tape = w.tape) (hout : w'.output = w.output) :
    Sim P O (Mu.set μ h.blks.size ⟨L.block, L.base + o, L.total - o⟩) ((h.kill (some (.new i o))).alloc (.cells cs e)) w' ∧
    Ext μ h w (Mu.set μ h.blks.size ⟨L.block, L.base + o, L.total - o⟩) ((h.kill (some (.new i o))).alloc (.cells cs e)) ∧ Frm μ h w w' := by
  have hi : i < h.blks.size := S.dom i L hL
  have hf : μ h.blks.size = none := by
    cases hq : μ h.blks.size with
    | none => rfl
    | some L => have := S.dom _ _ hq; omega
  have hmle := Mu.le_set (L := ⟨L.block, L.base + o, L.total - o⟩) hf
  have hks : (h.kill (some (.new i o))).blks.size = h.blks.size := by simp [AH.kill]
  have hpl := S.place i L hL
  have hget : ∀ j b, ((h.kill (some (.new i o))).alloc (.cells cs e)).blks[j]? = some b → (j = h.blks.size ∧ b = .cells cs e) ∨ (j ≠ h.blks.size ∧ j = i ∧ b = .dead) ∨ (j ≠ h.blks.size ∧ j ≠ i ∧ h.blks[j]? = some b) := fun j b hjb => by
    simp only [Array.getElem?_push, hks] at hjb
    by_cases hj : j = h.blks.size
    · simp [hj] at hjb
      exact .inl ⟨hj, hjb.symm⟩
    · rw [if_neg hj] at hjb
      by_cases hji : i = j
      · subst hji
        simp [AH.kill, hi] at hjb
        exact .inr (.inl ⟨hj, rfl, hjb.symm⟩)
      · simp only [AH.kill] at hjb
        rw [Array.getElem?_setIfInBounds_ne hji] at hjb
        exact .inr (.inr ⟨hj, fun e => hji e.symm, hjb⟩)
  have hlive : ∀ j, j ≠ h.blks.size → Live ((h.kill (some (.new i o))).alloc (.cells cs e)) j → Live h j ∧ j ≠ i := fun j hj hl => by
    have hne : j ≠ i := fun he => by
      subst he
      exact absurd rfl (hl .dead (by simp only [Array.getElem?_push, hks, if_neg hj]; simp [AH.kill, hi]))
    refine ⟨fun b hb' => hl b ?_, hne⟩
    simp only [Array.getElem?_push, hks, if_neg hj]
    simp only [AH.kill]
    rw [Array.getElem?_setIfInBounds_ne (fun e => hne e.symm)]
    exact hb'
  refine ⟨{ old := S.old, os := hos.trans S.os, tape := htape.trans S.tape, output := hout.trans S.output, base := by rw [hsize]; exact S.base, keep := fun b hb' => ?_, dom := fun j M hM => ?_, place := fun j M hM => ?_, blk := fun j M b hM hb' => ?_, inj := fun j k M N hM hN lj lk he => ?_ }, ?_, ?_⟩
  · rw [hoth b (by omega)]; exact S.keep b hb'
  · unfold Mu.set at hM
    split at hM
    · subst_vars; simp [hks]
    · have := S.dom j M hM; simp [hks]; omega
  · unfold Mu.set at hM
    split at hM
    · cases hM; rw [hsize]; exact hpl
    · rw [hsize]; exact S.place j M hM
  · rcases hget j b hb' with ⟨hj, rfl⟩ | ⟨hj, _, rfl⟩ | ⟨hj, hji, hb2⟩
    · subst hj
      rw [set_self] at hM
      cases hM
      exact ⟨⟨c', hnew, by rw [hsz]; simp only []; omega, hle, fun k v hk => let ⟨u, a, b⟩ := hcs k v hk; ⟨u, a, b.mono hmle⟩⟩, h1⟩
    · trivial
    · unfold Mu.set at hM
      rw [if_neg hj] at hM
      refine (S.blk j M b hM hb2).step hmle fun hd => hoth _ fun he => hji (S.inj j i M L hM hL (fun b' hb3 => by rw [hb2] at hb3; cases hb3; exact hd) (live_cells hb) he)
  · unfold Mu.set at hM hN
    split at hM <;> split at hN
    · omega
    · rename_i hj hk
      cases hM
      exact absurd (S.inj i k L N hL hN (live_cells hb) (hlive k hk lk).1 he) (fun e => (hlive k hk lk).2 e.symm)
    · rename_i hj hk
      cases hN
      exact absurd (S.inj j i M L hM hL (hlive j hj lj).1 (live_cells hb) he) (hlive j hj lj).2
    · rename_i hj hk
      exact S.inj j k M N hM hN (hlive j hj lj).1 (hlive k hk lk).1 he
  · refine ⟨by simp [hks], hmle, fun j hj => by unfold Mu.set; rw [if_neg (by omega)], fun j hj hl => (hlive j (by omega) hl).1, fun j M h2 h3 hM => .inr ⟨i, L, hi, live_cells hb, hL, ?_⟩⟩
    simp [hks] at h3
    have : j = h.blks.size := by omega
    subst this
    rw [set_self] at hM
    cases hM
    rfl
  · exact ⟨by omega, fun b _ hn => hoth b fun he => hn i L hi (live_cells hb) hL he.symm⟩


theorem gets_len {h : AH} : ∀ {n : Nat} {r : Ref} {vs : List AV}, h.gets r n = some vs → vs.length = n
  | 0, r, vs, hv => by simp only [AH.gets, Option.some.injEq] at hv; subst hv; rfl
  | n + 1, r, vs, hv => by
    simp only [AH.gets, Option.bind_eq_some_iff, Option.map_eq_some_iff] at hv
    obtain ⟨v, h1, ws, h2, rfl⟩ := hv
    simp [gets_len h2]

theorem VRel.slice_open {μ : Mu} {r : Option Ref} {n : Nat} {c : Cap} {u : Value} (h : VRel μ (.slice r n c) u) : ∃ base cap, u = .slice base n cap ∧ n ≤ cap := by
  cases r with
  | none => simp only [VRel] at h; obtain ⟨rfl, _, rfl⟩ := h; exact ⟨none, 0, rfl, Nat.le_refl _⟩
  | some r => simp only [VRel] at h; obtain ⟨a, k, rfl, _, hc⟩ := h; exact ⟨some a, k, rfl, by cases c <;> exact hc.1⟩

/-- The new row of an append, known to be the call's own. -/
theorem grown_good {μ : Mu} {h : AH} {w : World} (S : Sim P O μ h w) {olds cs : List AV} {uo us rest : List Value} (ho : VRels μ olds uo) (h1 : olds.all AV.one = true) (hn : VRels μ cs us) (h2 : cs.all AV.one = true) (e : TypeId) {need cap size : Nat}
    (hle : need ≤ cap) (hrest : rest.length = (cap - need) * size) (hl : uo.length + us.length = need * size) :
    Good P O μ h w (.slice (some h.next) need (.opn size)) (h.alloc (.cells (olds ++ cs) e)) (.slice (some ⟨w.heap.size, 0, none⟩) need cap) (w.drew.alloc (.cells ((uo ++ us) ++ rest).toArray e)) := by
  obtain ⟨g1, g2, g3⟩ := alloc_sound (rest := rest) S.drew (ho.append hn) (by rw [List.all_append, h1, h2]; rfl) e
  refine ⟨_, ?_, g1, g2, g3⟩
  simp only [VRel]
  refine ⟨_, cap, rfl, .inr (RRel.new 0), hle, _, 0, _, rfl, set_self _ _ _, ?_⟩
  have : (cap - need) * size + need * size = cap * size := by rw [← Nat.add_mul]; congr 1; omega
  simp
  omega

theorem append_sound {μ : Mu} {h : AH} {w : World} (S : Sim P O μ h w) {ts : Array TypeId} {ty t t' e f : TypeId} (h0 : ts[0]? = some t) (h1 : ts[1]? = some t') (hd : P.underlying t = some (.slice e)) (hd' : P.underlying t' = some (.slice f))
    (hie : (P.info? e).isSome = true) {r : Option Ref} {n : Nat} {c : Cap} {x : AV} {u ux : Value} (hu : VRel μ (.slice r n c) u) (hx : VRel μ x ux) {p : List AV × Nat} (hp : appendArgs P e x h = some p)
    {v : AV} {h' : AH} (ha : appendH P ⟨r, n, c⟩ p.1 p.2 e (P.cellsOf e) h = some (v, h')) : Yields P (Builtin.append_ ts ty #[u, ux]) w (Good P O μ h w v h') := by
  obtain ⟨ie, hi⟩ := Option.isSome_iff_exists.1 hie
  have hs : (sizeOf e).run P w = .ok (P.cellsOf e) w := by simp [sizeOf, typeInfo, hi, Program.cellsOf]
  unfold appendArgs at hp
  split at hp
  · rename_i r2 m c2
    simp only [Option.map_eq_some_iff] at hp
    obtain ⟨cs, hg, rfl⟩ := hp
    have hlen : (Builtin.lenOf ux).run P w = .ok m w := by
      obtain ⟨_, _, rfl, _⟩ := hx.slice_open; rfl
    obtain ⟨news, n1, n2, n3, n4⟩ := firstCells_sound S hx (Nat.le_refl _) hg
    obtain ⟨newd, d1, d2, d3, d4⟩ := firstCells_sound S.drew hx (Nat.le_refl _) hg
    obtain ⟨base, cap, rfl, hle⟩ := hu.slice_open
    -- a new row
    have grow : ∀ {h2 : AH}, Sim P O μ h2 w → cap < n + m → growOk P (n + m) e (P.cellsOf e) = true → ∀ {old : List AV}, h.getsO r (n * P.cellsOf e) = some old →
        Yields P (Builtin.append_ ts ty #[.slice base n cap, ux]) w (Good P O μ h2 w (.slice (some h2.next) (n + m) (.opn (P.cellsOf e))) (h2.alloc (.cells (old ++ cs) e))) := by
      intro h2 S2 hlt hok old hold
      obtain ⟨olds, o1, o2, o3, o4⟩ := firstCells_sound S.drew hu (Nat.le_refl _) hold
      obtain ⟨ncap, rest, k1, k2, k3⟩ := run_append_new (μ := μ) (ty := ty) h0 h1 hd hd' rfl hlen hlt hok o2 d2
      exact ⟨_, _, k3, grown_good S2 o3 o4 d3 d4 e k1 k2 (by rw [o1, d1, Nat.add_mul])⟩
    unfold appendH at ha
    dsimp only at ha
    split at ha
    · rename_i c'
      rcases cond_some ha with ⟨hb, ha⟩ | ⟨hb, ha⟩
      · -- there is room
        have hb := Nat.le_of_ble_eq_true hb
        cases r with
        | none =>
          simp only [Option.some.injEq, Prod.mk.injEq] at ha
          obtain ⟨rfl, rfl⟩ := ha
          simp only [VRel] at hu
          obtain ⟨rfl, h2, h3⟩ := hu
          cases h2
          cases h3
          have : m = 0 := by omega
          subst this
          refine ⟨_, _, ?_, Good.pure S (u := .slice none 0 0) (by simp [VRel])⟩
          simp [Builtin.append_, h0, h1, run_underlying hd, run_underlying hd', hs, hlen, n2]
        | some r =>
          simp only [Option.bind_eq_some_iff, Option.some.injEq, Prod.mk.injEq] at ha
          obtain ⟨h2, hp2, rfl, rfl⟩ := ha
          simp only [VRel] at hu
          obtain ⟨a, k, he, hcr, hnk, rfl⟩ := hu
          cases he
          rcases hcr with h00 | hrr
          · have hm0 : m = 0 := by omega
            have hn0 : n = 0 := by omega
            subst hm0; subst hn0; subst h00
            have hnil : news = [] := List.eq_nil_of_length_eq_zero (by omega)
            subst hnil
            have hcs : cs = [] := by
              have := n3.length
              exact List.eq_nil_of_length_eq_zero this.symm
            subst hcs
            simp only [AH.puts, Option.some.injEq] at hp2
            subst hp2
            refine ⟨.slice (some a) 0 0, w, ?_, Good.pure S (by simp only [VRel]; exact ⟨a, 0, rfl, .inl rfl, Nat.le_refl _, rfl⟩)⟩
            simp [Builtin.append_, h0, h1, run_underlying hd, run_underlying hd', hs, hlen, n2, storeCells]
          · obtain ⟨w', e1, e2, e3, e4⟩ := puts_sound (i := 0) (a := a.add (n * P.cellsOf e)) S (by rw [show (a.add (n * P.cellsOf e)).add 0 = a.add (n * P.cellsOf e) from by simp [Addr.add]]; exact hrr.add (n * P.cellsOf e)) n3 n4 hp2
            refine ⟨.slice (some a) (n + m) cap, w', ?_, μ, by simp only [VRel]; exact ⟨a, cap, rfl, .inr hrr, hb, rfl⟩, e2, e3, e4⟩
            simp [Builtin.append_, h0, h1, run_underlying hd, run_underlying hd', hs, hlen, n2, hb, e1]
      · obtain ⟨hok, ha⟩ := cond_none ha
        simp only [Option.bind_eq_some_iff, Option.some.injEq, Prod.mk.injEq] at ha
        obtain ⟨old, hold, rfl, rfl⟩ := ha
        have hlt : cap < n + m := by
          have hcap : cap = c' := by
            cases r with
            | none => simp only [VRel] at hu; obtain ⟨_, h2, h3⟩ := hu; cases h2; cases h3; rfl
            | some r => simp only [VRel] at hu; obtain ⟨a, k, he, _, _, hk⟩ := hu; cases he; exact hk
          subst hcap
          rcases Nat.lt_or_ge cap (n + m) with h' | h'
          · exact h'
          · rw [Nat.ble_eq_true_of_le h'] at hb; cases hb
        exact grow S hlt hok hold
    · rename_i sz
      rcases cond_some ha with ⟨hb, ha1⟩ | ⟨hb, ha1⟩
      · have hm0 := Nat.eq_of_beq_eq_true hb
        subst hm0
        simp only [Option.some.injEq, Prod.mk.injEq] at ha1
        obtain ⟨rfl, rfl⟩ := ha1
        have hnil : news = [] := List.eq_nil_of_length_eq_zero (by omega)
        subst hnil
        refine ⟨.slice base n cap, w, ?_, Good.pure S hu⟩
        cases base <;> simp [Builtin.append_, h0, h1, run_underlying hd, run_underlying hd', hs, hlen, n2, storeCells, hle]
      · obtain ⟨hok1, ha2⟩ := cond_none ha1
        simp only [Bool.and_eq_true] at hok1
        obtain ⟨hsz, hok⟩ := hok1
        have hsz := Nat.eq_of_beq_eq_true hsz
        clear ha ha1
        subst hsz
        split at ha2
        · rename_i i o
          split at ha2
          · rename_i bs e' hbs
            obtain ⟨hee, ha3⟩ := cond_none ha2
            have hee' := Nat.eq_of_beq_eq_true hee
            clear ha2 hee
            subst hee'
            simp only [Option.bind_eq_some_iff, Option.some.injEq, Prod.mk.injEq] at ha3
            obtain ⟨old, hold, rfl, rfl⟩ := ha3
            obtain ⟨S2, E2⟩ := kill_sound S i o
            have hks : (h.kill (some (.new i o))).blks.size = h.blks.size := by simp [AH.kill]
            have hnext : (h.kill (some (.new i o))).next = h.next := by simp [AH.next, hks]
            rcases Nat.lt_or_ge cap (n + m) with hlt | hge
            · obtain ⟨u', w', g1, ν, g2, g3, g4, g5⟩ := grow S2 hlt hok hold
              rw [hnext] at g2
              refine ⟨u', w', g1, ν, g2, g3, E2.trans g4 (Nat.le_refl _), ?_⟩
              exact ⟨g5.1, fun b hb' hn => g5.2 b hb' fun j M hj hl hM => hn j M (by rw [hks] at hj; exact hj) (E2.2.2.2.1 j (by rw [hks] at hj; exact hj) hl) hM⟩
            · -- in place
              simp only [VRel] at hu
              obtain ⟨a, k, he, hcr, hnk, i', o', L, hr', hL, hfit⟩ := hu
              cases he
              cases hr'
              simp only [AH.getsO] at hold
              have hmn : 0 < n + m := by
                rcases Nat.eq_zero_or_pos m with h' | h'
                · subst h'; simp at hb
                · omega
              rcases hcr with h00 | hrr
              · omega
              · obtain ⟨L', hL', rfl⟩ := hrr
                rw [hL] at hL'
                cases hL'
                obtain ⟨olds, o1, o2, o3, o4⟩ := gets_sound S _ (r := .new i o) ⟨L, hL, rfl⟩ hold
                obtain ⟨⟨cc, c1, c2, c3, c4⟩, c5⟩ := S.blk i L _ hL hbs
                have hmul : (n + m) * P.cellsOf e' ≤ cap * P.cellsOf e' := Nat.mul_le_mul_right _ hge
                rw [Nat.add_mul] at hmul
                have hst := run_storeCells_at P L.block (L.base + o + n * P.cellsOf e') e' news 0 cc w c1 (by omega) (fun v hv => by
                  obtain ⟨j, hj⟩ := List.mem_iff_getElem?.1 hv
                  have hjl : j < cs.length := by
                    have := n3.length
                    rcases Nat.lt_or_ge j cs.length with h' | h'
                    · exact h'
                    · rw [List.getElem?_eq_none (by omega)] at hj; cases hj
                  obtain ⟨u, hu, hvu⟩ := n3.get j cs[j] (by simp [hjl])
                  rw [hj] at hu
                  cases hu
                  exact hvu.one (List.all_eq_true.1 n4 _ (by simp)))
                have hlold : old.length = n * P.cellsOf e' := gets_len hold
                have hlcs : cs.length = m * P.cellsOf e' := by have := n3.length; omega
                simp only [Nat.add_zero] at hst
                obtain ⟨g1, g2, g3⟩ := move_sound (o := o) (w' := w.setRow L.block (cc.toList.take (L.base + o + n * P.cellsOf e') ++ news ++ cc.toList.drop (L.base + o + n * P.cellsOf e' + news.length)).toArray) S hL hbs
                  (cs := old ++ cs) (setRow_heap w _ cc _ e' (0, 0) c1) (by simp; omega) (by omega) (by simp; omega) (fun j v hj => by
                    rcases Nat.lt_or_ge j old.length with hjl | hjl
                    · rw [List.getElem?_append_left hjl] at hj
                      obtain ⟨u, hu, hvu⟩ := o3.get j v hj
                      have hcell := o2 j u hu
                      rw [addr_add] at hcell
                      simp only [World.cell?, c1] at hcell
                      refine ⟨u, ?_, hvu⟩
                      simp only [List.getElem?_toArray]
                      rw [List.append_assoc, List.getElem?_append_left (by simp; omega), List.getElem?_take]
                      rw [if_pos (by omega)]
                      simpa using hcell
                    · rw [List.getElem?_append_right hjl] at hj
                      obtain ⟨u, hu, hvu⟩ := n3.get _ v hj
                      refine ⟨u, ?_, hvu⟩
                      simp only [List.getElem?_toArray]
                      have hlt : j - old.length < news.length := by
                        rcases Nat.lt_or_ge (j - old.length) news.length with h' | h'
                        · exact h'
                        · rw [List.getElem?_eq_none h'] at hu; cases hu
                      rw [List.append_assoc, List.getElem?_append_right (by simp; omega), List.getElem?_append_left (by simp; omega)]
                      rw [← hu]
                      congr 1
                      simp
                      omega) (by rw [List.all_append, o4, n4]; rfl) (fun b hb' => setRow_other w _ b _ hb') (by simp) rfl rfl rfl
                refine ⟨.slice (some ⟨L.block, L.base + o, none⟩) (n + m) cap, _, ?_, _, ?_, g1, g2, g3⟩
                · have hadd : (⟨L.block, L.base + o, none⟩ : Addr).add (n * P.cellsOf e') = ⟨L.block, L.base + o + n * P.cellsOf e', none⟩ := addr_add _ _ _
                  simp [Builtin.append_, h0, h1, run_underlying hd, run_underlying hd', hs, hlen, n2, hge, hadd, hst]
                · simp only [VRel]
                  refine ⟨_, cap, rfl, .inr (RRel.new (L := ⟨L.block, L.base + o, L.total - o⟩) 0), hge, _, 0, _, rfl, set_self _ _ _, ?_⟩
                  simp only []
                  omega
          · cases ha2
        · cases ha2
  · cases hp

end Go.Ab

/- The abstract operations against the machine's: calls. -/
set_option linter.unusedVariables false
set_option linter.unusedSimpArgs false
namespace Go.Ab

variable {P : Program} {O : World} {R : Type}

theorem lenK_sound {μ : Mu} {t : TypeId} {x : AV} {k : AV → Option R} {r : R} (h : lenK P t x k = some r) {u : Value} (hx : VRel μ x u) {ts : Array TypeId} (h0 : ts[0]? = some t) (ty : TypeId) (w : World) :
    ∃ z a, k z = some r ∧ VRel μ z a ∧ (Builtin.len_ ts ty #[u]).run P w = .ok a w := by
  unfold lenK at h
  split at h
  · rename_i s hd
    simp only [VRel] at hx; subst hx
    exact ⟨_, .int .i64 s.size, h, by simp [VRel], by simp [Builtin.len_, h0, run_underlying hd, goInt]⟩
  · rename_i n e hd
    exact ⟨_, .int .i64 n, h, by simp [VRel], by simp [Builtin.len_, h0, run_underlying hd, goInt]⟩
  · rename_i e r n c hd
    obtain ⟨a, cap, rfl, _⟩ := hx.slice_open
    exact ⟨_, .int .i64 n, h, by simp [VRel], by simp [Builtin.len_, h0, run_underlying hd, goInt]⟩
  · cases h

theorem copy_sound {μ : Mu} {h : AH} {w : World} (S : Sim P O μ h w) {ts : Array TypeId} {ty t e : TypeId} (h0 : ts[0]? = some t) (hd : P.underlying t = some (.slice e)) (hie : (P.info? e).isSome = true)
    {r r' : Option Ref} {n n' : Nat} {c c' : Cap} {u u' : Value} (hu : VRel μ (.slice r n c) u) (hu' : VRel μ (.slice r' n' c') u') {h' : AH} (hc : copyH ⟨r', n', c'⟩ ⟨r, n, c⟩ (P.cellsOf e) h = some h') :
    Yields P (Builtin.copy_ ts ty #[u, u']) w (Good P O μ h w (.int .i64 ((min n' n : Nat) : Int)) h') := by
  obtain ⟨ie, hi⟩ := Option.isSome_iff_exists.1 hie
  have hs : (sizeOf e).run P w = .ok (P.cellsOf e) w := by simp [sizeOf, typeInfo, hi, Program.cellsOf]
  have hlen : (Builtin.lenOf u').run P w = .ok n' w := by
    obtain ⟨_, _, rfl, _⟩ := hu'.slice_open; rfl
  unfold copyH at hc
  have hmin : min n' n = Nat.min n' n := rfl
  split at hc
  · rename_i rd rs hrd hrs
    dsimp only at hrd hrs hc
    subst hrd; subst hrs
    simp only [Option.bind_eq_some_iff] at hc
    obtain ⟨cs, hg, hp⟩ := hc
    obtain ⟨us, k1, k2, k3, k4⟩ := firstCells_sound S hu' (m := min n' n) (Nat.min_le_left _ _) (by simpa [AH.getsO] using hg)
    simp only [VRel] at hu
    obtain ⟨a, cap, rfl, hcr, hcap⟩ := hu
    have hle : n ≤ cap := by cases c <;> exact hcap.1
    rw [hmin] at k2
    rcases hcr with h00 | hrr
    · have hn : n = 0 := by omega
      subst hn
      have hnil : us = [] := List.eq_nil_of_length_eq_zero (by simpa using k1)
      subst hnil
      have hcs : cs = [] := List.eq_nil_of_length_eq_zero k3.length.symm
      subst hcs
      simp only [AH.puts, Option.some.injEq] at hp
      subst hp
      refine ⟨.int .i64 ((min n' 0 : Nat) : Int), w, ?_, Good.pure S (by simp [VRel])⟩
      simp [Builtin.copy_, h0, run_underlying hd, hlen, hs, ← hmin] at k2 ⊢
      simp [k2, storeCells, goInt]
    · obtain ⟨w', e1, e2, e3, e4⟩ := puts_sound (i := 0) (a := a) S (by rw [show a.add 0 = a from by simp [Addr.add]]; exact hrr) k3 k4 hp
      refine ⟨.int .i64 ((min n' n : Nat) : Int), w', ?_, μ, by simp [VRel], e2, e3, e4⟩
      simp [Builtin.copy_, h0, run_underlying hd, hlen, hs, k2, e1, goInt, hmin]
  · rename_i hno
    simp only [Option.some.injEq] at hc
    subst hc
    have hz : min n' n = 0 ∨ False := by
      cases r with
      | none => simp only [VRel] at hu; left; rw [hu.1]; simp
      | some r => cases r' with
        | none => simp only [VRel] at hu'; left; rw [hu'.1]; simp
        | some r' => exact absurd rfl (hno r r' rfl)
    have hz : min n' n = 0 := by simpa using hz
    obtain ⟨us, k1, k2, k3, k4⟩ := firstCells_sound (size := P.cellsOf e) S hu' (m := 0) (Nat.zero_le _) (by cases r' <;> simp [AH.getsO, AH.gets] <;> rfl)
    have hnil : us = [] := List.eq_nil_of_length_eq_zero (by simpa using k1)
    subst hnil
    have hz' : Nat.min n' n = 0 := hz
    refine ⟨.int .i64 ((min n' n : Nat) : Int), w, ?_, Good.pure S (by simp [VRel])⟩
    obtain ⟨base, cap, rfl, _⟩ := hu.slice_open
    cases base <;> simp [Builtin.copy_, h0, run_underlying hd, hlen, hs, hz', k2, storeCells, goInt, hz]

theorem execOp_call (ρ : Operand → Value) (o : Oper) (c : Call) (ho : o.op = .call c) : execOp ρ o = (do let d ← resolve ρ c o.type; invoke d.target d.args) := by
  unfold execOp; rw [ho]

theorem leafK_slice {v : AV} {k : AV → Option R} {r : R} (h : leafK .slice (some v) k = some r) : k v = some r := by
  obtain ⟨x, hx, hk⟩ := leafK_some h
  cases hx
  exact hk

theorem args1 {c : Call} {ρ : Operand → Value} {us : List Value} (h : c.args.toList.map ρ = us) : c.args.map ρ = us.toArray := by
  apply Array.ext'
  simpa using h

/-- A built-in call. -/
theorem builtinK_sound {μ : Mu} {h : AH} {w : World} (S : Sim P O μ h w) {b : Builtin} {ts : Array TypeId} {xs : List AV} {us : List Value} (hx : VRels μ xs us) {k : AV → AH → Option R} {r : R} (hk : builtinK P b ts.toList xs h k = some r) (ty : TypeId) (consts : Array Bool) :
    ∃ v h1, k v h1 = some r ∧ ∃ u w', (builtin b ts ty consts us.toArray).run P w = .ok (.value u) w' ∧ Good P O μ h w v h1 u w' := by
  unfold builtinK at hk
  split at hk
  · rename_i t ts' x hts
    obtain ⟨u, us', rfl, hu, hus⟩ := hx.cons_inv
    have := hus.nil_inv; subst this
    have h0 : ts[0]? = some t := by have := congrArg (·[0]?) hts; simpa using this
    obtain ⟨z, a, hk2, hz, hr⟩ := lenK_sound hk hu h0 ty w
    exact ⟨z, h, hk2, a, w, by simp [builtin, hr], Good.pure S hz⟩
  · rename_i kd a kd' b
    obtain ⟨u, us', rfl, hu, hus⟩ := hx.cons_inv
    obtain ⟨u2, us2, rfl, hu2, hus2⟩ := hus.cons_inv
    have := hus2.nil_inv; subst this
    simp only [VRel] at hu hu2
    subst hu; subst hu2
    refine ⟨_, h, hk, .int kd (imin a b), w, ?_, Good.pure S (by simp [VRel])⟩
    simp only [builtin, Builtin.min_, List.foldlM_cons, List.foldlM_nil, Builtin.min2, imin]
    by_cases hba : b < a <;> simp [hba]
  · rename_i kd a kd' b
    obtain ⟨u, us', rfl, hu, hus⟩ := hx.cons_inv
    obtain ⟨u2, us2, rfl, hu2, hus2⟩ := hus.cons_inv
    have := hus2.nil_inv; subst this
    simp only [VRel] at hu hu2
    subst hu; subst hu2
    refine ⟨_, h, hk, .int kd (imax a b), w, ?_, Good.pure S (by simp [VRel])⟩
    simp only [builtin, Builtin.max_, List.foldlM_cons, List.foldlM_nil, Builtin.max2, imax]
    by_cases hba : a < b <;> simp [hba]
  · rename_i t u' ts' q n c x hts
    obtain ⟨u, us', rfl, hu, hus⟩ := hx.cons_inv
    obtain ⟨u2, us2, rfl, hu2, hus2⟩ := hus.cons_inv
    have := hus2.nil_inv; subst this
    have h0 : ts[0]? = some t := by have := congrArg (·[0]?) hts; simpa using this
    have h1 : ts[1]? = some u' := by have := congrArg (·[1]?) hts; simpa using this
    split at hk
    · rename_i e f hd hd'
      obtain ⟨hie, hk2⟩ := cond_none hk
      simp only [Option.bind_eq_some_iff] at hk2
      obtain ⟨p, hp, q, hq, hk3⟩ := hk2
      obtain ⟨u3, w', hr, g⟩ := append_sound (ty := ty) S h0 h1 hd hd' hie hu hu2 hp hq
      exact ⟨q.1, q.2, leafK_slice hk3, u3, w', by simp [builtin, hr], g⟩
    · cases hk
  · rename_i t ts' q n c q' n' c' hts
    obtain ⟨u, us', rfl, hu, hus⟩ := hx.cons_inv
    obtain ⟨u2, us2, rfl, hu2, hus2⟩ := hus.cons_inv
    have := hus2.nil_inv; subst this
    have h0 : ts[0]? = some t := by have := congrArg (·[0]?) hts; simpa using this
    split at hk
    · rename_i e hd
      obtain ⟨hie, hk2⟩ := cond_none hk
      simp only [Option.bind_eq_some_iff] at hk2
      obtain ⟨h', hc, hk3⟩ := hk2
      obtain ⟨u3, w', hr, g⟩ := copy_sound (ty := ty) S h0 hd hie hu hu2 hc
      exact ⟨_, h', hk3, u3, w', by simp [builtin, hr], g⟩
    · cases hk
  · cases hk


/-! ### the functions without a text -/
theorem next_none : (Extern.allNextRows.lookup "math/bits.Add64").isSome = false ∧ (Extern.allNextRows.lookup "math/bits.Sub64").isSome = false ∧ (Extern.allNextRows.lookup "").isSome = false := by
  refine ⟨by kernel_rfl, by kernel_rfl, by kernel_rfl⟩
theorem generic_none : (Extern.allGenericRows.lookup "math/bits.Add64").isSome = false ∧ (Extern.allGenericRows.lookup "math/bits.Sub64").isSome = false := by
  refine ⟨by kernel_rfl, by kernel_rfl⟩
theorem typed_none : (Extern.allTypedRows.lookup "math/bits.Add64").isSome = false ∧ (Extern.allTypedRows.lookup "math/bits.Sub64").isSome = false := by
  refine ⟨by kernel_rfl, by kernel_rfl⟩
def addSem (args : Array Value) : Sem Value := do
  let (x, y, c) ← Extern.MathBitsCarry.three "Add64" args
  pure (Extern.MathBitsCarry.pair ((x + y + c) % Extern.MathBitsCarry.m64) ((x + y + c) / Extern.MathBitsCarry.m64))
def subSem (args : Array Value) : Sem Value := do
  let (x, y, b) ← Extern.MathBitsCarry.three "Sub64" args
  pure (Extern.MathBitsCarry.pair ((x + Extern.MathBitsCarry.m64 - y - b) % Extern.MathBitsCarry.m64) (if x < y + b then 1 else 0))
theorem add_row : Extern.allRows.lookup "math/bits.Add64" = some addSem := by kernel_rfl
theorem sub_row : Extern.allRows.lookup "math/bits.Sub64" = some subSem := by kernel_rfl

theorem three_lit (name : String) (x y c : Value) : Extern.MathBitsCarry.three name #[x, y, c] = (do
    let c := (← asInt c).toNat
    if c > 1 then unsupported (.noEntry ("extern/math/bits." ++ name ++ ": a carry that is neither 0 nor 1"))
    pure ((← asInt x).toNat, (← asInt y).toNat, c)) := rfl

theorem three_run (name : String) (k1 k2 k3 : IntKind) (x y c : Int) (h : ¬ c.toNat > 1) (w : World) : (Extern.MathBitsCarry.three name #[.int k1 x, .int k2 y, .int k3 c]).run P w = .ok (x.toNat, y.toNat, c.toNat) w := by
  rw [three_lit]
  simp only [Sem.run_bind, asInt_int, Result.andThen_ok, Sem.run_ite, if_neg h, Sem.run_pure]

theorem none_of {α : Type} {x : Option α} (h : x.isSome = false) : x = none := by cases x <;> simp at h; rfl

theorem findNext_of {fn : Func} (h1 : Extern.allNextRows.lookup fn.name = none) (h2 : Extern.allNextRows.lookup fn.origin = none) : Extern.findNext fn = none := by
  unfold Extern.findNext
  dsimp only
  rw [h1, h2]
  rfl
theorem find_of {fn : Func} {s : Array Value → Sem Value} (h1 : Extern.allGenericRows.lookup fn.name = none) (h2 : Extern.allTypedRows.lookup fn.name = none) (h3 : Extern.allRows.lookup fn.name = some s) : Extern.find fn = some s := by
  unfold Extern.find
  dsimp only
  rw [h1, h2, h3]
  rfl

theorem prim_sound {μ : Mu} {f : FuncId} {fn : Func} (hf : P.funcs[f]? = some fn) (hname : (fn.name == "runtime.NumGoroutine") = false) (hb : fn.body = none) (ho : fn.origin = "") {xs : List AV} {v : AV} (hp : prim fn.name xs = some v)
    {us : List Value} (hx : VRels μ xs us) (w : World) : ∃ u, (callFunc f us.toArray).run P w = .ok (.value u) w ∧ VRel μ v u := by
  have hname' : fn.name ≠ "runtime.NumGoroutine" := by simpa using hname
  unfold prim at hp
  split at hp
  · rename_i k1 x k2 y k3 c
    obtain ⟨u1, r1, rfl, v1, hx1⟩ := hx.cons_inv
    obtain ⟨u2, r2, rfl, v2, hx2⟩ := hx1.cons_inv
    obtain ⟨u3, r3, rfl, v3, hx3⟩ := hx2.cons_inv
    have := hx3.nil_inv; subst this
    simp only [VRel] at v1 v2 v3
    subst v1; subst v2; subst v3
    have hm : (Extern.MathBitsCarry.m64 : Nat) = 18446744073709551616 := rfl
    rcases cond_some hp with ⟨hn, hp1⟩ | ⟨_, hp1⟩
    · obtain ⟨hd, hp2⟩ := cond_none hp1
      simp only [decide_eq_true_eq] at hd
      simp only [beq_iff_eq] at hn
      cases hp2
      obtain ⟨d1, d2, d3, d4⟩ := hd
      have hnx : Extern.findNext fn = none := findNext_of (by rw [hn]; exact none_of next_none.1) (by rw [ho]; exact none_of next_none.2.2)
      have hfd : Extern.find fn = some addSem := find_of (by rw [hn]; exact none_of generic_none.1) (by rw [hn]; exact none_of typed_none.1) (by rw [hn]; exact add_row)
      have hthree := three_run (P := P) "Add64" k1 k2 k3 x y c (by omega) w
      refine ⟨Extern.MathBitsCarry.pair ((x.toNat + y.toNat + c.toNat) % Extern.MathBitsCarry.m64) ((x.toNat + y.toNat + c.toNat) / Extern.MathBitsCarry.m64), ?_, ?_⟩
      · simp [callFunc, hf, hname', hb, hnx, hfd, addSem, hthree, -String.reduceAppend]
      · simp only [VRel]
        refine ⟨_, rfl, VRels.cons ?_ (VRels.cons ?_ VRels.nil)⟩
        · simp only [VRel, Value.int.injEq, true_and, hm]; simp; omega
        · simp only [VRel, Value.int.injEq, true_and, hm]; simp; omega
    · obtain ⟨hn, hp2⟩ := cond_none hp1
      obtain ⟨hd, hp3⟩ := cond_none hp2
      simp only [decide_eq_true_eq] at hd
      simp only [beq_iff_eq] at hn
      cases hp3
      obtain ⟨d1, d2, d3, d4, d5⟩ := hd
      have hnx : Extern.findNext fn = none := findNext_of (by rw [hn]; exact none_of next_none.2.1) (by rw [ho]; exact none_of next_none.2.2)
      have hfd : Extern.find fn = some subSem := find_of (by rw [hn]; exact none_of generic_none.2) (by rw [hn]; exact none_of typed_none.2) (by rw [hn]; exact sub_row)
      have hthree := three_run (P := P) "Sub64" k1 k2 k3 x y c (by omega) w
      refine ⟨Extern.MathBitsCarry.pair ((x.toNat + Extern.MathBitsCarry.m64 - y.toNat - c.toNat) % Extern.MathBitsCarry.m64) (if x.toNat < y.toNat + c.toNat then 1 else 0), ?_, ?_⟩
      · simp [callFunc, hf, hname', hb, hnx, hfd, subSem, hthree]
      · simp only [VRel]
        refine ⟨_, rfl, VRels.cons ?_ (VRels.cons ?_ VRels.nil)⟩
        · simp only [VRel, Value.int.injEq, true_and, hm]; simp; omega
        · simp only [VRel, Value.int.injEq, true_and]
          by_cases hlt : x < y + c
          · rw [if_pos (by omega)]; simp [hlt]
          · rw [if_neg (by omega)]; simp [hlt]
  · cases hp

end Go.Ab

/- The abstract interpreter against the machine: calls, regions, code. -/
set_option linter.unusedVariables false
set_option linter.unusedSimpArgs false
namespace Go.Ab

variable {P : Program} {O : World} {R : Type}

def Ends (G : Value → World → Prop) : Ending → World → Prop := fun e w' => ∃ u, e = .returned u ∧ G u w'

theorem Good.trans {μ ν : Mu} {h h1 : AH} {w w1 : World} {v : AV} {h' : AH} {u : Value} {w' : World} (e : Ext μ h w ν h1) (f : Frm μ h w w1) (g : Good P O ν h1 w1 v h' u w') : Good P O μ h w v h' u w' := by
  obtain ⟨ξ, g1, g2, g3, g4⟩ := g
  exact ⟨ξ, g1, g2, e.trans g3 f.1, f.trans e g4⟩

/-- The frame goes on to the end of its call. -/
def Fin (P : Program) (b : Frame) (todo : List Item) (a : Act) (w : World) (R : Ending → World → Prop) : Prop :=
  ∀ cs, ∃ e w' fr, R e w' ∧ Comes P (lone (b.at a todo) cs w) (lone fr cs w') e ∧ fr.fn = b.fn ∧ fr.leaving P w' e

theorem Fin.of_steps {b : Frame} {todo todo' : List Item} {a a' : Act} {w w' : World} {R : Ending → World → Prop} (hs : ∀ cs, Steps P (lone (b.at a todo) cs w) (lone (b.at a' todo') cs w')) (h : Fin P b todo' a' w' R) : Fin P b todo a w R := fun cs => by
  obtain ⟨e, w2, fr, h1, h2, h3, h4⟩ := h cs
  exact ⟨e, w2, fr, h1, Comes.of_steps (hs cs) h2, h3, h4⟩

theorem Fin.mono {b : Frame} {todo : List Item} {a : Act} {w : World} {R R' : Ending → World → Prop} (h : Fin P b todo a w R) (hr : ∀ e w', R e w' → R' e w') : Fin P b todo a w R' := fun cs => by
  obtain ⟨e, w2, fr, h1, h2⟩ := h cs
  exact ⟨e, w2, fr, hr _ _ h1, h2⟩

theorem Fin.ret {b : Frame} {todo : List Item} {a : Act} {w : World} {R : Ending → World → Prop} {fn : Func} {v : Value} (hfn : P.funcs[b.fn]? = some fn) (hk : b.kind = .normal) (hd : a.defers = [])
    (hr : (results fn a.tmps).run P w = .ok v w) (hR : R (.returned v) w) (hs : ∀ cs, step P (lone (b.at a todo) cs w) = .next (lone { b.at a todo with mode := .returning } cs w)) : Fin P b todo a w R := fun cs =>
  ⟨.returned v, w, { b.at a todo with mode := .returning }, hR, Steps.one (hs cs), rfl, rfl, hd, hk, fn, hfn, hr⟩

section steps
variable {b : Frame} {a : Act} {k : List Item} {cs : List Frame} {w : World}
theorem step_scope {body : Code} : step P (lone (b.at a (.code (.scope body) :: k)) cs w) = .next (lone (b.at a (.code body :: .inScope body :: k)) cs w) :=
  step_lone_go (by simp [stepG, stepG.exec, Frame.at])
theorem step_inScope {body : Code} : step P (lone (b.at a (.inScope body :: k)) cs w) = .next (lone (b.at a k) cs w) :=
  step_lone_go (by simp [stepG, stepG.exec, Frame.at])
end steps

/-- The interpreter below is right: at calls and at places. -/
structure RecOk (P : Program) (O : World) (rec : Rec) : Prop where
  fn : ∀ {f : FuncId} {xs : List AV} {h : AH} {v : AV} {h' : AH}, rec (.fn f xs) h = some (v, h') → ∀ {μ : Mu} {w : World} {us : List Value}, Sim P O μ h w → VRels μ xs us →
    Calls P f us.toArray w (Ends (Good P O μ h w v h'))
  pt : ∀ {f : FuncId} {todo : List Item} {fr : Fr} {h : AH} {v : AV} {h' : AH}, rec (.pt f todo fr) h = some (v, h') → ∀ {fn : Func}, P.funcs[f]? = some fn → ∀ {μ : Mu} {w : World} {b : Frame} {a : Act}, b.fn = f → b.kind = .normal → a.defers = [] →
    Sim P O μ h w → FRel μ fn.ntmps fr a.tmps → Fin P b todo a w (Ends (Good P O μ h w v h'))

theorem callF_sound {rec : Rec} (hrec : RecOk P O rec) {f : FuncId} {xs : List AV} {h : AH} {v : AV} {h' : AH} (hc : callF P rec f xs h = some (v, h')) {μ : Mu} {w : World} {us : List Value} (S : Sim P O μ h w) (hx : VRels μ xs us) :
    ((callFunc f us.toArray).run P w = .ok (.enter f us.toArray) w ∧ Calls P f us.toArray w (Ends (Good P O μ h w v h'))) ∨ ∃ u, (callFunc f us.toArray).run P w = .ok (.value u) w ∧ Good P O μ h w v h' u w := by
  unfold callF at hc
  split at hc
  · rename_i fn hf
    obtain ⟨hname, hc1⟩ := cond_none' hc
    have hname' : fn.name ≠ "runtime.NumGoroutine" := by simpa using hname
    split at hc1
    · rename_i c hb
      left
      refine ⟨?_, hrec.fn hc1 S hx⟩
      simp [callFunc, hf, hname', hb]
    · rename_i hb
      obtain ⟨ho, hc2⟩ := cond_none hc1
      simp only [beq_iff_eq] at ho
      simp only [Option.map_eq_some_iff, Prod.mk.injEq] at hc2
      obtain ⟨x, hp, rfl, rfl⟩ := hc2
      obtain ⟨u, hu, hvu⟩ := prim_sound hf hname hb ho hp hx w
      exact .inr ⟨u, hu, Good.pure S hvu⟩
  · cases hc

theorem callK_sound {rec : Rec} (hrec : RecOk P O rec) {μ : Mu} {N : Nat} {fr : Fr} {h : AH} {w : World} {o : Oper} {a : Act} (S : Sim P O μ h w) (F : FRel μ N fr a.tmps) {c : Call} (ho : o.op = .call c)
    {k : AV → AH → Option R} {r : R} (hk : callK P rec c o.type fr h k = some r) : OpOk P O μ h w o a k r := by
  unfold callK at hk
  split at hk
  · cases hk
  · rename_i xs hxs
    have hx := evs_sound F hxs
    have hargs : c.args.map a.eval = (c.args.toList.map a.eval).toArray := by apply Array.ext'; simp
    split at hk
    · rename_i b hb
      obtain ⟨v, h1, hk2, u, w', hr, g⟩ := builtinK_sound S hx hk o.type (c.args.map fun | .const _ => true | _ => false)
      refine ⟨v, h1, hk2, OpGoes.of_value ?_ g⟩
      rw [execOp_call _ _ _ ho]
      simp only [resolve, hb, Sem.run_bind, Sem.run_pure, Result.andThen_ok, invoke, hargs]
      exact hr
    · rename_i f hcal
      split at hk
      · rename_i fv hfv
        simp only [Option.bind_eq_some_iff] at hk
        obtain ⟨q, hq, hk2⟩ := hk
        have hk3 := answerK_some hk2
        obtain ⟨v, h1⟩ := q
        refine ⟨v, h1, hk3, ?_⟩
        have hvf := evO_sound F hfv
        unfold callV at hq
        split at hq
        · rename_i g first captured
          simp only [VRel] at hvf
          obtain ⟨g', x, y, he, hg, hxx, hyy⟩ := hvf
          simp only [FnRel] at hg
          subst hg
          have hall : VRels μ (first ++ xs ++ captured) (x.toList ++ c.args.toList.map a.eval ++ y.toList) := (hxx.append hx).append hyy
          have harr : x ++ c.args.map a.eval ++ y = (x.toList ++ c.args.toList.map a.eval ++ y.toList).toArray := by apply Array.ext'; simp
          have hex : (execOp a.eval o).run P w = (callFunc g (x.toList ++ c.args.toList.map a.eval ++ y.toList).toArray).run P w := by
            rw [execOp_call _ _ _ ho, ← harr]
            simp only [resolve, hcal, he, Deferred.ofValue, Sem.run_bind, Sem.run_pure, Result.andThen_ok, invoke]
          rcases callF_sound hrec hq S hall with ⟨h2, h3⟩ | ⟨u, h2, g2⟩
          · exact OpGoes.of_call (by rw [hex]; exact h2) h3
          · exact OpGoes.of_value (by rw [hex]; exact h2) g2
        · cases hq
      · cases hk
    · cases hk

theorem opAny_sound {rec : Rec} (hrec : RecOk P O rec) {μ : Mu} {N : Nat} {fr : Fr} {h : AH} {w : World} {o : Oper} {a : Act} (S : Sim P O μ h w) (F : FRel μ N fr a.tmps)
    {k : AV → AH → Option R} {r : R} (hk : opK P rec o.op o.type fr h k = some r) : OpOk P O μ h w o a k r := by
  by_cases hc : ∃ c, o.op = .call c
  · obtain ⟨c, hc⟩ := hc
    have : callK P rec c o.type fr h k = some r := by rw [hc] at hk; exact hk
    exact callK_sound hrec S F hc this
  · exact op_sound (rec := rec) S F (fun c e => hc ⟨c, e⟩) hk

/-! ### regions -/
def After (P : Program) (O : World) (μ : Mu) (N : Nat) (h : AH) (w : World) (ds : List Deferred) (k : Fr → AH → Option (AV × AH)) (r : AV × AH) : Exit → Act → World → Prop := fun e a w' =>
  e = .normal ∧ a.defers = ds ∧ ∃ fr' h' ν, k fr' h' = some r ∧ Sim P O ν h' w' ∧ FRel ν N fr' a.tmps ∧ Ext μ h w ν h' ∧ Frm μ h w w'

theorem After.trans {μ ν : Mu} {N : Nat} {h h1 : AH} {w w1 : World} {ds : List Deferred} {k : Fr → AH → Option (AV × AH)} {r : AV × AH} (e : Ext μ h w ν h1) (f : Frm μ h w w1) {x : Exit} {a : Act} {w' : World} (g : After P O ν N h1 w1 ds k r x a w') : After P O μ N h w ds k r x a w' := by
  obtain ⟨g1, g2, fr', h', ξ, g3, g4, g5, g6, g7⟩ := g
  exact ⟨g1, g2, fr', h', ξ, g3, g4, g5, e.trans g6 f.1, f.trans e g7⟩

theorem LetsOut.mono {Q Q' : Exit → Act → World → Prop} (hq : ∀ e a w, Q e a w → Q' e a w) : LetsOut Q → LetsOut Q' := fun ⟨a, w, h⟩ => ⟨a, w, hq _ _ _ h⟩

theorem wp_mono2 {o : Oper} {a : Act} {w : World} {K K' : Act → World → Prop} {Q Q' : Exit → Act → World → Prop} (hk : ∀ a w, K a w → K' a w) (hq : ∀ e a w, Q e a w → Q' e a w)
    (hh : o.wp P a w K Q) : o.wp P a w K' Q' := by
  unfold Oper.wp at *
  generalize (execOp a.eval o).run P w = r at *
  cases r with
  | ok n w' =>
    cases n <;> simp only [Oper.upon] at hh ⊢ <;>
      first
        | exact hk _ _ hh
        | exact Calls.mono hh (fun e w'' he => by cases e <;> first | exact hk _ _ he | exact hq _ _ _ he | exact LetsOut.mono hq he)
        | exact Rows.mono hh (fun _ _ he => hk _ _ he)
  | halt x w' => cases x <;> simp only [Oper.upon] at hh ⊢ <;> exact hq _ _ _ hh

theorem wpOps_mono {ops : Array Oper} {Q Q' : Exit → Act → World → Prop} (hq : ∀ e a w, Q e a w → Q' e a w) : ∀ (l : List Nat) {a : Act} {w : World}, wpOps P ops Q l a w → wpOps P ops Q' l a w
  | [], a, w, h => hq _ _ _ h
  | i :: l, a, w, h => by
    simp only [wpOps] at h ⊢
    cases ho : ops[i]? with
    | none => simp only [ho] at h ⊢; exact wpOps_mono hq l h
    | some o =>
      simp only [ho] at h ⊢
      split
      · rename_i hw
        rw [if_pos hw] at h
        rcases h with h | ⟨h1, h2⟩
        · exact .inl (wp_mono2 (fun a w => wpOps_mono hq l) hq h)
        · exact .inr ⟨h1, LetsOut.mono hq h2⟩
      · rename_i hw
        rw [if_neg hw] at h
        exact wpOps_mono hq l h

theorem putT_some {N : Nat} {d : Option Tmp} {v : AV} {fr : Fr} {k : Fr → Option (AV × AH)} {r : AV × AH} (h : putT N d v fr k = some r) {μ : Mu} {a : Act} (F : FRel μ N fr a.tmps) {u : Value} (hv : VRel μ v u) :
    ∃ fr', k fr' = some r ∧ FRel μ N fr' (a.put d u).tmps := by
  unfold putT at h
  cases d with
  | none => exact ⟨fr, h, F⟩
  | some t =>
    obtain ⟨hlt, h⟩ := cond_none h
    exact ⟨_, h, F.put (by simpa [Nat.blt_eq] using hlt) hv⟩

theorem put_defers (a : Act) (d : Option Tmp) (u : Value) : (a.put d u).defers = a.defers := by cases d <;> rfl

theorem opsK_sound {rec : Rec} (hrec : RecOk P O rec) {N : Nat} {ops : Array Oper} {k : Fr → AH → Option (AV × AH)} {r : AV × AH} : ∀ (is : List Nat) {fr : Fr} {h : AH} {μ : Mu} {w : World} {a : Act},
    opsK P rec N ops is fr h k = some r → Sim P O μ h w → FRel μ N fr a.tmps → wpOps P ops (After P O μ N h w a.defers k r) is a w
  | [], fr, h, μ, w, a, hk, S, F => by
    simp only [opsK] at hk
    exact ⟨rfl, rfl, fr, h, μ, hk, S, F, Ext.refl _ _ _, Frm.refl _ _ _⟩
  | i :: is, fr, h, μ, w, a, hk, S, F => by
    simp only [opsK] at hk
    split at hk
    · cases hk
    · rename_i o ho
      simp only [wpOps, ho]
      -- an operation that is wanted
      have go : ∀ {fr : Fr}, FRel μ N fr a.tmps → (opK P rec o.op o.type fr h fun v h' => putT N o.dst v fr fun fr' => opsK P rec N ops is fr' h' k) = some r → Region.wanted o (yielded ops a.tmps) = true →
          (if Region.wanted o (yielded ops a.tmps) = true then o.wp P a w (wpOps P ops (After P O μ N h w a.defers k r) is) (After P O μ N h w a.defers k r) ∨ (o.asks P a w ∧ LetsOut (After P O μ N h w a.defers k r)) else wpOps P ops (After P O μ N h w a.defers k r) is (a.put o.dst undef) w) := by
        intro fr F hk hw
        rw [if_pos hw]
        left
        obtain ⟨v, h1, hk1, hgo⟩ := opAny_sound hrec S F hk
        refine hgo _ _ fun u w' ⟨ν, g1, g2, g3, g4⟩ => ?_
        obtain ⟨fr', hk2, F'⟩ := putT_some hk1 (F.mono g3.2.1) g1
        have := opsK_sound hrec is hk2 g2 F'
        rw [put_defers] at this
        exact wpOps_mono (fun e a w h => h.trans g3 g4) is this
      have skip : ∀ {fr : Fr}, FRel μ N fr a.tmps → (putT N o.dst (.tup []) fr fun fr' => opsK P rec N ops is fr' h k) = some r → Region.wanted o (yielded ops a.tmps) = false →
          (if Region.wanted o (yielded ops a.tmps) = true then o.wp P a w (wpOps P ops (After P O μ N h w a.defers k r) is) (After P O μ N h w a.defers k r) ∨ (o.asks P a w ∧ LetsOut (After P O μ N h w a.defers k r)) else wpOps P ops (After P O μ N h w a.defers k r) is (a.put o.dst undef) w) := by
        intro fr F hk hw
        rw [if_neg (by rw [hw]; simp)]
        obtain ⟨fr', hk2, F'⟩ := putT_some (u := undef) hk F (by simp [VRel, undef, VRels])
        have := opsK_sound hrec is hk2 S F'
        rw [put_defers] at this
        exact this
      split at hk
      · rename_i hg
        exact go F hk (by simp [Region.wanted, hg])
      · rename_i j b hg
        split at hk
        · cases hk
        · rename_i t ht
          split at hk
          · rename_i c hget
            obtain ⟨u, hu, hvu⟩ := F.get t _ hget
            simp only [VRel] at hvu
            subst hvu
            have hy : yielded ops a.tmps j = some c := by simp [yielded, ht, hu]
            have hwant : Region.wanted o (yielded ops a.tmps) = (c == b) := by simp [Region.wanted, hg, hy]
            have Fl : FRel μ N ((t, .bool c) :: fr) a.tmps := F.learn hget fun _ h => h
            rcases cond_some hk with ⟨rfl, hk2⟩ | ⟨rfl, hk2⟩
            · rcases cond_some hk2 with ⟨rfl, hk3⟩ | ⟨rfl, hk3⟩
              · exact go Fl hk3 (by rw [hwant]; rfl)
              · exact skip Fl hk3 (by rw [hwant]; rfl)
            · rcases cond_some hk2 with ⟨rfl, hk3⟩ | ⟨rfl, hk3⟩
              · exact skip Fl hk3 (by rw [hwant]; rfl)
              · exact go Fl hk3 (by rw [hwant]; rfl)
          · rename_i hget
            obtain ⟨u, hu, hvu⟩ := F.get t _ hget
            simp only [VRel] at hvu
            obtain ⟨us, rfl, _⟩ := hvu
            have hy : yielded ops a.tmps j = none := by simp [yielded, ht, hu]
            exact skip F hk (by simp [Region.wanted, hg, hy])
          · cases hk

theorem region_fin {b : Frame} {id : Nat} {ops : Array Oper} {draw : Bool} {k : List Item} {a : Act} {w : World} {R : Ending → World → Prop}
    (h : (Code.region id ops draw).wp P (fun e a' w' => e = .normal ∧ Fin P b k a' w' R) a w) : Fin P b (.code (.region id ops draw) :: k) a w R := fun cs => by
  obtain ⟨e, a', w', ⟨rfl, hf⟩, harr⟩ := h b k cs
  obtain ⟨e2, w2, fr, h1, h2, h3, h4⟩ := hf cs
  exact ⟨e2, w2, fr, h1, Comes.of_steps harr h2, h3, h4⟩

end Go.Ab

/- The abstract interpreter: what comes first does not ask what comes after. -/
set_option linter.unusedVariables false
set_option linter.unusedSimpArgs false
namespace Go.Ab

variable {P : Program}

theorem cond_bind {A B : Type} (c : Bool) (x y : Option A) (k : A → Option B) : (cond c x y).bind k = cond c (x.bind k) (y.bind k) := by cases c <;> rfl

theorem leafK_nat : ∃ g : Leaf → Option AV → Option AV, ∀ (l : Leaf) (x : Option AV) (R : Type) (k : AV → Option R), leafK l x k = (g l x).bind k := by
  refine ⟨fun l x => leafK l x some, fun l x R k => ?_⟩
  cases l <;> simp [leafK, Option.bind_assoc]

theorem leavesK_nat : ∃ g : (Nat → Option AV) → List Leaf → Nat → Option (List AV), ∀ (get : Nat → Option AV) (ls : List Leaf) (i : Nat) (R : Type) (k : List AV → Option R), leavesK get ls i k = (g get ls i).bind k := by
  obtain ⟨g, e⟩ := leafK_nat
  refine ⟨fun get ls i => leavesK get ls i some, fun get ls => ?_⟩
  induction ls with
  | nil => intro i R k; simp [leavesK]
  | cons l ls ih =>
    intro i R k
    simp only [leavesK, e]
    rw [Option.bind_assoc]
    congr 1
    funext v
    rw [ih (i + 1) _ (fun vs => k (v :: vs)), ih (i + 1) _ (fun vs => some (v :: vs)), Option.bind_assoc]
    rfl

theorem loadK_nat : ∃ g : Program → TypeId → Ref → AH → Option AV, ∀ (P : Program) (t : TypeId) (q : Ref) (h : AH) (R : Type) (k : AV → Option R), loadK P t q h k = (g P t q h).bind k := by
  obtain ⟨g, e⟩ := leafK_nat
  obtain ⟨f, d⟩ := leavesK_nat
  refine ⟨fun P t q h => loadK P t q h some, fun P t q h R k => ?_⟩
  dsimp only
  unfold loadK
  simp only [e, d]
  split
  · rw [cond_bind]
    congr 1
    · split
      · simp [cond_bind, Option.bind_assoc]
      · rfl
    · split
      · simp
      · rfl
  · rfl

theorem seeK_nat : ∃ g : Program → TypeId → AV → Option AV, ∀ (P : Program) (t : TypeId) (v : AV) (R : Type) (k : AV → Option R), seeK P t v k = (g P t v).bind k := by
  obtain ⟨g, e⟩ := leafK_nat
  obtain ⟨f, d⟩ := leavesK_nat
  refine ⟨fun P t v => seeK P t v some, fun P t v R k => ?_⟩
  dsimp only
  unfold seeK
  simp only [e, d]
  split
  · rw [cond_bind]
    congr 1
    · split
      · simp [cond_bind, Option.bind_assoc]
      · rfl
    · split
      · simp
      · rfl
  · rfl

theorem answerK_nat : ∃ g : Program → TypeId → AV → Option AV, ∀ (P : Program) (t : TypeId) (v : AV) (R : Type) (k : AV → Option R), answerK P t v k = (g P t v).bind k := by
  obtain ⟨g, e⟩ := seeK_nat
  refine ⟨fun P t v => answerK P t v some, fun P t v R k => ?_⟩
  dsimp only
  unfold answerK
  simp only [e]
  split
  · split <;> simp [Option.bind_assoc]
  · simp

theorem cellsK_nat : ∃ g : Program → TypeId → AV → Option (List AV), ∀ (P : Program) (t : TypeId) (v : AV) (R : Type) (k : List AV → Option R), cellsK P t v k = (g P t v).bind k := by
  refine ⟨fun P t v => cellsK P t v some, fun P t v R k => ?_⟩
  dsimp only
  unfold cellsK
  split
  · simp [cond_bind, Option.bind_assoc]
  · rfl

theorem intK_nat : ∃ g : BinOp → IntKind → Int → Int → Option AV, ∀ (op : BinOp) (kd : IntKind) (a b : Int) (R : Type) (k : AV → Option R), intK op kd a b k = (g op kd a b).bind k := by
  refine ⟨fun op kd a b => intK op kd a b some, fun op kd a b R k => ?_⟩
  cases op <;> simp [intK, cond_bind]

theorem binK_nat : ∃ g : Program → BinOp → TypeId → AV → AV → Option AV, ∀ (P : Program) (op : BinOp) (t : TypeId) (x y : AV) (R : Type) (k : AV → Option R), binK P op t x y k = (g P op t x y).bind k := by
  obtain ⟨g, e⟩ := intK_nat
  refine ⟨fun P op t x y => binK P op t x y some, fun P op t x y R k => ?_⟩
  dsimp only
  unfold binK
  simp only [e]
  split <;> simp [cond_bind, Option.bind_assoc]

theorem unK_nat : ∃ g : UnOp → AV → Option AV, ∀ (op : UnOp) (x : AV) (R : Type) (k : AV → Option R), unK op x k = (g op x).bind k := by
  refine ⟨fun op x => unK op x some, fun op x R k => ?_⟩
  dsimp only
  unfold unK
  split <;> simp

theorem fillK_nat : ∃ g : Program → (Nat → Option (Nat × TypeId)) → List (Nat × AV) → List AV → Option (List AV), ∀ (P : Program) (place : Nat → Option (Nat × TypeId)) (parts : List (Nat × AV)) (cells : List AV) (R : Type) (k : List AV → Option R), fillK P place parts cells k = (g P place parts cells).bind k := by
  obtain ⟨g, e⟩ := cellsK_nat
  refine ⟨fun P place parts cells => fillK P place parts cells some, fun P place parts => ?_⟩
  induction parts with
  | nil => intro cells R k; simp [fillK]
  | cons p parts ih =>
    intro cells R k
    obtain ⟨i, v⟩ := p
    simp only [fillK, e]
    split
    · rfl
    · rw [Option.bind_assoc]
      congr 1
      funext cs
      rw [cond_bind]
      congr 1
      exact ih _ _ _

theorem boundK_nat : ∃ g : Fr → Option Operand → Int → Option Int, ∀ (fr : Fr) (x : Option Operand) (d : Int) (R : Type) (k : Int → Option R), boundK fr x d k = (g fr x d).bind k := by
  refine ⟨fun fr x d => boundK fr x d some, fun fr x d R k => ?_⟩
  dsimp only
  unfold boundK
  split
  · rfl
  · split <;> simp

theorem sliceK_nat : ∃ g : Program → TypeId → AV → Fr → Option Operand → Option Operand → Option Operand → Option AV, ∀ (P : Program) (t : TypeId) (x : AV) (fr : Fr) (lo hi mx : Option Operand) (R : Type) (k : AV → Option R), sliceK P t x fr lo hi mx k = (g P t x fr lo hi mx).bind k := by
  obtain ⟨g, e⟩ := boundK_nat
  refine ⟨fun P t x fr lo hi mx => sliceK P t x fr lo hi mx some, fun P t x fr lo hi mx R k => ?_⟩
  dsimp only
  unfold sliceK
  simp only [e]
  split
  · split <;> simp [cond_bind, Option.bind_assoc]
  · split <;> simp [cond_bind, Option.bind_assoc]
  · split <;> simp [cond_bind, Option.bind_assoc]
  · rfl

theorem convertK_nat : ∃ g : Program → TypeId → TypeId → AV → Option AV, ∀ (P : Program) (s d : TypeId) (x : AV) (R : Type) (k : AV → Option R), convertK P s d x k = (g P s d x).bind k := by
  refine ⟨fun P s d x => convertK P s d x some, fun P s d x R k => ?_⟩
  dsimp only
  unfold convertK
  split <;> simp

theorem lenK_nat : ∃ g : Program → TypeId → AV → Option AV, ∀ (P : Program) (t : TypeId) (x : AV) (R : Type) (k : AV → Option R), lenK P t x k = (g P t x).bind k := by
  refine ⟨fun P t x => lenK P t x some, fun P t x R k => ?_⟩
  dsimp only
  unfold lenK
  split <;> simp

abbrev pk (v : AV) (h : AH) : Option (AV × AH) := some (v, h)

theorem builtinK_nat : ∃ g : Program → Builtin → List TypeId → List AV → AH → Option (AV × AH), ∀ (P : Program) (b : Builtin) (ts : List TypeId) (xs : List AV) (h : AH) (R : Type) (k : AV → AH → Option R), builtinK P b ts xs h k = (g P b ts xs h).bind fun p => k p.1 p.2 := by
  obtain ⟨g, e⟩ := lenK_nat
  obtain ⟨f, d⟩ := leafK_nat
  refine ⟨fun P b ts xs h => builtinK P b ts xs h pk, fun P b ts xs h R k => ?_⟩
  dsimp only
  unfold builtinK
  simp only [e, d]
  split
  · simp [pk, Option.bind_assoc]
  · simp [pk]
  · simp [pk]
  · split <;> simp [pk, cond_bind, Option.bind_assoc]
  · split <;> simp [pk, cond_bind, Option.bind_assoc]
  · rfl

theorem callK_nat (rec : Rec) : ∃ g : Program → Call → TypeId → Fr → AH → Option (AV × AH), ∀ (P : Program) (c : Call) (ty : TypeId) (fr : Fr) (h : AH) (R : Type) (k : AV → AH → Option R), callK P rec c ty fr h k = (g P c ty fr h).bind fun p => k p.1 p.2 := by
  obtain ⟨g, e⟩ := builtinK_nat
  obtain ⟨f, d⟩ := answerK_nat
  refine ⟨fun P c ty fr h => callK P rec c ty fr h pk, fun P c ty fr h R k => ?_⟩
  dsimp only
  unfold callK
  simp only [e, d]
  split
  · rfl
  · split
    · simp [pk, Option.bind_assoc]
    · split <;> simp [pk, Option.bind_assoc]
    · rfl

theorem opK_nat (rec : Rec) : ∀ (P : Program) (o : Op) (ty : TypeId) (fr : Fr) (h : AH) (R : Type) (k : AV → AH → Option R), opK P rec o ty fr h k = (opK P rec o ty fr h pk).bind fun p => k p.1 p.2 := by
  obtain ⟨g1, e1⟩ := cellsK_nat
  obtain ⟨g2, e2⟩ := fillK_nat
  obtain ⟨g3, e3⟩ := loadK_nat
  obtain ⟨g4, e4⟩ := binK_nat
  obtain ⟨g5, e5⟩ := unK_nat
  obtain ⟨g6, e6⟩ := convertK_nat
  obtain ⟨g7, e7⟩ := sliceK_nat
  obtain ⟨g8, e8⟩ := callK_nat rec
  intro P o ty fr h R k
  cases o <;> simp only [opK, e1, e2, e3, e4, e5, e6, e7, e8] <;> (repeat' split) <;> simp [pk, cond_bind, Option.bind_assoc]


theorem putT_nat {N : Nat} {d : Option Tmp} {v : AV} {fr : Fr} {R : Type} (k : Fr → Option R) : putT N d v fr k = (putT N d v fr some).bind k := by
  unfold putT
  split
  · rfl
  · rw [cond_bind]; rfl

@[reducible] def pf : Fr → AH → Option (Fr × AH) := fun fr h => some (fr, h)

/-- Operations, one after the other. -/
theorem opsK_nat (rec : Rec) {N : Nat} {ops : Array Oper} {R : Type} (k : Fr → AH → Option R) : ∀ (is : List Nat) (fr : Fr) (h : AH), opsK P rec N ops is fr h k = (opsK P rec N ops is fr h pf).bind fun p => k p.1 p.2
  | [], fr, h => rfl
  | i :: is, fr, h => by
    have put : ∀ (d : Option Tmp) (v : AV) (fr : Fr) (h : AH), (putT N d v fr fun fr' => opsK P rec N ops is fr' h k) = (putT N d v fr fun fr' => opsK P rec N ops is fr' h pf).bind fun p => k p.1 p.2 := by
      intro d v fr h
      rw [putT_nat, putT_nat (fun fr' => opsK P rec N ops is fr' h pf), Option.bind_assoc]
      congr 1
      funext fr'
      exact opsK_nat rec k is fr' h
    have go : ∀ (o : Oper) (fr : Fr), (opK P rec o.op o.type fr h fun v h' => putT N o.dst v fr fun fr' => opsK P rec N ops is fr' h' k) = (opK P rec o.op o.type fr h fun v h' => putT N o.dst v fr fun fr' => opsK P rec N ops is fr' h' pf).bind fun p => k p.1 p.2 := by
      intro o fr
      rw [opK_nat, opK_nat (k := fun v h' => putT N o.dst v fr fun fr' => opsK P rec N ops is fr' h' pf), Option.bind_assoc]
      congr 1
      funext q
      exact put _ _ _ _
    simp only [opsK]
    split
    · rfl
    · split
      · exact go _ _
      · split
        · rfl
        · split
          · rw [cond_bind, cond_bind, cond_bind, go, go, put, put]
          · exact put _ _ _ _
          · rfl

end Go.Ab

/- A region whose order is left open: what one order answers, every order answers. -/
set_option linter.unusedVariables false
set_option linter.unusedSimpArgs false
namespace Go.Ab

variable {P : Program}

/-! ### Frames that know the same -/
def Fr.same (fr fr' : Fr) : Prop := ∀ t, fr.get t = fr'.get t

theorem Fr.same.refl (fr : Fr) : fr.same fr := fun _ => rfl
theorem Fr.same.symm {a b : Fr} (h : a.same b) : b.same a := fun t => (h t).symm
theorem Fr.same.trans {a b c : Fr} (h : a.same b) (k : b.same c) : a.same c := fun t => (h t).trans (k t)

@[reducible] def putd (d : Option Tmp) (v : AV) (fr : Fr) : Fr := match d with
  | none => fr
  | some t => (t, v) :: fr

theorem get_cons (s t : Nat) (v : AV) (fr : Fr) : Fr.get ((s, v) :: fr) t = if s = t then some v else fr.get t := by
  simp only [Fr.get]
  by_cases h : s = t
  · subst h; simp
  · rw [if_neg h]
    have : Nat.beq s t = false := by
      cases hb : Nat.beq s t with
      | false => rfl
      | true => exact absurd (Nat.eq_of_beq_eq_true hb) h
    rw [this]; rfl

theorem Fr.same.putd {a b : Fr} (h : a.same b) (d : Option Tmp) (v : AV) : (putd d v a).same (putd d v b) := by
  intro t
  cases d with
  | none => exact h t
  | some s => simp only [Go.Ab.putd, get_cons, h t]

theorem putd_get {d : Option Tmp} {v : AV} {fr : Fr} {t : Tmp} (h : ∀ s, d = some s → s ≠ t) : (putd d v fr).get t = fr.get t := by
  cases d with
  | none => rfl
  | some s => simp only [putd, get_cons, if_neg (h s rfl)]

theorem putd_comm {x y : Option Tmp} {v u : AV} {fr : Fr} (h : ∀ d, x = some d → y ≠ some d) : (putd x v (putd y u fr)).same (putd y u (putd x v fr)) := by
  intro t
  cases x with
  | none => rfl
  | some d =>
    cases y with
    | none => rfl
    | some e =>
      have : d ≠ e := fun he => h d rfl (he ▸ rfl)
      simp only [putd, get_cons]
      by_cases h1 : d = t <;> by_cases h2 : e = t <;> simp [h1, h2]
      exact absurd (h1.trans h2.symm) this

theorem evO_same {a b : Fr} {x : Operand} (h : ∀ t, x = .tmp t → a.get t = b.get t) : evO a x = evO b x := by
  cases x with
  | tmp t => exact h t rfl
  | _ => rfl

theorem evs_same {a b : Fr} : ∀ {xs : List Operand}, (∀ x ∈ xs, evO a x = evO b x) → evs a xs = evs b xs
  | [], _ => rfl
  | x :: xs, h => by simp only [evs, h x (by simp), evs_same (xs := xs) fun y hy => h y (by simp [hy])]

theorem boundK_same {a b : Fr} {R : Type} {x : Option Operand} {d : Int} {k : Int → Option R} (h : ∀ y, x = some y → evO a y = evO b y) : boundK a x d k = boundK b x d k := by
  cases x with
  | none => rfl
  | some y => simp only [boundK, h y rfl]

/-- An operation asks its operands alone. -/
theorem opK_same {rec : Rec} {a b : Fr} {o : Op} {ty : TypeId} {h : AH} {R : Type} {k : AV → AH → Option R} (e : ∀ x ∈ o.operands.toList, evO a x = evO b x) : opK P rec o ty a h k = opK P rec o ty b h k := by
  cases o <;> simp only [Op.operands] at e <;> simp only [opK]
  case build t ps => rw [evs_same (a := a) (b := b) fun x hx => e x (by simpa using hx)]
  case buildSlice t n ps => rw [evs_same (a := a) (b := b) fun x hx => e x (by simpa using hx)]
  case makeFunc f first captured =>
    rw [evs_same (a := a) (b := b) (xs := first.toList) fun x hx => e x (by simp at hx ⊢; exact .inl hx), evs_same (a := a) (b := b) (xs := captured.toList) fun x hx => e x (by simp at hx ⊢; exact .inr hx)]
  case call c =>
    unfold callK
    rw [evs_same (a := a) (b := b) (xs := c.args.toList) fun x hx => e x (by simp only [Call.operands]; simp at hx ⊢; exact .inr hx)]
    cases hc : c.callee with
    | value f => simp only [e f (by simp [Call.operands, hc])]
    | invoke r m => rfl
    | builtin bb => rfl
  case slice t x lo hi mx =>
    rw [e x (by simp)]
    have h1 : ∀ (d : Int) (k : Int → Option R), boundK a lo d k = boundK b lo d k := fun d k => boundK_same fun y hy => e y (by subst hy; simp)
    have h2 : ∀ (d : Int) (k : Int → Option R), boundK a hi d k = boundK b hi d k := fun d k => boundK_same fun y hy => e y (by subst hy; simp)
    have h3 : ∀ (m : Operand), mx = some m → ∀ (d : Int) (k : Int → Option R), boundK a (some m) d k = boundK b (some m) d k := fun m hm d k => boundK_same fun y hy => by cases hy; exact e m (by subst hm; simp)
    cases evO b x with
    | none => rfl
    | some u =>
      simp only [sliceK]
      cases mx with
      | none => simp only [h1, h2]
      | some m => simp only [h1, h2, h3 m rfl]
  all_goals first
    | rfl
    | (simp at e; simp only [e])

/-! ### One operation -/
/-- What the operation at a place yields: its value, or nothing where its guard bars it. -/
noncomputable def valA (P : Program) (rec : Rec) (ops : Array Oper) (o : Oper) (fr : Fr) (h : AH) : Option (AV × AH) :=
  match o.guard with
  | none => opK P rec o.op o.type fr h pk
  | some (j, b) => match ((ops[j]?).bind (·.dst)) with
    | none => none
    | some t => match fr.get t with
      | some (.bool c) => cond (c == b) (opK P rec o.op o.type fr h pk) (some (.tup [], h))
      | some (.tup []) => some (.tup [], h)
      | _ => none

def fitsN (N : Nat) (d : Option Tmp) : Prop := ∀ t, d = some t → Nat.blt t N = true

theorem putT_some' {N : Nat} {d : Option Tmp} {v : AV} {fr : Fr} {R : Type} {k : Fr → Option R} {r : R} : putT N d v fr k = some r ↔ fitsN N d ∧ k (putd d v fr) = some r := by
  unfold putT
  cases d with
  | none => simp [fitsN]
  | some t =>
    simp only [fitsN, Option.some.injEq, forall_eq']
    cases hb : Nat.blt t N <;> simp

theorem same_learn {fr : Fr} {t : Tmp} {v : AV} (h : fr.get t = some v) : Fr.same ((t, v) :: fr) fr := fun s => by
  rw [get_cons]
  split
  · rename_i e; subst e; exact h.symm
  · rfl

/-- The operation's step. -/
noncomputable def step1 (P : Program) (rec : Rec) (N : Nat) (ops : Array Oper) (i : Nat) (fr : Fr) (h : AH) : Option (Fr × AH) := opsK P rec N ops [i] fr h pf

theorem step1_iff {rec : Rec} {N : Nat} {ops : Array Oper} {i : Nat} {o : Oper} (ho : ops[i]? = some o) {fr : Fr} {h : AH} {fr1 : Fr} {h1 : AH} :
    step1 P rec N ops i fr h = some (fr1, h1) → ∃ v, valA P rec ops o fr h = some (v, h1) ∧ fitsN N o.dst ∧ fr1.same (putd o.dst v fr) := by
  intro hs
  simp only [step1, opsK, ho] at hs
  have go : ∀ {fr' : Fr}, fr'.same fr → (opK P rec o.op o.type fr' h fun v h' => putT N o.dst v fr' fun fr'' => pf fr'' h') = some (fr1, h1) → ∃ v, opK P rec o.op o.type fr h pk = some (v, h1) ∧ fitsN N o.dst ∧ fr1.same (putd o.dst v fr) := by
    intro fr' hsame hk
    rw [opK_nat, Option.bind_eq_some_iff] at hk
    obtain ⟨⟨v, h'⟩, e1, e2⟩ := hk
    obtain ⟨e3, e4⟩ := putT_some'.1 e2
    simp only [pf, Option.some.injEq, Prod.mk.injEq] at e4
    obtain ⟨rfl, rfl⟩ := e4
    rw [opK_same (b := fr) fun x _ => evO_same fun t _ => hsame t] at e1
    exact ⟨v, e1, e3, hsame.putd _ _⟩
  have skip : ∀ {fr' : Fr}, fr'.same fr → (putT N o.dst (.tup []) fr' fun fr'' => pf fr'' h) = some (fr1, h1) → h1 = h ∧ fitsN N o.dst ∧ fr1.same (putd o.dst (.tup []) fr) := by
    intro fr' hsame hk
    obtain ⟨e3, e4⟩ := putT_some'.1 hk
    simp only [pf, Option.some.injEq, Prod.mk.injEq] at e4
    obtain ⟨rfl, rfl⟩ := e4
    exact ⟨rfl, e3, hsame.putd _ _⟩
  unfold valA
  split at hs
  · rename_i hg
    rw [hg]
    exact go (Fr.same.refl _) hs
  · rename_i j b hg
    rw [hg]
    split at hs
    · cases hs
    · rename_i t ht
      simp only [ht]
      split at hs
      · rename_i c hc
        simp only [hc]
        cases c <;> cases b <;> simp only [cond_true, cond_false] at hs
        · exact go (same_learn hc) hs
        · obtain ⟨rfl, e1, e2⟩ := skip (same_learn hc) hs
          exact ⟨_, rfl, e1, e2⟩
        · obtain ⟨rfl, e1, e2⟩ := skip (same_learn hc) hs
          exact ⟨_, rfl, e1, e2⟩
        · exact go (same_learn hc) hs
      · rename_i hc
        simp only [hc]
        obtain ⟨rfl, e1, e2⟩ := skip (Fr.same.refl _) hs
        exact ⟨_, rfl, e1, e2⟩
      · cases hs

theorem step1_of {rec : Rec} {N : Nat} {ops : Array Oper} {i : Nat} {o : Oper} (ho : ops[i]? = some o) {fr : Fr} {h : AH} {v : AV} {h1 : AH}
    (hv : valA P rec ops o fr h = some (v, h1)) (hn : fitsN N o.dst) : ∃ fr1, step1 P rec N ops i fr h = some (fr1, h1) ∧ fr1.same (putd o.dst v fr) := by
  simp only [step1, opsK, ho]
  have go : ∀ {fr' : Fr}, fr'.same fr → opK P rec o.op o.type fr h pk = some (v, h1) → ∃ fr1, (opK P rec o.op o.type fr' h fun v h' => putT N o.dst v fr' fun fr'' => pf fr'' h') = some (fr1, h1) ∧ fr1.same (putd o.dst v fr) := by
    intro fr' hsame hk
    refine ⟨putd o.dst v fr', ?_, hsame.putd _ _⟩
    rw [opK_nat, opK_same (b := fr) fun x _ => evO_same fun t _ => hsame t, hk, Option.bind_some]
    exact putT_some'.2 ⟨hn, rfl⟩
  have skip : ∀ {fr' : Fr}, fr'.same fr → ∃ fr1, (putT N o.dst (.tup []) fr' fun fr'' => pf fr'' h) = some (fr1, h) ∧ fr1.same (putd o.dst (.tup []) fr) := fun hsame => ⟨_, putT_some'.2 ⟨hn, rfl⟩, hsame.putd _ _⟩
  unfold valA at hv
  split at hv
  · rename_i hg
    simp only [hg]
    exact go (Fr.same.refl _) hv
  · rename_i j b hg
    simp only [hg]
    split at hv
    · cases hv
    · rename_i t ht
      simp only [ht]
      split at hv
      · rename_i c hc
        simp only [hc]
        cases c <;> cases b <;> simp only [cond_true, cond_false]
        · exact go (same_learn hc) (by simpa using hv)
        · have : AV.tup [] = v ∧ h = h1 := by simpa using hv
          obtain ⟨rfl, rfl⟩ := this
          exact skip (same_learn hc)
        · have : AV.tup [] = v ∧ h = h1 := by simpa using hv
          obtain ⟨rfl, rfl⟩ := this
          exact skip (same_learn hc)
        · exact go (same_learn hc) (by simpa using hv)
      · rename_i hc
        simp only [hc]
        cases hv
        exact skip (Fr.same.refl _)
      · cases hv

/-- It hangs on what it looks at. -/
theorem valA_same {rec : Rec} {ops : Array Oper} {o : Oper} {a b : Fr} {h : AH} (e : ∀ t ∈ o.looksAt ops, a.get t = b.get t) : valA P rec ops o a h = valA P rec ops o b h := by
  have e1 : opK P rec o.op o.type a h pk = opK P rec o.op o.type b h pk := opK_same fun x hx => evO_same fun t ht => e t (by
    subst ht
    exact List.mem_append_left _ (List.mem_filterMap.2 ⟨_, hx, rfl⟩))
  unfold valA
  cases hg : o.guard with
  | none => exact e1
  | some jb =>
    obtain ⟨j, b'⟩ := jb
    dsimp only
    cases ht : (ops[j]?).bind (·.dst) with
    | none => rfl
    | some t =>
      have := e t (by simp [Oper.looksAt, hg, ht])
      simp only [this, e1]

/-- What it reads hangs on what it looks at. -/
theorem looksOf_same {ops : Array Oper} {o : Oper} {a b : Fr} {i : Nat} (e : ∀ t ∈ o.looksAt ops, a.get t = b.get t) : looksOf P i o.op a = looksOf P i o.op b := by
  unfold looksOf
  split
  · rename_i t x hx
    rw [evO_same (a := a) (b := b) fun s hs => e s (by
      subst hs
      exact List.mem_append_left _ (List.mem_filterMap.2 ⟨.tmp s, by rw [hx]; simp [Op.operands], rfl⟩))]
  · rfl

/-! ### Operations that change nothing -/
theorem leavesK_heap {R : Type} {f g : Nat → Option AV} : ∀ {ls : List Leaf} {i : Nat} {k : List AV → Option R}, (∀ j, i ≤ j → j < i + ls.length → f j = g j) → leavesK f ls i k = leavesK g ls i k
  | [], i, k, h => rfl
  | l :: ls, i, k, h => by
    simp only [leavesK]
    rw [h i (Nat.le_refl _) (by simp)]
    congr 1
    funext v
    exact leavesK_heap fun j h1 h2 => h j (by omega) (by simp at h2 ⊢; omega)

theorem loadK_heap {R : Type} {t : TypeId} {r : Ref} {h h' : AH} {k : AV → Option R} {d : TypeDesc} (hd : P.underlying t = some d) (e : SameAt h h' r (cond (isAggD d) (P.cellsOf t) 1)) : loadK P t r h' k = loadK P t r h k := by
  unfold loadK
  simp only [hd]
  cases ha : isAggD d with
  | true =>
    rw [ha] at e
    simp only [cond_true] at e ⊢
    cases hl : leaves P 20 t with
    | none => rfl
    | some ls =>
      dsimp only
      cases hb : Nat.beq ls.length (P.cellsOf t) with
      | false => rfl
      | true =>
        simp only [cond_true]
        have := Nat.eq_of_beq_eq_true hb
        exact leavesK_heap fun j h1 h2 => e.1 j (by omega)
  | false =>
    rw [ha] at e
    simp only [cond_false] at e ⊢
    have := e.1 0 (by omega)
    rw [Ref.add_zero] at this
    rw [this]

theorem nonEff_opK {rec : Rec} {i : Nat} {o : Op} {ty : TypeId} {fr : Fr} {h : AH} {v : AV} {h1 : AH} (hn : nonEff o = true) (hk : opK P rec o ty fr h pk = some (v, h1)) :
    h1 = h ∧ ∀ h2, (∀ p ∈ looksOf P i o fr, SameAt h h2 p.ref p.size) → opK P rec o ty fr h2 pk = some (v, h2) := by
  obtain ⟨g1, e1⟩ := cellsK_nat
  obtain ⟨g2, e2⟩ := fillK_nat
  obtain ⟨g3, e3⟩ := loadK_nat
  obtain ⟨g4, e4⟩ := binK_nat
  obtain ⟨g5, e5⟩ := unK_nat
  obtain ⟨g6, e6⟩ := convertK_nat
  obtain ⟨g7, e7⟩ := sliceK_nat
  obtain ⟨g8, e8⟩ := lenK_nat
  have key : (∃ x : Option AV, ∀ h, opK P rec o ty fr h pk = x.bind fun v => some (v, h)) → h1 = h ∧ ∀ h2, (∀ p ∈ looksOf P i o fr, SameAt h h2 p.ref p.size) → opK P rec o ty fr h2 pk = some (v, h2) := by
    rintro ⟨x, hx⟩
    rw [hx, Option.bind_eq_some_iff] at hk
    obtain ⟨u, hu, hq⟩ := hk
    simp only [Option.some.injEq, Prod.mk.injEq] at hq
    obtain ⟨rfl, rfl⟩ := hq
    exact ⟨rfl, fun h2 _ => by rw [hx, hu]; rfl⟩
  have key' : (∀ h, opK P rec o ty fr h pk = (opK P rec o ty fr ⟨#[], #[]⟩ (fun v _ => some v) : Option AV).bind fun v => some (v, h)) → h1 = h ∧ ∀ h2, (∀ p ∈ looksOf P i o fr, SameAt h h2 p.ref p.size) → opK P rec o ty fr h2 pk = some (v, h2) := fun hh => key ⟨_, hh⟩
  cases o <;> simp only [nonEff] at hn <;> try (cases hn; done)
  case load t a =>
    simp only [opK] at hk
    split at hk
    · rename_i r hr
      rw [e3, Option.bind_eq_some_iff] at hk
      obtain ⟨u, hu, hq⟩ := hk
      simp only [pk, Option.some.injEq, Prod.mk.injEq] at hq
      obtain ⟨rfl, rfl⟩ := hq
      refine ⟨rfl, fun h2 hs => ?_⟩
      cases hd : P.underlying t with
      | none =>
        have : loadK P t r h some = none := by unfold loadK; rw [hd]
        rw [e3, hu] at this
        cases this
      | some d =>
        have := hs ⟨i, r, cond (isAggD d) (P.cellsOf t) 1⟩ (by simp [looksOf, hr, hd])
        simp only [opK, hr]
        rw [loadK_heap hd this, e3, hu]
        rfl
    · cases hk
    · cases hk
  case call c =>
    split at hn
    · rename_i hc
      refine key' fun h => ?_
      simp only [opK, callK, hc, builtinK]
      repeat' split
      all_goals first | contradiction | simp [e8, pk]
    · rename_i hc
      refine key' fun h => ?_
      simp only [opK, callK, hc, builtinK]
      repeat' split
      all_goals first | contradiction | simp [pk]
    · rename_i hc
      refine key' fun h => ?_
      simp only [opK, callK, hc, builtinK]
      repeat' split
      all_goals first | contradiction | simp [pk]
    · cases hn
  all_goals
    refine key' fun h => ?_
    simp only [opK, e1, e2, e4, e5, e6, e7]
    repeat' split
    all_goals simp [pk, cond_bind, Option.bind_assoc]

theorem nonEff_valA {rec : Rec} {ops : Array Oper} {i : Nat} {o : Oper} {fr : Fr} {h : AH} {v : AV} {h1 : AH} (hn : nonEff o.op = true) (hv : valA P rec ops o fr h = some (v, h1)) :
    h1 = h ∧ ∀ h2, (∀ p ∈ looksOf P i o.op fr, SameAt h h2 p.ref p.size) → valA P rec ops o fr h2 = some (v, h2) := by
  unfold valA at hv ⊢
  split at hv
  · rename_i hg
    try simp only [hg]
    exact nonEff_opK hn hv
  · rename_i j b hg
    try simp only [hg]
    split at hv
    · cases hv
    · rename_i t ht
      try simp only [ht]
      split at hv
      · rename_i c hc
        try simp only [hc]
        cases hcb : (c == b) with
        | true =>
          rw [hcb] at hv
          exact nonEff_opK hn hv
        | false =>
          rw [hcb] at hv
          simp only [cond_false, Option.some.injEq, Prod.mk.injEq] at hv
          exact ⟨hv.2.symm, fun h2 _ => by simp [hv.1]⟩
      · rename_i hc
        simp only [Option.some.injEq, Prod.mk.injEq] at hv
        exact ⟨hv.2.symm, fun h2 _ => by simp [hv.1]⟩
      · cases hv

/-! ### Every order -/
section
variable {rec : Rec} {N : Nat} {ops : Array Oper} {an : Nat → Nat} {k : Fr → AH → Option (AV × AH)} {r : AV × AH}

theorem SameBlk.refl (h : AH) : ∀ r, SameBlk h h r
  | .new _ _ => rfl
  | .old _ => True.intro

def chk (m : Nat) (h h' : AH) (ps : List Look) : Prop := ∀ p ∈ ps, m.testBit p.at_ = false → SameAt h h' p.ref p.size

def AnyA (P : Program) (rec : Rec) (N : Nat) (ops : Array Oper) (an : Nat → Nat) (k : Fr → AH → Option (AV × AH)) (r : AV × AH) : Nat → Array Bool → List Look → Fr → AH → Prop
  | 0, l, _, fr, h => Region.ready .any ops l = [] ∧ k fr h = some r
  | n + 1, l, ps, fr, h => (Region.ready .any ops l = [] → k fr h = some r) ∧ ∀ i ∈ Region.ready .any ops l, ∀ o, ops[i]? = some o → ∃ v h1, valA P rec ops o fr h = some (v, h1) ∧ fitsN N o.dst ∧
      (nonEff o.op = false → chk (an i) h h1 ps) ∧ AnyA P rec N ops an k r n (l.setIfInBounds i true) (cond (nonEff o.op) (looksOf P i o.op fr ++ ps) ps) (putd o.dst v fr) h1

theorem AnyA.same (hk : ∀ (a b : Fr) (h : AH), a.same b → k a h = k b h) : ∀ {n : Nat} {l : Array Bool} {ps ps' : List Look} {a b : Fr} {h : AH}, a.same b → (∀ p ∈ ps', p ∈ ps) → AnyA P rec N ops an k r n l ps a h → AnyA P rec N ops an k r n l ps' b h
  | 0, l, ps, ps', a, b, h, e, hp, H => ⟨H.1, by rw [← hk _ _ _ e]; exact H.2⟩
  | n + 1, l, ps, ps', a, b, h, e, hp, H => by
    refine ⟨fun h0 => by rw [← hk _ _ _ e]; exact H.1 h0, fun i hi o ho => ?_⟩
    obtain ⟨v, h1, h2, h3, h4, h5⟩ := H.2 i hi o ho
    refine ⟨v, h1, by rw [← valA_same fun t _ => e t]; exact h2, h3, fun hn p hp' => h4 hn p (hp p hp'), AnyA.same hk (e.putd _ _) ?_ h5⟩
    rw [looksOf_same (ops := ops) (a := b) (b := a) fun t _ => (e t).symm]
    intro p hp'
    cases hq : nonEff o.op with
    | true =>
      simp only [hq, cond_true, List.mem_append] at hp' ⊢
      exact hp'.imp id (hp p)
    | false =>
      simp only [hq, cond_false] at hp' ⊢
      exact hp p hp'

def Closed (ops : Array Oper) (l : Array Bool) : Prop := l.size = ops.size ∧ ∀ (j : Nat) (o : Oper), l.getD j false = true → ops[j]? = some o → ∀ e ∈ o.after, Region.binds .any e = true → l.getD e.on false = true

theorem Closed.set {l : Array Bool} {i : Nat} (hc : Closed ops l) (hi : i ∈ Region.ready .any ops l) : Closed ops (l.setIfInBounds i true) := by
  refine ⟨by simpa using hc.1, ?_⟩
  intro j o hj ho e he hb
  obtain ⟨h0, oi, hoi, hall⟩ := mem_ready.1 hi
  by_cases hij : i = j
  · subst hij
    rw [hoi] at ho
    cases ho
    exact getD_set_true (hall e he hb)
  · rw [getD_set_ne false hij] at hj
    exact getD_set_true (hc.2 j o hj ho e he hb)

theorem chk.mono {m : Nat} {h h' : AH} {ps qs : List Look} (hq : ∀ p ∈ qs, p ∈ ps) (c : chk m h h' ps) : chk m h h' qs := fun p hp => c p (hq p hp)

theorem AnyA.first (hk : ∀ (a b : Fr) (h : AH), a.same b → k a h = k b h) (hanc : ∀ l, Closed ops l → ∀ j ∈ Region.ready .any ops l, ∀ i, (an j).testBit i = true → l.getD i false = true)
    {i : Nat} {oi : Oper} {vi : AV} (hi : ops[i]? = some oi) (hne : nonEff oi.op = true) (hfit : fitsN N oi.dst) :
    ∀ (n : Nat) {l : Array Bool} {ps : List Look} {fr : Fr} {h : AH}, Closed ops l → (∀ j oj, ops[j]? = some oj → j ≠ i → l.getD j true = false → (∀ e ∈ oj.after, Region.binds .any e = true → e.on ≠ i) → oi.apart ops oj = true) →
      i ∈ Region.ready .any ops l → valA P rec ops oi fr h = some (vi, h) → AnyA P rec N ops an k r n (l.setIfInBounds i true) (looksOf P i oi.op fr ++ ps) (putd oi.dst vi fr) h → AnyA P rec N ops an k r (n + 1) l ps fr h
  | 0, l, ps, fr, h, hc, hfree, hr, hv, H => by
    refine ⟨fun h0 => (by rw [h0] at hr; cases hr), fun j hj oj hoj => ?_⟩
    by_cases hji : j = i
    · subst hji
      rw [hi] at hoj
      cases hoj
      exact ⟨vi, h, hv, hfit, (fun hn => by rw [hne] at hn; cases hn), by rw [hne]; exact H⟩
    · have := ready_mono hj hji
      rw [H.1] at this
      cases this
  | n + 1, l, ps, fr, h, hc, hfree, hr, hv, H => by
    refine ⟨fun h0 => (by rw [h0] at hr; cases hr), fun j hj oj hoj => ?_⟩
    by_cases hji : j = i
    · subst hji
      rw [hi] at hoj
      cases hoj
      exact ⟨vi, h, hv, hfit, (fun hn => by rw [hne] at hn; cases hn), by rw [hne]; exact H⟩
    · obtain ⟨vj, h2, e1, e2, e3, e4⟩ := H.2 j (ready_mono hj hji) oj hoj
      obtain ⟨hjun, oj', hoj', hall⟩ := mem_ready.1 hj
      rw [hoj] at hoj'
      cases hoj'
      have hiun := (mem_ready.1 hr).1
      have hnot : ∀ e ∈ oj.after, Region.binds .any e = true → e.on ≠ i := fun e he hb heq => by
        have h1 := hall e he hb
        rw [heq] at h1
        rcases Nat.lt_or_ge i l.size with h' | h'
        · simp [h'] at hiun h1; rw [hiun] at h1; cases h1
        · simp [Array.getElem?_eq_none h'] at h1
      obtain ⟨a1, a2, a3⟩ := Oper.apart_spec (hfree j oj hoj hji hjun hnot)
      -- what j does ahead of i
      have b1 : valA P rec ops oj fr h = some (vj, h2) := by
        rw [← e1]
        exact valA_same fun t ht => (putd_get fun s hs he => a1 s hs (he ▸ ht)).symm
      have anc : (an j).testBit i = false := by
        cases hb : (an j).testBit i with
        | false => rfl
        | true =>
          have := hanc l hc j hj i hb
          rcases Nat.lt_or_ge i l.size with h' | h'
          · simp [h'] at hiun this; rw [hiun] at this; cases this
          · simp [Array.getElem?_eq_none h'] at this
      -- i behind it
      have b2 : valA P rec ops oi (putd oj.dst vj fr) h2 = some (vi, h2) := by
        have : ∀ p ∈ looksOf P i oi.op fr, SameAt h h2 p.ref p.size := by
          intro p hp
          cases hnj : nonEff oj.op with
          | true =>
            have := (nonEff_valA (i := j) hnj b1).1
            subst this
            exact ⟨fun _ _ => rfl, fun _ => SameBlk.refl _ _⟩
          | false =>
            refine e3 hnj p (by simp [hp]) ?_
            have : p.at_ = i := by
              unfold looksOf at hp
              split at hp
              · split at hp
                · split at hp <;> simp at hp; subst hp; rfl
                · simp at hp
              · simp at hp
            rw [this]
            exact anc
        rw [valA_same (b := fr) fun t ht => putd_get fun s hs he => a3 s hs (he ▸ ht)]
        exact (nonEff_valA hne hv).2 h2 this
      refine ⟨vj, h2, b1, e2, fun hnj => (e3 hnj).mono fun p hp => by simp [hp], ?_⟩
      have hfree' : ∀ k' ok, ops[k']? = some ok → k' ≠ i → (l.setIfInBounds j true).getD k' true = false → (∀ e ∈ ok.after, Region.binds .any e = true → e.on ≠ i) → oi.apart ops ok = true := fun k' ok hk' hki hun hno => by
        refine hfree k' ok hk' hki ?_ hno
        by_cases hjk : j = k'
        · subst hjk; exact hjun
        · rw [getD_set_ne true hjk] at hun; exact hun
      refine AnyA.first hk hanc hi hne hfit n (hc.set hj) hfree' (ready_mono hr (Ne.symm hji)) b2 ?_
      rw [Array.setIfInBounds_comm _ _ hji]
      refine AnyA.same hk (putd_comm fun d hd => ?_) (fun p hp => ?_) e4
      · intro hd'
        exact a2 d hd' hd
      · have l1 : looksOf P i oi.op (putd oj.dst vj fr) = looksOf P i oi.op fr := looksOf_same (ops := ops) fun t ht => putd_get fun s hs he => a3 s hs (he ▸ ht)
        have l2 : looksOf P j oj.op (putd oi.dst vi fr) = looksOf P j oj.op fr := looksOf_same (ops := ops) fun t ht => putd_get fun s hs he => a1 s hs (he ▸ ht)
        rw [l1] at hp
        rw [l2]
        cases hq : nonEff oj.op <;> simp only [hq, cond_true, cond_false, List.mem_append] at hp ⊢
        · exact hp
        · rcases hp with hp | hp | hp
          · exact .inr (.inl hp)
          · exact .inl hp
          · exact .inr (.inr hp)


/-! ### Masks -/
def Rel (ops : Array Oper) (l : Array Bool) (m : Nat) : Prop := l.size = ops.size ∧ ∀ j, l.getD j false = m.testBit j

theorem Rel.getD_true {l : Array Bool} {m : Nat} (R : Rel ops l m) {j : Nat} : l.getD j true = false ↔ j < ops.size ∧ m.testBit j = false := by
  rw [← R.2 j]
  rcases Nat.lt_or_ge j l.size with h | h
  · simp [h, show j < ops.size from R.1 ▸ h]
  · simp [Array.getElem?_eq_none h, show ¬ j < ops.size from by have := R.1; omega]

theorem Rel.set {l : Array Bool} {m i : Nat} (R : Rel ops l m) (hi : i < ops.size) : Rel ops (l.setIfInBounds i true) (m ||| 1 <<< i) := by
  refine ⟨by simp [R.1], fun j => ?_⟩
  rw [Nat.testBit_or, ← R.2 j, Nat.one_shiftLeft, Nat.testBit_two_pow]
  by_cases hij : i = j
  · subst hij
    simp [show i < l.size from R.1 ▸ hi]
  · rw [getD_set_ne false hij]
    simp [hij]

theorem depsFold (es : List Edge) : ∀ (m j : Nat), (es.foldl (fun m e => cond (Region.binds .any e) (m ||| 1 <<< e.on) m) m).testBit j = true ↔ m.testBit j = true ∨ ∃ e ∈ es, Region.binds .any e = true ∧ e.on = j := by
  induction es with
  | nil => simp
  | cons e es ih =>
    intro m j
    rw [List.foldl_cons, ih]
    cases hb : Region.binds .any e with
    | false => simp [hb]
    | true =>
      simp only [cond_true, Nat.testBit_or, Nat.one_shiftLeft, Nat.testBit_two_pow, Bool.or_eq_true, decide_eq_true_eq, List.mem_cons, exists_eq_or_imp, hb, true_and]
      constructor
      · rintro ((h | h) | h)
        · exact .inl h
        · exact .inr (.inl h)
        · exact .inr (.inr h)
      · rintro (h | h | h)
        · exact .inl (.inl h)
        · exact .inl (.inr h)
        · exact .inr h

theorem depsOf_bit {o : Oper} {j : Nat} : (depsOf o).testBit j = true ↔ ∃ e ∈ o.after, Region.binds .any e = true ∧ e.on = j := by
  unfold depsOf
  rw [depsFold]
  simp

theorem deps_get (i : Nat) : (ops.toList.map depsOf)[i]? = (ops[i]?).map depsOf := by simp

theorem sub_bits {d m : Nat} : Nat.beq (d &&& m) d = true ↔ ∀ j, d.testBit j = true → m.testBit j = true := by
  constructor
  · intro h j hj
    have := Nat.eq_of_beq_eq_true h
    rw [← this, Nat.testBit_and] at hj
    simp at hj
    exact hj.2
  · intro h
    have : d &&& m = d := Nat.eq_of_testBit_eq fun j => by
      rw [Nat.testBit_and]
      cases hj : d.testBit j with
      | false => rfl
      | true => rw [h j hj]; rfl
    rw [this]
    simp

theorem readyB_iff {l : Array Bool} {m i : Nat} (R : Rel ops l m) : readyB (ops.toList.map depsOf) m i = true ↔ i ∈ Region.ready .any ops l := by
  rw [mem_ready, R.getD_true]
  unfold readyB
  rw [deps_get]
  cases ho : ops[i]? with
  | none => simp
  | some o =>
    have hlt : i < ops.size := (Array.getElem?_eq_some_iff.1 ho).1
    simp only [Option.map_some, Bool.and_eq_true, sub_bits, depsOf_bit, Bool.not_eq_true', hlt, true_and, Option.some.injEq, exists_eq_left']
    constructor
    · rintro ⟨h1, h2⟩
      exact ⟨h2, fun e he hb => by rw [R.2]; exact h1 _ ⟨e, he, hb, rfl⟩⟩
    · rintro ⟨h1, h2⟩
      exact ⟨fun j ⟨e, he, hb, hj⟩ => by rw [← hj, ← R.2]; exact h2 e he hb, h1⟩

theorem orBits_bit {d x : Nat} : ∀ {as : List Nat} {i : Nat}, (orBits d as i).testBit x = true → ∃ j a, as[j]? = some a ∧ d.testBit (i + j) = true ∧ a.testBit x = true
  | [], i, h => by simp [orBits] at h
  | a :: as, i, h => by
    simp only [orBits] at h
    have tail : (orBits d as (i + 1)).testBit x = true → ∃ j b, (a :: as)[j]? = some b ∧ d.testBit (i + j) = true ∧ b.testBit x = true := fun h => by
      obtain ⟨j, b, h1, h2, h3⟩ := orBits_bit h
      exact ⟨j + 1, b, by simpa using h1, by rw [← h2]; congr 1; omega, h3⟩
    cases hb : d.testBit i with
    | false => rw [hb] at h; exact tail h
    | true =>
      rw [hb, cond_true, Nat.testBit_or, Bool.or_eq_true] at h
      rcases h with h | h
      · exact ⟨0, a, rfl, by simpa using hb, h⟩
      · exact tail h

/-- What closes down over its direct grounds closes over all. -/
theorem ancsOf_sub {m : Nat} : ∀ (ds acc : List Nat), (∀ (j a d : Nat), acc[j]? = some a → (ops.toList.map depsOf)[j]? = some d → (∀ x, d.testBit x = true → m.testBit x = true) → ∀ x, a.testBit x = true → m.testBit x = true) →
    (∀ (j d : Nat), m.testBit j = true → (ops.toList.map depsOf)[j]? = some d → ∀ x, d.testBit x = true → m.testBit x = true) →
    (∀ (j d : Nat), ds[j]? = some d → (ops.toList.map depsOf)[acc.length + j]? = some d) → acc.length + ds.length = ops.size →
    ∀ (j a d : Nat), (ancsOf acc ds)[j]? = some a → (ops.toList.map depsOf)[j]? = some d → (∀ x, d.testBit x = true → m.testBit x = true) → ∀ x, a.testBit x = true → m.testBit x = true
  | [], acc, hacc, hc, hd, hl => by simpa [ancsOf] using hacc
  | d0 :: ds, acc, hacc, hc, hd, hl => by
    simp only [ancsOf]
    refine ancsOf_sub ds _ ?_ hc (fun j d hj => ?_) (by simp at hl ⊢; omega)
    · intro j a d hj hdj hsub x hx
      rcases Nat.lt_trichotomy j acc.length with hlt | rfl | hgt
      · rw [List.getElem?_append_left hlt] at hj
        exact hacc j a d hj hdj hsub x hx
      · rw [List.getElem?_append_right (Nat.le_refl _)] at hj
        simp at hj
        have e0 := hd 0 d0 (by simp)
        rw [Nat.add_zero, hdj] at e0
        cases e0
        rw [← hj, Nat.testBit_or, Bool.or_eq_true] at hx
        rcases hx with hx | hx
        · exact hsub x hx
        · obtain ⟨y, b, h1, h2, h3⟩ := orBits_bit hx
          rw [Nat.zero_add] at h2
          have hm := hsub y h2
          have hy : y < acc.length := by
            rcases Nat.lt_or_ge y acc.length with h | h
            · exact h
            · rw [List.getElem?_eq_none h] at h1; cases h1
          have : ∃ dy, (ops.toList.map depsOf)[y]? = some dy := ⟨_, List.getElem?_eq_getElem (by simp at hl ⊢; omega)⟩
          obtain ⟨dy, hdy⟩ := this
          exact hacc y b dy h1 hdy (hc y dy hm hdy) x h3
      · rw [List.getElem?_eq_none (by simp; omega)] at hj
        cases hj
    · have := hd (j + 1) d (by simpa using hj)
      rw [← this]
      congr 1
      simp
      omega

theorem Rel.closed {l : Array Bool} {m : Nat} (R : Rel ops l m) (hc : Closed ops l) : ∀ j d, m.testBit j = true → (ops.toList.map depsOf)[j]? = some d → ∀ x, d.testBit x = true → m.testBit x = true := by
  intro j d hj hd x hx
  rw [deps_get] at hd
  cases ho : ops[j]? with
  | none => rw [ho] at hd; cases hd
  | some o =>
    rw [ho] at hd
    simp only [Option.map_some, Option.some.injEq] at hd
    subst hd
    obtain ⟨e, he, hb, rfl⟩ := depsOf_bit.1 hx
    rw [← R.2]
    exact hc.2 j o (by rw [R.2]; exact hj) ho e he hb

/-- The masks of a list of flags. -/
def maskOf (l : List Bool) : Nat := match l with
  | [] => 0
  | b :: bs => cond b 1 0 + 2 * maskOf bs

theorem maskOf_bit : ∀ (l : List Bool) (j : Nat), (maskOf l).testBit j = (l[j]?).getD false
  | [], j => by simp [maskOf]
  | b :: bs, 0 => by
    simp only [maskOf, Nat.testBit_zero]
    cases b <;> simp <;> omega
  | b :: bs, j + 1 => by
    simp only [maskOf, Nat.testBit_succ]
    have : (cond b 1 0 + 2 * maskOf bs) / 2 = maskOf bs := by cases b <;> simp <;> omega
    rw [this, maskOf_bit bs j]
    simp

theorem rel_mask {l : Array Bool} (hl : l.size = ops.size) : Rel ops l (maskOf l.toList) := ⟨hl, fun j => by rw [maskOf_bit]; simp⟩

theorem anc_ok : ∀ l, Closed ops l → ∀ j ∈ Region.ready .any ops l, ∀ i, (((ancsOf [] (ops.toList.map depsOf))[j]?).getD 0).testBit i = true → l.getD i false = true := by
  intro l hc j hj i hb
  have R := rel_mask hc.1
  cases ha : (ancsOf [] (ops.toList.map depsOf))[j]? with
  | none => rw [ha] at hb; simp at hb
  | some a =>
    rw [ha, Option.getD_some] at hb
    obtain ⟨h0, o, ho, hall⟩ := mem_ready.1 hj
    rw [R.2]
    refine ancsOf_sub (m := maskOf l.toList) (ops.toList.map depsOf) [] (fun j a d hj => by simp at hj) (R.closed hc) (fun j d hj => by simpa using hj) (by simp) j a (depsOf o) ha (by rw [deps_get, ho]; rfl) ?_ i hb
    intro x hx
    obtain ⟨e, he, hbd, rfl⟩ := depsOf_bit.1 hx
    rw [← R.2]
    exact hall e he hbd


/-! ### From the order that is gone through to all -/
theorem checkP_some {m : Nat} {h h' : AH} {R : Type} {x : Option R} {res : R} : ∀ {ps : List Look}, checkP m h h' x ps = some res → chk m h h' ps ∧ x = some res
  | [], hk => ⟨fun p hp => by simp at hp, hk⟩
  | p :: ps, hk => by
    simp only [checkP] at hk
    cases hb : m.testBit p.at_ with
    | true =>
      rw [hb] at hk
      obtain ⟨h1, h2⟩ := checkP_some hk
      refine ⟨fun q hq hq' => ?_, h2⟩
      rcases List.mem_cons.1 hq with rfl | hq
      · rw [hb] at hq'; cases hq'
      · exact h1 q hq hq'
    | false =>
      rw [hb] at hk
      simp only [cond_false, whenK] at hk
      split at hk
      · rename_i hs
        obtain ⟨h1, h2⟩ := checkP_some hk
        refine ⟨fun q hq hq' => ?_, h2⟩
        rcases List.mem_cons.1 hq with rfl | hq
        · exact hs
        · exact h1 q hq hq'
      · cases hk

theorem step1_bind {R : Type} {i : Nat} {fr : Fr} {h : AH} {k' : Fr → AH → Option R} {res : R} (hk : opsK P rec N ops [i] fr h k' = some res) : ∃ fr1 h1, step1 P rec N ops i fr h = some (fr1, h1) ∧ k' fr1 h1 = some res := by
  rw [opsK_nat, Option.bind_eq_some_iff] at hk
  obtain ⟨⟨fr1, h1⟩, e1, e2⟩ := hk
  exact ⟨fr1, h1, e1, e2⟩

@[reducible] def anOf (ops : Array Oper) : Nat → Nat := fun j => ((ancsOf [] (ops.toList.map depsOf))[j]?).getD 0

theorem opsD_any (hk : ∀ (a b : Fr) (h : AH), a.same b → k a h = k b h) : ∀ (c : List Nat) {l : Array Bool} {m : Nat} {ps : List Look} {fr : Fr} {h : AH}, Rel ops l m → Closed ops l →
    opsD P rec N ops (ops.toList.map depsOf) (ancsOf [] (ops.toList.map depsOf)) c m ps fr h k = some r → AnyA P rec N ops (anOf ops) k r c.length l ps fr h
  | [], l, m, ps, fr, h, R, hc, hd => by
    simp only [opsD] at hd
    cases hb : Nat.beq m (2 ^ ops.size - 1) with
    | false => rw [hb] at hd; cases hd
    | true =>
      rw [hb] at hd
      have hm := Nat.eq_of_beq_eq_true hb
      refine ⟨?_, hd⟩
      cases hr : Region.ready .any ops l with
      | nil => rfl
      | cons j js =>
        have hj : j ∈ Region.ready .any ops l := by rw [hr]; simp
        obtain ⟨h0, -⟩ := mem_ready.1 hj
        obtain ⟨h1, h2⟩ := R.getD_true.1 h0
        rw [hm, Nat.testBit_two_pow_sub_one] at h2
        simp [h1] at h2
  | i :: c, l, m, ps, fr, h, R, hc, hd => by
    simp only [opsD] at hd
    split at hd
    · rename_i o an ho han
      have hlt : i < ops.size := (Array.getElem?_eq_some_iff.1 ho).1
      cases hb : readyB (ops.toList.map depsOf) m i with
      | false => rw [hb] at hd; cases hd
      | true =>
        rw [hb, cond_true] at hd
        have hi := (readyB_iff R).1 hb
        cases hne : nonEff o.op with
        | true =>
          rw [hne, cond_true] at hd
          cases hf : freeB ops (ops.toList.map depsOf) m i o with
          | false => rw [hf] at hd; cases hd
          | true =>
            rw [hf, cond_true] at hd
            obtain ⟨fr1, h1, e1, e2⟩ := step1_bind hd
            obtain ⟨v, e3, e4, e5⟩ := step1_iff ho e1
            obtain ⟨rfl, -⟩ := nonEff_valA (i := i) hne e3
            have IH := opsD_any hk c (R.set hlt) (hc.set hi) e2
            refine AnyA.first hk anc_ok ho hne e4 c.length hc ?_ hi e3 (IH.same hk e5 fun p hp => hp)
            intro j oj hj hji hun hno
            have hjl : j < ops.size := (Array.getElem?_eq_some_iff.1 hj).1
            have := List.all_eq_true.1 hf j (List.mem_range.2 hjl)
            rw [deps_get, hj] at this
            simp only [Option.map_some, Bool.or_eq_true] at this
            rcases this with ((h1 | h1) | h1) | h1
            · exact absurd (Nat.eq_of_beq_eq_true h1) hji
            · rw [(R.getD_true.1 hun).2] at h1; cases h1
            · obtain ⟨e, he, hbd, hon⟩ := depsOf_bit.1 h1
              exact absurd hon (hno e he hbd)
            · exact h1
        | false =>
          rw [hne, cond_false] at hd
          cases hf : onlyB ops.size (ops.toList.map depsOf) m i with
          | false => rw [hf] at hd; cases hd
          | true =>
            rw [hf, cond_true] at hd
            obtain ⟨fr1, h1, e1, e2⟩ := step1_bind hd
            obtain ⟨v, e3, e4, e5⟩ := step1_iff ho e1
            obtain ⟨e6, e7⟩ := checkP_some e2
            have IH := opsD_any hk c (R.set hlt) (hc.set hi) e7
            refine ⟨fun h0 => (by rw [h0] at hi; cases hi), fun j hj oj hoj => ?_⟩
            have hji : j = i := by
              have hjl : j < ops.size := (Array.getElem?_eq_some_iff.1 hoj).1
              have := List.all_eq_true.1 hf j (List.mem_range.2 hjl)
              simp only [Bool.or_eq_true] at this
              rcases this with h1 | h1
              · exact Nat.eq_of_beq_eq_true h1
              · rw [(readyB_iff R).2 hj] at h1; cases h1
            subst hji
            rw [ho] at hoj
            cases hoj
            refine ⟨v, h1, e3, e4, fun _ => by rw [anOf, han]; exact e6, ?_⟩
            rw [hne]
            exact IH.same hk e5 fun p hp => hp
    · cases hd

theorem drawK_any (hk : ∀ (a b : Fr) (h : AH), a.same b → k a h = k b h) {order : List Nat} {fr : Fr} {h : AH} (hd : drawK P rec N ops order fr h k = some r) :
    AnyA P rec N ops (anOf ops) k r ops.size (Array.replicate ops.size false) [] fr h := by
  unfold drawK at hd
  cases hb : Nat.beq order.length ops.size with
  | false => rw [hb] at hd; cases hd
  | true =>
    rw [hb, cond_true] at hd
    have := opsD_any (l := Array.replicate ops.size false) hk order ⟨by simp, fun j => by simp [Array.getElem?_replicate]; split <;> rfl⟩ ⟨by simp, fun j o hj => by
      rw [Array.getD_eq_getD_getElem?, Array.getElem?_replicate] at hj
      split at hj <;> simp at hj⟩ hd
    rw [Nat.eq_of_beq_eq_true hb] at this
    exact this

end

/-! ### The machine -/
section
variable {O : World}

theorem AnyA.sound {rec : Rec} (hrec : RecOk P O rec) {N : Nat} {ops : Array Oper} {an : Nat → Nat} {k : Fr → AH → Option (AV × AH)} {r : AV × AH} {μ0 : Mu} {h0 : AH} {w0 : World} : ∀ (n : Nat) {l : Array Bool} {ps : List Look} {fr : Fr} {h : AH} {μ : Mu} {w : World} {a : Act},
    AnyA P rec N ops an k r n l ps fr h → Sim P O μ h w → FRel μ N fr a.tmps → Ext μ0 h0 w0 μ h → Frm μ0 h0 w0 w → wpAny P .any ops (After P O μ0 N h0 w0 a.defers k r) n l a w
  | 0, l, ps, fr, h, μ, w, a, H, S, F, E, M => ⟨H.1, rfl, rfl, fr, h, μ, H.2, S, F, E, M⟩
  | n + 1, l, ps, fr, h, μ, w, a, H, S, F, E, M => by
    refine ⟨fun hr => ⟨rfl, rfl, fr, h, μ, H.1 hr, S, F, E, M⟩, fun i hi => ?_⟩
    obtain ⟨-, o, ho, -⟩ := mem_ready.1 hi
    obtain ⟨v, h1, e1, e2, -, e3⟩ := H.2 i hi o ho
    unfold wpOp
    simp only [ho]
    have put : ∀ {ν : Mu} {u : Value} {h1 : AH} {w1 : World}, FRel ν N fr a.tmps → VRel ν v u → Sim P O ν h1 w1 → Ext μ0 h0 w0 ν h1 → Frm μ0 h0 w0 w1 → AnyA P rec N ops an k r n (l.setIfInBounds i true) (cond (nonEff o.op) (looksOf P i o.op fr ++ ps) ps) (putd o.dst v fr) h1 →
        wpAny P .any ops (After P O μ0 N h0 w0 a.defers k r) n (l.setIfInBounds i true) (a.put o.dst u) w1 := by
      intro ν u h1 w1 F' hv S' E' M' H'
      have F2 : FRel ν N (putd o.dst v fr) (a.put o.dst u).tmps := by
        cases hd : o.dst with
        | none => exact F'
        | some t =>
          have := e2 t hd
          exact F'.put (by simpa [Nat.blt_eq] using this) hv
      have := AnyA.sound hrec n (a := a.put o.dst u) H' S' F2 E' M'
      rw [Go.Ab.put_defers] at this
      exact this
    have go : opK P rec o.op o.type fr h pk = some (v, h1) → Region.wanted o (yielded ops a.tmps) = true →
        (if Region.wanted o (yielded ops a.tmps) = true then o.wp P a w (wpAny P .any ops (After P O μ0 N h0 w0 a.defers k r) n (l.setIfInBounds i true)) (After P O μ0 N h0 w0 a.defers k r) ∨ (o.asks P a w ∧ LetsOut (After P O μ0 N h0 w0 a.defers k r)) else wpAny P .any ops (After P O μ0 N h0 w0 a.defers k r) n (l.setIfInBounds i true) (a.put o.dst undef) w) := by
      intro hop hw
      rw [if_pos hw]
      left
      obtain ⟨v', h1', hk1, hgo⟩ := opAny_sound hrec S F hop
      simp only [pk, Option.some.injEq, Prod.mk.injEq] at hk1
      obtain ⟨rfl, rfl⟩ := hk1
      refine hgo _ _ fun u w' ⟨ν, g1, g2, g3, g4⟩ => ?_
      exact put (F.mono g3.2.1) g1 g2 (E.trans g3 M.1) (M.trans E g4) e3
    have skip : v = .tup [] → h1 = h → Region.wanted o (yielded ops a.tmps) = false →
        (if Region.wanted o (yielded ops a.tmps) = true then o.wp P a w (wpAny P .any ops (After P O μ0 N h0 w0 a.defers k r) n (l.setIfInBounds i true)) (After P O μ0 N h0 w0 a.defers k r) ∨ (o.asks P a w ∧ LetsOut (After P O μ0 N h0 w0 a.defers k r)) else wpAny P .any ops (After P O μ0 N h0 w0 a.defers k r) n (l.setIfInBounds i true) (a.put o.dst undef) w) := by
      rintro rfl rfl hw
      rw [if_neg (by rw [hw]; simp)]
      exact put (u := undef) F (by simp [VRel, undef, VRels]) S E M e3
    unfold valA at e1
    split at e1
    · rename_i hg
      exact go e1 (by simp [Region.wanted, hg])
    · rename_i j b hg
      split at e1
      · cases e1
      · rename_i t ht
        split at e1
        · rename_i c hget
          obtain ⟨u, hu, hvu⟩ := F.get t _ hget
          simp only [VRel] at hvu
          subst hvu
          have hy : yielded ops a.tmps j = some c := by simp [yielded, ht, hu]
          have hwant : Region.wanted o (yielded ops a.tmps) = (c == b) := by simp [Region.wanted, hg, hy]
          cases hcb : (c == b) with
          | true => rw [hcb] at e1; exact go e1 (hwant.trans hcb)
          | false =>
            rw [hcb] at e1
            simp only [cond_false, Option.some.injEq, Prod.mk.injEq] at e1
            exact skip e1.1.symm e1.2.symm (hwant.trans hcb)
        · rename_i hget
          obtain ⟨u, hu, hvu⟩ := F.get t _ hget
          simp only [VRel] at hvu
          obtain ⟨us, rfl, _⟩ := hvu
          have hy : yielded ops a.tmps j = none := by simp [yielded, ht, hu]
          simp only [Option.some.injEq, Prod.mk.injEq] at e1
          exact skip e1.1.symm e1.2.symm (by simp [Region.wanted, hg, hy])
        · cases e1

theorem drawK_sound (hm : P.follows .mixedOrders = true) {rec : Rec} (hrec : RecOk P O rec) {id N : Nat} {ops : Array Oper} {order : List Nat} {fr : Fr} {h : AH} {k : Fr → AH → Option (AV × AH)} {r : AV × AH} (hk : ∀ (a b : Fr) (h : AH), a.same b → k a h = k b h)
    (hd : drawK P rec N ops order fr h k = some r) {μ : Mu} {w : World} {a : Act} (S : Sim P O μ h w) (F : FRel μ N fr a.tmps) : (Code.region id ops true).wp P (After P O μ N h w a.defers k r) a w :=
  wp_region_any hm ((drawK_any hk hd).sound hrec _ (S.drew) F (Ext.refl _ _ _) ⟨Nat.le_refl _, fun _ _ _ => rfl⟩)

end

/-! ### The slots below N -/
theorem get_low (N : Nat) : ∀ (fr : Fr) (t : Nat), (fr.low N).get t = if t < N then fr.get t else none
  | [], t => by simp [Fr.low, Fr.get]
  | (s, v) :: fr, t => by
    have ih := get_low N fr t
    unfold Fr.low at ih ⊢
    rw [List.filter_cons]
    dsimp only
    cases hb : Nat.blt s N with
    | true =>
      have hs : s < N := by simpa [Nat.blt_eq] using hb
      simp only [if_true, get_cons, ih]
      by_cases h : s = t
      · subst h; simp [hs]
      · simp only [if_neg h]
    | false =>
      have hs : ¬ s < N := by
        intro h
        rw [show Nat.blt s N = true from by simpa [Nat.blt_eq] using h] at hb
        cases hb
      simp only [Bool.false_eq_true, if_false, get_cons, ih]
      by_cases h : s = t
      · subst h; simp [hs]
      · simp only [if_neg h]

theorem Fr.same.low {a b : Fr} (h : a.same b) (N : Nat) : (a.low N).same (b.low N) := fun t => by rw [get_low, get_low, h t]

theorem putd_low {N : Nat} {d : Option Tmp} {v : AV} {fr : Fr} (hd : fitsN N d) : ((Go.Ab.putd d v fr).low N) = Go.Ab.putd d v (fr.low N) := by
  cases d with
  | none => rfl
  | some t =>
    have := hd t rfl
    show ((t, v) :: fr).filter _ = _
    rw [List.filter_cons]
    dsimp only
    rw [this]
    rfl

/-! ### Regions some of whose new variables are laid at their begin -/
section
variable {O : World} {N : Nat} {ops0 ops : Array Oper} {J : Nat → Option (Nat × TypeId × List AV)}

structure ResOps (P : Program) (N : Nat) (ops0 ops : Array Oper) (J : Nat → Option (Nat × TypeId × List AV)) : Prop where
  size : ops.size = ops0.size
  same : ∀ i, J i = none → ops[i]? = ops0[i]?
  res : ∀ i j t zs, J i = some (j, t, zs) → ∃ o, ops0[i]? = some o ∧ o.op = .alloc t ∧ zeroCells? P t = some zs ∧ ops[i]? = some { o with op := .move (.tmp (N + i)) }
  inj : ∀ i i' j t zs t' zs', J i = some (j, t, zs) → J i' = some (j, t', zs') → i = i'

theorem ResOps.dst (R : ResOps P N ops0 ops J) (j : Nat) : (ops[j]?).bind (·.dst) = (ops0[j]?).bind (·.dst) := by
  cases hJ : J j with
  | none => rw [R.same j hJ]
  | some x =>
    obtain ⟨id, t, zs⟩ := x
    obtain ⟨o, h1, _, _, h4⟩ := R.res j id t zs hJ
    rw [h1, h4]
    rfl

theorem ResOps.ready_iff (R : ResOps P N ops0 ops J) {l : Array Bool} {i : Nat} : i ∈ Region.ready .any ops l ↔ i ∈ Region.ready .any ops0 l := by
  rw [mem_ready, mem_ready]
  cases hJ : J i with
  | none => rw [R.same i hJ]
  | some x =>
    obtain ⟨id, t, zs⟩ := x
    obtain ⟨o, h1, _, _, h4⟩ := R.res i id t zs hJ
    rw [h1, h4]
    simp

theorem ResOps.ready_nil (R : ResOps P N ops0 ops J) {l : Array Bool} : Region.ready .any ops l = [] ↔ Region.ready .any ops0 l = [] := by
  constructor <;> intro h <;> rw [List.eq_nil_iff_forall_not_mem] at h ⊢ <;> intro i hi
  · exact h i (R.ready_iff.2 hi)
  · exact h i (R.ready_iff.1 hi)

/-- A block that was laid comes to be in the world. -/
theorem Sim.lay {μ : Mu} {h : AH} {w : World} (S : Sim P O μ h w) {j : Nat} {cs : List AV} {us : List Value} {e : TypeId} (hj : h.blks[j]? = some (.cells cs e)) (hμ : μ j = none) (hv : VRels μ cs us) (h1 : cs.all AV.one = true) :
    Sim P O (Mu.set μ j ⟨w.heap.size, 0, us.length⟩) h (w.alloc (.cells us.toArray e)) := by
  have hle := Mu.le_set (L := ⟨w.heap.size, 0, us.length⟩) hμ
  have hjs : j < h.blks.size := (Array.getElem?_eq_some_iff.1 hj).1
  refine { old := S.old, os := S.os, tape := S.tape, output := S.output, base := by have := S.base; simp; omega, dom := fun i L hL => ?_, keep := fun b hb => ?_, place := fun i L hL => ?_, blk := fun i L b hL hb => ?_, inj := fun i k L M hL hM li lk he => ?_ }
  · rw [heap_alloc_lt _ _ _ (Nat.lt_of_lt_of_le hb S.base)]; exact S.keep b hb
  · unfold Mu.set at hL
    split at hL
    · subst_vars; exact hjs
    · exact S.dom i L hL
  · unfold Mu.set at hL
    split at hL
    · cases hL; have := S.base; simp; omega
    · have := S.place i L hL; simp; omega
  · unfold Mu.set at hL
    split at hL
    · rename_i hi
      subst hi
      cases hL
      rw [hj] at hb
      cases hb
      refine ⟨⟨_, heap_alloc_new _ _, by simp, by simp; have := hv.length; omega, fun k v hk => ?_⟩, h1⟩
      obtain ⟨u, hu, huv⟩ := hv.get k v hk
      exact ⟨u, by simpa using hu, huv.mono hle⟩
    · exact (S.blk i L b hL hb).step hle fun _ => heap_alloc_lt _ _ _ (S.place i L hL).2
  · unfold Mu.set at hL hM
    split at hL <;> split at hM
    · omega
    · cases hL; have := S.place k M hM; simp at he; omega
    · cases hM; have := S.place i L hL; simp at he; omega
    · exact S.inj i k L M hL hM li lk he

theorem Ext.lay {μ0 μ : Mu} {h0 h : AH} {w0 w : World} (E : Ext μ0 h0 w0 μ h) (hw : w0.heap.size ≤ w.heap.size) {j : Nat} (hj0 : h0.blks.size ≤ j) (hμ : μ j = none) {b t : Nat} : Ext μ0 h0 w0 (Mu.set μ j ⟨w.heap.size, b, t⟩) h := by
  obtain ⟨e1, e2, e3, e4, e5⟩ := E
  refine ⟨e1, Mu.le_trans e2 (Mu.le_set hμ), fun i hi => ?_, e4, fun i L h1 h2 hL => ?_⟩
  · unfold Mu.set
    rw [if_neg (by omega), e3 i hi]
  · unfold Mu.set at hL
    split at hL
    · cases hL
      exact .inl hw
    · exact e5 i L h1 h2 hL

theorem alloc_goes {t : TypeId} {zs : List AV} (hz : zeroCells? P t = some zs) {o : Oper} (ho : o.op = .alloc t) (μ : Mu) (a : Act) (w : World) :
    ∃ us : List Value, VRels μ zs us ∧ zs.all AV.one = true ∧ OpGoes P o a w fun u w' => u = .pointer (some ⟨w.heap.size, 0, none⟩) ∧ w' = w.alloc (.cells us.toArray t) := by
  obtain ⟨dst, op, type, pos, after, guard⟩ := o
  dsimp only at ho
  subst ho
  obtain ⟨z, h1, h2, h3⟩ := zeroCells_sound (μ := μ) hz w
  refine ⟨_, h2, h3, OpGoes.of_sem (s := Instr.alloc t true (.tuple #[])) rfl (w' := w.alloc (.cells _ t)) (u := .pointer (some ⟨w.heap.size, 0, none⟩)) ?_ ⟨rfl, rfl⟩⟩
  simp [Instr.alloc, h1, newVar, newRow]

theorem AnyA.soundR {rec : Rec} (hrec : RecOk P O rec) (R : ResOps P N ops0 ops J) (hlow : ∀ (i : Nat) (o : Oper), ops0[i]? = some o → ∀ t ∈ Oper.looksAt ops0 o, t < N) {an : Nat → Nat}
    (hanc : ∀ l, Closed ops l → ∀ j ∈ Region.ready .any ops l, ∀ i, (an j).testBit i = true → l.getD i false = true)
    {k : Fr → AH → Option (AV × AH)} {r : AV × AH} {μ0 : Mu} {h0 : AH} {w0 : World} : ∀ (n : Nat) {l : Array Bool} {ps : List Look} {fr : Fr} {h : AH} {μ : Mu} {w : World} {a : Act}, Closed ops l →
    AnyA P rec N ops an (fun fr h => k (fr.low N) h) r n l ps fr h → Sim P O μ h w → FRel μ N (fr.low N) a.tmps → Ext μ0 h0 w0 μ h → Frm μ0 h0 w0 w →
    (∀ i j t zs, J i = some (j, t, zs) → fr.get (N + i) = some (.ptr (some (.new j 0))) ∧ (⟨i, .new j 0, 0⟩ : Look) ∈ ps ∧ h0.blks.size ≤ j ∧ (l.getD i false = false → h.blks[j]? = some (.cells zs t) ∧ μ j = none)) →
    wpAny P .any ops0 (After P O μ0 N h0 w0 a.defers k r) n l a w
  | 0, l, ps, fr, h, μ, w, a, C, H, S, F, E, M, HJ => ⟨R.ready_nil.1 H.1, rfl, rfl, fr.low N, h, μ, H.2, S, F, E, M⟩
  | n + 1, l, ps, fr, h, μ, w, a, C, H, S, F, E, M, HJ => by
    refine ⟨fun hr => ⟨rfl, rfl, fr.low N, h, μ, H.1 (R.ready_nil.2 hr), S, F, E, M⟩, fun i hi => ?_⟩
    have hi' := R.ready_iff.2 hi
    obtain ⟨hun, o', ho', -⟩ := mem_ready.1 hi'
    obtain ⟨v, h1, e1, e2, ec, e3⟩ := H.2 i hi' o' ho'
    have hun' : l.getD i false = false := by
      rw [Array.getD_eq_getD_getElem?] at hun ⊢
      cases hq : l[i]? with
      | none => rfl
      | some b => rw [hq] at hun; simpa using hun
    have C' := C.set hi'
    -- the rest, once the operation is done
    have put : ∀ {ν : Mu} {u : Value} {h2 : AH} {w1 : World}, h2 = h1 → FRel ν N (fr.low N) a.tmps → VRel ν v u → Sim P O ν h2 w1 → Ext μ0 h0 w0 ν h2 → Frm μ0 h0 w0 w1 →
        (∀ i' j t zs, i' ≠ i → J i' = some (j, t, zs) → l.getD i' false = false → h2.blks[j]? = some (.cells zs t) ∧ ν j = none) →
        wpAny P .any ops0 (After P O μ0 N h0 w0 a.defers k r) n (l.setIfInBounds i true) (a.put o'.dst u) w1 := by
      intro ν u h2 w1 hh F' hv S' E' M' HB
      subst hh
      have F2 : FRel ν N ((putd o'.dst v fr).low N) (a.put o'.dst u).tmps := by
        rw [putd_low e2]
        cases hd : o'.dst with
        | none => exact F'
        | some t =>
          have := e2 t hd
          exact F'.put (by simpa [Nat.blt_eq] using this) hv
      have := AnyA.soundR hrec R hlow hanc n (a := a.put o'.dst u) C' e3 S' F2 E' M' (fun i' j t zs hj => by
        obtain ⟨g1, g2, g3, g4⟩ := HJ i' j t zs hj
        refine ⟨?_, ?_, g3, fun hl => ?_⟩
        · have hne : ∀ s, o'.dst = some s → s ≠ N + i' := fun s hs => by
            have := e2 s hs
            have h3 : s < N := by simpa [Nat.blt_eq] using this
            intro hc
            rw [hc] at h3
            exact absurd h3 (Nat.not_lt.2 (Nat.le_add_right N i'))
          rw [putd_get hne]
          exact g1
        · cases nonEff o'.op with
          | true => exact List.mem_append_right _ g2
          | false => exact g2
        · by_cases hii : i' = i
          · subst hii
            exfalso
            have hlt : i' < l.size := by
              rcases Nat.lt_or_ge i' l.size with h | h
              · exact h
              · rw [Array.getD_eq_getD_getElem?, Array.getElem?_eq_none h] at hun
                cases hun
            rw [Array.getD_eq_getD_getElem?, Array.getElem?_setIfInBounds_self, if_pos hlt] at hl
            cases hl
          · rw [getD_set_ne false (fun h => hii h.symm)] at hl
            exact HB i' j t zs hii hj hl)
      rw [Go.Ab.put_defers] at this
      exact this
    -- the blocks that are laid stay
    have stay : ∀ i' j t zs, J i' = some (j, t, zs) → l.getD i' false = false → h1.blks[j]? = some (.cells zs t) := by
      intro i' j t zs hj hl
      obtain ⟨g1, g2, g3, g4⟩ := HJ i' j t zs hj
      cases hne : nonEff o'.op with
      | true => rw [(nonEff_valA (i := i) hne e1).1]; exact (g4 hl).1
      | false =>
        have hb : (an i).testBit i' = false := by
          cases hb : (an i).testBit i' with
          | false => rfl
          | true =>
            have := hanc l C i hi' i' hb
            rw [hl] at this
            cases this
        have := (ec hne _ g2 hb).2 rfl
        rw [show h1.blks[j]? = h.blks[j]? from this]
        exact (g4 hl).1
    cases hJ : J i with
    | none =>
      rw [R.same i hJ] at ho'
      have hlo := hlow i o' ho'
      have e1' : valA P rec ops0 o' (fr.low N) h = some (v, h1) := by
        rw [← e1]
        have a1 : valA P rec ops0 o' (fr.low N) h = valA P rec ops0 o' fr h := valA_same fun t ht => by rw [get_low, if_pos (hlo t ht)]
        rw [a1]
        unfold valA
        simp only [R.dst]
      unfold wpOp
      simp only [ho']
      have go : opK P rec o'.op o'.type (fr.low N) h pk = some (v, h1) → Region.wanted o' (yielded ops0 a.tmps) = true →
          (if Region.wanted o' (yielded ops0 a.tmps) = true then o'.wp P a w (wpAny P .any ops0 (After P O μ0 N h0 w0 a.defers k r) n (l.setIfInBounds i true)) (After P O μ0 N h0 w0 a.defers k r) ∨ (o'.asks P a w ∧ LetsOut (After P O μ0 N h0 w0 a.defers k r)) else wpAny P .any ops0 (After P O μ0 N h0 w0 a.defers k r) n (l.setIfInBounds i true) (a.put o'.dst undef) w) := by
        intro hop hw
        rw [if_pos hw]
        left
        obtain ⟨v', h1', hk1, hgo⟩ := opAny_sound hrec S F hop
        simp only [pk, Option.some.injEq, Prod.mk.injEq] at hk1
        obtain ⟨rfl, rfl⟩ := hk1
        refine hgo _ _ fun u w' ⟨ν, g1, g2, g3, g4⟩ => ?_
        refine put rfl (F.mono g3.2.1) g1 g2 (E.trans g3 M.1) (M.trans E g4) fun i' j t zs hii hj hl => ⟨stay i' j t zs hj hl, ?_⟩
        obtain ⟨q1, q2, q3, q4⟩ := HJ i' j t zs hj
        have hlt : j < h.blks.size := (Array.getElem?_eq_some_iff.1 (q4 hl).1).1
        rw [g3.2.2.1 j hlt]
        exact (q4 hl).2
      have skip : v = .tup [] → h1 = h → Region.wanted o' (yielded ops0 a.tmps) = false →
          (if Region.wanted o' (yielded ops0 a.tmps) = true then o'.wp P a w (wpAny P .any ops0 (After P O μ0 N h0 w0 a.defers k r) n (l.setIfInBounds i true)) (After P O μ0 N h0 w0 a.defers k r) ∨ (o'.asks P a w ∧ LetsOut (After P O μ0 N h0 w0 a.defers k r)) else wpAny P .any ops0 (After P O μ0 N h0 w0 a.defers k r) n (l.setIfInBounds i true) (a.put o'.dst undef) w) := by
        intro hv0 hh hw
        rw [if_neg (by rw [hw]; simp)]
        refine put (u := undef) hh.symm F (by rw [hv0]; simp [VRel, undef, VRels]) S E M fun i' j t zs hii hj hl => ⟨?_, ?_⟩
        · exact ((HJ i' j t zs hj).2.2.2 hl).1
        · exact ((HJ i' j t zs hj).2.2.2 hl).2
      unfold valA at e1'
      split at e1'
      · rename_i hg
        exact go e1' (by simp [Region.wanted, hg])
      · rename_i j b hg
        split at e1'
        · cases e1'
        · rename_i t ht
          split at e1'
          · rename_i c hget
            obtain ⟨u, hu, hvu⟩ := F.get t _ hget
            simp only [VRel] at hvu
            subst hvu
            have hy : yielded ops0 a.tmps j = some c := by simp [yielded, ht, hu]
            have hwant : Region.wanted o' (yielded ops0 a.tmps) = (c == b) := by simp [Region.wanted, hg, hy]
            cases hcb : (c == b) with
            | true => rw [hcb] at e1'; exact go e1' (hwant.trans hcb)
            | false =>
              rw [hcb] at e1'
              simp only [cond_false, Option.some.injEq, Prod.mk.injEq] at e1'
              exact skip e1'.1.symm e1'.2.symm (hwant.trans hcb)
          · rename_i hget
            obtain ⟨u, hu, hvu⟩ := F.get t _ hget
            simp only [VRel] at hvu
            obtain ⟨us, rfl, _⟩ := hvu
            have hy : yielded ops0 a.tmps j = none := by simp [yielded, ht, hu]
            simp only [Option.some.injEq, Prod.mk.injEq] at e1'
            exact skip e1'.1.symm e1'.2.symm (by simp [Region.wanted, hg, hy])
          · cases e1'
    | some x =>
      obtain ⟨j, t, zs⟩ := x
      obtain ⟨o, ho, hop, hz, ho2⟩ := R.res i j t zs hJ
      rw [ho2] at ho'
      cases ho'
      obtain ⟨q1, q2, q3, q4⟩ := HJ i j t zs hJ
      obtain ⟨hblk, hμ⟩ := q4 hun'
      unfold wpOp
      simp only [ho]
      -- where it is done, it hands out what was laid
      have go : v = .ptr (some (.new j 0)) → h1 = h → Region.wanted o (yielded ops0 a.tmps) = true →
          (if Region.wanted o (yielded ops0 a.tmps) = true then o.wp P a w (wpAny P .any ops0 (After P O μ0 N h0 w0 a.defers k r) n (l.setIfInBounds i true)) (After P O μ0 N h0 w0 a.defers k r) ∨ (o.asks P a w ∧ LetsOut (After P O μ0 N h0 w0 a.defers k r)) else wpAny P .any ops0 (After P O μ0 N h0 w0 a.defers k r) n (l.setIfInBounds i true) (a.put o.dst undef) w) := by
        intro hv0 hh hw
        rw [if_pos hw]
        left
        obtain ⟨us, hv, hone, hgo⟩ := alloc_goes hz hop μ a w
        refine hgo _ _ ?_
        rintro u w' ⟨rfl, rfl⟩
        refine put (ν := Mu.set μ j ⟨w.heap.size, 0, us.length⟩) hh.symm (F.mono (Mu.le_set hμ)) ?_ (S.lay hblk hμ hv hone) (E.lay M.1 q3 hμ) ⟨by have := M.1; simp; omega, fun b hb hn => ?_⟩ fun i' j' t' zs' hii hj' hl => ⟨?_, ?_⟩
        · rw [hv0]
          simp only [VRel]
          exact ⟨_, ⟨_, set_self _ _ _, by simp⟩, rfl⟩
        · rw [heap_alloc_lt _ _ _ (Nat.lt_of_lt_of_le hb M.1)]
          exact M.2 b hb hn
        · exact ((HJ i' j' t' zs' hj').2.2.2 hl).1
        · unfold Mu.set
          rw [if_neg]
          · exact ((HJ i' j' t' zs' hj').2.2.2 hl).2
          · rintro rfl
            exact hii (R.inj i' i j' t' zs' t zs hj' hJ)
      have skip : v = .tup [] → h1 = h → Region.wanted o (yielded ops0 a.tmps) = false →
          (if Region.wanted o (yielded ops0 a.tmps) = true then o.wp P a w (wpAny P .any ops0 (After P O μ0 N h0 w0 a.defers k r) n (l.setIfInBounds i true)) (After P O μ0 N h0 w0 a.defers k r) ∨ (o.asks P a w ∧ LetsOut (After P O μ0 N h0 w0 a.defers k r)) else wpAny P .any ops0 (After P O μ0 N h0 w0 a.defers k r) n (l.setIfInBounds i true) (a.put o.dst undef) w) := by
        intro hv0 hh hw
        rw [if_neg (by rw [hw]; simp)]
        refine put (u := undef) hh.symm F (by rw [hv0]; simp [VRel, undef, VRels]) S E M fun i' j t zs hii hj hl => ⟨?_, ?_⟩
        · exact ((HJ i' j t zs hj).2.2.2 hl).1
        · exact ((HJ i' j t zs hj).2.2.2 hl).2
      have mv : opK P rec (.move (.tmp (N + i))) o.type fr h pk = some (v, h1) → v = .ptr (some (.new j 0)) ∧ h1 = h := by
        intro hk
        simp only [opK, evO, q1, Option.bind_some, pk, Option.some.injEq, Prod.mk.injEq] at hk
        exact ⟨hk.1.symm, hk.2.symm⟩
      have hguard := hlow i o ho
      unfold valA at e1
      dsimp only at e1
      split at e1
      · rename_i hg
        obtain ⟨k1, k2⟩ := mv e1
        exact go k1 k2 (by simp [Region.wanted, hg])
      · rename_i jj b hg
        rw [R.dst] at e1
        split at e1
        · cases e1
        · rename_i tt ht
          have htN : tt < N := hguard tt (by simp [Oper.looksAt, hg, ht])
          split at e1
          · rename_i c hget
            obtain ⟨u, hu, hvu⟩ := F.get tt _ (by rw [get_low, if_pos htN]; exact hget)
            simp only [VRel] at hvu
            subst hvu
            have hy : yielded ops0 a.tmps jj = some c := by simp [yielded, ht, hu]
            have hwant : Region.wanted o (yielded ops0 a.tmps) = (c == b) := by simp [Region.wanted, hg, hy]
            cases hcb : (c == b) with
            | true =>
              rw [hcb] at e1
              obtain ⟨k1, k2⟩ := mv e1
              exact go k1 k2 (hwant.trans hcb)
            | false =>
              rw [hcb] at e1
              simp only [cond_false, Option.some.injEq, Prod.mk.injEq] at e1
              exact skip e1.1.symm e1.2.symm (hwant.trans hcb)
          · rename_i hget
            obtain ⟨u, hu, hvu⟩ := F.get tt _ (by rw [get_low, if_pos htN]; exact hget)
            simp only [VRel] at hvu
            obtain ⟨us, rfl, _⟩ := hvu
            have hy : yielded ops0 a.tmps jj = none := by simp [yielded, ht, hu]
            simp only [Option.some.injEq, Prod.mk.injEq] at e1
            exact skip e1.1.symm e1.2.symm (by simp [Region.wanted, hg, hy])
          · cases e1

theorem drawR_sound {rec : Rec} (hrec : RecOk P O rec) {order : List Nat} {k : Fr → AH → Option (AV × AH)} {r : AV × AH} (hk : ∀ (a b : Fr) (h : AH), a.same b → k a h = k b h) (hlow : ∀ (i : Nat) (o : Oper), ops0[i]? = some o → ∀ t ∈ Oper.looksAt ops0 o, t < N)
    {μ : Mu} {h0 : AH} {w : World} {a : Act} (S0 : Sim P O μ h0 w) : ∀ (is : List Nat) {ops : Array Oper} {ps : List Look} {fr : Fr} {h : AH} {J : Nat → Option (Nat × TypeId × List AV)}, ResOps P N ops0 ops J → Sim P O μ h w → FRel μ N (fr.low N) a.tmps → h0.blks.size ≤ h.blks.size → (∀ i, i < h0.blks.size → h.blks[i]? = h0.blks[i]?) →
    (∀ i j t zs, J i = some (j, t, zs) → fr.get (N + i) = some (.ptr (some (.new j 0))) ∧ (⟨i, .new j 0, 0⟩ : Look) ∈ ps ∧ h0.blks.size ≤ j ∧ j < h.blks.size ∧ h.blks[j]? = some (.cells zs t)) →
    drawR P rec N order is ops ps fr h k = some r → wpAny P .any ops0 (After P O μ N h0 w a.defers k r) ops0.size (Array.replicate ops0.size false) a w
  | [], ops, ps, fr, h, J, R, S, F, hs, hb, HJ, hd => by
    simp only [drawR] at hd
    cases hbq : Nat.beq order.length ops.size with
    | false => rw [hbq] at hd; cases hd
    | true =>
      rw [hbq, cond_true] at hd
      have hk' : ∀ (a b : Fr) (h : AH), a.same b → (fun (fr : Fr) (h : AH) => k (fr.low N) h) a h = (fun (fr : Fr) (h : AH) => k (fr.low N) h) b h := fun a b h e => hk _ _ _ (e.low N)
      have C0 : Closed ops (Array.replicate ops.size false) := ⟨by simp, fun j o hj => by
        rw [Array.getD_eq_getD_getElem?, Array.getElem?_replicate] at hj
        split at hj <;> simp at hj⟩
      have any := opsD_any (l := Array.replicate ops.size false) hk' order ⟨by simp, fun j => by simp [Array.getElem?_replicate]; split <;> rfl⟩ C0 hd
      rw [Nat.eq_of_beq_eq_true hbq] at any
      have hnone : ∀ j, h0.blks.size ≤ j → μ j = none := fun j hj => by
        cases hq : μ j with
        | none => rfl
        | some L => have := S0.dom _ _ hq; omega
      have E : Ext μ h0 w μ h := ⟨hs, Mu.le_refl μ, fun _ _ => rfl, fun i hi hl b hbb => hl b (by rw [hb i hi]; exact hbb), fun i L h1 h2 hL => by rw [hnone i h1] at hL; cases hL⟩
      have := AnyA.soundR hrec R hlow anc_ok (μ0 := μ) (h0 := h0) (w0 := w) ops.size C0 any S F E ⟨Nat.le_refl _, fun _ _ _ => rfl⟩ (fun i j t zs hj => by
        obtain ⟨g1, g2, g3, g4, g5⟩ := HJ i j t zs hj
        exact ⟨g1, g2, g3, fun _ => ⟨g5, hnone j g3⟩⟩)
      rw [R.size] at this
      exact this
  | i :: is, ops, ps, fr, h, J, R, S, F, hs, hb, HJ, hd => by
    simp only [drawR] at hd
    split at hd
    · rename_i o ho
      split at hd
      · rename_i t hop
        split at hd
        · rename_i zs hz
          have hJi : J i = none := by
            cases hq : J i with
            | none => rfl
            | some x =>
              obtain ⟨j, t', zs'⟩ := x
              obtain ⟨o2, _, _, _, h4⟩ := R.res i j t' zs' hq
              rw [h4] at ho
              cases ho
              cases hop
          have ho0 : ops0[i]? = some o := by rw [← R.same i hJi]; exact ho
          have hsz : i < ops.size := (Array.getElem?_eq_some_iff.1 ho).1
          refine drawR_sound hrec hk hlow S0 is (J := fun x => if x = i then some (h.blks.size, t, zs) else J x) ?_ ?_ ?_ ?_ ?_ ?_ hd
          · refine ⟨by simpa using R.size, fun x hx => ?_, fun x j t' zs' hx => ?_, fun x x' j t1 z1 t2 z2 hx hx' => ?_⟩
            · by_cases hxi : x = i
              · rw [if_pos hxi] at hx; cases hx
              · rw [if_neg hxi] at hx
                rw [Array.getElem?_setIfInBounds_ne (fun h => hxi h.symm)]
                exact R.same x hx
            · by_cases hxi : x = i
              · subst hxi
                rw [if_pos rfl] at hx
                cases hx
                exact ⟨o, ho0, hop, hz, by rw [Array.getElem?_setIfInBounds_self, if_pos hsz]⟩
              · rw [if_neg hxi] at hx
                obtain ⟨o2, h1, h2, h3, h4⟩ := R.res x j t' zs' hx
                exact ⟨o2, h1, h2, h3, by rw [Array.getElem?_setIfInBounds_ne (fun h => hxi h.symm)]; exact h4⟩
            · by_cases hxi : x = i <;> by_cases hxi' : x' = i
              · rw [hxi, hxi']
              · rw [if_pos hxi] at hx
                rw [if_neg hxi'] at hx'
                cases hx
                have := (HJ x' _ t2 z2 hx').2.2.2.1
                omega
              · rw [if_neg hxi] at hx
                rw [if_pos hxi'] at hx'
                cases hx'
                have := (HJ x _ t1 z1 hx).2.2.2.1
                omega
              · rw [if_neg hxi] at hx
                rw [if_neg hxi'] at hx'
                exact R.inj x x' j t1 z1 t2 z2 hx hx'
          · -- the world is as it was
            have hnb : μ h.blks.size = none := by
              cases hq : μ h.blks.size with
              | none => rfl
              | some L => have := S.dom _ _ hq; omega
            refine { old := S.old, os := S.os, tape := S.tape, output := S.output, base := S.base, keep := S.keep, dom := fun x L hL => ?_, place := S.place, blk := fun x L b hL hbb => ?_, inj := fun x y L M hL hM lx ly he => ?_ }
            · have := S.dom x L hL
              simp
              omega
            · have hx := S.dom x L hL
              refine S.blk x L b hL ?_
              simp only [Array.getElem?_push] at hbb
              rwa [if_neg (by omega)] at hbb
            · have hx := S.dom x L hL
              have hy := S.dom y M hM
              exact S.inj x y L M hL hM (live_lt (by omega) lx) (live_lt (by omega) ly) he
          · have : Fr.low N ((N + i, AV.ptr (some h.next)) :: fr) = fr.low N := by
              show List.filter _ (_ :: fr) = _
              rw [List.filter_cons]
              dsimp only
              rw [show Nat.blt (N + i) N = false from by
                cases hq : Nat.blt (N + i) N with
                | false => rfl
                | true =>
                  have : N + i < N := by simpa [Nat.blt_eq] using hq
                  omega]
              rfl
            rw [this]
            exact F
          · simp
            omega
          · intro x hx
            simp only [Array.getElem?_push]
            rw [if_neg (by omega)]
            exact hb x hx
          · intro x j t' zs' hx
            by_cases hxi : x = i
            · subst hxi
              rw [if_pos rfl] at hx
              cases hx
              exact ⟨by rw [get_cons, if_pos rfl], List.mem_cons_self .., hs, by simp, by simp⟩
            · rw [if_neg hxi] at hx
              obtain ⟨g1, g2, g3, g4, g5⟩ := HJ x j t' zs' hx
              refine ⟨?_, List.mem_cons_of_mem _ g2, g3, by simp; omega, ?_⟩
              · rw [get_cons, if_neg (by omega)]
                exact g1
              · simp only [Array.getElem?_push]
                rw [if_neg (by omega)]
                exact g5
        · cases hd
      · cases hd
    · cases hd

theorem drawX_sound (hm : P.follows .mixedOrders = true) {rec : Rec} (hrec : RecOk P O rec) {id : Nat} {ops : Array Oper} {order resv : List Nat} {fr : Fr} {h : AH} {k : Fr → AH → Option (AV × AH)} {r : AV × AH} (hk : ∀ (a b : Fr) (h : AH), a.same b → k a h = k b h)
    (hd : drawX P rec N ops order resv fr h k = some r) {μ : Mu} {w : World} {a : Act} (S : Sim P O μ h w) (F : FRel μ N fr a.tmps) : (Code.region id ops true).wp P (After P O μ N h w a.defers k r) a w := by
  unfold drawX at hd
  split at hd
  · exact drawK_sound hm hrec hk hd S F
  · rename_i i is
    cases hb : lowB N ops with
    | false => rw [hb] at hd; cases hd
    | true =>
      rw [hb, cond_true] at hd
      have hlow : ∀ (i : Nat) (o : Oper), ops[i]? = some o → ∀ t ∈ Oper.looksAt ops o, t < N := by
        intro i o ho t ht
        unfold lowB at hb
        rw [List.all_eq_true] at hb
        have := hb o (by rw [Array.mem_toList_iff]; exact Array.mem_of_getElem? ho)
        rw [List.all_eq_true] at this
        simpa [Nat.blt_eq] using this t ht
      have F' : FRel μ N (fr.low N) a.tmps := ⟨F.size, fun t v hv => by
        rw [get_low] at hv
        split at hv
        · exact F.get t v hv
        · cases hv⟩
      exact wp_region_any hm (drawR_sound hrec hk hlow (h0 := h) (w := w.drew) (S.drew) (i :: is) (J := fun _ => none) ⟨rfl, fun _ _ => rfl, fun _ _ _ _ h => (by cases h), fun _ _ _ _ _ _ _ h => (by cases h)⟩ (S.drew) F' (Nat.le_refl _) (fun _ _ => rfl) (fun _ _ _ _ h => (by cases h)) hd)
end

/-! ### What comes behind asks what is known alone -/
theorem opsK_same {rec : Rec} {N : Nat} {ops : Array Oper} {R : Type} {k : Fr → AH → Option R} (hk : ∀ (a b : Fr) (h : AH), a.same b → k a h = k b h) : ∀ (is : List Nat) {a b : Fr} {h : AH}, a.same b → opsK P rec N ops is a h k = opsK P rec N ops is b h k
  | [], a, b, h, e => hk a b h e
  | i :: is, a, b, h, e => by
    have put : ∀ (d : Option Tmp) (v : AV) {a b : Fr} (h : AH), a.same b → (putT N d v a fun fr' => opsK P rec N ops is fr' h k) = putT N d v b fun fr' => opsK P rec N ops is fr' h k := by
      intro d v a b h e
      unfold putT
      cases d with
      | none => exact opsK_same hk is e
      | some t => dsimp only; rw [opsK_same hk is (e.putd (some t) v)]
    have go : ∀ (o : Oper) {a b : Fr}, a.same b → (opK P rec o.op o.type a h fun v h' => putT N o.dst v a fun fr' => opsK P rec N ops is fr' h' k) = opK P rec o.op o.type b h fun v h' => putT N o.dst v b fun fr' => opsK P rec N ops is fr' h' k := by
      intro o a b e
      rw [opK_same (b := b) fun x _ => evO_same fun t _ => e t]
      congr 1
      funext v h'
      exact put _ _ _ e
    have learn : ∀ (t : Tmp) (v : AV), Fr.same ((t, v) :: a) ((t, v) :: b) := fun t v => e.putd (some t) v
    simp only [opsK]
    cases ho : ops[i]? with
    | none => rfl
    | some o =>
      dsimp only
      cases hg : o.guard with
      | none => exact go o e
      | some jb =>
        obtain ⟨j, b'⟩ := jb
        dsimp only
        cases ht : (ops[j]?).bind (·.dst) with
        | none => rfl
        | some t =>
          dsimp only
          rw [e t, go o (learn t (.bool true)), go o (learn t (.bool false)), put o.dst (.tup []) h (learn t (.bool true)), put o.dst (.tup []) h (learn t (.bool false)), put o.dst (.tup []) h e]

theorem opsD_same {rec : Rec} {N : Nat} {ops : Array Oper} {deps ancs : List Nat} {R : Type} {k : Fr → AH → Option R} (hk : ∀ (a b : Fr) (h : AH), a.same b → k a h = k b h) : ∀ (c : List Nat) {m : Nat} {ps : List Look} {a b : Fr} {h : AH}, a.same b → opsD P rec N ops deps ancs c m ps a h k = opsD P rec N ops deps ancs c m ps b h k
  | [], m, ps, a, b, h, e => by simp only [opsD, hk a b h e]
  | i :: c, m, ps, a, b, h, e => by
    simp only [opsD]
    split
    · rename_i o an ho han
      have l : looksOf P i o.op a = looksOf P i o.op b := looksOf_same (ops := ops) fun t _ => e t
      rw [l]
      rw [opsK_same (b := b) (k := fun fr' h' => opsD P rec N ops deps ancs c (m ||| 1 <<< i) (looksOf P i o.op b ++ ps) fr' h' k) (fun a b h e => opsD_same hk c e) [i] e]
      rw [opsK_same (b := b) (k := fun fr' h' => checkP an h h' (opsD P rec N ops deps ancs c (m ||| 1 <<< i) ps fr' h' k) ps) (fun a b h' e => by rw [opsD_same hk c e]) [i] e]
    · rfl

theorem drawR_same {rec : Rec} {N : Nat} {order : List Nat} {R : Type} {k : Fr → AH → Option R} (hk : ∀ (a b : Fr) (h : AH), a.same b → k a h = k b h) : ∀ (is : List Nat) {ops : Array Oper} {ps : List Look} {a b : Fr} {h : AH}, a.same b → drawR P rec N order is ops ps a h k = drawR P rec N order is ops ps b h k
  | [], ops, ps, a, b, h, e => by
    simp only [drawR]
    rw [opsD_same (k := fun fr' h' => k (fr'.low N) h') (fun x y h e => hk _ _ _ (e.low N)) order e]
  | i :: is, ops, ps, a, b, h, e => by
    simp only [drawR]
    split
    · split
      · split
        · exact drawR_same hk is fun t => by rw [get_cons, get_cons, e t]
        · rfl
      · rfl
    · rfl

theorem keep_same {a b : Fr} (e : a.same b) : ∀ (L : List Nat), a.keep L = b.keep L
  | [] => rfl
  | t :: L => by simp only [Fr.keep, e t, keep_same e L]

theorem resK_same {a b : Fr} {h : AH} (e : a.same b) : ∀ (rs : List ResultVar) (k : List AV → Option (AV × AH)), resK P a h rs k = resK P b h rs k
  | [], k => rfl
  | .tmp t :: rs, k => by simp only [resK, e t, resK_same e rs]
  | .cell x t :: rs, k => by simp only [resK, e x, resK_same e rs]

theorem learn_same {a b : Fr} (e : a.same b) (c : Operand) (t : Bool) : (learn c t a).same (learn c t b) := by
  cases c with
  | tmp s => exact e.putd (some s) _
  | _ => exact e

theorem execA_same {K : Keep} {rec : Rec} {f : FuncId} {fn : Func} : ∀ (n : Nat) {fresh : Bool} {todo : List Item} (a b : Fr) (h : AH), a.same b → execA P K rec f fn n fresh todo a h = execA P K rec f fn n fresh todo b h
  | 0, fresh, todo, a, b, h, e => rfl
  | n + 1, fresh, todo, a, b, h, e => by
    have IH := fun {fresh : Bool} {todo : List Item} => execA_same (K := K) (rec := rec) (f := f) (fn := fn) n (fresh := fresh) (todo := todo) a b h e
    have res : resultsA P fn a h = resultsA P fn b h := resK_same e _ _
    unfold execA
    have ops : ∀ (ops : Array Oper) (is : List Nat) (k : List Item), (opsK P rec fn.ntmps ops is a h fun fr' h' => execA P K rec f fn n false k fr' h') = opsK P rec fn.ntmps ops is b h fun fr' h' => execA P K rec f fn n false k fr' h' := fun ops is k => opsK_same (fun x y h e => execA_same n x y h e) is e
    have drs : ∀ (ops : Array Oper) (is js : List Nat) (k : List Item), (drawX P rec fn.ntmps ops is js a h fun fr' h' => execA P K rec f fn n false k fr' h') = drawX P rec fn.ntmps ops is js b h fun fr' h' => execA P K rec f fn n false k fr' h' := fun ops is js k => by
      unfold drawX drawK
      rw [opsD_same (fun x y h e => execA_same n x y h e) is e]
      split
      · rfl
      · rw [drawR_same (fun x y h e => execA_same n x y h e) _ e]
    split
    all_goals first
      | exact res
      | exact IH
      | skip
    · rename_i c x y k
      rw [evO_same (a := a) (b := b) fun t _ => e t]
      split
      · rw [execA_same n _ _ h (learn_same e c true), execA_same n _ _ h (learn_same e c false)]
      · rfl
    · split
      · exact IH
      · rfl
    · split
      · exact IH
      · rfl
    · rename_i id ops' draw k
      rw [ops, drs]
      simp only [keep_same e]
    · rfl

end Go.Ab

/- The abstract interpreter against the machine: whole calls. -/
set_option linter.unusedVariables false
set_option linter.unusedSimpArgs false
namespace Go.Ab

variable {P : Program} {O : World}

def resGet (tmps : Array Value) : ResultVar → Sem Value
  | .tmp t => pure (tmps.getD t undef)
  | .cell a t => do loadVar t (← asAddr (tmps.getD a undef))

theorem results_eq (fn : Func) (tmps : Array Value) : results fn tmps = (do
    let vs ← fn.results.mapM (resGet tmps)
    pure (if h : vs.size = 1 then vs[0] else .tuple vs)) := rfl

theorem resK_sound {μ : Mu} {fr : Fr} {N : Nat} {tmps : Array Value} {h : AH} {w : World} (S : Sim P O μ h w) (F : FRel μ N fr tmps) : ∀ (rs : List ResultVar) (k : List AV → Option (AV × AH)) (res : AV × AH), resK P fr h rs k = some res →
    ∃ vs us, k vs = some res ∧ (rs.mapM (resGet tmps)).run P w = .ok us w ∧ VRels μ vs us ∧ us.length = rs.length
  | [], k, res, h => ⟨[], [], h, rfl, VRels.nil, rfl⟩
  | .tmp t :: rs, k, res, h => by
    simp only [resK, Option.bind_eq_some_iff] at h
    obtain ⟨v, hv, hk⟩ := h
    obtain ⟨vs, us, h0, h1, h2, h3⟩ := resK_sound S F rs _ _ hk
    obtain ⟨u, hu, hvu⟩ := F.get t v hv
    refine ⟨v :: vs, u :: us, h0, ?_, VRels.cons hvu h2, by simp [h3]⟩
    rw [List.mapM_cons]
    have : tmps.getD t undef = u := by simp [Array.getD_eq_getD_getElem?, hu]
    simp only [Sem.run_bind, resGet, Sem.run_pure, Result.andThen_ok, h1, this]
  | .cell a t :: rs, k, res, h => by
    simp only [resK] at h
    split at h
    · rename_i r hr
      obtain ⟨u, hu, hvu⟩ := F.get a _ hr
      simp only [VRel] at hvu
      obtain ⟨ad, hra, rfl⟩ := hvu
      obtain ⟨v, uv, hk, hv, hl⟩ := loadK_sound S hra h
      obtain ⟨vs, us, h0, h1, h2, h3⟩ := resK_sound S F rs _ _ hk
      refine ⟨v :: vs, uv :: us, h0, ?_, VRels.cons hv h2, by simp [h3]⟩
      rw [List.mapM_cons]
      have : tmps.getD a undef = .pointer (some ad) := by simp [Array.getD_eq_getD_getElem?, hu]
      simp only [Sem.run_bind, resGet, Sem.run_pure, Result.andThen_ok, h1, this, asAddr, hl]
    · cases h

theorem resultsA_sound {μ : Mu} {fn : Func} {fr : Fr} {h : AH} {v : AV} {h' : AH} {N : Nat} {tmps : Array Value} {w : World} (S : Sim P O μ h w) (hr : resultsA P fn fr h = some (v, h')) (F : FRel μ N fr tmps) :
    h' = h ∧ ∃ u, (results fn tmps).run P w = .ok u w ∧ VRel μ v u := by
  rw [results_eq]
  unfold resultsA at hr
  obtain ⟨vs, us, h0, h1, h2, h3⟩ := resK_sound S F _ _ _ hr
  simp only [Array.mapM_eq_mapM_toList, Sem.run_bind, Sem.run_map, h1, Result.andThen_ok, Sem.run_pure]
  split at h0
  · rename_i x
    cases h0
    simp only [VRels] at h2
    obtain ⟨y, ys, rfl, hy, rfl⟩ := h2
    exact ⟨rfl, y, by simp, hy⟩
  · rename_i hno
    cases h0
    refine ⟨rfl, .tuple us.toArray, ?_, by simp only [VRel]; exact ⟨us.toArray, rfl, by simpa using h2⟩⟩
    have hl : us.length ≠ 1 := by
      intro hl
      have h4 := h2.length
      rw [hl] at h4
      match vs, h4 with
      | [x], _ => exact hno x rfl
      | [], h4 => simp at h4
      | _ :: _ :: _, h4 => simp at h4
    rw [dif_neg (by simpa using hl)]

theorem execA_sound {K : Keep} (hm : P.follows .mixedOrders = true) {rec : Rec} (hrec : RecOk P O rec) {f : FuncId} {fn : Func} (hfn : P.funcs[f]? = some fn) {v : AV} {h' : AH} : ∀ (n : Nat) (fresh : Bool) {todo : List Item} {fr : Fr} {h : AH},
    execA P K rec f fn n fresh todo fr h = some (v, h') → ∀ (μ : Mu) (w : World) (b : Frame) (a : Act), b.fn = f → b.kind = .normal → a.defers = [] → Sim P O μ h w → FRel μ fn.ntmps fr a.tmps →
    Fin P b todo a w (Ends (Good P O μ h w v h'))
  | 0, fresh, todo, fr, h, hk => by simp [execA] at hk
  | n + 1, fresh, todo, fr, h, hk => by
    intro μ w b a hb hkind hd S F
    have IH := fun (fresh : Bool) {todo : List Item} {fr : Fr} (hk : execA P K rec f fn n fresh todo fr h = some (v, h')) (F : FRel μ fn.ntmps fr a.tmps) => execA_sound hm hrec hfn n fresh hk μ w b a hb hkind hd S F
    unfold execA at hk
    have ret : ∀ todo, resultsA P fn fr h = some (v, h') → (∀ cs, step P (lone (b.at a todo) cs w) = .next (lone { b.at a todo with mode := .returning } cs w)) → Fin P b todo a w (Ends (Good P O μ h w v h')) := by
      intro todo hr hs
      obtain ⟨rfl, u, h1, h2⟩ := resultsA_sound S hr F
      exact Fin.ret (by rw [hb]; exact hfn) hkind hd h1 ⟨u, rfl, Good.pure S h2⟩ hs
    split at hk
    · exact ret _ hk fun cs => step_end
    · exact ret _ hk fun cs => step_ret
    · exact (IH _ hk F).of_steps fun cs => Steps.one step_skip
    · exact (IH _ hk F).of_steps fun cs => Steps.one step_label
    · exact (IH _ hk F).of_steps fun cs => Steps.one step_inBlock
    · exact (IH _ hk F).of_steps fun cs => Steps.one step_inScope
    · exact (IH _ hk F).of_steps fun cs => Steps.one step_seq
    · rename_i c x y k
      split at hk
      · rename_i t ht
        have hv := evO_sound F ht
        simp only [VRel] at hv
        have Fl : ∀ t', t = t' → FRel μ fn.ntmps (learn c t' fr) a.tmps := by
          intro t' htt
          subst htt
          unfold learn
          split
          · rename_i s
            exact F.learn ht fun _ h => h
          · exact F
        rcases cond_some hk with ⟨rfl, hk2⟩ | ⟨rfl, hk2⟩
        · exact (IH _ hk2 (Fl _ rfl)).of_steps fun cs => Steps.one (step_cond hv)
        · exact (IH _ hk2 (Fl _ rfl)).of_steps fun cs => Steps.one (step_cond hv)
      · cases hk
    · exact (IH _ hk F).of_steps fun cs => Steps.one step_block
    · exact (IH _ hk F).of_steps fun cs => Steps.one step_loop
    · exact (IH _ hk F).of_steps fun cs => Steps.one step_inLoop
    · exact (IH _ hk F).of_steps fun cs => Steps.one step_scope
    · split at hk
      · rename_i k' hk'
        exact (IH _ hk F).of_steps fun cs => Steps.one (step_exit hk')
      · cases hk
    · split at hk
      · rename_i k' hk'
        exact (IH _ hk F).of_steps fun cs => Steps.one (step_goto hk')
      · cases hk
    · rename_i id ops draw k
      have reg : (cond draw (drawX P rec fn.ntmps ops (orderOf K f id ops.size) (resvOf K f id) fr h fun fr' h' => execA P K rec f fn n false k fr' h') (opsK P rec fn.ntmps ops (List.range ops.size) fr h fun fr' h' => execA P K rec f fn n false k fr' h')) = some (v, h') → Fin P b (.code (.region id ops draw) :: k) a w (Ends (Good P O μ h w v h')) := by
        intro hk
        have back : ∀ {e : Exit} {a' : Act} {w' : World}, After P O μ fn.ntmps h w a.defers (fun fr' h' => execA P K rec f fn n false k fr' h') (v, h') e a' w' → e = .normal ∧ Fin P b k a' w' (Ends (Good P O μ h w v h')) := by
          rintro e a' w' ⟨rfl, hdef, fr', h1, ν, g1, g2, g3, g4, g5⟩
          refine ⟨rfl, ?_⟩
          exact (execA_sound hm hrec hfn n false g1 ν w' b a' hb hkind (hdef.trans hd) g2 g3).mono fun e w2 ⟨u, he, g⟩ => ⟨u, he, g.trans g4 g5⟩
        rcases cond_some hk with ⟨rfl, hk2⟩ | ⟨rfl, hk2⟩
        · have hw := drawX_sound hm hrec (id := id) (fun x y h e => execA_same n x y h e) hk2 S F
          refine region_fin fun b' k' cs => ?_
          obtain ⟨e, a', w', hq, harr⟩ := hw b' k' cs
          exact ⟨e, a', w', back hq, harr⟩
        · have hw := opsK_sound hrec _ hk2 S F
          exact region_fin (wp_region (wpOps_mono (fun e a w hq => back hq) _ hw))
      rcases cond_some hk with ⟨rfl, hk2⟩ | ⟨rfl, hk2⟩
      · exact reg hk2
      · split at hk2
        · exact hrec.pt hk2 hfn hb hkind hd S (F.keep _)
        · exact reg hk2
    · cases hk

theorem numbered_get (vs : List AV) : ∀ (i t : Nat) (v : AV), (numbered i vs).get t = some v → i ≤ t ∧ vs[t - i]? = some v := by
  induction vs with
  | nil => intro i t v h; simp [numbered, Fr.get] at h
  | cons x vs ih =>
    intro i t v h
    simp only [numbered] at h
    rw [Fr.get_cons] at h
    split at h
    · rename_i hit
      subst hit
      cases h
      simp
    · obtain ⟨h1, h2⟩ := ih (i + 1) t v h
      refine ⟨by omega, ?_⟩
      rw [show t - i = (t - (i + 1)) + 1 from by omega]
      simpa using h2

theorem stepA_ok {K : Keep} (hm : P.follows .mixedOrders = true) {rec : Rec} (hrec : RecOk P O rec) : RecOk P O (stepA P K rec) := by
  refine ⟨?_, ?_⟩
  · intro f xs h v h' hk μ w us S hx
    simp only [stepA] at hk
    split at hk
    · rename_i fn hfn
      split at hk
      · rename_i c hc
        obtain ⟨hle, hk2⟩ := cond_none hk
        have hle := Nat.le_of_ble_eq_true hle
        have hlen := hx.length
        intro cs
        let b : Frame := { (default : Frame) with fn := f, kind := .normal }
        have henter : Frame.enter P f us.toArray .normal = b.at { tmps := us.toArray ++ Array.replicate (fn.ntmps - us.toArray.size) undef, defers := [] } [.code c] := by
          simp [Frame.enter, Frame.at, hfn, hc, b]
        have F : FRel μ fn.ntmps (numbered 0 xs) (us.toArray ++ Array.replicate (fn.ntmps - us.toArray.size) undef) := by
          refine ⟨by simp; omega, fun t y hy => ?_⟩
          obtain ⟨_, h2⟩ := numbered_get xs 0 t y hy
          obtain ⟨u, hu, hvu⟩ := hx.get _ y h2
          simp only [Nat.sub_zero] at hu
          have hlt : t < us.length := by
            rcases Nat.lt_or_ge t us.length with h' | h'
            · exact h'
            · rw [List.getElem?_eq_none h'] at hu; cases hu
          refine ⟨u, ?_, hvu⟩
          rw [Array.getElem?_append_left (by simpa using hlt)]
          simpa using hu
        have := execA_sound hm hrec hfn 4000 false hk2 μ w b { tmps := us.toArray ++ Array.replicate (fn.ntmps - us.toArray.size) undef, defers := [] } rfl rfl rfl S F cs
        rw [← henter] at this
        exact this
      · cases hk
    · cases hk
  · intro f todo fr h v h' hk fn hfn μ w b a hb hkind hd S F
    simp only [stepA] at hk
    rw [hfn] at hk
    exact execA_sound hm hrec hfn 4000 true hk μ w b a hb hkind hd S F

theorem runF_ok (K : Keep) (hm : P.follows .mixedOrders = true) : ∀ n, RecOk P O (runF P K n)
  | 0 => ⟨fun h => by simp [runF] at h, fun h => by simp [runF] at h⟩
  | n + 1 => stepA_ok hm (runF_ok K hm n)

theorem run_some {K : Keep} {key : Key} {h : AH} {r : AV × AH} (hr : run P K key h = some r) : ∃ n, runF P K n key h = some r := by
  unfold run at hr
  split at hr
  · rename_i hh
    have := Classical.choose_spec (Classical.choose_spec hh)
    cases hr
    exact ⟨_, this⟩
  · cases hr

theorem run_ok (K : Keep) (hm : P.follows .mixedOrders = true) : RecOk P O (run P K) :=
  ⟨fun h => let ⟨n, hn⟩ := run_some h; (runF_ok K hm n).fn hn, fun h => let ⟨n, hn⟩ := run_some h; (runF_ok K hm n).pt hn⟩

end Go.Ab
