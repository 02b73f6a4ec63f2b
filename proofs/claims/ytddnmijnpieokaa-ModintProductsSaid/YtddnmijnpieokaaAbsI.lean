/- The abstract operations against the machine's: the built-in calls. -/
import Derived.Test.YtddnmijnpieokaaAbsH
set_option linter.unusedVariables false
set_option linter.unusedSimpArgs false
namespace Go.Ab

variable {P : Program} {O : World} {R : Type}

theorem growBy_le (need : Nat) : ∀ (rounds c : Nat), c ≤ need + (need + 768) / 4 → Builtin.growBy need rounds c ≤ need + (need + 768) / 4
  | 0, c, h => h
  | n + 1, c, h => by
    unfold Builtin.growBy
    split
    · exact h
    · exact growBy_le need n _ (by omega)

theorem nextslicecap_le {need old : Nat} (h : old < need) : Builtin.nextslicecap need old ≤ 2 * need := by
  unfold Builtin.nextslicecap
  split
  · omega
  · split
    · omega
    · have := growBy_le need 4 old (by omega)
      omega

/-- The cells of a slice from its begin on. -/
theorem firstCells_sound {μ : Mu} {h : AH} {w : World} (S : Sim P O μ h w) {r : Option Ref} {n m size : Nat} {c : Cap} {u : Value} (hv : VRel μ (.slice r n c) u) (hm : m ≤ n) {cs : List AV}
    (hg : h.getsO r (m * size) = some cs) :
    ∃ us : List Value, us.length = m * size ∧ (Builtin.firstCells size m u).run P w = .ok us.toArray w ∧ VRels μ cs us ∧ cs.all AV.one = true := by
  cases r with
  | none =>
    simp only [VRel] at hv
    obtain ⟨rfl, _, rfl⟩ := hv
    simp [AH.getsO] at hg
    subst hg
    have : m = 0 := by omega
    subst this
    exact ⟨[], by simp, by simp [Builtin.firstCells], VRels.nil, rfl⟩
  | some r =>
    simp only [VRel] at hv
    obtain ⟨a, c', rfl, hcr, hcap⟩ := hv
    have hle : n ≤ c' := by cases c <;> exact hcap.1
    simp only [AH.getsO] at hg
    rcases hcr with h0 | hr
    · have : m = 0 := by omega
      subst this
      simp only [Nat.zero_mul, AH.gets, Option.some.injEq] at hg
      subst hg
      exact ⟨[], by simp, by simp [Builtin.firstCells, loadCells, loadCellsFrom], VRels.nil, rfl⟩
    · obtain ⟨us, k1, k2, k3, k4⟩ := gets_sound S _ hr hg
      exact ⟨us, k1, run_firstCells_some w size m a n c' us k1 k2, k3, k4⟩

theorem zeroCells_size (zero : Array Value) (n : Nat) : (Builtin.zeroCells zero n).size = n * zero.size := by simp [Builtin.zeroCells]

theorem Sim.drew {μ : Mu} {h : AH} {w : World} (S : Sim P O μ h w) : Sim P O μ h w.drew :=
  { old := S.old, os := S.os, tape := S.tape, output := S.output, base := S.base, keep := S.keep, dom := S.dom, place := S.place, blk := fun i L b hL hb => (S.blk i L b hL hb).step (Mu.le_refl μ) (fun _ => rfl), inj := S.inj }

theorem appendCap_ge (need old : Nat) (elem : TypeId) (t : Nat) : need ≤ Question.cut (.appendCap need old elem) t := by
  simp [Question.cut]

/-- Growing: a new row. -/
theorem run_append_new {μ : Mu} {ts : Array TypeId} {ty t t' e f : TypeId} {w : World} {base : Option Addr} {n c m size : Nat} {ux : Value} {olds news : List Value}
    (h0 : ts[0]? = some t) (h1 : ts[1]? = some t') (hd : P.underlying t = some (.slice e)) (hd' : P.underlying t' = some (.slice f)) (hs : P.cellsOf e = size)
    (hn : (Builtin.lenOf ux).run P w = .ok m w) (hlt : c < n + m) (hok : growOk P (n + m) e size = true)
    (ho : (Builtin.firstCells size n (.slice base n c)).run P w.drew = .ok olds.toArray w.drew) (hnw : (Builtin.firstCells size m ux).run P w.drew = .ok news.toArray w.drew) :
    ∃ (cap : Nat) (rest : List Value), n + m ≤ cap ∧ rest.length = (cap - (n + m)) * size ∧
      (Builtin.append_ ts ty #[.slice base n c, ux]).run P w = .ok (.slice (some ⟨w.heap.size, 0, none⟩) (n + m) cap) (w.drew.alloc (.cells ((olds ++ news) ++ rest).toArray e)) := by
  unfold growOk at hok
  simp only [Bool.and_eq_true, decide_eq_true_eq] at hok
  obtain ⟨⟨hb1, hb2⟩, hz⟩ := hok
  split at hz
  · rename_i zs hzs
    have hz := Nat.eq_of_beq_eq_true hz
    obtain ⟨z, ti, hti, hz0, hzv, _⟩ := zeroCells_info (μ := μ) hzs
    have hzz : z.cells.size = size := by have := hzv.length; simp at this; omega
    have hby : P.bytesOf e = ti.bytes := by simp [Program.bytesOf, hti]
    have hsz : P.cellsOf e = ti.size := by simp [Program.cellsOf, hti]
    have hm : mostBytes = 70368744177664 := rfl
    rw [hm, hby] at hb1
    rw [hm] at hb2
    have hns := nextslicecap_le hlt
    have hcap : ¬ (281474976710656 < Builtin.nextslicecap (n + m) c * ti.bytes) := by
      have : Builtin.nextslicecap (n + m) c * ti.bytes ≤ 2 * (n + m) * ti.bytes := Nat.mul_le_mul_right _ hns
      rw [Nat.mul_assoc] at this
      omega
    have hmax : ¬ ((n : Int) + (m : Int) > IntKind.i64.max) := by
      have : IntKind.i64.max = 9223372036854775807 := rfl
      rw [this]; omega
    refine ⟨Question.cut (.appendCap (n + m) c e) (w.tape w.drawn (.appendCap (n + m) c e)), (Builtin.zeroCells z.cells (Question.cut (.appendCap (n + m) c e) (w.tape w.drawn (.appendCap (n + m) c e)) - (n + m))).toList, appendCap_ge _ _ _ _, by simp [zeroCells_size, hzz], ?_⟩
    have hroom : ¬ (n + m ≤ c) := by omega
    have hforced : (Question.appendCap (n + m) c e).forced = false := rfl
    rw [← hs, hsz] at ho hnw
    have hroom' : c < n + m := hlt
    simp [Builtin.append_, h0, h1, run_underlying hd, run_underlying hd', sizeOf, typeInfo, hti, hn, hroom', hroom, hmax, hcap, ho, hnw, zeroValue, hz0, newRow, hforced]
    rw [if_neg (by omega)]
    congr 3
    apply Array.ext'
    simp
  · cases hz


theorem kill_sound {μ : Mu} {h : AH} {w : World} (S : Sim P O μ h w) (i o : Nat) : Sim P O μ (h.kill (some (.new i o))) w ∧ Ext μ h w μ (h.kill (some (.new i o))) := by
  have hlive : ∀ j, Live (h.kill (some (.new i o))) j → Live h j ∧ (j = i → h.blks.size ≤ i) := fun j hj => by
    by_cases hji : i = j
    · subst hji
      rcases Nat.lt_or_ge i h.blks.size with hlt | hge
      · exact absurd rfl (hj .dead (by simp [AH.kill, hlt]))
      · exact ⟨fun b hb => by simp [Array.getElem?_eq_none hge] at hb, fun _ => hge⟩
    · exact ⟨fun b hb => hj b (by simp only [AH.kill]; rw [Array.getElem?_setIfInBounds_ne hji]; exact hb), fun e => absurd e.symm hji⟩
  refine ⟨{ old := S.old, os := S.os, tape := S.tape, output := S.output, base := S.base, keep := S.keep, dom := fun j L hL => by simpa [AH.kill] using S.dom j L hL, place := S.place, blk := fun j L b hL hb => ?_, inj := fun j k L M hL hM lj lk he => S.inj j k L M hL hM (hlive j lj).1 (hlive k lk).1 he }, ?_⟩
  · by_cases hji : i = j
    · subst hji
      have := S.dom i L hL
      simp [AH.kill, this] at hb
      subst hb
      trivial
    · simp only [AH.kill] at hb
      rw [Array.getElem?_setIfInBounds_ne hji] at hb
      exact S.blk j L b hL hb
  · exact ⟨by simp [AH.kill], Mu.le_refl μ, fun _ _ => rfl, fun j _ hj => (hlive j hj).1, fun j M h1 h2 => by simp [AH.kill] at h2; omega⟩

/-- A killed block's row goes on under a new number. -/
theorem move_sound {μ : Mu} {h : AH} {w w' : World} (S : Sim P O μ h w) {i o : Nat} {L : Loc} (hL : μ i = some L) {bs : List AV} {e : TypeId} (hb : h.blks[i]? = some (.cells bs e)) {c' : Array Value} {cs : List AV}
    (hnew : w'.heap[L.block]? = some (.cells c' e (0, 0))) (hsz : c'.size = L.base + L.total) (ho : o ≤ L.total) (hle : cs.length ≤ L.total - o) (hcs : ∀ (j : Nat) (v : AV), cs[j]? = some v → ∃ u, c'[L.base + o + j]? = some u ∧ VRel μ v u) (h1 : cs.all AV.one = true)
    (hoth : ∀ b, b ≠ L.block → w'.heap[b]? = w.heap[b]?) (hsize : w'.heap.size = w.heap.size) (hos : w'.os = w.os) (htape : w'.tape = w.tape) (hout : w'.output = w.output) :
    Sim P O (Mu.set μ h.blks.size ⟨L.block, L.base + o, L.total - o⟩) ((h.kill (some (.new i o))).alloc (.cells cs e)) w' ∧
    Ext μ h w (Mu.set μ h.blks.size ⟨L.block, L.base + o, L.total - o⟩) ((h.kill (some (.new i o))).alloc (.cells cs e)) ∧ Frm μ h w w' := by
  have hi : i < h.blks.size := S.dom i L hL
  have hf : μ h.blks.size = none := by
    cases hq : μ h.blks.size with
    | none => rfl
    | some L => have := S.dom _ _ hq; omega
  have hmle := Mu.le_set (L := ⟨L.block, L.base + o, L.total - o⟩) hf
  have hks : (h.kill (some (.new i o))).blks.size = h.blks.size := by simp [AH.kill]
  have hpl := S.place i L hL
  have hget : ∀ j b, ((h.kill (some (.new i o))).alloc (.cells cs e)).blks[j]? = some b → (j = h.blks.size ∧ b = .cells cs e) ∨ (j ≠ h.blks.size ∧ j = i ∧ b = .dead) ∨ (j ≠ h.blks.size ∧ j ≠ i ∧ h.blks[j]? = some b) := fun j b hjb => by
    simp only [Array.getElem?_push, hks] at hjb
    by_cases hj : j = h.blks.size
    · simp [hj] at hjb
      exact .inl ⟨hj, hjb.symm⟩
    · rw [if_neg hj] at hjb
      by_cases hji : i = j
      · subst hji
        simp [AH.kill, hi] at hjb
        exact .inr (.inl ⟨hj, rfl, hjb.symm⟩)
      · simp only [AH.kill] at hjb
        rw [Array.getElem?_setIfInBounds_ne hji] at hjb
        exact .inr (.inr ⟨hj, fun e => hji e.symm, hjb⟩)
  have hlive : ∀ j, j ≠ h.blks.size → Live ((h.kill (some (.new i o))).alloc (.cells cs e)) j → Live h j ∧ j ≠ i := fun j hj hl => by
    have hne : j ≠ i := fun he => by
      subst he
      exact absurd rfl (hl .dead (by simp only [Array.getElem?_push, hks, if_neg hj]; simp [AH.kill, hi]))
    refine ⟨fun b hb' => hl b ?_, hne⟩
    simp only [Array.getElem?_push, hks, if_neg hj]
    simp only [AH.kill]
    rw [Array.getElem?_setIfInBounds_ne (fun e => hne e.symm)]
    exact hb'
  refine ⟨{ old := S.old, os := hos.trans S.os, tape := htape.trans S.tape, output := hout.trans S.output, base := by rw [hsize]; exact S.base, keep := fun b hb' => ?_, dom := fun j M hM => ?_, place := fun j M hM => ?_, blk := fun j M b hM hb' => ?_, inj := fun j k M N hM hN lj lk he => ?_ }, ?_, ?_⟩
  · rw [hoth b (by omega)]; exact S.keep b hb'
  · unfold Mu.set at hM
    split at hM
    · subst_vars; simp [hks]
    · have := S.dom j M hM; simp [hks]; omega
  · unfold Mu.set at hM
    split at hM
    · cases hM; rw [hsize]; exact hpl
    · rw [hsize]; exact S.place j M hM
  · rcases hget j b hb' with ⟨hj, rfl⟩ | ⟨hj, _, rfl⟩ | ⟨hj, hji, hb2⟩
    · subst hj
      rw [set_self] at hM
      cases hM
      exact ⟨⟨c', hnew, by rw [hsz]; simp only []; omega, hle, fun k v hk => let ⟨u, a, b⟩ := hcs k v hk; ⟨u, a, b.mono hmle⟩⟩, h1⟩
    · trivial
    · unfold Mu.set at hM
      rw [if_neg hj] at hM
      refine (S.blk j M b hM hb2).step hmle fun hd => hoth _ fun he => hji (S.inj j i M L hM hL (fun b' hb3 => by rw [hb2] at hb3; cases hb3; exact hd) (live_cells hb) he)
  · unfold Mu.set at hM hN
    split at hM <;> split at hN
    · omega
    · rename_i hj hk
      cases hM
      exact absurd (S.inj i k L N hL hN (live_cells hb) (hlive k hk lk).1 he) (fun e => (hlive k hk lk).2 e.symm)
    · rename_i hj hk
      cases hN
      exact absurd (S.inj j i M L hM hL (hlive j hj lj).1 (live_cells hb) he) (hlive j hj lj).2
    · rename_i hj hk
      exact S.inj j k M N hM hN (hlive j hj lj).1 (hlive k hk lk).1 he
  · refine ⟨by simp [hks], hmle, fun j hj => by unfold Mu.set; rw [if_neg (by omega)], fun j hj hl => (hlive j (by omega) hl).1, fun j M h2 h3 hM => .inr ⟨i, L, hi, live_cells hb, hL, ?_⟩⟩
    simp [hks] at h3
    have : j = h.blks.size := by omega
    subst this
    rw [set_self] at hM
    cases hM
    rfl
  · exact ⟨by omega, fun b _ hn => hoth b fun he => hn i L hi (live_cells hb) hL he.symm⟩


theorem gets_len {h : AH} : ∀ {n : Nat} {r : Ref} {vs : List AV}, h.gets r n = some vs → vs.length = n
  | 0, r, vs, hv => by simp only [AH.gets, Option.some.injEq] at hv; subst hv; rfl
  | n + 1, r, vs, hv => by
    simp only [AH.gets, Option.bind_eq_some_iff, Option.map_eq_some_iff] at hv
    obtain ⟨v, h1, ws, h2, rfl⟩ := hv
    simp [gets_len h2]

theorem VRel.slice_open {μ : Mu} {r : Option Ref} {n : Nat} {c : Cap} {u : Value} (h : VRel μ (.slice r n c) u) : ∃ base cap, u = .slice base n cap ∧ n ≤ cap := by
  cases r with
  | none => simp only [VRel] at h; obtain ⟨rfl, _, rfl⟩ := h; exact ⟨none, 0, rfl, Nat.le_refl _⟩
  | some r => simp only [VRel] at h; obtain ⟨a, k, rfl, _, hc⟩ := h; exact ⟨some a, k, rfl, by cases c <;> exact hc.1⟩

/-- The new row of an append, known to be the call's own. -/
theorem grown_good {μ : Mu} {h : AH} {w : World} (S : Sim P O μ h w) {olds cs : List AV} {uo us rest : List Value} (ho : VRels μ olds uo) (h1 : olds.all AV.one = true) (hn : VRels μ cs us) (h2 : cs.all AV.one = true) (e : TypeId) {need cap size : Nat}
    (hle : need ≤ cap) (hrest : rest.length = (cap - need) * size) (hl : uo.length + us.length = need * size) :
    Good P O μ h w (.slice (some h.next) need (.opn size)) (h.alloc (.cells (olds ++ cs) e)) (.slice (some ⟨w.heap.size, 0, none⟩) need cap) (w.drew.alloc (.cells ((uo ++ us) ++ rest).toArray e)) := by
  obtain ⟨g1, g2, g3⟩ := alloc_sound (rest := rest) S.drew (ho.append hn) (by rw [List.all_append, h1, h2]; rfl) e
  refine ⟨_, ?_, g1, g2, g3⟩
  simp only [VRel]
  refine ⟨_, cap, rfl, .inr (RRel.new 0), hle, _, 0, _, rfl, set_self _ _ _, ?_⟩
  have : (cap - need) * size + need * size = cap * size := by rw [← Nat.add_mul]; congr 1; omega
  simp
  omega

theorem append_sound {μ : Mu} {h : AH} {w : World} (S : Sim P O μ h w) {ts : Array TypeId} {ty t t' e f : TypeId} (h0 : ts[0]? = some t) (h1 : ts[1]? = some t') (hd : P.underlying t = some (.slice e)) (hd' : P.underlying t' = some (.slice f))
    (hie : (P.info? e).isSome = true) {r : Option Ref} {n : Nat} {c : Cap} {x : AV} {u ux : Value} (hu : VRel μ (.slice r n c) u) (hx : VRel μ x ux) {p : List AV × Nat} (hp : appendArgs P e x h = some p)
    {v : AV} {h' : AH} (ha : appendH P ⟨r, n, c⟩ p.1 p.2 e (P.cellsOf e) h = some (v, h')) : Yields P (Builtin.append_ ts ty #[u, ux]) w (Good P O μ h w v h') := by
  obtain ⟨ie, hi⟩ := Option.isSome_iff_exists.1 hie
  have hs : (sizeOf e).run P w = .ok (P.cellsOf e) w := by simp [sizeOf, typeInfo, hi, Program.cellsOf]
  unfold appendArgs at hp
  split at hp
  · rename_i r2 m c2
    simp only [Option.map_eq_some_iff] at hp
    obtain ⟨cs, hg, rfl⟩ := hp
    have hlen : (Builtin.lenOf ux).run P w = .ok m w := by
      obtain ⟨_, _, rfl, _⟩ := hx.slice_open; rfl
    obtain ⟨news, n1, n2, n3, n4⟩ := firstCells_sound S hx (Nat.le_refl _) hg
    obtain ⟨newd, d1, d2, d3, d4⟩ := firstCells_sound S.drew hx (Nat.le_refl _) hg
    obtain ⟨base, cap, rfl, hle⟩ := hu.slice_open
    -- a new row
    have grow : ∀ {h2 : AH}, Sim P O μ h2 w → cap < n + m → growOk P (n + m) e (P.cellsOf e) = true → ∀ {old : List AV}, h.getsO r (n * P.cellsOf e) = some old →
        Yields P (Builtin.append_ ts ty #[.slice base n cap, ux]) w (Good P O μ h2 w (.slice (some h2.next) (n + m) (.opn (P.cellsOf e))) (h2.alloc (.cells (old ++ cs) e))) := by
      intro h2 S2 hlt hok old hold
      obtain ⟨olds, o1, o2, o3, o4⟩ := firstCells_sound S.drew hu (Nat.le_refl _) hold
      obtain ⟨ncap, rest, k1, k2, k3⟩ := run_append_new (μ := μ) (ty := ty) h0 h1 hd hd' rfl hlen hlt hok o2 d2
      exact ⟨_, _, k3, grown_good S2 o3 o4 d3 d4 e k1 k2 (by rw [o1, d1, Nat.add_mul])⟩
    unfold appendH at ha
    dsimp only at ha
    split at ha
    · rename_i c'
      rcases cond_some ha with ⟨hb, ha⟩ | ⟨hb, ha⟩
      · -- there is room
        have hb := Nat.le_of_ble_eq_true hb
        cases r with
        | none =>
          simp only [Option.some.injEq, Prod.mk.injEq] at ha
          obtain ⟨rfl, rfl⟩ := ha
          simp only [VRel] at hu
          obtain ⟨rfl, h2, h3⟩ := hu
          cases h2
          cases h3
          have : m = 0 := by omega
          subst this
          refine ⟨_, _, ?_, Good.pure S (u := .slice none 0 0) (by simp [VRel])⟩
          simp [Builtin.append_, h0, h1, run_underlying hd, run_underlying hd', hs, hlen, n2]
        | some r =>
          simp only [Option.bind_eq_some_iff, Option.some.injEq, Prod.mk.injEq] at ha
          obtain ⟨h2, hp2, rfl, rfl⟩ := ha
          simp only [VRel] at hu
          obtain ⟨a, k, he, hcr, hnk, rfl⟩ := hu
          cases he
          rcases hcr with h00 | hrr
          · have hm0 : m = 0 := by omega
            have hn0 : n = 0 := by omega
            subst hm0; subst hn0; subst h00
            have hnil : news = [] := List.eq_nil_of_length_eq_zero (by omega)
            subst hnil
            have hcs : cs = [] := by
              have := n3.length
              exact List.eq_nil_of_length_eq_zero this.symm
            subst hcs
            simp only [AH.puts, Option.some.injEq] at hp2
            subst hp2
            refine ⟨.slice (some a) 0 0, w, ?_, Good.pure S (by simp only [VRel]; exact ⟨a, 0, rfl, .inl rfl, Nat.le_refl _, rfl⟩)⟩
            simp [Builtin.append_, h0, h1, run_underlying hd, run_underlying hd', hs, hlen, n2, storeCells]
          · obtain ⟨w', e1, e2, e3, e4⟩ := puts_sound (i := 0) (a := a.add (n * P.cellsOf e)) S (by rw [show (a.add (n * P.cellsOf e)).add 0 = a.add (n * P.cellsOf e) from by simp [Addr.add]]; exact hrr.add (n * P.cellsOf e)) n3 n4 hp2
            refine ⟨.slice (some a) (n + m) cap, w', ?_, μ, by simp only [VRel]; exact ⟨a, cap, rfl, .inr hrr, hb, rfl⟩, e2, e3, e4⟩
            simp [Builtin.append_, h0, h1, run_underlying hd, run_underlying hd', hs, hlen, n2, hb, e1]
      · obtain ⟨hok, ha⟩ := cond_none ha
        simp only [Option.bind_eq_some_iff, Option.some.injEq, Prod.mk.injEq] at ha
        obtain ⟨old, hold, rfl, rfl⟩ := ha
        have hlt : cap < n + m := by
          have hcap : cap = c' := by
            cases r with
            | none => simp only [VRel] at hu; obtain ⟨_, h2, h3⟩ := hu; cases h2; cases h3; rfl
            | some r => simp only [VRel] at hu; obtain ⟨a, k, he, _, _, hk⟩ := hu; cases he; exact hk
          subst hcap
          rcases Nat.lt_or_ge cap (n + m) with h' | h'
          · exact h'
          · rw [Nat.ble_eq_true_of_le h'] at hb; cases hb
        exact grow S hlt hok hold
    · rename_i sz
      rcases cond_some ha with ⟨hb, ha1⟩ | ⟨hb, ha1⟩
      · have hm0 := Nat.eq_of_beq_eq_true hb
        subst hm0
        simp only [Option.some.injEq, Prod.mk.injEq] at ha1
        obtain ⟨rfl, rfl⟩ := ha1
        have hnil : news = [] := List.eq_nil_of_length_eq_zero (by omega)
        subst hnil
        refine ⟨.slice base n cap, w, ?_, Good.pure S hu⟩
        cases base <;> simp [Builtin.append_, h0, h1, run_underlying hd, run_underlying hd', hs, hlen, n2, storeCells, hle]
      · obtain ⟨hok1, ha2⟩ := cond_none ha1
        simp only [Bool.and_eq_true] at hok1
        obtain ⟨hsz, hok⟩ := hok1
        have hsz := Nat.eq_of_beq_eq_true hsz
        clear ha ha1
        subst hsz
        split at ha2
        · rename_i i o
          split at ha2
          · rename_i bs e' hbs
            obtain ⟨hee, ha3⟩ := cond_none ha2
            have hee' := Nat.eq_of_beq_eq_true hee
            clear ha2 hee
            subst hee'
            simp only [Option.bind_eq_some_iff, Option.some.injEq, Prod.mk.injEq] at ha3
            obtain ⟨old, hold, rfl, rfl⟩ := ha3
            obtain ⟨S2, E2⟩ := kill_sound S i o
            have hks : (h.kill (some (.new i o))).blks.size = h.blks.size := by simp [AH.kill]
            have hnext : (h.kill (some (.new i o))).next = h.next := by simp [AH.next, hks]
            rcases Nat.lt_or_ge cap (n + m) with hlt | hge
            · obtain ⟨u', w', g1, ν, g2, g3, g4, g5⟩ := grow S2 hlt hok hold
              rw [hnext] at g2
              refine ⟨u', w', g1, ν, g2, g3, E2.trans g4 (Nat.le_refl _), ?_⟩
              exact ⟨g5.1, fun b hb' hn => g5.2 b hb' fun j M hj hl hM => hn j M (by rw [hks] at hj; exact hj) (E2.2.2.2.1 j (by rw [hks] at hj; exact hj) hl) hM⟩
            · -- in place
              simp only [VRel] at hu
              obtain ⟨a, k, he, hcr, hnk, i', o', L, hr', hL, hfit⟩ := hu
              cases he
              cases hr'
              simp only [AH.getsO] at hold
              have hmn : 0 < n + m := by
                rcases Nat.eq_zero_or_pos m with h' | h'
                · subst h'; simp at hb
                · omega
              rcases hcr with h00 | hrr
              · omega
              · obtain ⟨L', hL', rfl⟩ := hrr
                rw [hL] at hL'
                cases hL'
                obtain ⟨olds, o1, o2, o3, o4⟩ := gets_sound S _ (r := .new i o) ⟨L, hL, rfl⟩ hold
                obtain ⟨⟨cc, c1, c2, c3, c4⟩, c5⟩ := S.blk i L _ hL hbs
                have hmul : (n + m) * P.cellsOf e' ≤ cap * P.cellsOf e' := Nat.mul_le_mul_right _ hge
                rw [Nat.add_mul] at hmul
                have hst := run_storeCells_at P L.block (L.base + o + n * P.cellsOf e') e' news 0 cc w c1 (by omega) (fun v hv => by
                  obtain ⟨j, hj⟩ := List.mem_iff_getElem?.1 hv
                  have hjl : j < cs.length := by
                    have := n3.length
                    rcases Nat.lt_or_ge j cs.length with h' | h'
                    · exact h'
                    · rw [List.getElem?_eq_none (by omega)] at hj; cases hj
                  obtain ⟨u, hu, hvu⟩ := n3.get j cs[j] (by simp [hjl])
                  rw [hj] at hu
                  cases hu
                  exact hvu.one (List.all_eq_true.1 n4 _ (by simp)))
                have hlold : old.length = n * P.cellsOf e' := gets_len hold
                have hlcs : cs.length = m * P.cellsOf e' := by have := n3.length; omega
                simp only [Nat.add_zero] at hst
                obtain ⟨g1, g2, g3⟩ := move_sound (o := o) (w' := w.setRow L.block (cc.toList.take (L.base + o + n * P.cellsOf e') ++ news ++ cc.toList.drop (L.base + o + n * P.cellsOf e' + news.length)).toArray) S hL hbs
                  (cs := old ++ cs) (setRow_heap w _ cc _ e' (0, 0) c1) (by simp; omega) (by omega) (by simp; omega) (fun j v hj => by
                    rcases Nat.lt_or_ge j old.length with hjl | hjl
                    · rw [List.getElem?_append_left hjl] at hj
                      obtain ⟨u, hu, hvu⟩ := o3.get j v hj
                      have hcell := o2 j u hu
                      rw [addr_add] at hcell
                      simp only [World.cell?, c1] at hcell
                      refine ⟨u, ?_, hvu⟩
                      simp only [List.getElem?_toArray]
                      rw [List.append_assoc, List.getElem?_append_left (by simp; omega), List.getElem?_take]
                      rw [if_pos (by omega)]
                      simpa using hcell
                    · rw [List.getElem?_append_right hjl] at hj
                      obtain ⟨u, hu, hvu⟩ := n3.get _ v hj
                      refine ⟨u, ?_, hvu⟩
                      simp only [List.getElem?_toArray]
                      have hlt : j - old.length < news.length := by
                        rcases Nat.lt_or_ge (j - old.length) news.length with h' | h'
                        · exact h'
                        · rw [List.getElem?_eq_none h'] at hu; cases hu
                      rw [List.append_assoc, List.getElem?_append_right (by simp; omega), List.getElem?_append_left (by simp; omega)]
                      rw [← hu]
                      congr 1
                      simp
                      omega) (by rw [List.all_append, o4, n4]; rfl) (fun b hb' => setRow_other w _ b _ hb') (by simp) rfl rfl rfl
                refine ⟨.slice (some ⟨L.block, L.base + o, none⟩) (n + m) cap, _, ?_, _, ?_, g1, g2, g3⟩
                · have hadd : (⟨L.block, L.base + o, none⟩ : Addr).add (n * P.cellsOf e') = ⟨L.block, L.base + o + n * P.cellsOf e', none⟩ := addr_add _ _ _
                  simp [Builtin.append_, h0, h1, run_underlying hd, run_underlying hd', hs, hlen, n2, hge, hadd, hst]
                · simp only [VRel]
                  refine ⟨_, cap, rfl, .inr (RRel.new (L := ⟨L.block, L.base + o, L.total - o⟩) 0), hge, _, 0, _, rfl, set_self _ _ _, ?_⟩
                  simp only []
                  omega
          · cases ha2
        · cases ha2
  · cases hp

end Go.Ab
