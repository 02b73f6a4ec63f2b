/- The abstract heap's steps against the machine's. -/
import Derived.Test.YtddnmijnpieokaaAbsC
set_option linter.unusedVariables false
set_option linter.unusedSimpArgs false
namespace Go.Ab

variable {P : Program} {O : World}

theorem addr_add (b o n : Nat) : (⟨b, o, none⟩ : Addr).add n = ⟨b, o + n, none⟩ := by unfold Addr.add; split <;> simp_all

theorem Addr.add_add (a : Addr) (m n : Nat) : (a.add m).add n = a.add (m + n) := by
  unfold Addr.add
  by_cases hm : m = 0 <;> by_cases hn : n = 0 <;> simp [hm, hn]
  omega

theorem Ref.add_add (r : Ref) (m n : Nat) : (r.add m).add n = r.add (m + n) := by
  cases r with
  | old a => simp [Ref.add, Addr.add_add]
  | new i o => simp [Ref.add, Nat.add_assoc]

theorem Ref.add_zero (r : Ref) : r.add 0 = r := by
  cases r <;> simp [Ref.add, Addr.add]

theorem RRel.add {μ : Mu} {r : Ref} {a : Addr} (h : RRel μ r a) (n : Nat) : RRel μ (r.add n) (a.add n) := by
  cases r with
  | old b => simp only [RRel, Ref.add] at *; rw [h]
  | new i o =>
    obtain ⟨L, h1, rfl⟩ := h
    exact ⟨L, h1, by rw [addr_add, Nat.add_assoc]⟩

theorem live_cells {h : AH} {i : Nat} {cs : List AV} {e : TypeId} (hb : h.blks[i]? = some (.cells cs e)) : Live h i := fun b hb' => by
  rw [hb] at hb'; cases hb'; simp

theorem cell_sound {μ : Mu} {h : AH} {w : World} (S : Sim P O μ h w) {r : Ref} {a : Addr} (hr : RRel μ r a) {v : AV} (hv : h.cell r = some v) :
    ∃ u, w.cell? a = some u ∧ VRel μ v u ∧ v.one = true := by
  cases r with
  | old b =>
    simp only [RRel] at hr
    subst hr
    simp only [AH.cell] at hv
    split at hv
    · rename_i c t f hb
      split at hv
      · simp at hv
      · rename_i hs
        rw [Option.bind_eq_some_iff] at hv
        obtain ⟨u, hu, hv⟩ := hv
        obtain ⟨h1, h2⟩ := VRel.ofCell (μ := μ) hv
        refine ⟨u, ?_, h1, h2⟩
        rw [S.old] at hb
        have hlt : a.block < O.heap.size := by
          rcases Nat.lt_or_ge a.block O.heap.size with h' | h'
          · exact h'
          · simp [Array.getElem?_eq_none h'] at hb
        simp only [World.cell?, S.keep _ hlt, hb]
        simp [hs, hu]
    · simp at hv
  | new i o =>
    obtain ⟨L, hL, rfl⟩ := hr
    simp only [AH.cell] at hv
    split at hv
    · rename_i cs e hb
      obtain ⟨⟨c, h1, h2, h3, h5⟩, h6⟩ := S.blk i L _ hL hb
      obtain ⟨u, hu, hvu⟩ := h5 o v hv
      refine ⟨u, ?_, hvu, ?_⟩
      · simp [World.cell?, h1, hu]
      · have := List.all_eq_true.1 h6 v (List.mem_of_getElem? hv)
        exact this
    · simp at hv

theorem gets_sound {μ : Mu} {h : AH} {w : World} (S : Sim P O μ h w) : ∀ (n : Nat) {r : Ref} {a : Addr}, RRel μ r a → ∀ {vs : List AV}, h.gets r n = some vs →
    ∃ us : List Value, us.length = n ∧ (∀ j u, us[j]? = some u → w.cell? (a.add j) = some u) ∧ VRels μ vs us ∧ vs.all AV.one = true
  | 0, r, a, hr, vs, hv => by
    simp only [AH.gets, Option.some.injEq] at hv
    subst hv
    exact ⟨[], rfl, by simp, VRels.nil, rfl⟩
  | n + 1, r, a, hr, vs, hv => by
    simp only [AH.gets, Option.bind_eq_some_iff, Option.map_eq_some_iff] at hv
    obtain ⟨v, h1, ws, h2, rfl⟩ := hv
    obtain ⟨u, hu, hvu, hone⟩ := cell_sound S hr h1
    obtain ⟨us, k1, k2, k3, k4⟩ := gets_sound S n (hr.add 1) h2
    refine ⟨u :: us, by simp [k1], fun j x hx => ?_, VRels.cons hvu k3, by simp [hone]; simpa using k4⟩
    cases j with
    | zero => simp at hx; subst hx; simpa [Addr.add] using hu
    | succ j =>
      have := k2 j x (by simpa using hx)
      rw [Addr.add_add] at this
      rw [Nat.add_comm j 1]
      exact this

theorem all_set {cs : List AV} {v : AV} (h : cs.all AV.one = true) (hv : v.one = true) (o : Nat) : (cs.set o v).all AV.one = true := by
  rw [List.all_eq_true] at *
  intro x hx
  rcases List.mem_or_eq_of_mem_set hx with h' | rfl
  · exact h x h'
  · exact hv

theorem put_sound {μ : Mu} {h h' : AH} {w : World} (S : Sim P O μ h w) {r : Ref} {a : Addr} (hr : RRel μ r a) {v : AV} {u : Value} (hv : VRel μ v u) (h1 : v.one = true) (hp : h.put r v = some h') :
    (store a u).run P w = .ok () (w.setCell a u) ∧ Sim P O μ h' (w.setCell a u) ∧ Ext μ h w μ h' ∧ Frm μ h w (w.setCell a u) := by
  cases r with
  | old b => simp [AH.put] at hp
  | new i o =>
    obtain ⟨L, hL, rfl⟩ := hr
    simp only [AH.put] at hp
    split at hp
    · rename_i cs e hb
      split at hp
      · rename_i hlt
        simp only [Option.some.injEq] at hp
        subst hp
        obtain ⟨⟨c, hc, hsz, hle, hcs⟩, hall⟩ := S.blk i L _ hL hb
        have hin : i < h.blks.size := by
          rcases Nat.lt_or_ge i h.blks.size with h' | h'
          · exact h'
          · simp [Array.getElem?_eq_none h'] at hb
        have hoff : L.base + o < c.size := by omega
        have hpl := S.place i L hL
        have hcell : w.cell? ⟨L.block, L.base + o, none⟩ = some c[L.base + o] := by simp [World.cell?, hc, hoff]
        have hfr : w.frozen? ⟨L.block, L.base + o, none⟩ = false := by simp [World.frozen?, hc]
        have hnew : (w.setCell ⟨L.block, L.base + o, none⟩ u).heap[L.block]? = some (.cells (c.setIfInBounds (L.base + o) u) e (0, 0)) := by
          simp [World.setCell, Array.getElem?_modify, hc]
        have hoth : ∀ b, b ≠ L.block → (w.setCell ⟨L.block, L.base + o, none⟩ u).heap[b]? = w.heap[b]? := fun b hb => by
          simp only [World.setCell, Array.getElem?_modify]
          rw [if_neg (by simpa using fun h => hb h.symm)]
        have hlive : ∀ j, Live { h with blks := h.blks.setIfInBounds i (.cells (cs.set o v) e) } j → Live h j := fun j hj b hb' => by
          by_cases hji : i = j
          · subst hji
            rw [hb] at hb'; cases hb'; simp
          · exact hj b (by rw [Array.getElem?_setIfInBounds_ne hji]; exact hb')
        refine ⟨?_, ?_, ?_, ?_⟩
        · rw [run_store P w _ u _ (hv.one h1), hcell, hfr]; rfl
        · refine { old := S.old, os := S.os, tape := S.tape, output := S.output, base := by simpa using S.base, dom := fun j M hM => by simpa using S.dom j M hM, keep := fun b hb' => ?_, place := fun j M hM => by simpa using S.place j M hM, blk := fun j M b hM hb' => ?_, inj := fun j k M N hM hN lj lk he => S.inj j k M N hM hN (hlive j lj) (hlive k lk) he }
          · rw [hoth b (by omega)]; exact S.keep b hb'
          · by_cases hji : i = j
            · subst hji
              rw [hL] at hM
              cases hM
              simp [hin] at hb'
              subst hb'
              refine ⟨⟨_, hnew, by simpa using hsz, by simpa using hle, fun k x hx => ?_⟩, all_set hall h1 o⟩
              by_cases hk : o = k
              · subst hk
                have hx' : x = v := by simpa [List.getElem?_set_self hlt] using hx.symm
                subst hx'
                exact ⟨u, by simp [hoff], hv⟩
              · rw [List.getElem?_set_ne hk] at hx
                obtain ⟨y, hy, hxy⟩ := hcs k x hx
                exact ⟨y, by rw [Array.getElem?_setIfInBounds_ne (by omega)]; exact hy, hxy⟩
            · rw [Array.getElem?_setIfInBounds_ne hji] at hb'
              have hB := S.blk j M b hM hb'
              cases b with
              | dead => trivial
              | loop => exact hB
              | deferred => exact hB
              | cells ds f =>
                have hne : M.block ≠ L.block := fun he => hji (S.inj i j L M hL hM (live_cells hb) (live_cells hb') he.symm)
                obtain ⟨⟨d, k1, k2⟩, k3⟩ := hB
                exact ⟨⟨d, by rw [hoth _ hne]; exact k1, k2⟩, k3⟩
              | map es ck =>
                have hne : M.block ≠ L.block := fun he => hji (S.inj i j L M hL hM (live_cells hb) (fun b' hb2 => by rw [hb'] at hb2; cases hb2; simp) he.symm)
                obtain ⟨us, k1, k2⟩ := hB
                exact ⟨us, by rw [hoth _ hne]; exact k1, k2⟩
        · exact ⟨by simp, Mu.le_refl μ, fun _ _ => rfl, fun j _ hj => hlive j hj, fun j M h1 h2 => by simp at h2; omega⟩
        · refine ⟨by simp, fun b hb' hn => hoth b fun he => hn i L hin (live_cells hb) hL he.symm⟩
      · simp at hp
    · simp at hp

theorem puts_sound : ∀ {vs : List AV} {us : List Value} {μ : Mu} {h h' : AH} {w : World} (S : Sim P O μ h w) {r : Ref} {a : Addr} {i : Nat} (hr : RRel μ r (a.add i)) (hv : VRels μ vs us) (h1 : vs.all AV.one = true) (hp : h.puts r vs = some h'),
    ∃ w', (storeCells a us i).run P w = .ok () w' ∧ Sim P O μ h' w' ∧ Ext μ h w μ h' ∧ Frm μ h w w'
  | [], us, μ, h, h', w, S, r, a, i, hr, hv, h1, hp => by
    simp only [AH.puts, Option.some.injEq] at hp
    subst hp
    have := hv.nil_inv
    subst this
    exact ⟨w, rfl, S, Ext.refl _ _ _, Frm.refl _ _ _⟩
  | v :: vs, us, μ, h, h', w, S, r, a, i, hr, hv, h1, hp => by
    obtain ⟨x, xs, rfl, hx, hxs⟩ := hv.cons_inv
    simp only [AH.puts, Option.bind_eq_some_iff] at hp
    obtain ⟨h2, hp1, hp2⟩ := hp
    simp only [List.all_cons, Bool.and_eq_true] at h1
    obtain ⟨s1, s2, s3, s4⟩ := put_sound S hr hx h1.1 hp1
    have hr' : RRel μ (r.add 1) (a.add (i + 1)) := by
      have := hr.add 1
      rwa [Addr.add_add] at this
    obtain ⟨w', t1, t2, t3, t4⟩ := puts_sound s2 hr' hxs h1.2 hp2
    refine ⟨w', ?_, t2, s3.trans t3 s4.1, s4.trans s3 t4⟩
    simp only [storeCells, Sem.run_bind, s1, Result.andThen_ok, t1]

/-! ### New blocks -/
def Mu.set (μ : Mu) (i : Nat) (L : Loc) : Mu := fun j => if j = i then some L else μ j

theorem Mu.le_set {μ : Mu} {i : Nat} {L : Loc} (h : μ i = none) : Mu.le μ (Mu.set μ i L) := fun j M hM => by
  unfold Mu.set
  split
  · subst_vars; rw [h] at hM; cases hM
  · exact hM

theorem heap_alloc_lt (w : World) (o : Obj) (k : Nat) (h : k < w.heap.size) : (w.alloc o).heap[k]? = w.heap[k]? := by
  show (w.heap.push o)[k]? = _
  rw [Array.getElem?_push, if_neg (by omega)]
theorem heap_alloc_new (w : World) (o : Obj) : (w.alloc o).heap[w.heap.size]? = some o := by
  show (w.heap.push o)[w.heap.size]? = _
  simp

theorem live_lt {h : AH} {i : Nat} {b : ABlk} (hi : i ≠ h.blks.size) : Live { h with blks := h.blks.push b } i → Live h i := fun hl c hc => hl c (by
  have : i < h.blks.size := by
    rcases Nat.lt_or_ge i h.blks.size with h' | h'
    · exact h'
    · simp [Array.getElem?_eq_none h'] at hc
  rw [Array.getElem?_push, if_neg (by omega)]; exact hc)

theorem BRel.step {μ ν : Mu} {L : Loc} {w w' : World} {b : ABlk} (h : BRel P μ L w b) (hle : Mu.le μ ν) (hb : b ≠ .dead → w'.heap[L.block]? = w.heap[L.block]?) : BRel P ν L w' b := by
  cases b with
  | dead => trivial
  | loop => exact h
  | deferred => exact h
  | cells cs e =>
    have hb := hb (by simp)
    obtain ⟨⟨c, h1, h2, h3, h5⟩, h6⟩ := h
    exact ⟨⟨c, by rw [hb]; exact h1, h2, h3, fun j v hj => let ⟨u, a, b⟩ := h5 j v hj; ⟨u, a, b.mono hle⟩⟩, h6⟩
  | map es ck =>
    have hb := hb (by simp)
    obtain ⟨us, h1, h2, h3⟩ := h
    exact ⟨us, by rw [hb]; exact h1, h2, fun j e hj => let ⟨u, a, b, c, d⟩ := h3 j e hj; ⟨u, a, b.mono hle, c.mono hle, d⟩⟩

/-- A new block of the machine's, behind a heap of which no living block is mapped to it. -/
theorem alloc_sound {μ : Mu} {h : AH} {w : World} (S : Sim P O μ h w) {cs : List AV} {us rest : List Value} (hv : VRels μ cs us) (h1 : cs.all AV.one = true) (e : TypeId) :
    Sim P O (Mu.set μ h.blks.size ⟨w.heap.size, 0, us.length + rest.length⟩) (h.alloc (.cells cs e)) (w.alloc (.cells (us ++ rest).toArray e)) ∧
    Ext μ h w (Mu.set μ h.blks.size ⟨w.heap.size, 0, us.length + rest.length⟩) (h.alloc (.cells cs e)) ∧
    Frm μ h w (w.alloc (.cells (us ++ rest).toArray e)) := by
  have hf : μ h.blks.size = none := by
    cases hq : μ h.blks.size with
    | none => rfl
    | some L => have := S.dom _ _ hq; omega
  have hle := Mu.le_set (L := ⟨w.heap.size, 0, us.length + rest.length⟩) hf
  refine ⟨{ old := S.old, os := S.os, tape := S.tape, output := S.output, base := by have := S.base; simp; omega, dom := fun i L hL => ?_, keep := fun b hb => ?_, place := fun i L hL => ?_, blk := fun i L b hL hb => ?_, inj := fun i j L M hL hM li lj he => ?_ }, ?_, ?_⟩
  · rw [heap_alloc_lt _ _ _ (Nat.lt_of_lt_of_le hb S.base)]; exact S.keep b hb
  · unfold Mu.set at hL
    split at hL
    · subst_vars; simp
    · have := S.dom i L hL; simp; omega
  · unfold Mu.set at hL
    split at hL
    · cases hL; have := S.base; simp; omega
    · have := S.place i L hL; simp; omega
  · unfold Mu.set at hL
    split at hL
    · rename_i hi
      subst hi
      cases hL
      simp at hb
      subst hb
      refine ⟨⟨_, heap_alloc_new _ _, by simp, by simp; have := hv.length; omega, fun j v hj => ?_⟩, h1⟩
      obtain ⟨u, hu, huv⟩ := hv.get j v hj
      have hlt : j < us.length := by
        rcases Nat.lt_or_ge j us.length with h' | h'
        · exact h'
        · simp [List.getElem?_eq_none h'] at hu
      exact ⟨u, by simp [List.getElem?_append_left hlt, hu], huv.mono hle⟩
    · rename_i hi
      have hb' : h.blks[i]? = some b := by
        simp only [Array.getElem?_push] at hb
        simpa [hi] using hb
      exact (S.blk i L b hL hb').step hle fun _ => heap_alloc_lt _ _ _ (S.place i L hL).2
  · unfold Mu.set at hL hM
    split at hL <;> split at hM
    · omega
    · cases hL; have := S.place j M hM; simp at he; omega
    · cases hM; have := S.place i L hL; simp at he; omega
    · exact S.inj i j L M hL hM (live_lt (by assumption) li) (live_lt (by assumption) lj) he
  · refine ⟨by simp, hle, fun i hi => ?_, fun i hi hl => live_lt (by omega) hl, fun i L h2 h3 hL => .inl ?_⟩
    · unfold Mu.set; rw [if_neg]; omega
    · simp at h3
      have : i = h.blks.size := by omega
      subst this
      simp [Mu.set] at hL
      subst hL
      exact Nat.le_refl _
  · exact ⟨by simp, fun b hb _ => heap_alloc_lt _ _ _ hb⟩

theorem set_self (μ : Mu) (i : Nat) (L : Loc) : Mu.set μ i L i = some L := by simp [Mu.set]

theorem RRel.new {μ : Mu} {i : Nat} {L : Loc} (o : Nat) : RRel (Mu.set μ i L) (.new i o) ⟨L.block, L.base + o, none⟩ := ⟨L, set_self _ _ _, rfl⟩

end Go.Ab
