/-
  The operations that write memory.
-/
import Derived.Test.YtjdcodjoheckcaaGreatDoorBbMem
import Derived.Laws.Append
namespace Go.Bb
variable {P : Program}

/-! ### Cells written in a row -/
theorem heap_setCell_same {w : World} {b o : Nat} {v : Value} {c : Array Value} {Ty : TypeId} {fz : Nat × Nat} (h : w.heap[b]? = some (.cells c Ty fz)) : (w.setCell ⟨b, o, none⟩ v).heap[b]? = some (.cells (c.setIfInBounds o v) Ty fz) := by
  simp [World.setCell, Array.getElem?_modify, h]
theorem heap_setCell_other {w : World} {b o b' : Nat} {v : Value} (h : b' ≠ b) : (w.setCell ⟨b, o, none⟩ v).heap[b']? = w.heap[b']? := by
  simp [World.setCell, Array.getElem?_modify]; intro e; exact absurd e.symm h
theorem heap_setCells_other {b b' : Nat} (h : b' ≠ b) : ∀ (vs : List Value) (o : Nat) (w : World), (w.setCells b o vs).heap[b']? = w.heap[b']?
  | [], _, _ => rfl
  | v :: vs, o, w => by rw [World.setCells, heap_setCells_other h vs, heap_setCell_other h]
theorem size_setCells (b : Nat) : ∀ (vs : List Value) (o : Nat) (w : World), (w.setCells b o vs).heap.size = w.heap.size
  | [], _, _ => rfl
  | v :: vs, o, w => by rw [World.setCells, size_setCells b vs]; simp
theorem os_setCells (b : Nat) : ∀ (vs : List Value) (o : Nat) (w : World), (w.setCells b o vs).os = w.os ∧ (w.setCells b o vs).output = w.output
  | [], _, _ => ⟨rfl, rfl⟩
  | v :: vs, o, w => by rw [World.setCells]; exact os_setCells b vs (o + 1) _
theorem heap_setCells {b : Nat} {Ty : TypeId} {fz : Nat × Nat} : ∀ (vs : List Value) (o : Nat) (w : World) (c : Array Value), w.heap[b]? = some (.cells c Ty fz) → o + vs.length ≤ c.size →
    ∃ c', (w.setCells b o vs).heap[b]? = some (.cells c' Ty fz) ∧ c'.size = c.size ∧ ∀ i, c'[i]? = if o ≤ i ∧ i < o + vs.length then vs[i - o]? else c[i]?
  | [], o, w, c, h, _ => ⟨c, h, rfl, fun i => by rw [if_neg (by simp)]⟩
  | v :: vs, o, w, c, h, hle => by
    simp only [List.length_cons] at hle
    obtain ⟨c', h1, h2, h3⟩ := heap_setCells vs (o + 1) _ _ (heap_setCell_same (v := v) (o := o) h) (by simp; omega)
    refine ⟨c', h1, by simpa using h2, fun i => ?_⟩
    rw [h3]
    by_cases hi : i = o
    · subst hi
      rw [if_neg (by omega), if_pos (by simp)]
      simp [Array.getElem?_setIfInBounds]; omega
    · by_cases h4 : o + 1 ≤ i ∧ i < o + 1 + vs.length
      · rw [if_pos h4, if_pos (by simp; omega), show i - o = (i - (o + 1)) + 1 by omega]; simp
      · rw [if_neg h4, if_neg (by simp; omega), Array.getElem?_setIfInBounds_ne (by omega)]

theorem putRow_some : ∀ {l : List SV} {t : T SV} {off : Nat} {k : T SV → R} {r : AV × AH}, putRow l t off k = some r → (∀ j, j < l.length → (T.get (tp (off + j)) t).isSome = true) ∧ k (putAll l off t) = some r := by
  intro l
  induction l with
  | nil => intro t off k r h; exact ⟨fun j hj => by simp at hj, h⟩
  | cons v l ih =>
    intro t off k r h
    have h' : (pathK off fun p => Option.rec (motive := fun _ => R) none (fun _ => setS p t v fun t => forceN (Nat.succ off) fun o => putRow l t o k) (T.get p t)) = some r := h
    rw [pathK_eq] at h'
    cases hg : T.get (tp off) t with
    | none => rw [hg] at h'; exact none_some h'
    | some u =>
      rw [hg] at h'
      have h2 : (setS (tp off) t v fun t => forceN (Nat.succ off) fun o => putRow l t o k) = some r := h'
      rw [setS_eq, forceN_eq] at h2
      obtain ⟨h3, h4⟩ := ih h2
      refine ⟨fun j hj => ?_, h4⟩
      cases j with
      | zero => simp [hg]
      | succ j =>
        have := h3 j (by simpa using hj)
        rw [get_put_other _ _ _ _ (fun e => by have := tp_inj e; omega)] at this
        rwa [show off + (j + 1) = off.succ + j by omega]

theorem storeK_some {h : AH} {id : Path} {off : Nat} {l : List SV} {k : AH → R} {r : AV × AH} (hh : storeK h id off l k = some r) :
    (l = [] ∧ k h = some r) ∨ ∃ t m, T.get id h.g = some (.cells t m) ∧ (∀ j, j < l.length → (T.get (tp (off + j)) t).isSome = true) ∧ k ⟨h.g.put id (some (.cells (putAll l off t) m)), h.next⟩ = some r := by
  cases l with
  | nil => exact .inl ⟨rfl, hh⟩
  | cons v l =>
    obtain ⟨t, m, hg, h1⟩ := cellsW_some (k := fun t m => putRow (v :: l) t off fun t => onH h fun g n => setO id g (some (.cells t m)) fun g => k ⟨g, n⟩) hh
    obtain ⟨h2, h3⟩ := putRow_some h1
    rw [onH_eq, setO_eq] at h3
    exact .inr ⟨t, m, hg, h2, h3⟩

theorem All2.one {ρ : Emb} {l : List SV} {r : List Value} (h : All2 (SR ρ) l r) : ∀ v ∈ r, v.oneCell' = true := by
  induction h with
  | nil => intro v hv; simp at hv
  | cons a _ ih => intro v hv; simp at hv; rcases hv with rfl | hv
                   · exact a.cells.2
                   · exact ih v hv

/-- what a row written comes to -/
theorem store_or {ρ : Emb} {lc : Loc} {w : World} {t : T SV} {m off : Nat} {l : List SV} {cs : List Value} (hO : OR ρ lc w.heap[lc.block]? (.cells t m)) (hin : ∀ j, j < l.length → (T.get (tp (off + j)) t).isSome = true) (hc : All2 (SR ρ) l cs) :
    (storeCells (lc.at off) cs).run P w = .ok () (w.setCells lc.block (lc.base + off) cs) ∧ OR ρ lc (w.setCells lc.block (lc.base + off) cs).heap[lc.block]? (.cells (putAll l off t) m) := by
  obtain ⟨c, Ty, fz, e1, e2, e3, e4, e5⟩ := hO
  have hlen := hc.length
  have hex : ∀ j, j < l.length → ∃ cv, c[lc.base + (off + j)]? = some cv := fun j hj => by
    obtain ⟨s, hs⟩ := Option.isSome_iff_exists.1 (hin j hj)
    obtain ⟨cv, h1, _⟩ := e3 _ _ hs
    exact ⟨cv, h1⟩
  constructor
  · have := run_storeCells_cells (P := P) lc.block (lc.base + off) cs 0 w (fun j hj => by
        obtain ⟨cv, h1⟩ := hex j (by omega)
        have := (Array.getElem?_eq_some_iff.1 h1).1
        simp [World.cell?, e1]; omega) (fun j hj => by
        have hm : off + j < m := by
          rcases Nat.lt_or_ge (off + j) m with h | h
          · exact h
          · have := hin j (by omega); rw [e4 _ h] at this; cases this
        have := e5 (lc.base + off + (0 + j)) (by omega) (by have := e2.1; omega)
        simpa [World.frozen?, e1] using this) hc.one
    simpa [Loc.at] using this
  · by_cases h0 : l.length = 0
    · have hl : l = [] := List.eq_nil_of_length_eq_zero h0
      have hcs : cs = [] := List.eq_nil_of_length_eq_zero (by omega)
      subst hl; subst hcs
      exact ⟨c, Ty, fz, e1, e2, e3, e4, e5⟩
    · obtain ⟨cv, hlast⟩ := hex (l.length - 1) (by omega)
      have hb := (Array.getElem?_eq_some_iff.1 hlast).1
      obtain ⟨c', h1, h2, h3⟩ := heap_setCells cs (lc.base + off) w c e1 (by omega)
      refine ⟨c', Ty, fz, h1, ⟨e2.1, by have := e2.2; omega⟩, fun i s hi => ?_, fun i hi => ?_, e5⟩
      · rw [get_putAll] at hi
        rw [h3]
        by_cases hr : off ≤ i ∧ i < off + l.length
        · rw [if_pos hr] at hi
          rw [if_pos (by omega), show lc.base + i - (lc.base + off) = i - off by omega]
          exact hc.get hi
        · rw [if_neg hr] at hi
          rw [if_neg (by omega)]
          exact e3 i s hi
      · rw [get_putAll]
        by_cases hr : off ≤ i ∧ i < off + l.length
        · have := hin (i - off) (by omega)
          rw [show off + (i - off) = i by omega, e4 i hi] at this
          cases this
        · rw [if_neg hr]; exact e4 i hi

/-- what a row written leaves of the block -/
theorem store_typed {ρ : Emb} {lc : Loc} {w : World} {t : T SV} {m off : Nat} {l : List SV} {cs : List Value} (hO : OR ρ lc w.heap[lc.block]? (.cells t m)) (hin : ∀ j, j < l.length → (T.get (tp (off + j)) t).isSome = true) (hc : All2 (SR ρ) l cs) :
    ∀ c Ty fr, w.heap[lc.block]? = some (.cells c Ty fr) → ∃ c', (w.setCells lc.block (lc.base + off) cs).heap[lc.block]? = some (.cells c' Ty fr) ∧ c'.size = c.size ∧ ∀ j : Nat, (j < lc.base ∨ lc.size ≤ j) → c'[j]? = c[j]? := by
  intro c0 Ty0 fr0 h0
  obtain ⟨c, Ty, fz, e1, e2, e3, e4, e5⟩ := hO
  rw [h0] at e1
  cases e1
  have hlen := hc.length
  by_cases hl : l.length = 0
  · have hcs : cs = [] := List.eq_nil_of_length_eq_zero (by omega)
    subst hcs
    exact ⟨c0, h0, rfl, fun _ _ => rfl⟩
  · have hlast := hin (l.length - 1) (by omega)
    have hm : off + l.length ≤ m := by
      rcases Nat.lt_or_ge (off + (l.length - 1)) m with h | h
      · omega
      · rw [e4 _ h] at hlast; cases hlast
    obtain ⟨c', h1, h2, h3⟩ := heap_setCells cs (lc.base + off) w c0 h0 (by have := e2.1; have := e2.2; omega)
    refine ⟨c', h1, h2, fun j hj => ?_⟩
    have := e2.1
    rw [h3, if_neg (by omega)]

def EffOk (P : Program) (o : Op) (eo : EOp) : Prop :=
  ∀ (tm : Tm) (h : AH) (ret : AV → AH → R) (r : AV × AH), eo tm h ret = some r → ∃ v h', ret v h' = some r ∧
    ∀ (ρ : Emb) (ce : Operand → Value) (w : World), HR ρ (heapOf h) h.next w → EvR ρ tm ce o.operands →
      ∃ ρ' cv w', VR ρ' v cv ∧ HR ρ' (heapOf h') h'.next w' ∧ Ext ρ (heapOf h) h.next w ρ' (heapOf h') h'.next w' ∧
        ∀ (O : Oper), O.op = o → (execOp ce O).run P w = .ok (.value cv) w' ∨ ((execOp ce O).run P w = .ok .skip w' ∧ cv = undef)

/-- a row is stored at a pointer -/
theorem store_step {h : AH} {id : Path} {off : Nat} {l : List SV} {k : AH → R} {r : AV × AH} (hh : storeK h id off l k = some r) :
    ∃ h', k h' = some r ∧ ∀ (ρ : Emb) (w : World) (lc : Loc) (cs : List Value), HR ρ (heapOf h) h.next w → ρ id = some lc → All2 (SR ρ) l cs →
      ∃ w', (storeCells (lc.at off) cs).run P w = .ok () w' ∧ HR ρ (heapOf h') h'.next w' ∧ Ext ρ (heapOf h) h.next w ρ (heapOf h') h'.next w' := by
  rcases storeK_some hh with ⟨rfl, hk⟩ | ⟨t, m, hg, hin, hk⟩
  · exact ⟨h, hk, fun ρ w lc cs hr hid hc => by cases hc; exact ⟨w, rfl, hr, Ext.refl _ _ _ _⟩⟩
  · refine ⟨_, hk, fun ρ w lc cs hr hid hc => ?_⟩
    obtain ⟨h1, h2⟩ := store_or (P := P) (hr.at hg hid) hin hc
    refine ⟨_, h1, ?_, ?_⟩
    · rw [heapOf_put]; exact hr.set hg rfl hid (fun b hb => heap_setCells_other hb _ _ _) h2
    · rw [heapOf_put]; exact Ext.set hg rfl rfl rfl hid (size_setCells _ _ _ _) (fun b hb => heap_setCells_other hb _ _ _) (os_setCells _ _ _ _).1 (os_setCells _ _ _ _).2 (fun a _ => World.frozen?_setCells _ _ _ _ _) (fun _ => store_typed (hr.at hg hid) hin hc)

section
variable {x y s : Operand} {ax ay az : Opd} {t : TypeId} {args : Array Operand} {ats : Array TypeId}

theorem eff_store {n : Nat} (hs : sizeT P t = some n) (hx : opd x = some ax) (hy : opd y = some ay) : EffOk P (.store t x y) (eStore n ax ay) := by
  intro tm h ret r hh
  obtain ⟨id, off, e1, h1⟩ := onPtr_some hh
  obtain ⟨l, hl, h2⟩ := onCells_some h1
  obtain ⟨hb, h3⟩ := guard_some h2
  rw [lenS_eq] at hb
  have hlen : l.length = n := Nat.eq_of_beq_eq_true hb
  obtain ⟨h', h4, hrel⟩ := store_step (P := P) h3
  refine ⟨_, h', h4, fun ρ ce w hr he => ?_⟩
  obtain ⟨lc, hlc, v1⟩ := (ev1 he hx (by simp [Op.operands]) e1).ptr
  have hc := (he y (by simp [Op.operands]) ay hy).cells hl
  obtain ⟨w', h5, h6, h7⟩ := hrel ρ w lc _ hr hlc hc
  refine ⟨ρ, undef, w', undef_rel, h6, h7, fun O hO => .inr ⟨?_, rfl⟩⟩
  have hsz : (ce y).cells.size = n := by have := hc.length; simp at this; omega
  simp only [execOp, hO, Instr.storeAt, v1, Instr.sureAddr, Sem.run_bind, Sem.run_pure, Result.andThen_ok, storeVar, run_sizeOf' hs]
  simp [hsz, h5]

/-! ### Maps -/
theorem putE_some {z : Int} {v : AV} : ∀ {es : List (Int × AV)} {k : List (Int × AV) → R} {r : AV × AH}, putE z v es k = some r → ∃ es', k es' = some r ∧
    ∀ (ρ : Emb) (kd kk : IntKind) (cv : Value), VR ρ v cv → ∀ (ms : List MapEntry) (i : Nat), All2 (EntR ρ kd) es ms →
      (∃ j u, Instr.findNow (.int kk) (.int kd z) ms i = some (some (i + j, u)) ∧ ∃ m, ms[j]? = some m ∧ m.key = .int kd z ∧ All2 (EntR ρ kd) es' (ms.modify j fun e => { e with key := .int kd z, val := cv })) ∨
      (Instr.findNow (.int kk) (.int kd z) ms i = some none ∧ ∀ b, All2 (EntR ρ kd) es' (ms ++ [{ key := .int kd z, val := cv, born := b }])) := by
  intro es
  induction es with
  | nil =>
    intro k r h
    refine ⟨_, h, fun ρ kd kk cv hv ms i hm => ?_⟩
    cases hm
    exact .inr ⟨rfl, fun b => .cons ⟨rfl, hv⟩ .nil⟩
  | cons e es ih =>
    intro k r h
    rcases iteR_some (b := eqI z e.1) (t := k ((z, v) :: es)) (f := putE z v es fun es => k (e :: es)) h with ⟨he, h1⟩ | ⟨he, h1⟩
    · rw [eqI_eq] at he
      refine ⟨_, h1, fun ρ kd kk cv hv ms i hm => ?_⟩
      cases hm with
      | @cons _ m _ ms hem hm =>
        have hz : z = e.1 := by simpa using he
        refine .inl ⟨0, m.val, ?_, m, rfl, by rw [hem.1, hz], ?_⟩
        · simp [Instr.findNow, Instr.sameNow, hem.1, he]
        · exact .cons ⟨rfl, hv⟩ hm
    · rw [eqI_eq] at he
      obtain ⟨es', h2, h3⟩ := ih h1
      refine ⟨_, h2, fun ρ kd kk cv hv ms i hm => ?_⟩
      cases hm with
      | @cons _ m _ ms hem hm =>
        have step : Instr.findNow (.int kk) (.int kd z) (m :: ms) i = Instr.findNow (.int kk) (.int kd z) ms (i + 1) := by
          simp [Instr.findNow, Instr.sameNow, hem.1, he]
        rcases h3 ρ kd kk cv hv ms (i + 1) hm with ⟨j, u, h4, m', h5, h6, h7⟩ | ⟨h4, h5⟩
        · exact .inl ⟨j + 1, u, by rw [step, h4, show i + 1 + j = i + (j + 1) by omega], m', by simpa using h5, h6, .cons hem h7⟩
        · exact .inr ⟨by rw [step, h4], fun b => .cons hem (h5 b)⟩

theorem bornK_some {es es' : List (Int × AV)} {bs : List Nat} {clk : Nat} {k : List Nat → Nat → R} {r : AV × AH} (hh : bornK es es' bs clk k = some r) :
    ∃ bs' clk', k bs' clk' = some r ∧ ((es'.length = es.length ∧ bs' = bs ∧ clk' = clk) ∨ (es'.length ≠ es.length ∧ bs' = bs ++ [clk] ∧ clk' = clk + 1)) := by
  rcases iteR_some (b := Nat.beq es'.length es.length) hh with ⟨h1, h2⟩ | ⟨h1, h2⟩
  · exact ⟨_, _, h2, .inl ⟨Nat.eq_of_beq_eq_true h1, rfl, rfl⟩⟩
  · rw [wholeN_eq, forceN_eq] at h2
    refine ⟨_, _, h2, .inr ⟨fun e => by rw [e] at h1; simp at h1, ?_, rfl⟩⟩
    clear h2 hh
    induction bs with
    | nil => rfl
    | cons b l ih => exact congrArg (b :: ·) ih

theorem eff_mapPut {kt e : TypeId} {kk : IntKind} (hu : P.underlying t = some (.map kt e)) (hk : P.underlying kt = some (.int kk)) (hx : opd x = some ax) (hy : opd y = some ay) (hs : opd s = some az) : EffOk P (.mapUpdate t x y s) (eMapPut ax ay az) := by
  intro tm h ret r hh
  obtain ⟨kd, z, e2, h1⟩ := onInt_some hh
  rcases onMap_some h1 with ⟨_, h2⟩ | ⟨id, e1, h2⟩
  · exact none_some h2
  obtain ⟨kd', es, bs, clk, hg, h3⟩ := mapK_some h2
  obtain ⟨hkk, h4⟩ := guard_some h3
  obtain rfl := (sameK_eq _ _).1 hkk
  rw [lookK_eq] at h4
  obtain ⟨es', h5, hrel⟩ := putE_some h4
  obtain ⟨bs', clk', h5, hbc⟩ := bornK_some h5
  rw [onH_eq, setO_eq] at h5
  refine ⟨_, _, h5, fun ρ ce w hr he => ?_⟩
  obtain ⟨lc, hlc, v1⟩ := (ev1 he hx (by simp [Op.operands]) e1).map
  have v2 := (ev1 he hy (by simp [Op.operands]) e2).int
  have v3 := he s (by simp [Op.operands]) az hs
  obtain ⟨ms, hm1, hm2, hm3⟩ := hr.at hg hlc
  have hobj : (getObj lc.block).run P w = .ok (.map ms clk) w := by simp [getObj, Sem.run, hm1]
  have hset : ∀ o, (setObj lc.block o).run P w = .ok () { w with heap := w.heap.setIfInBounds lc.block o } := fun o => by simp [setObj, Sem.run, hm1]
  have hlt := hr.block_lt hg hlc
  have fin : ∀ (ms' : Array MapEntry), All2 (EntR ρ kd) es' ms'.toList → ms'.toList.map (·.born) = bs' → ∃ ρ' cv w', VR ρ' undefA cv ∧ HR ρ' (heapOf ⟨h.g.put id (some (.map kd es' bs' clk')), h.next⟩) h.next w' ∧
      Ext ρ (heapOf h) h.next w ρ' (heapOf ⟨h.g.put id (some (.map kd es' bs' clk')), h.next⟩) h.next w' ∧ w' = { w with heap := w.heap.setIfInBounds lc.block (.map ms' clk') } ∧ cv = undef := by
    intro ms' hms hbn
    have hk : ∀ b, b ≠ lc.block → ({ w with heap := w.heap.setIfInBounds lc.block (.map ms' clk') } : World).heap[b]? = w.heap[b]? := fun b hb => by
      simp [Array.getElem?_setIfInBounds_ne (Ne.symm hb)]
    have hthis : ({ w with heap := w.heap.setIfInBounds lc.block (.map ms' clk') } : World).heap[lc.block]? = some (.map ms' clk') := by simp [hlt]
    refine ⟨ρ, undef, _, undef_rel, ?_, ?_, rfl, rfl⟩
    · rw [heapOf_put]; exact hr.set hg rfl hlc hk ⟨ms', hthis, hms, hbn⟩
    · rw [heapOf_put]
      refine Ext.set hg rfl rfl rfl hlc (by simp) hk rfl rfl (fun a _ => ?_) (fun _ c Ty fr h => by rw [hm1] at h; cases h)
      by_cases ha : a.block = lc.block
      · simp only [World.frozen?, ha, hthis, hm1]
      · simp only [World.frozen?, hk _ ha]
  rcases hrel ρ kd kk (ce s) v3 ms.toList 0 hm2 with ⟨j, u, h6, m, h7, h8, h9⟩ | ⟨h6, h7⟩
  · have hlen : es'.length = es.length := by
      have a := h9.length
      have b := hm2.length
      simp at a b; omega
    obtain ⟨rfl, rfl⟩ : bs' = bs ∧ clk' = clk := by
      rcases hbc with ⟨_, h⟩ | ⟨h, _⟩
      · exact h
      · exact absurd hlen h
    obtain ⟨ρ', cv, w', f1, f2, f3, f4, f5⟩ := fin (ms.modify j fun e => { e with key := .int kd z, val := ce s }) (by simpa using h9) (by
      rw [← hm3]
      apply List.ext_getElem
      · simp
      · intro i h1 h2
        simp only [List.getElem_map, Array.getElem_toList, Array.getElem_modify]
        by_cases hji : j = i
        · rw [if_pos hji]
        · rw [if_neg hji])
    refine ⟨ρ', cv, w', f1, f2, f3, fun O hO => .inr ⟨?_, f5⟩⟩
    have hj : ms[j]? = some m := by simpa using h7
    have hsame : Instr.sameBits 10000 (.int kd z) (.int kd z) = true := by simp [Instr.sameBits]
    simp only [execOp, hO, Instr.mapUpdate, Sem.run_bind, run_underlying' hu, Result.andThen_ok, v1, v2, hobj, run_checkKey hk, Instr.findKey, run_underlying' hk, h6, Sem.run_pure, Nat.zero_add]
    simp [hj, h8, Instr.keyThatStays, hsame, hset, f4]
  · have hlen : es'.length ≠ es.length := by
      have a := (h7 clk).length
      have b := hm2.length
      simp at a b; omega
    obtain ⟨rfl, rfl⟩ : bs' = bs ++ [clk] ∧ clk' = clk + 1 := by
      rcases hbc with ⟨h, _⟩ | ⟨_, h⟩
      · exact absurd h hlen
      · exact h
    obtain ⟨ρ', cv, w', f1, f2, f3, f4, f5⟩ := fin (ms.push { key := .int kd z, val := ce s, born := clk }) (by simpa using h7 clk) (by simp [hm3])
    refine ⟨ρ', cv, w', f1, f2, f3, fun O hO => .inr ⟨?_, f5⟩⟩
    simp only [execOp, hO, Instr.mapUpdate, Sem.run_bind, run_underlying' hu, Result.andThen_ok, v1, v2, hobj, run_checkKey hk, Instr.findKey, run_underlying' hk, h6, Sem.run_pure, hset, f4]

theorem froz_iter (w : World) (m : Option Nat) (a0 : Nat) (l : Array Nat) (k : Nat) (a : Addr) : (w.alloc (.mapIter m a0 l k)).frozen? a = w.frozen? a := by
  by_cases h : a.block = w.heap.size
  · have e2 : w.heap[a.block]? = none := by rw [h]; simp
    have e3 : (w.alloc (.mapIter m a0 l k)).heap[a.block]? = some (.mapIter m a0 l k) := by rw [heap_alloc, if_pos h]
    simp only [World.frozen?, e2, e3]
  · have e3 : (w.alloc (.mapIter m a0 l k)).heap[a.block]? = w.heap[a.block]? := by rw [heap_alloc, if_neg h]
    simp only [World.frozen?, e3]

theorem eff_range {kt e : TypeId} (hu : P.underlying t = some (.map kt e)) (hx : opd x = some ax) : EffOk P (.range t x) (eRange ax) := by
  intro tm h ret r hh
  rcases onMap_some hh with ⟨_, h1⟩ | ⟨id, e1, h1⟩
  · exact none_some h1
  obtain ⟨kd, es, bs, clk, hg, h2⟩ := mapK_some h1
  rw [newK_eq] at h2
  refine ⟨_, _, h2, fun ρ ce w hr he => ?_⟩
  obtain ⟨lc, hlc, v1⟩ := (ev1 he hx (by simp [Op.operands]) e1).map
  obtain ⟨ms, hm1, hm2, hm3⟩ := hr.at hg hlc
  have hobj : (getObj lc.block).run P w = .ok (.map ms clk) w := by simp [getObj, Sem.run, hm1]
  have hfresh : ρ (tp h.next) = none := hr.fresh _ (Nat.le_refl _)
  refine ⟨ins ρ (tp h.next) ⟨w.heap.size, 0, 0⟩, .pointer (some ⟨w.heap.size, 0, none⟩), w.alloc (.mapIter (some lc.block) clk #[] clk), ?_, ?_, ?_, fun O hO => .inl ?_⟩
  · exact .s (.ptr (l := ⟨w.heap.size, 0, 0⟩) (ins_same _ _ _))
  · rw [heapOf_put]
    exact hr.alloc hfresh (Nat.le_succ _) (Nat.lt_succ_self _) ⟨rfl, lc, sub_ins hfresh _ _ hlc, rfl⟩
  · rw [heapOf_put]
    exact (Ext.refl ρ (heapOf h) h.next w).alloc hfresh (Nat.le_refl _) (Nat.le_succ _) (froz_iter _ _ _ _ _)
  · simp only [execOp, hO, Instr.range, Sem.run_bind, run_underlying' hu, Result.andThen_ok, v1, hobj, Sem.run_pure, run_newObj]
    rfl

theorem nextK_some {es : List (Int × AV)} {bs seen : List Nat} {since last : Nat} {over : R} {hit : Int → AV → Nat → R} {r : AV × AH} (hh : nextK es bs seen since last over hit = some r) :
    (over = some r ∧ ((seen = [] ∧ es = []) ∨ ∃ b e, seen = [b] ∧ es = [e] ∧ bs = [b] ∧ b < last)) ∨ ∃ e b, seen = [] ∧ es = [e] ∧ bs = [b] ∧ b < since ∧ hit e.1 e.2 b = some r := by
  match seen, hh with
  | [], hh =>
    match es, hh with
    | [], hh => exact .inl ⟨hh, .inl ⟨rfl, rfl⟩⟩
    | e :: es, hh =>
      obtain ⟨e', b, h1, rfl, h2⟩ := oneK_some (es := e :: es) (bs := bs) (k := fun z v b => iteR (Nat.ble (Nat.succ b) since) (hit z v b) none) hh
      obtain ⟨h3, h4⟩ := guard_some (b := Nat.ble (Nat.succ b) since) h2
      exact .inr ⟨e', b, rfl, h1, rfl, Nat.le_of_ble_eq_true h3, h4⟩
  | s :: seen, hh =>
    obtain ⟨s', h1, h2⟩ := oneN_some (l := s :: seen) (k := fun s => oneK es bs fun _ _ b => iteR (andB (Nat.beq s b) (Nat.ble (Nat.succ b) last)) over none) hh
    obtain ⟨e, b, rfl, rfl, h3⟩ := oneK_some h2
    obtain ⟨h4, h5⟩ := guard_some h3
    rw [andB_eq, Bool.and_eq_true, Nat.beq_eq] at h4
    obtain ⟨rfl, h6⟩ := h4
    exact .inl ⟨h5, .inr ⟨s', e, h1, rfl, rfl, Nat.le_of_ble_eq_true h6⟩⟩

theorem eff_next (hx : opd x = some ax) : EffOk P (.next x false) (eNext ax) := by
  intro tm h ret r hh
  obtain ⟨id, off, e1, h1⟩ := onPtr_some hh
  obtain ⟨h0, h2⟩ := guard_some h1
  obtain rfl : off = 0 := Nat.eq_of_beq_eq_true h0
  obtain ⟨m, since, seen, last, hgi, h3⟩ := iterK_some h2
  obtain ⟨kd, es, bs, clk, hgm, h4⟩ := mapK_some h3
  have hch : ∀ (w : World), (choose (.mapNext 1)).run P w = .ok 0 w := fun w => by rw [run_choose]; rfl
  rcases nextK_some h4 with ⟨h5, h6⟩ | ⟨e, b, rfl, rfl, rfl, hb, h5⟩
  · refine ⟨_, _, h5, fun ρ ce w hr he => ?_⟩
    obtain ⟨l, hl, v1⟩ := (ev1 he hx (by simp [Op.operands]) e1).ptr
    obtain ⟨hb0, lm, hlm, hi⟩ := hr.at hgi hl
    obtain ⟨ms, hm1, hm2, hm3⟩ := hr.at hgm hlm
    have hobj1 : (getObj l.block).run P w = .ok (.mapIter (some lm.block) since seen.toArray last) w := by simp [getObj, Sem.run, hi]
    have hobj2 : (getObj lm.block).run P w = .ok (.map ms clk) w := by simp [getObj, Sem.run, hm1]
    have hv : ce x = .pointer (some ⟨l.block, 0, none⟩) := by rw [v1]; simp [Loc.at, hb0]
    refine ⟨ρ, .tuple #[.bool false], w, .tup (.cons (.s (.bool _)) .nil), hr, Ext.refl _ _ _ _, fun O hO => .inl ?_⟩
    rcases h6 with ⟨rfl, rfl⟩ | ⟨b, e, rfl, rfl, rfl, hlast⟩
    · obtain rfl : ms = #[] := by
        obtain ⟨ml⟩ := ms
        cases hm2; rfl
      simp [execOp, hO, Instr.next, hv, hobj1, hobj2, hch]
    · obtain ⟨me, rfl, hem⟩ : ∃ me, ms = #[me] ∧ EntR ρ kd e me := by
        obtain ⟨ml⟩ := ms
        cases hm2 with
        | cons h hm2 => cases hm2; exact ⟨_, rfl, h⟩
      have hborn : me.born = b := by simpa using hm3
      simp [execOp, hO, Instr.next, hv, hobj1, hobj2, hborn, hch, Nat.not_le.2 hlast]
  · rw [onH_eq, setO_eq] at h5
    obtain ⟨u, h6, hu⟩ := tv_some h5
    refine ⟨_, _, h6, fun ρ ce w hr he => ?_⟩
    obtain ⟨l, hl, v1⟩ := (ev1 he hx (by simp [Op.operands]) e1).ptr
    obtain ⟨hb0, lm, hlm, hi⟩ := hr.at hgi hl
    obtain ⟨ms, hm1, hm2, hm3⟩ := hr.at hgm hlm
    have hobj1 : (getObj l.block).run P w = .ok (.mapIter (some lm.block) since #[] last) w := by simp [getObj, Sem.run, hi]
    have hobj2 : (getObj lm.block).run P w = .ok (.map ms clk) w := by simp [getObj, Sem.run, hm1]
    have hv : ce x = .pointer (some ⟨l.block, 0, none⟩) := by rw [v1]; simp [Loc.at, hb0]
    obtain ⟨me, rfl, hem⟩ : ∃ me, ms = #[me] ∧ EntR ρ kd e me := by
      obtain ⟨ml⟩ := ms
      cases hm2 with
      | cons h hm2 => cases hm2; exact ⟨_, rfl, h⟩
    have hborn : me.born = b := by simpa using hm3
    have hlt := hr.block_lt hgi hl
    have hset : ∀ o, (setObj l.block o).run P w = .ok () { w with heap := w.heap.setIfInBounds l.block o } := fun o => by simp [setObj, Sem.run, hi]
    have hk : ∀ q, q ≠ l.block → ({ w with heap := w.heap.setIfInBounds l.block (.mapIter (some lm.block) since #[b] clk) } : World).heap[q]? = w.heap[q]? := fun q hq => by
      simp [Array.getElem?_setIfInBounds_ne (Ne.symm hq)]
    have hthis : ({ w with heap := w.heap.setIfInBounds l.block (.mapIter (some lm.block) since #[b] clk) } : World).heap[l.block]? = some (.mapIter (some lm.block) since #[b] clk) := by simp [hlt]
    refine ⟨ρ, .tuple #[.bool true, .int kd e.1, me.val], { w with heap := w.heap.setIfInBounds l.block (.mapIter (some lm.block) since #[b] clk) }, .tup (.cons (.s (.bool _)) (.cons (.s (.int _ _)) (.cons (tv_rel hu hem.2) .nil))), ?_, ?_, fun O hO => .inl ?_⟩
    · rw [heapOf_put]; exact hr.set hgi rfl hl hk ⟨hb0, lm, hlm, hthis⟩
    · rw [heapOf_put]
      refine Ext.set hgi rfl rfl rfl hl (by simp) hk rfl rfl (fun a _ => ?_) (fun _ c Ty fr h => by rw [hi] at h; cases h)
      by_cases ha : a.block = l.block
      · simp only [World.frozen?, ha, hthis, hi]
      · simp only [World.frozen?, hk _ ha]
    · simp [execOp, hO, Instr.next, hv, hobj1, hobj2, hborn, hch, hb, hset, hem.1, Nat.not_le.2 hb]

theorem eff_freeze {e : TypeId} (hu : P.underlying t = some (.slice e)) (he8 : P.underlying e = some (.int .u8)) (hx : opd x = some ax) : EffOk P (.convert t t x) (eFreeze ax) := by
  intro tm h ret r hh
  rcases onSl_some hh with ⟨_, h1⟩ | ⟨id, off, len, cap, z, e1, h1⟩
  · exact none_some h1
  obtain ⟨cs, hg, h2⟩ := litK_some h1
  rw [ofListS_eq, forceN_eq, lenS_eq, onH_eq, setO_eq] at h2
  refine ⟨_, _, h2, fun ρ ce w hr he => ?_⟩
  have v0 := ev1 he hx (by simp [Op.operands]) e1
  obtain ⟨lc, n, hlc, v1, _⟩ := v0.sl
  obtain ⟨c, Ty, hc, hb0, hsz, hcs⟩ := hr.at hg hlc
  have hlt := hr.block_lt hg hlc
  have hfz : ∀ q : Nat, (w.freeze ⟨lc.block, q, none⟩ 1).heap[lc.block]? = some (.cells c Ty (q, q + 1)) := fun q => by
    unfold World.freeze
    rw [if_neg (by omega)]
    simp [Array.getElem?_modify, hc]
  have hoth : ∀ (q b : Nat), b ≠ lc.block → (w.freeze ⟨lc.block, q, none⟩ 1).heap[b]? = w.heap[b]? := fun q b hb => by
    unfold World.freeze
    rw [if_neg (by omega)]
    simp [Array.getElem?_modify, Ne.symm hb]
  have hsize : ∀ q, (w.freeze ⟨lc.block, q, none⟩ 1).heap.size = w.heap.size := fun q => by unfold World.freeze; rw [if_neg (by omega)]; simp
  have hos : ∀ q, (w.freeze ⟨lc.block, q, none⟩ 1).os = w.os ∧ (w.freeze ⟨lc.block, q, none⟩ 1).output = w.output := fun q => by unfold World.freeze; rw [if_neg (by omega)]; exact ⟨rfl, rfl⟩
  have hrun : (convert t t (ce x)).run P w = .ok (ce x) (w.freeze ⟨lc.block, c.size, none⟩ 1) := by
    have hshape : w.shape? lc.block = some (Ty, c.size) := by simp [World.shape?, hc]
    rw [v1]
    simp [convert, run_underlying' hu, run_underlying' he8, markStringish, Loc.at, hshape]
  refine ⟨ρ, ce x, w.freeze ⟨lc.block, c.size, none⟩ 1, v0, ?_, ?_, fun O hO => .inl ?_⟩
  · rw [heapOf_put]
    have hO : OR ρ lc (some (.cells c Ty (c.size, c.size + 1))) (.cells (putAll cs 0 .l) cs.length) := by
      have h0 := row_or (ρ := ρ) (b := lc.block) (Ty := Ty) hcs
      have hlc0 : lc = ⟨lc.block, 0, c.size⟩ := by obtain ⟨b, ba, sz⟩ := lc; simp at hb0 hsz; subst hb0; subst hsz; rfl
      rw [← hlc0] at h0
      obtain ⟨c', T', fz', q1, q2, q3, q4, _⟩ := h0
      cases q1
      exact ⟨c, Ty, _, rfl, q2, q3, q4, fun i h1 h2 => by
        have : i < c.size := by omega
        simp; omega⟩
    exact hr.set hg rfl hlc (fun b hb => hoth _ b hb) (by rw [hfz]; exact hO)
  · rw [heapOf_put]
    refine Ext.set hg rfl rfl rfl hlc (hsize _) (fun b hb => hoth _ b hb) (hos _).1 (hos _).2 (fun a ha => ?_) (fun h => by cases h)
    simp only [World.frozen?, hoth _ _ (Ne.symm (ha rfl))]
  · simp only [execOp, hO, Sem.run_bind, hrun, Result.andThen_ok, Sem.run_pure]

/-! ### append -/
theorem run_firstCells_at {size n len cap : Nat} {a : Addr} {w : World} {cs : Array Value} (h : (loadCells a (n * size)).run P w = .ok cs w) : (Builtin.firstCells size n (.slice (some a) len cap)).run P w = .ok cs w := by
  simp [Builtin.firstCells, h]

theorem zeroCells_eq (z : Array Value) (n : Nat) : (Builtin.zeroCells z n).toList = (List.replicate n z.toList).flatten := by
  rw [← range_mod]; unfold Builtin.zeroCells; rw [Array.toList_map, Array.toList_range]

/-- what is appended: from a slice (x), or so many zero cells (z) -/
structure Src (P : Program) (e : TypeId) (size : Nat) (xt : TypeId) (x : Value) (n : Nat) (new : List Value) (w : World) : Prop where
  len : new.length = n * size
  one : ∀ v ∈ new, v.oneCell' = true
  cases : (∃ e', P.underlying xt = some (.slice e')) ∧ (∃ a c, x = .slice a n c) ∧ (Builtin.firstCells size n x).run P w = .ok new.toArray w ∨
    P.underlying xt = some (.int .i64) ∧ (∃ k, x = .int k (n : Int)) ∧ n ≤ 1048576 ∧ ∃ zv, (∀ w, (zeroValue e).run P w = .ok zv w) ∧ zv.cells.size = size ∧ new = (List.replicate n zv.cells.toList).flatten

variable {st xt e : TypeId} {size by_ : Nat}

/-- append in the model: it fits -/
theorem run_append_fits {x : Value} {n : Nat} {new : List Value} {w : World} {base : Option Addr} {len cap : Nat} {ty : TypeId} {rest : List TypeId} (hat : ats.toList = st :: xt :: rest) (hu : P.underlying st = some (.slice e)) (hs : sizeT P e = some size) (hb : bytesT P e = some by_)
    (hsrc : Src P e size xt x n new w) (hby : n * by_ ≤ 2 ^ 48) (hfit : len + n ≤ cap) :
    (Builtin.append_ ats ty #[.slice base len cap, x]).run P w = match base with
      | some a => ((storeCells (a.add (len * size)) new).run P w).andThen fun _ w => .ok (.slice base (len + n) cap) w
      | none => .ok (.slice none (len + n) cap) w := by
  have h0 : ats[0]? = some st := by rw [← Array.getElem?_toList, hat]; rfl
  have h1 : ats[1]? = some xt := by rw [← Array.getElem?_toList, hat]; rfl
  obtain ⟨ie, hie, hib⟩ := Option.map_eq_some_iff.1 hb
  have hti : (typeInfo e).run P w = .ok ie w := by simp [typeInfo, hie]
  have e0 : (#[Value.slice base len cap, x] : Array Value)[0]? = some (.slice base len cap) := rfl
  have e1 : (#[Value.slice base len cap, x] : Array Value)[1]? = some x := rfl
  rcases hsrc.cases with ⟨⟨e', hxu⟩, ⟨a, c, rfl⟩, hfc⟩ | ⟨hxu, ⟨k, rfl⟩, hn, zv, hz1, hz2, hz3⟩
  · simp only [Builtin.append_, h0, h1, e0, e1, Sem.run_bind, run_underlying' hu, Result.andThen_ok, run_sizeOf' hs, run_underlying' hxu, Sem.run_pure, Bool.false_eq_true, if_false, Builtin.lenOf, if_pos hfit, Bool.not_false, if_true, hfc]
    cases base <;> simp
  · have hw : IntKind.i64.wrap (n : Int) = (n : Int) := wrap_fits (k := .i64) (n := n) (Nat.ble_eq_true_of_le (by simp only [lim]; omega))
    have hneg : ¬ ((n : Int) < 0) := by omega
    have hbig : ¬ ((n : Int) * (ie.bytes : Int) > 2 ^ 48) := by
      rw [hib]
      have : ((n : Int) * (by_ : Int)) = ((n * by_ : Nat) : Int) := by simp
      rw [this]; omega
    have hnew : (Builtin.zeroCells zv.cells n) = new.toArray := by
      apply Array.toList_inj.1; rw [zeroCells_eq]; simp [hz3]
    simp only [Builtin.append_, h0, h1, e0, e1, Sem.run_bind, run_underlying' hu, Result.andThen_ok, run_sizeOf' hs, run_underlying' hxu, Sem.run_pure, if_true, asInt, asIntOf, hw, if_neg hneg, hti, if_neg hbig, Int.toNat_natCast, if_pos hfit, Bool.not_true, Bool.false_eq_true, if_false]
    by_cases hns : n * size = 0
    · have hnil : new = [] := List.eq_nil_of_length_eq_zero (by rw [hsrc.len, hns])
      subst hnil
      simp only [if_pos hns, Sem.run_pure, Result.andThen_ok]
      cases base <;> simp [storeCells]
    · simp only [if_neg hns, Sem.run_bind, hz1, Result.andThen_ok, Sem.run_pure, hnew]
      cases base <;> simp

/-- append in the model: it does not fit -/
theorem run_append_new {x : Value} {n : Nat} {new old : List Value} {w : World} {base : Option Addr} {len cap : Nat} {ty : TypeId} {rest : List TypeId} {z : Value} (hat : ats.toList = st :: xt :: rest) (hu : P.underlying st = some (.slice e)) (hs : sizeT P e = some size) (hb : bytesT P e = some by_)
    (hz : ∀ w, (zeroValue e).run P w = .ok z w) (hsrc : Src P e size xt x n new w) (hsrc' : Src P e size xt x n new w.drew) (hold : (Builtin.firstCells size len (.slice base len cap)).run P w.drew = .ok old.toArray w.drew) (hfit : cap < len + n) (hb1 : 1 ≤ by_) (hby : (len + n) * by_ ≤ 35184372088832) :
    ∃ newCap, len + n ≤ newCap ∧ (Builtin.append_ ats ty #[.slice base len cap, x]).run P w =
      .ok (.slice (some ⟨w.heap.size, 0, none⟩) (len + n) newCap) (w.drew.alloc (.cells (old.toArray ++ new.toArray ++ Builtin.zeroCells z.cells (newCap - (len + n))) e)) := by
  have h0 : ats[0]? = some st := by rw [← Array.getElem?_toList, hat]; rfl
  have h1 : ats[1]? = some xt := by rw [← Array.getElem?_toList, hat]; rfl
  obtain ⟨ie, hie, hib⟩ := Option.map_eq_some_iff.1 hb
  have hti : ∀ w, (typeInfo e).run P w = .ok ie w := fun w => by simp [typeInfo, hie]
  have e0 : (#[Value.slice base len cap, x] : Array Value)[0]? = some (.slice base len cap) := rfl
  have e1 : (#[Value.slice base len cap, x] : Array Value)[1]? = some x := rfl
  have hle : len + n ≤ (len + n) * by_ := Nat.le_mul_of_pos_right _ hb1
  have hnb : n * by_ ≤ (len + n) * by_ := Nat.mul_le_mul_right _ (by omega)
  have hmax : ¬ (((len + n : Nat) : Int) > IntKind.i64.max) := by simp only [IntKind.max, IntKind.signed, IntKind.bits, if_true]; omega
  have hcapb : ¬ (Builtin.nextslicecap (len + n) cap * ie.bytes > 2 ^ 48) := by
    have h3 := nextslicecap_le (need := len + n) (old := cap) hfit
    rw [hib]
    have : Builtin.nextslicecap (len + n) cap * by_ ≤ 2 * (len + n) * by_ := Nat.mul_le_mul_right _ h3
    have : 2 * (len + n) * by_ = 2 * ((len + n) * by_) := Nat.mul_assoc _ _ _
    omega
  have hch : (choose (.appendCap (len + n) cap e)).run P w = .ok ((Question.appendCap (len + n) cap e).cut (w.tape w.drawn (.appendCap (len + n) cap e))) w.drew := by
    rw [run_choose]; rfl
  refine ⟨(Question.appendCap (len + n) cap e).cut (w.tape w.drawn (.appendCap (len + n) cap e)), by simp only [Question.cut]; omega, ?_⟩
  rcases hsrc.cases with ⟨⟨e', hxu⟩, ⟨a, c, rfl⟩, _⟩ | ⟨hxu, ⟨k, rfl⟩, hn, zv, hz1, hz2, hz3⟩
  · have hfc : (Builtin.firstCells size n (.slice a n c)).run P w.drew = .ok new.toArray w.drew := by
      rcases hsrc'.cases with ⟨_, _, h⟩ | ⟨h, _⟩
      · exact h
      · rw [hxu] at h; cases h
    simp only [Builtin.append_, h0, h1, e0, e1, Sem.run_bind, run_underlying' hu, Result.andThen_ok, run_sizeOf' hs, run_underlying' hxu, Sem.run_pure, Bool.false_eq_true, if_false, Builtin.lenOf, if_neg (Nat.not_le.2 hfit), hti, hmax, false_and, if_neg hcapb, hch, run_askRoom, hold, Bool.not_false, if_true, hfc, hz, newRow, run_newObj]
    rfl
  · have hw : IntKind.i64.wrap (n : Int) = (n : Int) := wrap_fits (k := .i64) (n := n) (Nat.ble_eq_true_of_le (by simp only [lim]; omega))
    have hneg : ¬ ((n : Int) < 0) := by omega
    have hbig : ¬ ((n : Int) * (ie.bytes : Int) > 2 ^ 48) := by
      rw [hib]
      have : ((n : Int) * (by_ : Int)) = ((n * by_ : Nat) : Int) := by simp
      rw [this]; omega
    have hnew : (Builtin.zeroCells zv.cells n) = new.toArray := by
      apply Array.toList_inj.1; rw [zeroCells_eq]; simp [hz3]
    simp only [Builtin.append_, h0, h1, e0, e1, Sem.run_bind, run_underlying' hu, Result.andThen_ok, run_sizeOf' hs, run_underlying' hxu, Sem.run_pure, if_true, asInt, asIntOf, hw, if_neg hneg, hti, if_neg hbig, Int.toNat_natCast, if_neg (Nat.not_le.2 hfit), hmax, false_and, Bool.false_eq_true, if_false, if_neg hcapb, hch, run_askRoom, hold, Bool.not_true]
    by_cases hns : n * size = 0
    · have hnil : new = [] := List.eq_nil_of_length_eq_zero (by rw [hsrc.len, hns])
      subst hnil
      simp only [if_pos hns, Sem.run_pure, Result.andThen_ok, Sem.run_bind, hz, newRow, run_newObj]
      rfl
    · simp only [if_neg hns, Sem.run_bind, hz1, Result.andThen_ok, Sem.run_pure, hnew, newRow, run_newObj]
      have hzz : zv = z := by have h5 := hz1 w; rw [hz w] at h5; cases h5; rfl
      rw [← hnew, hzz]; rfl
end
end Go.Bb
