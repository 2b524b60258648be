/-
  The operations that make memory.
-/
import Derived.Test.YtjdcodjoheckcaaGreatDoorBbHeap
namespace Go.Bb
variable {P : Program}

theorem path_cases (p q : Path) : p = q ∨ p ≠ q := Classical.em _

noncomputable def upd (G : Heap) (p : Path) (o : Option AO) : Heap := fun q => open Classical in if q = p then o else G q
theorem upd_same (G : Heap) (p : Path) (o : Option AO) : upd G p o p = o := by simp [upd]
theorem upd_other (G : Heap) {p q : Path} (o : Option AO) (h : q ≠ p) : upd G p o q = G q := by simp [upd, h]
noncomputable def ins (ρ : Emb) (p : Path) (l : Loc) : Emb := fun q => open Classical in if q = p then some l else ρ q
theorem ins_same (ρ : Emb) (p : Path) (l : Loc) : ins ρ p l p = some l := by simp [ins]
theorem ins_other (ρ : Emb) {p q : Path} (l : Loc) (h : q ≠ p) : ins ρ p l q = ρ q := by simp [ins, h]
theorem sub_ins {ρ : Emb} {p : Path} {l : Loc} (h : ρ p = none) : Sub ρ (ins ρ p l) := fun q l' hq => by
  rcases path_cases q p with rfl | hne
  · rw [h] at hq; cases hq
  · rw [ins_other _ _ hne]; exact hq

theorem heapOf_put (h : AH) (p : Path) (o : Option AO) (n : Nat) : heapOf ⟨h.g.put p o, n⟩ = upd (heapOf h) p o := by
  funext q
  rcases path_cases q p with rfl | hne
  · rw [upd_same]; exact get_put_same _ _ _
  · rw [upd_other _ _ hne]; exact get_put_other _ _ _ _ hne

/-- a block more -/
theorem heap_alloc (w : World) (o : Obj) (b : Nat) : (w.alloc o).heap[b]? = if b = w.heap.size then some o else w.heap[b]? := by
  simp only [World.alloc, Array.getElem?_push]
theorem heap_alloc_old {w : World} {o : Obj} {b : Nat} (h : b < w.heap.size) : (w.alloc o).heap[b]? = w.heap[b]? := by
  rw [heap_alloc, if_neg (by omega)]

theorem froz_cells (w : World) (c : Array Value) (T : TypeId) (a : Addr) : (w.alloc (.cells c T)).frozen? a = w.frozen? a := RowKit.frozen?_alloc_cells w c T a
theorem froz_map (w : World) (m : Array MapEntry) (k : Nat) (a : Addr) : (w.alloc (.map m k)).frozen? a = w.frozen? a := by
  by_cases h : a.block = w.heap.size
  · have e2 : w.heap[a.block]? = none := by rw [h]; simp
    have e3 : (w.alloc (.map m k)).heap[a.block]? = some (.map m k) := by rw [heap_alloc, if_pos h]
    simp only [World.frozen?, e2, e3]
  · have e3 : (w.alloc (.map m k)).heap[a.block]? = w.heap[a.block]? := by rw [heap_alloc, if_neg h]
    simp only [World.frozen?, e3]

theorem HR.alloc {ρ : Emb} {G : Heap} {n n' : Nat} {w : World} (h : HR ρ G n w) {j sz : Nat} (hnew : ρ (tp j) = none) (hn : n ≤ n') (hj : j < n') {cob : Obj} {ob : AO}
    (hO : OR (ins ρ (tp j) ⟨w.heap.size, 0, sz⟩) ⟨w.heap.size, 0, sz⟩ (some cob) ob) : HR (ins ρ (tp j) ⟨w.heap.size, 0, sz⟩) (upd G (tp j) (some ob)) n' (w.alloc cob) := by
  refine ⟨fun i hi => ?_, fun p o hp => ?_, fun p q o o' l l' hp hq hw hl hl' hne => ?_⟩
  · rw [ins_other _ _ (fun e => by have := tp_inj e; omega)]; exact h.fresh i (by omega)
  · rcases path_cases p (tp j) with rfl | hne
    · rw [upd_same] at hp; cases hp
      exact ⟨_, ins_same _ _ _, by rw [heap_alloc, if_pos rfl]; exact hO⟩
    · rw [upd_other _ _ hne] at hp
      obtain ⟨l, h1, h2⟩ := h.live p o hp
      refine ⟨l, by rw [ins_other _ _ hne]; exact h1, ?_⟩
      rw [heap_alloc_old (h.block_lt hp h1)]
      exact h2.mono (sub_ins hnew)
  · rcases path_cases p (tp j) with rfl | h1 <;> rcases path_cases q (tp j) with rfl | h2
    · exact absurd rfl hne
    · rw [ins_same] at hl; cases hl
      rw [upd_other _ _ h2] at hq; rw [ins_other _ _ h2] at hl'
      have := h.block_lt hq hl'; simp; omega
    · rw [ins_same] at hl'; cases hl'
      rw [upd_other _ _ h1] at hp; rw [ins_other _ _ h1] at hl
      have := h.block_lt hp hl; simp; omega
    · rw [upd_other _ _ h1] at hp; rw [ins_other _ _ h1] at hl
      rw [upd_other _ _ h2] at hq; rw [ins_other _ _ h2] at hl'
      exact h.inj p q o o' l l' hp hq hw hl hl' hne

theorem Ext.alloc {ρ0 ρ : Emb} {G0 G : Heap} {n0 n n' : Nat} {w0 w : World} (h : Ext ρ0 G0 n0 w0 ρ G n w) {j sz : Nat} (hnew : ρ (tp j) = none) (hj : n0 ≤ j) (hn : n ≤ n') {cob : Obj} {ob : AO}
    (hf : ∀ a, (w.alloc cob).frozen? a = w.frozen? a) : Ext ρ0 G0 n0 w0 (ins ρ (tp j) ⟨w.heap.size, 0, sz⟩) (upd G (tp j) (some ob)) n' (w.alloc cob) := by
  refine ⟨h.sub.trans (sub_ins hnew), Nat.le_trans h.size (by rw [World.size_alloc]; omega), fun b hb hfree => ?_, fun p o l hp hw hl hlt => ?_, fun p o hp => ?_, Nat.le_trans h.next hn, h.os, h.output, fun a ha hla => (hf a).trans (h.froz a ha hla), fun p hp hi => by rw [ins_other _ _ (hi j hj)]; exact h.emb p hp hi, fun b c Ty fr hb hlb => ?_, fun p o l hp hw hl => ?_, fun p o l hp ht hl hlt => ?_⟩
  · rw [heap_alloc_old (Nat.lt_of_lt_of_le hb h.size)]; exact h.keep b hb hfree
  · rcases path_cases p (tp j) with rfl | hne
    · rw [ins_same] at hl; cases hl
      have := h.size; simp at hlt; omega
    · rw [upd_other _ _ hne] at hp; rw [ins_other _ _ hne] at hl
      exact h.own p o l hp hw hl hlt
  · rcases path_cases p (tp j) with rfl | hne
    · exact .inr ⟨j, hj, rfl⟩
    · rw [upd_other _ _ hne] at hp; exact h.dom p o hp
  · obtain ⟨c', h1, h2, h3⟩ := h.typed b c Ty fr hb hlb
    have hlt : b < w0.heap.size := by
      rcases Nat.lt_or_ge b w0.heap.size with h | h
      · exact h
      · rw [Array.getElem?_eq_none h] at hb; cases hb
    exact ⟨c', by rw [heap_alloc_old (Nat.lt_of_lt_of_le hlt h.size)]; exact h1, h2, h3⟩
  · rcases path_cases p (tp j) with rfl | hne
    · rw [ins_same] at hl; cases hl; exact .inr h.size
    · rw [upd_other _ _ hne] at hp; rw [ins_other _ _ hne] at hl; exact h.old p o l hp hw hl
  · rcases path_cases p (tp j) with rfl | hne
    · rw [ins_same] at hl; cases hl
      have := h.size; simp at hlt; omega
    · rw [upd_other _ _ hne] at hp; rw [ins_other _ _ hne] at hl; exact h.lit p o l hp ht hl hlt

/-- an object is changed where it lies -/
theorem HR.set {ρ : Emb} {G : Heap} {n : Nat} {w w' : World} (h : HR ρ G n w) {id : Path} {o o' : AO} {l : Loc} (hg : G id = some o) (how : o.wr = true) (hl : ρ id = some l)
    (hk : ∀ b, b ≠ l.block → w'.heap[b]? = w.heap[b]?) (hO : OR ρ l w'.heap[l.block]? o') : HR ρ (upd G id (some o')) n w' := by
  refine ⟨h.fresh, fun p o1 hp => ?_, fun p q o1 o2 l1 l2 hp hq hw hl1 hl2 hne => ?_⟩
  · rcases path_cases p id with rfl | hne
    · rw [upd_same] at hp; cases hp; exact ⟨l, hl, hO⟩
    · rw [upd_other _ _ hne] at hp
      obtain ⟨l1, h1, h2⟩ := h.live p o1 hp
      exact ⟨l1, h1, by rw [hk _ (h.inj p id o1 o l1 l hp hg (.inr how) h1 hl hne)]; exact h2⟩
  · have gp : ∃ o1', G p = some o1' ∧ (o1.wr = true → o1'.wr = true) := by
      rcases path_cases p id with rfl | hne
      · exact ⟨o, hg, fun _ => how⟩
      · rw [upd_other _ _ hne] at hp; exact ⟨o1, hp, fun h => h⟩
    have gq : ∃ o2', G q = some o2' ∧ (o2.wr = true → o2'.wr = true) := by
      rcases path_cases q id with rfl | hne
      · exact ⟨o, hg, fun _ => how⟩
      · rw [upd_other _ _ hne] at hq; exact ⟨o2, hq, fun h => h⟩
    obtain ⟨a, ha, ha'⟩ := gp
    obtain ⟨b, hb, hb'⟩ := gq
    exact h.inj p q a b l1 l2 ha hb (hw.imp ha' hb') hl1 hl2 hne

theorem Ext.set {ρ : Emb} {G : Heap} {n : Nat} {w w' : World} {id : Path} {o o' : AO} {l : Loc} (hg : G id = some o) (how : o.wr = true) (how' : o'.wr = true) (hlt : o'.lt = false) (hl : ρ id = some l) (hs : w'.heap.size = w.heap.size)
    (hk : ∀ b, b ≠ l.block → w'.heap[b]? = w.heap[b]?) (ho : w'.os = w.os) (hu : w'.output = w.output) (hf : ∀ a, (o.lt = true → l.block ≠ a.block) → w'.frozen? a = w.frozen? a)
    (ht : o.lt = false → ∀ c Ty fr, w.heap[l.block]? = some (.cells c Ty fr) → ∃ c', w'.heap[l.block]? = some (.cells c' Ty fr) ∧ c'.size = c.size ∧ ∀ j : Nat, (j < l.base ∨ l.size ≤ j) → c'[j]? = c[j]?) : Ext ρ G n w ρ (upd G id (some o')) n w' := by
  refine ⟨.refl _, by rw [hs]; exact Nat.le_refl _, fun b hb hfree => hk b (fun e => hfree id o l hg how hl e.symm), fun p o1 l1 hp hw1 hl1 _ => ?_, fun p o1 hp => .inl ?_, Nat.le_refl _, ho, hu, fun a _ hla => hf a fun ht => hla id o l hg ht hl, fun _ h _ => h, fun b c Ty fr hb hlb => ?_, fun p o1 l1 hp hw1 hl1 => .inl ?_, fun p o1 l1 hp ht1 hl1 _ => ?_⟩
  · rcases path_cases p id with rfl | hne
    · exact ⟨p, o, l1, hg, how, hl1, rfl, Nat.le_refl _, Nat.le_refl _⟩
    · rw [upd_other _ _ hne] at hp; exact ⟨p, o1, l1, hp, hw1, hl1, rfl, Nat.le_refl _, Nat.le_refl _⟩
  · rcases path_cases p id with rfl | hne
    · exact ⟨o, hg⟩
    · rw [upd_other _ _ hne] at hp; exact ⟨o1, hp⟩
  · by_cases hbl : b = l.block
    · subst hbl
      obtain ⟨c', h1, h2, h3⟩ := ht (by
        cases hb1 : o.lt with
        | false => rfl
        | true => exact absurd rfl (hlb id o l hg hb1 hl)) c Ty fr hb
      exact ⟨c', h1, h2, fun j hj => h3 j (hj id o l hg how hl rfl)⟩
    · exact ⟨c, by rw [hk b hbl]; exact hb, rfl, fun _ _ => rfl⟩
  · rcases path_cases p id with rfl | hne
    · rw [upd_same] at hp; cases hp; rw [how'] at hw1; cases hw1
    · rw [upd_other _ _ hne] at hp; exact ⟨hp, hl1⟩
  · rcases path_cases p id with rfl | hne
    · rw [upd_same] at hp; cases hp; rw [hlt] at ht1; cases ht1
    · rw [upd_other _ _ hne] at hp; exact ⟨p, o1, l1, hp, ht1, hl1, rfl⟩

/-- an object is looked at no more -/
theorem HR.del {ρ : Emb} {G : Heap} {n : Nat} {w : World} (h : HR ρ G n w) (id : Path) : HR ρ (upd G id none) n w :=
  h.weaken fun p o hp => by
    rcases path_cases p id with rfl | hne
    · rw [upd_same] at hp; cases hp
    · rwa [upd_other _ _ hne] at hp
theorem Ext.del (ρ : Emb) (G : Heap) (n : Nat) (w : World) (id : Path) : Ext ρ G n w ρ (upd G id none) n w := by
  have hs : ∀ p o, upd G id none p = some o → G p = some o := fun p o hp => by
    rcases path_cases p id with rfl | hne
    · rw [upd_same] at hp; cases hp
    · rwa [upd_other _ _ hne] at hp
  exact ⟨.refl _, Nat.le_refl _, fun _ _ _ => rfl, fun p o l hp hw hl _ => ⟨p, o, l, hs p o hp, hw, hl, rfl, Nat.le_refl _, Nat.le_refl _⟩, fun p o hp => .inl ⟨o, hs p o hp⟩, Nat.le_refl _, rfl, rfl, fun _ _ _ => rfl, fun _ h _ => h, fun b c Ty fr h _ => ⟨c, h, rfl, fun _ _ => rfl⟩, fun p o l hp _ hl => .inl ⟨hs p o hp, hl⟩, fun p o l hp ht hl _ => ⟨p, o, l, hs p o hp, ht, hl, rfl⟩⟩

/-! ### Rows -/
theorem row_or {ρ : Emb} {l : List SV} {c : Array Value} {b : Nat} {Ty : TypeId} (h : All2 (SR ρ) l c.toList) : OR ρ ⟨b, 0, c.size⟩ (some (.cells c Ty)) (.cells (putAll l 0 .l) l.length) := by
  refine ⟨c, Ty, (0, 0), rfl, ⟨by have := h.length; simp at this ⊢; omega, Nat.le_refl _⟩, fun i s hi => ?_, fun i hi => ?_, calm0 _⟩
  · rw [get_putAll] at hi
    split at hi
    · obtain ⟨cv, h1, h2⟩ := h.get (i := i) (by simpa using hi)
      exact ⟨cv, by simpa using h1, h2⟩
    · rw [get_leaf] at hi; cases hi
  · rw [get_putAll, if_neg (by omega)]; exact get_leaf _

theorem range_mod (zc : Array Value) (n : Nat) : (List.range (n * zc.size)).map (fun i => zc[i % zc.size]!) = (List.replicate n zc.toList).flatten := by
  induction n with
  | zero => simp
  | succ n ih =>
    rw [Nat.succ_mul, Nat.add_comm, List.range_add, List.map_append, List.replicate_succ, List.flatten_cons, ← ih]
    congr 1
    · apply List.ext_getElem?
      intro i
      by_cases hi : i < zc.size
      · simp [hi, Nat.mod_eq_of_lt hi]
      · simp [hi]
    · simp

theorem All2.flatten_rep {ρ : Emb} {z : List SV} {zc : List Value} (h : All2 (SR ρ) z zc) : ∀ n, All2 (SR ρ) (List.replicate n z).flatten (List.replicate n zc).flatten
  | 0 => .nil
  | n + 1 => by simpa [List.replicate_succ] using h.append (All2.flatten_rep h n)

theorem times_rel {ρ : Emb} {z : List SV} {zc : Array Value} (h : All2 (SR ρ) z zc.toList) (n : Nat) : All2 (SR ρ) (List.replicate n z).flatten ((Array.range (n * zc.size)).map (fun i => zc[i % zc.size]!)).toList := by
  have : ((Array.range (n * zc.size)).map (fun i => zc[i % zc.size]!)).toList = (List.replicate n zc.toList).flatten := by
    rw [← range_mod, Array.toList_map, Array.toList_range]
  rw [this]; exact h.flatten_rep n

theorem flatten_len {z : List SV} (n : Nat) : (List.replicate n z).flatten.length = n * z.length := by simp

/-! ### That make memory -/
def AllocOk (P : Program) (o : Op) (lo : LOp) : Prop :=
  ∀ (tm : Tm) (id : Path) (ret : AO → AV → R) (r : AV × AH), lo tm id ret = some r → ∃ ob v, ret ob v = some r ∧
    ∀ (ρ : Emb) (ce : Operand → Value) (w : World), EvR ρ tm ce o.operands → ∃ (cob : Obj) (sz : Nat), (∀ a, (w.alloc cob).frozen? a = w.frozen? a) ∧
      ∀ ρ', Sub ρ ρ' → ρ' id = some ⟨w.heap.size, 0, sz⟩ → OR ρ' ⟨w.heap.size, 0, sz⟩ (some cob) ob ∧ ∃ cv, VR ρ' v cv ∧ ∀ (O : Oper), O.op = o → (execOp ce O).run P w = .ok (.value cv) (w.alloc cob)

section
variable {x y : Operand} {ax ay : Opd} {t : TypeId}

theorem All2.srmono {ρ ρ' : Emb} (hs : Sub ρ ρ') {l : List SV} {r : List Value} (h : All2 (SR ρ) l r) : All2 (SR ρ') l r := h.mono fun _ _ x => x.mono hs

theorem alloc_alloc {z : List SV} (hz : zeroT P t = some z) : AllocOk P (.alloc t) (lAlloc z) := by
  intro tm id ret r h
  unfold lAlloc at h
  rw [ofListS_eq, forceN_eq, lenS_eq] at h
  refine ⟨_, _, h, fun ρ ce w he => ?_⟩
  obtain ⟨zv, hzr, hzrun⟩ := zero_rel (ρ := ρ) hz
  refine ⟨.cells zv.cells t, zv.cells.size, froz_cells w _ _, fun ρ' hs hid => ⟨row_or (hzr.srmono hs), _, .s (.ptr hid), fun O hO => ?_⟩⟩
  simp only [execOp, hO, Instr.alloc, Sem.run_bind, hzrun, Result.andThen_ok, newVar, newRow, run_newObj, Sem.run_pure]
  rfl

theorem alloc_box (hx : opd x = some ax) : AllocOk P (.box t x) (lBox ax) := by
  intro tm id ret r h
  obtain ⟨cs, hc, h1⟩ := onCells_some h
  rw [ofListS_eq, forceN_eq, lenS_eq] at h1
  refine ⟨_, _, h1, fun ρ ce w he => ?_⟩
  have hv := (he x (by simp [Op.operands]) ax hx).cells hc
  refine ⟨.cells (ce x).cells t, (ce x).cells.size, froz_cells w _ _, fun ρ' hs hid => ⟨row_or (hv.srmono hs), _, .s (.ptr hid), fun O hO => ?_⟩⟩
  simp only [execOp, hO, Instr.box, Sem.run_bind, newVar, newRow, run_newObj, Result.andThen_ok, Sem.run_pure]
  rfl

theorem alloc_row {len e s : Nat} {z : List SV} {parts : Array (Nat × Operand)} {ps : List (Nat × Nat × Opd)} (hu : P.underlying t = some (.slice e)) (hs : sizeT P e = some s) (hz : zeroT P e = some z) (hp : partsOf (fun i => some (i * s, s)) parts.toList = some ps)
    (hmax : len * s ≤ 16777216) (hzs : z.length = s) : AllocOk P (.buildSlice t len parts) (lRow len s z ps) := by
  intro tm id ret r h
  unfold lRow at h
  rw [wholeS_eq, timesS_eq] at h
  obtain ⟨out, h1, hrel⟩ := fillK_some hp h
  rw [ofListS_eq, forceN_eq, lenS_eq] at h1
  refine ⟨_, _, h1, fun ρ ce w he => ?_⟩
  obtain ⟨zv, hzr, hzrun⟩ := zero_rel (ρ := ρ) hz
  have hzsz : zv.cells.size = s := by have := hzr.length; simp at this; omega
  have hcells : All2 (SR ρ) (List.replicate len z).flatten (((Array.range (len * s)).map (fun i => (if len * s = 0 then #[] else zv.cells)[i % (if len * s = 0 then (#[] : Array Value) else zv.cells).size]!)).toList) := by
    by_cases h0 : len * s = 0
    · have : (List.replicate len z).flatten = [] := List.eq_nil_of_length_eq_zero (by rw [flatten_len, hzs, h0])
      rw [this]; simp [h0]; exact .nil
    · have := times_rel hzr len
      rw [hzsz] at this
      simpa [h0, hzsz] using this
  obtain ⟨cout, hf, ho⟩ := hrel ρ ce (fun p hp ax hax => he p.2 (by simp [Op.operands]; exact ⟨p.1, by simpa using hp⟩) ax hax) _ hcells
  refine ⟨.cells cout e, cout.size, froz_cells w _ _, fun ρ' hs' hid => ⟨row_or (ho.srmono hs'), _, .s (.sl hid), fun O hO => ?_⟩⟩
  have hmap : (parts.map fun (p : Nat × Operand) => (p.1, ce p.2)).toList = parts.toList.map fun p => (p.1, ce p.2) := by simp
  simp only [execOp, hO, Instr.buildSlice, Sem.run_bind, run_underlying' hu, run_sizeOf' hs, Result.andThen_ok, hmap]
  rw [if_neg (by omega)]
  by_cases h0 : len * s = 0
  · simp only [if_pos h0] at hf
    simp only [if_pos h0, Sem.run_bind, Sem.run_pure, Result.andThen_ok, hf, newRow, run_newObj]
    rfl
  · simp only [if_neg h0] at hf
    simp only [if_neg h0, Sem.run_bind, Sem.run_pure, Result.andThen_ok, hzrun, hf, newRow, run_newObj]
    rfl

theorem alloc_lit {len e s : Nat} {z : List SV} {parts : Array (Nat × Operand)} {ps : List (Nat × Nat × Opd)} (hu : P.underlying t = some (.slice e)) (hs : sizeT P e = some s) (hz : zeroT P e = some z) (hp : partsOf (fun i => some (i * s, s)) parts.toList = some ps)
    (hmax : len * s ≤ 16777216) (hzs : z.length = s) : AllocOk P (.buildSlice t len parts) (lLit len s z ps) := by
  intro tm id ret r h
  unfold lLit at h
  rw [wholeS_eq, timesS_eq] at h
  obtain ⟨out, h1, hrel⟩ := fillK_some hp h
  rw [wholeS_eq] at h1
  refine ⟨_, _, h1, fun ρ ce w he => ?_⟩
  obtain ⟨zv, hzr, hzrun⟩ := zero_rel (ρ := ρ) hz
  have hzsz : zv.cells.size = s := by have := hzr.length; simp at this; omega
  have hcells : All2 (SR ρ) (List.replicate len z).flatten (((Array.range (len * s)).map (fun i => (if len * s = 0 then #[] else zv.cells)[i % (if len * s = 0 then (#[] : Array Value) else zv.cells).size]!)).toList) := by
    by_cases h0 : len * s = 0
    · have : (List.replicate len z).flatten = [] := List.eq_nil_of_length_eq_zero (by rw [flatten_len, hzs, h0])
      rw [this]; simp [h0]; exact .nil
    · have := times_rel hzr len
      rw [hzsz] at this
      simpa [h0, hzsz] using this
  obtain ⟨cout, hf, ho⟩ := hrel ρ ce (fun p hp ax hax => he p.2 (by simp [Op.operands]; exact ⟨p.1, by simpa using hp⟩) ax hax) _ hcells
  refine ⟨.cells cout e, cout.size, froz_cells w _ _, fun ρ' hs' hid => ⟨⟨_, _, rfl, rfl, rfl, ho.srmono hs'⟩, _, .s (.sl hid), fun O hO => ?_⟩⟩
  have hmap : (parts.map fun (p : Nat × Operand) => (p.1, ce p.2)).toList = parts.toList.map fun p => (p.1, ce p.2) := by simp
  simp only [execOp, hO, Instr.buildSlice, Sem.run_bind, run_underlying' hu, run_sizeOf' hs, Result.andThen_ok, hmap]
  rw [if_neg (by omega)]
  by_cases h0 : len * s = 0
  · simp only [if_pos h0] at hf
    simp only [if_pos h0, Sem.run_bind, Sem.run_pure, Result.andThen_ok, hf, newRow, run_newObj]
    rfl
  · simp only [if_neg h0] at hf
    simp only [if_neg h0, Sem.run_bind, Sem.run_pure, Result.andThen_ok, hzrun, hf, newRow, run_newObj]
    rfl

theorem zerosK_eq (z : List SV) (n : Nat) (k : T SV → R) : ∃ t, zerosK z n k = k t ∧ ∀ i, T.get (tp i) t = (List.replicate n z).flatten[i]? := by
  match z with
  | [] => exact ⟨.l, rfl, fun i => by rw [get_leaf]; simp⟩
  | [v] =>
    refine ⟨repT v n n, repK_eq v n n k, fun i => ?_⟩
    rw [get_repT v n n i (Nat.le_refl _)]
    have : (List.replicate n [v]).flatten = List.replicate n v := by
      clear k
      induction n with
      | zero => rfl
      | succ n ih => simp [List.replicate_succ, ih]
    rw [this]
    by_cases h : i < n
    · simp [h]
    · simp [h]
  | v :: u :: z =>
    refine ⟨putAll (List.replicate n (v :: u :: z)).flatten 0 .l, ?_, fun i => ?_⟩
    · show ofListS (timesS (v :: u :: z) n) 0 .l k = _
      rw [ofListS_eq, timesS_eq]
    · rw [get_putAll]
      by_cases h : 0 ≤ i ∧ i < 0 + (List.replicate n (v :: u :: z)).flatten.length
      · rw [if_pos h]; simp
      · rw [if_neg h, get_leaf, eq_comm, List.getElem?_eq_none_iff]; omega

theorem alloc_make {e s by_ : Nat} {z : List SV} (hu : P.underlying t = some (.slice e)) (hs : sizeT P e = some s) (hb : bytesT P e = some by_) (hz : zeroT P e = some z) (hzs : z.length = s) (hx : opd x = some ax) (hy : opd y = some ay) :
    AllocOk P (.makeSlice t x y) (lMake s by_ z ax ay) := by
  intro tm id ret r h
  obtain ⟨k1, l, e1, h1⟩ := onNat_some h
  obtain ⟨k2, c, e2, h2⟩ := onNat_some h1
  obtain ⟨hok, h3⟩ := guard_some h2
  obtain ⟨tr, ht, hget⟩ := zerosK_eq z c (fun t => forceN (Nat.mul c (lenS z)) fun m => ret (.cells t m) (.s (.sl id 0 l (some c) s)))
  rw [ht, forceN_eq, lenS_eq] at h3
  unfold okMake at hok
  rw [andB_eq, andB_eq, Bool.and_eq_true, Bool.and_eq_true] at hok
  have b1 : l ≤ c := Nat.le_of_ble_eq_true hok.1.1
  have b2 : c * by_ ≤ 140737488355328 := Nat.le_of_ble_eq_true hok.1.2
  have b3 : c < 9223372036854775808 := Nat.le_of_ble_eq_true hok.2
  refine ⟨_, _, h3, fun ρ ce w he => ?_⟩
  obtain ⟨zv, hzr, hzrun⟩ := zero_rel (ρ := ρ) hz
  have hzsz : zv.cells.size = s := by have := hzr.length; simp at this; omega
  have v1 := (ev1 he hx (by simp [Op.operands]) e1).int
  have v2 := (ev1 he hy (by simp [Op.operands]) e2).int
  have hcells : All2 (SR ρ) (List.replicate c z).flatten (((Array.range (c * s)).map (fun i => (if c * s = 0 then #[] else zv.cells)[i % (if c * s = 0 then (#[] : Array Value) else zv.cells).size]!)).toList) := by
    by_cases h0 : c * s = 0
    · have : (List.replicate c z).flatten = [] := List.eq_nil_of_length_eq_zero (by rw [flatten_len, hzs, h0])
      rw [this]; simp [h0]; exact .nil
    · have := times_rel hzr c
      rw [hzsz] at this
      simpa [h0, hzsz] using this
  generalize hrow : ((Array.range (c * s)).map (fun i => (if c * s = 0 then #[] else zv.cells)[i % (if c * s = 0 then (#[] : Array Value) else zv.cells).size]!)) = row at hcells
  refine ⟨.cells row e, row.size, froz_cells w _ _, fun ρ' hs' hid => ⟨?_, _, .s (.sl hid), fun O hO => ?_⟩⟩
  · have hor := row_or (ρ := ρ') (b := w.heap.size) (Ty := e) (hcells.srmono hs')
    obtain ⟨cc, T2, fz, q1, q2, q3, q4, q5⟩ := hor
    refine ⟨cc, T2, fz, q1, ⟨by have := q2.1; rw [flatten_len] at this; exact this, q2.2⟩, fun i s' hi => q3 i s' ?_, fun i hi => ?_, q5⟩
    · rw [hget] at hi
      rw [get_putAll, if_pos (by have := (List.getElem?_eq_some_iff.1 hi).1; omega)]; simpa using hi
    · rw [hget, List.getElem?_eq_none_iff, flatten_len]; exact hi
  · obtain ⟨ie, hie, hib⟩ := Option.map_eq_some_iff.1 hb
    have hti : (typeInfo e).run P w = .ok ie w := by simp [typeInfo, hie]
    have hwl : IntKind.i64.wrap (Int.ofNat l) = (l : Int) := wrap_fits (k := .i64) (n := l) (Nat.ble_eq_true_of_le (by simp only [lim]; omega))
    have hwc : IntKind.i64.wrap (Int.ofNat c) = (c : Int) := wrap_fits (k := .i64) (n := c) (Nat.ble_eq_true_of_le (by simp only [lim]; omega))
    have hbig : ¬ ((ie.bytes : Int) * (c : Int) > 2 ^ 48) := by
      rw [hib]
      have : ((by_ : Int) * (c : Int)) = ((c * by_ : Nat) : Int) := by rw [Nat.mul_comm]; simp
      rw [this]; omega
    have hc1 : ¬ ((c : Int) < 0) := by omega
    have hl1 : ¬ ((l : Int) < 0) := by omega
    have hlc : ¬ ((l : Int) > (c : Int)) := by omega
    simp only [execOp, hO, Instr.makeSlice, Sem.run_bind, run_underlying' hu, Result.andThen_ok, v1, v2, asInt, asIntOf, Sem.run_pure, hti, hwl, hwc]
    simp only [decide_eq_false hc1, decide_eq_false hbig, decide_eq_false hl1, decide_eq_false hlc, Bool.or_self, Bool.false_eq_true, if_false, Sem.run_bind, run_askRoom, Result.andThen_ok, Int.toNat_natCast, run_sizeOf' hs]
    by_cases h0 : c * s = 0
    · simp only [if_pos h0] at hrow
      simp only [if_pos h0, Sem.run_bind, Sem.run_pure, Result.andThen_ok, hrow, newRow, run_newObj]
      rfl
    · simp only [if_neg h0] at hrow
      simp only [if_neg h0, Sem.run_bind, Sem.run_pure, Result.andThen_ok, hzrun, hrow, newRow, run_newObj]
      rfl

theorem alloc_map {kt e : TypeId} {kd : IntKind} (_ : P.underlying t = some (.map kt e)) : AllocOk P (.makeMap t none) (lMap kd) := by
  intro tm id ret r h
  refine ⟨_, _, h, fun ρ ce w he => ⟨.map #[] 0, 0, froz_map w _ _, fun ρ' hs hid => ⟨⟨#[], rfl, .nil, rfl⟩, _, .s (.map hid), fun O hO => ?_⟩⟩⟩
  simp only [execOp, hO, Instr.makeMap, Option.map_none, Sem.run_bind, Sem.run_pure, Result.andThen_ok, run_newObj]
  rfl
end
end Go.Bb
