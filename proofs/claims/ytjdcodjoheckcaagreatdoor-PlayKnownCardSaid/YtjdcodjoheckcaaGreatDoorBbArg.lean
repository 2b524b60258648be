/-
  A slice of whole numbers (or of arrays of such) that a call is given: as an object of the abstract heap; and what is left of it behind the call.
-/
import Derived.Test.YtjdcodjoheckcaaGreatDoorBbSym
import Derived.ProofKit
namespace Go.Bb
open Go.ChangeShapes Go.WideShapes
variable {P : Program} {H : Type} {enc : TypeId × Value → H}

/-- a type's values are so many whole numbers of a kind -/
def FlatInt (P : Program) (e : TypeId) (kd : IntKind) (z : Nat) : Prop :=
  ∀ {H : Type} (enc : TypeId × Value → H) (w : World) (sp : Nat → Bool) (held : Bool) (fuel : Nat) (cs : List Value) (x : DataW H × List MemPlace), DataW.trod enc P w 0 sp held fuel e cs = some x →
    ∃ zs : List Int, cs = zs.map (Value.int kd) ∧ zs.length = z ∧ (∀ n ∈ zs, (Lit.int kd n).wf = true) ∧ x.2 = []

theorem mapM_range_get {α : Type} {f : Nat → Option α} {l : List α} {n : Nat} (h : (List.range n).mapM f = some l) : l.length = n ∧ ∀ i, i < n → f i = l[i]? := by
  refine ⟨by simpa using mapM_some_length h, fun i hi => mapM_some_get h i i (by simp [hi])⟩

theorem flat_int {e : TypeId} {kd : IntKind} (he : P.underlying e = some (.int kd)) : FlatInt P e kd 1 := by
  intro H enc w sp held fuel cs x h
  obtain ⟨n, rfl, rfl, hw⟩ := DataW.trod_int he h
  exact ⟨[n], rfl, rfl, fun m hm => by simp at hm; subst hm; exact hw, rfl⟩

theorem flat_array2 {t e : TypeId} {kd : IntKind} (ht : P.underlying t = some (.array 2 e)) (he : P.underlying e = some (.int kd)) (hc : P.cellsOf e = 1) (hc2 : P.cellsOf t = 2) : FlatInt P t kd 2 := by
  intro H enc w sp held fuel cs x h
  cases fuel with
  | zero => simp [DataW.trod] at h
  | succ n =>
    unfold DataW.trod at h
    rw [ht] at h
    simp only [hc, hc2] at h
    split at h
    · rename_i hl
      obtain ⟨xs, hp, rfl⟩ := Option.map_eq_some_iff.1 h
      obtain ⟨a, b, rfl⟩ : ∃ a b, cs = [a, b] := by
        match cs, hl with
        | [a, b], _ => exact ⟨a, b, rfl⟩
      obtain ⟨hxl, hget⟩ := mapM_range_get hp
      have h1 := hget 0 (by omega)
      have h2 := hget 1 (by omega)
      rw [List.getElem?_eq_getElem (by omega)] at h1 h2
      obtain ⟨n1, e1, x1, w1⟩ := DataW.trod_int he h1
      obtain ⟨n2, e2, x2, w2⟩ := DataW.trod_int he h2
      simp at e1 e2
      subst e1; subst e2
      refine ⟨[n1, n2], rfl, rfl, fun m hm => by simp at hm; rcases hm with rfl | rfl <;> assumption, ?_⟩
      show xs.flatMap (·.2) = []
      rw [List.flatMap_eq_nil_iff]
      intro y hy
      obtain ⟨i, hi, rfl⟩ := List.getElem_of_mem hy
      have : i = 0 ∨ i = 1 := by omega
      rcases this with rfl | rfl
      · rw [x1]
      · rw [x2]
    · cases h

/-- the numbers of a slice -/
theorem slice_flat {t e : TypeId} {kd : IntKind} {z : Nat} {w : World} {v : Value} {d : DataW H} {ps : List MemPlace} (ht : P.underlying t = some (.slice e)) (hz : P.cellsOf e = z) (hf : FlatInt P e kd z)
    (h : DataW.Trod enc P w 0 (fun _ => true) true t v d ps) (hok : Value.okWide P w .any 0 t v) :
    (v = .slice none 0 0 ∧ ps = []) ∨ ∃ (b off len cap : Nat) (zs : List Int), v = .slice (some ⟨b, off, none⟩) len cap ∧ len ≤ cap ∧ cap ≤ maxLen ∧ zs.length = cap * z ∧
      (∀ (i : Nat) n, zs[i]? = some n → w.cell? ⟨b, off + i, none⟩ = some (.int kd n)) ∧ (∀ n ∈ zs, (Lit.int kd n).wf = true) ∧ ps = MemPlace.row ⟨b, off, none⟩ (cap * z) := by
  obtain ⟨a0, len0, cap0, rfl⟩ := okWide_slice ht hok
  obtain ⟨fuel, hfu⟩ := h
  rcases DataW.trod_slice ht (cs := [.slice a0 len0 cap0]) hfu with ⟨h0, h1⟩ | ⟨a, len, cap, elems, rest, n, _, e1, e2, hb, hl, hm, hlen, hel, hsp, _⟩
  · left
    simp only [List.cons.injEq, Value.slice.injEq, and_true] at h0
    obtain ⟨rfl, rfl, rfl⟩ := h0
    cases h1
    exact ⟨rfl, rfl⟩
  · right
    simp only [List.cons.injEq, Value.slice.injEq, and_true] at e1
    obtain ⟨rfl, rfl, rfl⟩ := e1
    obtain ⟨hrl, hr⟩ := hsp rfl
    have hspot : a.spot = none := by
      have hok' : Cell.okWide P w .any 0 t (.slice (some a) len0 cap0) := by
        unfold Value.okWide at hok; rw [ht] at hok; exact hok
      unfold Cell.okWide at hok'
      rw [ht] at hok'
      simp only [] at hok'
      unfold Cell.ok at hok'
      rw [ht] at hok'
      exact hok'.2.2.2.1
    obtain ⟨b, off, spot⟩ := a
    cases hspot
    -- each element
    have each : ∀ i, i < cap0 → ∃ zs : List Int, zs.length = z ∧ (∀ n ∈ zs, (Lit.int kd n).wf = true) ∧ (∃ y, (elems ++ rest)[i]? = some y ∧ y.2 = []) ∧ ∀ j n, zs[j]? = some n → w.cell? ⟨b, off + (i * z + j), none⟩ = some (.int kd n) := by
      intro i hi
      have hb' : ∃ y, (elems ++ rest)[i]? = some y ∧ (w.cells? 0 ((⟨b, off, none⟩ : Addr).add (i * P.cellsOf e)) (P.cellsOf e)).bind (DataW.trod enc P w 0 (fun _ => true) true n e) = some y := by
        by_cases hi2 : i < len0
        · have := hel i hi2
          have hlt : i < elems.length := by omega
          rw [List.getElem?_eq_getElem hlt] at this
          exact ⟨_, by rw [List.getElem?_append_left hlt, List.getElem?_eq_getElem hlt], this⟩
        · have := hr (i - len0) (by omega)
          rw [show len0 + (i - len0) = i by omega] at this
          have hlt : i - len0 < rest.length := by omega
          rw [List.getElem?_eq_getElem hlt] at this
          exact ⟨_, by rw [List.getElem?_append_right (by omega), hlen, List.getElem?_eq_getElem hlt], this⟩
      obtain ⟨y, hy, hyb⟩ := hb'
      rw [hz, Option.bind_eq_some_iff] at hyb
      obtain ⟨cs, hcs, hyt⟩ := hyb
      obtain ⟨zs, rfl, hzl, hw, hx2⟩ := hf enc w _ _ _ _ _ hyt
      refine ⟨zs, hzl, hw, ⟨y, hy, hx2⟩, fun j m hj => ?_⟩
      unfold World.cells? at hcs
      rw [if_pos (by simp)] at hcs
      obtain ⟨_, hget⟩ := mapM_range_get hcs
      have hjz : j < z := by have := (List.getElem?_eq_some_iff.1 hj).1; omega
      have := hget j hjz
      rw [List.getElem?_map, hj, Option.map_some] at this
      rw [← this]
      congr 1
      unfold Addr.add
      split <;> split <;> simp <;> omega
    -- all in a row
    have all : ∀ k, k ≤ cap0 → ∃ zs : List Int, zs.length = k * z ∧ (∀ n ∈ zs, (Lit.int kd n).wf = true) ∧ ∀ i n, zs[i]? = some n → w.cell? ⟨b, off + i, none⟩ = some (.int kd n) := by
      intro k
      induction k with
      | zero => intro _; exact ⟨[], by simp, fun n hn => by simp at hn, fun i n hi => by simp at hi⟩
      | succ k ih =>
        intro hk
        obtain ⟨zs, h1, h2, h3⟩ := ih (by omega)
        obtain ⟨ys, g1, g2, _, g3⟩ := each k (by omega)
        refine ⟨zs ++ ys, by rw [List.length_append, h1, g1, Nat.succ_mul], fun n hn => ?_, fun i n hi => ?_⟩
        · rcases List.mem_append.1 hn with h | h
          · exact h2 n h
          · exact g2 n h
        · by_cases hlt : i < zs.length
          · rw [List.getElem?_append_left hlt] at hi; exact h3 i n hi
          · rw [List.getElem?_append_right (by omega)] at hi
            have := g3 _ _ hi
            rwa [show k * z + (i - zs.length) = i by omega] at this
    obtain ⟨zs, h1, h2, h3⟩ := all cap0 (Nat.le_refl _)
    refine ⟨b, off, len0, cap0, zs, rfl, hl, hm, h1, h3, h2, ?_⟩
    have hps : (elems ++ rest).flatMap (·.2) = [] := by
      rw [List.flatMap_eq_nil_iff]
      intro y hy
      obtain ⟨i, hi, he⟩ := List.getElem_of_mem hy
      obtain ⟨zs', _, _, ⟨y', hy', hy2⟩, _⟩ := each i (by simp at hi; omega)
      rw [List.getElem?_eq_getElem hi] at hy'
      cases hy'
      rw [← he]; exact hy2
    cases e2
    rw [hps, List.append_nil, hz, show elems.length + rest.length = cap0 by omega]

/-- what is left of the world's old cells behind a call -/
def Kept (w w' : World) (ps : List MemPlace) : Prop := w.keptBut w' (· ∈ ps) ∧ (∀ p ∈ ps, w.sameAt w' p) ∧ (∀ a, a.block < w.heap.size → w'.frozen? a = w.frozen? a)

theorem Kept.of_empty {ρ ρ' : Emb} {G G' : Heap} {n n' : Nat} {w w' : World} (h : Ext ρ G n w ρ' G' n' w') (hG : ∀ p, G p = none) {ps : List MemPlace} (hp : ps = []) : Kept w w' ps := by
  subst hp
  have hg := h.grown hG
  refine ⟨?_, fun p hp => (by cases hp), hg.2.1⟩
  exact World.keptBut_mono (fun p hp => hp.elim) hg.1

/-- A SLICE THAT IS GIVEN: as the abstract machine has it, and what is left behind. -/
theorem slice_arg {t e : TypeId} {kd : IntKind} {z : Nat} {w : World} {v : Value} {d : DataW H} {ps : List MemPlace} (ht : P.underlying t = some (.slice e)) (hz : P.cellsOf e = z) (hz0 : 0 < z) (hf : FlatInt P e kd z)
    (h : DataW.Trod enc P w 0 (fun _ => true) true t v d ps) (hok : Value.okWide P w .any 0 t v) (hfz : w.noneFrozen ps) :
    ∃ (ρ : Emb) (h0 : AH) (a : AV) (len : Nat) (zs : List Int), HR ρ (heapOf h0) 1 w ∧ h0.next = 1 ∧ VR ρ a v ∧ Arg a 0 len z ∧ len * z ≤ zs.length ∧ len ≤ maxLen ∧ (∀ n ∈ zs, (Lit.int kd n).wf = true) ∧
      (len ≠ 0 → h0.obj 0 = some (mk (zs.map (SV.int kd)))) ∧
      ∀ (ρ' : Emb) (h' : AH) (w' : World), HR ρ' (heapOf h') h'.next w' → Ext ρ (heapOf h0) 1 w ρ' (heapOf h') h'.next w' → h'.obj 0 = h0.obj 0 → Kept w w' ps := by
  rcases slice_flat ht hz hf h hok with ⟨rfl, rfl⟩ | ⟨b, off, len, cap, zs, rfl, hlc, hcm, hzl, hcell, hwf, rfl⟩
  · refine ⟨fun _ => none, ⟨.l, 1⟩, .s .snil, 0, [], ?_, rfl, .s .snil, .inl ⟨rfl, rfl⟩, by simp, by simp, fun n hn => by simp at hn, fun e => absurd rfl e, fun ρ' h' w' hr hx ho => ?_⟩
    · exact ⟨fun _ _ => rfl, fun p o hp => (by unfold heapOf at hp; rw [get_leaf] at hp; cases hp), fun p _ o _ _ _ hp => (by unfold heapOf at hp; rw [get_leaf] at hp; cases hp)⟩
    · exact Kept.of_empty hx (fun p => by unfold heapOf; exact get_leaf _) rfl
  · by_cases hc0 : cap * z = 0
    · have hcap : cap = 0 := (Nat.mul_eq_zero.1 hc0).resolve_right (by omega)
      subst hcap
      obtain rfl : len = 0 := by omega
      refine ⟨ins (fun _ => none) (tp 0) ⟨b, off, off⟩, ⟨.l, 1⟩, .s (.sl (tp 0) 0 0 (some 0) z), 0, [], ?_, rfl, .s ?_, .inr ⟨_, rfl⟩, by simp, by simp, fun n hn => by simp at hn, fun e => absurd rfl e, fun ρ' h' w' hr hx ho => ?_⟩
      · refine ⟨fun i hi => ins_other _ _ (fun e => by have := tp_inj e; omega), fun p o hp => (by unfold heapOf at hp; rw [get_leaf] at hp; cases hp), fun p _ o _ _ _ hp => (by unfold heapOf at hp; rw [get_leaf] at hp; cases hp)⟩
      · exact SR.sl (l := ⟨b, off, off⟩) (ins_same _ _ _)
      · exact Kept.of_empty hx (fun p => by unfold heapOf; exact get_leaf _) (by simp [MemPlace.row])
    · have hlast : ∃ c Ty fz, w.heap[b]? = some (.cells c Ty fz) ∧ off + cap * z ≤ c.size := by
        obtain ⟨n, hn⟩ : ∃ n, zs[cap * z - 1]? = some n := ⟨_, List.getElem?_eq_getElem (by omega)⟩
        have := hcell _ _ hn
        unfold World.cell? at this
        simp only [] at this
        split at this
        · rename_i c Ty fz hb
          refine ⟨c, Ty, fz, hb, ?_⟩
          simp at this
          have := (Array.getElem?_eq_some_iff.1 this).1
          omega
        · cases this
      obtain ⟨c, Ty, fz, hb, hsz⟩ := hlast
      have hcv : ∀ i n, zs[i]? = some n → c[off + i]? = some (.int kd n) := fun i n hi => by
        have := hcell i n hi
        simpa [World.cell?, hb] using this
      have hobj : (AH.new ⟨.l, 0⟩ (mk (zs.map (SV.int kd)))).obj 0 = some (mk (zs.map (SV.int kd))) := obj_new_self ⟨.l, 0⟩ _
      have honly : ∀ p o, heapOf (AH.new ⟨.l, 0⟩ (mk (zs.map (SV.int kd)))) p = some o → p = tp 0 ∧ o = mk (zs.map (SV.int kd)) := by
        intro p o hp
        rw [show AH.new ⟨.l, 0⟩ (mk (zs.map (SV.int kd))) = ⟨T.put (tp 0) (AH.g ⟨.l, 0⟩) (some (mk (zs.map (SV.int kd)))), 1⟩ from rfl, heapOf_put] at hp
        rcases path_cases p (tp 0) with rfl | hne
        · rw [upd_same] at hp; cases hp; exact ⟨rfl, rfl⟩
        · rw [upd_other _ _ hne] at hp; unfold heapOf at hp; rw [get_leaf] at hp; cases hp
      have hor : ∀ ρ, OR ρ ⟨b, off, off + cap * z⟩ w.heap[b]? (mk (zs.map (SV.int kd))) := by
        intro ρ
        refine ⟨c, Ty, fz, hb, ⟨by simp [hzl], hsz⟩, fun i s hi => ?_, fun i hi => ?_, fun i h1 h2 => ?_⟩
        · rw [get_mk, List.getElem?_map, Option.map_eq_some_iff] at hi
          obtain ⟨n, hn, rfl⟩ := hi
          exact ⟨_, hcv i n hn, .int _ _⟩
        · rw [get_mk]; exact List.getElem?_eq_none hi
        · have := hfz b i (by
            unfold MemPlace.row
            rw [List.mem_map]
            simp only [] at h1 h2
            exact ⟨i - off, by simp; omega, by simp; omega⟩)
          simpa [World.frozen?, hb] using this
      refine ⟨ins (fun _ => none) (tp 0) ⟨b, off, off + cap * z⟩, AH.new ⟨.l, 0⟩ (mk (zs.map (SV.int kd))), .s (.sl (tp 0) 0 len (some cap) z), len, zs, ?_, rfl, .s ?_, .inr ⟨_, rfl⟩, by rw [hzl]; exact Nat.mul_le_mul_right _ hlc, by omega, hwf, fun _ => hobj, fun ρ' h' w' hr hx ho => ?_⟩
      · refine ⟨fun i hi => ins_other _ _ (fun e => by have := tp_inj e; omega), fun p o hp => ?_, fun p q o o' l l' hp hq _ hl hl' hne => ?_⟩
        · obtain ⟨rfl, rfl⟩ := honly p o hp
          exact ⟨_, ins_same _ _ _, hor _⟩
        · exact absurd ((honly p o hp).1.trans (honly q o' hq).1.symm) hne
      · exact SR.sl (l := ⟨b, off, off + cap * z⟩) (ins_same _ _ _)
      · have hlt : b < w.heap.size := by
          rcases Nat.lt_or_ge b w.heap.size with h | h
          · exact h
          · rw [Array.getElem?_eq_none h] at hb; cases hb
        have hp0 : heapOf h' (tp 0) = some (mk (zs.map (SV.int kd))) := ho.trans hobj
        obtain ⟨l', hl', hO⟩ := hr.live _ _ hp0
        have := hx.sub (tp 0) _ (ins_same _ _ _)
        rw [hl'] at this
        cases this
        obtain ⟨c2, Ty2, fz2, k1, k2, k3, k4, k5⟩ := hO
        simp only [] at k1
        have nolit : ∀ p o, heapOf (AH.new ⟨.l, 0⟩ (mk (zs.map (SV.int kd)))) p = some o → o.lt = true → False := fun p o hp ht => by
          obtain ⟨_, rfl⟩ := honly p o hp
          cases ht
        obtain ⟨c', q1, q2, q3⟩ := hx.typed b c Ty fz hb fun p o l hp ht _ => (nolit p o hp ht).elim
        rw [k1] at q1
        cases q1
        have hin : ∀ j, off ≤ j → j < off + cap * z → c2[j]? = c[j]? := fun j h1 h2 => by
          obtain ⟨n, hn⟩ : ∃ n, zs[j - off]? = some n := ⟨_, List.getElem?_eq_getElem (by omega)⟩
          obtain ⟨cv, g1, g2⟩ := k3 (j - off) (.int kd n) (by rw [get_mk, List.getElem?_map, hn]; rfl)
          simp only [show off + (j - off) = j by omega] at g1
          have g3 := hcv _ _ hn
          rw [show off + (j - off) = j by omega] at g3
          rw [g1, g3]
          cases g2; rfl
        have hall : ∀ j : Nat, c2[j]? = c[j]? := fun j => by
          by_cases hj : off ≤ j ∧ j < off + cap * z
          · exact hin j hj.1 hj.2
          · refine q3 j fun p o l hp _ hl _ => ?_
            obtain ⟨rfl, _⟩ := honly p o hp
            rw [ins_same] at hl; cases hl
            simp only []; omega
        refine ⟨⟨hx.os, hx.output, fun i hi => ?_⟩, fun p hp => ?_, fun a ha => hx.froz a ha fun p o l hp ht _ => (nolit p o hp ht).elim⟩
        · by_cases hib : i = b
          · subst hib
            rw [hb, k1]
            exact ⟨rfl, rfl, q2, fun j _ => hall j⟩
          · have e := hx.keep i hi fun p o l hp _ hl => by
              obtain ⟨rfl, _⟩ := honly p o hp
              rw [ins_same] at hl; cases hl
              exact fun e => hib e.symm
            rw [e]
            cases hw : w.heap[i]? with
            | none => trivial
            | some o => cases o <;> simp
        · unfold MemPlace.row at hp
          rw [List.mem_map] at hp
          obtain ⟨i, _, rfl⟩ := hp
          show w'.cell? _ = w.cell? _
          simp [World.cell?, hb, k1, hall]

/-- an array of two whole numbers that is given -/
theorem array_arg {t e : TypeId} {kd : IntKind} {w : World} {v : Value} {d : DataW H} {ps : List MemPlace} (ht : P.underlying t = some (.array 2 e)) (he : P.underlying e = some (.int kd)) (hc : P.cellsOf e = 1) (hc2 : P.cellsOf t = 2)
    (h : DataW.Trod enc P w 0 (fun _ => true) true t v d ps) (hok : Value.okWide P w .any 0 t v) :
    ∃ a b : Int, v = .agg #[.int kd a, .int kd b] ∧ ps = [] ∧ (Lit.int kd a).wf = true ∧ (Lit.int kd b).wf = true := by
  unfold Value.okWide at hok
  rw [ht] at hok
  obtain ⟨cs, rfl, _, _⟩ := hok
  obtain ⟨fuel, hf⟩ := h
  obtain ⟨zs, h1, h2, h3, h4⟩ := flat_array2 ht he hc hc2 enc w _ _ _ _ _ hf
  obtain ⟨a, b, rfl⟩ : ∃ a b, zs = [a, b] := by
    match zs, h2 with
    | [a, b], _ => exact ⟨a, b, rfl⟩
  have e1 : cs = #[.int kd a, .int kd b] := by
    have : cs.toList = [.int kd a, .int kd b] := h1
    cases cs; simp_all
  subst e1
  exact ⟨a, b, rfl, h4, h3 a (by simp), h3 b (by simp)⟩

/-- what a run comes to, the model's call comes to -/
theorem CW.calls {M : Mach} (hE : ExtOk P) (hm : P.follows .mixedOrders = true) (hp : ProgOk P M.prog) (hsum : SumsOk P M.sums) {f : Nat} {args : List AV} {h : AH} {Q : AV → AH → Prop} (hw : CW M f args h Q)
    {ρ : Emb} {w : World} {cargs : Array Value} (hr : HR ρ (heapOf h) h.next w) (ha : All2 (VR ρ) args cargs.toList) :
    Calls P f cargs w fun e w' => ∃ v h' ρ' cv, Q v h' ∧ e = .returned cv ∧ VR ρ' v cv ∧ HR ρ' (heapOf h') h'.next w' ∧ Ext ρ (heapOf h) h.next w ρ' (heapOf h') h'.next w' := by
  obtain ⟨n, v, h', h1, hq⟩ := hw.run
  obtain ⟨_, h2⟩ := calls_ok hE hm hp hsum h1
  refine (h2 ρ w cargs hr ha).mono ?_
  rintro e w' ⟨ρ', cv, rfl, q1, q2, q3⟩
  exact ⟨v, h', ρ', cv, hq, rfl, q1, q2, q3⟩

/-- a call without arguments that answers true, and touches nothing -/
noncomputable def trueS : List AV → AH → (AV → AH → R) → R := fun args h k => List.rec (motive := fun _ => R) (k (.s (.bool true)) h) (fun _ _ _ => none) args

theorem trueS_ok {prog : Nat → Option AFunc} {sums : SumT} (hE : ExtOk P) (hm : P.follows .mixedOrders = true) (hp : ProgOk P prog) (hsum : SumsOk P sums) {n f : Nat} (hh : saysTrue (callOf prog sums n f [] ⟨.l, 0⟩) = true) :
    CallsOk P (fun g args h k => if g = f then trueS args h k else none) := by
  obtain ⟨h1, hc⟩ := saysTrue_some hh
  obtain ⟨henter, hrel⟩ := calls_ok hE hm hp hsum hc
  intro g args h k r hk
  simp only [] at hk
  by_cases hg : g = f
  · subst hg
    simp only [if_true] at hk
    cases args with
    | cons a l => cases hk
    | nil =>
      refine ⟨_, h, hk, henter, fun ρ w cargs hr ha => ?_⟩
      have hcs : cargs = #[] := by
        have := ha.length
        simp at this
        exact Array.eq_empty_of_size_eq_zero this.symm
      subst hcs
      refine (hrel (fun _ => none) w #[] (hr_start w) .nil).mono ?_
      rintro e w' ⟨ρ', cv, rfl, q1, _, q3⟩
      have hG : ∀ p o, heapOf ⟨.l, 0⟩ p = some o → False := fun p o hp => by unfold heapOf at hp; rw [get_leaf] at hp; cases hp
      have hkeep : ∀ b, b < w.heap.size → w'.heap[b]? = w.heap[b]? := fun b hb => q3.keep b hb fun p o l hp => (hG p o hp).elim
      refine ⟨ρ, cv, rfl, by rw [q1.bool]; exact .s (.bool true), ⟨hr.fresh, fun p o hp => ?_, hr.inj⟩, ?_⟩
      · obtain ⟨l, h2, h3⟩ := hr.live p o hp
        exact ⟨l, h2, by rw [hkeep _ (hr.block_lt hp h2)]; exact h3⟩
      · exact ⟨.refl _, q3.size, fun b hb _ => hkeep b hb, fun p o l hp hw hl _ => ⟨p, o, l, hp, hw, hl, rfl, Nat.le_refl _, Nat.le_refl _⟩, fun p o hp => .inl ⟨o, hp⟩, Nat.le_refl _, q3.os, q3.output, fun a ha _ => q3.froz a ha fun p o l hp => (hG p o hp).elim, fun _ h _ => h,
          fun b c Ty fr hb _ => ⟨c, by rw [hkeep b (by
            rcases Nat.lt_or_ge b w.heap.size with h | h
            · exact h
            · rw [Array.getElem?_eq_none h] at hb; cases hb)]; exact hb, rfl, fun _ _ => rfl⟩, fun p o l hp _ hl => .inl ⟨hp, hl⟩, fun p o l hp ht hl _ => ⟨p, o, l, hp, ht, hl, rfl⟩⟩
  · rw [if_neg hg] at hk; cases hk

/-- one summary alone -/
theorem sumsOk_one {f : Nat} {s : List AV → AH → (AV → AH → R) → R} (h : CallsOk P (fun g args h k => if g = f then s args h k else none)) : SumsOk P (fun i => if i = f then some s else none) := by
  intro i s' hs
  simp only [] at hs
  by_cases hi : i = f
  · subst hi
    simp only [if_true] at hs
    cases hs
    exact h
  · rw [if_neg hi] at hs; cases hs

/-- one summary more -/
theorem sumsOk_add {f : Nat} {s : List AV → AH → (AV → AH → R) → R} {sums : SumT} (h : CallsOk P (fun g args h k => if g = f then s args h k else none)) (hs : SumsOk P sums) : SumsOk P (fun i => if i = f then some s else sums i) := by
  intro i s' hi'
  simp only [] at hi'
  by_cases hi : i = f
  · subst hi
    rw [if_pos rfl] at hi'
    cases hi'
    exact h
  · rw [if_neg hi] at hi'; exact hs i s' hi'

/-- the row's last step, where the new cells' freezing is nobody's business -/
theorem post_same {f : Func} {s : ChangeSpec} {apart fresh handsOn again : Bool} {W W' : World} {args : Array Value} {v : Value} {ds gs : List (DataW H)} {before pa pv : List MemPlace}
    (hW : DataW.Whole enc P f.params.toList s.vars apart W args.toList ds gs before)
    (hres : ∀ (b : Nat) (sp : Nat → Bool) (hd : Bool), DataW.TrodAll enc P W' b sp hd f.resultTypes.toList (v.resultList f.resultTypes.size) (s.fn H (ds ++ gs)).results [])
    (hargs : ∀ sp : Nat → Bool, (∀ p ∈ before, sp p.block = true) → DataW.TrodAll enc P W' 0 sp true f.params.toList args.toList (s.fn H (ds ++ gs)).args pa)
    (hvars : ∀ sp : Nat → Bool, (∀ p ∈ before, sp p.block = true) → DataW.TrodVars enc P W' sp s.vars (s.fn H (ds ++ gs)).vars pv)
    (hps : before = pa ++ pv) (hk : W.keptBut W' (· ∈ before)) (hfz : ∀ a, a.block < W.heap.size → W'.frozen? a = W.frozen? a)
    (hok : ∀ (j : Nat) (t : TypeId) (r : Value), f.resultTypes[j]? = some t → (v.resultList f.resultTypes.size)[j]? = some r → Value.okWide P W' .any 0 t r) :
    s.post enc P f apart fresh handsOn again W args v W' := by
  have hlt : ∀ p ∈ before, p.block < W.heap.size := fun p hp => hW.lt p hp
  have hold : ∀ p ∈ before, (fun b => decide (b < W.heap.size)) p.block = true := fun p hp => by simpa using hlt p hp
  have hmem : ∀ p, p ∈ before ↔ p ∈ pa ∨ p ∈ pv := fun p => by rw [hps, List.mem_append]
  refine ⟨ds, gs, before, [], pa, pv, hW, hres _ _ _, hargs _ hold, hvars _ hold, World.keptBut_mono (fun p hp => ⟨hp, .inr ((hmem p).1 hp)⟩) hk, fun _ => ?_⟩
  obtain ⟨_, _, _, _, _, hz, hn⟩ := hW
  refine ⟨hok, (s.fn H (ds ++ gs)).results ++ (s.fn H (ds ++ gs)).args, _, pa ++ pv, ⟨pa, pv, ?_, hvars _ (fun _ _ => rfl), rfl, fun b off hp => ?_, fun ha => by rw [← hps]; exact hn ha⟩, fun p hp _ => by rw [hps]; exact hp⟩
  · exact trodAll_append (hargs _ (fun _ _ => rfl)) (hres 0 (fun _ => true) true)
  · have hp' : MemPlace.cell b off ∈ before := by rw [hps]; exact hp
    rw [hfz _ (hlt _ hp')]
    exact hz b off hp'
end Go.Bb
