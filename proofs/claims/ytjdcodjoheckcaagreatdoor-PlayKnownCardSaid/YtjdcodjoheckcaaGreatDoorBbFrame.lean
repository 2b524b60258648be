/-
  A region that draws its order: heaps with new objects laid over them, and what a step leaves alone.
-/
import Derived.Test.YtjdcodjoheckcaaGreatDoorBbDraw
namespace Go.Bb
variable {P : Program}

/-- the heap, and over it the new objects of the places in J -/
noncomputable def Hx (b : Nat) (A : Nat → Option AO) (H : Heap) (J : Nat → Prop) : Heap := fun p => open Classical in
  if h : ∃ j, J j ∧ A j ≠ none ∧ p = tp (b + j) then A h.choose else H p

theorem Hx_in {b : Nat} {A : Nat → Option AO} {H : Heap} {J : Nat → Prop} {j : Nat} {o : AO} (hj : J j) (ha : A j = some o) : Hx b A H J (tp (b + j)) = some o := by
  unfold Hx
  have h : ∃ i, J i ∧ A i ≠ none ∧ tp (b + j) = tp (b + i) := ⟨j, hj, by rw [ha]; simp, rfl⟩
  rw [dif_pos h]
  have := tp_inj h.choose_spec.2.2
  rw [show h.choose = j by omega]; exact ha
theorem Hx_out {b : Nat} {A : Nat → Option AO} {H : Heap} {J : Nat → Prop} {p : Path} (h : ∀ j, J j → A j ≠ none → p ≠ tp (b + j)) : Hx b A H J p = H p := by
  unfold Hx
  rw [dif_neg]
  rintro ⟨j, h1, h2, h3⟩
  exact h j h1 h2 h3
theorem Hx_cases {b : Nat} {A : Nat → Option AO} {H : Heap} {J : Nat → Prop} {p : Path} {o : AO} (h : Hx b A H J p = some o) :
    (∃ j, J j ∧ A j = some o ∧ p = tp (b + j)) ∨ ((∀ j, J j → A j ≠ none → p ≠ tp (b + j)) ∧ H p = some o) := by
  by_cases hx : ∃ j, J j ∧ A j ≠ none ∧ p = tp (b + j)
  · obtain ⟨j, h1, h2, rfl⟩ := hx
    obtain ⟨o', ho'⟩ := Option.ne_none_iff_exists'.1 h2
    rw [Hx_in h1 ho'] at h
    exact .inl ⟨j, h1, by rw [ho']; exact h, rfl⟩
  · have hx' : ∀ j, J j → A j ≠ none → p ≠ tp (b + j) := fun j h1 h2 h3 => hx ⟨j, h1, h2, h3⟩
    rw [Hx_out hx'] at h
    exact .inr ⟨hx', h⟩
/-- what is laid over is told by its places -/
theorem Hx_ext {b : Nat} {A A' : Nat → Option AO} {H H' : Heap} {J J' : Nat → Prop} (hJ : ∀ j, (J j ∧ A j ≠ none) ↔ (J' j ∧ A' j ≠ none)) (hA : ∀ j, J j → A j ≠ none → A j = A' j)
    (hH : ∀ p, (∀ j, J j → A j ≠ none → p ≠ tp (b + j)) → H p = H' p) : Hx b A H J = Hx b A' H' J' := by
  funext p
  by_cases hx : ∃ j, J j ∧ A j ≠ none ∧ p = tp (b + j)
  · obtain ⟨j, h1, h2, rfl⟩ := hx
    obtain ⟨o, ho⟩ := Option.ne_none_iff_exists'.1 h2
    rw [Hx_in h1 ho, Hx_in ((hJ j).1 ⟨h1, h2⟩).1 (by rw [← hA j h1 h2]; exact ho)]
  · have hx' : ∀ j, J j → A j ≠ none → p ≠ tp (b + j) := fun j h1 h2 h3 => hx ⟨j, h1, h2, h3⟩
    rw [Hx_out hx', Hx_out (fun j h1 h2 => by obtain ⟨h3, h4⟩ := (hJ j).2 ⟨h1, h2⟩; exact hx' j h3 h4), hH p hx']
theorem Hx_none {b : Nat} {A : Nat → Option AO} {H : Heap} {J : Nat → Prop} (h : ∀ j, J j → A j = none) : Hx b A H J = H := by
  funext p; exact Hx_out fun j h1 h2 => absurd (h j h1) h2
/-- one more -/
theorem Hx_upd {b : Nat} {A A' : Nat → Option AO} {H : Heap} {J J' : Nat → Prop} {i : Nat} {ob : AO} (hi : A' i = some ob) (hJi : J' i) (hA : ∀ j, J j → A j ≠ none → j ≠ i → A' j = A j) (hJ : ∀ j, j ≠ i → ((J j ∧ A j ≠ none) ↔ (J' j ∧ A' j ≠ none))) :
    upd (Hx b A H J) (tp (b + i)) (some ob) = Hx b A' H J' := by
  funext p
  rcases path_cases p (tp (b + i)) with rfl | hne
  · rw [upd_same, Hx_in hJi hi]
  · rw [upd_other _ _ hne]
    by_cases hx : ∃ j, J j ∧ A j ≠ none ∧ p = tp (b + j)
    · obtain ⟨j, h1, h2, rfl⟩ := hx
      have hji : j ≠ i := fun e => hne (by rw [e])
      obtain ⟨o, ho⟩ := Option.ne_none_iff_exists'.1 h2
      rw [Hx_in h1 ho, Hx_in ((hJ j hji).1 ⟨h1, h2⟩).1 (by rw [hA j h1 h2 hji]; exact ho)]
    · have hx' : ∀ j, J j → A j ≠ none → p ≠ tp (b + j) := fun j h1 h2 h3 => hx ⟨j, h1, h2, h3⟩
      rw [Hx_out hx', Hx_out (fun j h1 h2 => by
        by_cases hji : j = i
        · rw [hji]; exact hne
        · obtain ⟨h3, h4⟩ := (hJ j hji).2 ⟨h1, h2⟩; exact hx' j h3 h4)]

/-! ### What a step leaves alone -/
theorem HR.frame {ρ ρ' : Emb} {G C H' G' : Heap} {n n' : Nat} {w w' : World} (hG : HR ρ G n w) (hC : ∀ p o, C p = some o → G p = some o) (hH : HR ρ' H' n' w') (hx : Ext ρ C n w ρ' H' n' w')
    (hG' : ∀ p o, G' p = some o → H' p = some o ∨ (G p = some o ∧ C p = none)) : HR ρ' G' n' w' := by
  have extra : ∀ p o, G p = some o → C p = none → ∃ l, ρ p = some l ∧ ρ' p = some l ∧ l.block < w.heap.size ∧ OR ρ' l w'.heap[l.block]? o := by
    intro p o hp hc
    obtain ⟨l, h1, h2⟩ := hG.live p o hp
    have hlt := hG.block_lt hp h1
    refine ⟨l, h1, hx.sub p l h1, hlt, ?_⟩
    rw [hx.keep l.block hlt (fun q o' l' hq hw hl' => hG.inj q p o' o l' l (hC q o' hq) hp (.inl hw) hl' h1 (fun e => by rw [e, hc] at hq; cases hq))]
    exact h2.mono hx.sub
  have apart : ∀ p o q o' l l', G p = some o → C p = none → H' q = some o' → (o.wr = true ∨ o'.wr = true) → ρ' p = some l → ρ' q = some l' → l.block ≠ l'.block := by
    intro p o q o' l l' hp hc hq hw hl hl' he
    obtain ⟨l1, h1, h2, h3, _⟩ := extra p o hp hc
    rw [hl] at h2; cases h2
    cases hw' : o'.wr with
    | true =>
      obtain ⟨q2, o2, l2, h4, hw2, h5, h6, _, _⟩ := hx.own q o' l' hq hw' hl' (by omega)
      exact hG.inj q2 p o2 o l2 l (hC q2 o2 h4) hp (.inl hw2) h5 h1 (fun e => by rw [e, hc] at h4; cases h4) (by omega)
    | false =>
      rcases hx.old q o' l' hq hw' hl' with ⟨h4, h5⟩ | h4
      · exact hG.inj q p o' o l' l (hC q o' h4) hp (.inr (hw.resolve_right (by rw [hw']; simp))) h5 h1 (fun e => by rw [e, hc] at h4; cases h4) (by omega)
      · omega
  refine ⟨hH.fresh, fun p o hp => ?_, fun p q o o' l l' hp hq hw hl hl' hne => ?_⟩
  · rcases hG' p o hp with h | ⟨h, hc⟩
    · exact hH.live p o h
    · obtain ⟨l, _, h2, _, h3⟩ := extra p o h hc; exact ⟨l, h2, h3⟩
  · rcases hG' p o hp with h | ⟨h, hc⟩ <;> rcases hG' q o' hq with h' | ⟨h', hc'⟩
    · exact hH.inj p q o o' l l' h h' hw hl hl' hne
    · exact fun e => apart q o' p o l' l h' hc' h hw.symm hl' hl e.symm
    · exact apart p o q o' l l' h hc h' hw hl hl'
    · obtain ⟨l1, h1, h2, _⟩ := extra p o h hc
      obtain ⟨l2, h3, h4, _⟩ := extra q o' h' hc'
      rw [hl] at h2; cases h2
      rw [hl'] at h4; cases h4
      exact hG.inj p q o o' l l' h h' hw h1 h3 hne

theorem Ext.frame {ρ ρ' : Emb} {G C H' G' : Heap} {n n' : Nat} {w w' : World} (hG : HR ρ G n w) (hC : ∀ p o, C p = some o → G p = some o) (hx : Ext ρ C n w ρ' H' n' w')
    (hG' : ∀ p o, G' p = some o → H' p = some o ∨ (G p = some o ∧ C p = none)) : Ext ρ G n w ρ' G' n' w' := by
  refine ⟨hx.sub, hx.size, fun b hb hfree => hx.keep b hb fun p o l hp hw hl => hfree p o l (hC p o hp) hw hl, fun p o l hp hw hl hlt => ?_, fun p o hp => ?_, hx.next, hx.os, hx.output, fun a ha hla => hx.froz a ha fun p o l hp ht hl => hla p o l (hC p o hp) ht hl, hx.emb, fun b c Ty fr hb hlb => ?_, fun p o l hp hw hl => ?_, fun p o l hp ht hl hlt => ?_⟩
  · rcases hG' p o hp with h | ⟨h, hc⟩
    · obtain ⟨q, o', l', h1, h2, h3⟩ := hx.own p o l h hw hl hlt
      exact ⟨q, o', l', hC q o' h1, h2, h3⟩
    · obtain ⟨l1, h1, _⟩ := hG.live p o h
      have := hx.sub p l1 h1
      rw [hl] at this; cases this
      exact ⟨p, o, l, h, hw, h1, rfl, Nat.le_refl _, Nat.le_refl _⟩
  · rcases hG' p o hp with h | ⟨h, hc⟩
    · rcases hx.dom p o h with ⟨o', h1⟩ | h1
      · exact .inl ⟨o', hC p o' h1⟩
      · exact .inr h1
    · exact .inl ⟨o, h⟩
  · obtain ⟨c', h1, h2, h3⟩ := hx.typed b c Ty fr hb fun p o l hp ht hl => hlb p o l (hC p o hp) ht hl
    exact ⟨c', h1, h2, fun j hj => h3 j fun p o l hp hw hl => hj p o l (hC p o hp) hw hl⟩
  · rcases hG' p o hp with h | ⟨h, hc⟩
    · rcases hx.old p o l h hw hl with ⟨h1, h2⟩ | h1
      · exact .inl ⟨hC p o h1, h2⟩
      · exact .inr h1
    · obtain ⟨l1, h1, _⟩ := hG.live p o h
      have := hx.sub p l1 h1
      rw [hl] at this; cases this
      exact .inl ⟨h, h1⟩
  · rcases hG' p o hp with h | ⟨h, hc⟩
    · obtain ⟨q, o', l', h1, h2, h3⟩ := hx.lit p o l h ht hl hlt
      exact ⟨q, o', l', hC q o' h1, h2, h3⟩
    · obtain ⟨l1, h1, _⟩ := hG.live p o h
      have := hx.sub p l1 h1
      rw [hl] at this; cases this
      exact ⟨p, o, l, h, ht, h1, rfl⟩

/-! ### Equal values -/
theorem samePath_eq : ∀ {p q : Path}, samePath p q = true → p = q
  | .z, .z, _ => rfl
  | .a p, .a q, h => by rw [samePath_eq (p := p) (q := q) h]
  | .b p, .b q, h => by rw [samePath_eq (p := p) (q := q) h]
  | .z, .a _, h => by cases h
  | .z, .b _, h => by cases h
  | .a _, .z, h => by cases h
  | .a _, .b _, h => by cases h
  | .b _, .z, h => by cases h
  | .b _, .a _, h => by cases h
theorem sameCaps_eq : ∀ {l r : List (Path × Nat)}, sameCaps l r = true → l = r
  | [], [], _ => rfl
  | (p, a) :: l, (q, b) :: r, h => by
    simp only [sameCaps, Bool.and_eq_true] at h
    rw [samePath_eq h.1.1, Nat.eq_of_beq_eq_true h.1.2, sameCaps_eq h.2]
  | [], _ :: _, h => by cases h
  | _ :: _, [], h => by cases h
theorem sameS_eq {u v : SV} (h : sameS u v = true) : u = v := by
  cases u <;> cases v <;> first | rfl | (exact absurd (show false = true from h) (by simp)) | skip
  case bool.bool a b => have h : eqB a b = true := h; rw [eqB_eq] at h; rw [eq_of_beq h]
  case int.int k a k' b =>
    have h : (sameK k k' && eqI a b) = true := h
    rw [Bool.and_eq_true, sameK_eq, eqI_eq] at h; rw [h.1, eq_of_beq h.2]
  case flt.flt a b => rw [Nat.eq_of_beq_eq_true (show Nat.beq a b = true from h)]
  case cpx.cpx a b c d =>
    have h : (Nat.beq a c && Nat.beq b d) = true := h
    rw [Bool.and_eq_true] at h; rw [Nat.eq_of_beq_eq_true h.1, Nat.eq_of_beq_eq_true h.2]
  case ptr.ptr a b c d =>
    have h : (samePath a c && Nat.beq b d) = true := h
    rw [Bool.and_eq_true] at h; rw [samePath_eq h.1, Nat.eq_of_beq_eq_true h.2]
  case sl.sl a b c d e a' b' c' d' e' =>
    simp only [sameS, Bool.and_eq_true] at h
    obtain ⟨⟨⟨⟨h1, h2⟩, h3⟩, h4⟩, h5⟩ := h
    rw [samePath_eq h1, Nat.eq_of_beq_eq_true h2, Nat.eq_of_beq_eq_true h3, Nat.eq_of_beq_eq_true h4]
    cases d <;> cases d' <;> first | rfl | cases h5 | skip
    rw [Nat.eq_of_beq_eq_true (show Nat.beq _ _ = true from h5)]
  case map.map a b => rw [samePath_eq (show samePath a b = true from h)]
  case str.str a b => have h : natsEq a b = true := h; rw [natsEq_eq] at h; rw [eq_of_beq h]
  case fn.fn f l g r =>
    have h : (Nat.beq f g && sameCaps l r) = true := h
    rw [Bool.and_eq_true] at h; rw [Nat.eq_of_beq_eq_true h.1, sameCaps_eq h.2]
theorem sameL_eq : ∀ {l r : List SV}, sameL l r = true → l = r
  | [], [], _ => rfl
  | v :: l, u :: r, h => by
    simp only [sameL, Bool.and_eq_true] at h
    rw [sameS_eq h.1, sameL_eq h.2]
  | [], _ :: _, h => by cases h
  | _ :: _, [], h => by cases h
theorem sameV_eq {u v : AV} (h : sameV u v = true) : u = v := by
  cases u <;> cases v <;> first | (exact absurd (show false = true from h) (by simp)) | skip
  · rw [sameS_eq (show sameS _ _ = true from h)]
  · rw [sameL_eq (show sameL _ _ = true from h)]
end Go.Bb
