/-
  A region that draws its order: the static part: what stands ahead of what.
-/
import Derived.Test.YtjdcodjoheckcaaGreatDoorBbRun
namespace Go.Bb
variable {P : Program}

/-! ### What stands ahead -/
def edgeMask (acc : List Nat) (o : Oper) : Nat := o.after.toList.foldl (fun s e => if Region.binds .any e then s ||| 2 ^ e.on ||| acc.getD e.on 0 else s) 0

theorem befores_old : ∀ (l : List Oper) (acc : List Nat) (i : Nat), i < acc.length → (befores l acc).getD i 0 = acc.getD i 0
  | [], acc, i, _ => rfl
  | o :: l, acc, i, h => by
    show (befores l (acc ++ [edgeMask acc o])).getD i 0 = _
    rw [befores_old l _ i (by simp; omega)]
    simp [List.getD, List.getElem?_append_left h]
theorem befores_at : ∀ (l : List Oper) (acc : List Nat) (k : Nat) (o : Oper), l[k]? = some o →
    ∃ acc' : List Nat, acc'.length = acc.length + k ∧ (∀ i, i < acc.length + k → acc'.getD i 0 = (befores l acc).getD i 0) ∧ (befores l acc).getD (acc.length + k) 0 = edgeMask acc' o
  | [], acc, k, o, h => by simp at h
  | o' :: l, acc, 0, o, h => by
    simp at h; subst h
    refine ⟨acc, rfl, fun i hi => ?_, ?_⟩
    · exact (befores_old (o' :: l) acc i hi).symm
    · show (befores l (acc ++ [edgeMask acc o'])).getD (acc.length + 0) 0 = _
      rw [befores_old l _ _ (by simp)]
      simp [List.getD]
  | o' :: l, acc, k + 1, o, h => by
    obtain ⟨acc', h1, h2, h3⟩ := befores_at l (acc ++ [edgeMask acc o']) k o (by simpa using h)
    simp only [List.length_append, List.length_cons, List.length_nil] at h1 h2 h3
    refine ⟨acc', by omega, fun i hi => h2 i (by omega), ?_⟩
    show (befores l (acc ++ [edgeMask acc o'])).getD (acc.length + (k + 1)) 0 = _
    rw [show acc.length + (k + 1) = acc.length + (0 + 1) + k by omega]; exact h3

theorem foldMask (f : Edge → Bool) (g : Edge → Nat) : ∀ (l : List Edge) (s j : Nat), (l.foldl (fun s e => if f e = true then s ||| 2 ^ e.on ||| g e else s) s).testBit j = true ↔ s.testBit j = true ∨ ∃ e ∈ l, f e = true ∧ (j = e.on ∨ (g e).testBit j = true)
  | [], s, j => by simp
  | e :: l, s, j => by
    rw [List.foldl_cons, foldMask f g l]
    by_cases hf : f e = true
    · rw [if_pos hf]
      simp only [Nat.testBit_or, Nat.testBit_two_pow, Bool.or_eq_true, decide_eq_true_eq, List.mem_cons]
      constructor
      · rintro (((h | h) | h) | ⟨e', h1, h2⟩)
        · exact .inl h
        · exact .inr ⟨e, .inl rfl, hf, .inl h.symm⟩
        · exact .inr ⟨e, .inl rfl, hf, .inr h⟩
        · exact .inr ⟨e', .inr h1, h2⟩
      · rintro (h | ⟨e', rfl | h1, h2, h3⟩)
        · exact .inl (.inl (.inl h))
        · rcases h3 with h3 | h3
          · exact .inl (.inl (.inr h3.symm))
          · exact .inl (.inr h3)
        · exact .inr ⟨e', h1, h2, h3⟩
    · rw [if_neg hf]
      simp only [List.mem_cons]
      constructor
      · rintro (h | ⟨e', h1, h2⟩)
        · exact .inl h
        · exact .inr ⟨e', .inr h1, h2⟩
      · rintro (h | ⟨e', rfl | h1, h2, h3⟩)
        · exact .inl h
        · exact absurd h2 hf
        · exact .inr ⟨e', h1, h2, h3⟩

/-- j must stand ahead of i -/
def Bef (bef : List Nat) (i j : Nat) : Prop := (bef.getD i 0).testBit j = true

theorem bef_iff {ops : Array Oper} {i : Nat} {o : Oper} (ho : ops[i]? = some o) (j : Nat) :
    Bef (befores ops.toList []) i j ↔ ∃ e ∈ o.after, Region.binds .any e = true ∧ (j = e.on ∨ (e.on < i ∧ Bef (befores ops.toList []) e.on j)) := by
  obtain ⟨acc', h1, h2, h3⟩ := befores_at ops.toList [] i o (by simpa using ho)
  simp only [List.length_nil, Nat.zero_add] at h1 h2 h3
  unfold Bef
  rw [h3]
  unfold edgeMask
  rw [foldMask (fun e => Region.binds .any e) (fun e => acc'.getD e.on 0)]
  simp only [Nat.zero_testBit, Bool.false_eq_true, false_or, Array.mem_toList_iff]
  constructor
  · rintro ⟨e, he, hb, h | h⟩
    · exact ⟨e, he, hb, .inl h⟩
    · refine ⟨e, he, hb, .inr ?_⟩
      by_cases hlt : e.on < i
      · exact ⟨hlt, by rw [← h2 _ hlt]; exact h⟩
      · have : acc'.getD e.on 0 = 0 := by simp [List.getD, List.getElem?_eq_none (show acc'.length ≤ e.on by omega)]
        rw [this] at h; simp at h
  · rintro ⟨e, he, hb, h | ⟨hlt, h⟩⟩
    · exact ⟨e, he, hb, .inl h⟩
    · exact ⟨e, he, hb, .inr (by rw [h2 _ hlt]; exact h)⟩

/-- nothing of S lacks what must stand ahead of it -/
def Closed (ops : Array Oper) (S : Nat → Prop) : Prop := ∀ i o, S i → ops[i]? = some o → ∀ e ∈ o.after, Region.binds .any e = true → S e.on

theorem bef_closed {ops : Array Oper} {S : Nat → Prop} (hc : Closed ops S) : ∀ (i : Nat) (o : Oper), ops[i]? = some o → (∀ e ∈ o.after, Region.binds .any e = true → S e.on) → ∀ j, Bef (befores ops.toList []) i j → S j := by
  intro i
  induction i using Nat.strongRecOn with
  | _ i ih =>
    intro o ho hd j hj
    obtain ⟨e, he, hb, h | ⟨hlt, h⟩⟩ := (bef_iff ho j).1 hj
    · rw [h]; exact hd e he hb
    · have hi : i < ops.size := (Array.getElem?_eq_some_iff.1 ho).1
      have hx : ops[e.on]? = some ops[e.on] := Array.getElem?_eq_getElem (by omega)
      exact ih e.on hlt _ hx (fun e' he' hb' => hc e.on _ (hd e he hb) hx e' he' hb') j h
theorem Closed.bef {ops : Array Oper} {S : Nat → Prop} (hc : Closed ops S) {i j : Nat} {o : Oper} (ho : ops[i]? = some o) (hi : S i) (hj : Bef (befores ops.toList []) i j) : S j :=
  bef_closed hc i o ho (fun e he hb => hc i o hi ho e he hb) j hj

/-! ### Writers -/
theorem writers_mem : ∀ (l : List Oper) (s k : Nat) (o : Oper) (d : Nat), l[k]? = some o → o.dst = some d → (d, s + k) ∈ writers l s
  | [], s, k, o, d, h, _ => by simp at h
  | o' :: l, s, 0, o, d, h, hd => by
    simp at h; subst h
    simp [writers, hd]
  | o' :: l, s, k + 1, o, d, h, hd => by
    have := writers_mem l (s + 1) k o d (by simpa using h) hd
    rw [show s + 1 + k = s + (k + 1) by omega] at this
    unfold writers
    split
    · exact List.mem_cons_of_mem _ this
    · exact this
theorem writer_of {ops : Array Oper} {i : Nat} {o : Oper} {d : Nat} (h : ops[i]? = some o) (hd : o.dst = some d) : (d, i) ∈ writers ops.toList 0 := by
  have := writers_mem ops.toList 0 i o d (by simpa using h) hd
  simpa using this
theorem distinct_ok : ∀ {l : List (Nat × Nat)}, distinct l = true → ∀ d i j, (d, i) ∈ l → (d, j) ∈ l → i = j
  | [], _, d, i, j, h, _ => by simp at h
  | x :: l, h, d, i, j, hi, hj => by
    simp only [distinct, Bool.and_eq_true, List.all_eq_true, Bool.not_eq_true', ] at h
    rcases List.mem_cons.1 hi with hi | hi <;> rcases List.mem_cons.1 hj with hj | hj
    · rw [← hi] at hj; cases hj; rfl
    · have := h.1 _ hj; rw [← hi] at this; simp at this
    · have := h.1 _ hi; rw [← hj] at this; simp at this
    · exact distinct_ok h.2 d i j hi hj

theorem looks_ok {ops : Array Oper} {bef : List Nat} {i : Nat} {o : Oper} (h : looksOk ops bef (writers ops.toList 0) i o = true) {t j : Nat} {oj : Oper} (ht : t ∈ o.looksAt ops) (hj : ops[j]? = some oj) (hd : oj.dst = some t) : Bef bef i j ∨ Bef bef j i := by
  have := List.all_eq_true.1 (List.all_eq_true.1 h t ht) _ (writer_of hj hd)
  simpa [Bef] using this
theorem looks_all {ops : Array Oper} {bef : List Nat} {i : Nat} {o : Oper} (h : looksAll ops bef (writers ops.toList 0) i o = true) {t j : Nat} {oj : Oper} (ht : t ∈ o.looksAt ops) (hj : ops[j]? = some oj) (hd : oj.dst = some t) : Bef bef i j := by
  have := List.all_eq_true.1 (List.all_eq_true.1 h t ht) _ (writer_of hj hd)
  simpa [Bef] using this

/-! ### The check -/
section
variable {ops : Array Oper} {bef ws : List Nat} {wr : List (Nat × Nat)} {n : Nat}

structure ChkX (ops : Array Oper) (bef ws : List Nat) (wr : List (Nat × Nat)) (n : Nat) (x : DOper) (l : List DOper) (done k : Nat) : Prop where
  lt : x.place < n
  new : done.testBit x.place = false
  sub : ∀ j, Bef bef x.place j → done.testBit j = true
  looks : ∃ o, ops[x.place]? = some o ∧ looksOk ops bef wr x.place o = true ∧ (x.oper.step.reads = true → x.mark.lo = x.mark.hi ∨ looksAll ops bef wr x.place o = true)
  wri : x.oper.step.writes = true → (∀ j, done.testBit j = true → Bef bef x.place j) ∧ ws[k]? = some x.place ∧ chkD ops bef ws wr n l (done ||| 2 ^ x.place) (k + 1) = true
  non : x.oper.step.writes = false → x.mark.hi = k ∧ x.mark.lo ≤ k ∧ behind ws (bef.getD x.place 0) x.mark.lo = true ∧ chkD ops bef ws wr n l (done ||| 2 ^ x.place) k = true

theorem land_sub {a b : Nat} (h : Nat.beq (Nat.land a b) a = true) (j : Nat) (hj : a.testBit j = true) : b.testBit j = true := by
  have h1 : a &&& b = a := Nat.eq_of_beq_eq_true h
  rw [← h1, Nat.testBit_and] at hj
  simp at hj; exact hj.2

theorem chk_cons {x : DOper} {l : List DOper} {done k : Nat} (h : chkD ops bef ws wr n (x :: l) done k = true) : ChkX ops bef ws wr n x l done k := by
  unfold chkD at h
  simp only [Bool.and_eq_true, Bool.not_eq_true'] at h
  obtain ⟨⟨⟨⟨h1, h2⟩, h3⟩, h4⟩, h5⟩ := h
  refine ⟨Nat.lt_of_succ_le (Nat.le_of_ble_eq_true h1), h2, fun j hj => land_sub h3 j hj, ?_, fun hw => ?_, fun hw => ?_⟩
  · split at h4
    · rename_i o ho
      simp only [Bool.and_eq_true, Bool.or_eq_true, Bool.not_eq_true'] at h4
      refine ⟨o, ho, h4.1, fun hw => ?_⟩
      rw [hw] at h4
      rcases h4.2 with (h6 | h6) | h6
      · cases h6
      · exact .inl (Nat.eq_of_beq_eq_true h6)
      · exact .inr h6
    · cases h4
  · rw [hw] at h5
    simp only [Bool.and_eq_true, beq_iff_eq] at h5
    exact ⟨fun j hj => land_sub h5.1.1 j hj, h5.1.2, h5.2⟩
  · rw [hw] at h5
    simp only [Bool.and_eq_true] at h5
    exact ⟨Nat.eq_of_beq_eq_true h5.1.1.1, Nat.le_of_ble_eq_true h5.1.1.2, h5.1.2, h5.2⟩

theorem chk_next {x : DOper} {l : List DOper} {done k : Nat} (h : ChkX ops bef ws wr n x l done k) : chkD ops bef ws wr n l (done ||| 2 ^ x.place) (if x.oper.step.writes = true then k + 1 else k) = true := by
  cases hw : x.oper.step.writes with
  | true => rw [if_pos rfl]; exact (h.wri hw).2.2
  | false => rw [if_neg (by simp)]; exact (h.non hw).2.2.2

theorem done_or {done i j : Nat} : (done ||| 2 ^ i).testBit j = true ↔ done.testBit j = true ∨ j = i := by
  rw [Nat.testBit_or, Nat.testBit_two_pow, Bool.or_eq_true, decide_eq_true_eq, eq_comm (a := i)]

/-- every place is done -/
theorem chk_cover : ∀ {l : List DOper} {done k : Nat}, chkD ops bef ws wr n l done k = true → ∀ i, i < n → done.testBit i = true ∨ ∃ x ∈ l, x.place = i
  | [], done, k, h, i, hi => by
    unfold chkD at h
    simp only [Bool.and_eq_true] at h
    have h1 : done = 2 ^ n - 1 := Nat.eq_of_beq_eq_true h.1
    left; rw [h1, Nat.testBit_two_pow_sub_one]; simpa using hi
  | x :: l, done, k, h, i, hi => by
    rcases chk_cover (chk_next (chk_cons h)) i hi with h1 | ⟨y, h1, h2⟩
    · rcases done_or.1 h1 with h1 | h1
      · exact .inl h1
      · exact .inr ⟨x, by simp, h1.symm⟩
    · exact .inr ⟨y, by simp [h1], h2⟩

/-- what is done stands ahead of each write that comes -/
theorem chk_writes : ∀ {l : List DOper} {done k : Nat}, chkD ops bef ws wr n l done k = true → ∀ r i, k ≤ r → ws[r]? = some i → ∀ j, done.testBit j = true → Bef bef i j
  | [], done, k, h, r, i, hr, hi, j, hj => by
    unfold chkD at h
    simp only [Bool.and_eq_true] at h
    have h1 : ws.length = k := Nat.eq_of_beq_eq_true h.2
    rw [List.getElem?_eq_none (by omega)] at hi; cases hi
  | x :: l, done, k, h, r, i, hr, hi, j, hj => by
    have hx := chk_cons h
    have hn := chk_next hx
    cases hw : x.oper.step.writes with
    | true =>
      obtain ⟨h1, h2, h3⟩ := hx.wri hw
      by_cases he : r = k
      · subst he; rw [h2] at hi; cases hi; exact h1 j hj
      · exact chk_writes h3 r i (by omega) hi j (done_or.2 (.inl hj))
    | false => exact chk_writes (hx.non hw).2.2.2 r i hr hi j (done_or.2 (.inl hj))

/-- the writes stand in a row -/
theorem chk_row : ∀ {l : List DOper} {done k : Nat}, chkD ops bef ws wr n l done k = true → ∀ r r' i i', k ≤ r → r < r' → ws[r]? = some i → ws[r']? = some i' → Bef bef i' i ∧ ∀ j, Bef bef i j → Bef bef i' j
  | [], done, k, h, r, r', i, i', hr, _, hi, _ => by
    unfold chkD at h
    simp only [Bool.and_eq_true] at h
    have h1 : ws.length = k := Nat.eq_of_beq_eq_true h.2
    rw [List.getElem?_eq_none (by omega)] at hi; cases hi
  | x :: l, done, k, h, r, r', i, i', hr, hlt, hi, hi' => by
    have hx := chk_cons h
    cases hw : x.oper.step.writes with
    | true =>
      obtain ⟨h1, h2, h3⟩ := hx.wri hw
      by_cases he : r = k
      · subst he
        rw [h2] at hi; cases hi
        exact ⟨chk_writes h3 r' i' (by omega) hi' _ (done_or.2 (.inr rfl)), fun j hj => chk_writes h3 r' i' (by omega) hi' j (done_or.2 (.inl (hx.sub j hj)))⟩
      · exact chk_row h3 r r' i i' (by omega) hlt hi hi'
    | false => exact chk_row (hx.non hw).2.2.2 r r' i i' hr hlt hi hi'

/-- the place of the k-th write, and what stands ahead of it -/
def pre (bef ws : List Nat) : Nat → Nat → Prop
  | 0, _ => False
  | k + 1, j => ∃ e, ws[k]? = some e ∧ (j = e ∨ Bef bef e j)
end
end Go.Bb
