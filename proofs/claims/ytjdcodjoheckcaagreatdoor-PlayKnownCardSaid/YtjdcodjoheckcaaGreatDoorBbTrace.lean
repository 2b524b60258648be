/-
  A region that draws its order: what its one order tells of each operation.
-/
import Derived.Test.YtjdcodjoheckcaaGreatDoorBbFrame
namespace Go.Bb
variable {P : Program}

theorem mem_looks_op {ops : Array Oper} {o : Oper} {t : Nat} (h : Operand.tmp t ∈ o.op.operands) : t ∈ o.looksAt ops := by
  unfold Oper.looksAt
  exact List.mem_append_left _ (List.mem_filterMap.2 ⟨.tmp t, by simpa using h, rfl⟩)

/-- the slots that an operation looks at are the same -/
def SameLooks (ops : Array Oper) (o : Oper) (tm tm' : Tm) : Prop := ∀ t ∈ o.looksAt ops, gs (tp t) tm = gs (tp t) tm'

section
variable {ops : Array Oper} {o : Oper} {tm tm' : Tm}

theorem SameLooks.ev (h : SameLooks ops o tm tm') {ρ : Emb} {ce : Operand → Value} (he : EvR ρ tm' ce o.op.operands) : EvR ρ tm ce o.op.operands := by
  intro x hx ax hax
  have := he x hx ax hax
  cases x with
  | tmp t => simp [opd] at hax; subst hax; rw [h t (mem_looks_op hx)]; exact this
  | const v => simp only [opd, Option.map_eq_some_iff] at hax; obtain ⟨b, _, rfl⟩ := hax; exact this
  | global g => simp [opd] at hax
  | func f =>
    simp only [opd] at hax
    split at hax
    · cases hax; exact this
    · cases hax
theorem LookR.ev {ρ : Emb} {a : Act} (h : LookR ops ρ o tm a.tmps) : EvR ρ tm a.eval o.op.operands := by
  intro x hx ax hax
  cases x with
  | tmp t => simp [opd] at hax; subst hax; exact h t (mem_looks_op hx)
  | const v =>
    simp only [opd, Option.map_eq_some_iff] at hax
    obtain ⟨b, hb, rfl⟩ := hax
    exact AV.ofConst_rel ρ hb
  | global g => simp [opd] at hax
  | func f =>
    simp only [opd] at hax
    split at hax
    · cases hax; exact .s (.fn ‹_› .nil)
    · cases hax
theorem SameLooks.val (h : SameLooks ops o tm tm') {v : AV} (hv : ValRel P o tm v) : ValRel P o tm' v := fun ρ ce he => hv ρ ce (h.ev he)
theorem SameLooks.read (h : SameLooks ops o tm tm') {hp : AH} {v : AV} (hv : ReadRel P o tm hp v) : ReadRel P o tm' hp v := fun ρ ce w G n hs hr he => hv ρ ce w G n hs hr (h.ev he)
theorem SameLooks.new (h : SameLooks ops o tm tm') {p : Path} {ob : AO} {v : AV} (hv : NewRel P o tm p ob v) : NewRel P o tm' p ob v := fun ρ ce w he => hv ρ ce w (h.ev he)
theorem SameLooks.eff (h : SameLooks ops o tm tm') {hp h' : AH} {v : AV} (hv : EffRel P o tm hp v h') : EffRel P o tm' hp v h' := fun ρ a w hr he => hv ρ a w hr (h.ev he)
theorem SameLooks.yes (h : SameLooks ops o tm tm') (hg : GYes ops o tm) : GYes ops o tm' := fun j want hj => by
  obtain ⟨t, h1, h2⟩ := hg j want hj
  exact ⟨t, h1, by rw [← h t (mem_looks hj h1)]; exact h2⟩
theorem SameLooks.no (h : SameLooks ops o tm tm') (hg : GNo ops o tm) : GNo ops o tm' := by
  obtain ⟨j, want, t, h0, h1, h2⟩ := hg
  exact ⟨j, want, t, h0, h1, by rw [← h t (mem_looks h0 h1)]; exact h2⟩
end

/-- the heap behind the i-th write -/
def hsAt (hs : List AH) (i : Nat) : AH := hs.reverse.getD i ⟨.l, 0⟩
theorem hsAt_app (news hs : List AH) {i : Nat} (h : i < hs.length) : hsAt (news ++ hs) i = hsAt hs i := by
  unfold hsAt; rw [List.reverse_append]; simp [List.getD, List.getElem?_append_left (show i < hs.reverse.length by simpa using h)]
theorem hsAt_cons (h : AH) (hs : List AH) : hsAt (h :: hs) hs.length = h := by
  unfold hsAt; simp [List.getD]
theorem hsAt_top (news hs : List AH) (h : AH) : hsAt (news ++ h :: hs) hs.length = h := by
  rw [hsAt_app _ _ (by simp), hsAt_cons]

/-- what an operation does in the one order, told with the slots as they are when it comes -/
inductive Fact (P : Program) (ops : Array Oper) (bef ws : List Nat) (b : Nat) (tmf : Tm) (Hs : Nat → AH) (A : Nat → Option AO) (x : DOper) (o : Oper) (v : AV) : Prop
  | write (r : Nat) (hw : x.oper.step.writes = true) (hr : ws[r]? = some x.place) (ha : A x.place = none) (hc : AH) (h1 : heapOf hc = Hx b A (heapOf (Hs r)) (fun j => Bef bef x.place j ∧ ¬ pre bef ws r j)) (h2 : hc.next = (Hs r).next)
      (h3 : (GYes ops o tmf ∧ EffRel P o tmf hc v (Hs (r + 1))) ∨ (GNo ops o tmf ∧ v = undefA ∧ Hs (r + 1) = hc))
  | no (hw : x.oper.step.writes = false) (ha : A x.place = none) (h : GNo ops o tmf) (hv : v = undefA)
  | val (hw : x.oper.step.writes = false) (ha : A x.place = none) (h : GYes ops o tmf) (hv : ValRel P o tmf v)
  | read (hw : x.oper.step.writes = false) (ha : A x.place = none) (h : GYes ops o tmf) (d : Path) (ro : ROp) (hs : x.oper.step = .read d ro) (hd : o.dst.map tp = some d) (hro : ReadOk P o.op ro) (hc : AH) (J : Nat → Prop)
      (hJ : ∀ j, J j → ¬ pre bef ws x.mark.hi j) (h1 : heapOf hc = Hx b A (heapOf (Hs x.mark.hi)) J) (hv : ReadRel P o tmf hc v)
  | new (hw : x.oper.step.writes = false) (ob : AO) (ha : A x.place = some ob) (h : GYes ops o tmf) (hv : NewRel P o tmf (tp (b + x.place)) ob v)

section
variable {ops : Array Oper} {ws : List Nat}

theorem chk_new {bef : List Nat} {wr : List (Nat × Nat)} {n : Nat} : ∀ {l : List DOper} {done k : Nat}, chkD ops bef ws wr n l done k = true → ∀ y ∈ l, done.testBit y.place = false
  | [], _, _, _, y, hy => by simp at hy
  | x :: l, done, k, h, y, hy => by
    have hx := chk_cons h
    rcases List.mem_cons.1 hy with rfl | hy
    · exact hx.new
    · have := chk_new (chk_next hx) y hy
      cases hd : done.testBit y.place with
      | false => rfl
      | true => rw [done_or.2 (.inl hd)] at this; cases this

theorem putT_other {tm : Tm} {d : Option Nat} {v : AV} {t : Nat} (h : d ≠ some t) : gs (tp t) (putT tm (d.map tp) v) = gs (tp t) tm := by
  cases d with
  | none => rfl
  | some d => exact gs_put_other _ _ (fun e => h (by rw [e]))
theorem putT_same {tm : Tm} {d : Nat} {v : AV} : gs (tp d) (putT tm ((some d).map tp) v) = v := gs_put_same _ _ _

/-- what an operation looks at is as at the end, or as at the beginning -/
def Seen (ops : Array Oper) (i : Nat) (o : Oper) (tm0 tmx tmf : Tm) : Prop := ∀ t ∈ o.looksAt ops,
  ((∀ (j : Nat) oj, ops[j]? = some oj → oj.dst = some t → Bef (befores ops.toList []) i j) ∧ gs (tp t) tmx = gs (tp t) tmf) ∨
  ((∀ (j : Nat) oj, ops[j]? = some oj → oj.dst = some t → Bef (befores ops.toList []) j i) ∧ gs (tp t) tmx = gs (tp t) tm0)

/-- where the run stands -/
structure At (ops : Array Oper) (ws : List Nat) (b : Nat) (tm0 : Tm) (done k : Nat) (tm : Tm) (h : AH) (hs : List AH) (A : Nat → Option AO) : Prop where
  slots : ∀ t, (∀ (j : Nat) oj, done.testBit j = true → ops[j]? = some oj → oj.dst ≠ some t) → gs (tp t) tm = gs (tp t) tm0
  closed : ∀ j, done.testBit j = true → ∀ i, Bef (befores ops.toList []) j i → done.testBit i = true
  len : hs.length = k + 1
  heap : heapOf h = Hx b A (heapOf (hsAt hs k)) (fun j => done.testBit j = true ∧ ¬ pre (befores ops.toList []) ws k j)
  next : h.next = (hsAt hs k).next
  none : ∀ j, done.testBit j = false → A j = none
  pre : ∀ j, pre (befores ops.toList []) ws k j → done.testBit j = true

/-- what comes of it -/
def Came (P : Program) (ops : Array Oper) (ws : List Nat) (b : Nat) (tm0 : Tm) (L : List DOper) (done k : Nat) (tm : Tm) (hs : List AH) (A0 : Nat → Option AO) (kont : Tm → AH → List AH → R) (r : AV × AH) : Prop :=
  ∃ tmf hf news A, kont tmf hf (news ++ hs) = some r ∧ news.length + k = ws.length ∧ (∀ j, done.testBit j = true → A j = A0 j) ∧ (∀ j, A j ≠ none → done.testBit j = true ∨ ∃ x ∈ L, x.place = j) ∧
    (∀ t, (∀ x ∈ L, ∀ o, ops[x.place]? = some o → o.dst ≠ some t) → gs (tp t) tmf = gs (tp t) tm) ∧
    (∀ x ∈ L, ∀ o, ops[x.place]? = some o → ∃ v tmx, (∀ d, o.dst = some d → gs (tp d) tmf = v) ∧ Seen ops x.place o tm0 tmx tmf ∧ (x.oper.step.reads = true → x.mark.lo = x.mark.hi ∨ SameLooks ops o tmx tmf) ∧ Fact P ops (befores ops.toList []) ws b tmx (hsAt (news ++ hs)) A x o v) ∧
    heapOf hf = Hx b A (heapOf (hsAt (news ++ hs) ws.length)) (fun j => j < ops.size ∧ ¬ pre (befores ops.toList []) ws ws.length j) ∧ hf.next = (hsAt (news ++ hs) ws.length).next

theorem came_cons {b : Nat} {tm0 : Tm} {x : DOper} {l : List DOper} {done k : Nat} {tm : Tm} {h : AH} {hs : List AH} {A0 A1 : Nat → Option AO} {kont : Tm → AH → List AH → R} {r : AV × AH} {o : Oper} {v : AV} {k' : Nat} {hs0 : List AH}
    (hdis : distinct (writers ops.toList 0) = true) (hx : ChkX ops (befores ops.toList []) ws (writers ops.toList 0) ops.size x l done k) (ho : ops[x.place]? = some o) (hat : At ops ws b tm0 done k tm h hs A0)
    (hk : hs0.length + k = k') (hA1 : ∀ j, done.testBit j = true → A1 j = A0 j)
    (hnext : chkD ops (befores ops.toList []) ws (writers ops.toList 0) ops.size l (done ||| 2 ^ x.place) k' = true)
    (hc : Came P ops ws b tm0 l (done ||| 2 ^ x.place) k' (putT tm (o.dst.map tp) v) (hs0 ++ hs) A1 kont r)
    (hfact : ∀ news A, (∀ j, (done ||| 2 ^ x.place).testBit j = true → A j = A1 j) → Fact P ops (befores ops.toList []) ws b tm (hsAt (news ++ (hs0 ++ hs))) A x o v) :
    Came P ops ws b tm0 (x :: l) done k tm hs A0 kont r := by
  obtain ⟨tmf, hf, news, A, h1, h2, h3, h4, h5, h6, h7, h8⟩ := hc
  have hnew := chk_new hnext
  have late : ∀ t, (∀ (j : Nat) oj, ops[j]? = some oj → oj.dst = some t → Bef (befores ops.toList []) x.place j) → gs (tp t) tm = gs (tp t) tmf := by
    intro t ht
    rw [h5 t fun y hy oy hoy hd => ?_, putT_other fun hd => ?_]
    · have := hx.sub _ (ht _ _ ho hd)
      rw [hx.new] at this; cases this
    · have h9 : (done ||| 2 ^ x.place).testBit y.place = true := done_or.2 (.inl (hx.sub _ (ht _ _ hoy hd)))
      rw [hnew y hy] at h9; cases h9
  have hseen : Seen ops x.place o tm0 tm tmf := by
    intro t ht
    obtain ⟨o', ho', hl, _⟩ := hx.looks
    rw [ho] at ho'; cases ho'
    by_cases hw : ∃ (j : Nat) (oj : Oper), ops[j]? = some oj ∧ oj.dst = some t
    · obtain ⟨j, oj, hj, hjd⟩ := hw
      have huniq : ∀ (j' : Nat) oj', ops[j']? = some oj' → oj'.dst = some t → j' = j := fun j' oj' hj' hd' => distinct_ok hdis t _ _ (writer_of hj' hd') (writer_of hj hjd)
      rcases looks_ok hl ht hj hjd with hb | hb
      · have hall : ∀ (j' : Nat) oj', ops[j']? = some oj' → oj'.dst = some t → Bef (befores ops.toList []) x.place j' := fun j' oj' hj' hd' => by rw [huniq j' oj' hj' hd']; exact hb
        exact .inl ⟨hall, late t hall⟩
      · refine .inr ⟨fun j' oj' hj' hd' => (by rw [huniq j' oj' hj' hd']; exact hb), hat.slots t fun j' oj' hdn hj' hd' => ?_⟩
        rw [huniq j' oj' hj' hd'] at hdn
        have := hat.closed j hdn _ hb
        rw [hx.new] at this; cases this
    · have hall : ∀ (j' : Nat) oj', ops[j']? = some oj' → oj'.dst = some t → Bef (befores ops.toList []) x.place j' := fun j' oj' hj' hd' => absurd ⟨j', oj', hj', hd'⟩ hw
      exact .inl ⟨hall, late t hall⟩
  have hstrict : x.oper.step.reads = true → x.mark.lo = x.mark.hi ∨ SameLooks ops o tm tmf := by
    intro hw
    obtain ⟨o', ho', _, hl⟩ := hx.looks
    rw [ho] at ho'; cases ho'
    rcases hl hw with hl | hl
    · exact .inl hl
    · exact .inr fun t ht => late t fun j oj hj hd => looks_all hl ht hj hd
  have hdst : ∀ d, o.dst = some d → gs (tp d) tmf = v := by
    intro d hd
    rw [h5 d fun y hy oy hoy hd' => ?_, hd]
    · exact putT_same
    · have := distinct_ok hdis d _ _ (writer_of ho hd) (writer_of hoy hd')
      have h9 := hnew y hy
      rw [← this, done_or.2 (.inr rfl)] at h9; cases h9
  refine ⟨tmf, hf, news ++ hs0, A, by rw [List.append_assoc]; exact h1, by simp; omega, fun j hj => ?_, fun j hj => ?_, fun t ht => ?_, fun y hy oy hoy => ?_, by rw [List.append_assoc]; exact h7, by rw [List.append_assoc]; exact h8⟩
  · rw [h3 j (done_or.2 (.inl hj)), hA1 j hj]
  · rcases h4 j hj with h | ⟨y, h, e⟩
    · rcases done_or.1 h with h | h
      · exact .inl h
      · exact .inr ⟨x, by simp, h.symm⟩
    · exact .inr ⟨y, by simp [h], e⟩
  · rw [h5 t fun y hy => ht y (by simp [hy]), putT_other (ht x (by simp) o ho)]
  · rw [List.append_assoc]
    rcases List.mem_cons.1 hy with rfl | hy
    · rw [ho] at hoy; cases hoy
      exact ⟨v, tm, hdst, hseen, hstrict, hfact news A h3⟩
    · exact h6 y hy oy hoy

theorem At.slots' {b : Nat} {tm0 : Tm} {x : DOper} {done k : Nat} {tm : Tm} {h : AH} {hs : List AH} {A0 : Nat → Option AO} {o : Oper} {v : AV} (hat : At ops ws b tm0 done k tm h hs A0) (ho : ops[x.place]? = some o)
    (t : Nat) (ht : ∀ (j : Nat) oj, (done ||| 2 ^ x.place).testBit j = true → ops[j]? = some oj → oj.dst ≠ some t) : gs (tp t) (putT tm (o.dst.map tp) v) = gs (tp t) tm0 := by
  rw [putT_other (ht x.place o (done_or.2 (.inr rfl)) ho)]
  exact hat.slots t fun j oj hj => ht j oj (done_or.2 (.inl hj))
theorem At.closed' {b : Nat} {tm0 : Tm} {x : DOper} {l : List DOper} {done k : Nat} {tm : Tm} {h : AH} {hs : List AH} {A0 : Nat → Option AO} {wr : List (Nat × Nat)} {n : Nat} (hat : At ops ws b tm0 done k tm h hs A0) (hx : ChkX ops (befores ops.toList []) ws wr n x l done k)
    (j : Nat) (hj : (done ||| 2 ^ x.place).testBit j = true) (i : Nat) (hi : Bef (befores ops.toList []) j i) : (done ||| 2 ^ x.place).testBit i = true := by
  rcases done_or.1 hj with h | rfl
  · exact done_or.2 (.inl (hat.closed j h i hi))
  · exact done_or.2 (.inl (hx.sub i hi))

theorem trace (hE : ExtOk P) {call : CallT} (hcall : CallsOk P call) {b : Nat} {tm0 : Tm} (hdis : distinct (writers ops.toList 0) = true) :
    ∀ (L : List DOper) (done k : Nat) (tm : Tm) (h : AH) (hs : List AH) (A0 : Nat → Option AO) (kont : Tm → AH → List AH → R) (r : AV × AH),
    (∀ x ∈ L, ∃ o, ops[x.place]? = some o ∧ x.oper = operOf P ops o) →
    chkD ops (befores ops.toList []) ws (writers ops.toList 0) ops.size L done k = true → At ops ws b tm0 done k tm h hs A0 →
    drawK L call b tm h hs kont = some r → Came P ops ws b tm0 L done k tm hs A0 kont r
  | [], done, k, tm, h, hs, A0, kont, r, _, hchk, hat, hh => by
    unfold chkD at hchk
    simp only [Bool.and_eq_true] at hchk
    have h1 : done = 2 ^ ops.size - 1 := Nat.eq_of_beq_eq_true hchk.1
    have h2 : ws.length = k := Nat.eq_of_beq_eq_true hchk.2
    refine ⟨tm, h, [], A0, hh, by simpa using h2.symm, fun j _ => rfl, fun j hj => .inl ?_, fun t _ => rfl, fun x hx => by simp at hx, ?_, by rw [h2]; exact hat.next⟩
    · cases hd : done.testBit j with
      | true => rfl
      | false => exact absurd (hat.none j hd) hj
    · rw [List.nil_append, hat.heap, h2]
      congr 1
      funext j
      rw [h1, Nat.testBit_two_pow_sub_one]; simp
  | x :: l, done, k, tm, h, hs, A0, kont, r, hL, hchk, hat, hh => by
    have hx := chk_cons hchk
    obtain ⟨o, ho, hxo⟩ := hL x (by simp)
    have hh' : (forceN (Nat.add b x.place) fun i => operK x.oper call (some i) tm h fun tm h' => iteR x.oper.step.writes (drawK l call b tm h' (h' :: hs) kont) (drawK l call b tm h' hs kont)) = some r := hh
    rw [forceN_eq, show Nat.add b x.place = b + x.place from rfl] at hh'
    have hL' : ∀ y ∈ l, ∃ o, ops[y.place]? = some o ∧ y.oper = operOf P ops o := fun y hy => hL y (by simp [hy])
    have hA0 : A0 x.place = none := hat.none _ hx.new
    have hplace : ∀ {A A1 : Nat → Option AO}, (∀ j, (done ||| 2 ^ x.place).testBit j = true → A j = A1 j) → A x.place = A1 x.place := fun hA => hA _ (done_or.2 (.inr rfl))
    have hnp : ¬ pre (befores ops.toList []) ws k x.place := fun hp => by have := hat.pre _ hp; rw [hx.new] at this; cases this
    -- an operation that writes nothing
    have nonw : x.oper.step.writes = false → ∀ (v : AV) (h' : AH) (A1 : Nat → Option AO), (∀ j, j ≠ x.place → A1 j = A0 j) →
        heapOf h' = Hx b A1 (heapOf (hsAt hs k)) (fun j => (done ||| 2 ^ x.place).testBit j = true ∧ ¬ pre (befores ops.toList []) ws k j) → h'.next = (hsAt hs k).next →
        (iteR x.oper.step.writes (drawK l call b (putT tm (o.dst.map tp) v) h' (h' :: hs) kont) (drawK l call b (putT tm (o.dst.map tp) v) h' hs kont)) = some r →
        (∀ news A, (∀ j, (done ||| 2 ^ x.place).testBit j = true → A j = A1 j) → Fact P ops (befores ops.toList []) ws b tm (hsAt (news ++ hs)) A x o v) →
        Came P ops ws b tm0 (x :: l) done k tm hs A0 kont r := by
      intro hw v h' A1 hA1 hheap hnx hrun hfact
      rw [hw] at hrun
      have hnext := (hx.non hw).2.2.2
      have hat' : At ops ws b tm0 (done ||| 2 ^ x.place) k (putT tm (o.dst.map tp) v) h' hs A1 := ⟨hat.slots' ho, hat.closed' hx, hat.len, hheap, hnx, fun j hj => by
          have hj1 : j ≠ x.place := fun e => by rw [e, done_or.2 (.inr rfl)] at hj; cases hj
          have hj2 : done.testBit j = false := by
            cases hd : done.testBit j with
            | false => rfl
            | true => rw [done_or.2 (.inl hd)] at hj; cases hj
          rw [hA1 j hj1, hat.none j hj2], fun j hj => done_or.2 (.inl (hat.pre j hj))⟩
      exact came_cons (hs0 := []) hdis hx ho hat (by simp) (fun j hj => hA1 j fun e => by rw [e, hx.new] at hj; cases hj) hnext (trace hE hcall hdis l _ k _ h' hs A1 kont r hL' hnext hat' hrun) hfact
    -- an operation that writes
    have wri : x.oper.step.writes = true → ∀ (v : AV) (h' : AH),
        (iteR x.oper.step.writes (drawK l call b (putT tm (o.dst.map tp) v) h' (h' :: hs) kont) (drawK l call b (putT tm (o.dst.map tp) v) h' hs kont)) = some r →
        ((GYes ops o tm ∧ EffRel P o tm h v h') ∨ (GNo ops o tm ∧ v = undefA ∧ h' = h)) →
        Came P ops ws b tm0 (x :: l) done k tm hs A0 kont r := by
      intro hw v h' hrun hfact
      rw [hw] at hrun
      obtain ⟨hsub, hws, hnext⟩ := hx.wri hw
      have hpre : ∀ j, pre (befores ops.toList []) ws (k + 1) j ↔ (j = x.place ∨ Bef (befores ops.toList []) x.place j) := fun j => by
        constructor
        · rintro ⟨e, h1, h2⟩; rw [hws] at h1; cases h1; exact h2
        · intro h2; exact ⟨_, hws, h2⟩
      have hat' : At ops ws b tm0 (done ||| 2 ^ x.place) (k + 1) (putT tm (o.dst.map tp) v) h' (h' :: hs) A0 := by
        have htop : hsAt (h' :: hs) (k + 1) = h' := by rw [← hat.len]; exact hsAt_cons _ _
        refine ⟨hat.slots' ho, hat.closed' hx, by simp [hat.len], ?_, by rw [htop], fun j hj => hat.none j ?_, fun j hj => ?_⟩
        · rw [htop]
          refine (Hx_none fun j hj => ?_).symm
          exfalso
          rcases done_or.1 hj.1 with h1 | h1
          · exact hj.2 ((hpre j).2 (.inr (hsub j h1)))
          · exact hj.2 ((hpre j).2 (.inl h1))
        · cases hd : done.testBit j with
          | false => rfl
          | true => rw [done_or.2 (.inl hd)] at hj; cases hj
        · rcases (hpre j).1 hj with h1 | h1
          · exact done_or.2 (.inr h1)
          · exact done_or.2 (.inl (hx.sub j h1))
      refine came_cons (hs0 := [h']) hdis hx ho hat (by simp; omega) (fun j _ => rfl) hnext (trace hE hcall hdis l _ (k + 1) _ h' (h' :: hs) A0 kont r hL' hnext hat' hrun) fun news A hA => ?_
      have e1 : hsAt (news ++ ([h'] ++ hs)) k = hsAt hs k := by rw [← List.append_assoc]; exact hsAt_app _ _ (by rw [hat.len]; omega)
      have e2 : hsAt (news ++ ([h'] ++ hs)) (k + 1) = h' := by
        have := hsAt_top news hs h'; rw [hat.len] at this; exact this
      refine .write k hw hws (by rw [hplace hA]; exact hA0) h ?_ (by rw [e1]; exact hat.next) (by rw [e2]; exact hfact)
      rw [e1, hat.heap]
      have iffB : ∀ j, done.testBit j = true ↔ Bef (befores ops.toList []) x.place j := fun j => ⟨hsub j, hx.sub j⟩
      refine Hx_ext (fun j => ?_) (fun j hj _ => (hA j (done_or.2 (.inl hj.1))).symm) (fun _ _ => rfl)
      rw [← iffB]
      constructor
      · rintro ⟨⟨h1, h2⟩, h3⟩; exact ⟨⟨h1, h2⟩, by rw [hA j (done_or.2 (.inl h1))]; exact h3⟩
      · rintro ⟨⟨h1, h2⟩, h3⟩; exact ⟨⟨h1, h2⟩, by rw [← hA j (done_or.2 (.inl h1))]; exact h3⟩
    have same : heapOf h = Hx b A0 (heapOf (hsAt hs k)) (fun j => (done ||| 2 ^ x.place).testBit j = true ∧ ¬ pre (befores ops.toList []) ws k j) := by
      rw [hat.heap]
      refine Hx_ext (fun j => ?_) (fun _ _ _ => rfl) (fun _ _ => rfl)
      constructor
      · rintro ⟨⟨h1, h2⟩, h3⟩; exact ⟨⟨done_or.2 (.inl h1), h2⟩, h3⟩
      · rintro ⟨⟨h1, h2⟩, h3⟩
        rcases done_or.1 h1 with h1 | h1
        · exact ⟨⟨h1, h2⟩, h3⟩
        · rw [h1, hA0] at h3; exact absurd rfl h3
    rw [hxo] at hh'
    rcases operK_cases hE ops o hh' with ⟨hyes, hstep, h1⟩ | ⟨hno, h1⟩
    · rw [← hxo] at h1 hstep
      rcases step_any hcall (stepL_ok hE _ _ _) h1 with ⟨d, po, v, hs1, hd, h2, h3⟩ | ⟨d, ro, v, hs1, hd, h2, hro, h3⟩ | ⟨d, lo, ob, v, hs1, hd, h2, h3⟩ | ⟨hs1, v, h', h2, h3⟩
      · have hw : x.oper.step.writes = false := by rw [hstep, hs1]; rfl
        exact nonw hw v h A0 (fun _ _ => rfl) same hat.next h2 fun news A hA => .val hw (by rw [hplace hA]; exact hA0) hyes h3
      · have hw : x.oper.step.writes = false := by rw [hstep, hs1]; rfl
        refine nonw hw v h A0 (fun _ _ => rfl) same hat.next h2 fun news A hA => ?_
        refine .read hw (by rw [hplace hA]; exact hA0) hyes d ro (by rw [hstep, hs1]) hd hro h (fun j => done.testBit j = true ∧ ¬ pre (befores ops.toList []) ws k j) (fun j hj => by rw [(hx.non hw).1]; exact hj.2) ?_ h3
        rw [(hx.non hw).1, hsAt_app _ _ (by rw [hat.len]; omega), hat.heap]
        refine Hx_ext (fun j => ?_) (fun j hj _ => (hA j (done_or.2 (.inl hj.1))).symm) (fun _ _ => rfl)
        constructor
        · rintro ⟨⟨h1, h2⟩, h3⟩; exact ⟨⟨h1, h2⟩, by rw [hA j (done_or.2 (.inl h1))]; exact h3⟩
        · rintro ⟨⟨h1, h2⟩, h3⟩; exact ⟨⟨h1, h2⟩, by rw [← hA j (done_or.2 (.inl h1))]; exact h3⟩
      · have hw : x.oper.step.writes = false := by rw [hstep, hs1]; rfl
        refine nonw hw v ⟨h.g.put (tp (b + x.place)) (some ob), h.next⟩ (fun j => if j = x.place then some ob else A0 j) (fun j hj => if_neg hj) ?_ hat.next h2 fun news A hA => .new hw ob (by rw [hplace hA]; exact if_pos rfl) hyes h3
        rw [heapOf_put, hat.heap]
        refine Hx_upd (if_pos rfl) ⟨done_or.2 (.inr rfl), hnp⟩ (fun j _ _ hji => if_neg hji) (fun j hji => ?_)
        rw [if_neg hji]
        constructor
        · rintro ⟨⟨h1, h2⟩, h3⟩; exact ⟨⟨done_or.2 (.inl h1), h2⟩, h3⟩
        · rintro ⟨⟨h1, h2⟩, h3⟩
          rcases done_or.1 h1 with h1 | h1
          · exact ⟨⟨h1, h2⟩, h3⟩
          · exact absurd h1 hji
      · have hw : x.oper.step.writes = true := by rw [hstep]; exact hs1
        exact wri hw v h' h2 (.inl ⟨hyes, h3⟩)
    · rw [← hxo] at h1
      cases hw : x.oper.step.writes with
      | true => exact wri hw undefA h h1 (.inr ⟨hno, rfl, rfl⟩)
      | false => exact nonw hw undefA h A0 (fun _ _ => rfl) same hat.next h1 fun news A hA => .no hw (by rw [hplace hA]; exact hA0) hno rfl
end
end Go.Bb
