/-
  A region that draws its order: every order comes to the same.
-/
import Derived.Test.YtjdcodjoheckcaaGreatDoorBbTrace
namespace Go.Bb
variable {P : Program}

/-! ### What the check of the reads tells -/
theorem ReadOk.rel {o : Oper} {ro : ROp} (hro : ReadOk P o.op ro) {tm : Tm} {h : AH} {ret : AV → R} {r : AV × AH} (hh : ro tm h ret = some r) : ∃ v, ret v = some r ∧ ReadRel P o tm h v := by
  obtain ⟨v, h1, h2⟩ := hro tm h ret r hh
  exact ⟨v, h1, fun ρ ce w G n hs hr he => by obtain ⟨cv, q1, q2⟩ := h2 ρ ce w G n hs hr he; exact ⟨cv, q1, q2 o rfl⟩⟩

theorem eachK_some {o : Oper} {ro : ROp} (hro : ReadOk P o.op ro) {tm : Tm} {v : AV} {kr : R} {r : AV × AH} : ∀ {hs : List AH}, eachK ro tm v hs kr = some r → kr = some r ∧ ∀ h ∈ hs, ReadRel P o tm h v
  | [], h => ⟨h, fun _ h => by simp at h⟩
  | h0 :: hs, h => by
    have h' : (ro tm h0 fun u => iteR (sameV u v) (eachK ro tm v hs kr) none) = some r := h
    obtain ⟨u, h1, h2⟩ := hro.rel (o := o) h'
    rcases iteR_some h1 with ⟨h3, h4⟩ | ⟨_, h4⟩
    · obtain ⟨h5, h6⟩ := eachK_some hro h4
      refine ⟨h5, fun x hx => ?_⟩
      rcases List.mem_cons.1 hx with rfl | hx
      · rw [← sameV_eq h3]; exact h2
      · exact h6 x hx
    · exact none_some h4

theorem operOf_step (hE : ExtOk P) (ops : Array Oper) (o : Oper) : StepOk P o.op (o.dst.map tp) (operOf P ops o).step := by
  cases hg : o.guard with
  | none => rw [operOf_none hg]; exact stepL_ok hE _ _ _
  | some jw =>
    obtain ⟨j, want⟩ := jw
    cases hj : (ops[j]?).bind (·.dst) with
    | none => rw [operOf_bad hg hj]; exact trivial
    | some t => rw [operOf_some hg hj]; exact stepL_ok hE _ _ _

theorem checkK_some (hE : ExtOk P) {ops : Array Oper} {tm : Tm} {hs : List AH} {kr : R} {r : AV × AH} : ∀ {l : List DOper}, (∀ x ∈ l, ∃ o, ops[x.place]? = some o ∧ x.oper = operOf P ops o) → checkK tm hs l kr = some r →
    kr = some r ∧ ∀ x ∈ l, ∀ o d ro, ops[x.place]? = some o → x.oper.step = .read d ro → x.mark.lo = x.mark.hi ∨ ¬ GYes ops o tm ∨ ∀ h ∈ (hs.drop x.mark.lo).take (x.mark.hi - x.mark.lo + 1), ReadRel P o tm h (gs d tm)
  | [], _, h => ⟨h, fun _ h => by simp at h⟩
  | x :: l, hl, h => by
    obtain ⟨o, ho, hx⟩ := hl x (by simp)
    have hl' : ∀ y ∈ l, ∃ o, ops[y.place]? = some o ∧ y.oper = operOf P ops o := fun y hy => hl y (by simp [hy])
    have h' : AStep.rec (motive := fun _ => R) (fun _ _ => checkK tm hs l kr)
      (fun d o => iteR (Nat.beq x.mark.lo x.mark.hi) (checkK tm hs l kr) (guardK x.oper.guard tm (eachK o tm (gs d tm) ((hs.drop x.mark.lo).take (Nat.succ (Nat.sub x.mark.hi x.mark.lo))) (checkK tm hs l kr)) (checkK tm hs l kr)))
      (fun _ _ => checkK tm hs l kr) (fun _ _ => checkK tm hs l kr) (fun _ _ _ => checkK tm hs l kr) (fun _ _ _ => checkK tm hs l kr) (fun _ => checkK tm hs l kr) x.oper.step = some r := h
    have nor : ∀ (_ : ∀ d ro, x.oper.step ≠ .read d ro) (_ : checkK tm hs l kr = some r), kr = some r ∧ ∀ y ∈ x :: l, ∀ o d ro, ops[y.place]? = some o → y.oper.step = .read d ro → y.mark.lo = y.mark.hi ∨ ¬ GYes ops o tm ∨ ∀ h ∈ (hs.drop y.mark.lo).take (y.mark.hi - y.mark.lo + 1), ReadRel P o tm h (gs d tm) := by
      intro hne hk
      obtain ⟨h1, h2⟩ := checkK_some hE hl' hk
      refine ⟨h1, fun y hy o' d ro ho' hs' => ?_⟩
      rcases List.mem_cons.1 hy with rfl | hy
      · exact absurd hs' (hne d ro)
      · exact h2 y hy o' d ro ho' hs'
    cases hst : x.oper.step with
    | pure => rw [hst] at h'; exact nor (by simp [hst]) h'
    | alloc => rw [hst] at h'; exact nor (by simp [hst]) h'
    | eff => rw [hst] at h'; exact nor (by simp [hst]) h'
    | call => rw [hst] at h'; exact nor (by simp [hst]) h'
    | callv => rw [hst] at h'; exact nor (by simp [hst]) h'
    | bad => rw [hst] at h'; exact nor (by simp [hst]) h'
    | read d ro =>
      rw [hst] at h'
      have hok := operOf_step hE ops o
      rw [← hx, hst] at hok
      have fin : ∀ (_ : checkK tm hs l kr = some r) (_ : x.mark.lo = x.mark.hi ∨ ¬ GYes ops o tm ∨ ∀ h ∈ (hs.drop x.mark.lo).take (x.mark.hi - x.mark.lo + 1), ReadRel P o tm h (gs d tm)),
          kr = some r ∧ ∀ y ∈ x :: l, ∀ o d ro, ops[y.place]? = some o → y.oper.step = .read d ro → y.mark.lo = y.mark.hi ∨ ¬ GYes ops o tm ∨ ∀ h ∈ (hs.drop y.mark.lo).take (y.mark.hi - y.mark.lo + 1), ReadRel P o tm h (gs d tm) := by
        intro hk hf
        obtain ⟨h1, h2⟩ := checkK_some hE hl' hk
        refine ⟨h1, fun y hy o' d' ro' ho' hs' => ?_⟩
        rcases List.mem_cons.1 hy with rfl | hy
        · rw [ho] at ho'; cases ho'
          rw [hst] at hs'; cases hs'
          exact hf
        · exact h2 y hy o' d' ro' ho' hs'
      have h2 : iteR (Nat.beq x.mark.lo x.mark.hi) (checkK tm hs l kr) (guardK x.oper.guard tm (eachK ro tm (gs d tm) ((hs.drop x.mark.lo).take (Nat.succ (Nat.sub x.mark.hi x.mark.lo))) (checkK tm hs l kr)) (checkK tm hs l kr)) = some r := h'
      rcases iteR_some h2 with ⟨h3, h4⟩ | ⟨h3, h4⟩
      · exact fin h4 (.inl (Nat.eq_of_beq_eq_true h3))
      · have met : ∀ (_ : eachK ro tm (gs d tm) ((hs.drop x.mark.lo).take (Nat.succ (Nat.sub x.mark.hi x.mark.lo))) (checkK tm hs l kr) = some r), kr = some r ∧ ∀ y ∈ x :: l, ∀ o d ro, ops[y.place]? = some o → y.oper.step = .read d ro → y.mark.lo = y.mark.hi ∨ ¬ GYes ops o tm ∨ ∀ h ∈ (hs.drop y.mark.lo).take (y.mark.hi - y.mark.lo + 1), ReadRel P o tm h (gs d tm) := by
          intro he
          obtain ⟨h5, h6⟩ := eachK_some (o := o) hok.2 he
          exact fin h5 (.inr (.inr h6))
        cases hg : o.guard with
        | none => rw [hx, operOf_none hg] at h4; exact met h4
        | some jw =>
          obtain ⟨j, want⟩ := jw
          cases hj : (ops[j]?).bind (·.dst) with
          | none => rw [hx, operOf_bad hg hj] at hst; cases hst
          | some t =>
            have hgu : x.oper.guard = some (tp t, want) := by rw [hx, operOf_some hg hj]
            rw [hgu] at h4
            rcases guardK_some h4 with ⟨_, h6⟩ | ⟨h5, h6⟩
            · exact met h6
            · refine fin h6 (.inr (.inl fun hy => ?_))
              obtain ⟨t', e1, e2⟩ := hy j want hg
              rw [hj] at e1; cases e1
              exact h5 e2

/-! ### Every order -/
def Ld (listed : Array Bool) (j : Nat) : Prop := listed.getD j false = true

theorem Ld_set {listed : Array Bool} {i j : Nat} (hi : i < listed.size) : Ld (listed.setIfInBounds i true) j ↔ Ld listed j ∨ j = i := by
  unfold Ld
  by_cases h : j = i
  · subst h; simp [hi]
  · simp only [h, or_false]
    simp [Array.getD_eq_getD_getElem?, Array.getElem?_setIfInBounds_ne (Ne.symm h)]

section
variable {ops : Array Oper} {ws : List Nat} {b nt : Nat} {tm0 tmf : Tm} {Hs : Nat → AH} {A : Nat → Option AO} {ρ0 : Emb} {H0 : Heap} {w0 : World}

/-- the state when some operations have been done -/
structure Inv (ops : Array Oper) (ws : List Nat) (b nt : Nat) (tm0 tmf : Tm) (Hs : Nat → AH) (A : Nat → Option AO) (ρ0 : Emb) (H0 : Heap) (w0 : World) (listed : Array Bool) (a : Act) (w : World) (ρ : Emb) (k : Nat) : Prop where
  lsize : listed.size = ops.size
  closed : Closed ops (Ld listed)
  row : ∀ r i, ws[r]? = some i → (Ld listed i ↔ r < k)
  kle : k ≤ ws.length
  heap : HR ρ (Hx b A (heapOf (Hs k)) (fun j => Ld listed j ∧ ¬ pre (befores ops.toList []) ws k j)) (Hs k).next w
  ext : Ext ρ0 H0 b w0 ρ (Hx b A (heapOf (Hs k)) (fun j => Ld listed j ∧ ¬ pre (befores ops.toList []) ws k j)) (Hs k).next w
  tmps : ∀ t, (∀ j o, ops[j]? = some o → o.dst = some t → Ld listed j) → VR ρ (gs (tp t) tmf) (a.tmps.getD t undef)
  old : ∀ t, (∀ j o, ops[j]? = some o → o.dst = some t → ¬ Ld listed j) → VR ρ (gs (tp t) tm0) (a.tmps.getD t undef)
  size : nt ≤ a.tmps.size
  defers : a.defers = []
  fresh : ∀ j, j < ops.size → ¬ Ld listed j → ρ (tp (b + j)) = none
  dom : ∀ j, j < ops.size → ¬ pre (befores ops.toList []) ws k j → heapOf (Hs k) (tp (b + j)) = none
  next : b + ops.size ≤ (Hs k).next

theorem Inv.pre_listed {listed : Array Bool} {a : Act} {w : World} {ρ : Emb} {k : Nat} (hI : Inv ops ws b nt tm0 tmf Hs A ρ0 H0 w0 listed a w ρ k) (hws : ∀ r i : Nat, ws[r]? = some i → i < ops.size) {j : Nat} (hj : pre (befores ops.toList []) ws k j) : Ld listed j := by
  cases k with
  | zero => exact hj.elim
  | succ k =>
    obtain ⟨e, h1, h2⟩ := hj
    have he : Ld listed e := (hI.row k e h1).2 (Nat.lt_succ_self _)
    rcases h2 with rfl | h2
    · exact he
    · exact hI.closed.bef (Array.getElem?_eq_getElem (hws k e h1)) he h2

theorem Inv.slots {listed : Array Bool} {a : Act} {w : World} {ρ ρ' : Emb} {k : Nat} (hI : Inv ops ws b nt tm0 tmf Hs A ρ0 H0 w0 listed a w ρ k) (hs : Sub ρ ρ') {i : Nat} {o : Oper} (ho : ops[i]? = some o) (hnt : ∀ d, o.dst = some d → d < nt)
    {v : AV} {cv : Value} (hv : VR ρ' v cv) (hd : ∀ d, o.dst = some d → gs (tp d) tmf = v) (t : Nat) (ht : ∀ j oj, ops[j]? = some oj → oj.dst = some t → Ld (listed.setIfInBounds i true) j) :
    VR ρ' (gs (tp t) tmf) ((a.put o.dst cv).tmps.getD t undef) := by
  have hil : i < listed.size := by rw [hI.lsize]; exact (Array.getElem?_eq_some_iff.1 ho).1
  by_cases hdt : o.dst = some t
  · rw [hd t hdt, hdt]
    have hts : t < a.tmps.size := Nat.lt_of_lt_of_le (hnt t hdt) hI.size
    have : (a.put (some t) cv).tmps.getD t undef = cv := by simp [Act.put, hts]
    rw [this]; exact hv
  · have : (a.put o.dst cv).tmps.getD t undef = a.tmps.getD t undef := by
      cases hod : o.dst with
      | none => rfl
      | some d =>
        have hne : d ≠ t := fun e => hdt (by rw [hod, e])
        simp only [Act.put, Array.getD_eq_getD_getElem?, Array.getElem?_setIfInBounds_ne hne]
    rw [this]
    refine (hI.tmps t fun j oj hj hjd => ?_).mono hs
    rcases (Ld_set hil).1 (ht j oj hj hjd) with h | rfl
    · exact h
    · rw [ho] at hj; cases hj; exact absurd hjd hdt

theorem Inv.olds {listed : Array Bool} {a : Act} {w : World} {ρ ρ' : Emb} {k : Nat} (hI : Inv ops ws b nt tm0 tmf Hs A ρ0 H0 w0 listed a w ρ k) (hs : Sub ρ ρ') {i : Nat} {o : Oper} (ho : ops[i]? = some o)
    {cv : Value} (t : Nat) (ht : ∀ j oj, ops[j]? = some oj → oj.dst = some t → ¬ Ld (listed.setIfInBounds i true) j) :
    VR ρ' (gs (tp t) tm0) ((a.put o.dst cv).tmps.getD t undef) := by
  have hil : i < listed.size := by rw [hI.lsize]; exact (Array.getElem?_eq_some_iff.1 ho).1
  have hdt : o.dst ≠ some t := fun h => ht i o ho h ((Ld_set hil).2 (.inr rfl))
  have : (a.put o.dst cv).tmps.getD t undef = a.tmps.getD t undef := by
    cases hod : o.dst with
    | none => rfl
    | some d =>
      have hne : d ≠ t := fun e => hdt (by rw [hod, e])
      simp only [Act.put, Array.getD_eq_getD_getElem?, Array.getElem?_setIfInBounds_ne hne]
  rw [this]
  exact (hI.old t fun j oj hj hjd h => ht j oj hj hjd ((Ld_set hil).2 (.inl h))).mono hs

/-- what is known of the operation at a place -/
inductive Fact2 (P : Program) (ops : Array Oper) (bef ws : List Nat) (b : Nat) (tmf : Tm) (Hs : Nat → AH) (A : Nat → Option AO) (i : Nat) (o : Oper) (v : AV) : Prop
  | write (r : Nat) (hr : ws[r]? = some i) (ha : A i = none) (hc : AH) (h1 : heapOf hc = Hx b A (heapOf (Hs r)) (fun j => Bef bef i j ∧ ¬ pre bef ws r j)) (h2 : hc.next = (Hs r).next)
      (h3 : (GYes ops o tmf ∧ EffRel P o tmf hc v (Hs (r + 1))) ∨ (GNo ops o tmf ∧ v = undefA ∧ Hs (r + 1) = hc))
  | no (hw : ∀ r : Nat, ws[r]? ≠ some i) (ha : A i = none) (h : GNo ops o tmf) (hv : v = undefA)
  | val (hw : ∀ r : Nat, ws[r]? ≠ some i) (ha : A i = none) (h : GYes ops o tmf) (hv : ValRel P o tmf v)
  | read (hw : ∀ r : Nat, ws[r]? ≠ some i) (ha : A i = none) (h : GYes ops o tmf) (lo hi : Nat) (hlo : behind ws (bef.getD i 0) lo = true) (hhi : ∀ r i' : Nat, hi ≤ r → ws[r]? = some i' → Bef bef i' i)
      (hv : ∀ k, k ≤ ws.length → lo ≤ k → k ≤ hi → ∃ hc, ReadRel P o tmf hc v ∧ ∀ p ob, heapOf hc p = some ob → heapOf (Hs k) p = some ob ∨ ∃ j, ¬ pre bef ws k j ∧ A j = some ob ∧ p = tp (b + j))
  | new (hw : ∀ r : Nat, ws[r]? ≠ some i) (ob : AO) (ha : A i = some ob) (h : GYes ops o tmf) (hv : NewRel P o tmf (tp (b + i)) ob v)

/-- what is known of the region -/
structure Known (P : Program) (ops : Array Oper) (ws : List Nat) (b nt : Nat) (tm0 tmf : Tm) (Hs : Nat → AH) (A : Nat → Option AO) : Prop where
  wsz : ∀ r i : Nat, ws[r]? = some i → i < ops.size
  row : ∀ r r' i i' : Nat, r < r' → ws[r]? = some i → ws[r']? = some i' → Bef (befores ops.toList []) i' i ∧ ∀ j, Bef (befores ops.toList []) i j → Bef (befores ops.toList []) i' j
  small : ∀ j, A j ≠ none → j < ops.size
  nt : ∀ (i : Nat) o, ops[i]? = some o → ∀ d, o.dst = some d → d < nt
  fact : ∀ (i : Nat) o, ops[i]? = some o → ∃ v tmx, (∀ d, o.dst = some d → gs (tp d) tmf = v) ∧ Seen ops i o tm0 tmx tmf ∧ Fact2 P ops (befores ops.toList []) ws b tmx Hs A i o v

theorem Inv.step (hK : Known P ops ws b nt tm0 tmf Hs A) {listed : Array Bool} {a : Act} {w : World} {ρ : Emb} {k : Nat} (hI : Inv ops ws b nt tm0 tmf Hs A ρ0 H0 w0 listed a w ρ k) {i : Nat} (hi : i ∈ Region.ready .any ops listed) (Q : Exit → Act → World → Prop) :
    wpOp P ops Q i (fun a' w' => ∃ ρ' k', Inv ops ws b nt tm0 tmf Hs A ρ0 H0 w0 (listed.setIfInBounds i true) a' w' ρ' k') a w := by
  obtain ⟨hun, o, ho, hdir⟩ := mem_ready.1 hi
  have hin : i < ops.size := (Array.getElem?_eq_some_iff.1 ho).1
  have hil : i < listed.size := by rw [hI.lsize]; exact hin
  have hnl : ¬ Ld listed i := by
    intro h; unfold Ld at h
    simp only [Array.getD_eq_getD_getElem?, Array.getElem?_eq_getElem hil, Option.getD_some] at h hun
    rw [hun] at h; cases h
  have hdir' : ∀ e ∈ o.after, Region.binds .any e = true → Ld listed e.on := hdir
  have hbef : ∀ j, Bef (befores ops.toList []) i j → Ld listed j := bef_closed hI.closed i o ho hdir'
  have hld : ∀ {j}, Ld (listed.setIfInBounds i true) j ↔ Ld listed j ∨ j = i := Ld_set hil
  have hclosed : Closed ops (Ld (listed.setIfInBounds i true)) := by
    intro j oj hj hoj e he hbi
    rcases hld.1 hj with h | rfl
    · exact hld.2 (.inl (hI.closed j oj h hoj e he hbi))
    · rw [ho] at hoj; cases hoj; exact hld.2 (.inl (hdir' e he hbi))
  have hlsize : (listed.setIfInBounds i true).size = ops.size := by rw [Array.size_setIfInBounds]; exact hI.lsize
  have hpl : ∀ {j}, pre (befores ops.toList []) ws k j → Ld listed j := fun hj => hI.pre_listed hK.wsz hj
  have hnp : ¬ pre (befores ops.toList []) ws k i := fun h => hnl (hpl h)
  obtain ⟨v, tmx, hdv, hseen, hfact⟩ := hK.fact i o ho
  have hlook : LookR ops ρ o tmx a.tmps := fun t ht => by
    rcases hseen t ht with ⟨h1, h2⟩ | ⟨h1, h2⟩
    · rw [h2]; exact hI.tmps t fun j oj hj hjd => hbef j (h1 j oj hj hjd)
    · rw [h2]; exact hI.old t fun j oj hj hjd h => hnl (hI.closed.bef hj h (h1 j oj hj hjd))
  have hslots : ∀ {ρ' : Emb} {cv : Value}, Sub ρ ρ' → VR ρ' v cv → ∀ t, (∀ j oj, ops[j]? = some oj → oj.dst = some t → Ld (listed.setIfInBounds i true) j) → VR ρ' (gs (tp t) tmf) ((a.put o.dst cv).tmps.getD t undef) :=
    fun hs hv t ht => hI.slots hs ho (hK.nt i o ho) hv hdv t ht
  have hrow : (∀ r : Nat, ws[r]? ≠ some i) → ∀ (r i' : Nat), ws[r]? = some i' → (Ld (listed.setIfInBounds i true) i' ↔ r < k) := by
    intro hw r i' hr
    rw [hld, hI.row r i' hr]
    constructor
    · rintro (h | rfl)
      · exact h
      · exact absurd hr (hw r)
    · exact .inl
  -- nothing is written, nothing is new
  have still : (∀ r : Nat, ws[r]? ≠ some i) → A i = none → ∀ {cv : Value}, VR ρ v cv → ∃ ρ' k', Inv ops ws b nt tm0 tmf Hs A ρ0 H0 w0 (listed.setIfInBounds i true) (a.put o.dst cv) w ρ' k' := by
    intro hw ha cv hv
    have e : Hx b A (heapOf (Hs k)) (fun j => Ld listed j ∧ ¬ pre (befores ops.toList []) ws k j) = Hx b A (heapOf (Hs k)) (fun j => Ld (listed.setIfInBounds i true) j ∧ ¬ pre (befores ops.toList []) ws k j) := by
      refine Hx_ext (fun j => ?_) (fun _ _ _ => rfl) (fun _ _ => rfl)
      rw [hld]
      constructor
      · rintro ⟨⟨h1, h2⟩, h3⟩; exact ⟨⟨.inl h1, h2⟩, h3⟩
      · rintro ⟨⟨h1 | rfl, h2⟩, h3⟩
        · exact ⟨⟨h1, h2⟩, h3⟩
        · exact absurd ha h3
    exact ⟨ρ, k, hlsize, hclosed, hrow hw, hI.kle, e ▸ hI.heap, e ▸ hI.ext, hslots (.refl _) hv, hI.olds (.refl _) ho, by rw [size_put]; exact hI.size, by rw [defers_put]; exact hI.defers,
      fun j hj hn => hI.fresh j hj fun h => hn (hld.2 (.inl h)), hI.dom, hI.next⟩
  unfold wpOp
  rw [ho]
  simp only []
  cases hfact with
  | no hw ha hno hv =>
    rw [if_neg (by rw [hno.unwanted hlook]; simp)]
    exact still hw ha (by rw [hv]; exact undef_rel)
  | val hw ha hyes hv =>
    rw [if_pos (hyes.wanted hlook)]
    obtain ⟨cv, q1, q2⟩ := hv ρ a.eval hlook.ev
    refine .inl ?_
    unfold Oper.wp
    rw [q2 w, Oper.upon_value]
    exact still hw ha q1
  | read hw ha hyes lo hi' hlo hhi hv =>
    rw [if_pos (hyes.wanted hlook)]
    have h1 : lo ≤ k := by
      cases lo with
      | zero => exact Nat.zero_le _
      | succ l =>
        cases he : ws[l]? with
        | none => simp [behind, he] at hlo
        | some e => simp only [behind, he] at hlo; exact (hI.row l e he).1 (hbef e hlo)
    have h2 : k ≤ hi' := by
      refine Nat.le_of_not_lt fun hlt => ?_
      have hlen : hi' < ws.length := Nat.lt_of_lt_of_le hlt hI.kle
      have he : ws[hi']? = some ws[hi'] := List.getElem?_eq_getElem hlen
      have hle : Ld listed ws[hi'] := (hI.row hi' _ he).2 hlt
      exact hnl (hI.closed.bef (Array.getElem?_eq_getElem (hK.wsz _ _ he)) hle (hhi hi' _ (Nat.le_refl _) he))
    obtain ⟨hc, q1, q2⟩ := hv k hI.kle h1 h2
    obtain ⟨cv, q3, q4⟩ := q1 ρ a.eval w _ _ (fun p ob hp hob => by
      rcases q2 p ob hob with h | ⟨j, h3, h4, rfl⟩
      · rw [Hx_out fun j hj hja hjp => ?_]
        · exact h
        · rw [hjp, hI.dom j (hK.small j hja) hj.2] at h; cases h
      · have hj : Ld listed j := Classical.byContradiction fun hn => hp (hI.fresh j (hK.small j (by rw [h4]; simp)) hn)
        exact Hx_in ⟨hj, h3⟩ h4) hI.heap hlook.ev
    refine .inl ?_
    unfold Oper.wp
    rw [q4, Oper.upon_value]
    exact still hw ha q3
  | new hw ob ha hyes hv =>
    rw [if_pos (hyes.wanted hlook)]
    obtain ⟨cob, sz, hf, hrel⟩ := hv ρ a.eval w hlook.ev
    have hfresh := hI.fresh i hin hnl
    obtain ⟨q0, cv, q1, q2⟩ := hrel (ins ρ (tp (b + i)) ⟨w.heap.size, 0, sz⟩) (sub_ins hfresh) (ins_same _ _ _)
    refine .inl ?_
    unfold Oper.wp
    rw [q2, Oper.upon_value]
    have e : upd (Hx b A (heapOf (Hs k)) (fun j => Ld listed j ∧ ¬ pre (befores ops.toList []) ws k j)) (tp (b + i)) (some ob) = Hx b A (heapOf (Hs k)) (fun j => Ld (listed.setIfInBounds i true) j ∧ ¬ pre (befores ops.toList []) ws k j) := by
      refine Hx_upd ha ⟨hld.2 (.inr rfl), hnp⟩ (fun _ _ _ _ => rfl) (fun j hj => ?_)
      rw [hld]
      constructor
      · rintro ⟨⟨h1, h2⟩, h3⟩; exact ⟨⟨.inl h1, h2⟩, h3⟩
      · rintro ⟨⟨h1 | h1, h2⟩, h3⟩
        · exact ⟨⟨h1, h2⟩, h3⟩
        · exact absurd h1 hj
    have hlt : b + i < (Hs k).next := Nat.lt_of_lt_of_le (by omega) hI.next
    refine ⟨_, k, hlsize, hclosed, hrow hw, hI.kle, e ▸ hI.heap.alloc hfresh (Nat.le_refl _) hlt q0, e ▸ hI.ext.alloc hfresh (Nat.le_add_right _ _) (Nat.le_refl _) hf, hslots (sub_ins hfresh) q1, hI.olds (sub_ins hfresh) ho, by rw [size_put]; exact hI.size, by rw [defers_put]; exact hI.defers,
      fun j hj hn => ?_, hI.dom, hI.next⟩
    rw [ins_other _ _ fun he => hn (hld.2 (.inr (by have := tp_inj he; omega)))]
    exact hI.fresh j hj fun h => hn (hld.2 (.inl h))
  | write r hr ha hc h1 h2 h3 =>
    have hrk : r = k := by
      rcases Nat.lt_trichotomy r k with h | h | h
      · exact absurd ((hI.row r i hr).2 h) hnl
      · exact h
      · have hk : k < ws.length := Nat.lt_trans h (List.getElem?_eq_some_iff.1 hr).1
        have he : ws[k]? = some ws[k] := List.getElem?_eq_getElem hk
        exact absurd ((hI.row k _ he).1 (hbef _ (hK.row k r _ _ h he hr).1)) (Nat.lt_irrefl _)
    subst hrk
    have hprei : ∀ {j}, pre (befores ops.toList []) ws r j → Bef (befores ops.toList []) i j := by
      intro j hj
      cases r with
      | zero => exact hj.elim
      | succ r =>
        obtain ⟨e, he, h⟩ := hj
        have := hK.row r (r + 1) e i (Nat.lt_succ_self _) he hr
        rcases h with rfl | h
        · exact this.1
        · exact this.2 j h
    have hpre' : ∀ {j}, pre (befores ops.toList []) ws (r + 1) j ↔ (j = i ∨ Bef (befores ops.toList []) i j) := by
      intro j
      constructor
      · rintro ⟨e, he, h⟩; rw [hr] at he; cases he; exact h
      · intro h; exact ⟨i, hr, h⟩
    -- the heap of the one order is part of this one
    have hsub : ∀ p o', heapOf hc p = some o' → Hx b A (heapOf (Hs r)) (fun j => Ld listed j ∧ ¬ pre (befores ops.toList []) ws r j) p = some o' := by
      intro p o' hp
      rw [h1] at hp
      rcases Hx_cases hp with ⟨j, hj, hja, rfl⟩ | ⟨hj, hp'⟩
      · exact Hx_in ⟨hbef j hj.1, hj.2⟩ hja
      · rw [Hx_out fun j hj' hja hjp => ?_]
        · exact hp'
        · rw [hjp, hI.dom j (hK.small j hja) hj'.2] at hp'; cases hp'
    have hC : HR ρ (heapOf hc) hc.next w := by rw [h2]; exact hI.heap.weaken hsub
    have hG' : ∀ p o', Hx b A (heapOf (Hs (r + 1))) (fun j => Ld (listed.setIfInBounds i true) j ∧ ¬ pre (befores ops.toList []) ws (r + 1) j) p = some o' →
        heapOf (Hs (r + 1)) p = some o' ∨ (Hx b A (heapOf (Hs r)) (fun j => Ld listed j ∧ ¬ pre (befores ops.toList []) ws r j) p = some o' ∧ heapOf hc p = none) := by
      intro p o' hp
      rcases Hx_cases hp with ⟨j, hj, hja, rfl⟩ | ⟨_, hp'⟩
      · have hj1 : j ≠ i := fun e => hj.2 (hpre'.2 (.inl e))
        have hj2 : ¬ Bef (befores ops.toList []) i j := fun e => hj.2 (hpre'.2 (.inr e))
        have hj3 : Ld listed j := (hld.1 hj.1).resolve_right hj1
        refine .inr ⟨Hx_in ⟨hj3, fun h => hj2 (hprei h)⟩ hja, ?_⟩
        rw [h1, Hx_out fun j' hj' _ hjp => ?_]
        · exact hI.dom j (hK.small j (by rw [hja]; simp)) fun h => hj2 (hprei h)
        · have : j = j' := by have := tp_inj hjp; omega
          exact hj2 (this ▸ hj'.1)
      · exact .inl hp'
    have done : ∀ {ρ' : Emb} {cv : Value} {w' : World}, VR ρ' v cv → HR ρ' (heapOf (Hs (r + 1))) (Hs (r + 1)).next w' → Ext ρ (heapOf hc) hc.next w ρ' (heapOf (Hs (r + 1))) (Hs (r + 1)).next w' →
        ∃ ρ' k', Inv ops ws b nt tm0 tmf Hs A ρ0 H0 w0 (listed.setIfInBounds i true) (a.put o.dst cv) w' ρ' k' := by
      intro ρ' cv w' hv hH hx
      have hx' := hx
      rw [h2] at hx'
      have hlen : r < ws.length := (List.getElem?_eq_some_iff.1 hr).1
      refine ⟨ρ', r + 1, hlsize, hclosed, fun r' i' hr' => ?_, hlen, hI.heap.frame hsub hH hx' hG', hI.ext.trans (Ext.frame hI.heap hsub hx' hG'), hslots hx.sub hv, hI.olds hx.sub ho, by rw [size_put]; exact hI.size, by rw [defers_put]; exact hI.defers,
        fun j hj hn => ?_, fun j hj hn => ?_, Nat.le_trans hI.next (h2 ▸ hx.next)⟩
      · rw [hld, hI.row r' i' hr']
        constructor
        · rintro (h | rfl)
          · omega
          · by_cases he : r' = r
            · omega
            · exfalso
              rcases Nat.lt_or_gt_of_ne he with h | h
              · exact hnl ((hI.row r' i' hr').2 h)
              · have := (hK.row r r' i' i' h hr hr').1
                exact hnl (hbef _ this)
        · intro h
          by_cases he : r' = r
          · subst he; rw [hr] at hr'; cases hr'; exact .inr rfl
          · exact .inl (by omega)
      · refine hx.emb _ (hI.fresh j hj fun h => hn (hld.2 (.inl h))) fun i' hi' e => ?_
        have := tp_inj e
        have := hI.next
        rw [h2] at hi'; omega
      · have hj2 : ¬ Bef (befores ops.toList []) i j := fun e => hn (hpre'.2 (.inr e))
        cases hg : heapOf (Hs (r + 1)) (tp (b + j)) with
        | none => rfl
        | some o' =>
          exfalso
          rcases hx.dom _ _ hg with ⟨o2, h⟩ | ⟨i', hi', e⟩
          · rw [h1, Hx_out fun j' hj' _ hjp => ?_, hI.dom j hj fun h => hj2 (hprei h)] at h
            · cases h
            · have : j = j' := by have := tp_inj hjp; omega
              exact hj2 (this ▸ hj'.1)
          · have := tp_inj e
            have := hI.next
            rw [h2] at hi'; omega
    rcases h3 with ⟨hyes, heff⟩ | ⟨hno, hv, he⟩
    · rw [if_pos (hyes.wanted hlook)]
      exact .inl (heff ρ a w hC hlook.ev _ Q fun ρ' cv w' q1 q2 q3 => done q1 q2 q3)
    · rw [if_neg (by rw [hno.unwanted hlook]; simp)]
      exact done (ρ' := ρ) (by rw [hv]; exact undef_rel) (by rw [he]; exact hC) (by rw [he]; exact Ext.refl _ _ _ _)

theorem Inv.any (hK : Known P ops ws b nt tm0 tmf Hs A) (htop : ∀ S : Nat → Prop, (∃ i, i < ops.size ∧ ¬ S i) → ∃ i, i < ops.size ∧ ¬ S i ∧ ∀ j, Bef (befores ops.toList []) i j → S j) {Q : Exit → Act → World → Prop}
    (hQ : ∀ listed a w ρ k, Inv ops ws b nt tm0 tmf Hs A ρ0 H0 w0 listed a w ρ k → (∀ i, i < ops.size → Ld listed i) → Q .normal a w) :
    ∀ (fuel : Nat) (U : List Nat) (listed : Array Bool) (a : Act) (w : World) (ρ : Emb) (k : Nat), U.length ≤ fuel → (∀ i, i < ops.size → ¬ Ld listed i → i ∈ U) → Inv ops ws b nt tm0 tmf Hs A ρ0 H0 w0 listed a w ρ k →
      wpAny P .any ops Q fuel listed a w := by
  intro fuel
  induction fuel with
  | zero =>
    intro U listed a w ρ k hU hmem hI
    have hU0 : U = [] := List.eq_nil_of_length_eq_zero (by omega)
    have hall : ∀ i, i < ops.size → Ld listed i := fun i hi => Classical.byContradiction fun hn => by have := hmem i hi hn; rw [hU0] at this; simp at this
    refine ⟨List.eq_nil_iff_forall_not_mem.2 fun i hi => ?_, hQ listed a w ρ k hI hall⟩
    obtain ⟨hun, o, ho, _⟩ := mem_ready.1 hi
    have hin : i < ops.size := (Array.getElem?_eq_some_iff.1 ho).1
    have hil : i < listed.size := by rw [hI.lsize]; exact hin
    have := hall i hin
    unfold Ld at this
    simp only [Array.getD_eq_getD_getElem?, Array.getElem?_eq_getElem hil, Option.getD_some] at this hun
    rw [hun] at this; cases this
  | succ fuel ih =>
    intro U listed a w ρ k hU hmem hI
    refine ⟨fun hr => ?_, fun i hi => ?_⟩
    · refine hQ listed a w ρ k hI fun i hi => Classical.byContradiction fun hn => ?_
      obtain ⟨i', h1, h2, h3⟩ := htop (Ld listed) ⟨i, hi, hn⟩
      have hil : i' < listed.size := by rw [hI.lsize]; exact h1
      have : i' ∈ Region.ready .any ops listed := by
        refine mem_ready.2 ⟨?_, ops[i'], Array.getElem?_eq_getElem h1, fun e he hb => h3 e.on ((bef_iff (Array.getElem?_eq_getElem h1) _).2 ⟨e, he, hb, .inl rfl⟩)⟩
        unfold Ld at h2
        simp only [Array.getD_eq_getD_getElem?, Array.getElem?_eq_getElem hil, Option.getD_some] at h2 ⊢
        cases hb : listed[i'] with
        | false => rfl
        | true => exact absurd hb h2
      rw [hr] at this; cases this
    · have hin : i < ops.size := by obtain ⟨_, o, ho, _⟩ := mem_ready.1 hi; exact (Array.getElem?_eq_some_iff.1 ho).1
      have hil : i < listed.size := by rw [hI.lsize]; exact hin
      have hiU : i ∈ U := hmem i hin fun h => by
        obtain ⟨hun, _⟩ := mem_ready.1 hi
        unfold Ld at h
        simp only [Array.getD_eq_getD_getElem?, Array.getElem?_eq_getElem hil, Option.getD_some] at h hun
        rw [hun] at h; cases h
      refine wpOp_mono (fun a' w' ⟨ρ', k', hI'⟩ => ih (U.erase i) _ a' w' ρ' k' (by rw [List.length_erase_of_mem hiU]; omega) (fun j hj hn => ?_) hI') (hI.step hK hi Q)
      have h1 : ¬ Ld listed j := fun h => hn ((Ld_set hil).2 (.inl h))
      have h2 : j ≠ i := fun h => hn ((Ld_set hil).2 (.inr h))
      exact (List.mem_erase_of_ne h2).2 (hmem j hj h1)
end

/-! ### The region -/
theorem chk_top {ops : Array Oper} {bef ws : List Nat} {wr : List (Nat × Nat)} {n : Nat} (S : Nat → Prop) : ∀ {l : List DOper} {done k : Nat}, chkD ops bef ws wr n l done k = true → (∀ j, done.testBit j = true → S j) → (∃ i, i < n ∧ ¬ S i) →
    ∃ i, i < n ∧ ¬ S i ∧ ∀ j, Bef bef i j → S j
  | [], done, k, h, hd, ⟨i, hi, hn⟩ => by
    rcases chk_cover h i hi with h1 | ⟨x, hx, _⟩
    · exact absurd (hd i h1) hn
    · simp at hx
  | x :: l, done, k, h, hd, hex => by
    have hx := chk_cons h
    by_cases hs : S x.place
    · refine chk_top S (chk_next hx) (fun j hj => ?_) hex
      rcases done_or.1 hj with h1 | rfl
      · exact hd j h1
      · exact hs
    · exact ⟨x.place, hx.lt, hs, fun j hj => hd j (hx.sub j hj)⟩

theorem chk_all {ops : Array Oper} {bef ws : List Nat} {wr : List (Nat × Nat)} {n : Nat} : ∀ {l : List DOper} {done k : Nat}, chkD ops bef ws wr n l done k = true → ∀ x ∈ l,
    x.oper.step.writes = false → (∀ r i' : Nat, x.mark.hi ≤ r → ws[r]? = some i' → Bef bef i' x.place) ∧ behind ws (bef.getD x.place 0) x.mark.lo = true ∧ x.mark.lo ≤ x.mark.hi
  | [], _, _, _, x, hx => by simp at hx
  | y :: l, done, k, h, x, hx => by
    have hy := chk_cons h
    rcases List.mem_cons.1 hx with rfl | hx
    · intro hw
      obtain ⟨h1, h2, h3, h4⟩ := hy.non hw
      exact ⟨fun r i' hr hi => chk_writes h4 r i' (by omega) hi _ (done_or.2 (.inr rfl)), h3, by omega⟩
    · exact chk_all (chk_next hy) x hx

theorem mem_writesOf {aops : List AOper} {n r i : Nat} (h : (writesOf aops n)[r]? = some i) : i < n ∧ ∃ o, aops[i]? = some o ∧ o.step.writes = true := by
  have := List.mem_of_getElem? h
  unfold writesOf at this
  rw [List.mem_filter, List.mem_range] at this
  refine ⟨this.1, ?_⟩
  cases ho : aops[i]? with
  | none => rw [ho] at this; cases this.2
  | some o => rw [ho] at this; exact ⟨o, rfl, this.2⟩

theorem mem_drawList {aops : List AOper} {bef ws : List Nat} {n : Nat} {x : DOper} (h : x ∈ drawList aops bef ws n) : aops[x.place]? = some x.oper := by
  unfold drawList at h
  obtain ⟨i, _, hi⟩ := List.mem_filterMap.1 h
  simp only [Option.map_eq_some_iff] at hi
  obtain ⟨o, ho, rfl⟩ := hi
  exact ho
end Go.Bb
