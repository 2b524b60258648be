/-
  The run of code in the abstract machine and in the model.
-/
import Derived.Test.YtjdcodjoheckcaaGreatDoorBbOps
namespace Go.Bb
variable {P : Program}

def AExit.to : AExit → Exit
  | .normal => .normal
  | .exit id => .exit id
  | .goto l => .goto l
  | .ret => .ret

/-- a frame's state, in both -/
structure St (ρ : Emb) (nt : Nat) (tm : Tm) (h : AH) (a : Act) (w : World) : Prop where
  heap : HR ρ (heapOf h) h.next w
  tmps : TmR ρ tm a.tmps
  size : nt ≤ a.tmps.size
  defers : a.defers = []

/-- the state behind it -/
def After (nt : Nat) (ρ : Emb) (h : AH) (w : World) (e : AExit) (tm' : Tm) (h' : AH) : Exit → Act → World → Prop := fun e2 a' w' =>
  e2 = e.to ∧ ∃ ρ', St ρ' nt tm' h' a' w' ∧ Ext ρ (heapOf h) h.next w ρ' (heapOf h') h'.next w'

/-- from a place in the code -/
def FromRel (P : Program) (nt : Nat) (items : List Item → List Item) (tm : Tm) (h : AH) (e : AExit) (tm' : Tm) (h' : AH) : Prop :=
  ∀ (ρ : Emb) (a : Act) (w : World), St ρ nt tm h a w → ∀ (b : Frame) (k : List Item) (cs : List Frame),
    ∃ e2 a' w', After nt ρ h w e tm' h' e2 a' w' ∧ Arrives P (lone (b.at a (items k)) cs w) b k cs e2 a' w'

theorem FromRel.wp {nt : Nat} {c : Code} {tm tm' : Tm} {h h' : AH} {e : AExit} (hf : FromRel P nt (fun k => .code c :: k) tm h e tm' h') {ρ : Emb} {a : Act} {w : World} (hs : St ρ nt tm h a w) :
    c.wp P (After nt ρ h w e tm' h') a w := fun b k cs => hf ρ a w hs b k cs
theorem FromRel.of_wp {nt : Nat} {c : Code} {tm tm' : Tm} {h h' : AH} {e : AExit} (hf : ∀ ρ a w, St ρ nt tm h a w → c.wp P (After nt ρ h w e tm' h') a w) : FromRel P nt (fun k => .code c :: k) tm h e tm' h' :=
  fun ρ a w hs b k cs => hf ρ a w hs b k cs

theorem After.trans {nt : Nat} {ρ ρ' : Emb} {h h1 h' : AH} {w w1 : World} {e : AExit} {tm' : Tm} {e2 : Exit} {a' : Act} {w' : World}
    (hx : Ext ρ (heapOf h) h.next w ρ' (heapOf h1) h1.next w1) (ha : After nt ρ' h1 w1 e tm' h' e2 a' w') : After nt ρ h w e tm' h' e2 a' w' := by
  obtain ⟨q1, ρ2, q2, q3⟩ := ha
  exact ⟨q1, ρ2, q2, hx.trans q3⟩

/-- every run of the code comes to its continuation -/
def CodeOk (P : Program) (run : RunT) : Prop := ∀ (nt : Nat) (c : Code), dstsOk nt c = true → ∀ {tm : Tm} {h : AH} {k : KT} {r : AV × AH}, run (codeOf P c) tm h k = some r →
  ∃ e tm' h', k e tm' h' = some r ∧ FromRel P nt (fun k => .code c :: k) tm h e tm' h'
def LoopOk (P : Program) (run : RunT) : Prop := ∀ (nt : Nat) (c : Code), dstsOk nt c = true → ∀ {tm : Tm} {h : AH} {k : KT} {r : AV × AH}, run (.loop (codeOf P c)) tm h k = some r →
  ∃ e tm' h', k e tm' h' = some r ∧ FromRel P nt (fun k => .code c :: .inLoop c :: k) tm h e tm' h'
def ScopeOk (P : Program) (run : RunT) : Prop := ∀ (nt : Nat) (c rest : Code), dstsOk nt c = true → dstsOk nt rest = true → ∀ {tm : Tm} {h : AH} {k : KT} {r : AV × AH}, run (.scopeIn (codeOf P c) (codeOf P rest)) tm h k = some r →
  ∃ e tm' h', k e tm' h' = some r ∧ FromRel P nt (fun k => .code rest :: .inScope c :: k) tm h e tm' h'

/-- a region that draws its order -/
def DrawOk (P : Program) : Prop := ∀ (prog : Nat → Option AFunc) (sums : SumT) (run : RunT), CallsOk P (callK prog sums run) → ∀ (nt id : Nat) (ops : Array Oper), (∀ o ∈ ops.toList, ∀ d, o.dst = some d → d < nt) →
  ∀ {tm : Tm} {h : AH} {k : KT} {r : AV × AH}, FK prog sums run (drawOf P ops) tm h k = some r → ∃ tm' h', k .normal tm' h' = some r ∧ FromRel P nt (fun k => .code (.region id ops true) :: k) tm h .normal tm' h'

/-! ### Labels -/
theorem draw_findL (ops : Array Oper) (l : Nat) : findL (drawOf P ops) l = none := by unfold drawOf drawOf2; simp only []; split <;> rfl
theorem findL_ok (l : Nat) : ∀ (c : Code), findL (codeOf P c) l = (findLabel c l).map (codeOf P) := by
  intro c
  induction c with
  | seq a b ha hb =>
    show (match findL (codeOf P a) l with | some rest => some (ACode.seq rest (codeOf P b)) | none => findL (codeOf P b) l) = (match findLabel a l with | some rest => some (Code.seq rest b) | none => findLabel b l).map (codeOf P)
    rw [ha]
    cases findLabel a l with
    | none => exact hb
    | some rest => rfl
  | label l' => show (if l' == l then some ACode.skip else none) = _; unfold findLabel; split <;> rfl
  | region id ops d =>
    unfold findLabel
    cases d with
    | true => exact draw_findL ops l
    | false => rfl
  | cond c a b ha hb =>
    unfold findLabel
    unfold codeOf
    cases opd c <;> rfl
  | _ => rfl
theorem dsts_find {nt l : Nat} : ∀ {c rest : Code}, findLabel c l = some rest → dstsOk nt c = true → dstsOk nt rest = true := by
  intro c
  induction c with
  | seq a b ha hb =>
    intro rest h hd
    have hd' : dstsOk nt a = true ∧ dstsOk nt b = true := by simpa [dstsOk] using hd
    unfold findLabel at h
    split at h
    · rename_i r' hr'
      cases h
      simp only [dstsOk, Bool.and_eq_true]
      exact ⟨ha hr' hd'.1, hd'.2⟩
    · exact hb h hd'.2
  | label l' =>
    intro rest h _
    unfold findLabel at h
    split at h
    · cases h; rfl
    · cases h
  | _ => intro rest h; simp [findLabel] at h

/-! ### Results -/
abbrev resM (tmps : Array Value) : ResultVar → Sem Value := fun
    | .tmp t => pure (tmps.getD t undef)
    | .cell a t => do loadVar t (← asAddr (tmps.getD a undef))

theorem resK_ok {rv : ResultVar} {ar : ARes} (hr : resOf P rv = some ar) {tm : Tm} {h : AH} {k : AV → R} {r : AV × AH} (hh : resK ar tm h k = some r) :
    ∃ v, k v = some r ∧ ∀ (ρ : Emb) (w : World) (tmps : Array Value), HR ρ (heapOf h) h.next w → TmR ρ tm tmps → ∃ cv, VR ρ v cv ∧ (resM tmps rv).run P w = .ok cv w := by
  cases rv with
  | tmp t =>
    simp only [resOf, Option.some.injEq] at hr; subst hr
    have h1 : lookK (gs (tp t) tm) k = some r := hh
    rw [lookK_eq] at h1
    exact ⟨_, h1, fun ρ w tmps _ htm => ⟨_, htm t, by simp⟩⟩
  | cell t ty =>
    simp only [resOf] at hr
    split at hr
    · rename_i n g hs hg
      cases hr
      cases g with
      | false =>
        have h1 : rLoad1 (gs (tp t)) tm h k = some r := hh
        obtain ⟨v, h2, hrel⟩ := rLoad1_rel (P := P) h1
        refine ⟨v, h2, fun ρ w tmps hr htm => ?_⟩
        obtain ⟨a, cv, e1, e2, e3⟩ := hrel ρ _ w (heapOf h) h.next (fun _ _ _ h => h) hr (htm t)
        exact ⟨cv, e2, by simp only [e1, asAddr, loadVar, Sem.run_bind, Sem.run_pure, Result.andThen_ok, run_isAgg' hg, Bool.false_eq_true, if_false, e3]⟩
      | true =>
        have h1 : rLoadN n (gs (tp t)) tm h k = some r := hh
        obtain ⟨v, h2, hrel⟩ := rLoadN_rel (P := P) h1
        refine ⟨v, h2, fun ρ w tmps hr htm => ?_⟩
        obtain ⟨a, cs, e1, e2, e3⟩ := hrel ρ _ w (heapOf h) h.next (fun _ _ _ h => h) hr (htm t)
        exact ⟨_, e2, by simp only [e1, asAddr, loadVar, Sem.run_bind, Sem.run_pure, Result.andThen_ok, run_isAgg' hg, if_true, run_sizeOf' hs, e3]⟩
    · cases hr

theorem toTV_some {v : AV} {k : TV → R} {r : AV × AH} (h : toTV v k = some r) : ∃ u, k u = some r ∧ ∀ (ρ : Emb) (c : Value), VR ρ v c → TR ρ u c := by
  cases v with
  | s s => exact ⟨_, h, fun ρ c hc => by cases hc with | s hc => exact .s hc⟩
  | agg l => exact ⟨_, h, fun ρ c hc => by cases hc with | agg hc => exact .agg hc⟩
  | tup l => exact none_some h

theorem resultsK_ok : ∀ {rvs : List ResultVar} {ars : List ARes}, resultsOf P rvs = some ars → ∀ {tm : Tm} {h : AH} {k : List TV → R} {r : AV × AH}, resultsK ars tm h k = some r →
    ∃ vs, k vs = some r ∧ vs.length = rvs.length ∧ ∀ (ρ : Emb) (w : World) (tmps : Array Value), HR ρ (heapOf h) h.next w → TmR ρ tm tmps → ∃ cvs, All2 (TR ρ) vs cvs ∧ (rvs.mapM (resM tmps)).run P w = .ok cvs w
  | [], ars, hr, tm, h, k, r, hh => by
    simp only [resultsOf, Option.some.injEq] at hr; subst hr
    exact ⟨[], hh, rfl, fun ρ w tmps _ _ => ⟨[], .nil, by simp⟩⟩
  | rv :: rvs, ars, hr, tm, h, k, r, hh => by
    simp only [resultsOf] at hr
    split at hr
    · rename_i a l h1 h2
      cases hr
      have hh' : (resK a tm h fun v => toTV v fun v => resultsK l tm h fun l => k (v :: l)) = some r := hh
      obtain ⟨v, h3, hv⟩ := resK_ok h1 hh'
      obtain ⟨u, h4, hu⟩ := toTV_some h3
      obtain ⟨vs, h5, hlen, hvs⟩ := resultsK_ok h2 h4
      refine ⟨u :: vs, h5, by simp [hlen], fun ρ w tmps hr htm => ?_⟩
      obtain ⟨cv, q1, q2⟩ := hv ρ w tmps hr htm
      obtain ⟨cvs, q3, q4⟩ := hvs ρ w tmps hr htm
      refine ⟨cv :: cvs, .cons (hu ρ cv q1) q3, ?_⟩
      rw [List.mapM_cons]
      simp only [Sem.run_bind, Sem.run_pure]
      have q2' : (resM tmps rv).run P w = .ok cv w := q2
      rw [q2']
      simp only [Result.andThen_ok, q4]
    · cases hr

theorem resultK_ok {fn : Func} {ars : List ARes} (hr : resultsOf P fn.results.toList = some ars) {tm : Tm} {h : AH} {k : AV → AH → R} {r : AV × AH} (hh : resultK ars tm h k = some r) :
    ∃ v, k v h = some r ∧ ∀ (ρ : Emb) (w : World) (tmps : Array Value), HR ρ (heapOf h) h.next w → TmR ρ tm tmps → ∃ cv, VR ρ v cv ∧ (results fn tmps).run P w = .ok cv w := by
  have run : ∀ (w : World) (tmps : Array Value) (cvs : List Value), (fn.results.toList.mapM (resM tmps)).run P w = .ok cvs w →
      (results fn tmps).run P w = .ok (if h : cvs.toArray.size = 1 then cvs.toArray[0] else .tuple cvs.toArray) w := by
    intro w tmps cvs h
    have : (fn.results.mapM (resM tmps)).run P w = .ok cvs.toArray w := by
      rw [Array.mapM_eq_mapM_toList, Sem.run_map, h]; rfl
    show (fn.results.mapM (resM tmps) >>= fun vs => (pure (if h : vs.size = 1 then vs[0] else .tuple vs) : Sem Value)).run P w = _
    simp only [Sem.run_bind, this, Result.andThen_ok, Sem.run_pure]
  cases hl : fn.results.toList with
  | nil =>
    rw [hl] at hr
    simp only [resultsOf, Option.some.injEq] at hr; subst hr
    exact ⟨.tup [], hh, fun ρ w tmps _ _ => ⟨_, .tup .nil, run w tmps [] (by rw [hl]; simp)⟩⟩
  | cons rv rvs =>
    rw [hl] at hr
    cases rvs with
    | nil =>
      simp only [resultsOf] at hr
      split at hr
      · rename_i a l h1 h2
        cases h2
        cases hr
        have hh' : (resK a tm h fun v => k v h) = some r := hh
        obtain ⟨v, h3, hv⟩ := resK_ok h1 hh'
        refine ⟨v, h3, fun ρ w tmps hr htm => ?_⟩
        obtain ⟨cv, q1, q2⟩ := hv ρ w tmps hr htm
        refine ⟨cv, q1, ?_⟩
        rw [run w tmps [cv] (by
          rw [hl]
          have q2' : (resM tmps rv).run P w = .ok cv w := q2
          simp only [List.mapM_cons, List.mapM_nil, Sem.run_bind, Sem.run_pure, q2', Result.andThen_ok])]
        rfl
      · cases hr
    | cons rv2 rvs =>
      have hlen : ∃ a b l, ars = a :: b :: l := by
        simp only [resultsOf] at hr
        split at hr
        · rename_i a l h1 h2
          cases hr
          split at h2
          · rename_i b l' h3 h4
            cases h2; exact ⟨_, _, _, rfl⟩
          · cases h2
        · cases hr
      obtain ⟨a, b, l, rfl⟩ := hlen
      have hh' : (resultsK (a :: b :: l) tm h fun vs => k (.tup vs) h) = some r := hh
      obtain ⟨vs, h3, hvl, hv⟩ := resultsK_ok hr hh'
      refine ⟨.tup vs, h3, fun ρ w tmps hrr htm => ?_⟩
      obtain ⟨cvs, q1, q2⟩ := hv ρ w tmps hrr htm
      refine ⟨.tuple cvs.toArray, .tup (by simpa using q1), ?_⟩
      rw [run w tmps cvs (by rw [hl]; exact q2)]
      have hl2 : cvs.length ≠ 1 := by
        have := q1.length; simp at hvl; omega
      rw [dif_neg (by simpa using hl2)]

/-! ### Calls and code -/
def ProgOk (P : Program) (prog : Nat → Option AFunc) : Prop := ∀ f af, prog f = some af → ∃ fn, P.funcs[f]? = some fn ∧ funcOf P fn = some af
def SumsOk (P : Program) (sums : SumT) : Prop := ∀ f s, sums f = some s → CallsOk P (fun g args h k => if g = f then s args h k else none)

theorem tm_start {ρ : Emb} {args : List AV} {cargs : Array Value} (h : All2 (VR ρ) args cargs.toList) (n : Nat) : TmR ρ (putAll args 0 .l) (cargs ++ Array.replicate n undef) := by
  intro t
  have hlen : args.length = cargs.size := by simpa using h.length
  unfold gs
  rw [get_putAll]
  by_cases ht : t < args.length
  · rw [if_pos ⟨Nat.zero_le _, by omega⟩]
    obtain ⟨cv, h1, h2⟩ := h.get (i := t) (a := args[t]) (by simp [ht])
    have hc : cargs[t]? = some cv := by simpa using h1
    have : (cargs ++ Array.replicate n undef).getD t undef = cv := by
      simp only [Array.getD_eq_getD_getElem?]
      rw [Array.getElem?_append_left (by omega), hc]; rfl
    rw [this]; simp [ht, vOf]; exact h2
  · rw [if_neg (by omega), get_leaf]
    have : (cargs ++ Array.replicate n undef).getD t undef = undef := by
      simp only [Array.getD_eq_getD_getElem?]
      rw [Array.getElem?_append_right (by omega)]
      by_cases hn : t - cargs.size < n
      · simp [hn]
      · simp [hn]
    rw [this]; exact undef_rel

theorem callK_ok {prog : Nat → Option AFunc} {sums : SumT} (hp : ProgOk P prog) (hsum : SumsOk P sums) {run : RunT} (hrun : CodeOk P run) : CallsOk P (callK prog sums run) := by
  intro f args h k r hh
  cases hs : sums f with
  | some s =>
    have h1 : s args h k = some r := by
      have h0 : Option.rec (motive := fun _ => R)
        (Option.rec (motive := fun _ => R) none (fun fn => ofListV args 0 .l fun tm => run fn.body tm h (doneK fn.results k)) (prog f))
        (fun s => s args h k) (sums f) = some r := hh
      rw [hs] at h0; exact h0
    exact hsum f s hs f args h k r (by simpa using h1)
  | none =>
    have h0 : Option.rec (motive := fun _ => R)
      (Option.rec (motive := fun _ => R) none (fun fn => ofListV args 0 .l fun tm => run fn.body tm h (doneK fn.results k)) (prog f))
      (fun s => s args h k) (sums f) = some r := hh
    rw [hs] at h0
    cases hf : prog f with
    | none => rw [hf] at h0; exact none_some h0
    | some af =>
      rw [hf] at h0
      have h1 : (ofListV args 0 .l fun tm => run af.body tm h (doneK af.results k)) = some r := h0
      rw [ofListV_eq] at h1
      obtain ⟨fn, hfn, haf⟩ := hp f af hf
      unfold funcOf at haf
      split at haf
      · rename_i c rs hb hrs
        split at haf
        · rename_i hc
          cases haf
          obtain ⟨e, tm', h', h2, hrel⟩ := hrun fn.ntmps c hc.1 h1
          have h3 : (e = .normal ∨ e = .ret) ∧ resultK rs tm' h' k = some r := by
            cases e with
            | normal => exact ⟨.inl rfl, h2⟩
            | ret => exact ⟨.inr rfl, h2⟩
            | exit => exact none_some h2
            | goto => exact none_some h2
          obtain ⟨v, h4, hres⟩ := resultK_ok hrs h3.2
          refine ⟨v, h', h4, fun args w => ?_, fun ρ w cargs hr hargs => ?_⟩
          · simp [callFunc, hfn, hc.2, hb]
          · refine calls_of_wp hfn hb (wp_mono (hrel.wp ⟨hr, tm_start hargs _, by simp; omega, rfl⟩) ?_)
            rintro e2 a' w' ⟨he, ρ', hst, hext⟩
            obtain ⟨cv, q1, q2⟩ := hres ρ' w' a'.tmps hst.heap hst.tmps
            have key : a'.defers = [] ∧ ∃ v_1, (results fn a'.tmps).run P w' = .ok v_1 w' ∧ ∃ ρ' cv, (Ending.returned v_1) = .returned cv ∧ VR ρ' v cv ∧ HR ρ' (heapOf h') h'.next w' ∧ Ext ρ (heapOf h) h.next w ρ' (heapOf h') h'.next w' :=
              ⟨hst.defers, cv, q2, ρ', cv, rfl, q1, hst.heap, hext⟩
            rcases h3.1 with rfl | rfl <;> subst he <;> exact key
        · cases haf
      · cases haf

/-! ### Code -/
theorem FromRel.step {nt : Nat} {f g : List Item → List Item} {tm tm' : Tm} {h h' : AH} {e : AExit} (hs : ∀ (b : Frame) (a : Act) (k : List Item) (cs : List Frame) (w : World), step P (lone (b.at a (f k)) cs w) = .next (lone (b.at a (g k)) cs w))
    (hg : FromRel P nt g tm h e tm' h') : FromRel P nt f tm h e tm' h' := fun ρ a w hst b k cs => by
  obtain ⟨e2, a', w', q1, q2⟩ := hg ρ a w hst b k cs
  exact ⟨e2, a', w', q1, .of_steps (.one (hs b a k cs w)) q2⟩

theorem here {nt : Nat} {tm : Tm} {h : AH} {e : AExit} {ρ : Emb} {a : Act} {w : World} (hst : St ρ nt tm h a w) : After nt ρ h w e tm h e.to a w := ⟨rfl, ρ, hst, Ext.refl _ _ _ _⟩

/-- one piece behind another -/
theorem FromRel.seq {nt : Nat} {x : Code} {g : List Item → List Item} {tm tm1 tm' : Tm} {h h1 h' : AH} {e : AExit} (hx : FromRel P nt (fun k => .code x :: k) tm h .normal tm1 h1)
    (hg : FromRel P nt g tm1 h1 e tm' h') : FromRel P nt (fun k => .code x :: g k) tm h e tm' h' := fun ρ a w hst b k cs => by
  obtain ⟨e2, a1, w1, ⟨rfl, ρ1, hst1, hext⟩, q2⟩ := hx ρ a w hst b (g k) cs
  obtain ⟨e3, a', w', q3, q4⟩ := hg ρ1 a1 w1 hst1 b k cs
  exact ⟨e3, a', w', q3.trans hext, .of_steps q2 q4⟩
theorem FromRel.past {nt : Nat} {x : Code} {i : Item} (hi : i.plain = true) {tm tm' : Tm} {h h' : AH} {e : AExit} (he : e ≠ .normal) (hx : FromRel P nt (fun k => .code x :: k) tm h e tm' h') : FromRel P nt (fun k => .code x :: i :: k) tm h e tm' h' := fun ρ a w hst b k cs => by
  obtain ⟨e2, a1, w1, ⟨rfl, ρ1, hst1, hext⟩, q2⟩ := hx ρ a w hst b (i :: k) cs
  refine ⟨e.to, a1, w1, ⟨rfl, ρ1, hst1, hext⟩, .pass hi (fun _ _ => .inl ?_) q2⟩
  cases e with
  | normal => exact absurd rfl he
  | _ => simp [AExit.to]

section
variable {prog : Nat → Option AFunc} {sums : SumT}

theorem loop_ok {n : Nat} (hc : CodeOk P (runK prog sums n)) (hl : LoopOk P (runK prog sums n)) : LoopOk P (runK prog sums (n + 1)) := by
  intro nt c hd tm h k r hh
  have hh' : runK prog sums n (codeOf P c) tm h (seqK (runK prog sums n) (.loop (codeOf P c)) k) = some r := hh
  obtain ⟨e, tm1, h1, h2, hrel⟩ := hc nt c hd hh'
  cases e with
  | normal =>
    have h3 : runK prog sums n (.loop (codeOf P c)) tm1 h1 k = some r := h2
    obtain ⟨e', tm', h', h4, hrel'⟩ := hl nt c hd h3
    exact ⟨e', tm', h', h4, hrel.seq (g := fun k => .inLoop c :: k) (hrel'.step (fun b a k cs w => step_inLoop))⟩
  | exit id => exact ⟨.exit id, tm1, h1, h2, hrel.past rfl (by simp)⟩
  | goto l => exact ⟨.goto l, tm1, h1, h2, hrel.past rfl (by simp)⟩
  | ret => exact ⟨.ret, tm1, h1, h2, hrel.past rfl (by simp)⟩

theorem inScope_ok {n : Nat} (hc : CodeOk P (runK prog sums n)) (hl : ScopeOk P (runK prog sums n)) {nt : Nat} {c rest : Code} (hd : dstsOk nt c = true) (hd' : dstsOk nt rest = true) {tm : Tm} {h : AH} {k : KT} {r : AV × AH}
    (hh : runK prog sums n (codeOf P rest) tm h (scopeK (runK prog sums n) (codeOf P c) k) = some r) :
    ∃ e tm' h', k e tm' h' = some r ∧ FromRel P nt (fun k => .code rest :: .inScope c :: k) tm h e tm' h' := by
  obtain ⟨e, tm1, h1, h2, hrel⟩ := hc nt rest hd' hh
  cases e with
  | normal =>
    exact ⟨.normal, tm1, h1, h2, hrel.seq (g := fun k => .inScope c :: k) (fun ρ a w hst b k cs => ⟨_, a, w, here hst, .one step_inScope⟩)⟩
  | exit id =>
    refine ⟨.exit id, tm1, h1, h2, fun ρ a w hst b k cs => ?_⟩
    obtain ⟨e2, a1, w1, ⟨rfl, q1⟩, q2⟩ := hrel ρ a w hst b (.inScope c :: k) cs
    exact ⟨_, a1, w1, ⟨rfl, q1⟩, fun k' hk => q2 k' (by simpa [exitTo] using hk)⟩
  | ret =>
    refine ⟨.ret, tm1, h1, h2, fun ρ a w hst b k cs => ?_⟩
    obtain ⟨e2, a1, w1, ⟨rfl, q1⟩, q2⟩ := hrel ρ a w hst b (.inScope c :: k) cs
    exact ⟨_, a1, w1, ⟨rfl, q1⟩, q2⟩
  | goto l =>
    have h3 : Option.rec (motive := fun _ => Tm → AH → R) (k (.goto l)) (fun rest tm h => runK prog sums n (.scopeIn (codeOf P c) rest) tm h k) (findL (codeOf P c) l) tm1 h1 = some r := h2
    rw [findL_ok] at h3
    cases hf : findLabel c l with
    | none =>
      rw [hf] at h3
      refine ⟨.goto l, tm1, h1, h3, fun ρ a w hst b k cs => ?_⟩
      obtain ⟨e2, a1, w1, ⟨rfl, q1⟩, q2⟩ := hrel ρ a w hst b (.inScope c :: k) cs
      exact ⟨_, a1, w1, ⟨rfl, q1⟩, fun k' hk => q2 k' (by simpa [gotoIn, hf] using hk)⟩
    | some rest2 =>
      rw [hf] at h3
      have h4 : runK prog sums n (.scopeIn (codeOf P c) (codeOf P rest2)) tm1 h1 k = some r := h3
      obtain ⟨e', tm', h', h5, hrel'⟩ := hl nt c rest2 hd (dsts_find hf hd) h4
      refine ⟨e', tm', h', h5, fun ρ a w hst b k cs => ?_⟩
      obtain ⟨e2, a1, w1, ⟨rfl, ρ1, hst1, hext⟩, q2⟩ := hrel ρ a w hst b (.inScope c :: k) cs
      obtain ⟨e3, a2, w2, q3, q4⟩ := hrel' ρ1 a1 w1 hst1 b k cs
      exact ⟨e3, a2, w2, q3.trans hext, .of_steps (q2 _ (by simp [gotoIn, hf])) q4⟩

theorem code_ok (hE : ExtOk P) (hD : DrawOk P) {n : Nat} (hcalls : CallsOk P (callK prog sums (runK prog sums n))) (hc : CodeOk P (runK prog sums n)) (hl : LoopOk P (runK prog sums n)) (hs : ScopeOk P (runK prog sums n)) : CodeOk P (runK prog sums (n + 1)) := by
  intro nt c hd tm h k r hh
  cases c with
  | skip => exact ⟨.normal, tm, h, hh, .of_wp fun ρ a w hst => wp_skip (here hst)⟩
  | label l => exact ⟨.normal, tm, h, hh, .of_wp fun ρ a w hst => wp_label (here hst)⟩
  | exit id => exact ⟨.exit id, tm, h, hh, .of_wp fun ρ a w hst => wp_exit (here hst)⟩
  | goto l => exact ⟨.goto l, tm, h, hh, .of_wp fun ρ a w hst => wp_goto (here hst)⟩
  | ret => exact ⟨.ret, tm, h, hh, .of_wp fun ρ a w hst => wp_ret (here hst)⟩
  | region id ops d =>
    have hdst : ∀ o ∈ ops.toList, ∀ d, o.dst = some d → d < nt := by
      intro o ho d hod
      have := List.all_eq_true.1 hd o ho
      rw [hod] at this
      exact Nat.lt_of_succ_le (Nat.le_of_ble_eq_true this)
    cases d with
    | true =>
      obtain ⟨tm', h', h1, h2⟩ := hD prog sums (runK prog sums n) hcalls nt id ops hdst hh
      exact ⟨_, tm', h', h1, h2⟩
    | false =>
      have hh' : opsK (ops.toList.map (operOf P ops)) (callK prog sums (runK prog sums n)) tm h (k .normal) = some r := hh
      obtain ⟨tm', h', h1, h2⟩ := opsK_ok hE hcalls ops nt ops.toList hdst hh'
      refine ⟨.normal, tm', h', h1, .of_wp fun ρ a w hst => wp_region_list ?_⟩
      exact h2 ρ a w _ hst.heap hst.tmps hst.size hst.defers fun ρ' a' w' p1 p2 p3 p4 p5 => ⟨rfl, ρ', ⟨p1, p2, p3, p4⟩, p5⟩
  | seq x y =>
    have hd' : dstsOk nt x = true ∧ dstsOk nt y = true := by simpa [dstsOk] using hd
    have hh' : runK prog sums n (codeOf P x) tm h (seqK (runK prog sums n) (codeOf P y) k) = some r := hh
    obtain ⟨e, tm1, h1, h2, hrel⟩ := hc nt x hd'.1 hh'
    cases e with
    | normal =>
      have h3 : runK prog sums n (codeOf P y) tm1 h1 k = some r := h2
      obtain ⟨e', tm', h', h4, hrel'⟩ := hc nt y hd'.2 h3
      exact ⟨e', tm', h', h4, (hrel.seq hrel').step (fun b a k cs w => step_seq)⟩
    | exit id => exact ⟨.exit id, tm1, h1, h2, (hrel.past (i := .code y) rfl (by simp)).step (fun b a k cs w => step_seq)⟩
    | goto l => exact ⟨.goto l, tm1, h1, h2, (hrel.past (i := .code y) rfl (by simp)).step (fun b a k cs w => step_seq)⟩
    | ret => exact ⟨.ret, tm1, h1, h2, (hrel.past (i := .code y) rfl (by simp)).step (fun b a k cs w => step_seq)⟩
  | cond x y z =>
    have hd' : dstsOk nt y = true ∧ dstsOk nt z = true := by simpa [dstsOk] using hd
    have hcode : codeOf P (.cond x y z) = match opd x with | some c => .cond c (codeOf P y) (codeOf P z) | none => .bad := rfl
    rw [hcode] at hh
    cases hx : opd x with
    | none => rw [hx] at hh; exact none_some hh
    | some ax =>
      rw [hx] at hh
      have hh' : (onBool (ax tm) fun t => Bool.rec (motive := fun _ => R) (runK prog sums n (codeOf P z) tm h k) (runK prog sums n (codeOf P y) tm h k) t) = some r := hh
      obtain ⟨t, ht, h1⟩ := onBool_some hh'
      have hev : ∀ {ρ : Emb} {a : Act} {w : World}, St ρ nt tm h a w → a.eval x = .bool t := fun hst => by
        have := EvR.of_tmps hst.tmps #[x] x (by simp) ax hx
        rw [ht] at this; exact this.bool
      cases t with
      | true =>
        obtain ⟨e, tm', h', h2, hrel⟩ := hc nt y hd'.1 h1
        exact ⟨e, tm', h', h2, .of_wp fun ρ a w hst => wp_cond_true (hev hst) (hrel.wp hst)⟩
      | false =>
        obtain ⟨e, tm', h', h2, hrel⟩ := hc nt z hd'.2 h1
        exact ⟨e, tm', h', h2, .of_wp fun ρ a w hst => wp_cond_false (hev hst) (hrel.wp hst)⟩
  | block id x =>
    have hd' : dstsOk nt x = true := hd
    have hh' : runK prog sums n (codeOf P x) tm h (blockK id k) = some r := hh
    obtain ⟨e, tm', h', h2, hrel⟩ := hc nt x hd' hh'
    have key : ∃ e', k e' tm' h' = some r ∧ ∀ ρ w a w', After nt ρ h w e tm' h' e.to a w' → Exit.inBlock id (After nt ρ h w e' tm' h') e.to a w' := by
      cases e with
      | normal => exact ⟨.normal, h2, fun ρ w a w' q => q⟩
      | goto l => exact ⟨.goto l, h2, fun ρ w a w' q => q⟩
      | ret => exact ⟨.ret, h2, fun ρ w a w' q => q⟩
      | exit id' =>
        have h3 : Bool.rec (motive := fun _ => Tm → AH → R) (k (.exit id')) (k .normal) (Nat.beq id' id) tm' h' = some r := h2
        by_cases hid : id' = id
        · subst hid
          rw [show Nat.beq id' id' = true by rw [Nat.beq_eq]] at h3
          refine ⟨.normal, h3, fun ρ w a w' q => ?_⟩
          show if id' = id' then _ else _
          rw [if_pos rfl]; exact ⟨rfl, q.2⟩
        · rw [show Nat.beq id' id = false by rw [← Bool.not_eq_true, Nat.beq_eq]; exact hid] at h3
          refine ⟨.exit id', h3, fun ρ w a w' q => ?_⟩
          show if id' = id then _ else _
          rw [if_neg hid]; exact q
    obtain ⟨e', h3, h4⟩ := key
    exact ⟨e', tm', h', h3, .of_wp fun ρ a w hst => wp_block (wp_mono (hrel.wp hst) fun e2 a' w' q => by obtain ⟨rfl, q1⟩ := q; exact h4 ρ w a' w' ⟨rfl, q1⟩)⟩
  | loop x =>
    obtain ⟨e, tm', h', h1, h2⟩ := loop_ok hc hl nt x hd hh
    exact ⟨e, tm', h', h1, h2.step (fun b a k cs w => step_loop)⟩
  | scope x =>
    have hh' : runK prog sums n (codeOf P x) tm h (scopeK (runK prog sums n) (codeOf P x) k) = some r := hh
    obtain ⟨e, tm', h', h1, h2⟩ := inScope_ok (c := x) (rest := x) hc hs hd hd hh'
    exact ⟨e, tm', h', h1, h2.step (fun b a k cs w => step_scope)⟩
  | _ => exact none_some hh

theorem run_ok (hE : ExtOk P) (hD : DrawOk P) (hp : ProgOk P prog) (hsum : SumsOk P sums) : ∀ n, CodeOk P (runK prog sums n) ∧ LoopOk P (runK prog sums n) ∧ ScopeOk P (runK prog sums n)
  | 0 => ⟨fun _ _ _ _ _ _ _ hh => none_some hh, fun _ _ _ _ _ _ _ hh => none_some hh, fun _ _ _ _ _ _ _ _ _ hh => none_some hh⟩
  | n + 1 => by
    obtain ⟨h1, h2, h3⟩ := run_ok hE hD hp hsum n
    refine ⟨code_ok hE hD (callK_ok hp hsum h1) h1 h2 h3, loop_ok h1 h2, fun nt c rest hd hd' tm h k r hh => ?_⟩
    have hh' : runK prog sums n (codeOf P rest) tm h (scopeK (runK prog sums n) (codeOf P c) k) = some r := hh
    exact inScope_ok h1 h3 hd hd' hh'

/-- a call that comes to an end in the abstract machine comes to its like in the model -/
theorem call_ok (hE : ExtOk P) (hD : DrawOk P) (hp : ProgOk P prog) (hsum : SumsOk P sums) {n f : Nat} {args : List AV} {h : AH} {v : AV} {h' : AH} (hh : callOf prog sums n f args h = some (v, h')) : CallRel P f args h v h' := by
  obtain ⟨v2, h2, h3, h4⟩ := callK_ok hp hsum (run_ok hE hD hp hsum n).1 f args h _ _ hh
  cases h3
  exact h4
end
end Go.Bb
