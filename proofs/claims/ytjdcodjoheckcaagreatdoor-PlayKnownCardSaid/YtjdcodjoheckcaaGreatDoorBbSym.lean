/-
  Runs of the abstract machine over values that are not known: what code comes to, as a relation; one lemma for each kind of operation.
-/
import Derived.Test.YtjdcodjoheckcaaGreatDoorBbUse
namespace Go.Bb

structure Mach where
  prog : Nat → Option AFunc
  sums : SumT

noncomputable abbrev Mach.call (M : Mach) (n : Nat) : CallT := callK M.prog M.sums (runK M.prog M.sums n)

/-! ### Slots -/
/-- slots laid over others -/
def lay : List (Path × AV) → Tm → Tm
  | [], t => t
  | x :: l, t => T.put x.1 (lay l t) (some x.2)

def find (p : Path) : List (Path × AV) → Option AV
  | [] => none
  | x :: l => match samePath p x.1 with
    | true => some x.2
    | false => find p l

theorem samePath_iff : ∀ {p q : Path}, samePath p q = true ↔ p = q
  | .z, .z => by simp [samePath]
  | .a p, .a q => by simp [samePath, samePath_iff (p := p) (q := q)]
  | .b p, .b q => by simp [samePath, samePath_iff (p := p) (q := q)]
  | .z, .a _ => by simp [samePath]
  | .z, .b _ => by simp [samePath]
  | .a _, .z => by simp [samePath]
  | .b _, .z => by simp [samePath]
  | .a _, .b _ => by simp [samePath]
  | .b _, .a _ => by simp [samePath]

theorem get_lay {p : Path} {t : Tm} {v : AV} : ∀ {s : List (Path × AV)}, find p s = some v → T.get p (lay s t) = some v
  | [], h => by cases h
  | x :: l, h => by
    show T.get p (T.put x.1 (lay l t) (some x.2)) = some v
    unfold find at h
    cases hp : samePath p x.1 with
    | true =>
      rw [hp] at h
      obtain rfl := samePath_iff.1 hp
      rw [get_put_same]; exact h
    | false =>
      rw [hp] at h
      rw [get_put_other _ _ _ _ (fun e => by rw [samePath_iff.2 e] at hp; cases hp)]
      exact get_lay h

theorem gs_lay {p : Path} {t : Tm} {v : AV} {s : List (Path × AV)} (h : find p s = some v) : gs p (lay s t) = v := by
  unfold gs; rw [get_lay h]; rfl

theorem put_same {α : Type} : ∀ {p : Path} {t : T α} {v : α}, T.get p t = some v → T.put p t (some v) = t
  | .z, .l, v, h => by cases h
  | .z, .n u a b, v, h => by show T.n (some v) a b = T.n u a b; rw [show u = some v from h]
  | .a p, .l, v, h => by rw [show T.get (.a p) (.l : T α) = T.get p .l from rfl, get_leaf] at h; cases h
  | .a p, .n u a b, v, h => by show T.n u (T.put p a (some v)) b = _; rw [put_same (show T.get p a = some v from h)]
  | .b p, .l, v, h => by rw [show T.get (.b p) (.l : T α) = T.get p .l from rfl, get_leaf] at h; cases h
  | .b p, .n u a b, v, h => by show T.n u a (T.put p b (some v)) = _; rw [put_same (show T.get p b = some v from h)]

def Has (s : List (Path × AV)) : List (Path × AV) → Prop
  | [] => True
  | x :: m => find x.1 s = some x.2 ∧ Has s m

/-- what is there may be laid over it again -/
theorem relay {s : List (Path × AV)} {t : Tm} : ∀ {m : List (Path × AV)}, Has s m → lay s t = lay m (lay s t)
  | [], _ => rfl
  | x :: m, h => by
    show lay s t = T.put x.1 (lay m (lay s t)) (some x.2)
    rw [← relay (s := s) (t := t) h.2, put_same (get_lay h.1)]

/-! ### What a run comes to -/
section
variable (M : Mach)

def RunsTo (c : ACode) (tm : Tm) (h : AH) (e : AExit) (tm' : Tm) (h' : AH) : Prop := ∃ N, ∀ n, N ≤ n → ∀ k, runK M.prog M.sums n c tm h k = k e tm' h'
def WP (c : ACode) (tm : Tm) (h : AH) (Q : AExit → Tm → AH → Prop) : Prop := ∃ e tm' h', RunsTo M c tm h e tm' h' ∧ Q e tm' h'
def CallTo (f : Nat) (args : List AV) (h : AH) (v : AV) (h' : AH) : Prop := ∃ N, ∀ n, N ≤ n → ∀ k, M.call n f args h k = k v h'
def CW (f : Nat) (args : List AV) (h : AH) (Q : AV → AH → Prop) : Prop := ∃ v h', CallTo M f args h v h' ∧ Q v h'
def StepTo (s : AStep) (id : Option Nat) (tm : Tm) (h : AH) (tm' : Tm) (h' : AH) : Prop := ∃ N, ∀ n, N ≤ n → ∀ k, stepK s (M.call n) id tm h k = k tm' h'
def OpsTo (l : List AOper) (tm : Tm) (h : AH) (tm' : Tm) (h' : AH) : Prop := ∃ N, ∀ n, N ≤ n → ∀ k, opsK l (M.call n) tm h k = k tm' h'
def DrawTo (l : List DOper) (b : Nat) (tm : Tm) (h : AH) (hs : List AH) (tm' : Tm) (h' : AH) (hs' : List AH) : Prop := ∃ N, ∀ n, N ≤ n → ∀ k, drawK l (M.call n) b tm h hs k = k tm' h' hs'
end
variable {M : Mach}

theorem WP.mono {c : ACode} {tm : Tm} {h : AH} {Q Q' : AExit → Tm → AH → Prop} (hw : WP M c tm h Q) (hq : ∀ e tm' h', Q e tm' h' → Q' e tm' h') : WP M c tm h Q' := by
  obtain ⟨e, tm', h', h1, h2⟩ := hw; exact ⟨e, tm', h', h1, hq _ _ _ h2⟩
theorem CW.mono {f : Nat} {args : List AV} {h : AH} {Q Q' : AV → AH → Prop} (hw : CW M f args h Q) (hq : ∀ v h', Q v h' → Q' v h') : CW M f args h Q' := by
  obtain ⟨v, h', h1, h2⟩ := hw; exact ⟨v, h', h1, hq _ _ h2⟩

theorem wp_skip {tm : Tm} {h : AH} {Q} (hq : Q .normal tm h) : WP M .skip tm h Q := ⟨_, _, _, ⟨1, fun n hn k => by obtain ⟨m, rfl⟩ : ∃ m, n = m + 1 := ⟨n - 1, by omega⟩; rfl⟩, hq⟩
theorem wp_ret {tm : Tm} {h : AH} {Q} (hq : Q .ret tm h) : WP M .ret tm h Q := ⟨_, _, _, ⟨1, fun n hn k => by obtain ⟨m, rfl⟩ : ∃ m, n = m + 1 := ⟨n - 1, by omega⟩; rfl⟩, hq⟩
theorem wp_exit {id : Nat} {tm : Tm} {h : AH} {Q} (hq : Q (.exit id) tm h) : WP M (.exit id) tm h Q := ⟨_, _, _, ⟨1, fun n hn k => by obtain ⟨m, rfl⟩ : ∃ m, n = m + 1 := ⟨n - 1, by omega⟩; rfl⟩, hq⟩
theorem wp_goto {id : Nat} {tm : Tm} {h : AH} {Q} (hq : Q (.goto id) tm h) : WP M (.goto id) tm h Q := ⟨_, _, _, ⟨1, fun n hn k => by obtain ⟨m, rfl⟩ : ∃ m, n = m + 1 := ⟨n - 1, by omega⟩; rfl⟩, hq⟩
theorem wp_label {id : Nat} {tm : Tm} {h : AH} {Q} (hq : Q .normal tm h) : WP M (.label id) tm h Q := ⟨_, _, _, ⟨1, fun n hn k => by obtain ⟨m, rfl⟩ : ∃ m, n = m + 1 := ⟨n - 1, by omega⟩; rfl⟩, hq⟩

/-- behind the first of two -/
def seqQ (M : Mach) (b : ACode) (Q : AExit → Tm → AH → Prop) : AExit → Tm → AH → Prop
  | .normal, tm, h => WP M b tm h Q
  | .exit id, tm, h => Q (.exit id) tm h
  | .goto l, tm, h => Q (.goto l) tm h
  | .ret, tm, h => Q .ret tm h

theorem seq_core {b : ACode} {e : AExit} {tm1 : Tm} {h1 : AH} {Q} (hq : seqQ M b Q e tm1 h1) :
    ∃ e' tm' h', Q e' tm' h' ∧ ∃ N, ∀ n, N ≤ n → ∀ k, seqK (runK M.prog M.sums n) b k e tm1 h1 = k e' tm' h' := by
  cases e with
  | normal => obtain ⟨e', tm', h', ⟨N, hN⟩, h2⟩ := hq; exact ⟨e', tm', h', h2, N, fun n hn k => hN n hn k⟩
  | exit id => exact ⟨_, _, _, hq, 0, fun n hn k => rfl⟩
  | goto id => exact ⟨_, _, _, hq, 0, fun n hn k => rfl⟩
  | ret => exact ⟨_, _, _, hq, 0, fun n hn k => rfl⟩

theorem wp_seq {a b : ACode} {tm : Tm} {h : AH} {Q} (hw : WP M a tm h (seqQ M b Q)) : WP M (.seq a b) tm h Q := by
  obtain ⟨e, tm1, h1, ⟨N1, hN1⟩, hq⟩ := hw
  obtain ⟨e', tm', h', hq', N2, hN2⟩ := seq_core hq
  refine ⟨e', tm', h', ⟨N1 + N2 + 1, fun n hn k => ?_⟩, hq'⟩
  obtain ⟨m, rfl⟩ : ∃ m, n = m + 1 := ⟨n - 1, by omega⟩
  show runK M.prog M.sums m a tm h (seqK (runK M.prog M.sums m) b k) = _
  rw [hN1 m (by omega), hN2 m (by omega)]

theorem wp_loop {b : ACode} {tm : Tm} {h : AH} {Q} (hw : WP M b tm h (seqQ M (.loop b) Q)) : WP M (.loop b) tm h Q := by
  obtain ⟨e, tm1, h1, ⟨N1, hN1⟩, hq⟩ := hw
  obtain ⟨e', tm', h', hq', N2, hN2⟩ := seq_core hq
  refine ⟨e', tm', h', ⟨N1 + N2 + 1, fun n hn k => ?_⟩, hq'⟩
  obtain ⟨m, rfl⟩ : ∃ m, n = m + 1 := ⟨n - 1, by omega⟩
  show runK M.prog M.sums m b tm h (seqK (runK M.prog M.sums m) (.loop b) k) = _
  rw [hN1 m (by omega), hN2 m (by omega)]

/-- behind a turn of a loop -/
def turnQ (I : Tm → AH → Prop) (Q : AExit → Tm → AH → Prop) : AExit → Tm → AH → Prop
  | .normal, tm, h => I tm h
  | .exit id, tm, h => Q (.exit id) tm h
  | .goto l, tm, h => Q (.goto l) tm h
  | .ret, tm, h => Q .ret tm h

theorem wp_while {b : ACode} {Q} (I : Nat → Tm → AH → Prop) (hI : ∀ i tm h, I i tm h → WP M b tm h (turnQ (fun tm' h' => ∃ j, j < i ∧ I j tm' h') Q)) {i : Nat} {tm : Tm} {h : AH} (h0 : I i tm h) : WP M (.loop b) tm h Q := by
  induction i using Nat.strongRecOn generalizing tm h with
  | _ i ih =>
    refine wp_loop ((hI i tm h h0).mono fun e tm' h' hq => ?_)
    cases e with
    | normal => obtain ⟨j, hj, hi⟩ := hq; exact ih j hj hi
    | exit id => exact hq
    | goto id => exact hq
    | ret => exact hq

def blockQ (id : Nat) (Q : AExit → Tm → AH → Prop) : AExit → Tm → AH → Prop
  | .normal, tm, h => Q .normal tm h
  | .exit id', tm, h => match Nat.beq id' id with
    | true => Q .normal tm h
    | false => Q (.exit id') tm h
  | .goto l, tm, h => Q (.goto l) tm h
  | .ret, tm, h => Q .ret tm h

theorem wp_block {id : Nat} {b : ACode} {tm : Tm} {h : AH} {Q} (hw : WP M b tm h (blockQ id Q)) : WP M (.block id b) tm h Q := by
  obtain ⟨e, tm1, h1, ⟨N1, hN1⟩, hq⟩ := hw
  have go : ∃ e', Q e' tm1 h1 ∧ ∀ k, blockK id k e tm1 h1 = k e' tm1 h1 := by
    cases e with
    | normal => exact ⟨_, hq, fun k => rfl⟩
    | exit id' =>
      cases hb : Nat.beq id' id with
      | true =>
        have : blockQ id Q (.exit id') tm1 h1 = Q .normal tm1 h1 := by simp only [blockQ, hb]
        rw [this] at hq
        exact ⟨_, hq, fun k => by show (Bool.rec (motive := fun _ => Tm → AH → R) (k (.exit id')) (k .normal) (Nat.beq id' id)) tm1 h1 = _; rw [hb]⟩
      | false =>
        have : blockQ id Q (.exit id') tm1 h1 = Q (.exit id') tm1 h1 := by simp only [blockQ, hb]
        rw [this] at hq
        exact ⟨_, hq, fun k => by show (Bool.rec (motive := fun _ => Tm → AH → R) (k (.exit id')) (k .normal) (Nat.beq id' id)) tm1 h1 = _; rw [hb]⟩
    | goto id => exact ⟨_, hq, fun k => rfl⟩
    | ret => exact ⟨_, hq, fun k => rfl⟩
  obtain ⟨e', hq', hk⟩ := go
  refine ⟨e', tm1, h1, ⟨N1 + 1, fun n hn k => ?_⟩, hq'⟩
  obtain ⟨m, rfl⟩ : ∃ m, n = m + 1 := ⟨n - 1, by omega⟩
  show runK M.prog M.sums m b tm h (blockK id k) = _
  rw [hN1 m (by omega), hk]

theorem wp_if {c : Opd} {a b : ACode} {tm : Tm} {h : AH} {t : Bool} {Q} (hc : c tm = .s (.bool t)) (ht : t = true → WP M a tm h Q) (hf : t = false → WP M b tm h Q) : WP M (.cond c a b) tm h Q := by
  cases t with
  | true =>
    obtain ⟨e, tm1, h1, ⟨N1, hN1⟩, hq⟩ := ht rfl
    refine ⟨e, tm1, h1, ⟨N1 + 1, fun n hn k => ?_⟩, hq⟩
    obtain ⟨m, rfl⟩ : ∃ m, n = m + 1 := ⟨n - 1, by omega⟩
    show onBool (c tm) _ = _
    rw [hc]; exact hN1 m (by omega) k
  | false =>
    obtain ⟨e, tm1, h1, ⟨N1, hN1⟩, hq⟩ := hf rfl
    refine ⟨e, tm1, h1, ⟨N1 + 1, fun n hn k => ?_⟩, hq⟩
    obtain ⟨m, rfl⟩ : ∃ m, n = m + 1 := ⟨n - 1, by omega⟩
    show onBool (c tm) _ = _
    rw [hc]; exact hN1 m (by omega) k
theorem wp_if_t {c : Opd} {a b : ACode} {tm : Tm} {h : AH} {t : Bool} {Q} (hc : c tm = .s (.bool t)) (ht : t = true) (hw : WP M a tm h Q) : WP M (.cond c a b) tm h Q := wp_if hc (fun _ => hw) (fun hf => by rw [ht] at hf; cases hf)
theorem wp_if_f {c : Opd} {a b : ACode} {tm : Tm} {h : AH} {t : Bool} {Q} (hc : c tm = .s (.bool t)) (ht : t = false) (hw : WP M b tm h Q) : WP M (.cond c a b) tm h Q := wp_if hc (fun hf => by rw [ht] at hf; cases hf) (fun _ => hw)

def scopeQ (M : Mach) (b : ACode) (Q : AExit → Tm → AH → Prop) : AExit → Tm → AH → Prop
  | .normal, tm, h => Q .normal tm h
  | .exit id, tm, h => Q (.exit id) tm h
  | .goto l, tm, h => match findL b l with
    | none => Q (.goto l) tm h
    | some rest => WP M (.scopeIn b rest) tm h Q
  | .ret, tm, h => Q .ret tm h

theorem scope_core {b : ACode} {e : AExit} {tm1 : Tm} {h1 : AH} {Q} (hq : scopeQ M b Q e tm1 h1) :
    ∃ e' tm' h', Q e' tm' h' ∧ ∃ N, ∀ n, N ≤ n → ∀ k, scopeK (runK M.prog M.sums n) b k e tm1 h1 = k e' tm' h' := by
  cases e with
  | normal => exact ⟨_, _, _, hq, 0, fun n hn k => rfl⟩
  | exit id => exact ⟨_, _, _, hq, 0, fun n hn k => rfl⟩
  | goto l =>
    have e0 : ∀ n k, scopeK (runK M.prog M.sums n) b k (.goto l) tm1 h1 = (Option.rec (motive := fun _ => Tm → AH → R) (k (.goto l)) (fun rest tm h => runK M.prog M.sums n (.scopeIn b rest) tm h k) (findL b l)) tm1 h1 := fun n k => rfl
    cases hf : findL b l with
    | none =>
      have : scopeQ M b Q (.goto l) tm1 h1 = Q (.goto l) tm1 h1 := by simp only [scopeQ, hf]
      rw [this] at hq
      exact ⟨_, _, _, hq, 0, fun n hn k => by rw [e0, hf]⟩
    | some rest =>
      have : scopeQ M b Q (.goto l) tm1 h1 = WP M (.scopeIn b rest) tm1 h1 Q := by simp only [scopeQ, hf]
      rw [this] at hq
      obtain ⟨e', tm', h', ⟨N, hN⟩, h2⟩ := hq
      exact ⟨e', tm', h', h2, N, fun n hn k => by rw [e0, hf]; exact hN n hn k⟩
  | ret => exact ⟨_, _, _, hq, 0, fun n hn k => rfl⟩

theorem wp_scope {b : ACode} {tm : Tm} {h : AH} {Q} (hw : WP M b tm h (scopeQ M b Q)) : WP M (.scope b) tm h Q := by
  obtain ⟨e, tm1, h1, ⟨N1, hN1⟩, hq⟩ := hw
  obtain ⟨e', tm', h', hq', N2, hN2⟩ := scope_core hq
  refine ⟨e', tm', h', ⟨N1 + N2 + 1, fun n hn k => ?_⟩, hq'⟩
  obtain ⟨m, rfl⟩ : ∃ m, n = m + 1 := ⟨n - 1, by omega⟩
  show runK M.prog M.sums m b tm h (scopeK (runK M.prog M.sums m) b k) = _
  rw [hN1 m (by omega), hN2 m (by omega)]
theorem wp_scopeIn {b rest : ACode} {tm : Tm} {h : AH} {Q} (hw : WP M rest tm h (scopeQ M b Q)) : WP M (.scopeIn b rest) tm h Q := by
  obtain ⟨e, tm1, h1, ⟨N1, hN1⟩, hq⟩ := hw
  obtain ⟨e', tm', h', hq', N2, hN2⟩ := scope_core hq
  refine ⟨e', tm', h', ⟨N1 + N2 + 1, fun n hn k => ?_⟩, hq'⟩
  obtain ⟨m, rfl⟩ : ∃ m, n = m + 1 := ⟨n - 1, by omega⟩
  show runK M.prog M.sums m rest tm h (scopeK (runK M.prog M.sums m) b k) = _
  rw [hN1 m (by omega), hN2 m (by omega)]

/-! ### Operations in a row -/
theorem wp_ops {l : List AOper} {tm : Tm} {h : AH} {tm' : Tm} {h' : AH} {Q} (ho : OpsTo M l tm h tm' h') (hq : Q .normal tm' h') : WP M (.ops l) tm h Q := by
  obtain ⟨N, hN⟩ := ho
  refine ⟨_, _, _, ⟨N + 1, fun n hn k => ?_⟩, hq⟩
  obtain ⟨m, rfl⟩ : ∃ m, n = m + 1 := ⟨n - 1, by omega⟩
  exact hN m (by omega) (k .normal)
theorem wp_ops_inv {l : List AOper} {tm : Tm} {h : AH} {Q} (hw : WP M (.ops l) tm h Q) : ∃ tm' h', OpsTo M l tm h tm' h' ∧ Q .normal tm' h' := by
  obtain ⟨e, tm', h', ⟨N, hN⟩, hq⟩ := hw
  -- what an exit is, a continuation tells
  have key : ∀ n, N ≤ n + 1 → ∀ k : KT, opsK l (M.call n) tm h (k .normal) = k e tm' h' := fun n hn k => hN (n + 1) hn k
  have he : e = .normal := by
    cases e with
    | normal => rfl
    | _ =>
      exfalso
      have h1 := key N (by omega) fun e _ _ => match e with | .normal => none | _ => some (undefA, ⟨.l, 0⟩)
      have h2 := key N (by omega) fun e _ _ => match e with | .normal => none | _ => some (.s .pnil, ⟨.l, 0⟩)
      simp only [] at h1 h2
      rw [h1] at h2
      cases h2
  subst he
  exact ⟨tm', h', ⟨N, fun n hn k => key n (by omega) (fun _ => k)⟩, hq⟩

theorem wp_nil {tm : Tm} {h : AH} {Q} (hq : Q .normal tm h) : WP M (.ops []) tm h Q := wp_ops ⟨0, fun _ _ _ => rfl⟩ hq

theorem wp_step {s : AStep} {l : List AOper} {tm tm1 : Tm} {h h1 : AH} {Q} (hs : StepTo M s none tm h tm1 h1) (hw : WP M (.ops l) tm1 h1 Q) : WP M (.ops (⟨none, s⟩ :: l)) tm h Q := by
  obtain ⟨tm', h', ⟨N2, hN2⟩, hq⟩ := wp_ops_inv hw
  obtain ⟨N1, hN1⟩ := hs
  refine wp_ops ⟨N1 + N2, fun n hn k => ?_⟩ hq
  show stepK s (M.call n) none tm h (fun tm h => opsK l (M.call n) tm h k) = _
  rw [hN1 n (by omega), hN2 n (by omega)]

theorem guardK_eq (p : Path) (w b : Bool) (tm : Tm) (yes no : R) (hb : gs p tm = .s (.bool b)) : guardK (some (p, w)) tm yes no = if b = w then yes else no := by
  show AV.rec (motive := fun _ => R) _ (fun _ => no) (fun _ => no) (gs p tm) = _
  rw [hb]
  show iteR (xorB b w) no yes = _
  cases b <;> cases w <;> rfl

theorem wp_yes {p : Path} {w b : Bool} {s : AStep} {l : List AOper} {tm tm1 : Tm} {h h1 : AH} {Q} (hb : gs p tm = .s (.bool b)) (he : b = w) (hs : StepTo M s none tm h tm1 h1) (hw : WP M (.ops l) tm1 h1 Q) : WP M (.ops (⟨some (p, w), s⟩ :: l)) tm h Q := by
  obtain ⟨tm', h', ⟨N2, hN2⟩, hq⟩ := wp_ops_inv hw
  obtain ⟨N1, hN1⟩ := hs
  refine wp_ops ⟨N1 + N2, fun n hn k => ?_⟩ hq
  show guardK (some (p, w)) tm (stepK s (M.call n) none tm h (fun tm h => opsK l (M.call n) tm h k)) _ = _
  rw [guardK_eq p w b tm _ _ hb, if_pos he, hN1 n (by omega), hN2 n (by omega)]

theorem wp_no {p : Path} {w b : Bool} {s : AStep} {d : Path} {l : List AOper} {r : List (Path × AV)} {t : Tm} {h : AH} {Q} (hb : gs p (lay r t) = .s (.bool b)) (he : b ≠ w) (hd : s.dst = some d) (hw : WP M (.ops l) (lay ((d, undefA) :: r) t) h Q) : WP M (.ops (⟨some (p, w), s⟩ :: l)) (lay r t) h Q := by
  obtain ⟨tm', h', ⟨N2, hN2⟩, hq⟩ := wp_ops_inv hw
  refine wp_ops ⟨N2, fun n hn k => ?_⟩ hq
  show guardK (some (p, w)) (lay r t) _ (putK s.dst undefA (lay r t) fun tm => opsK l (M.call n) tm h k) = _
  rw [guardK_eq p w b (lay r t) _ _ hb, if_neg he, putK_eq, hd]
  exact hN2 n hn k

/-! ### A region that draws its order -/
def Chk (tm : Tm) (hs : List AH) : List DOper → Prop
  | [] => True
  | x :: l => (match x.oper.step with
      | .read d o => x.mark.lo = x.mark.hi ∨ (∃ p w b, x.oper.guard = some (p, w) ∧ gs p tm = .s (.bool b) ∧ b ≠ w) ∨
          ((x.oper.guard = none ∨ ∃ p w, x.oper.guard = some (p, w) ∧ gs p tm = .s (.bool w)) ∧ ∀ h ∈ (hs.drop x.mark.lo).take (Nat.succ (Nat.sub x.mark.hi x.mark.lo)), ∃ u, (∀ ret, o tm h ret = ret u) ∧ sameV u (gs d tm) = true)
      | _ => True) ∧ Chk tm hs l

theorem eachK_of {o : ROp} {tm : Tm} {v : AV} {k : R} : ∀ {hs : List AH}, (∀ h ∈ hs, ∃ u, (∀ ret, o tm h ret = ret u) ∧ sameV u v = true) → eachK o tm v hs k = k
  | [], _ => rfl
  | h :: hs, hh => by
    obtain ⟨u, h1, h2⟩ := hh h (by simp)
    show o tm h (fun u => iteR (sameV u v) (eachK o tm v hs k) none) = k
    rw [h1, h2]
    exact eachK_of fun h' hm => hh h' (by simp [hm])

theorem checkK_of {tm : Tm} {hs : List AH} {k : R} : ∀ {l : List DOper}, Chk tm hs l → checkK tm hs l k = k
  | [], _ => rfl
  | ⟨pl, mk, g, s⟩ :: l, h => by
    obtain ⟨h1, h2⟩ := h
    have ih := checkK_of (k := k) h2
    cases s with
    | read d o =>
      show iteR (Nat.beq mk.lo mk.hi) (checkK tm hs l k) (guardK g tm (eachK o tm (gs d tm) ((hs.drop mk.lo).take (Nat.succ (Nat.sub mk.hi mk.lo))) (checkK tm hs l k)) (checkK tm hs l k)) = k
      rw [ih]
      simp only [] at h1
      rcases h1 with h1 | ⟨p, w, b, e1, e2, e3⟩ | ⟨hg, h1⟩
      · rw [show Nat.beq mk.lo mk.hi = true from by rw [Nat.beq_eq]; exact h1]; rfl
      · rw [e1, guardK_eq p w b tm _ _ e2, if_neg e3]; cases Nat.beq mk.lo mk.hi <;> rfl
      · rw [eachK_of h1]
        have : guardK g tm k k = k := by
          rcases hg with e | ⟨p, w, e, e2⟩
          · rw [e]; rfl
          · rw [e, guardK_eq p w w tm _ _ e2, if_pos rfl]
        rw [this]; cases Nat.beq mk.lo mk.hi <;> rfl
    | _ => exact ih

theorem Chk.none {tm : Tm} {hs : List AH} : ∀ {l : List DOper}, (l.all fun x => match x.oper.step with | .read _ _ => Nat.beq x.mark.lo x.mark.hi | _ => true) = true → Chk tm hs l
  | [], _ => trivial
  | ⟨pl, mk, g, s⟩ :: l, h => by
    rw [List.all_cons, Bool.and_eq_true] at h
    refine ⟨?_, Chk.none h.2⟩
    cases s with
    | read d o => exact .inl (by have := h.1; simp only [] at this; rw [Nat.beq_eq] at this; exact this)
    | _ => trivial

/-- the rest of a region that draws its order -/
def DWP (M : Mach) (l : List DOper) (b : Nat) (tm : Tm) (h : AH) (hs : List AH) (Q : Tm → AH → List AH → Prop) : Prop := ∃ tm' h' hs', DrawTo M l b tm h hs tm' h' hs' ∧ Q tm' h' hs'

theorem wp_draw {m : Nat} {l : List DOper} {tm : Tm} {h : AH} {Q} (hw : DWP M l h.next tm ⟨h.g, h.next + m⟩ [⟨h.g, h.next + m⟩] fun tm' h' hs' => Chk tm' hs'.reverse l ∧ Q .normal tm' h') : WP M (.draw m l) tm h Q := by
  obtain ⟨tm', h', hs', ⟨N, hN⟩, hc, hq⟩ := hw
  refine ⟨_, _, _, ⟨N + 1, fun n hn k => ?_⟩, hq⟩
  obtain ⟨n, rfl⟩ : ∃ m, n = m + 1 := ⟨n - 1, by omega⟩
  show onH h (fun g b => forceN (Nat.add b m) fun nx => drawK l (callK M.prog M.sums (runK M.prog M.sums n)) b tm ⟨g, nx⟩ [⟨g, nx⟩] fun tm h' hs => checkK tm hs.reverse l (k .normal tm h')) = _
  rw [onH_eq, forceN_eq]
  exact (hN n (by omega) _).trans (checkK_of hc)

theorem dwp_nil {b : Nat} {tm : Tm} {h : AH} {hs : List AH} {Q} (hq : Q tm h hs) : DWP M [] b tm h hs Q := ⟨_, _, _, ⟨0, fun _ _ _ => rfl⟩, hq⟩
theorem dwp_step {pl : Nat} {mk : Mark} {s : AStep} {l : List DOper} {b : Nat} {tm tm1 : Tm} {h h1 : AH} {hs : List AH} {Q} (hs1 : StepTo M s (some (b + pl)) tm h tm1 h1)
    (hw : DWP M l b tm1 h1 (match s.writes with | true => h1 :: hs | false => hs) Q) : DWP M (⟨pl, mk, ⟨none, s⟩⟩ :: l) b tm h hs Q := by
  obtain ⟨tm', h', hs', ⟨N2, hN2⟩, hq⟩ := hw
  obtain ⟨N1, hN1⟩ := hs1
  refine ⟨tm', h', hs', ⟨N1 + N2, fun n hn k => ?_⟩, hq⟩
  show forceN (Nat.add b pl) (fun i => stepK s (M.call n) (some i) tm h fun tm h' => iteR s.writes (drawK l (M.call n) b tm h' (h' :: hs) k) (drawK l (M.call n) b tm h' hs k)) = _
  rw [forceN_eq]
  show stepK s (M.call n) (some (b + pl)) tm h _ = _
  rw [hN1 n (by omega)]
  cases hw : s.writes with
  | true => rw [hw] at hN2; exact hN2 n (by omega) k
  | false => rw [hw] at hN2; exact hN2 n (by omega) k

/-! ### Calls -/
def ResTo (rs : List ARes) (tm : Tm) (h : AH) (v : AV) : Prop := ∀ k, resultK rs tm h k = k v h

def doneQ (rs : List ARes) (Q : AV → AH → Prop) : AExit → Tm → AH → Prop
  | .normal, tm, h => ∃ v, ResTo rs tm h v ∧ Q v h
  | .ret, tm, h => ∃ v, ResTo rs tm h v ∧ Q v h
  | _, _, _ => False

theorem cw_enter {f nt : Nat} {body : ACode} {rs : List ARes} {args : List AV} {h : AH} {Q} (hs : M.sums f = none) (hp : M.prog f = some ⟨nt, body, rs⟩) (hw : WP M body (putAll args 0 .l) h (doneQ rs Q)) : CW M f args h Q := by
  obtain ⟨e, tm', h', ⟨N, hN⟩, hq⟩ := hw
  have go : ∃ v, Q v h' ∧ ∀ k, doneK rs k e tm' h' = k v h' := by
    cases e with
    | normal => obtain ⟨v, h1, h2⟩ := hq; exact ⟨v, h2, fun k => h1 k⟩
    | ret => obtain ⟨v, h1, h2⟩ := hq; exact ⟨v, h2, fun k => h1 k⟩
    | exit => exact hq.elim
    | goto => exact hq.elim
  obtain ⟨v, hv, hk⟩ := go
  refine ⟨v, h', ⟨N, fun n hn k => ?_⟩, hv⟩
  show Option.rec (motive := fun _ => R) _ _ (M.sums f) = _
  rw [hs]
  show Option.rec (motive := fun _ => R) none (fun fn => ofListV args 0 .l fun tm => runK M.prog M.sums n fn.body tm h (doneK fn.results k)) (M.prog f) = _
  rw [hp]
  show ofListV args 0 .l (fun tm => runK M.prog M.sums n body tm h (doneK rs k)) = _
  rw [ofListV_eq, hN n hn, hk]

theorem cw_sum {f : Nat} {s} {args : List AV} {h : AH} {v : AV} {h' : AH} {Q : AV → AH → Prop} (hs : M.sums f = some s) (hv : ∀ k, s args h k = k v h') (hq : Q v h') : CW M f args h Q := by
  refine ⟨v, h', ⟨0, fun n hn k => ?_⟩, hq⟩
  show Option.rec (motive := fun _ => R) _ _ (M.sums f) = _
  rw [hs]; exact hv k

theorem CW.run {f : Nat} {args : List AV} {h : AH} {Q : AV → AH → Prop} (hw : CW M f args h Q) : ∃ n v h', callOf M.prog M.sums n f args h = some (v, h') ∧ Q v h' := by
  obtain ⟨v, h', ⟨N, hN⟩, hq⟩ := hw
  exact ⟨N, v, h', hN N (Nat.le_refl _) _, hq⟩

theorem res_one {x : Opd} {tm : Tm} {h : AH} {v : AV} (hx : x tm = v) : ResTo [.tmp x] tm h v := fun k => by
  show lookK (x tm) (fun v => k v h) = _
  rw [lookK_eq, hx]
theorem res_none {tm : Tm} {h : AH} : ResTo [] tm h (.tup []) := fun _ => rfl

def AV.tv : AV → Option TV
  | .s v => some (.s v)
  | .agg l => some (.agg l)
  | .tup _ => none
def ResL (tm : Tm) (h : AH) : List ARes → List TV → Prop
  | [], l => l = []
  | r :: rs, l => ∃ v tv l', (∀ k, resK r tm h k = k v) ∧ v.tv = some tv ∧ ResL tm h rs l' ∧ l = tv :: l'
theorem resultsK_of {tm : Tm} {h : AH} : ∀ {rs : List ARes} {l : List TV}, ResL tm h rs l → ∀ k, resultsK rs tm h k = k l
  | [], l, e, k => by rw [show l = [] from e]; rfl
  | r :: rs, l, ⟨v, tv, l', h1, h2, h3, e⟩, k => by
    subst e
    show resK r tm h (fun v => toTV v fun v => resultsK rs tm h fun l => k (v :: l)) = _
    rw [h1]
    cases v with
    | s v => cases h2; exact resultsK_of h3 _
    | agg v => cases h2; exact resultsK_of h3 _
    | tup => cases h2
theorem res_tmp {x : Opd} {tm : Tm} {h : AH} {v : AV} (hx : x tm = v) : ∀ k, resK (.tmp x) tm h k = k v := fun k => by
  show lookK (x tm) k = _
  rw [lookK_eq, hx]
theorem res_two {r1 r2 : ARes} {rs : List ARes} {tm : Tm} {h : AH} {l : List TV} (hl : ResL tm h (r1 :: r2 :: rs) l) : ResTo (r1 :: r2 :: rs) tm h (.tup l) := fun k => resultsK_of hl fun vs => k (.tup vs) h

/-! ### Operations, one kind after the other -/
def PEv (o : POp) (tm : Tm) (v : AV) : Prop := ∀ ret, o tm ret = ret v
def REv (o : ROp) (tm : Tm) (h : AH) (v : AV) : Prop := ∀ ret, o tm h ret = ret v
def LEv (o : LOp) (tm : Tm) (p : Path) (ob : AO) (v : AV) : Prop := ∀ ret, o tm p ret = ret ob v
def EEv (o : EOp) (tm : Tm) (h : AH) (v : AV) (h' : AH) : Prop := ∀ ret, o tm h ret = ret v h'

/-- the heap with a new object -/
noncomputable def AH.new (h : AH) (o : AO) : AH := ⟨h.g.put (tp h.next) (some o), h.next + 1⟩
noncomputable def AH.set (h : AH) (i : Nat) (o : Option AO) : AH := ⟨h.g.put (tp i) o, h.next⟩
noncomputable def AH.obj (h : AH) (i : Nat) : Option AO := T.get (tp i) h.g
theorem obj_new (h : AH) (o : AO) (i : Nat) : (h.new o).obj i = if i = h.next then some o else h.obj i := by
  unfold AH.new AH.obj
  by_cases e : i = h.next
  · rw [if_pos e, e, get_put_same]
  · rw [if_neg e, get_put_other _ _ _ _ fun e' => e (tp_inj e')]
theorem obj_set (h : AH) (o : Option AO) (i j : Nat) : (h.set j o).obj i = if i = j then o else h.obj i := by
  unfold AH.set AH.obj
  by_cases e : i = j
  · rw [if_pos e, e, get_put_same]
  · rw [if_neg e, get_put_other _ _ _ _ fun e' => e (tp_inj e')]
theorem next_new (h : AH) (o : AO) : (h.new o).next = h.next + 1 := rfl
theorem next_set (h : AH) (o : Option AO) (j : Nat) : (h.set j o).next = h.next := rfl
theorem obj_new_self (h : AH) (o : AO) : (h.new o).obj h.next = some o := by rw [obj_new, if_pos rfl]
theorem obj_new_ne (h : AH) (o : AO) {i : Nat} (e : i ≠ h.next) : (h.new o).obj i = h.obj i := by rw [obj_new, if_neg e]
theorem obj_set_self (h : AH) (o : Option AO) (i : Nat) : (h.set i o).obj i = o := by rw [obj_set, if_pos rfl]
theorem obj_set_ne (h : AH) (o : Option AO) {i j : Nat} (e : i ≠ j) : (h.set j o).obj i = h.obj i := by rw [obj_set, if_neg e]

/-- the cells of a list -/
def mk (l : List SV) : AO := .cells (putAll l 0 .l) l.length

section
variable {s : List (Path × AV)} {t : Tm} {h h1 : AH} {d : Path} {v : AV} {id : Option Nat}
theorem st_pure {o : POp} (hv : PEv o (lay s t) v) : StepTo M (.pure d o) id (lay s t) h (lay ((d, v) :: s) t) h := ⟨0, fun n _ k => by
  show o (lay s t) (fun v => setV d (lay s t) v fun tm => k tm h) = _
  rw [hv, setV_eq]; rfl⟩
theorem st_read {o : ROp} (hv : REv o (lay s t) h v) : StepTo M (.read d o) id (lay s t) h (lay ((d, v) :: s) t) h := ⟨0, fun n _ k => by
  show o (lay s t) h (fun v => setV d (lay s t) v fun tm => k tm h) = _
  rw [hv, setV_eq]; rfl⟩
theorem st_alloc {o : LOp} {ob : AO} (hv : LEv o (lay s t) (tp h.next) ob v) : StepTo M (.alloc d o) none (lay s t) h (lay ((d, v) :: s) t) (h.new ob) := ⟨0, fun n _ k => by
  show onH h (fun g n => pathK n fun p => o (lay s t) p fun ob v => setO p g (some ob) fun g => forceN (Nat.succ n) fun nx => setV d (lay s t) v fun tm => k tm ⟨g, nx⟩) = _
  rw [onH_eq, pathK_eq, hv, setO_eq, forceN_eq, setV_eq]; rfl⟩
theorem st_alloc_at {o : LOp} {ob : AO} {i : Nat} (hv : LEv o (lay s t) (tp i) ob v) : StepTo M (.alloc d o) (some i) (lay s t) h (lay ((d, v) :: s) t) (h.set i (some ob)) := ⟨0, fun n _ k => by
  show onH h (fun g n => pathK i fun p => o (lay s t) p fun ob v => setO p g (some ob) fun g => setV d (lay s t) v fun tm => k tm ⟨g, n⟩) = _
  rw [onH_eq, pathK_eq, hv, setO_eq, setV_eq]; rfl⟩
theorem st_eff {o : EOp} (hv : EEv o (lay s t) h v h1) : StepTo M (.eff (some d) o) id (lay s t) h (lay ((d, v) :: s) t) h1 := ⟨0, fun n _ k => by
  show o (lay s t) h (fun v h => putK (some d) v (lay s t) fun tm => k tm h) = _
  rw [hv, putK_eq]; rfl⟩
theorem st_eff_none {o : EOp} (hv : EEv o (lay s t) h v h1) : StepTo M (.eff none o) id (lay s t) h (lay s t) h1 := ⟨0, fun n _ k => by
  show o (lay s t) h (fun v h => putK none v (lay s t) fun tm => k tm h) = _
  rw [hv, putK_eq]⟩

/-- the values of operands -/
def ArgsTo (tm : Tm) : List Opd → List AV → Prop
  | [], l => l = []
  | x :: xs, l => ∃ v l', x tm = v ∧ ArgsTo tm xs l' ∧ l = v :: l'
theorem argsK_of {tm : Tm} : ∀ {xs : List Opd} {l : List AV}, ArgsTo tm xs l → ∀ k, argsK xs tm k = k l
  | [], l, e, k => by rw [show l = [] from e]; rfl
  | x :: xs, l, ⟨v, l', h1, h2, e⟩, k => by
    subst e
    show lookK (x tm) (fun v => argsK xs tm fun r => k (v :: r)) = _
    rw [lookK_eq, h1, argsK_of h2]
theorem args0 {tm : Tm} : ArgsTo tm [] [] := rfl
theorem args1 {tm : Tm} {x : Opd} {xs : List Opd} {v : AV} {l : List AV} (h : x tm = v) (hl : ArgsTo tm xs l) : ArgsTo tm (x :: xs) (v :: l) := ⟨v, l, h, hl, rfl⟩

theorem wp_call {f : Nat} {xs : List Opd} {l : List AV} {r : List AOper} {Q} (ha : ArgsTo (lay s t) xs l) (hc : CW M f l h fun v h' => WP M (.ops r) (lay ((d, v) :: s) t) h' Q) : WP M (.ops (⟨none, .call (some d) f xs⟩ :: r)) (lay s t) h Q := by
  obtain ⟨v, h', ⟨N, hN⟩, hq⟩ := hc
  refine wp_step ⟨N, fun n hn k => ?_⟩ hq
  show argsK xs (lay s t) (fun vs => M.call n f vs h fun v h => putK (some d) v (lay s t) fun tm => k tm h) = _
  rw [argsK_of ha, hN n hn, putK_eq]; rfl
theorem wp_call_none {f : Nat} {xs : List Opd} {l : List AV} {r : List AOper} {Q} (ha : ArgsTo (lay s t) xs l) (hc : CW M f l h fun _ h' => WP M (.ops r) (lay s t) h' Q) : WP M (.ops (⟨none, .call none f xs⟩ :: r)) (lay s t) h Q := by
  obtain ⟨v, h', ⟨N, hN⟩, hq⟩ := hc
  refine wp_step ⟨N, fun n hn k => ?_⟩ hq
  show argsK xs (lay s t) (fun vs => M.call n f vs h fun v h => putK none v (lay s t) fun tm => k tm h) = _
  rw [argsK_of ha, hN n hn, putK_eq]
theorem wp_call_yes {p : Path} {w b : Bool} {f : Nat} {xs : List Opd} {l : List AV} {r : List AOper} {Q} (hb : gs p (lay s t) = .s (.bool b)) (he : b = w) (ha : ArgsTo (lay s t) xs l) (hc : CW M f l h fun v h' => WP M (.ops r) (lay ((d, v) :: s) t) h' Q) : WP M (.ops (⟨some (p, w), .call (some d) f xs⟩ :: r)) (lay s t) h Q := by
  obtain ⟨v, h', ⟨N, hN⟩, hq⟩ := hc
  refine wp_yes hb he ⟨N, fun n hn k => ?_⟩ hq
  show argsK xs (lay s t) (fun vs => M.call n f vs h fun v h => putK (some d) v (lay s t) fun tm => k tm h) = _
  rw [argsK_of ha, hN n hn, putK_eq]; rfl
theorem appV_caps (l : List AV) (c : List (Path × Nat)) : appV l (capArgs c) = l ++ c.map fun p => AV.s (.ptr p.1 p.2) := by
  rw [appV_eq]; congr 1
  induction c with
  | nil => rfl
  | cons x c ih => exact congrArg (AV.s (.ptr x.1 x.2) :: ·) ih
theorem wp_callv {x : Opd} {f : Nat} {caps : List (Path × Nat)} {xs : List Opd} {l : List AV} {r : List AOper} {Q} (hx : x (lay s t) = .s (.fn f caps)) (ha : ArgsTo (lay s t) xs l)
    (hc : CW M f (l ++ caps.map fun p => AV.s (.ptr p.1 p.2)) h fun v h' => WP M (.ops r) (lay ((d, v) :: s) t) h' Q) (hf : Nat.ble 1000000 f = false := by rfl) : WP M (.ops (⟨none, .callv (some d) x xs⟩ :: r)) (lay s t) h Q := by
  obtain ⟨v, h', ⟨N, hN⟩, hq⟩ := hc
  refine wp_step ⟨N, fun n hn k => ?_⟩ hq
  show onS (x (lay s t)) (fun v => fnS (fun g caps => argsK xs (lay s t) fun vs => iteR (Nat.ble 1000000 g)
    (forceN (Nat.sub g 1000000) fun g => M.call n g (appV (capArgs caps) vs) h fun v h => putK (some d) v (lay s t) fun tm => k tm h)
    (M.call n g (appV vs (capArgs caps)) h fun v h => putK (some d) v (lay s t) fun tm => k tm h)) v) = _
  rw [hx]
  show argsK xs (lay s t) (fun vs => iteR (Nat.ble 1000000 f)
    (forceN (Nat.sub f 1000000) fun g => M.call n g (appV (capArgs caps) vs) h fun v h => putK (some d) v (lay s t) fun tm => k tm h)
    (M.call n f (appV vs (capArgs caps)) h fun v h => putK (some d) v (lay s t) fun tm => k tm h)) = _
  rw [argsK_of ha, hf]
  show M.call n f (appV l (capArgs caps)) h (fun v h => putK (some d) v (lay s t) fun tm => k tm h) = _
  rw [appV_caps, hN n hn, putK_eq]; rfl
end

section
variable {x y c : Opd} {tm : Tm} {h : AH} {u w : AV} {k kd : IntKind} {a b : Int}
theorem sameK_refl (k : IntKind) : sameK k k = true := (sameK_eq k k).2 rfl
theorem int2_of {f : IntKind → Int → Int → R} : int2 (.s (.int k a)) (.s (.int k b)) f = f k a b := by
  show iteR (sameK k k) (f k a b) none = _
  rw [sameK_refl]; rfl
theorem e_move (hx : x tm = u) : PEv (vMove x) tm u := fun ret => by show lookK (x tm) ret = _; rw [lookK_eq, hx]
theorem e_pick {t : Bool} (hc : c tm = .s (.bool t)) (ht : t = true → x tm = u) (hf : t = false → y tm = u) : PEv (vPick c x y) tm u := fun ret => by
  show onBool (c tm) _ = _
  rw [hc]
  cases t with
  | true => show lookK (x tm) ret = _; rw [lookK_eq, ht rfl]
  | false => show lookK (y tm) ret = _; rw [lookK_eq, hf rfl]
theorem e_pick_t {t : Bool} (hc : c tm = .s (.bool t)) (e : t = true) (hx : x tm = u) : PEv (vPick c x y) tm u := e_pick hc (fun _ => hx) (fun f => by rw [e] at f; cases f)
theorem e_pick_f {t : Bool} (hc : c tm = .s (.bool t)) (e : t = false) (hx : y tm = u) : PEv (vPick c x y) tm u := e_pick hc (fun f => by rw [e] at f; cases f) (fun _ => hx)
/-- a && b -/
theorem e_and {t b : Bool} (hc : c tm = .s (.bool t)) (hx : t = true → x tm = .s (.bool b)) (hy : y tm = .s (.bool false)) : PEv (vPick c x y) tm (.s (.bool (t && b))) :=
  e_pick hc (fun e => by rw [hx e, e]; rfl) (fun e => by rw [hy, e]; rfl)
theorem e_or {t b : Bool} (hc : c tm = .s (.bool t)) (hx : x tm = .s (.bool true)) (hy : t = false → y tm = .s (.bool b)) : PEv (vPick c x y) tm (.s (.bool (t || b))) :=
  e_pick hc (fun e => by rw [hx, e]; rfl) (fun e => by rw [hy e, e]; rfl)
theorem e_add (hx : x tm = .s (.int k a)) (hy : y tm = .s (.int k b)) : PEv (vAdd x y) tm (.s (.int k (k.wrap (a + b)))) := fun ret => by
  show int2 (x tm) (y tm) _ = _; rw [hx, hy, int2_of, retI_eq, addI_eq]
theorem e_sub (hx : x tm = .s (.int k a)) (hy : y tm = .s (.int k b)) : PEv (vSub x y) tm (.s (.int k (k.wrap (a - b)))) := fun ret => by
  show int2 (x tm) (y tm) _ = _; rw [hx, hy, int2_of, retI_eq, subI_eq]
theorem e_mul (hx : x tm = .s (.int k a)) (hy : y tm = .s (.int k b)) : PEv (vMul x y) tm (.s (.int k (k.wrap (a * b)))) := fun ret => by
  show int2 (x tm) (y tm) _ = _; rw [hx, hy, int2_of, retI_eq, mulI_eq]
/-- what fits in 64 bits -/
abbrev In64 (z : Int) : Prop := -9223372036854775808 ≤ z ∧ z < 9223372036854775808
theorem wrap64 {z : Int} (h : In64 z) : IntKind.i64.wrap z = z := by
  obtain ⟨h1, h2⟩ := h
  simp only [IntKind.wrap, IntKind.signed, IntKind.bits]; simp; omega
theorem e_add64 {z : Int} (hx : x tm = .s (.int .i64 a)) (hy : y tm = .s (.int .i64 b)) (hz : a + b = z) (hr : In64 z) : PEv (vAdd x y) tm (.s (.int .i64 z)) := by
  have := e_add hx hy; rw [hz, wrap64 hr] at this; exact this
theorem e_sub64 {z : Int} (hx : x tm = .s (.int .i64 a)) (hy : y tm = .s (.int .i64 b)) (hz : a - b = z) (hr : In64 z) : PEv (vSub x y) tm (.s (.int .i64 z)) := by
  have := e_sub hx hy; rw [hz, wrap64 hr] at this; exact this
theorem e_mul64 {z : Int} (hx : x tm = .s (.int .i64 a)) (hy : y tm = .s (.int .i64 b)) (hz : a * b = z) (hr : In64 z) : PEv (vMul x y) tm (.s (.int .i64 z)) := by
  have := e_mul hx hy; rw [hz, wrap64 hr] at this; exact this
theorem e_quo (hx : x tm = .s (.int k a)) (hy : y tm = .s (.int k b)) (h0 : b ≠ 0) : PEv (vQuo x y) tm (.s (.int k (k.wrap (a.tdiv b)))) := fun ret => by
  show int2 (x tm) (y tm) _ = _
  rw [hx, hy, int2_of, eqI_eq, show (b == 0) = false from by simpa using h0, natDiv_quo, retI_eq]; rfl
theorem e_rem (hx : x tm = .s (.int k a)) (hy : y tm = .s (.int k b)) (h0 : b ≠ 0) : PEv (vRem x y) tm (.s (.int k (a.tmod b))) := fun ret => by
  show int2 (x tm) (y tm) _ = _
  rw [hx, hy, int2_of, eqI_eq, show (b == 0) = false from by simpa using h0, natDiv_rem, forceI_eq]; rfl
theorem e_remz {z : Int} (hx : x tm = .s (.int k a)) (hy : y tm = .s (.int k b)) (h0 : b ≠ 0) (hz : a.tmod b = z) : PEv (vRem x y) tm (.s (.int k z)) := hz ▸ e_rem hx hy h0
theorem e_quo64 {z : Int} (hx : x tm = .s (.int .i64 a)) (hy : y tm = .s (.int .i64 b)) (h0 : b ≠ 0) (hz : a.tdiv b = z) (hr : In64 z) : PEv (vQuo x y) tm (.s (.int .i64 z)) := by
  have := e_quo hx hy h0; rw [hz, wrap64 hr] at this; exact this
theorem e_eqI (hx : x tm = .s (.int k a)) (hy : y tm = .s (.int k b)) : PEv (vEqI x y) tm (.s (.bool (a == b))) := fun ret => by
  show int2 (x tm) (y tm) _ = _; rw [hx, hy, int2_of, retB_eq, eqI_eq]
theorem e_neI (hx : x tm = .s (.int k a)) (hy : y tm = .s (.int k b)) : PEv (vNeI x y) tm (.s (.bool (!(a == b)))) := fun ret => by
  show int2 (x tm) (y tm) _ = _; rw [hx, hy, int2_of, retB_eq, eqI_eq, notB_eq]
theorem e_lt (hx : x tm = .s (.int k a)) (hy : y tm = .s (.int k b)) : PEv (vLt x y) tm (.s (.bool (decide (a < b)))) := fun ret => by
  show int2 (x tm) (y tm) _ = _; rw [hx, hy, int2_of, retB_eq, ltI_eq]
theorem e_le (hx : x tm = .s (.int k a)) (hy : y tm = .s (.int k b)) : PEv (vLe x y) tm (.s (.bool (decide (a ≤ b)))) := fun ret => by
  show int2 (x tm) (y tm) _ = _; rw [hx, hy, int2_of, retB_eq, ltI_eq, notB_eq, not_lt_dec]
theorem e_gt (hx : x tm = .s (.int k a)) (hy : y tm = .s (.int k b)) : PEv (vGt x y) tm (.s (.bool (decide (b < a)))) := fun ret => by
  show int2 (x tm) (y tm) _ = _; rw [hx, hy, int2_of, retB_eq, ltI_eq]
theorem e_ge (hx : x tm = .s (.int k a)) (hy : y tm = .s (.int k b)) : PEv (vGe x y) tm (.s (.bool (decide (b ≤ a)))) := fun ret => by
  show int2 (x tm) (y tm) _ = _; rw [hx, hy, int2_of, retB_eq, ltI_eq, notB_eq, not_lt_dec]
theorem e_not {t : Bool} (hx : x tm = .s (.bool t)) : PEv (vNot x) tm (.s (.bool (!t))) := fun ret => by
  show onBool (x tm) _ = _; rw [hx]; show retB (notB t) ret = _; rw [retB_eq, notB_eq]
theorem e_negI (hx : x tm = .s (.int k a)) : PEv (vNegI x) tm (.s (.int k (k.wrap (0 - a)))) := fun ret => by
  show onInt (x tm) _ = _; rw [hx]; show retI k (subI 0 a) ret = _; rw [retI_eq, subI_eq]
theorem e_i2i (hx : x tm = .s (.int k a)) : PEv (vI2I kd x) tm (.s (.int kd (kd.wrap a))) := fun ret => by
  show onInt (x tm) _ = _; rw [hx]; show retI kd a ret = _; rw [retI_eq]
theorem e_i2iz {z : Int} (hx : x tm = .s (.int k a)) (hz : kd.wrap a = z) : PEv (vI2I kd x) tm (.s (.int kd z)) := hz ▸ e_i2i hx
theorem e_i2f (hx : x tm = .s (.int k a)) : PEv (vI2F x) tm (.s (.flt (FloatKind.f64.nearest a))) := fun ret => by
  show onInt (x tm) _ = _; rw [hx]; exact retF_eq _ _
theorem e_cpx {a b : Nat} (hx : x tm = .s (.flt a)) (hy : y tm = .s (.flt b)) : PEv (vCpx x y) tm (.s (.cpx a b)) := fun ret => by
  show onFlt (x tm) _ = _; rw [hx]; show onFlt (y tm) _ = _; rw [hy]; rfl
theorem e_re {a b : Nat} (hx : x tm = .s (.cpx a b)) : PEv (vRe x) tm (.s (.flt a)) := fun ret => by show onCpx (x tm) _ = _; rw [hx]; rfl
theorem e_im {a b : Nat} (hx : x tm = .s (.cpx a b)) : PEv (vIm x) tm (.s (.flt b)) := fun ret => by show onCpx (x tm) _ = _; rw [hx]; rfl
theorem e_negF {a : Nat} (hx : x tm = .s (.flt a)) : PEv (vNegF x) tm (.s (.flt (Op.negFloat .f64 a))) := fun ret => by show onFlt (x tm) _ = _; rw [hx]; exact retF_eq _ _
theorem e_arF {op : BinOp} {a b r : Nat} (hx : x tm = .s (.flt a)) (hy : y tm = .s (.flt b)) (hr : arithF op a b = some r) : PEv (vArF op x y) tm (.s (.flt r)) := fun ret => by
  show onFlt (x tm) _ = _; rw [hx]; show onFlt (y tm) _ = _; rw [hy]; show someN (arithF op a b) _ = _; rw [hr]; exact retF_eq _ _
theorem e_arC {op : BinOp} {a b c d r i : Nat} (hx : x tm = .s (.cpx a b)) (hy : y tm = .s (.cpx c d)) (hr : arithF op a c = some r) (hi : arithF op b d = some i) : PEv (vArC op x y) tm (.s (.cpx r i)) := fun ret => by
  show onCpx (x tm) _ = _; rw [hx]; show onCpx (y tm) _ = _; rw [hy]; show someN (arithF op a c) _ = _; rw [hr]; show someN (arithF op b d) _ = _; rw [hi]; exact retC_eq _ _ _
theorem e_mulC {a b c d p q r u v i : Nat} (hx : x tm = .s (.cpx a b)) (hy : y tm = .s (.cpx c d)) (h1 : arithF .mul a c = some p) (h2 : arithF .mul b d = some q) (h3 : arithF .sub p q = some r) (h4 : arithF .mul a d = some u) (h5 : arithF .mul b c = some v) (h6 : arithF .add u v = some i) : PEv (vMulC x y) tm (.s (.cpx r i)) := fun ret => by
  show onCpx (x tm) _ = _; rw [hx]; show onCpx (y tm) _ = _; rw [hy]; show someN (arithF .mul a c) _ = _; rw [h1]; show someN (arithF .mul b d) _ = _; rw [h2]; show someN (arithF .sub p q) _ = _; rw [h3]
  show someN (arithF .mul a d) _ = _; rw [h4]; show someN (arithF .mul b c) _ = _; rw [h5]; show someN (arithF .add u v) _ = _; rw [h6]; exact retC_eq _ _ _
theorem e_eqC {a b c d : Nat} (hx : x tm = .s (.cpx a b)) (hy : y tm = .s (.cpx c d)) : PEv (vEqC x y) tm (.s (.bool (cmpF .eql a c && cmpF .eql b d))) := fun ret => by
  show onCpx (x tm) _ = _; rw [hx]; show onCpx (y tm) _ = _; rw [hy]; show retB (andB (cmpF .eql a c) (cmpF .eql b d)) ret = _; rw [retB_eq, andB_eq]
theorem e_neC {a b c d : Nat} (hx : x tm = .s (.cpx a b)) (hy : y tm = .s (.cpx c d)) : PEv (vNeC x y) tm (.s (.bool (!(cmpF .eql a c && cmpF .eql b d)))) := fun ret => by
  show onCpx (x tm) _ = _; rw [hx]; show onCpx (y tm) _ = _; rw [hy]; show retB (notB (andB (cmpF .eql a c) (cmpF .eql b d))) ret = _; rw [retB_eq, notB_eq, andB_eq]
theorem e_len {id : Path} {off len : Nat} {cap : Option Nat} {z : Nat} (hx : x tm = .s (.sl id off len cap z)) : PEv (vLen x) tm (.s (.int .i64 (len : Nat))) := fun ret => by
  show onSl (x tm) _ _ = _; rw [hx]; rfl
theorem e_len_nil (hx : x tm = .s .snil) : PEv (vLen x) tm (.s (.int .i64 0)) := fun ret => by
  show onSl (x tm) _ _ = _; rw [hx]; rfl
theorem e_idxS {id : Path} {off len : Nat} {cap : Option Nat} {z esz n : Nat} (hx : x tm = .s (.sl id off len cap z)) (hy : y tm = .s (.int k (n : Nat))) (hn : n < len) : PEv (vIdxS esz x y) tm (.s (.ptr id (off + n * esz))) := fun ret => by
  show onSl (x tm) _ _ = _; rw [hx]; show onNat (y tm) _ = _; rw [hy]
  show iteR (Nat.ble (Nat.succ n) len) _ none = _
  rw [show Nat.ble (Nat.succ n) len = true from Nat.ble_eq_true_of_le hn]
  exact forceN_eq (off + n * esz) fun o => ret (.s (.ptr id o))
theorem e_idxA {id : Path} {off len esz n : Nat} (hx : x tm = .s (.ptr id off)) (hy : y tm = .s (.int k (n : Nat))) (hn : n < len) : PEv (vIdxA len esz x y) tm (.s (.ptr id (off + n * esz))) := fun ret => by
  show onPtr (x tm) _ = _; rw [hx]; show onNat (y tm) _ = _; rw [hy]
  show iteR (Nat.ble (Nat.succ n) len) _ none = _
  rw [show Nat.ble (Nat.succ n) len = true from Nat.ble_eq_true_of_le hn]
  exact forceN_eq (off + n * esz) fun o => ret (.s (.ptr id o))
theorem e_fld {id : Path} {off n : Nat} (hx : x tm = .s (.ptr id off)) : PEv (vFld n x) tm (.s (.ptr id (off + n))) := fun ret => by
  show onPtr (x tm) _ = _; rw [hx]; exact forceN_eq (off + n) fun o => ret (.s (.ptr id o))
theorem e_nil_ptr {id : Path} {off : Nat} (hx : x tm = .s (.ptr id off)) : PEv (vNil x) tm (.s (.ptr id off)) := fun ret => by
  show onS (x tm) _ = _; rw [hx]; rfl
def TV.av : TV → AV
  | .s a => .s a
  | .agg a => .agg a
theorem e_extract {l : List TV} {i : Nat} {v : TV} (hx : x tm = .tup l) (hi : l[i]? = some v) : PEv (vExtract x i) tm v.av := fun ret => by
  show onAV (x tm) _ _ _ = _; rw [hx]
  show Option.rec (motive := fun _ => R) none (fun v => tvK v ret) (nth l i) = _
  rw [nth_eq, hi]; cases v <;> rfl
theorem e_field1 {cs : List SV} {off : Nat} {sv : SV} (hx : x tm = .agg cs) (hi : cs[off]? = some sv) {size : Nat} : PEv (vField off size false x) tm (.s sv) := fun ret => by
  show onAgg (x tm) _ = _; rw [hx]
  show Option.rec (motive := fun _ => R) none (fun s => ret (.s s)) (nth cs off) = _
  rw [nth_eq, hi]
theorem e_fieldN {cs : List SV} {off size : Nat} (hx : x tm = .agg cs) : PEv (vField off size true x) tm (.agg ((cs.drop off).take size)) := fun ret => by
  show onAgg (x tm) _ = _; rw [hx]
  show wholeS (takeS size (dropS off cs)) _ = _
  rw [wholeS_eq, takeS_eq, dropS_eq]

theorem get_mk {l : List SV} {j : Nat} : T.get (tp j) (putAll l 0 (.l : T SV)) = l[j]? := by
  rw [get_putAll]
  by_cases hj : j < l.length
  · rw [if_pos ⟨Nat.zero_le _, by omega⟩]; simp
  · rw [if_neg (by omega), get_leaf, List.getElem?_eq_none (by omega)]
theorem cellsK_of {id : Path} {o : AO} {t : T SV} {m : Nat} (hi : T.get id h.g = some o) (ho : o.look = some (t, m)) (k : T SV → Nat → R) : cellsK h id k = k t m := by
  unfold cellsK objK
  rw [hi]
  cases o with
  | cells => cases ho; rfl
  | map => cases ho
  | ro => cases ho; rfl
  | iter => cases ho
  | lit => cases ho
/-- one cell of an object, whichever -/
theorem e_load1o {id : Path} {off : Nat} {o : AO} {t : T SV} {m : Nat} {v : SV} (hx : x tm = .s (.ptr id off)) (hi : T.get id h.g = some o) (ho : o.look = some (t, m)) (hv : T.get (tp off) t = some v) : REv (rLoad1 x) tm h (.s v) := fun ret => by
  show onPtr (x tm) _ = _; rw [hx]
  show cellsK h id (fun t _ => cellK t off fun v => ret (.s v)) = _
  rw [cellsK_of hi ho]
  unfold cellK
  rw [pathK_eq, hv]
theorem e_load1 {i off : Nat} {l : List SV} {v : SV} (hx : x tm = .s (.ptr (tp i) off)) (hi : h.obj i = some (mk l)) (hv : l[off]? = some v) : REv (rLoad1 x) tm h (.s v) :=
  e_load1o hx hi rfl (by rw [get_mk]; exact hv)
theorem rowK_of {t : T SV} : ∀ {n off : Nat} {l : List SV}, l.length = n → (∀ j, j < n → T.get (tp (off + j)) t = l[j]?) → ∀ k, rowK t n off k = k l
  | 0, off, l, hl, _, k => by
    obtain rfl : l = [] := List.eq_nil_of_length_eq_zero hl
    rfl
  | n + 1, off, [], hl, _, k => by cases hl
  | n + 1, off, v :: l, hl, hj, k => by
    show cellK t off (fun v => forceN (Nat.succ off) fun o => rowK t n o fun l => k (v :: l)) = _
    unfold cellK
    rw [pathK_eq, show T.get (tp off) t = some v from by simpa using hj 0 (by omega)]
    show forceN (Nat.succ off) (fun o => rowK t n o fun l => k (v :: l)) = _
    rw [forceN_eq, rowK_of (l := l) (by simpa using hl) (fun j hj' => by have := hj (j + 1) (by omega); rw [show off.succ + j = off + (j + 1) by omega, this]; simp)]
theorem getK_of {i off n : Nat} {l : List SV} {r : List SV} (hi : h.obj i = some (mk l)) (hr : (l.drop off).take n = r) (hn : off + n ≤ l.length) (k) : getK h (tp i) off n k = k r := by
  cases n with
  | zero => subst hr; simp; rfl
  | succ n =>
    show cellsK h (tp i) (fun t _ => rowK t (n + 1) off k) = _
    rw [cellsK_of (show T.get (tp i) h.g = some (mk l) from hi) rfl]
    refine rowK_of (by subst hr; simp; omega) (fun j hj => ?_) k
    rw [get_mk, ← hr, List.getElem?_take, if_pos hj, List.getElem?_drop]
theorem e_loadN {i off n : Nat} {l r : List SV} (hx : x tm = .s (.ptr (tp i) off)) (hi : h.obj i = some (mk l)) (hr : (l.drop off).take n = r) (hn : off + n ≤ l.length) : REv (rLoadN n x) tm h (.agg r) := fun ret => by
  show onPtr (x tm) _ = _; rw [hx]
  exact getK_of hi hr hn fun l => ret (.agg l)
theorem e_box1 {sv : SV} {p : Path} (hx : x tm = .s sv) : LEv (lBox x) tm p (mk [sv]) (.s (.ptr p 0)) := fun ret => by
  show onCells (x tm) _ = _; rw [hx]; rfl
theorem e_boxN {cs : List SV} {p : Path} (hx : x tm = .agg cs) : LEv (lBox x) tm p (mk cs) (.s (.ptr p 0)) := fun ret => by
  show onCells (x tm) _ = _; rw [hx]
  show ofListS cs 0 .l (fun t => forceN (lenS cs) fun m => ret (.cells t m) (.s (.ptr p 0))) = _
  rw [ofListS_eq, forceN_eq, lenS_eq]; rfl
theorem e_alloc {zero : List SV} {p : Path} : LEv (lAlloc zero) tm p (mk zero) (.s (.ptr p 0)) := fun ret => by
  show ofListS zero 0 .l (fun t => forceN (lenS zero) fun m => ret (.cells t m) (.s (.ptr p 0))) = _
  rw [ofListS_eq, forceN_eq, lenS_eq]; rfl

/-- cells laid over zeroes, part by part -/
def Fill (tm : Tm) : List (Nat × Nat × Opd) → List SV → List SV → Prop
  | [], cs, r => r = cs
  | p :: ps, cs, r => ∃ vs, (p.2.2 tm).cells? = some vs ∧ vs.length = p.2.1 ∧ p.1 + p.2.1 ≤ cs.length ∧ Fill tm ps (cs.take p.1 ++ vs ++ cs.drop (p.1 + vs.length)) r
theorem fillK_of {tm : Tm} : ∀ {ps : List (Nat × Nat × Opd)} {cs r : List SV}, Fill tm ps cs r → ∀ k, fillK tm ps cs k = k r
  | [], cs, r, e, k => by rw [show r = cs from e]; rfl
  | p :: ps, cs, r, ⟨vs, h1, h2, h3, h4⟩, k => by
    show onCells (p.2.2 tm) (fun vs => iteR (andB (Nat.beq (lenS vs) p.2.1) (Nat.ble (Nat.add p.1 p.2.1) (lenS cs))) (wholeS (overAt p.1 vs cs) fun cs => fillK tm ps cs k) none) = _
    have e : ∀ f, onCells (p.2.2 tm) f = f vs := by
      intro f
      cases hv : p.2.2 tm with
      | s v => rw [hv] at h1; cases h1; rfl
      | agg l => rw [hv] at h1; cases h1; rfl
      | tup l => rw [hv] at h1; cases h1
    rw [e, lenS_eq, lenS_eq, show Nat.beq vs.length p.2.1 = true from by rw [Nat.beq_eq]; exact h2, show Nat.ble (Nat.add p.1 p.2.1) cs.length = true from Nat.ble_eq_true_of_le h3]
    show wholeS (overAt p.1 vs cs) (fun cs => fillK tm ps cs k) = _
    rw [wholeS_eq, overAt_eq vs p.1 cs (by rw [h2]; exact h3)]
    exact fillK_of h4 k
theorem fill0 {cs : List SV} : Fill tm [] cs cs := rfl
theorem fill1 {off : Nat} {x : Opd} {ps : List (Nat × Nat × Opd)} {cs r : List SV} {v : SV} (hx : x tm = .s v) (hn : off + 1 ≤ cs.length) (hr : Fill tm ps (cs.take off ++ [v] ++ cs.drop (off + 1)) r) : Fill tm ((off, 1, x) :: ps) cs r :=
  ⟨[v], by show (x tm).cells? = _; rw [hx]; rfl, rfl, hn, hr⟩
theorem fillN {off n : Nat} {x : Opd} {ps : List (Nat × Nat × Opd)} {cs r vs : List SV} (hx : x tm = .agg vs) (hl : vs.length = n) (hn : off + n ≤ cs.length) (hr : Fill tm ps (cs.take off ++ vs ++ cs.drop (off + vs.length)) r) : Fill tm ((off, n, x) :: ps) cs r :=
  ⟨vs, by show (x tm).cells? = _; rw [hx]; rfl, hl, hn, hr⟩
theorem e_build {zero r : List SV} {ps : List (Nat × Nat × Opd)} (hf : Fill tm ps zero r) : PEv (vBuild zero ps) tm (.agg r) := fun ret => fillK_of hf fun cs => ret (.agg cs)
theorem e_row {len esz : Nat} {zero r : List SV} {ps : List (Nat × Nat × Opd)} {p : Path} (hf : Fill tm ps (List.replicate len zero).flatten r) : LEv (lRow len esz zero ps) tm p (mk r) (.s (.sl p 0 len (some len) esz)) := fun ret => by
  show wholeS (timesS zero len) (fun z => fillK tm ps z fun cs => ofListS cs 0 .l fun t => forceN (lenS cs) fun m => ret (.cells t m) (.s (.sl p 0 len (some len) esz))) = _
  rw [wholeS_eq, timesS_eq, fillK_of hf, ofListS_eq, forceN_eq, lenS_eq]; rfl

theorem e_row1 {esz : Nat} {z v : SV} {p : Path} (hx : x tm = .s v) : LEv (lRow 1 esz [z] [(0, 1, x)]) tm p (mk [v]) (.s (.sl p 0 1 (some 1) esz)) := e_row (fill1 hx (by simp) rfl)

/-! ### Slices that are nil or not; slices that grow -/
/-- a slice from the start of an object, or nil -/
def Arg (a : AV) (i n z : Nat) : Prop := (a = .s .snil ∧ n = 0) ∨ ∃ cap, a = .s (.sl (tp i) 0 n cap z)
/-- the same, of which nothing is known but that it grew -/
def Grow (a : AV) (i n z : Nat) : Prop := (a = .s .snil ∧ n = 0) ∨ (0 < n ∧ a = .s (.sl (tp i) 0 n none z))
theorem Grow.arg {a : AV} {i n z : Nat} (h : Grow a i n z) : Arg a i n z := h.imp id fun h => ⟨none, h.2⟩
theorem e_len_arg {v : AV} {i n z : Nat} (ha : Arg v i n z) (hx : x tm = v) : PEv (vLen x) tm (.s (.int .i64 (n : Nat))) := by
  rcases ha with ⟨e, e'⟩ | ⟨cap, e⟩
  · subst e'; exact e_len_nil (hx.trans e)
  · exact e_len (hx.trans e)
theorem e_idx_arg {v : AV} {i n z j : Nat} (ha : Arg v i n z) (hx : x tm = v) (hy : y tm = .s (.int k (j : Nat))) (hj : j < n) : PEv (vIdxS z x y) tm (.s (.ptr (tp i) (0 + j * z))) := by
  rcases ha with ⟨e, e'⟩ | ⟨cap, e⟩
  · omega
  · exact e_idxS (hx.trans e) hy hj

theorem putAll_append {α : Type} : ∀ (l r : List α) (i : Nat) (t : T α), putAll (l ++ r) i t = putAll r (i + l.length) (putAll l i t)
  | [], r, i, t => rfl
  | v :: l, r, i, t => by
    show putAll (l ++ r) (i + 1) _ = putAll r (i + (l.length + 1)) (putAll l (i + 1) _)
    rw [putAll_append l r, show i + 1 + l.length = i + (l.length + 1) by omega]

theorem okApp_of {z esz m bytes : Nat} (h1 : z = esz) (h2 : 1 ≤ esz) (h3 : 1 ≤ bytes) (h4 : m * bytes ≤ 35184372088832) : okApp z esz m bytes = true := by
  unfold okApp
  rw [andB_eq, andB_eq, andB_eq, show Nat.beq z esz = true from by rw [Nat.beq_eq]; exact h1, Nat.ble_eq_true_of_le h2, Nat.ble_eq_true_of_le h3, show Nat.ble (Nat.mul m bytes) 35184372088832 = true from Nat.ble_eq_true_of_le h4]; rfl

/-- behind a slice that grew, or nil, some elements -/
theorem e_append {v : AV} {i n esz bytes kx off m : Nat} {cap : Option Nat} {zx : Nat} {l lx new : List SV} (hv : Grow v i n esz) (hx : x tm = v) (hi : n ≠ 0 → h.obj i = some (mk l)) (hl : l.length = n * esz)
    (hy : y tm = .s (.sl (tp kx) off m cap zx)) (hk : h.obj kx = some (mk lx)) (hnew : (lx.drop off).take (m * esz) = new) (hin : off + m * esz ≤ lx.length) (hm : 0 < m) (h2 : 1 ≤ esz) (h3 : 1 ≤ bytes) (h4 : (n + m) * bytes ≤ 35184372088832) :
    ∃ h', EEv (eAppend esz bytes x y) tm h (.s (.sl (tp h.next) 0 (n + m) none esz)) h' ∧ h'.next = h.next + 1 ∧ h'.obj h.next = some (mk (l ++ new)) ∧ ∀ j, j < h.next → j ≠ i → h'.obj j = h.obj j := by
  have hnl : new.length = m * esz := by rw [← hnew]; simp; omega
  have e0 : ∀ ret, eAppend esz bytes x y tm h ret = appendK esz bytes h v m new ret := by
    intro ret
    show onSl (y tm) _ _ = _
    rw [hy]
    show getK h (tp kx) off (Nat.mul m esz) (fun l => appendK esz bytes h (x tm) m l ret) = _
    rw [hx]
    exact getK_of hk hnew hin _
  obtain ⟨m', rfl⟩ : ∃ m', m = m' + 1 := ⟨m - 1, by omega⟩
  rcases hv with ⟨rfl, rfl⟩ | ⟨hn, rfl⟩
  · obtain rfl : l = [] := List.eq_nil_of_length_eq_zero (by omega)
    refine ⟨h.new (mk new), fun ret => ?_, rfl, obj_new_self _ _, fun j hj _ => obj_new_ne _ _ (by omega)⟩
    rw [e0]
    show iteR (okApp esz esz (m' + 1) bytes) (ofListS new 0 .l fun t => retNew (m' + 1) esz t h ret) none = _
    rw [okApp_of rfl h2 h3 (by rw [Nat.zero_add] at h4; exact h4)]
    show ofListS new 0 .l (fun t => retNew (m' + 1) esz t h ret) = _
    rw [ofListS_eq]
    unfold retNew
    rw [forceN_eq, forceN_eq, newK_eq]
    show ret (.s (.sl (tp h.next) 0 (m' + 1) none esz)) ⟨h.g.put (tp h.next) (some (.cells (putAll new 0 .l) ((m' + 1) * esz))), h.next + 1⟩ = ret (.s (.sl (tp h.next) 0 (0 + (m' + 1)) none esz)) ⟨h.g.put (tp h.next) (some (.cells (putAll new 0 .l) new.length)), h.next + 1⟩
    rw [hnl, Nat.zero_add]
  · have hi := hi (by omega)
    {
      refine ⟨(h.set i none).new (mk (l ++ new)), fun ret => ?_, rfl, obj_new_self _ _, fun j hj hji => (obj_new_ne _ _ (by show j ≠ h.next; omega)).trans (obj_set_ne _ _ hji)⟩
      rw [e0]
      show iteR (okApp esz esz (Nat.add n (m' + 1)) bytes) (growK h (tp i) n (m' + 1) esz new ret) none = _
      rw [show okApp esz esz (Nat.add n (m' + 1)) bytes = true from okApp_of rfl h2 h3 h4]
      show Option.rec (motive := fun _ => R) none (fun ob => AO.rec (motive := fun _ => R) (fun t m => forceN (Nat.mul n esz) fun o => iteR (Nat.ble m o) (ofListS new o t fun t => onH h fun g nx => setO (tp i) g none fun g => retNew (Nat.add n (m' + 1)) esz t ⟨g, nx⟩ ret) none) (fun _ _ _ _ => none) (fun _ _ => none) (fun _ _ _ _ => none) (fun _ => none) ob) (T.get (tp i) h.g) = _
      rw [show T.get (tp i) h.g = some (mk l) from hi]
      show forceN (Nat.mul n esz) (fun o => iteR (Nat.ble l.length o) (ofListS new o (putAll l 0 .l) fun t => onH h fun g nx => setO (tp i) g none fun g => retNew (Nat.add n (m' + 1)) esz t ⟨g, nx⟩ ret) none) = _
      rw [forceN_eq, Nat.ble_eq_true_of_le (show l.length ≤ Nat.mul n esz by rw [hl]; exact Nat.le_refl _)]
      show ofListS new (Nat.mul n esz) (putAll l 0 .l) (fun t => onH h fun g nx => setO (tp i) g none fun g => retNew (Nat.add n (m' + 1)) esz t ⟨g, nx⟩ ret) = _
      rw [ofListS_eq, onH_eq, setO_eq]
      unfold retNew
      rw [forceN_eq, forceN_eq, newK_eq]
      have e1 : putAll new (Nat.mul n esz) (putAll l 0 .l) = putAll (l ++ new) 0 .l := by
        rw [putAll_append, Nat.zero_add, hl]; rfl
      have e2 : (l ++ new).length = Nat.mul (Nat.add n (m' + 1)) esz := by
        rw [List.length_append, hl, hnl, ← Nat.add_mul]; rfl
      show ret _ ⟨T.put (tp h.next) (T.put (tp i) h.g none) (some (.cells (putAll new (Nat.mul n esz) (putAll l 0 .l)) (Nat.mul (Nat.add n (m' + 1)) esz))), h.next + 1⟩ = ret _ ⟨T.put (tp h.next) (T.put (tp i) h.g none) (some (.cells (putAll (l ++ new) 0 .l) (l ++ new).length)), h.next + 1⟩
      rw [e1, e2]; rfl
    }

theorem wp_append {s : List (Path × AV)} {t : Tm} {d : Path} {r : List AOper} {Q} {v : AV} {i n esz bytes kx off m : Nat} {cap : Option Nat} {zx : Nat} {l lx new : List SV} (hv : Grow v i n esz) (hx : x (lay s t) = v) (hi : n ≠ 0 → h.obj i = some (mk l)) (hl : l.length = n * esz)
    (hy : y (lay s t) = .s (.sl (tp kx) off m cap zx)) (hk : h.obj kx = some (mk lx)) (hnew : (lx.drop off).take (m * esz) = new) (hin : off + m * esz ≤ lx.length) (hm : 0 < m) (h2 : 1 ≤ esz) (h3 : 1 ≤ bytes) (h4 : (n + m) * bytes ≤ 35184372088832)
    (hw : ∀ h', h'.next = h.next + 1 → h'.obj h.next = some (mk (l ++ new)) → (∀ j, j < h.next → j ≠ i → h'.obj j = h.obj j) → WP M (.ops r) (lay ((d, .s (.sl (tp h.next) 0 (n + m) none esz)) :: s) t) h' Q) :
    WP M (.ops (⟨none, .eff (some d) (eAppend esz bytes x y)⟩ :: r)) (lay s t) h Q := by
  obtain ⟨h', e1, e2, e3, e4⟩ := e_append hv hx hi hl hy hk hnew hin hm h2 h3 h4
  exact wp_step (st_eff e1) (hw h' e2 e3 e4)
end

/-! ### Tries that are rows: what is written over them -/
theorem put_put_same {α : Type} : ∀ (p : Path) (t : T α) (a b : Option α), (t.put p a).put p b = t.put p b
  | .z, .l, _, _ => rfl
  | .z, .n _ _ _, _, _ => rfl
  | .a p, .l, a, b => congrArg (fun x => T.n none x .l) (put_put_same p .l a b)
  | .a p, .n v t r, a, b => congrArg (fun x => T.n v x r) (put_put_same p t a b)
  | .b p, .l, a, b => congrArg (fun x => T.n none .l x) (put_put_same p .l a b)
  | .b p, .n v t r, a, b => congrArg (fun x => T.n v t x) (put_put_same p r a b)
theorem put_comm {α : Type} : ∀ (p q : Path) (t : T α) (a b : Option α), p ≠ q → (t.put p a).put q b = (t.put q b).put p a
  | .z, .z, _, _, _, h => absurd rfl h
  | .z, .a _, .l, _, _, _ => rfl
  | .z, .a _, .n _ _ _, _, _, _ => rfl
  | .z, .b _, .l, _, _, _ => rfl
  | .z, .b _, .n _ _ _, _, _, _ => rfl
  | .a _, .z, .l, _, _, _ => rfl
  | .a _, .z, .n _ _ _, _, _, _ => rfl
  | .b _, .z, .l, _, _, _ => rfl
  | .b _, .z, .n _ _ _, _, _, _ => rfl
  | .a _, .b _, .l, _, _, _ => rfl
  | .a _, .b _, .n _ _ _, _, _, _ => rfl
  | .b _, .a _, .l, _, _, _ => rfl
  | .b _, .a _, .n _ _ _, _, _, _ => rfl
  | .a p, .a q, .l, a, b, h => congrArg (fun x => T.n none x .l) (put_comm p q .l a b fun e => h (congrArg Path.a e))
  | .a p, .a q, .n v t r, a, b, h => congrArg (fun x => T.n v x r) (put_comm p q t a b fun e => h (congrArg Path.a e))
  | .b p, .b q, .l, a, b, h => congrArg (fun x => T.n none .l x) (put_comm p q .l a b fun e => h (congrArg Path.b e))
  | .b p, .b q, .n v t r, a, b, h => congrArg (fun x => T.n v t x) (put_comm p q r a b fun e => h (congrArg Path.b e))
theorem putAll_put {α : Type} : ∀ (l : List α) (i j : Nat) (t : T α) (x : Option α), j < i → (putAll l i t).put (tp j) x = putAll l i (t.put (tp j) x)
  | [], _, _, _, _, _ => rfl
  | v :: l, i, j, t, x, h => by
    show (putAll l (i + 1) (t.put (tp i) (some v))).put (tp j) x = putAll l (i + 1) ((t.put (tp j) x).put (tp i) (some v))
    rw [putAll_put l (i + 1) j _ x (by omega), put_comm (tp i) (tp j) t _ _ fun e => by have := tp_inj e; omega]
theorem putAll_set {α : Type} : ∀ (l : List α) (i j : Nat) (t : T α) (v : α), j < l.length → (putAll l i t).put (tp (i + j)) (some v) = putAll (l.set j v) i t
  | [], _, _, _, _, h => by simp at h
  | u :: l, i, 0, t, v, _ => by
    show (putAll l (i + 1) (t.put (tp i) (some u))).put (tp i) (some v) = putAll l (i + 1) (t.put (tp i) (some v))
    rw [putAll_put l (i + 1) i _ _ (by omega), put_put_same]
  | u :: l, i, j + 1, t, v, h => by
    show (putAll l (i + 1) (t.put (tp i) (some u))).put (tp (i + (j + 1))) (some v) = putAll (l.set j v) (i + 1) (t.put (tp i) (some u))
    rw [show i + (j + 1) = (i + 1) + j by omega, putAll_set l (i + 1) j _ v (by simpa using h)]
/-- cells written over others -/
def over {α : Type} (l : List α) (off : Nat) : List α → List α
  | [] => l
  | v :: vs => over (l.set off v) (off + 1) vs
theorem over_length {α : Type} : ∀ (vs l : List α) (off : Nat), (over l off vs).length = l.length
  | [], _, _ => rfl
  | v :: vs, l, off => by rw [over, over_length vs]; simp
theorem putAll_over {α : Type} : ∀ (vs l : List α) (off : Nat), off + vs.length ≤ l.length → putAll vs off (putAll l 0 (.l : T α)) = putAll (over l off vs) 0 .l
  | [], _, _, _ => rfl
  | v :: vs, l, off, h => by
    show putAll vs (off + 1) ((putAll l 0 .l).put (tp off) (some v)) = _
    have := putAll_set l 0 off (.l : T α) v (by simp at h; omega)
    rw [Nat.zero_add] at this
    rw [this, putAll_over vs (l.set off v) (off + 1) (by simp at h ⊢; omega)]; rfl
theorem over_get {α : Type} : ∀ (vs l : List α) (off j : Nat), off + vs.length ≤ l.length → (over l off vs)[j]? = if off ≤ j ∧ j < off + vs.length then vs[j - off]? else l[j]?
  | [], l, off, j, _ => by rw [if_neg (by simp only [List.length_nil]; omega)]; rfl
  | v :: vs, l, off, j, h => by
    simp only [List.length_cons] at h ⊢
    rw [over, over_get vs _ (off + 1) j (by rw [List.length_set]; omega)]
    by_cases h1 : off + 1 ≤ j ∧ j < off + 1 + vs.length
    · rw [if_pos h1, if_pos (by omega), show j - off = (j - (off + 1)) + 1 by omega, List.getElem?_cons_succ]
    · rw [if_neg h1]
      by_cases h2 : j = off
      · subst h2; rw [if_pos (by omega), List.getElem?_set_self (by omega)]; simp
      · rw [if_neg (by omega), List.getElem?_set_ne (by omega)]
theorem putAll_last {α : Type} (l : List α) (v : α) (i : Nat) (t : T α) : putAll (l ++ [v]) i t = (putAll l i t).put (tp (i + l.length)) (some v) := by
  rw [putAll_append]; rfl
theorem tp_odd (q : Nat) : tp (2 * q + 1) = .a (tp q) := by
  rcases tp_pos (2 * q + 1) with ⟨r, h1, h2⟩ | ⟨r, h1, h2⟩ | h
  · rw [h2, show r = q by omega]
  · omega
  · omega
theorem tp_even (q : Nat) : tp (2 * q + 2) = .b (tp q) := by
  rcases tp_pos (2 * q + 2) with ⟨r, h1, h2⟩ | ⟨r, h1, h2⟩ | h
  · omega
  · rw [h2, show r = q by omega]
  · omega
theorem repT_succ {α : Type} (x : α) : ∀ (f m : Nat), m < f → repT x f (m + 1) = (repT x f m).put (tp m) (some x)
  | 0, m, h => by omega
  | f + 1, 0, _ => by
    show T.n (some x) (repT x f ((0 + 1) / 2)) (repT x f (0 / 2)) = (T.l : T α).put (tp 0) (some x)
    cases f <;> rfl
  | f + 1, m + 1, h => by
    show T.n (some x) (repT x f ((m + 1 + 1) / 2)) (repT x f ((m + 1) / 2)) = (T.n (some x) (repT x f ((m + 1) / 2)) (repT x f (m / 2))).put (tp (m + 1)) (some x)
    rcases Nat.mod_two_eq_zero_or_one m with h2 | h2
    · obtain ⟨q, rfl⟩ : ∃ q, m = 2 * q := ⟨m / 2, by omega⟩
      rw [show (2 * q + 1 + 1) / 2 = q + 1 by omega, show (2 * q + 1) / 2 = q by omega, show 2 * q / 2 = q by omega, tp_odd]
      show _ = T.n (some x) ((repT x f q).put (tp q) (some x)) (repT x f q)
      rw [repT_succ x f q (by omega)]
    · obtain ⟨q, rfl⟩ : ∃ q, m = 2 * q + 1 := ⟨m / 2, by omega⟩
      rw [show (2 * q + 1 + 1 + 1) / 2 = q + 1 by omega, show (2 * q + 1 + 1) / 2 = q + 1 by omega, show (2 * q + 1) / 2 = q by omega, show 2 * q + 1 + 1 = 2 * q + 2 by omega, tp_even]
      show _ = T.n (some x) (repT x f (q + 1)) ((repT x f q).put (tp q) (some x))
      rw [← repT_succ x f q (by omega)]
theorem repT_row {α : Type} (x : α) (f : Nat) : ∀ n, n ≤ f → repT x f n = putAll (List.replicate n x) 0 .l
  | 0, _ => by cases f <;> rfl
  | n + 1, h => by rw [repT_succ x f n (by omega), repT_row x f n (by omega), List.replicate_succ', putAll_last]; simp

/-! ### What a call leaves alone -/
/-- all that was there is there; there may be more -/
def Grew (h h' : AH) : Prop := (∀ p, (∀ j, h.next ≤ j → p ≠ tp j) → T.get p h'.g = T.get p h.g) ∧ h.next ≤ h'.next
theorem Grew.refl (h : AH) : Grew h h := ⟨fun _ _ => rfl, Nat.le_refl _⟩
theorem Grew.trans {h h1 h2 : AH} (a : Grew h h1) (b : Grew h1 h2) : Grew h h2 :=
  ⟨fun p hp => (b.1 p fun j hj => hp j (Nat.le_trans a.2 hj)).trans (a.1 p hp), Nat.le_trans a.2 b.2⟩
theorem Grew.new {h h1 : AH} (a : Grew h h1) (o : AO) : Grew h (h1.new o) :=
  ⟨fun p hp => (get_put_other _ _ _ _ (hp _ a.2)).trans (a.1 p hp), Nat.le_succ_of_le a.2⟩
theorem Grew.set {h h1 : AH} (a : Grew h h1) {i : Nat} (hi : h.next ≤ i) (o : Option AO) : Grew h (h1.set i o) :=
  ⟨fun p hp => (get_put_other _ _ _ _ (hp _ hi)).trans (a.1 p hp), a.2⟩
theorem Grew.obj {h h1 : AH} (a : Grew h h1) {i : Nat} (hi : i < h.next) : h1.obj i = h.obj i := a.1 (tp i) fun j hj e => by have := tp_inj e; omega
theorem Grew.next {h h1 : AH} (a : Grew h h1) : h.next ≤ h1.next := a.2
theorem Grew.draw {h h1 : AH} (a : Grew h h1) (m : Nat) : Grew h ⟨h1.g, h1.next + m⟩ := ⟨a.1, Nat.le_add_right_of_le a.2⟩

section
variable {x y c : Opd} {tm : Tm} {h : AH} {u w : AV} {k kd : IntKind} {a b : Int}
theorem putRow_of : ∀ {vs : List SV} {t : T SV} {off : Nat} {k : T SV → R}, (∀ j, j < vs.length → (T.get (tp (off + j)) t).isSome = true) → putRow vs t off k = k (putAll vs off t)
  | [], _, _, _, _ => rfl
  | v :: vs, t, off, k, h => by
    show pathK off (fun p => Option.rec (motive := fun _ => R) none (fun _ => setS p t v fun t => forceN (Nat.succ off) fun o => putRow vs t o k) (T.get p t)) = _
    rw [pathK_eq]
    obtain ⟨s, hs⟩ := Option.isSome_iff_exists.1 (h 0 (by simp))
    rw [Nat.add_zero] at hs
    rw [hs]
    show setS (tp off) t v (fun t => forceN (Nat.succ off) fun o => putRow vs t o k) = _
    rw [setS_eq, forceN_eq, putRow_of (off := off.succ)]
    · rfl
    · intro j hj
      rw [get_put_other _ _ _ _ fun e => by have := tp_inj e; omega]
      have := h (j + 1) (by simp; omega)
      rwa [show off + (j + 1) = off.succ + j by omega] at this
theorem storeK_of {i off : Nat} {l vs : List SV} {k : AH → R} (hi : h.obj i = some (mk l)) (hv : vs ≠ []) (hn : off + vs.length ≤ l.length) : storeK h (tp i) off vs k = k (h.set i (some (mk (over l off vs)))) := by
  obtain ⟨v, vs, rfl⟩ : ∃ v l, vs = v :: l := List.exists_cons_of_ne_nil hv
  show cellsW h (tp i) (fun t m => putRow (v :: vs) t off fun t => onH h fun g n => setO (tp i) g (some (.cells t m)) fun g => k ⟨g, n⟩) = _
  unfold cellsW objK
  rw [show T.get (tp i) h.g = some (mk l) from hi]
  show putRow (v :: vs) (putAll l 0 .l) off (fun t => onH h fun g n => setO (tp i) g (some (.cells t l.length)) fun g => k ⟨g, n⟩) = _
  rw [putRow_of, onH_eq, setO_eq, putAll_over _ _ _ hn]
  · unfold AH.set mk; rw [over_length]
  · intro j hj
    rw [get_mk, List.getElem?_eq_getElem (by omega)]; rfl
theorem e_store1 {i off : Nat} {l : List SV} {v : SV} (hx : x tm = .s (.ptr (tp i) off)) (hy : y tm = .s v) (hi : h.obj i = some (mk l)) (hn : off < l.length) : EEv (eStore 1 x y) tm h undefA (h.set i (some (mk (l.set off v)))) := fun ret => by
  show onPtr (x tm) _ = _; rw [hx]
  show onCells (y tm) (fun l => iteR (Nat.beq (lenS l) 1) (storeK h (tp i) off l fun h => ret undefA h) none) = _; rw [hy]
  exact storeK_of (vs := [v]) hi (by simp) (by simp; omega)
theorem e_storeN {i off n : Nat} {l vs : List SV} (hx : x tm = .s (.ptr (tp i) off)) (hy : y tm = .agg vs) (hi : h.obj i = some (mk l)) (hl : vs.length = n) (h0 : 0 < n) (hn : off + n ≤ l.length) : EEv (eStore n x y) tm h undefA (h.set i (some (mk (over l off vs)))) := fun ret => by
  show onPtr (x tm) _ = _; rw [hx]
  show onCells (y tm) (fun l => iteR (Nat.beq (lenS l) n) (storeK h (tp i) off l fun h => ret undefA h) none) = _; rw [hy]
  show iteR (Nat.beq (lenS vs) n) (storeK h (tp i) off vs fun h => ret undefA h) none = _
  rw [lenS_eq, show Nat.beq vs.length n = true from by rw [Nat.beq_eq]; exact hl]
  exact storeK_of hi (fun e => by subst e; simp at hl; omega) (by omega)
theorem e_make1 {n m esz bytes : Nat} {z : SV} {p : Path} (hx : x tm = .s (.int k (n : Nat))) (hy : y tm = .s (.int kd (m : Nat))) (hn : n ≤ m) (hb : m * bytes ≤ 140737488355328) (hm : m < 9223372036854775808) :
    LEv (lMake esz bytes [z] x y) tm p (mk (List.replicate m z)) (.s (.sl p 0 n (some m) esz)) := fun ret => by
  show onNat (x tm) _ = _; rw [hx]
  show onNat (y tm) _ = _; rw [hy]
  show iteR (okMake n m bytes) (zerosK [z] m fun t => forceN (Nat.mul m (lenS [z])) fun m' => ret (.cells t m') (.s (.sl p 0 n (some m) esz))) none = _
  have hok : okMake n m bytes = true := by
    unfold okMake
    rw [andB_eq, andB_eq, Nat.ble_eq_true_of_le hn, show Nat.ble (Nat.mul m bytes) 140737488355328 = true from Nat.ble_eq_true_of_le hb, show Nat.ble (Nat.succ m) 9223372036854775808 = true from Nat.ble_eq_true_of_le hm]; rfl
  rw [hok]
  show repK z m m (fun t => forceN (Nat.mul m (lenS [z])) fun m' => ret (.cells t m') (.s (.sl p 0 n (some m) esz))) = _
  rw [repK_eq, forceN_eq, repT_row z m m (Nat.le_refl _)]
  show ret (.cells (putAll (List.replicate m z) 0 .l) (m * 1)) _ = ret (.cells (putAll (List.replicate m z) 0 .l) (List.replicate m z).length) _
  rw [Nat.mul_one, List.length_replicate]
theorem e_bits {f : Nat → Nat → Nat} {m n : Nat} (hx : x tm = .s (.int k (m : Nat))) (hy : y tm = .s (.int k (n : Nat))) (hm : m < lim k) (hn : n < lim k) (hr : f m n < lim k) : PEv (vBits f x y) tm (.s (.int k (f m n : Nat))) := fun ret => by
  show int2 (x tm) (y tm) _ = _; rw [hx, hy, int2_of]
  show iteR (andB (fits k m) (fits k n)) (retN k (f m n) ret) none = _
  have hf : ∀ q, q < lim k → fits k q = true := fun q hq => Nat.ble_eq_true_of_le hq
  rw [hf m hm, hf n hn, retN_eq, wrap_fits (hf _ hr)]; rfl
theorem res_cellN {i off n : Nat} {l r : List SV} (hx : x tm = .s (.ptr (tp i) off)) (hi : h.obj i = some (mk l)) (hr : (l.drop off).take n = r) (hn : off + n ≤ l.length) : ResTo [.cell x n true] tm h (.agg r) := fun k => by
  show rLoadN n x tm h (fun v => k v h) = _
  exact e_loadN hx hi hr hn _
theorem res_cell1 {i off n : Nat} {l : List SV} {v : SV} (hx : x tm = .s (.ptr (tp i) off)) (hi : h.obj i = some (mk l)) (hv : l[off]? = some v) : ResTo [.cell x n false] tm h (.s v) := fun k => by
  show rLoad1 x tm h (fun v => k v h) = _
  exact e_load1 hx hi hv _
theorem res_tmp2 {v1 v2 : AV} {t1 t2 : TV} (hx : x tm = v1) (hy : y tm = v2) (h1 : v1.tv = some t1) (h2 : v2.tv = some t2) : ResTo [.tmp x, .tmp y] tm h (.tup [t1, t2]) :=
  res_two ⟨v1, t1, [t2], res_tmp hx, h1, ⟨v2, t2, [], res_tmp hy, h2, rfl, rfl⟩, rfl⟩
end
end Go.Bb
