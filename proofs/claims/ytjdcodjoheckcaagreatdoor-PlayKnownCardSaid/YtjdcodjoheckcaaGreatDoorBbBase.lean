/-
  What the abstract machine's words come to: each word that hands on, as a plain equation or as what must have been.
-/
import Derived.Test.YtjdcodjoheckcaaGreatDoorBbEval
namespace Go.Bb

/-! ### Paths and tries -/
def idx : Path → Nat
  | .z => 0
  | .a p => 2 * idx p + 1
  | .b p => 2 * idx p + 2

theorem idx_tpF : ∀ (f i : Nat), i < f → idx (tpF f i) = i
  | 0, _, h => by omega
  | f + 1, 0, _ => rfl
  | f + 1, m + 1, h => by
    simp only [tpF]
    split
    · rename_i h0
      simp only [idx]; rw [idx_tpF f (m / 2) (by omega)]; omega
    · rename_i h0
      have : m % 2 = 1 := by
        have := Nat.mod_lt m (show 0 < 2 by omega)
        have h1 : m % 2 ≠ 0 := fun e => h0 (by simpa using e)
        omega
      simp only [idx]; rw [idx_tpF f (m / 2) (by omega)]; omega

theorem idx_tp (i : Nat) : idx (tp i) = i := idx_tpF _ _ (by omega)
theorem tp_inj {i j : Nat} (h : tp i = tp j) : i = j := by rw [← idx_tp i, ← idx_tp j, h]

def T.put {α : Type} : Path → T α → Option α → T α
  | .z, .l, x => .n x .l .l
  | .z, .n _ a b, x => .n x a b
  | .a p, .l, x => .n none (T.put p .l x) .l
  | .a p, .n v a b, x => .n v (T.put p a x) b
  | .b p, .l, x => .n none .l (T.put p .l x)
  | .b p, .n v a b, x => .n v a (T.put p b x)

theorem get_leaf {α : Type} (p : Path) : T.get p (.l : T α) = none := by
  induction p with
  | z => rfl
  | a p ih => exact ih
  | b p ih => exact ih

theorem get_put_same {α : Type} (p : Path) : ∀ (t : T α) (x : Option α), T.get p (t.put p x) = x := by
  induction p with
  | z => intro t x; cases t <;> rfl
  | a p ih => intro t x; cases t with
    | l => exact ih .l x
    | n v a b => exact ih a x
  | b p ih => intro t x; cases t with
    | l => exact ih .l x
    | n v a b => exact ih b x

theorem get_put_other {α : Type} (p : Path) : ∀ (q : Path) (t : T α) (x : Option α), q ≠ p → T.get q (t.put p x) = T.get q t := by
  induction p with
  | z => intro q t x h; cases q with
    | z => exact absurd rfl h
    | a q => cases t <;> rfl
    | b q => cases t <;> rfl
  | a p ih => intro q t x h; cases q with
    | z => cases t <;> rfl
    | a q => cases t with
      | l => exact ih q .l x (fun e => h (e ▸ rfl))
      | n v a b => exact ih q a x (fun e => h (e ▸ rfl))
    | b q => cases t <;> rfl
  | b p ih => intro q t x h; cases q with
    | z => cases t <;> rfl
    | a q => cases t <;> rfl
    | b q => cases t with
      | l => exact ih q .l x (fun e => h (e ▸ rfl))
      | n v a b => exact ih q b x (fun e => h (e ▸ rfl))

/-! ### Words that hand on -/
theorem forceN_eq (n : Nat) (k : Nat → R) : forceN n k = k n := by cases n <;> rfl
theorem forceI_eq (z : Int) (k : Int → R) : forceI z k = k z := by
  cases z with
  | ofNat n => exact forceN_eq n fun n => k (.ofNat n)
  | negSucc n => exact forceN_eq n fun n => k (.negSucc n)
theorem iteR_eq (b : Bool) (t f : R) : iteR b t f = if b = true then t else f := by cases b <;> rfl

theorem toPathK_eq : ∀ (f i : Nat) (k : Path → R), toPathK f i k = k (tpF f i)
  | 0, _, _ => rfl
  | f + 1, 0, _ => rfl
  | f + 1, m + 1, k => by
    have e : toPathK (f + 1) (m + 1) k = forceN (Nat.div m 2) fun q => Nat.rec (motive := fun _ => R) (toPathK f q fun p => k (.a p)) (fun _ _ => toPathK f q fun p => k (.b p)) (Nat.mod m 2) := rfl
    rw [e, forceN_eq]
    show Nat.rec (motive := fun _ => R) (toPathK f (m / 2) fun p => k (.a p)) (fun _ _ => toPathK f (m / 2) fun p => k (.b p)) (m % 2) = k (tpF (f + 1) (m + 1))
    simp only [tpF]
    cases h : m % 2 with
    | zero => exact toPathK_eq f (m / 2) _
    | succ n => exact toPathK_eq f (m / 2) _

theorem pathK_eq (i : Nat) (k : Path → R) : pathK i k = k (tp i) := toPathK_eq _ _ _

theorem setV_eq (p : Path) : ∀ (t : T AV) (x : AV) (k : T AV → R), setV p t x k = k (t.put p (some x)) := by
  induction p with
  | z => intro t x k; cases t <;> rfl
  | a p ih => intro t x k; cases t with
    | l => exact ih .l x _
    | n v a b => exact ih a x _
  | b p ih => intro t x k; cases t with
    | l => exact ih .l x _
    | n v a b => exact ih b x _

theorem setO_eq (p : Path) : ∀ (t : T AO) (x : Option AO) (k : T AO → R), setO p t x k = k (t.put p x) := by
  induction p with
  | z => intro t x k; cases t <;> rfl
  | a p ih => intro t x k; cases t with
    | l => exact ih .l x _
    | n v a b => exact ih a x _
  | b p ih => intro t x k; cases t with
    | l => exact ih .l x _
    | n v a b => exact ih b x _

theorem setS_eq (p : Path) : ∀ (t : T SV) (x : SV) (k : T SV → R), setS p t x k = k (t.put p (some x)) := by
  induction p with
  | z => intro t x k; cases t <;> rfl
  | a p ih => intro t x k; cases t with
    | l => exact ih .l x _
    | n v a b => exact ih a x _
  | b p ih => intro t x k; cases t with
    | l => exact ih .l x _
    | n v a b => exact ih b x _

def putAll {α : Type} : List α → Nat → T α → T α
  | [], _, t => t
  | v :: l, i, t => putAll l (i + 1) (t.put (tp i) (some v))

theorem ofListV_eq (l : List AV) : ∀ (i : Nat) (t : T AV) (k : T AV → R), ofListV l i t k = k (putAll l i t) := by
  induction l with
  | nil => intro i t k; rfl
  | cons v l ih => intro i t k; show pathK i _ = _; rw [pathK_eq, setV_eq, forceN_eq]; exact ih _ _ _

theorem ofListS_eq (l : List SV) : ∀ (i : Nat) (t : T SV) (k : T SV → R), ofListS l i t k = k (putAll l i t) := by
  induction l with
  | nil => intro i t k; rfl
  | cons v l ih => intro i t k; show pathK i _ = _; rw [pathK_eq, setS_eq, forceN_eq]; exact ih _ _ _

theorem get_putAll {α : Type} (l : List α) : ∀ (i : Nat) (t : T α) (j : Nat), T.get (tp j) (putAll l i t) = if i ≤ j ∧ j < i + l.length then l[j - i]? else T.get (tp j) t := by
  induction l with
  | nil => intro i t j; simp [putAll]; intro h1 h2; omega
  | cons v l ih =>
    intro i t j
    simp only [putAll, ih]
    by_cases h : i + 1 ≤ j ∧ j < i + 1 + l.length
    · rw [if_pos h, if_pos (by simp; omega)]
      obtain ⟨m, rfl⟩ : ∃ m, j = i + 1 + m := ⟨j - (i + 1), by omega⟩
      rw [show i + 1 + m - (i + 1) = m by omega, show i + 1 + m - i = m + 1 by omega]; simp
    · rw [if_neg h]
      by_cases hj : j = i
      · subst hj; rw [get_put_same, if_pos (by simp)]; simp
      · rw [get_put_other _ _ _ _ (fun e => hj (tp_inj e)), if_neg (by simp; omega)]

def repT {α : Type} (x : α) : Nat → Nat → T α
  | 0, _ => .l
  | _ + 1, 0 => .l
  | f + 1, m + 1 => .n (some x) (repT x f ((m + 1) / 2)) (repT x f (m / 2))

theorem repK_eq (x : SV) : ∀ (f n : Nat) (k : T SV → R), repK x f n k = k (repT x f n)
  | 0, _, _ => rfl
  | _ + 1, 0, _ => rfl
  | f + 1, m + 1, k => by
    have e : repK x (f + 1) (m + 1) k = forceN (Nat.div (Nat.succ m) 2) fun p => forceN (Nat.div m 2) fun q => repK x f p fun a => repK x f q fun b => k (.n (some x) a b) := rfl
    rw [e, forceN_eq, forceN_eq, repK_eq x f, repK_eq x f]
    rfl

theorem tp_zero : tp 0 = .z := rfl
theorem tp_pos (j : Nat) : (∃ q, j = 2 * q + 1 ∧ tp j = .a (tp q)) ∨ (∃ q, j = 2 * q + 2 ∧ tp j = .b (tp q)) ∨ j = 0 := by
  have inj : ∀ p q : Path, idx p = idx q → p = q := by
    intro p
    induction p with
    | z => intro q h; cases q <;> simp [idx] at h <;> first | rfl | omega
    | a p ih => intro q h; cases q with
      | z => simp [idx] at h
      | a q => exact congrArg Path.a (ih q (by simp [idx] at h; omega))
      | b q => simp [idx] at h; omega
    | b p ih => intro q h; cases q with
      | z => simp [idx] at h
      | a q => simp [idx] at h; omega
      | b q => exact congrArg Path.b (ih q (by simp [idx] at h; omega))
  rcases Nat.lt_or_ge 0 j with h | h
  · rcases Nat.mod_two_eq_zero_or_one j with h2 | h2
    · refine .inr (.inl ⟨(j - 2) / 2, by omega, inj _ _ ?_⟩)
      rw [idx_tp]; simp only [idx, idx_tp]; omega
    · refine .inl ⟨(j - 1) / 2, by omega, inj _ _ ?_⟩
      rw [idx_tp]; simp only [idx, idx_tp]; omega
  · exact .inr (.inr (by omega))

theorem get_repT {α : Type} (x : α) : ∀ (f n j : Nat), n ≤ f → T.get (tp j) (repT x f n) = if j < n then some x else none
  | 0, n, j, h => by rw [if_neg (by omega)]; exact get_leaf _
  | f + 1, 0, j, _ => by rw [if_neg (by omega)]; exact get_leaf _
  | f + 1, m + 1, j, h => by
    rcases tp_pos j with ⟨q, rfl, hq⟩ | ⟨q, rfl, hq⟩ | rfl
    · rw [hq]
      show T.get (tp q) (repT x f ((m + 1) / 2)) = _
      rw [get_repT x f _ q (by omega)]
      by_cases h1 : 2 * q + 1 < m + 1
      · rw [if_pos h1, if_pos (by omega)]
      · rw [if_neg h1, if_neg (by omega)]
    · rw [hq]
      show T.get (tp q) (repT x f (m / 2)) = _
      rw [get_repT x f _ q (by omega)]
      by_cases h1 : 2 * q + 2 < m + 1
      · rw [if_pos h1, if_pos (by omega)]
      · rw [if_neg h1, if_neg (by omega)]
    · rw [tp_zero, if_pos (by omega)]; rfl

/-! ### Lists -/
theorem appS_eq (l r : List SV) : appS l r = l ++ r := by
  induction l with
  | nil => rfl
  | cons v l ih => exact congrArg (v :: ·) ih
theorem appV_eq (l r : List AV) : appV l r = l ++ r := by
  induction l with
  | nil => rfl
  | cons v l ih => exact congrArg (v :: ·) ih
theorem dropS_eq : ∀ (n : Nat) (l : List SV), dropS n l = l.drop n
  | 0, _ => rfl
  | n + 1, [] => by rw [List.drop_nil]; rfl
  | n + 1, _ :: l => dropS_eq n l
theorem takeS_eq : ∀ (n : Nat) (l : List SV), takeS n l = l.take n
  | 0, _ => rfl
  | _ + 1, [] => rfl
  | n + 1, v :: l => congrArg (v :: ·) (takeS_eq n l)
theorem nth_eq {α : Type} (l : List α) : ∀ n, nth l n = l[n]? := by
  induction l with
  | nil => intro n; rfl
  | cons v l ih => intro n; cases n with
    | zero => rfl
    | succ n => exact (ih n).trans (by simp)
theorem wholeS_eq (l : List SV) : ∀ k, wholeS l k = k l := by
  induction l with
  | nil => intro k; rfl
  | cons v l ih => intro k; exact ih _
theorem wholeN_eq (l : List Nat) : ∀ k, wholeN l k = k l := by
  induction l with
  | nil => intro k; rfl
  | cons v l ih => intro k; show forceN v (fun v => wholeN l fun l => k (v :: l)) = _; rw [forceN_eq]; exact ih _
theorem lenS_eq (l : List SV) : lenS l = l.length := by
  induction l with
  | nil => rfl
  | cons v l ih => exact congrArg Nat.succ ih
theorem timesS_eq (z : List SV) (n : Nat) : timesS z n = (List.replicate n z).flatten := by
  induction n with
  | zero => rfl
  | succ n ih => show appS z (timesS z n) = _; rw [appS_eq, ih]; simp [List.replicate_succ]
theorem xorB_eq (a b : Bool) : xorB a b = (a ^^ b) := by cases a <;> cases b <;> rfl
theorem eqB_eq (a b : Bool) : eqB a b = (a == b) := by cases a <;> cases b <;> rfl
theorem notB_eq (b : Bool) : notB b = !b := by cases b <;> rfl
theorem andB_eq (a b : Bool) : andB a b = (a && b) := by cases a <;> rfl
theorem natsEq_eq : ∀ (l r : List Nat), natsEq l r = (l == r)
  | [], [] => rfl
  | [], _ :: _ => rfl
  | _ :: _, [] => rfl
  | a :: l, b :: r => by
    show (Nat.beq a b && natsEq l r) = (a :: l == b :: r)
    rw [natsEq_eq l r, List.cons_beq_cons, show Nat.beq a b = (a == b) by rw [Bool.eq_iff_iff, Nat.beq_eq]; simp]
theorem overS_eq (vs : List SV) : ∀ (cs : List SV), vs.length ≤ cs.length → overS vs cs = vs ++ cs.drop vs.length := by
  induction vs with
  | nil => intro cs _; rfl
  | cons v vs ih => intro cs h; cases cs with
    | nil => simp at h
    | cons c cs => exact (congrArg (v :: ·) (ih cs (by simpa using h))).trans (by simp)
theorem overAt_eq (vs : List SV) : ∀ (off : Nat) (cs : List SV), off + vs.length ≤ cs.length → overAt off vs cs = cs.take off ++ vs ++ cs.drop (off + vs.length)
  | 0, cs, h => by
    have e : overAt 0 vs cs = overS vs cs := rfl
    rw [e, overS_eq vs cs (by omega)]; simp
  | n + 1, [], h => by simp at h
  | n + 1, c :: cs, h => by
    refine (congrArg (c :: ·) (overAt_eq vs n cs (by simp at h; omega))).trans ?_
    simp [show n + 1 + vs.length = n + vs.length + 1 by omega]

/-! ### Whole numbers -/
theorem addI_eq (x y : Int) : addI x y = x + y := by cases x <;> cases y <;> rfl
theorem mulI_eq (x y : Int) : mulI x y = x * y := by cases x <;> cases y <;> rfl
theorem subI_eq (x y : Int) : subI x y = x - y := by
  cases x with
  | ofNat a => cases y with
    | ofNat b =>
      show Bool.rec (motive := fun _ => Int) (Int.sub (.ofNat a) (.ofNat b)) (.ofNat (Nat.sub a b)) (Nat.ble b a) = _
      cases h : Nat.ble b a with
      | false => rfl
      | true =>
        have := Nat.le_of_ble_eq_true h
        show ((a - b : Nat) : Int) = (a : Int) - (b : Int)
        omega
    | negSucc b => rfl
  | negSucc a => rfl
theorem ltI_eq (x y : Int) : ltI x y = decide (x < y) := by
  cases x with
  | ofNat a => cases y with
    | ofNat b =>
      show Nat.ble (a + 1) b = _
      rw [Bool.eq_iff_iff, Nat.ble_eq]; simp; omega
    | negSucc b => show false = _; rw [eq_comm, decide_eq_false_iff_not]; simp; omega
  | negSucc a => cases y with
    | ofNat b => show true = _; rw [eq_comm, decide_eq_true_iff]; simp; omega
    | negSucc b =>
      show Nat.ble (b + 1) a = _
      rw [Bool.eq_iff_iff, Nat.ble_eq]; simp; omega
theorem eqI_eq (x y : Int) : eqI x y = (x == y) := by
  cases x with
  | ofNat a => cases y with
    | ofNat b =>
      show Nat.beq a b = _
      rw [Bool.eq_iff_iff, Nat.beq_eq]; simp; omega
    | negSucc b => show false = _; rw [eq_comm, beq_eq_false_iff_ne]; simp
  | negSucc a => cases y with
    | ofNat b => show false = _; rw [eq_comm, beq_eq_false_iff_ne]; simp
    | negSucc b =>
      show Nat.beq a b = _
      rw [Bool.eq_iff_iff, Nat.beq_eq]; simp
theorem sameK_eq (k k' : IntKind) : sameK k k' = true ↔ k = k' := by cases k <;> cases k' <;> simp [sameK, kindN]

theorem wrap_fits {k : IntKind} {n : Nat} (h : fits k n = true) : k.wrap (n : Int) = n := by
  have h1 : n < lim k := Nat.le_of_ble_eq_true h
  cases k <;> simp only [lim] at h1 <;> simp only [IntKind.wrap, IntKind.signed, IntKind.bits] <;> simp <;> omega

theorem retN_eq (k : IntKind) (n : Nat) (ret : AV → R) : retN k n ret = ret (.s (.int k (k.wrap n))) := by
  show forceN n _ = _
  rw [forceN_eq, iteR_eq]
  split
  · rename_i h; rw [wrap_fits h]; rfl
  · rw [forceI_eq]; rfl
theorem retI_eq (k : IntKind) (z : Int) (ret : AV → R) : retI k z ret = ret (.s (.int k (k.wrap z))) := by
  cases z with
  | ofNat n => exact retN_eq k n ret
  | negSucc n => exact forceI_eq (k.wrap (.negSucc n)) fun z => ret (.s (.int k z))
theorem retB_eq (b : Bool) (ret : AV → R) : retB b ret = ret (.s (.bool b)) := by cases b <;> rfl
theorem retF_eq (b : Nat) (ret : AV → R) : retF b ret = ret (.s (.flt b)) := forceN_eq _ _
theorem retC_eq (a b : Nat) (ret : AV → R) : retC a b ret = ret (.s (.cpx a b)) := (forceN_eq _ _).trans (forceN_eq _ _)
theorem lookK_eq (v : AV) (k : AV → R) : lookK v k = k v := by cases v <;> rfl

/-! ### What must have been -/
theorem none_some {r : AV × AH} {p : Prop} (h : (none : R) = some r) : p := nomatch h

theorem onInt_some {v : AV} {k : IntKind → Int → R} {r : AV × AH} (h : onInt v k = some r) : ∃ kd n, v = .s (.int kd n) ∧ k kd n = some r := by
  cases v with
  | s v => cases v <;> first | exact ⟨_, _, rfl, h⟩ | exact none_some h
  | agg => exact none_some h
  | tup => exact none_some h
theorem onBool_some {v : AV} {k : Bool → R} {r : AV × AH} (h : onBool v k = some r) : ∃ b, v = .s (.bool b) ∧ k b = some r := by
  cases v with
  | s v => cases v <;> first | exact ⟨_, rfl, h⟩ | exact none_some h
  | agg => exact none_some h
  | tup => exact none_some h
theorem onFlt_some {v : AV} {k : Nat → R} {r : AV × AH} (h : onFlt v k = some r) : ∃ b, v = .s (.flt b) ∧ k b = some r := by
  cases v with
  | s v => cases v <;> first | exact ⟨_, rfl, h⟩ | exact none_some h
  | agg => exact none_some h
  | tup => exact none_some h
theorem onCpx_some {v : AV} {k : Nat → Nat → R} {r : AV × AH} (h : onCpx v k = some r) : ∃ a b, v = .s (.cpx a b) ∧ k a b = some r := by
  cases v with
  | s v => cases v <;> first | exact ⟨_, _, rfl, h⟩ | exact none_some h
  | agg => exact none_some h
  | tup => exact none_some h
theorem onPtr_some {v : AV} {k : Path → Nat → R} {r : AV × AH} (h : onPtr v k = some r) : ∃ id off, v = .s (.ptr id off) ∧ k id off = some r := by
  cases v with
  | s v => cases v <;> first | exact ⟨_, _, rfl, h⟩ | exact none_some h
  | agg => exact none_some h
  | tup => exact none_some h
theorem onSl_some {v : AV} {n : R} {k : Path → Nat → Nat → Option Nat → Nat → R} {r : AV × AH} (h : onSl v n k = some r) :
    (v = .s .snil ∧ n = some r) ∨ ∃ id off len cap z, v = .s (.sl id off len cap z) ∧ k id off len cap z = some r := by
  cases v with
  | s v => cases v <;> first | exact .inl ⟨rfl, h⟩ | exact .inr ⟨_, _, _, _, _, rfl, h⟩ | exact none_some h
  | agg => exact none_some h
  | tup => exact none_some h
theorem onMap_some {v : AV} {n : R} {k : Path → R} {r : AV × AH} (h : onMap v n k = some r) :
    (v = .s .mnil ∧ n = some r) ∨ ∃ id, v = .s (.map id) ∧ k id = some r := by
  cases v with
  | s v => cases v <;> first | exact .inl ⟨rfl, h⟩ | exact .inr ⟨_, rfl, h⟩ | exact none_some h
  | agg => exact none_some h
  | tup => exact none_some h
theorem onStr_some {v : AV} {k : List Nat → R} {r : AV × AH} (h : onStr v k = some r) : ∃ l, v = .s (.str l) ∧ k l = some r := by
  cases v with
  | s v => cases v <;> first | exact ⟨_, rfl, h⟩ | exact none_some h
  | agg => exact none_some h
  | tup => exact none_some h
theorem onAgg_some {v : AV} {k : List SV → R} {r : AV × AH} (h : onAgg v k = some r) : ∃ l, v = .agg l ∧ k l = some r := by
  cases v with
  | s => exact none_some h
  | agg => exact ⟨_, rfl, h⟩
  | tup => exact none_some h
theorem onNat_some {v : AV} {k : Nat → R} {r : AV × AH} (h : onNat v k = some r) : ∃ kd n, v = .s (.int kd (.ofNat n)) ∧ k n = some r := by
  obtain ⟨kd, z, e, h1⟩ := onInt_some h
  cases z with
  | ofNat n => exact ⟨kd, n, e, h1⟩
  | negSucc n => exact none_some h1
/-- the cells of a value -/
def AV.cells? : AV → Option (List SV)
  | .s v => some [v]
  | .agg l => some l
  | .tup _ => none
theorem onCells_some {v : AV} {k : List SV → R} {r : AV × AH} (h : onCells v k = some r) : ∃ l, v.cells? = some l ∧ k l = some r := by
  cases v with
  | s => exact ⟨_, rfl, h⟩
  | agg => exact ⟨_, rfl, h⟩
  | tup => exact none_some h
theorem iteR_some {b : Bool} {t f : R} {r : AV × AH} (h : iteR b t f = some r) : (b = true ∧ t = some r) ∨ (b = false ∧ f = some r) := by
  cases b
  · exact .inr ⟨rfl, h⟩
  · exact .inl ⟨rfl, h⟩
theorem guard_some {b : Bool} {t : R} {r : AV × AH} (h : iteR b t none = some r) : b = true ∧ t = some r :=
  (iteR_some h).resolve_right fun x => none_some x.2
theorem someN_some {o : Option Nat} {k : Nat → R} {r : AV × AH} (h : someN o k = some r) : ∃ n, o = some n ∧ k n = some r := by
  cases o with
  | none => exact none_some h
  | some n => exact ⟨n, rfl, h⟩
theorem int2_some {x y : AV} {k : IntKind → Int → Int → R} {r : AV × AH} (h : int2 x y k = some r) : ∃ kd a b, x = .s (.int kd a) ∧ y = .s (.int kd b) ∧ k kd a b = some r := by
  obtain ⟨ka, a, e1, h1⟩ := onInt_some h
  obtain ⟨kb, b, e2, h2⟩ := onInt_some h1
  obtain ⟨h3, h4⟩ := guard_some h2
  obtain rfl := (sameK_eq _ _).1 h3
  exact ⟨ka, a, b, e1, e2, h4⟩
theorem nats2_some {a b : Int} {k : Nat → Nat → R} {r : AV × AH} (h : nats2 a b k = some r) : ∃ m n, a = .ofNat m ∧ b = .ofNat n ∧ k m n = some r := by
  cases a <;> cases b <;> first | exact ⟨_, _, rfl, rfl, h⟩ | exact none_some h
theorem objK_some {h : AH} {id : Path} {k : AO → R} {r : AV × AH} (hh : objK h id k = some r) : ∃ o, T.get id h.g = some o ∧ k o = some r := by
  unfold objK at hh
  cases hg : T.get id h.g with
  | none => rw [hg] at hh; exact none_some hh
  | some o => rw [hg] at hh; exact ⟨o, rfl, hh⟩
/-- the cells of an object -/
def AO.look : AO → Option (T SV × Nat)
  | .cells t m => some (t, m)
  | .map .. => none
  | .ro t m => some (t, m)
  | .iter .. => none
  | .lit .. => none
/-- may it be written? -/
def AO.wr : AO → Bool
  | .ro .. => false
  | _ => true
/-- is it a row that is to be marked? -/
def AO.lt : AO → Bool
  | .lit .. => true
  | _ => false
theorem cellsK_some {h : AH} {id : Path} {k : T SV → Nat → R} {r : AV × AH} (hh : cellsK h id k = some r) : ∃ o t m, T.get id h.g = some o ∧ o.look = some (t, m) ∧ k t m = some r := by
  obtain ⟨o, ho, hh⟩ := objK_some hh
  cases o with
  | cells t m => exact ⟨_, t, m, ho, rfl, hh⟩
  | map => exact none_some hh
  | ro t m => exact ⟨_, t, m, ho, rfl, hh⟩
  | iter => exact none_some hh
  | lit => exact none_some hh
theorem cellsW_some {h : AH} {id : Path} {k : T SV → Nat → R} {r : AV × AH} (hh : cellsW h id k = some r) : ∃ t m, T.get id h.g = some (.cells t m) ∧ k t m = some r := by
  obtain ⟨o, ho, hh⟩ := objK_some hh
  cases o with
  | cells t m => exact ⟨t, m, ho, hh⟩
  | map => exact none_some hh
  | ro => exact none_some hh
  | iter => exact none_some hh
  | lit => exact none_some hh
theorem entsK_some {h : AH} {id : Path} {k : IntKind → List (Int × AV) → R} {r : AV × AH} (hh : entsK h id k = some r) : ∃ kd es bs clk, T.get id h.g = some (.map kd es bs clk) ∧ k kd es = some r := by
  obtain ⟨o, ho, hh⟩ := objK_some hh
  cases o with
  | cells t => exact none_some hh
  | map kd es bs clk => exact ⟨kd, es, bs, clk, ho, hh⟩
  | ro => exact none_some hh
  | iter => exact none_some hh
  | lit => exact none_some hh
theorem mapK_some {h : AH} {id : Path} {k : IntKind → List (Int × AV) → List Nat → Nat → R} {r : AV × AH} (hh : mapK h id k = some r) : ∃ kd es bs clk, T.get id h.g = some (.map kd es bs clk) ∧ k kd es bs clk = some r := by
  obtain ⟨o, ho, hh⟩ := objK_some hh
  cases o with
  | map kd es bs clk => exact ⟨kd, es, bs, clk, ho, hh⟩
  | _ => exact none_some hh
theorem iterK_some {h : AH} {id : Path} {k : Path → Nat → List Nat → Nat → R} {r : AV × AH} (hh : iterK h id k = some r) : ∃ m since seen last, T.get id h.g = some (.iter m since seen last) ∧ k m since seen last = some r := by
  obtain ⟨o, ho, hh⟩ := objK_some hh
  cases o with
  | iter m since seen last => exact ⟨m, since, seen, last, ho, hh⟩
  | _ => exact none_some hh
theorem litK_some {h : AH} {id : Path} {k : List SV → R} {r : AV × AH} (hh : litK h id k = some r) : ∃ cs, T.get id h.g = some (.lit cs) ∧ k cs = some r := by
  obtain ⟨o, ho, hh⟩ := objK_some hh
  cases o with
  | lit cs => exact ⟨cs, ho, hh⟩
  | _ => exact none_some hh
theorem oneN_some {l : List Nat} {k : Nat → R} {r : AV × AH} (hh : oneN l k = some r) : ∃ b, l = [b] ∧ k b = some r := by
  match l, hh with
  | [b], hh => exact ⟨b, rfl, hh⟩
theorem oneK_some {es : List (Int × AV)} {bs : List Nat} {k : Int → AV → Nat → R} {r : AV × AH} (hh : oneK es bs k = some r) : ∃ e b, es = [e] ∧ bs = [b] ∧ k e.1 e.2 b = some r := by
  match es, bs, hh with
  | [e], [b], hh => exact ⟨e, b, rfl, rfl, hh⟩
theorem tv_some {v : AV} {k : TV → R} {r : AV × AH} (hh : tv v k = some r) : ∃ u, k u = some r ∧ ((∃ s, v = .s s ∧ u = .s s) ∨ ∃ l, v = .agg l ∧ u = .agg l) := by
  cases v with
  | s s => exact ⟨_, hh, .inl ⟨_, rfl, rfl⟩⟩
  | agg l => exact ⟨_, hh, .inr ⟨_, rfl, rfl⟩⟩
  | tup => exact none_some hh
theorem cellK_some {t : T SV} {off : Nat} {k : SV → R} {r : AV × AH} (h : cellK t off k = some r) : ∃ v, T.get (tp off) t = some v ∧ k v = some r := by
  unfold cellK at h
  rw [pathK_eq] at h
  cases hg : T.get (tp off) t with
  | none => rw [hg] at h; exact none_some h
  | some v => rw [hg] at h; exact ⟨v, rfl, h⟩
theorem rowK_some {t : T SV} (n : Nat) : ∀ {off : Nat} {k : List SV → R} {r : AV × AH}, rowK t n off k = some r →
    ∃ l : List SV, l.length = n ∧ (∀ j, j < n → T.get (tp (off + j)) t = l[j]?) ∧ k l = some r := by
  induction n with
  | zero => intro off k r h; exact ⟨[], rfl, fun j hj => by omega, h⟩
  | succ n ih =>
    intro off k r h
    obtain ⟨v, hv, h⟩ := cellK_some (k := fun v => forceN (Nat.succ off) fun o => rowK t n o fun l => k (v :: l)) h
    rw [forceN_eq] at h
    obtain ⟨l, hl, hj, h⟩ := ih h
    refine ⟨v :: l, by simp [hl], fun j hj' => ?_, h⟩
    cases j with
    | zero => simpa using hv
    | succ j => have := hj j (by omega); rw [show off + (j + 1) = off.succ + j by omega, this]; simp
theorem getK_some {h : AH} {id : Path} {off n : Nat} {k : List SV → R} {r : AV × AH} (hh : getK h id off n k = some r) :
    (n = 0 ∧ k [] = some r) ∨ ∃ o t m l, T.get id h.g = some o ∧ o.look = some (t, m) ∧ 0 < n ∧ l.length = n ∧ (∀ j, j < n → T.get (tp (off + j)) t = l[j]?) ∧ k l = some r := by
  cases n with
  | zero => exact .inl ⟨rfl, hh⟩
  | succ n =>
    obtain ⟨o, t, m, ht, hlk, hh⟩ := cellsK_some (k := fun t _ => rowK t (n + 1) off k) hh
    obtain ⟨l, h1, h2, h3⟩ := rowK_some (n + 1) hh
    exact .inr ⟨o, t, m, l, ht, hlk, by omega, h1, h2, h3⟩
theorem onH_eq (h : AH) (k : T AO → Nat → R) : onH h k = k h.g h.next := by cases h; rfl
theorem newK_eq (h : AH) (o : AO) (k : Path → AH → R) : newK h o k = k (tp h.next) ⟨h.g.put (tp h.next) (some o), h.next + 1⟩ := by
  unfold newK; rw [onH_eq, pathK_eq, setO_eq, forceN_eq]
theorem putK_eq (d : Option Path) (v : AV) (tm : Tm) (k : Tm → R) : putK d v tm k = k (match d with | none => tm | some d => tm.put d (some v)) := by
  cases d with
  | none => rfl
  | some d => exact setV_eq _ _ _ _
end Go.Bb
