/-
  How the abstract machine's values and heap stand to the model's: an object of the abstract heap lies somewhere in the world ('Emb'), where is nobody's business.
-/
import Derived.Test.YtjdcodjoheckcaaGreatDoorBbBase
import Derived.Laws.IdiomCopy
import Derived.RowKit3
namespace Go.Bb

structure Loc where
  block : Nat
  base : Nat
  size : Nat

abbrev Emb := Path → Option Loc

inductive All2 {α β : Type} (Q : α → β → Prop) : List α → List β → Prop
  | nil : All2 Q [] []
  | cons {a b l r} : Q a b → All2 Q l r → All2 Q (a :: l) (b :: r)

def Loc.at (l : Loc) (off : Nat) : Addr := ⟨l.block, l.base + off, none⟩

def CapR (ρ : Emb) (p : Path × Nat) (v : Value) : Prop := ∃ l, ρ p.1 = some l ∧ v = .pointer (some (l.at p.2))

inductive SR (ρ : Emb) : SV → Value → Prop
  | bool (b : Bool) : SR ρ (.bool b) (.bool b)
  | int (k : IntKind) (n : Int) : SR ρ (.int k n) (.int k n)
  | flt (b : Nat) : SR ρ (.flt b) (.float .f64 b)
  | cpx (a b : Nat) : SR ρ (.cpx a b) (.complex .f64 a b)
  | pnil : SR ρ .pnil (.pointer none)
  | ptr {id : Path} {off : Nat} {l : Loc} (h : ρ id = some l) : SR ρ (.ptr id off) (.pointer (some (l.at off)))
  | snil : SR ρ .snil (.slice none 0 0)
  | sl {id : Path} {off len c z : Nat} {l : Loc} (h : ρ id = some l) : SR ρ (.sl id off len (some c) z) (.slice (some (l.at off)) len c)
  | slu {id : Path} {off len c z : Nat} {l : Loc} (h : ρ id = some l) (h1 : len ≤ c) (h2 : l.base + off + c * z ≤ l.size) : SR ρ (.sl id off len none z) (.slice (some (l.at off)) len c)
  | mnil : SR ρ .mnil (.map none)
  | map {id : Path} {l : Loc} (h : ρ id = some l) : SR ρ (.map id) (.map (some l.block))
  | fn {f : Nat} {caps : List (Path × Nat)} {vs : Array Value} (hf : f < 1000000) (h : All2 (CapR ρ) caps vs.toList) : SR ρ (.fn f caps) (.func (.func f) #[] vs)
  -- bound to its first argument
  | bnd {f : Nat} {id : Path} {off : Nat} {l : Loc} (h : ρ id = some l) : SR ρ (.fn (f + 1000000) [(id, off)]) (.func (.func f) #[.pointer (some (l.at off))] #[])
  | fnil : SR ρ .fnil .nilFunc
  | str (s : ByteArray) : SR ρ (.str (s.data.toList.map UInt8.toNat)) (.string s)

inductive TR (ρ : Emb) : TV → Value → Prop
  | s {v : SV} {c : Value} (h : SR ρ v c) : TR ρ (.s v) c
  | agg {l : List SV} {cs : Array Value} (h : All2 (SR ρ) l cs.toList) : TR ρ (.agg l) (.agg cs)

inductive VR (ρ : Emb) : AV → Value → Prop
  | s {v : SV} {c : Value} (h : SR ρ v c) : VR ρ (.s v) c
  | agg {l : List SV} {cs : Array Value} (h : All2 (SR ρ) l cs.toList) : VR ρ (.agg l) (.agg cs)
  | tup {l : List TV} {vs : Array Value} (h : All2 (TR ρ) l vs.toList) : VR ρ (.tup l) (.tuple vs)

def Sub (ρ ρ' : Emb) : Prop := ∀ p l, ρ p = some l → ρ' p = some l
theorem Sub.refl (ρ : Emb) : Sub ρ ρ := fun _ _ h => h
theorem Sub.trans {a b c : Emb} (h : Sub a b) (k : Sub b c) : Sub a c := fun p l x => k p l (h p l x)

theorem All2.mono {α β : Type} {Q Q' : α → β → Prop} (h : ∀ a b, Q a b → Q' a b) {l : List α} {r : List β} (x : All2 Q l r) : All2 Q' l r := by
  induction x with
  | nil => exact .nil
  | cons a _ ih => exact .cons (h _ _ a) ih
theorem All2.length {α β : Type} {Q : α → β → Prop} {l : List α} {r : List β} (x : All2 Q l r) : l.length = r.length := by
  induction x with
  | nil => rfl
  | cons _ _ ih => simp [ih]
theorem All2.get {α β : Type} {Q : α → β → Prop} {l : List α} {r : List β} (x : All2 Q l r) : ∀ {i : Nat} {a : α}, l[i]? = some a → ∃ b, r[i]? = some b ∧ Q a b := by
  induction x with
  | nil => intro i a h; simp at h
  | @cons a b l r h _ ih =>
    intro i a' h'
    cases i with
    | zero => simp at h'; subst h'; exact ⟨b, by simp, h⟩
    | succ i => simpa using ih (by simpa using h')
theorem All2.of_get {α β : Type} {Q : α → β → Prop} : ∀ {l : List α} {r : List β}, l.length = r.length → (∀ (i : Nat) a, l[i]? = some a → ∃ b, r[i]? = some b ∧ Q a b) → All2 Q l r
  | [], [], _, _ => .nil
  | [], _ :: _, h, _ => by simp at h
  | _ :: _, [], h, _ => by simp at h
  | a :: l, b :: r, h, k => by
    obtain ⟨b', hb, hq⟩ := k 0 a (by simp)
    simp at hb; subst hb
    exact .cons hq (.of_get (by simpa using h) fun i x hx => by simpa using k (i + 1) x (by simpa using hx))
theorem All2.append {α β : Type} {Q : α → β → Prop} {l l' : List α} {r r' : List β} (x : All2 Q l r) (y : All2 Q l' r') : All2 Q (l ++ l') (r ++ r') := by
  induction x with
  | nil => exact y
  | cons a _ ih => exact .cons a ih
theorem All2.take {α β : Type} {Q : α → β → Prop} {l : List α} {r : List β} (x : All2 Q l r) : ∀ n, All2 Q (l.take n) (r.take n) := by
  induction x with
  | nil => intro n; simp; exact .nil
  | cons a _ ih => intro n; cases n with
    | zero => exact .nil
    | succ n => exact .cons a (ih n)
theorem All2.drop {α β : Type} {Q : α → β → Prop} {l : List α} {r : List β} (x : All2 Q l r) : ∀ n, All2 Q (l.drop n) (r.drop n) := by
  induction x with
  | nil => intro n; simp; exact .nil
  | cons a h ih => intro n; cases n with
    | zero => exact .cons a h
    | succ n => exact ih n
theorem All2.replicate {α β : Type} {Q : α → β → Prop} {a : α} {b : β} (h : Q a b) : ∀ n, All2 Q (List.replicate n a) (List.replicate n b)
  | 0 => .nil
  | n + 1 => .cons h (All2.replicate h n)

theorem CapR.mono {ρ ρ' : Emb} (hs : Sub ρ ρ') {p : Path × Nat} {v : Value} (h : CapR ρ p v) : CapR ρ' p v := by
  obtain ⟨l, h1, h2⟩ := h; exact ⟨l, hs _ _ h1, h2⟩
theorem SR.mono {ρ ρ' : Emb} (hs : Sub ρ ρ') {v : SV} {c : Value} (h : SR ρ v c) : SR ρ' v c := by
  cases h with
  | ptr h => exact .ptr (hs _ _ h)
  | sl h => exact .sl (hs _ _ h)
  | slu h h1 h2 => exact .slu (hs _ _ h) h1 h2
  | map h => exact .map (hs _ _ h)
  | fn hf h => exact .fn hf (h.mono fun _ _ x => x.mono hs)
  | bnd h => exact .bnd (hs _ _ h)
  | bool => exact .bool _
  | int => exact .int _ _
  | flt => exact .flt _
  | cpx => exact .cpx _ _
  | pnil => exact .pnil
  | snil => exact .snil
  | mnil => exact .mnil
  | fnil => exact .fnil
  | str => exact .str _
theorem TR.mono {ρ ρ' : Emb} (hs : Sub ρ ρ') {v : TV} {c : Value} (h : TR ρ v c) : TR ρ' v c := by
  cases h with
  | s h => exact .s (h.mono hs)
  | agg h => exact .agg (h.mono fun _ _ x => x.mono hs)
theorem VR.mono {ρ ρ' : Emb} (hs : Sub ρ ρ') {v : AV} {c : Value} (h : VR ρ v c) : VR ρ' v c := by
  cases h with
  | s h => exact .s (h.mono hs)
  | agg h => exact .agg (h.mono fun _ _ x => x.mono hs)
  | tup h => exact .tup (h.mono fun _ _ x => x.mono hs)

section inv
variable {ρ : Emb} {c : Value}
theorem VR.int {k : IntKind} {n : Int} (h : VR ρ (.s (.int k n)) c) : c = .int k n := by cases h with | s h => cases h; rfl
theorem VR.bool {b : Bool} (h : VR ρ (.s (.bool b)) c) : c = .bool b := by cases h with | s h => cases h; rfl
theorem VR.flt {b : Nat} (h : VR ρ (.s (.flt b)) c) : c = .float .f64 b := by cases h with | s h => cases h; rfl
theorem VR.cpx {a b : Nat} (h : VR ρ (.s (.cpx a b)) c) : c = .complex .f64 a b := by cases h with | s h => cases h; rfl
theorem VR.pnil (h : VR ρ (.s .pnil) c) : c = .pointer none := by cases h with | s h => cases h; rfl
theorem VR.snil (h : VR ρ (.s .snil) c) : c = .slice none 0 0 := by cases h with | s h => cases h; rfl
theorem VR.mnil (h : VR ρ (.s .mnil) c) : c = .map none := by cases h with | s h => cases h; rfl
theorem VR.fnil (h : VR ρ (.s .fnil) c) : c = .nilFunc := by cases h with | s h => cases h; rfl
theorem VR.ptr {id : Path} {off : Nat} (h : VR ρ (.s (.ptr id off)) c) : ∃ l, ρ id = some l ∧ c = .pointer (some (l.at off)) := by cases h with | s h => cases h; exact ⟨_, ‹_›, rfl⟩
theorem VR.map {id : Path} (h : VR ρ (.s (.map id)) c) : ∃ l, ρ id = some l ∧ c = .map (some l.block) := by cases h with | s h => cases h; exact ⟨_, ‹_›, rfl⟩
theorem VR.sl {id : Path} {off len : Nat} {cap : Option Nat} {z : Nat} (h : VR ρ (.s (.sl id off len cap z)) c) :
    ∃ l n, ρ id = some l ∧ c = .slice (some (l.at off)) len n ∧ ((cap = some n) ∨ (cap = none ∧ len ≤ n ∧ l.base + off + n * z ≤ l.size)) := by
  cases h with
  | s h => cases h with
    | sl h => exact ⟨_, _, h, rfl, .inl rfl⟩
    | slu h h1 h2 => exact ⟨_, _, h, rfl, .inr ⟨rfl, h1, h2⟩⟩
theorem VR.fn {f : Nat} {caps : List (Path × Nat)} (h : VR ρ (.s (.fn f caps)) c) : (f < 1000000 ∧ ∃ vs : Array Value, c = .func (.func f) #[] vs ∧ All2 (CapR ρ) caps vs.toList) ∨
    ∃ g id off l, f = g + 1000000 ∧ caps = [(id, off)] ∧ ρ id = some l ∧ c = .func (.func g) #[.pointer (some (l.at off))] #[] := by
  cases h with
  | s h => cases h with
    | fn hf h => exact .inl ⟨hf, _, rfl, h⟩
    | bnd h => exact .inr ⟨_, _, _, _, rfl, rfl, h, rfl⟩
theorem VR.fn' {f : Nat} {caps : List (Path × Nat)} (h : VR ρ (.s (.fn f caps)) c) : ∃ (g : Nat) (fs vs : Array Value), c = .func (.func g) fs vs := by
  rcases h.fn with ⟨_, vs, h, _⟩ | ⟨g, _, _, _, _, _, _, h⟩
  · exact ⟨_, _, _, h⟩
  · exact ⟨_, _, _, h⟩
theorem VR.str {l : List Nat} (h : VR ρ (.s (.str l)) c) : ∃ s : ByteArray, c = .string s ∧ l = s.data.toList.map UInt8.toNat := by cases h with | s h => cases h; exact ⟨_, rfl, rfl⟩
theorem VR.agg' {l : List SV} (h : VR ρ (.agg l) c) : ∃ cs : Array Value, c = .agg cs ∧ All2 (SR ρ) l cs.toList := by cases h with | agg h => exact ⟨_, rfl, h⟩
theorem VR.tup' {l : List TV} (h : VR ρ (.tup l) c) : ∃ vs : Array Value, c = .tuple vs ∧ All2 (TR ρ) l vs.toList := by cases h with | tup h => exact ⟨_, rfl, h⟩
theorem SR.cells {s : SV} (h : SR ρ s c) : c.cells = #[c] ∧ c.oneCell' = true := by cases h <;> exact ⟨rfl, rfl⟩
/-- the cells of a value -/
theorem VR.cells {v : AV} {l : List SV} (h : VR ρ v c) (hl : v.cells? = some l) : All2 (SR ρ) l c.cells.toList := by
  cases h with
  | s h => simp [AV.cells?] at hl; subst hl; rw [h.cells.1]; exact .cons h .nil
  | agg h => simp [AV.cells?] at hl; subst hl; exact h
  | tup => simp [AV.cells?] at hl
theorem undef_rel : VR ρ undefA undef := .tup .nil
theorem VR.of_tv {v : TV} (h : TR ρ v c) : ∀ {ret : AV → R} {r : AV × AH}, tvK v ret = some r → ∃ u, ret u = some r ∧ VR ρ u c := by
  intro ret r hr
  cases h with
  | s h => exact ⟨_, hr, .s h⟩
  | agg h => exact ⟨_, hr, .agg h⟩
end inv

/-! ### Constants -/
theorem SV.ofValue_rel {v : Value} {s : SV} (ρ : Emb) (h : SV.ofValue v = some s) : SR ρ s v := by
  unfold SV.ofValue at h
  split at h <;> first | (cases h; constructor) | (simp at h)
theorem SV.ofCells_rel (ρ : Emb) : ∀ {l : List Value} {r : List SV}, SV.ofCells l = some r → All2 (SR ρ) r l
  | [], r, h => by simp [SV.ofCells] at h; subst h; exact .nil
  | v :: l, r, h => by
    simp only [SV.ofCells] at h
    split at h
    · rename_i a r' h1 h2; cases h; exact .cons (SV.ofValue_rel ρ h1) (SV.ofCells_rel ρ h2)
    · simp at h
theorem AV.ofConst_rel {v : Value} {a : AV} (ρ : Emb) (h : AV.ofConst v = some a) : VR ρ a v := by
  unfold AV.ofConst at h
  split at h
  · rename_i cs
    simp only [Option.map_eq_some_iff] at h
    obtain ⟨l, hl, rfl⟩ := h
    exact .agg (SV.ofCells_rel ρ hl)
  · simp only [Option.map_eq_some_iff] at h
    obtain ⟨l, hl, rfl⟩ := h
    exact .s (SV.ofValue_rel ρ hl)

/-! ### Operands -/
/-- the operands of an operation, in the model as in the abstract machine -/
def EvR (ρ : Emb) (tm : Tm) (ce : Operand → Value) (l : Array Operand) : Prop := ∀ x ∈ l, ∀ ax, opd x = some ax → VR ρ (ax tm) (ce x)

def TmR (ρ : Emb) (tm : Tm) (tmps : Array Value) : Prop := ∀ t, VR ρ (gs (tp t) tm) (tmps.getD t undef)

theorem EvR.of_tmps {ρ : Emb} {tm : Tm} {a : Act} (h : TmR ρ tm a.tmps) (l : Array Operand) : EvR ρ tm a.eval l := by
  intro x _ ax hx
  cases x with
  | tmp t => simp [opd] at hx; subst hx; exact h t
  | const v =>
    simp only [opd, Option.map_eq_some_iff] at hx
    obtain ⟨b, hb, rfl⟩ := hx
    exact AV.ofConst_rel ρ hb
  | global g => simp [opd] at hx
  | func f =>
    simp only [opd] at hx
    split at hx
    · cases hx; exact .s (.fn ‹_› .nil)
    · cases hx

theorem opds_rel {ρ : Emb} {tm : Tm} {ce : Operand → Value} : ∀ {l : List Operand} {r : List Opd}, opds l = some r → (∀ x ∈ l, ∀ ax, opd x = some ax → VR ρ (ax tm) (ce x)) → All2 (fun (ax : Opd) x => VR ρ (ax tm) (ce x)) r l
  | [], r, h, _ => by simp [opds] at h; subst h; exact .nil
  | x :: l, r, h, he => by
    simp only [opds] at h
    split at h
    · rename_i a r' h1 h2; cases h
      exact .cons (he x (by simp) a h1) (opds_rel h2 fun y hy => he y (by simp [hy]))
    · simp at h

theorem argsK_some {tm : Tm} {l : List Opd} : ∀ {k : List AV → R} {r : AV × AH}, argsK l tm k = some r → k (l.map fun x => x tm) = some r := by
  induction l with
  | nil => intro k r h; exact h
  | cons x l ih =>
    intro k r h
    have e : argsK (x :: l) tm k = lookK (x tm) fun v => argsK l tm fun r => k (v :: r) := rfl
    rw [e, lookK_eq] at h
    exact ih h

theorem All2.map_left {α β γ : Type} {Q : γ → β → Prop} {f : α → γ} {l : List α} {r : List β} (h : All2 (fun a b => Q (f a) b) l r) : All2 Q (l.map f) r := by
  induction h with
  | nil => exact .nil
  | cons a _ ih => exact .cons a ih
theorem All2.map_right {α β γ : Type} {Q : α → γ → Prop} {f : β → γ} {l : List α} {r : List β} (h : All2 (fun a b => Q a (f b)) l r) : All2 Q l (r.map f) := by
  induction h with
  | nil => exact .nil
  | cons a _ ih => exact .cons a ih
end Go.Bb
