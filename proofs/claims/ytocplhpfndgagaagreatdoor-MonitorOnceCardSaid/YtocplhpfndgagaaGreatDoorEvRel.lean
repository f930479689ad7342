/- What a store and a world have to do with each other. -/
import Derived.Test.YtocplhpfndgagaaGreatDoorEvA
import Derived.Laws.World
import Derived.Laws.Sem
import Derived.Deep.AppendSrc
namespace Go.Ev

theorem T.get_leaf {α : Type} (n : Nat) : (T.leaf : T α).get n = none := rfl

theorem roadF_succ (f k : Nat) : roadF (f + 1) (k + 1) = Nat.beq (Nat.mod k 2) 0 :: roadF f (Nat.div k 2) := rfl
theorem roadF_zero (f : Nat) : roadF f 0 = [] := by cases f <;> rfl

theorem roadF_inj : ∀ (f g n m : Nat), n ≤ f → m ≤ g → roadF f n = roadF g m → n = m := by
  intro f
  induction f with
  | zero =>
    intro g n m hn hm h
    obtain rfl : n = 0 := by omega
    rw [roadF_zero] at h
    cases m with
    | zero => rfl
    | succ m => cases g with
      | zero => omega
      | succ g => rw [roadF_succ] at h; simp at h
  | succ f ih =>
    intro g n m hn hm h
    cases n with
    | zero =>
      rw [roadF_zero] at h
      cases m with
      | zero => rfl
      | succ m => cases g with
        | zero => omega
        | succ g => rw [roadF_succ] at h; simp at h
    | succ n =>
      rw [roadF_succ] at h
      cases m with
      | zero => rw [roadF_zero] at h; simp at h
      | succ m => cases g with
        | zero => omega
        | succ g =>
          rw [roadF_succ] at h
          simp only [List.cons.injEq] at h
          obtain ⟨h1, h2⟩ := h
          have hd : ∀ x : Nat, Nat.div x 2 = x / 2 := fun _ => rfl
          have hmo : ∀ x : Nat, Nat.mod x 2 = x % 2 := fun _ => rfl
          rw [hd, hd] at h2
          rw [hmo, hmo] at h1
          have h2 := ih g _ _ (by omega) (by omega) h2
          have h1 : (n % 2 = 0) ↔ (m % 2 = 0) := by
            have a1 : ∀ x : Nat, Nat.beq x 0 = true ↔ x = 0 := by intro x; simp
            rw [← a1, ← a1, h1]
          omega

theorem road_inj {n m : Nat} (h : road n = road m) : n = m := roadF_inj n m n m (Nat.le_refl _) (Nat.le_refl _) h

theorem T.getR_oneR {α : Type} : ∀ (p : List Bool) (o : Option α) (q : List Bool) (x : α), (T.oneR p o).getR q = some x → q = p ∧ o = some x := by
  intro p
  induction p with
  | nil =>
    intro o q x h
    cases q with
    | nil => exact ⟨rfl, h⟩
    | cons b q => cases b <;> exact absurd (show (none : Option α) = some x from h) (by simp)
  | cons b p ih =>
    intro o q x h
    cases q with
    | nil => cases b <;> exact absurd (show (none : Option α) = some x from h) (by simp)
    | cons c q =>
      cases b <;> cases c <;> first
        | exact absurd (show (none : Option α) = some x from h) (by simp)
        | (obtain ⟨rfl, e⟩ := ih o q x h; exact ⟨rfl, e⟩)

theorem T.getR_putR {α : Type} : ∀ (t : T α) (p : List Bool) (o : Option α) (q : List Bool) (x : α), (t.putR p o).getR q = some x → (q = p ∧ o = some x) ∨ (q ≠ p ∧ t.getR q = some x) := by
  intro t
  induction t with
  | leaf => intro p o q x h; exact .inl (T.getR_oneR p o q x h)
  | node l v r ihl ihr =>
    intro p o q x h
    cases p with
    | nil =>
      cases q with
      | nil => exact .inl ⟨rfl, h⟩
      | cons c q => exact .inr ⟨by simp, h⟩
    | cons b p =>
      cases q with
      | nil => cases b <;> exact .inr ⟨by simp, h⟩
      | cons c q =>
        cases b <;> cases c
        · rcases ihr p o q x h with ⟨rfl, e⟩ | ⟨e, g⟩
          · exact .inl ⟨rfl, e⟩
          · exact .inr ⟨by simpa using e, g⟩
        · exact .inr ⟨by simp, h⟩
        · exact .inr ⟨by simp, h⟩
        · rcases ihl p o q x h with ⟨rfl, e⟩ | ⟨e, g⟩
          · exact .inl ⟨rfl, e⟩
          · exact .inr ⟨by simpa using e, g⟩

theorem T.get_put {α : Type} (t : T α) (n : Nat) (o : Option α) (m : Nat) (x : α) (h : (t.put n o).get m = some x) :
    (m = n ∧ o = some x) ∨ (m ≠ n ∧ t.get m = some x) := by
  rcases T.getR_putR t _ o _ x h with ⟨e, g⟩ | ⟨e, g⟩
  · exact .inl ⟨road_inj e, g⟩
  · exact .inr ⟨fun q => e (by rw [q]), g⟩

theorem T.getR_turnR {α : Type} : ∀ (t : T α) (p : List Bool) (o : α) (q : List Bool) (x : α), (t.turnR p o).getR q = some x → t.getR q ≠ none ∧ ((q = p ∧ o = x) ∨ (q ≠ p ∧ t.getR q = some x)) := by
  intro t
  induction t with
  | leaf => intro p o q x h; exact absurd (show (none : Option α) = some x from h) (by simp)
  | node l v r ihl ihr =>
    intro p o q x h
    cases p with
    | nil =>
      cases q with
      | nil => cases v with
        | none => exact absurd (show (none : Option α) = some x from h) (by simp)
        | some y => exact ⟨fun e => absurd (show some y = none from e) (by simp), .inl ⟨rfl, by have : some o = some x := h; simpa using this⟩⟩
      | cons c q =>
        have h : (T.node l v r).getR (c :: q) = some x := h
        exact ⟨by rw [h]; simp, .inr ⟨by simp, h⟩⟩
    | cons b p =>
      cases q with
      | nil =>
        have h : (T.node l v r).getR [] = some x := by cases b <;> exact h
        exact ⟨by rw [h]; simp, .inr ⟨by simp, h⟩⟩
      | cons c q =>
        cases b <;> cases c
        · obtain ⟨a, k⟩ := ihr p o q x h
          refine ⟨a, ?_⟩
          rcases k with ⟨rfl, e⟩ | ⟨e, g⟩
          · exact .inl ⟨rfl, e⟩
          · exact .inr ⟨by simpa using e, g⟩
        · have h : (T.node l v r).getR (true :: q) = some x := h
          exact ⟨by rw [h]; simp, .inr ⟨by simp, h⟩⟩
        · have h : (T.node l v r).getR (false :: q) = some x := h
          exact ⟨by rw [h]; simp, .inr ⟨by simp, h⟩⟩
        · obtain ⟨a, k⟩ := ihl p o q x h
          refine ⟨a, ?_⟩
          rcases k with ⟨rfl, e⟩ | ⟨e, g⟩
          · exact .inl ⟨rfl, e⟩
          · exact .inr ⟨by simpa using e, g⟩

theorem putE_get {e : Env} {d : Option Tmp} {v u : Value} {t : Tmp} (h : T.get (putE e d v) t = some u) : T.get e t ≠ none ∧ ((d = some t ∧ u = v) ∨ (d ≠ some t ∧ T.get e t = some u)) := by
  cases d with
  | none => have h : T.get e t = some u := h; exact ⟨by rw [h]; simp, .inr ⟨by simp, h⟩⟩
  | some d =>
    obtain ⟨a, k⟩ := T.getR_turnR e (road d) v (road t) u h
    refine ⟨a, ?_⟩
    rcases k with ⟨g, e1⟩ | ⟨g, e1⟩
    · exact .inl ⟨by rw [road_inj g], e1.symm⟩
    · exact .inr ⟨fun q => g (by cases q; rfl), e1⟩

theorem T.get_puts {α : Type} : ∀ (l : List α) (t : T α) (n m : Nat) (x : α), (t.puts n l).get m = some x →
    (n ≤ m ∧ l[m - n]? = some x) ∨ ((m < n ∨ n + l.length ≤ m) ∧ t.get m = some x) := by
  intro l
  induction l with
  | nil => intro t n m x h; exact .inr ⟨by simp; omega, h⟩
  | cons y l ih =>
    intro t n m x h
    rw [show t.puts n (y :: l) = (t.put n (some y)).puts (n + 1) l from rfl] at h
    rcases ih _ _ _ _ h with ⟨a, b⟩ | ⟨a, b⟩
    · refine .inl ⟨by omega, ?_⟩
      have : m - n = (m - (n + 1)) + 1 := by omega
      rw [this]; simpa using b
    · rcases T.get_put _ _ _ _ _ b with ⟨c, d⟩ | ⟨c, d⟩
      · exact .inl ⟨by omega, by simp at d; simp [c, d]⟩
      · exact .inr ⟨by simp only [List.length_cons]; omega, d⟩

theorem T.gets_spec {α : Type} : ∀ (k n : Nat) (t : T α) (l : List α), t.gets n k = some l → l.length = k ∧ ∀ i, i < k → t.get (n + i) = l[i]? := by
  intro k
  induction k with
  | zero => intro n t l h; simp [T.gets] at h; subst h; exact ⟨rfl, fun i hi => by omega⟩
  | succ k ih =>
    intro n t l h
    simp only [T.gets] at h
    split at h
    · rename_i x hx
      split at h
      · rename_i l' hl'
        simp only [Option.some.injEq] at h
        subst h
        obtain ⟨a, b⟩ := ih _ _ _ hl'
        refine ⟨by simp [a], fun i hi => ?_⟩
        cases i with
        | zero => simpa using hx
        | succ i =>
          have := b i (by omega)
          rw [show n + (i + 1) = n + 1 + i by omega, this]
          simp
      · simp at h
    · simp at h

/-! ## values -/

structure Loc where
  blk : Nat
  sh : Nat
  cap : Nat

abbrev Rho := Nat → Option Loc

def Rho.le (r r' : Rho) : Prop := ∀ i l, r i = some l → r' i = some l

theorem Rho.le.refl (r : Rho) : r.le r := fun _ _ h => h
theorem Rho.le.trans {a b c : Rho} (h : a.le b) (k : b.le c) : a.le c := fun i l x => k i l (h i l x)

def Loc.capOf (l : Loc) (c : Nat) : Nat := if c < CB then c else l.cap - (c - CB)

inductive VR (r : Rho) : Value → Value → Prop
  | bool (b : Bool) : VR r (.bool b) (.bool b)
  | int (k : IntKind) (n : Int) : VR r (.int k n) (.int k n)
  | string (s : ByteArray) : VR r (.string s) (.string s)
  | nilPtr : VR r (.pointer none) (.pointer none)
  | ptr {i o : Nat} {l : Loc} (h : r i = some l) : VR r (.pointer (some ⟨i, o, none⟩)) (.pointer (some ⟨l.blk, o + l.sh, none⟩))
  | nilSlice (n c : Nat) (h : n ≤ c) : VR r (.slice none n c) (.slice none n c)
  | slice {i o n c : Nat} {l : Loc} (h : r i = some l) (hn : n ≤ l.capOf c) : VR r (.slice (some ⟨i, o, none⟩) n c) (.slice (some ⟨l.blk, o + l.sh, none⟩) n (l.capOf c))
  | slice0 {i o c : Nat} {x : Addr} (h : CB ≤ c ∨ c = 0) : VR r (.slice (some ⟨i, o, none⟩) 0 c) (.slice (some x) 0 0)
  | nilMap : VR r (.map none) (.map none)
  | map {i : Nat} {l : Loc} (h : r i = some l) : VR r (.map (some i)) (.map (some l.blk))
  | func {f : FuncId} {a a' b b' : Array Value} (ha : a.size = a'.size) (hb : b.size = b'.size)
      (h : ∀ (i : Nat) (v v' : Value), a[i]? = some v → a'[i]? = some v' → VR r v v')
      (k : ∀ (i : Nat) (v v' : Value), b[i]? = some v → b'[i]? = some v' → VR r v v') : VR r (.func (.func f) a b) (.func (.func f) a' b')
  | yield {i : Nat} {l : Loc} (h : r i = some l) : VR r (.func (.yield i) ⟨[]⟩ ⟨[]⟩) (.func (.yield l.blk) ⟨[]⟩ ⟨[]⟩)
  | nilFunc : VR r .nilFunc .nilFunc
  | iface (t : TypeId) {v v' : Value} (h : VR r v v') : VR r (.iface t v) (.iface t v')
  | nilIface : VR r .nilIface .nilIface
  | agg {a a' : Array Value} (ha : a.size = a'.size) (h : ∀ (i : Nat) (v v' : Value), a[i]? = some v → a'[i]? = some v' → VR r v v') : VR r (.agg a) (.agg a')
  | tuple {a a' : Array Value} (ha : a.size = a'.size) (h : ∀ (i : Nat) (v v' : Value), a[i]? = some v → a'[i]? = some v' → VR r v v') : VR r (.tuple a) (.tuple a')

theorem VR.mono {r r' : Rho} (hr : r.le r') {v v' : Value} (h : VR r v v') : VR r' v v' := by
  induction h with
  | bool b => exact .bool b
  | int k n => exact .int k n
  | string s => exact .string s
  | nilPtr => exact .nilPtr
  | ptr h => exact .ptr (hr _ _ h)
  | nilSlice n c h => exact .nilSlice n c h
  | slice h hn => exact .slice (hr _ _ h) hn
  | slice0 h => exact .slice0 h
  | nilMap => exact .nilMap
  | map h => exact .map (hr _ _ h)
  | func ha hb _ _ h k => exact .func ha hb h k
  | yield h => exact .yield (hr _ _ h)
  | nilFunc => exact .nilFunc
  | iface t _ h => exact .iface t h
  | nilIface => exact .nilIface
  | agg ha _ h => exact .agg ha h
  | tuple ha _ h => exact .tuple ha h

inductive LR (r : Rho) : List Value → List Value → Prop
  | nil : LR r [] []
  | cons {v v' : Value} {l l' : List Value} (h : VR r v v') (t : LR r l l') : LR r (v :: l) (v' :: l')

theorem LR.mono {r r' : Rho} (hr : r.le r') {l l' : List Value} (h : LR r l l') : LR r' l l' := by
  induction h with
  | nil => exact .nil
  | cons h _ ih => exact .cons (h.mono hr) ih

theorem LR.length {r : Rho} {l l' : List Value} (h : LR r l l') : l.length = l'.length := by
  induction h with
  | nil => rfl
  | cons _ _ ih => simp [ih]

theorem LR.get {r : Rho} {l l' : List Value} (h : LR r l l') : ∀ (i : Nat) (v v' : Value), l[i]? = some v → l'[i]? = some v' → VR r v v' := by
  induction h with
  | nil => intro i v v' h; simp at h
  | cons h _ ih =>
    intro i v v' a b
    cases i with
    | zero => simp at a b; subst a; subst b; exact h
    | succ i => exact ih i v v' (by simpa using a) (by simpa using b)

theorem LR.get' {r : Rho} {l l' : List Value} (h : LR r l l') {i : Nat} {v : Value} (hv : l[i]? = some v) : ∃ v', l'[i]? = some v' ∧ VR r v v' := by
  have hi : i < l'.length := by rw [← h.length]; exact (List.getElem?_eq_some_iff.1 hv).1
  exact ⟨l'[i], by simp [hi], h.get i v _ hv (by simp [hi])⟩

theorem LR.of_get {r : Rho} : ∀ {l l' : List Value}, l.length = l'.length → (∀ (i : Nat) (v v' : Value), l[i]? = some v → l'[i]? = some v' → VR r v v') → LR r l l'
  | [], [], _, _ => .nil
  | v :: l, v' :: l', hl, h => .cons (h 0 v v' (by simp) (by simp)) (LR.of_get (by simpa using hl) fun i a b ha hb => h (i + 1) a b (by simpa using ha) (by simpa using hb))
  | [], _ :: _, hl, _ => by simp at hl
  | _ :: _, [], hl, _ => by simp at hl

theorem LR.append {r : Rho} {a a' b b' : List Value} (h : LR r a a') (k : LR r b b') : LR r (a ++ b) (a' ++ b') := by
  induction h with
  | nil => exact k
  | cons h _ ih => exact .cons h ih

theorem LR.take {r : Rho} {a a' : List Value} (h : LR r a a') : ∀ n, LR r (a.take n) (a'.take n) := by
  induction h with
  | nil => intro n; simp; exact .nil
  | cons h _ ih => intro n; cases n with
    | zero => simp; exact .nil
    | succ n => simp; exact .cons h (ih n)

theorem LR.drop {r : Rho} {a a' : List Value} (h : LR r a a') : ∀ n, LR r (a.drop n) (a'.drop n) := by
  induction h with
  | nil => intro n; simp; exact .nil
  | cons h t ih => intro n; cases n with
    | zero => exact .cons h t
    | succ n => simp; exact ih n

theorem VR.agg_list {r : Rho} {a a' : Array Value} : VR r (.agg a) (.agg a') ↔ LR r a.toList a'.toList := by
  constructor
  · intro h; cases h with | agg ha h => exact LR.of_get (by simpa using ha) fun i v v' x y => h i v v' (by simpa using x) (by simpa using y)
  · intro h; exact .agg (by simpa using h.length) fun i v v' x y => h.get i v v' (by simpa using x) (by simpa using y)

theorem VR.tuple_list {r : Rho} {a a' : Array Value} : VR r (.tuple a) (.tuple a') ↔ LR r a.toList a'.toList := by
  constructor
  · intro h; cases h with | tuple ha h => exact LR.of_get (by simpa using ha) fun i v v' x y => h i v v' (by simpa using x) (by simpa using y)
  · intro h; exact .tuple (by simpa using h.length) fun i v v' x y => h.get i v v' (by simpa using x) (by simpa using y)

theorem VR.func_list {r : Rho} {f : FuncId} {a a' b b' : Array Value} (h : LR r a.toList a'.toList) (k : LR r b.toList b'.toList) : VR r (.func (.func f) a b) (.func (.func f) a' b') :=
  .func (by simpa using h.length) (by simpa using k.length) (fun i v v' x y => h.get i v v' (by simpa using x) (by simpa using y)) (fun i v v' x y => k.get i v v' (by simpa using x) (by simpa using y))

theorem VR.undef (r : Rho) : VR r (.tuple #[]) (.tuple #[]) := .tuple rfl (fun i v v' h => by simp at h)

theorem VR.cells {r : Rho} {v v' : Value} (h : VR r v v') : LR r v.cells.toList v'.cells.toList := by
  cases h with
  | agg ha h => exact VR.agg_list.1 (.agg ha h)
  | bool b => exact .cons (.bool b) .nil
  | int k n => exact .cons (.int k n) .nil
  | string s => exact .cons (.string s) .nil
  | nilPtr => exact .cons .nilPtr .nil
  | ptr h => exact .cons (.ptr h) .nil
  | nilSlice n c h => exact .cons (.nilSlice n c h) .nil
  | slice h hn => exact .cons (.slice h hn) .nil
  | slice0 h => exact .cons (.slice0 h) .nil
  | nilMap => exact .cons .nilMap .nil
  | map h => exact .cons (.map h) .nil
  | func ha hb h k => exact .cons (.func ha hb h k) .nil
  | yield h => exact .cons (.yield h) .nil
  | nilFunc => exact .cons .nilFunc .nil
  | iface t h => exact .cons (.iface t h) .nil
  | nilIface => exact .cons .nilIface .nil
  | tuple ha h => exact .cons (.tuple ha h) .nil

theorem flatV_sound (r : Rho) : ∀ (n : Nat) (v : Value), flatV n v = true → VR r v v := by
  intro n
  induction n with
  | zero =>
    intro v h
    unfold flatV at h
    split at h <;> first | exact .bool _ | exact .int _ _ | exact .string _ | exact .nilPtr | exact .nilSlice _ _ (by simpa using h) | exact .nilMap | exact .nilFunc | exact .nilIface | (rename_i he; exact absurd he (by omega)) | (cases h; done) | simp_all
  | succ n ih =>
    intro v h
    unfold flatV at h
    split at h
    · exact .bool _
    · exact .int _ _
    · exact .string _
    · exact .nilPtr
    · exact .nilSlice _ _ (by simpa using h)
    · exact .nilMap
    · exact .nilFunc
    · exact .nilIface
    · rename_i m t v heq
      obtain rfl : n = m := by omega
      exact .iface _ (ih _ h)
    · rename_i m cs heq
      obtain rfl : n = m := by omega
      refine .agg rfl fun i v v' x y => ?_
      rw [x] at y; simp at y; subst y
      exact ih _ (List.all_eq_true.1 h v (by simpa using Array.mem_of_getElem? x))
    · rename_i m cs heq
      obtain rfl : n = m := by omega
      refine .tuple rfl fun i v v' x y => ?_
      rw [x] at y; simp at y; subst y
      exact ih _ (List.all_eq_true.1 h v (by simpa using Array.mem_of_getElem? x))
    · simp at h

theorem run_none (P : Program) (M : Orc) (t : Task) (s : St) : run P M 0 t s = none := rfl
theorem run_succ (P : Program) (M : Orc) (n : Nat) (t : Task) (s : St) : run P M (n + 1) t s = stepT P M (run P M n) t s := rfl

end Go.Ev
namespace Go.Ev

theorem beqF {a b : Nat} (h : a ≠ b) : Nat.beq a b = false := by cases hb : Nat.beq a b <;> simp_all
theorem bleT {a b : Nat} (h : a ≤ b) : Nat.ble a b = true := by simp [h]
theorem bleF {a b : Nat} (h : ¬ a ≤ b) : Nat.ble a b = false := by
  cases hb : Nat.ble a b
  · rfl
  · exact absurd (by simpa using hb) h
theorem of_bleT {a b : Nat} (h : Nat.ble a b = true) : a ≤ b := by simpa using h
theorem beqT {a b : Nat} (h : a = b) : Nat.beq a b = true := by simp [h]

inductive ER (r : Rho) : List MapEntry → List MapEntry → Prop
  | nil : ER r [] []
  | cons {e e' : MapEntry} {l l' : List MapEntry} (hk : VR r e.key e'.key) (hv : VR r e.val e'.val) (hb : e.born = e'.born) (t : ER r l l') : ER r (e :: l) (e' :: l')

theorem ER.mono {r r' : Rho} (hr : r.le r') {l l' : List MapEntry} (h : ER r l l') : ER r' l l' := by
  induction h with
  | nil => exact .nil
  | cons a b c _ ih => exact .cons (a.mono hr) (b.mono hr) c ih

theorem ER.length {r : Rho} {l l' : List MapEntry} (h : ER r l l') : l.length = l'.length := by
  induction h with
  | nil => rfl
  | cons _ _ _ _ ih => simp [ih]

theorem ER.append {r : Rho} {a a' b b' : List MapEntry} (h : ER r a a') (k : ER r b b') : ER r (a ++ b) (a' ++ b') := by
  induction h with
  | nil => exact k
  | cons x y z _ ih => exact .cons x y z ih

def AO.wr : AO → Bool
  | .cells b => b.wr
  | _ => true

def BlkOk (r : Rho) (W0 : Nat) (b : Blk) (l : Loc) (w : World) : Prop :=
  ∃ c e fz, w.heap[l.blk]? = some (.cells c e fz) ∧ (∀ j v, b.t.get j = some v → j < b.n ∧ ∃ v', c[j + l.sh]? = some v' ∧ VR r v v') ∧
    (b.wr = true → W0 ≤ l.blk ∧ (∀ j, j < c.size → ¬ (fz.1 ≤ j ∧ j < fz.2)) ∧ b.n + l.sh ≤ c.size ∧ (b.es ≠ 0 → l.sh + l.cap * b.es ≤ c.size)) ∧ (b.wr = false → l.blk < W0)

def AOk (r : Rho) (W0 : Nat) (o : AO) (l : Loc) (w : World) : Prop :=
  match o with
  | .cells b => BlkOk r W0 b l w
  | .map es ck => W0 ≤ l.blk ∧ ∃ es', w.heap[l.blk]? = some (.map es' ck) ∧ ER r es es'.toList
  | .iter s p => W0 ≤ l.blk ∧ l.sh = 0 ∧ w.heap[l.blk]? = some (.stringIter s p)
  | .loop e ps assign body st pend => W0 ≤ l.blk ∧ ∃ fn tmps df, w.heap[l.blk]? = some (.loop { state := st, pending := pend, fn := fn, tmps := tmps, params := ps, assign := assign, body := body, defers := df }) ∧
      ∀ t v, T.get e t = some v → ∃ v', tmps[t]? = some v' ∧ VR r v v'
  | .marks => W0 ≤ l.blk ∧ w.heap[l.blk]? = some (.deferred (some []))

structure Rel (G W0 : Nat) (r : Rho) (s : St) (w : World) : Prop where
  glob : ∀ g, g < G → r g = some ⟨g, 0, 0⟩
  dom : ∀ i, s.next ≤ i → r i = none
  base : W0 ≤ w.heap.size
  obj : ∀ i o, s.h.get i = some o → ∃ l, r i = some l ∧ AOk r W0 o l w
  alias : ∀ i j oi oj li lj, s.h.get i = some oi → s.h.get j = some oj → oi.wr = true → oj.wr = true → r i = some li → r j = some lj → i ≠ j → li.blk = lj.blk →
    ∃ bi bj, oi = .cells bi ∧ oj = .cells bj ∧ bi.cls = bj.cls ∧ li.sh + bj.cs = lj.sh + bi.cs
  mem : ∀ i b, s.h.get i = some (.cells b) → b.wr = true → ∀ m, s.cl.get b.cls = some m → i ∈ m
  clsd : ∀ i b, s.h.get i = some (.cells b) → b.wr = true → r b.cls ≠ none

def Prot (r : Rho) (s : St) (x : Nat) : Prop := ∀ i o l, s.h.get i = some o → o.wr = true → r i = some l → l.blk ≠ x

structure Ext (r : Rho) (s : St) (w : World) (r' : Rho) (s' : St) (w' : World) : Prop where
  le : r.le r'
  next : s.next ≤ s'.next
  size : w.heap.size ≤ w'.heap.size
  os : w'.os = w.os
  tape : w'.tape = w.tape
  output : w'.output = w.output
  fresh : ∀ i, i < s.next → r i = none → r' i = none
  frame : ∀ x, x < w.heap.size → Prot r s x → w'.heap[x]? = w.heap[x]? ∧ Prot r' s' x

theorem Ext.refl (r : Rho) (s : St) (w : World) : Ext r s w r s w := ⟨.refl r, Nat.le_refl _, Nat.le_refl _, rfl, rfl, rfl, fun _ _ h => h, fun _ _ h => ⟨rfl, h⟩⟩

theorem Ext.trans {r₁ r₂ r₃ : Rho} {s₁ s₂ s₃ : St} {w₁ w₂ w₃ : World} (h : Ext r₁ s₁ w₁ r₂ s₂ w₂) (k : Ext r₂ s₂ w₂ r₃ s₃ w₃) : Ext r₁ s₁ w₁ r₃ s₃ w₃ :=
  ⟨h.le.trans k.le, Nat.le_trans h.next k.next, Nat.le_trans h.size k.size, k.os.trans h.os, k.tape.trans h.tape, k.output.trans h.output, fun i hi hn => k.fresh i (Nat.lt_of_lt_of_le hi h.next) (h.fresh i hi hn), fun x hx hp =>
    let ⟨a, b⟩ := h.frame x hx hp
    let ⟨c, d⟩ := k.frame x (Nat.lt_of_lt_of_le hx h.size) b
    ⟨c.trans a, d⟩⟩

theorem AOk.blk_lt {r : Rho} {W0 : Nat} {o : AO} {l : Loc} {w : World} (h : AOk r W0 o l w) : l.blk < w.heap.size := by
  cases o with
  | cells b => obtain ⟨c, e, fz, h, _⟩ := h; exact (Array.getElem?_eq_some_iff.1 h).1
  | map es ck => obtain ⟨_, es', h, _⟩ := h; exact (Array.getElem?_eq_some_iff.1 h).1
  | iter s p => exact (Array.getElem?_eq_some_iff.1 h.2.2).1
  | loop e ps as b st pd => obtain ⟨_, _, _, _, h, _⟩ := h; exact (Array.getElem?_eq_some_iff.1 h).1
  | marks => exact (Array.getElem?_eq_some_iff.1 h.2).1

theorem AOk.of_heap {r r' : Rho} {W0 : Nat} {o : AO} {l : Loc} {w w' : World} (h : AOk r W0 o l w) (hr : r.le r') (hw : w'.heap[l.blk]? = w.heap[l.blk]?) : AOk r' W0 o l w' := by
  cases o with
  | cells b =>
    obtain ⟨c, e, fz, a1, a2, a3⟩ := h
    exact ⟨c, e, fz, hw.trans a1, fun j v hv => let ⟨x, v', y, z⟩ := a2 j v hv; ⟨x, v', y, z.mono hr⟩, a3⟩
  | map es ck => obtain ⟨a, es', b, c⟩ := h; exact ⟨a, es', hw.trans b, c.mono hr⟩
  | iter s p => exact ⟨h.1, h.2.1, hw.trans h.2.2⟩
  | loop e ps as b st pd => obtain ⟨a, fn, tm, df, b, c⟩ := h; exact ⟨a, fn, tm, df, hw.trans b, fun t v hv => let ⟨v', x, y⟩ := c t v hv; ⟨v', x, y.mono hr⟩⟩
  | marks => exact ⟨h.1, hw.trans h.2⟩

/-! ## the world's own steps -/

theorem add_off (b o k : Nat) : (Addr.add ⟨b, o, none⟩ k) = ⟨b, o + k, none⟩ := by
  unfold Addr.add; split
  · subst_vars; rfl
  · rfl

theorem cell_of {w : World} {b o : Nat} {c : Array Value} {e : TypeId} {fz : Nat × Nat} (h : w.heap[b]? = some (.cells c e fz)) : w.cell? ⟨b, o, none⟩ = c[o]? := by
  simp [World.cell?, h]

theorem run_load {P : Program} {w : World} {a : Addr} {v : Value} (h : w.cell? a = some v) : (load a).run P w = .ok v w := by
  simp [load, Sem.run, h]

theorem run_loadFrom {P : Program} {w : World} {b o : Nat} {c : Array Value} {e : TypeId} {fz : Nat × Nat} (h : w.heap[b]? = some (.cells c e fz)) :
    ∀ (vs : List Value) (i : Nat) (acc : Array Value), (∀ k v, vs[k]? = some v → c[o + i + k]? = some v) → (loadCellsFrom ⟨b, o, none⟩ i vs.length acc).run P w = .ok (acc ++ vs.toArray) w := by
  intro vs
  induction vs with
  | nil => intro i acc _; simp [loadCellsFrom, pure]
  | cons v vs ih =>
    intro i acc hv
    have h0 : w.cell? ((⟨b, o, none⟩ : Addr).add i) = some v := by rw [add_off, cell_of h]; simpa using hv 0 v (by simp)
    simp only [loadCellsFrom, List.length_cons, Sem.run_bind, run_load h0, Result.andThen_ok]
    rw [ih (i + 1) (acc.push v) (fun k u hk => by have := hv (k + 1) u (by simpa using hk); rw [show o + (i + 1) + k = o + i + (k + 1) by omega]; exact this)]
    simp

theorem run_loadCells {P : Program} {w : World} {b o : Nat} {c : Array Value} {e : TypeId} {fz : Nat × Nat} (h : w.heap[b]? = some (.cells c e fz)) (vs : List Value)
    (hv : ∀ k v, vs[k]? = some v → c[o + k]? = some v) : (loadCells ⟨b, o, none⟩ vs.length).run P w = .ok vs.toArray w := by
  unfold loadCells
  rw [run_loadFrom h vs 0 #[] (by simpa using hv)]
  simp

def putCells (c : Array Value) (o : Nat) : List Value → Array Value
  | [] => c
  | v :: l => putCells (c.setIfInBounds o v) (o + 1) l

theorem putCells_size (l : List Value) : ∀ (c : Array Value) (o : Nat), (putCells c o l).size = c.size := by
  induction l with
  | nil => intro c o; rfl
  | cons v l ih => intro c o; simp [putCells, ih]

theorem putCells_get (l : List Value) : ∀ (c : Array Value) (o k : Nat), o + l.length ≤ c.size →
    (putCells c o l)[k]? = if o ≤ k ∧ k < o + l.length then l[k - o]? else c[k]? := by
  induction l with
  | nil => intro c o k _; simp [putCells]; intro a b; omega
  | cons v l ih =>
    intro c o k hc
    simp only [List.length_cons] at hc
    simp only [putCells]
    rw [ih _ _ _ (by simp; omega)]
    by_cases h1 : o + 1 ≤ k ∧ k < o + 1 + l.length
    · rw [if_pos h1, if_pos (by simp only [List.length_cons]; omega)]
      rw [show k - o = (k - (o + 1)) + 1 by omega]; simp
    · rw [if_neg h1]
      by_cases h2 : k = o
      · subst h2
        rw [if_pos (by simp only [List.length_cons]; omega)]
        simp [Array.getElem?_setIfInBounds]; omega
      · rw [if_neg (by simp only [List.length_cons]; omega)]
        rw [Array.getElem?_setIfInBounds_ne (fun h => h2 h.symm)]

def World.setObj (w : World) (b : Nat) (o : Obj) : World := { w with heap := w.heap.setIfInBounds b o }

theorem setObj_get (w : World) (b x : Nat) (o : Obj) (hb : b < w.heap.size) : (World.setObj w b o).heap[x]? = if x = b then some o else w.heap[x]? := by
  unfold World.setObj
  by_cases h : x = b
  · subst h; simp [hb]
  · rw [if_neg h]; simp [Array.getElem?_setIfInBounds_ne (fun e => h e.symm)]

theorem setObj_setObj (w : World) (b : Nat) (o o' : Obj) : World.setObj (World.setObj w b o) b o' = World.setObj w b o' := by
  simp [World.setObj]

theorem setCell_setObj {w : World} {b o : Nat} {c : Array Value} {e : TypeId} {fz : Nat × Nat} (h : w.heap[b]? = some (.cells c e fz)) (v : Value) :
    w.setCell ⟨b, o, none⟩ v = World.setObj w b (.cells (c.setIfInBounds o v) e fz) := by
  unfold World.setCell World.setObj
  congr 1
  have hb := (Array.getElem?_eq_some_iff.1 h).1
  apply Array.ext_getElem?
  intro i
  rw [Array.getElem?_modify]
  by_cases hi : b = i
  · subst hi
    rw [if_pos rfl, h, Array.getElem?_setIfInBounds]
    simp [hb]
  · rw [if_neg hi, Array.getElem?_setIfInBounds_ne hi]

theorem setObj_same {w : World} {b : Nat} {o : Obj} (h : w.heap[b]? = some o) : World.setObj w b o = w := by
  have : w.heap.setIfInBounds b o = w.heap := by
    apply Array.ext_getElem?
    intro k
    by_cases hk : b = k
    · subst hk; rw [Array.getElem?_setIfInBounds, h]; simp [(Array.getElem?_eq_some_iff.1 h).1]
    · rw [Array.getElem?_setIfInBounds_ne hk]
  unfold World.setObj; rw [this]

theorem run_store {P : Program} {w : World} {b o : Nat} {c : Array Value} {e : TypeId} {fz : Nat × Nat} {v : Value} (h : w.heap[b]? = some (.cells c e fz)) (ho : o < c.size)
    (hf : ¬ (fz.1 ≤ o ∧ o < fz.2)) (hv : oneCell v = true) : (store ⟨b, o, none⟩ v).run P w = .ok () (World.setObj w b (.cells (c.setIfInBounds o v) e fz)) := by
  have hc : w.cell? ⟨b, o, none⟩ = some c[o] := by rw [cell_of h]; simp [ho]
  have hz : w.frozen? ⟨b, o, none⟩ = false := by
    obtain ⟨lo, hi⟩ := fz
    simp only [World.frozen?, h]
    simp only [Bool.and_eq_false_iff, decide_eq_false_iff_not]
    by_cases h1 : lo ≤ o
    · exact .inr fun h2 => hf ⟨h1, h2⟩
    · exact .inl h1
  rw [← setCell_setObj h]
  cases v <;> simp [oneCell] at hv <;> simp [store, Sem.run, hc, hz]

theorem run_storeCells {P : Program} : ∀ (vs : List Value) (w : World) (b o i : Nat) (c : Array Value) (e : TypeId) (fz : Nat × Nat), w.heap[b]? = some (.cells c e fz) → o + i + vs.length ≤ c.size →
    (∀ j, j < c.size → ¬ (fz.1 ≤ j ∧ j < fz.2)) → vs.all oneCell = true → (storeCells ⟨b, o, none⟩ vs i).run P w = .ok () (World.setObj w b (.cells (putCells c (o + i) vs) e fz)) := by
  intro vs
  induction vs with
  | nil =>
    intro w b o i c e fz h _ _ _
    simp only [storeCells, pure, Sem.run, putCells]
    rw [setObj_same h]
  | cons v vs ih =>
    intro w b o i c e fz h hl hf hv
    simp only [List.length_cons] at hl
    simp only [List.all_cons, Bool.and_eq_true] at hv
    simp only [storeCells, add_off, Sem.run_bind]
    rw [run_store h (by omega) (hf _ (by omega)) hv.1]
    simp only [Result.andThen_ok]
    have hb := (Array.getElem?_eq_some_iff.1 h).1
    rw [ih (World.setObj w b (.cells (c.setIfInBounds (o + i) v) e fz)) b o (i + 1) (c.setIfInBounds (o + i) v) e fz (by rw [setObj_get _ _ _ _ hb]; simp) (by simp; omega) (by simpa using hf) hv.2]
    rw [setObj_setObj]
    rfl

end Go.Ev
namespace Go.Ev

variable {P : Program} {G W0 : Nat} {r : Rho} {s : St} {w : World}

theorem Rel.load (h : Rel G W0 r s w) {i j n : Nat} {vs : List Value} (hl : s.loadAt i j n = some vs) :
    ∃ l, r i = some l ∧ ∃ vs', LR r vs vs' ∧ vs'.length = n ∧ ∀ w1 : World, w1.heap = w.heap → (loadCells ⟨l.blk, j + l.sh, none⟩ n).run P w1 = .ok vs'.toArray w1 := by
  unfold St.loadAt at hl
  split at hl
  · rename_i b hb
    obtain ⟨hlen, hget⟩ := T.gets_spec _ _ _ _ hl
    obtain ⟨l, hr, c, e, fz, hh, hc, _⟩ := h.obj _ _ hb
    refine ⟨l, hr, (List.range n).map (fun k => c.getD (j + l.sh + k) default), ?_, by simp, ?_⟩
    · refine LR.of_get (by simp [hlen]) fun k v v' hv hv' => ?_
      have hk : k < n := by have := (List.getElem?_eq_some_iff.1 hv).1; omega
      obtain ⟨_, u, hu, hvr⟩ := hc (j + k) v (by rw [hget k hk]; exact hv)
      have : c.getD (j + l.sh + k) default = u := by
        rw [show j + k + l.sh = j + l.sh + k by omega] at hu
        simp [Array.getD_eq_getD_getElem?, hu]
      simp [hk] at hv'
      rw [← hv', Array.getD_eq_getD_getElem?] at *
      rw [this]; exact hvr
    · intro w1 hw1
      have := run_loadCells (P := P) (w := w1) (by rw [hw1]; exact hh) ((List.range n).map (fun k => c.getD (j + l.sh + k) default)) (o := j + l.sh) (fun k v hv => by
        have hk : k < n := by have := (List.getElem?_eq_some_iff.1 hv).1; simpa using this
        have hv0 : vs[k]? = some vs[k] := by simp [hlen, hk]
        obtain ⟨_, u, hu, hvr⟩ := hc (j + k) vs[k] (by rw [hget k hk]; exact hv0)
        rw [show j + k + l.sh = j + l.sh + k by omega] at hu
        simp [hk, Array.getD_eq_getD_getElem?, hu] at hv
        rw [hu, hv])
      simpa using this
  · simp at hl

theorem oneCell_VR {v v' : Value} (h : VR r v v') : oneCell v' = oneCell v := by cases h <;> rfl

theorem oneCell_LR {l l' : List Value} (h : LR r l l') : l'.all oneCell = l.all oneCell := by
  induction h with
  | nil => rfl
  | cons h _ ih => simp [oneCell_VR h, ih]

theorem killList_spec : ∀ (l : List Nat) (h : T AO) (i c0 : Nat) (h' : T AO) (l' : List Nat), killList h i c0 l = (h', l') →
    (∀ m o, h'.get m = some o → h.get m = some o) ∧ (∀ m, m ∈ l → ∀ b, h'.get m = some (.cells b) → m = i ∨ b.cs + b.n ≤ c0) ∧
    (∀ m, m ∈ l → ∀ b, h'.get m = some (.cells b) → m ∈ l') := by
  intro l
  induction l with
  | nil => intro h i c0 h' l' e; simp [killList] at e; obtain ⟨rfl, rfl⟩ := e; simp
  | cons x l ih =>
    intro h i c0 h' l' e
    simp only [killList] at e
    by_cases hx : x = i
    · rw [beqT hx, cond_true] at e
      generalize hk : killList h i c0 l = q at e
      obtain ⟨h1, l1⟩ := q
      simp only [Prod.mk.injEq] at e
      obtain ⟨rfl, rfl⟩ := e
      obtain ⟨a, b, c⟩ := ih _ _ _ _ _ hk
      refine ⟨a, fun m hm bl hb => ?_, fun m hm bl hb => ?_⟩
      · rcases List.mem_cons.1 hm with rfl | hm
        · exact .inl hx
        · exact b m hm bl hb
      · rcases List.mem_cons.1 hm with rfl | hm
        · simp
        · exact List.mem_cons_of_mem _ (c m hm bl hb)
    · rw [beqF hx, cond_false] at e
      split at e
      · rename_i b hb
        by_cases hc : b.cs + b.n ≤ c0
        · rw [bleT hc, cond_true] at e
          generalize hk : killList h i c0 l = q at e
          obtain ⟨h1, l1⟩ := q
          simp only [Prod.mk.injEq] at e
          obtain ⟨rfl, rfl⟩ := e
          obtain ⟨a, b', c⟩ := ih _ _ _ _ _ hk
          refine ⟨a, fun m hm bl hbl => ?_, fun m hm bl hbl => ?_⟩
          · rcases List.mem_cons.1 hm with rfl | hm
            · have := a _ _ hbl; rw [hb] at this; simp at this; subst this; exact .inr hc
            · exact b' m hm bl hbl
          · rcases List.mem_cons.1 hm with rfl | hm
            · simp
            · exact List.mem_cons_of_mem _ (c m hm bl hbl)
        · rw [bleF hc, cond_false] at e
          obtain ⟨a, b', c⟩ := ih _ _ _ _ _ e
          have a' : ∀ m o, h'.get m = some o → m ≠ x ∧ h.get m = some o := by
            intro m o hm
            rcases T.get_put _ _ _ _ _ (a m o hm) with ⟨_, q⟩ | q
            · simp at q
            · exact q
          refine ⟨fun m o hm => (a' m o hm).2, fun m hm bl hbl => ?_, fun m hm bl hbl => ?_⟩
          · rcases List.mem_cons.1 hm with rfl | hm
            · exact absurd rfl (a' _ _ hbl).1
            · exact b' m hm bl hbl
          · rcases List.mem_cons.1 hm with rfl | hm
            · exact absurd rfl (a' _ _ hbl).1
            · exact c m hm bl hbl
      · rename_i hb
        obtain ⟨a, b', c⟩ := ih _ _ _ _ _ e
        refine ⟨a, fun m hm bl hbl => ?_, fun m hm bl hbl => ?_⟩
        · rcases List.mem_cons.1 hm with rfl | hm
          · exact absurd (a _ _ hbl) (by simpa using hb bl)
          · exact b' m hm bl hbl
        · rcases List.mem_cons.1 hm with rfl | hm
          · exact absurd (a _ _ hbl) (by simpa using hb bl)
          · exact c m hm bl hbl

theorem killList_self : ∀ (l : List Nat) (h : T AO) (i c0 : Nat) (h' : T AO) (l' : List Nat), killList h i c0 l = (h', l') → i ∈ l → i ∈ l' := by
  intro l
  induction l with
  | nil => intro h i c0 h' l' _ hi; simp at hi
  | cons x l ih =>
    intro h i c0 h' l' e hi
    simp only [killList] at e
    by_cases hx : x = i
    · rw [beqT hx, cond_true] at e
      generalize hk : killList h i c0 l = q at e
      obtain ⟨h1, l1⟩ := q
      simp only [Prod.mk.injEq] at e
      obtain ⟨rfl, rfl⟩ := e
      simp [hx]
    · have hi' : i ∈ l := by rcases List.mem_cons.1 hi with e | e; exact absurd e.symm hx; exact e
      rw [beqF hx, cond_false] at e
      split at e
      · rename_i b hb
        cases hc : Nat.ble (b.cs + b.n) c0 with
        | true =>
          rw [hc, cond_true] at e
          generalize hk : killList h i c0 l = q at e
          obtain ⟨h1, l1⟩ := q
          simp only [Prod.mk.injEq] at e
          obtain ⟨rfl, rfl⟩ := e
          exact List.mem_cons_of_mem _ (ih _ _ _ _ _ hk hi')
        | false => rw [hc, cond_false] at e; exact ih _ _ _ _ _ e hi'
      · exact ih _ _ _ _ _ e hi'

/-- a part of what is known is known -/
theorem Rel.less (h : Rel G W0 r s w) {s' : St} (hn : s'.next = s.next) (hh : ∀ m o, s'.h.get m = some o → s.h.get m = some o)
    (hm : ∀ i b, s'.h.get i = some (.cells b) → b.wr = true → ∀ m, s'.cl.get b.cls = some m → i ∈ m) : Rel G W0 r s' w :=
  { glob := h.glob, dom := fun i hi => h.dom i (hn ▸ hi), base := h.base, obj := fun i o x => h.obj i o (hh i o x),
    alias := fun i j oi oj li lj a b => h.alias i j oi oj li lj (hh _ _ a) (hh _ _ b), mem := hm, clsd := fun i b x => h.clsd i b (hh _ _ x) }

theorem Prot.less {s' : St} {x : Nat} (h : Prot r s x) (hh : ∀ m o, s'.h.get m = some o → s.h.get m = some o) : Prot r s' x :=
  fun i o l a => h i o l (hh _ _ a)

theorem kill_spec (h : Rel G W0 r s w) {cls i c0 : Nat} {s1 : St} (hk : s.kill cls i c0 = some s1) :
    s1.next = s.next ∧ (∀ m o, s1.h.get m = some o → s.h.get m = some o) ∧
    (∀ m b, m ≠ i → s1.h.get m = some (.cells b) → b.wr = true → b.cls = cls → b.cs + b.n ≤ c0) ∧ Rel G W0 r s1 w := by
  unfold St.kill at hk
  split at hk
  · rename_i l hl
    generalize hq : isOnly i l = q at hk
    cases q with
    | true =>
      simp only [cond_true, Option.some.injEq] at hk
      subst hk
      refine ⟨rfl, fun _ _ x => x, fun m b hm hb hw hc => ?_, h⟩
      have hmem := h.mem m b hb hw l (hc ▸ hl)
      unfold isOnly at hq
      split at hq
      · rename_i x
        simp at hmem
        have : x = i := by simpa using hq
        exact absurd (hmem.trans this) hm
      · simp at hq
    | false =>
      simp only [cond_false] at hk
      generalize hkl : killList s.h i c0 l = p at hk
      obtain ⟨h1, l1⟩ := p
      simp only [Option.some.injEq] at hk
      subst hk
      obtain ⟨a, b, c⟩ := killList_spec _ _ _ _ _ _ hkl
      refine ⟨rfl, a, fun m bl hm hb hw hc => ?_, ?_⟩
      · have hmem := h.mem m bl (a _ _ hb) hw l (hc ▸ hl)
        rcases b m hmem bl hb with e | e
        · exact absurd e hm
        · exact e
      · refine h.less rfl a fun m bl hb hw q hq => ?_
        rcases T.get_put _ _ _ _ _ hq with ⟨e1, e2⟩ | ⟨e1, e2⟩
        · simp only [Option.some.injEq] at e2
          subst e2
          exact c m (h.mem m bl (a _ _ hb) hw l (e1 ▸ hl)) bl hb
        · exact h.mem m bl (a _ _ hb) hw q e2
  · simp at hk

end Go.Ev
namespace Go.Ev

variable {P : Program} {G W0 : Nat} {r : Rho} {s : St} {w : World}

theorem AOk.wr_blk {o : AO} {l : Loc} (h : AOk r W0 o l w) (hw : o.wr = true) : W0 ≤ l.blk := by
  cases o with
  | cells b => obtain ⟨c, e, fz, _, _, a, _⟩ := h; exact (a hw).1
  | map es ck => exact h.1
  | iter s p => exact h.1
  | loop e ps as b st pd => exact h.1
  | marks => exact h.1

theorem Rel.store (h : Rel G W0 r s w) {i j : Nat} {vs vs' : List Value} {s' : St} (hs : s.storeAt i j vs = some s') (hv : LR r vs vs') :
    ∃ l w', r i = some l ∧ (storeCells ⟨l.blk, j + l.sh, none⟩ vs').run P w = .ok () w' ∧ Rel G W0 r s' w' ∧ Ext r s w r s' w' := by
  unfold St.storeAt at hs
  split at hs
  · rename_i b hb
    by_cases hc : (b.wr && Nat.ble (j + vs.length) b.n && vs.all oneCell) = true
    · rw [hc, cond_true] at hs
      simp only [Bool.and_eq_true] at hc
      obtain ⟨⟨hwr, hlen⟩, hone⟩ := hc
      have hlen := of_bleT hlen
      split at hs
      · rename_i s1 hk
        simp only [Option.some.injEq] at hs
        subst hs
        obtain ⟨k1, k2, k3, k4⟩ := kill_spec h hk
        obtain ⟨l, hr, c, e, fz, hh, hcells, hfree, _⟩ := h.obj _ _ hb
        obtain ⟨hW, hfz, hn, hes⟩ := hfree hwr
        have hlen' := hv.length
        have hrun := run_storeCells (P := P) vs' w l.blk (j + l.sh) 0 c e fz hh (by omega) hfz (by rw [oneCell_LR hv]; exact hone)
        rw [Nat.add_zero] at hrun
        have hlt := (Array.getElem?_eq_some_iff.1 hh).1
        refine ⟨l, _, hr, hrun, ?_, ?_⟩
        · -- Rel
          have hget : ∀ x, (World.setObj w l.blk (.cells (putCells c (j + l.sh) vs') e fz)).heap[x]? = if x = l.blk then some (.cells (putCells c (j + l.sh) vs') e fz) else w.heap[x]? := fun x => setObj_get _ _ _ _ hlt
          refine { glob := h.glob, dom := fun x hx => h.dom x (k1 ▸ hx), base := by simpa [World.setObj] using h.base, obj := ?_, alias := ?_, mem := ?_, clsd := ?_ }
          · intro x o hx
            rcases T.get_put _ _ _ _ _ hx with ⟨rfl, e2⟩ | ⟨e1, e2⟩
            · simp only [Option.some.injEq] at e2
              subst e2
              refine ⟨l, hr, putCells c (j + l.sh) vs', e, fz, (hget l.blk).trans (if_pos rfl), ?_, fun _ => ⟨hW, by simpa [putCells_size] using hfz, by simpa [putCells_size] using hn, by simpa [putCells_size] using hes⟩, fun q => by simp [hwr] at q⟩
              intro k v hkv
              rcases T.get_puts _ _ _ _ _ hkv with ⟨a1, a2⟩ | ⟨a1, a2⟩
              · have hk2 : k - j < vs.length := (List.getElem?_eq_some_iff.1 a2).1
                obtain ⟨v', b1, b2⟩ := hv.get' a2
                refine ⟨by show k < b.n; omega, v', ?_, b2⟩
                rw [putCells_get _ _ _ _ (by omega), if_pos (by omega)]
                rw [show k + l.sh - (j + l.sh) = k - j by omega]; exact b1
              · obtain ⟨b1, v', b2, b3⟩ := hcells k v a2
                refine ⟨b1, v', ?_, b3⟩
                rw [putCells_get _ _ _ _ (by omega), if_neg (by omega)]
                exact b2
            · obtain ⟨l2, hr2, hok⟩ := h.obj x o (k2 _ _ e2)
              refine ⟨l2, hr2, ?_⟩
              by_cases hbl : l2.blk = l.blk
              · -- the same block: an alias
                have hwr2 : o.wr = true := by
                  cases o with
                  | cells b2 =>
                    cases hq : b2.wr with
                    | true => exact hq
                    | false => obtain ⟨_, _, _, _, _, _, hlow⟩ := hok; have := hlow hq; omega
                  | map _ _ => rfl
                  | iter _ _ => rfl
                  | _ => rfl
                obtain ⟨bi, bj, rfl, hbj, hcls, hsh⟩ := h.alias x i o _ l2 l (k2 _ _ e2) hb hwr2 hwr hr2 hr e1 hbl
                simp only [AO.cells.injEq] at hbj
                subst hbj
                have hend := k3 x bi e1 e2 hwr2 hcls
                obtain ⟨c2, e2', fz2, hh2, hcells2, hfree2, _⟩ := hok
                rw [hbl, hh] at hh2
                simp only [Option.some.injEq, Obj.cells.injEq] at hh2
                obtain ⟨rfl, rfl, rfl⟩ := hh2
                have hf2 := hfree2 hwr2
                refine ⟨putCells c (j + l.sh) vs', e, fz, by rw [hbl]; exact (hget l.blk).trans (if_pos rfl), ?_, fun _ => ⟨hf2.1, by simpa [putCells_size] using hf2.2.1, by simpa [putCells_size] using hf2.2.2.1, by simpa [putCells_size] using hf2.2.2.2⟩, fun q => by simp [AO.wr] at hwr2; simp [hwr2] at q⟩
                intro k v hkv
                obtain ⟨b1, v', b2, b3⟩ := hcells2 k v hkv
                refine ⟨b1, v', ?_, b3⟩
                rw [putCells_get _ _ _ _ (by omega), if_neg (by omega)]
                exact b2
              · exact hok.of_heap (.refl r) (by rw [hget, if_neg hbl])
          · intro x y ox oy lx ly hx hy wx wy rx ry hne hbl
            have key : ∀ z oz, (s1.h.put i (some (.cells { b with t := b.t.puts j vs }))).get z = some oz → ∃ oz', s.h.get z = some oz' ∧ (oz'.wr = oz.wr) ∧ (∀ bz', oz' = .cells bz' → ∃ bz, oz = .cells bz ∧ bz.cls = bz'.cls ∧ bz.cs = bz'.cs) := by
              intro z oz hz
              rcases T.get_put _ _ _ _ _ hz with ⟨rfl, e2⟩ | ⟨e1, e2⟩
              · simp only [Option.some.injEq] at e2
                subst e2
                exact ⟨_, hb, rfl, fun bz' e => by simp only [AO.cells.injEq] at e; subst e; exact ⟨_, rfl, rfl, rfl⟩⟩
              · exact ⟨oz, k2 _ _ e2, rfl, fun bz' e => ⟨bz', e, rfl, rfl⟩⟩
            obtain ⟨ox', hx', wx', cx⟩ := key x ox hx
            obtain ⟨oy', hy', wy', cy⟩ := key y oy hy
            obtain ⟨bi, bj, ei, ej, h1, h2⟩ := h.alias x y ox' oy' lx ly hx' hy' (wx'.trans wx) (wy'.trans wy) rx ry hne hbl
            obtain ⟨bx, ex, cx1, cx2⟩ := cx bi ei
            obtain ⟨by_, ey, cy1, cy2⟩ := cy bj ej
            exact ⟨bx, by_, ex, ey, by rw [cx1, cy1, h1], by rw [cx2, cy2]; exact h2⟩
          · intro x bx hx hw m hm
            rcases T.get_put _ _ _ _ _ hx with ⟨rfl, e2⟩ | ⟨e1, e2⟩
            · simp only [Option.some.injEq, AO.cells.injEq] at e2
              subst e2
              -- the block itself stays in its class
              have hk' := hk
              unfold St.kill at hk'
              split at hk'
              · rename_i q hq
                have hmem := h.mem x b hb hwr q hq
                cases hon : isOnly x q with
                | true => rw [hon, cond_true] at hk'; simp only [Option.some.injEq] at hk'; subst hk'; exact h.mem x b hb hwr m hm
                | false =>
                  rw [hon, cond_false] at hk'
                  generalize hkl : killList s.h x (b.cs + j) q = p at hk'
                  obtain ⟨h1, l1⟩ := p
                  simp only [Option.some.injEq] at hk'
                  subst hk'
                  rcases T.get_put _ _ _ _ _ hm with ⟨_, e3⟩ | ⟨e3, _⟩
                  · simp only [Option.some.injEq] at e3
                    subst e3
                    exact killList_self _ _ _ _ _ _ hkl hmem
                  · exact absurd rfl e3
              · simp at hk'
            · exact k4.mem x bx e2 hw m hm
          · intro x bx hx hw
            rcases T.get_put _ _ _ _ _ hx with ⟨rfl, e2⟩ | ⟨e1, e2⟩
            · simp only [Option.some.injEq, AO.cells.injEq] at e2
              subst e2
              exact h.clsd x b hb hwr
            · exact k4.clsd x bx e2 hw
        · -- Ext
          refine ⟨.refl r, Nat.le_of_eq k1.symm, by simp [World.setObj], rfl, rfl, rfl, fun _ _ h => h, fun x hx hp => ⟨?_, ?_⟩⟩
          · rw [setObj_get _ _ _ _ hlt, if_neg (fun e => hp i _ l hb hwr hr e.symm)]
          · intro y o ly hy hw hry
            rcases T.get_put _ _ _ _ _ hy with ⟨rfl, e2⟩ | ⟨e1, e2⟩
            · exact fun e => hp y _ l hb hwr hr (by rw [hr] at hry; simp only [Option.some.injEq] at hry; rw [hry]; exact e)
            · exact hp y o ly (k2 _ _ e2) hw hry
      · simp at hs
    · have hc' : (b.wr && Nat.ble (j + vs.length) b.n && vs.all oneCell) = false := by simpa using hc
      rw [hc', cond_false] at hs
      simp at hs
  · simp at hs

end Go.Ev
namespace Go.Ev

variable {P : Program} {G W0 : Nat} {r : Rho} {s : St} {w : World}

def Rho.upd (r : Rho) (i : Nat) (l : Loc) : Rho := fun x => if x = i then some l else r x

theorem Rho.le_upd {r : Rho} {i : Nat} {l : Loc} (h : r i = none) : r.le (r.upd i l) := by
  intro x l' hx
  unfold Rho.upd
  split
  · subst_vars; rw [h] at hx; simp at hx
  · exact hx

theorem Rho.upd_same {r : Rho} {i : Nat} {l : Loc} : (r.upd i l) i = some l := by simp [Rho.upd]

theorem alloc_get (w : World) (o : Obj) (x : Nat) : (w.alloc o).heap[x]? = if x = w.heap.size then some o else w.heap[x]? := by
  unfold World.alloc
  by_cases h : x = w.heap.size
  · subst h; simp
  · rw [if_neg h]
    by_cases h2 : x < w.heap.size
    · simp [Array.getElem?_push, h]
    · simp [Array.getElem?_push, h]

theorem Rel.get_none (h : Rel G W0 r s w) {i : Nat} (hi : r i = none) : s.h.get i = none := by
  cases hx : s.h.get i with
  | none => rfl
  | some o => obtain ⟨l, a, _⟩ := h.obj i o hx; rw [hi] at a; simp at a

/-- a new object: 'o' under the number i; the world has it as a new block -/
theorem Rel.newObj (h : Rel G W0 r s w) {i k : Nat} {o : AO} {obj : Obj} {cap : Nat} {w1 : World} (hi : r i = none) (hi2 : s.next ≤ i) (hk : i < s.next + k)
    (hw1 : w1.heap = w.heap.push obj) (hos : w1.os = w.os) (ht : w1.tape = w.tape) (hout : w1.output = w.output)
    (hok : AOk (r.upd i ⟨w.heap.size, 0, cap⟩) W0 o ⟨w.heap.size, 0, cap⟩ w1) (hwr : o.wr = true) (hclsn : ∀ b, o = .cells b → (r.upd i ⟨w.heap.size, 0, cap⟩) b.cls ≠ none)
    {s' : St} (hh : s'.h = s.h.put i (some o)) (hn : s'.next = s.next + k)
    (hmem : ∀ x b, s'.h.get x = some (.cells b) → b.wr = true → ∀ m, s'.cl.get b.cls = some m → x ∈ m) :
    Rel G W0 (r.upd i ⟨w.heap.size, 0, cap⟩) s' w1 ∧ Ext r s w (r.upd i ⟨w.heap.size, 0, cap⟩) s' w1 := by
  have hget : ∀ x, w1.heap[x]? = if x = w.heap.size then some obj else w.heap[x]? := fun x => by rw [hw1]; exact alloc_get w obj x
  have hle := Rho.le_upd (l := ⟨w.heap.size, 0, cap⟩) hi
  have hsz : w1.heap.size = w.heap.size + 1 := by rw [hw1]; simp
  have hne : ∀ x l, r x = some l → x ≠ i := fun x l hx e => by rw [e, hi] at hx; simp at hx
  have hup : ∀ x l, x ≠ i → (r.upd i ⟨w.heap.size, 0, cap⟩) x = some l → r x = some l := fun x l hx hl => by simpa [Rho.upd, hx] using hl
  have hold : ∀ x o, x ≠ i → s'.h.get x = some o → s.h.get x = some o := by
    intro x o hx hg
    rw [hh] at hg
    rcases T.get_put _ _ _ _ _ hg with ⟨e, _⟩ | ⟨_, e⟩
    · exact absurd e hx
    · exact e
  have hnew : ∀ x o', s'.h.get x = some o' → x = i → o' = o := by
    intro x o' hg e
    rw [hh] at hg
    rcases T.get_put _ _ _ _ _ hg with ⟨_, e2⟩ | ⟨e1, _⟩
    · simpa using e2.symm
    · exact absurd e e1
  constructor
  · refine { glob := fun g hg => hle _ _ (h.glob g hg), dom := fun x hx => ?_, base := by have := h.base; omega, obj := ?_, alias := ?_, mem := ?_, clsd := ?_ }
    · have : x ≠ i := by omega
      simp only [Rho.upd, this, if_false]
      exact h.dom x (by omega)
    · intro x ox hx
      by_cases e : x = i
      · have := hnew x ox hx e; subst this; subst e
        exact ⟨_, Rho.upd_same, hok⟩
      · obtain ⟨l, a, b⟩ := h.obj x ox (hold x ox e hx)
        refine ⟨l, hle _ _ a, b.of_heap hle ?_⟩
        rw [hget, if_neg (Nat.ne_of_lt b.blk_lt)]
    · intro x y ox oy lx ly hx hy wx wy rx ry hne2 hbl
      have hlt : ∀ z oz lz, z ≠ i → s'.h.get z = some oz → (r.upd i ⟨w.heap.size, 0, cap⟩) z = some lz → lz.blk < w.heap.size := by
        intro z oz lz hz hg hr2
        obtain ⟨l, a, b⟩ := h.obj z oz (hold z oz hz hg)
        have := hup z lz hz hr2; rw [a] at this; simp only [Option.some.injEq] at this; subst this
        exact b.blk_lt
      by_cases ex : x = i
      · subst ex
        rw [Rho.upd_same] at rx; simp only [Option.some.injEq] at rx; subst rx
        have := hlt y oy ly (fun e => hne2 e.symm) hy ry
        simp at hbl; omega
      · by_cases ey : y = i
        · subst ey
          rw [Rho.upd_same] at ry; simp only [Option.some.injEq] at ry; subst ry
          have := hlt x ox lx ex hx rx
          simp at hbl; omega
        · exact h.alias x y ox oy lx ly (hold x ox ex hx) (hold y oy ey hy) wx wy (hup x lx ex rx) (hup y ly ey ry) hne2 hbl
    · exact hmem
    · intro x b hx hw
      by_cases e : x = i
      · have he := hnew x _ hx e
        subst he
        exact hclsn b rfl
      · have := h.clsd x b (hold x _ e hx) hw
        intro hn2
        apply this
        have hc : b.cls ≠ i := fun e => by rw [e, Rho.upd_same] at hn2; simp at hn2
        simpa [Rho.upd, hc] using hn2
  · refine ⟨hle, by omega, by omega, hos, ht, hout, fun x hx hn => (by simp only [Rho.upd, show x ≠ i by omega, if_false]; exact hn), fun x hx hp => ⟨?_, ?_⟩⟩
    · rw [hget, if_neg (Nat.ne_of_lt hx)]
    · intro y oy ly hy hw hr2
      by_cases e : y = i
      · subst e
        rw [Rho.upd_same] at hr2; simp only [Option.some.injEq] at hr2; subst hr2
        simp; omega
      · exact hp y oy ly (hold y oy e hy) hw (hup y ly e hr2)

theorem Rel.newAny (h : Rel G W0 r s w) {i k : Nat} {o : AO} {obj : Obj} {cap : Nat} {w1 : World} (hi : r i = none) (hi2 : s.next ≤ i) (hk : i < s.next + k)
    (hw1 : w1.heap = w.heap.push obj) (hos : w1.os = w.os) (ht : w1.tape = w.tape) (hout : w1.output = w.output)
    (hok : AOk (r.upd i ⟨w.heap.size, 0, cap⟩) W0 o ⟨w.heap.size, 0, cap⟩ w1) (hwr : o.wr = true) (hcls : ∀ b, o = .cells b → b.cls = i)
    {s' : St} (hh : s'.h = s.h.put i (some o)) (hn : s'.next = s.next + k) (hcl : s'.cl = s.cl.put i (some [i]) ∨ (s'.cl = s.cl ∧ ∀ b, o ≠ .cells b)) :
    Rel G W0 (r.upd i ⟨w.heap.size, 0, cap⟩) s' w1 ∧ Ext r s w (r.upd i ⟨w.heap.size, 0, cap⟩) s' w1 := by
  refine h.newObj hi hi2 hk hw1 hos ht hout hok hwr (fun b e => by rw [hcls b e, Rho.upd_same]; simp) hh hn fun x b hx hw m hm => ?_
  rw [hh] at hx
  rcases T.get_put _ _ _ _ _ hx with ⟨e, e2⟩ | ⟨e, hxo⟩
  · simp only [Option.some.injEq] at e2
    have hc := hcls b e2
    rcases hcl with q | ⟨_, q⟩
    · rw [q, hc] at hm
      rcases T.get_put _ _ _ _ _ hm with ⟨_, e2⟩ | ⟨e1, _⟩
      · simp only [Option.some.injEq] at e2; subst e2; simp [e]
      · exact absurd rfl e1
    · exact absurd e2 (q b)
  · rcases hcl with q | ⟨q, _⟩
    · rw [q] at hm
      rcases T.get_put _ _ _ _ _ hm with ⟨e1, _⟩ | ⟨_, e2⟩
      · exact absurd hi (e1 ▸ h.clsd x b hxo hw)
      · exact h.mem x b hxo hw m e2
    · rw [q] at hm; exact h.mem x b hxo hw m hm

/-- an object that is no row of cells is turned -/
theorem Rel.turn (h : Rel G W0 r s w) {i : Nat} {o o' : AO} {l : Loc} {obj : Obj} (hg : s.h.get i = some o) (hr : r i = some l) (hno : ∀ b, o ≠ .cells b) (hno' : ∀ b, o' ≠ .cells b)
    (hok : AOk r W0 o' l (World.setObj w l.blk obj)) : Rel G W0 r { s with h := s.h.put i (some o') } (World.setObj w l.blk obj) ∧ Ext r s w r { s with h := s.h.put i (some o') } (World.setObj w l.blk obj) := by
  obtain ⟨l0, a, ok0⟩ := h.obj i o hg
  rw [hr] at a; simp only [Option.some.injEq] at a; subst a
  have hlt := ok0.blk_lt
  have hwo : o.wr = true := by cases o with | cells b => exact absurd rfl (hno b) | _ => rfl
  have hwo' : o'.wr = true := by cases o' with | cells b => exact absurd rfl (hno' b) | _ => rfl
  have hget := fun x => setObj_get w l.blk x obj hlt
  have hnr : ∀ c e fz, w.heap[l.blk]? ≠ some (.cells c e fz) := by
    intro c e fz hc
    cases o with
    | cells b => exact hno b rfl
    | map es ck => obtain ⟨_, es', q, _⟩ := ok0; rw [q] at hc; simp at hc
    | iter t p => have := ok0.2.2; rw [this] at hc; simp at hc
    | loop e ps as b st pd => obtain ⟨_, fn, tm, df, q, _⟩ := ok0; rw [q] at hc; simp at hc
    | marks => have := ok0.2; rw [this] at hc; simp at hc
  have key : ∀ z oz, (s.h.put i (some o')).get z = some oz → (z = i ∧ oz = o') ∨ (z ≠ i ∧ s.h.get z = some oz) := by
    intro z oz hz
    rcases T.get_put _ _ _ _ _ hz with ⟨e, e2⟩ | e
    · exact .inl ⟨e, by simpa using e2.symm⟩
    · exact .inr e
  constructor
  · refine { glob := h.glob, dom := h.dom, base := by simpa [World.setObj] using h.base, obj := ?_, alias := ?_, mem := ?_, clsd := ?_ }
    · intro x ox hx
      rcases key x ox hx with ⟨rfl, rfl⟩ | ⟨e1, e2⟩
      · exact ⟨l, hr, hok⟩
      · obtain ⟨lx, ax, okx⟩ := h.obj x ox e2
        refine ⟨lx, ax, okx.of_heap (.refl r) ?_⟩
        rw [hget, if_neg]
        intro hbl
        by_cases hwx : ox.wr = true
        · obtain ⟨bi, bj, _, ej, _⟩ := h.alias x i ox o lx l e2 hg hwx hwo ax hr e1 hbl
          exact hno bj ej
        · cases ox with
          | cells b => obtain ⟨c, e, fz, q, _⟩ := okx; rw [hbl] at q; exact hnr _ _ _ q
          | map _ _ => exact hwx rfl
          | iter _ _ => exact hwx rfl
          | _ => exact hwx rfl
    · intro x y ox oy lx ly hx hy wx wy rx ry hne hbl
      rcases key x ox hx with ⟨rfl, rfl⟩ | ⟨e1, e2⟩
      · rcases key y oy hy with ⟨rfl, rfl⟩ | ⟨f1, f2⟩
        · exact absurd rfl hne
        · obtain ⟨bi, _, ei, _⟩ := h.alias x y o oy lx ly hg f2 hwo wy rx ry hne hbl
          exact absurd ei (hno bi)
      · rcases key y oy hy with ⟨rfl, rfl⟩ | ⟨f1, f2⟩
        · obtain ⟨_, bj, _, ej, _⟩ := h.alias x y ox o lx ly e2 hg wx hwo rx ry hne hbl
          exact absurd ej (hno bj)
        · exact h.alias x y ox oy lx ly e2 f2 wx wy rx ry hne hbl
    · intro x b hx hw m hm
      rcases key x _ hx with ⟨rfl, e⟩ | ⟨_, e2⟩
      · exact absurd e.symm (hno' b)
      · exact h.mem x b e2 hw m hm
    · intro x b hx hw
      rcases key x _ hx with ⟨rfl, e⟩ | ⟨_, e2⟩
      · exact absurd e.symm (hno' b)
      · exact h.clsd x b e2 hw
  · refine ⟨.refl r, Nat.le_refl _, by simp [World.setObj], rfl, rfl, rfl, fun _ _ h => h, fun x hx hp => ⟨?_, ?_⟩⟩
    · rw [hget, if_neg (fun e => hp i o l hg hwo hr e.symm)]
    · intro y oy ly hy hw hry
      rcases key y oy hy with ⟨rfl, rfl⟩ | ⟨_, e2⟩
      · exact hp y o ly hg hwo hry
      · exact hp y oy ly e2 hw hry

end Go.Ev
namespace Go.Ev

variable {P : Program} {G W0 : Nat} {r : Rho} {s : St} {w : World}

theorem Rel.same_heap (h : Rel G W0 r s w) {w1 : World} (hh : w1.heap = w.heap) : Rel G W0 r s w1 :=
  { glob := h.glob, dom := h.dom, base := by rw [hh]; exact h.base, obj := fun i o x => let ⟨l, a, b⟩ := h.obj i o x; ⟨l, a, b.of_heap (.refl r) (by rw [hh])⟩,
    alias := h.alias, mem := h.mem, clsd := h.clsd }

theorem Ext.same_heap {w1 : World} (hh : w1.heap = w.heap) (ho : w1.os = w.os) (ht : w1.tape = w.tape) (hout : w1.output = w.output) : Ext r s w r s w1 :=
  ⟨.refl r, Nat.le_refl _, by rw [hh]; exact Nat.le_refl _, ho, ht, hout, fun _ _ h => h, fun x _ hp => ⟨by rw [hh], hp⟩⟩

theorem growBy_le (need : Nat) : ∀ (k c : Nat), Builtin.growBy need k c ≤ 2 ^ k * c + 192 * 2 ^ k := by
  intro k
  induction k with
  | zero => intro c; simp [Builtin.growBy]
  | succ k ih =>
    intro c
    simp only [Builtin.growBy]
    split
    · have : c ≤ 2 ^ (k + 1) * c := Nat.le_mul_of_pos_left c (Nat.two_pow_pos _)
      omega
    · refine Nat.le_trans (ih _) ?_
      rw [Nat.pow_succ]
      generalize 2 ^ k = q
      have h1 : c + (c + 768) / 4 ≤ 2 * c + 192 := by omega
      have h2 : q * (c + (c + 768) / 4) ≤ q * (2 * c + 192) := Nat.mul_le_mul_left q h1
      have h4 : q * (2 * c + 192) = q * 2 * c + q * 192 := by rw [Nat.mul_add, Nat.mul_assoc]
      omega

theorem nextcap_le {need cap : Nat} (h : cap < need) (hn : need ≤ 16777216) : Builtin.nextslicecap need cap ≤ 268438528 := by
  unfold Builtin.nextslicecap
  split
  · omega
  · split
    · omega
    · have := growBy_le need 4 cap; omega

theorem run_zero {elem : TypeId} {info : TypeInfo} {z : Value} (hi : P.info? elem = some info) (hz : info.zero = some z) (w : World) : (zeroValue elem).run P w = .ok z w := by
  simp [zeroValue, typeInfo, program, Sem.run, hi, hz, pure, bind, Sem.bind]

theorem run_typeInfo {elem : TypeId} {info : TypeInfo} (hi : P.info? elem = some info) (w : World) : (typeInfo elem).run P w = .ok info w := by
  simp [typeInfo, program, Sem.run, hi, pure, bind, Sem.bind]

theorem run_sizeOf' {elem : TypeId} {info : TypeInfo} (hi : P.info? elem = some info) (w : World) : (sizeOf elem).run P w = .ok info.size w := by
  simp [sizeOf, Sem.run_bind, run_typeInfo hi, Sem.run, pure]

theorem run_under {t : TypeId} {d : TypeDesc} (h : P.underlying t = some d) (w : World) : (underlying t).run P w = .ok d w := by
  simp [underlying, program, Sem.run, h, pure, bind, Sem.bind]

structure AppLaw (P : Program) (w : World) (t tx ty el : TypeId) (info : TypeInfo) (z y' : Value) (n : Nat) (new' : List Value) : Prop where
  room : ∀ (base : Option Addr) (len cap : Nat) (w1 : World), len + n ≤ cap →
    ((match base with | some a => storeCells (a.add (len * info.size)) new' | none => pure ()) : Sem Unit).run P w = .ok () w1 →
    (Builtin.append_ #[t, tx] ty #[.slice base len cap, y']).run P w = .ok (.slice base (len + n) cap) w1
  grow : ∀ (base : Option Addr) (len cap : Nat) (old' : List Value), (Builtin.firstCells info.size len (.slice base len cap)).run P w.drew = .ok old'.toArray w.drew → cap < len + n →
    len + n ≤ 16777216 → info.bytes ≤ 65536 → info.bytes ≠ 0 → (Builtin.append_ #[t, tx] ty #[.slice base len cap, y']).run P w =
      .ok (.slice (some ⟨w.heap.size, 0, none⟩) (len + n) (grownCap w (len + n) cap el))
        (w.drew.alloc (.cells ((old' ++ new').toArray ++ Builtin.zeroCells z.cells (grownCap w (len + n) cap el - (len + n))) el))

theorem AppLaw.of_src {t tx ty el : TypeId} {info : TypeInfo} {z y' : Value} {n : Nat} {new' : List Value} (ht : P.underlying t = some (.slice el)) (hi : P.info? el = some info)
    (hz : info.zero = some z) (hs : Src P info.size tx y' n new' w) : AppLaw P w t tx ty el info z y' n new' where
  room := fun base len cap w1 hroom hst => by
    cases base with
    | none =>
      have hw1 : w = w1 := by simpa [Sem.run, pure] using hst
      subst hw1
      rcases hs.kind with ⟨e', hk⟩ | hk <;> simp [Builtin.append_, run_underlying ht, run_underlying hk, sizeOf, typeInfo, hi, hs.len, hroom, hs.cells]
    | some a =>
      simp only at hst
      rcases hs.kind with ⟨e', hk⟩ | hk <;> simp [Builtin.append_, run_underlying ht, run_underlying hk, sizeOf, typeInfo, hi, hs.len, hroom, hs.cells, hst]
  grow := fun base len cap old' hold hg hn hb hb0 => by
    refine run_append_grow_src w t tx ty el info z ht hi hz base len cap old' hold y' n new' hs hg (by omega) ?_
    have := nextcap_le (need := len + n) (cap := cap) (by omega) hn
    have h3 : Builtin.nextslicecap (len + n) cap * info.bytes ≤ 268438528 * 65536 := Nat.mul_le_mul this hb
    omega

theorem AppLaw.of_make {t tx ty el : TypeId} {k k' : IntKind} {info : TypeInfo} {z : Value} {n : Nat} (ht : P.underlying t = some (.slice el)) (hx : P.underlying tx = some (.int k)) (hi : P.info? el = some info)
    (hz : info.zero = some z) (hn1 : n ≠ 0) (hn0 : n ≤ 16777216) (hb0 : info.bytes ≤ 65536) (hsz : info.size ≠ 0) : AppLaw P w t tx ty el info z (.int k' n) n (Builtin.zeroCells z.cells n).toList := by
  have hw : IntKind.i64.wrap (n : Int) = n := by simp [IntKind.wrap, IntKind.bits, IntKind.signed]; omega
  have hneg : ¬ ((n : Int) < 0) := by omega
  have hns : n * info.size ≠ 0 := by intro h; rcases Nat.mul_eq_zero.1 h with h | h <;> contradiction
  have hbig : ¬ ((n : Int) * (info.bytes : Int) > 281474976710656) := by
    have : n * info.bytes ≤ 16777216 * 65536 := Nat.mul_le_mul hn0 hb0
    have h2 : ((n * info.bytes : Nat) : Int) ≤ 1099511627776 := by omega
    rw [Int.natCast_mul] at h2; omega
  constructor
  · intro base len cap w1 hroom hst
    cases base with
    | none =>
      have hw1 : w = w1 := by simpa [Sem.run, pure] using hst
      subst hw1
      simp [Builtin.append_, run_underlying ht, run_underlying hx, sizeOf, typeInfo, asInt, asIntOf, zeroValue, hi, hz, hw, hneg, hbig, hroom]
    | some a =>
      simp only at hst
      simp [Builtin.append_, run_underlying ht, run_underlying hx, sizeOf, typeInfo, asInt, asIntOf, zeroValue, hi, hz, hw, hneg, hbig, hroom, hns, hst]
  · intro base len cap old' hold hg hn hb hb1
    have hcap := nextcap_le (need := len + n) (cap := cap) (by omega) hn
    have h3 : Builtin.nextslicecap (len + n) cap * info.bytes ≤ 268438528 * 65536 := Nat.mul_le_mul hcap hb
    have h48' : ¬ (281474976710656 < Builtin.nextslicecap (len + n) cap * info.bytes) := by omega
    have hng : ¬ (len + n ≤ cap) := by omega
    have h63 : ¬ (9223372036854775807 < ((len : Int) + (n : Int))) := by omega
    simp [Builtin.append_, run_underlying ht, run_underlying hx, sizeOf, typeInfo, asInt, asIntOf, zeroValue, hi, hz, hw, hneg, hbig, hng, h63, h48', hns, Question.forced, hold, newRow, grownCap]
    congr 2
    apply Array.ext'
    simp [List.append_assoc]

end Go.Ev
namespace Go.Ev

variable {P : Program} {G W0 : Nat} {r : Rho} {s : St} {w : World}

theorem trimCl_spec : ∀ (l : List Nat) (h : T AO) (k : Nat), (∀ m o, (trimCl h k l).1.get m = some o → h.get m = some o) ∧ (∀ m, m ∈ l → ∀ o, (trimCl h k l).1.get m = some o → m ∈ (trimCl h k l).2) := by
  intro l
  induction l with
  | nil => intro h k; cases k <;> simp [trimCl]
  | cons x l ih =>
    intro h k
    cases k with
    | zero =>
      simp only [trimCl]
      obtain ⟨a, b⟩ := ih (h.put x none) 0
      have a' : ∀ m o, (trimCl (h.put x none) 0 l).1.get m = some o → m ≠ x ∧ h.get m = some o := by
        intro m o hm
        rcases T.get_put _ _ _ _ _ (a m o hm) with ⟨_, q⟩ | q
        · simp at q
        · exact q
      refine ⟨fun m o hm => (a' m o hm).2, fun m hm o ho => ?_⟩
      rcases List.mem_cons.1 hm with rfl | hm
      · exact absurd rfl (a' _ _ ho).1
      · exact b m hm o ho
    | succ k =>
      simp only [trimCl]
      obtain ⟨a, b⟩ := ih h k
      generalize hq : trimCl h k l = q at a b
      obtain ⟨h1, l1⟩ := q
      refine ⟨a, fun m hm o ho => ?_⟩
      rcases List.mem_cons.1 hm with rfl | hm
      · simp
      · exact List.mem_cons_of_mem _ (b m hm o ho)

theorem frontOf_spec {b : Blk} {o k : Nat} {t : T Value} (h : frontOf b o k = some t) (hn : ∀ j v, b.t.get j = some v → j < b.n) : ∀ j v, t.get j = some v → j < k ∧ b.t.get (o + j) = some v := by
  unfold frontOf at h
  by_cases hc : o = 0 ∧ b.n = k
  · rw [beqT hc.1, beqT hc.2, Bool.and_self, cond_true] at h
    simp only [Option.some.injEq] at h
    subst h
    intro j v hv
    have := hn j v hv
    exact ⟨by omega, by rw [hc.1, Nat.zero_add]; exact hv⟩
  · have : (Nat.beq o 0 && Nat.beq b.n k) = false := by
      by_cases h1 : o = 0
      · have h2 : b.n ≠ k := fun e => hc ⟨h1, e⟩
        rw [beqF h2, Bool.and_false]
      · rw [beqF h1, Bool.false_and]
    rw [this, cond_false] at h
    cases hg : b.t.gets o k with
    | none => rw [hg] at h; simp at h
    | some l =>
      rw [hg] at h; simp only [Option.map_some, Option.some.injEq] at h
      subst h
      obtain ⟨h1, h2⟩ := T.gets_spec _ _ _ _ hg
      intro j v hv
      rcases T.get_puts _ _ _ _ _ hv with ⟨_, a⟩ | ⟨_, a⟩
      · have hj : j < k := by have := (List.getElem?_eq_some_iff.1 a).1; omega
        refine ⟨hj, ?_⟩
        rw [h2 j hj]; simpa using a
      · simp [T.get_leaf] at a

theorem zerosOf_length (z : List Value) : ∀ n, (zerosOf z n).length = n * z.length := by
  intro n
  induction n with
  | zero => simp [zerosOf]
  | succ n ih => simp [zerosOf, ih, Nat.succ_mul]; omega

theorem zerosOf_get (z : List Value) : ∀ (n i : Nat), i < n * z.length → (zerosOf z n)[i]? = z[i % z.length]? := by
  intro n
  induction n with
  | zero => intro i h; simp at h
  | succ n ih =>
    intro i h
    simp only [zerosOf]
    by_cases hi : i < z.length
    · rw [List.getElem?_append_left hi, Nat.mod_eq_of_lt hi]
    · rw [List.getElem?_append_right (by omega), ih _ (by rw [Nat.succ_mul] at h; omega)]
      rw [Nat.mod_eq_sub_mod (a := i) (by omega)]

theorem zeroCells_eq (z : Array Value) (n : Nat) : (Builtin.zeroCells z n).toList = zerosOf z.toList n := by
  apply List.ext_getElem?
  intro i
  by_cases hi : i < n * z.size
  · rw [zerosOf_get _ _ _ (by simpa using hi)]
    have hz : 0 < z.size := by
      rcases Nat.eq_zero_or_pos z.size with e | e
      · rw [e] at hi; simp at hi
      · exact e
    have hm : i % z.size < z.size := Nat.mod_lt _ hz
    simp only [Builtin.zeroCells, Array.toList_map, Array.toList_range, List.getElem?_map]
    simp [hi, hm, getElem!_pos]
  · rw [List.getElem?_eq_none (by simp [Builtin.zeroCells]; omega), List.getElem?_eq_none (by rw [zerosOf_length]; simp; omega)]

theorem zeros_LR {z : Value} {n : Nat} (h : VR r z z) : LR r (zerosOf z.cells.toList n) (zerosOf z.cells.toList n) := by
  have hc := h.cells
  induction n with
  | zero => exact .nil
  | succ n ih => exact hc.append ih

/-- behind an append that went on in place: the new block lies in the old one -/
theorem Rel.inPlace (h : Rel G W0 r s w) {i o len n size k : Nat} {b : Blk} {l : Loc} {s2 s3 : St} {t : T Value} {new new' : List Value}
    (hb : s.h.get i = some (.cells b)) (hwr : b.wr = true) (hr : r i = some l) (hes : b.es = size) (hsz : size ≠ 0) (ho : o = k * size) (hroom : len + n ≤ l.cap - k) (hn0 : n ≠ 0)
    (hsub : ∀ m o, s2.h.get m = some o → s.h.get m = some o) (_hn2 : s2.next = s.next)
    (hend : ∀ m b', s2.h.get m = some (.cells b') → b'.wr = true → b'.cls = b.cls → b'.cs + b'.n ≤ b.cs + (o + len * size)) (_he : o + len * size ≤ b.n)
    (ht : ∀ j v, t.get j = some v → j < len * size ∧ b.t.get (o + j) = some v) (hlen : new.length = n * size) (hv : LR r new new') (hone : new.all oneCell = true)
    (hh3 : s3.h = s2.h.put s.next (some (.cells { t := t.puts (len * size) new, n := (len + n) * size, es := size, cls := b.cls, cs := b.cs + o, wr := true })))
    (hn3 : s3.next = s.next + 1) (hmem : ∀ x b, s3.h.get x = some (.cells b) → b.wr = true → ∀ m, s3.cl.get b.cls = some m → x ∈ m) :
    ∃ w', (storeCells ⟨l.blk, o + l.sh + len * size, none⟩ new').run P w = .ok () w' ∧
      Rel G W0 (r.upd s.next ⟨l.blk, o + l.sh, l.cap - k⟩) s3 w' ∧ Ext r s w (r.upd s.next ⟨l.blk, o + l.sh, l.cap - k⟩) s3 w' := by
  obtain ⟨l0, hr0, c, e, fz, hheap, hcells, hfree, _⟩ := h.obj _ _ hb
  rw [hr] at hr0; simp only [Option.some.injEq] at hr0; subst hr0
  obtain ⟨hW, hfz, hbn, hcap⟩ := hfree hwr
  have hcap := hcap (by omega)
  have hk : k + (len + n) ≤ l.cap := by omega
  have hmul : (k + (len + n)) * size ≤ l.cap * size := Nat.mul_le_mul_right size hk
  have hlen' := hv.length
  have hexp : (k + (len + n)) * size = k * size + len * size + n * size := by rw [Nat.add_mul, Nat.add_mul, Nat.add_assoc]
  rw [hes] at hcap
  have hfit : o + l.sh + len * size + new'.length ≤ c.size := by rw [← hlen', hlen, ho]; omega
  have hrun := run_storeCells (P := P) new' w l.blk (o + l.sh + len * size) 0 c e fz hheap (by simpa using hfit) hfz (by rw [oneCell_LR hv]; exact hone)
  rw [Nat.add_zero] at hrun
  have hlt := (Array.getElem?_eq_some_iff.1 hheap).1
  have hdom := h.dom s.next (Nat.le_refl _)
  have hle := Rho.le_upd (l := ⟨l.blk, o + l.sh, l.cap - k⟩) hdom
  have hget : ∀ x, (World.setObj w l.blk (.cells (putCells c (o + l.sh + len * size) new') e fz)).heap[x]? = if x = l.blk then some (.cells (putCells c (o + l.sh + len * size) new') e fz) else w.heap[x]? := fun x => setObj_get _ _ _ _ hlt
  have hmulLN : (len + n) * size = len * size + n * size := Nat.add_mul _ _ _
  have key : ∀ z oz, s3.h.get z = some oz → (z = s.next ∧ oz = .cells { t := t.puts (len * size) new, n := (len + n) * size, es := size, cls := b.cls, cs := b.cs + o, wr := true }) ∨ (z ≠ s.next ∧ s2.h.get z = some oz ∧ s.h.get z = some oz) := by
    intro z oz hz
    rw [hh3] at hz
    rcases T.get_put _ _ _ _ _ hz with ⟨e1, e2⟩ | ⟨e1, e2⟩
    · exact .inl ⟨e1, by simpa using e2.symm⟩
    · exact .inr ⟨e1, e2, hsub _ _ e2⟩
  have hup : ∀ x lx, x ≠ s.next → (r.upd s.next ⟨l.blk, o + l.sh, l.cap - k⟩) x = some lx → r x = some lx := fun x lx hx hl => by simpa [Rho.upd, hx] using hl
  refine ⟨_, hrun, ?_, ?_⟩
  · refine { glob := fun g hg => hle _ _ (h.glob g hg), dom := fun x hx => ?_, base := by simpa [World.setObj] using h.base, obj := ?_, alias := ?_, mem := hmem, clsd := ?_ }
    · have : x ≠ s.next := by omega
      simp only [Rho.upd, this, if_false]; exact h.dom x (by omega)
    · intro x ox hx
      rcases key x ox hx with ⟨rfl, rfl⟩ | ⟨e1, e2, e3⟩
      · refine ⟨_, Rho.upd_same, putCells c (o + l.sh + len * size) new', e, fz, (hget l.blk).trans (if_pos rfl), ?_, fun _ => ⟨hW, by simpa [putCells_size] using hfz, ?_, fun _ => ?_⟩, fun q => by simp at q⟩
        · intro j v hj
          rcases T.get_puts _ _ _ _ _ hj with ⟨a1, a2⟩ | ⟨a1, a2⟩
          · have hj2 : j - len * size < new.length := (List.getElem?_eq_some_iff.1 a2).1
            obtain ⟨v', b1, b2⟩ := hv.get' a2
            refine ⟨by show j < (len + n) * size; omega, v', ?_, b2.mono hle⟩
            show (putCells c (o + l.sh + len * size) new')[j + (o + l.sh)]? = some v'
            rw [putCells_get _ _ _ _ hfit, if_pos (by omega)]
            rw [show j + (o + l.sh) - (o + l.sh + len * size) = j - len * size by omega]; exact b1
          · obtain ⟨b1, b2⟩ := ht j v a2
            obtain ⟨_, v', c1, c2⟩ := hcells _ _ b2
            refine ⟨by show j < (len + n) * size; omega, v', ?_, c2.mono hle⟩
            show (putCells c (o + l.sh + len * size) new')[j + (o + l.sh)]? = some v'
            rw [putCells_get _ _ _ _ hfit, if_neg (by omega)]
            rw [show j + (o + l.sh) = o + j + l.sh by omega]; exact c1
        · rw [putCells_size]; show (len + n) * size + (o + l.sh) ≤ c.size; omega
        · rw [putCells_size]; show o + l.sh + (l.cap - k) * size ≤ c.size
          have : (l.cap - k) * size = l.cap * size - k * size := Nat.sub_mul _ _ _
          have : k * size ≤ l.cap * size := Nat.mul_le_mul_right size (by omega)
          omega
      · obtain ⟨l2, hr2, hok⟩ := h.obj x ox e3
        refine ⟨l2, hle _ _ hr2, ?_⟩
        by_cases hbl : l2.blk = l.blk
        · have hwr2 : ox.wr = true := by
            cases ox with
            | cells b2 =>
              cases hq : b2.wr with
              | true => exact hq
              | false => obtain ⟨_, _, _, _, _, _, hlow⟩ := hok; have := hlow hq; omega
            | map _ _ => rfl
            | iter _ _ => rfl
            | _ => rfl
          have hcl : ∃ bi, ox = .cells bi ∧ bi.cls = b.cls ∧ l2.sh + b.cs = l.sh + bi.cs := by
            by_cases hxi : x = i
            · subst hxi
              rw [hb] at e3; simp only [Option.some.injEq] at e3
              rw [hr] at hr2; simp only [Option.some.injEq] at hr2
              subst hr2
              exact ⟨b, e3.symm, rfl, rfl⟩
            · obtain ⟨bi, bj, ei, ej, h1, h2⟩ := h.alias x i ox _ l2 l e3 hb hwr2 hwr hr2 hr hxi hbl
              simp only [AO.cells.injEq] at ej; subst ej
              exact ⟨bi, ei, h1, h2⟩
          obtain ⟨bi, rfl, hcls, hsh⟩ := hcl
          have hend2 := hend x bi e2 hwr2 hcls
          obtain ⟨c2, e2', fz2, hh2, hcells2, hfree2, hlow2⟩ := hok
          rw [hbl, hheap] at hh2
          simp only [Option.some.injEq, Obj.cells.injEq] at hh2
          obtain ⟨rfl, rfl, rfl⟩ := hh2
          have hf2 := hfree2 hwr2
          refine ⟨putCells c (o + l.sh + len * size) new', e, fz, by rw [hbl]; exact (hget l.blk).trans (if_pos rfl), ?_, fun _ => ⟨hf2.1, by simpa [putCells_size] using hf2.2.1, by simpa [putCells_size] using hf2.2.2.1, by simpa [putCells_size] using hf2.2.2.2⟩, fun q => by simp [AO.wr] at hwr2; simp [hwr2] at q⟩
          intro j v hj
          obtain ⟨b1, v', b2, b3⟩ := hcells2 j v hj
          refine ⟨b1, v', ?_, b3.mono hle⟩
          rw [putCells_get _ _ _ _ hfit, if_neg (by omega)]
          exact b2
        · exact hok.of_heap hle (by rw [hget, if_neg hbl])
    · intro x y ox oy lx ly hx hy wx wy rx ry hne hbl
      have one : ∀ z oz lz, z ≠ s.next → s.h.get z = some oz → oz.wr = true → r z = some lz → lz.blk = l.blk → ∃ bz, oz = .cells bz ∧ bz.cls = b.cls ∧ lz.sh + b.cs = l.sh + bz.cs := by
        intro z oz lz hz hg hw2 hrz hbz
        by_cases hzi : z = i
        · subst hzi
          rw [hb] at hg; simp only [Option.some.injEq] at hg
          rw [hr] at hrz; simp only [Option.some.injEq] at hrz
          subst hrz
          exact ⟨b, hg.symm, rfl, rfl⟩
        · obtain ⟨bi, bj, ei, ej, h1, h2⟩ := h.alias z i oz _ lz l hg hb hw2 hwr hrz hr hzi hbz
          simp only [AO.cells.injEq] at ej; subst ej
          exact ⟨bi, ei, h1, h2⟩
      rcases key x ox hx with ⟨rfl, rfl⟩ | ⟨e1, _, e3⟩
      · rcases key y oy hy with ⟨rfl, rfl⟩ | ⟨f1, _, f3⟩
        · exact absurd rfl hne
        · rw [Rho.upd_same] at rx; simp only [Option.some.injEq] at rx; subst rx
          obtain ⟨bz, rfl, c1, c2⟩ := one y oy ly f1 f3 wy (hup y ly f1 ry) hbl.symm
          exact ⟨_, bz, rfl, rfl, c1.symm, by show o + l.sh + bz.cs = ly.sh + (b.cs + o); omega⟩
      · rcases key y oy hy with ⟨rfl, rfl⟩ | ⟨f1, _, f3⟩
        · rw [Rho.upd_same] at ry; simp only [Option.some.injEq] at ry; subst ry
          obtain ⟨bz, rfl, c1, c2⟩ := one x ox lx e1 e3 wx (hup x lx e1 rx) hbl
          exact ⟨bz, _, rfl, rfl, c1, by show lx.sh + (b.cs + o) = o + l.sh + bz.cs; omega⟩
        · exact h.alias x y ox oy lx ly e3 f3 wx wy (hup x lx e1 rx) (hup y ly f1 ry) hne hbl
    · intro x bx hx hw hnone
      have hc : bx.cls = s.next ∨ r bx.cls = none := by
        by_cases hq : bx.cls = s.next
        · exact .inl hq
        · exact .inr (by simpa [Rho.upd, hq] using hnone)
      rcases key x _ hx with ⟨rfl, e2⟩ | ⟨e1, _, e3⟩
      · simp only [AO.cells.injEq] at e2
        subst e2
        rcases hc with hc | hc
        · simp only at hc; rw [hc, Rho.upd_same] at hnone; simp at hnone
        · exact h.clsd i b hb hwr hc
      · rcases hc with hc | hc
        · exact h.clsd x bx e3 hw (by rw [hc]; exact hdom)
        · exact h.clsd x bx e3 hw hc
  · refine ⟨hle, by omega, by simp [World.setObj], rfl, rfl, rfl, fun x hx hn => (by simp only [Rho.upd, show x ≠ s.next by omega, if_false]; exact hn), fun x hx hp => ⟨?_, ?_⟩⟩
    · rw [hget, if_neg (fun e => hp i _ l hb hwr hr e.symm)]
    · intro y oy ly hy hw hry
      rcases key y oy hy with ⟨rfl, rfl⟩ | ⟨e1, _, e3⟩
      · rw [Rho.upd_same] at hry; simp only [Option.some.injEq] at hry; subst hry
        exact hp i _ l hb hwr hr
      · exact hp y oy ly e3 hw (hup y ly e1 hry)

end Go.Ev
