/- Known calls: pieces of a run, each a theorem. -/
import Derived.Test.YtocplhpfndgagaaGreatDoorEvRun
import Derived.Below
import Derived.Carry
import Derived.LaidLaws
import Derived.ChangeArms
import Derived.Lib.LaidTab
import Derived.Test.YtocplhpfndgagaaGreatDoorEvFast
namespace Go.Ev
open Go.RowKit

variable {P : Program} {M : Orc}

def isTrue : Option Res → Bool
  | some (.ret (.bool true) _) => true
  | _ => false

theorem isTrue_spec {o : Option Res} (h : isTrue o = true) : ∃ s, o = some (.ret (.bool true) s) := by
  unfold isTrue at h
  split at h
  · exact ⟨_, rfl⟩
  · simp at h

/-- objects that may only be read -/
noncomputable def ro (l : List Value) : AO := .cells { t := T.leaf.puts 0 l, n := l.length, es := 0, cls := 0, cs := 0, wr := false }

theorem rel_ro {G : Nat} {r : Rho} {s : St} {w : World} (hg : ∀ g, g < G → r g = some ⟨g, 0, 0⟩) (hd : ∀ i, s.next ≤ i → r i = none)
    (ho : ∀ i o, s.h.get i = some o → o.wr = false ∧ ∃ l, r i = some l ∧ AOk r w.heap.size o l w) : Rel G w.heap.size r s w ∧ ∀ x, Prot r s x :=
  ⟨{ glob := hg, dom := hd, base := Nat.le_refl _, obj := fun i o h => (ho i o h).2,
     alias := fun i j oi oj li lj hi _ wi => by rw [(ho i oi hi).1] at wi; simp at wi
     mem := fun i b hi hw => by have := (ho i _ hi).1; simp only [AO.wr] at this; rw [this] at hw; simp at hw
     clsd := fun i b hi hw => by have := (ho i _ hi).1; simp only [AO.wr] at this; rw [this] at hw; simp at hw },
   fun x i o l hi hw => by rw [(ho i o hi).1] at hw; simp at hw⟩

theorem ro_ok {r : Rho} {w : World} {l : List Value} {k : Loc} {c : Array Value} {e : TypeId} {fz : Nat × Nat} (hc : w.heap[k.blk]? = some (.cells c e fz))
    (hv : ∀ j v, l[j]? = some v → ∃ v', c[j + k.sh]? = some v' ∧ VR r v v') : (ro l).wr = false ∧ AOk r w.heap.size (ro l) k w := by
  refine ⟨rfl, c, e, fz, hc, fun j v hj => ?_, fun h => by simp at h, fun _ => (Array.getElem?_eq_some_iff.1 hc).1⟩
  rcases T.get_puts _ _ _ _ _ hj with ⟨_, a⟩ | ⟨_, a⟩
  · have a : l[j]? = some v := by simpa using a
    exact ⟨(List.getElem?_eq_some_iff.1 a).1, hv j v a⟩
  · simp [T.get_leaf] at a

theorem below_of_ext {r r' : Rho} {s s' : St} {w w' : World} (h : Ext r s w r' s' w') (hp : ∀ x, Prot r s x) : Below w.heap.size w w' :=
  ⟨h.os, h.tape, h.output, h.size, fun x hx => (h.frame x hx (hp x)).1⟩

/-- a closed call that the evaluator ran -/
theorem calls_of_run (hm : P.follows .mixedOrders = true) (hM : ∀ W0, RcOk P W0 M) {fuel : Nat} {f : FuncId} {args args' : List Value} {s : St} (h : isTrue (run P M fuel (.call f args) s) = true) {r : Rho} {w : World}
    (hR : Rel P.globals.size w.heap.size r s w) (hp : ∀ x, Prot r s x) (ha : LR r args args') : Calls P f args'.toArray w fun e w' => e = .returned (.bool true) ∧ Below w.heap.size w w' := by
  obtain ⟨s', hs⟩ := isTrue_spec h
  have := (run_sound (W0 := w.heap.size) hm (hM _) fuel _ _ _ hs).2 r w args' hR ha
  refine this.mono fun e w' he => ?_
  obtain ⟨r', v', rfl, hv, _, hE⟩ := he
  cases hv
  exact ⟨rfl, below_of_ext hE hp⟩

theorem laidVars_mem {w : World} {n : String} {d : DataW Unit} : ∀ {l : List (String × DataW Unit)} {ps : List MemPlace}, DataW.LaidVars P w l ps → (n, d) ∈ l →
    ∃ g t cs fuel p, P.globalNamed n = some g ∧ (P.globals[g]?).map (·.type) = some t ∧ w.var? P n = some cs ∧ DataW.trod (fun _ => ()) P w 0 (fun _ => true) false fuel t cs.toList = some (d, p) := by
  intro l
  induction l with
  | nil => intro _ _ h; simp at h
  | cons x l ih =>
    intro ps h hm
    obtain ⟨n', d'⟩ := x
    obtain ⟨g, t, cs, fuel, p, q, h1, h2, h3, h4, h5, _⟩ := h
    rcases List.mem_cons.1 hm with e | hm
    · cases e; exact ⟨g, t, cs, fuel, p, h1, h2, h3, h4⟩
    · exact ih h5 hm

/-- a package variable that is a slice of strings -/
theorem laid_strings {W : World} {laid : List (String × DataW Unit)} {name : String} {bs : List (List UInt8)} {g : Nat} {t e : TypeId} (h : laidMet P laid W)
    (hmem : (name, DataW.slice (bs.map fun b => .lit (.string b)) []) ∈ laid) (hg : P.globalNamed name = some g) (hty : (P.globals[g]?).map (·.type) = some t)
    (ht : P.underlying t = some (.slice e)) (he : P.underlying e = some .string) (hce : P.cellsOf e = 1) (hne : bs ≠ []) :
    ∃ c0 t0 fz0 b off cap c fz et, W.heap[g]? = some (.cells c0 t0 fz0) ∧ c0[0]? = some (.slice (some ⟨b, off, none⟩) bs.length cap) ∧ bs.length ≤ cap ∧ W.heap[b]? = some (.cells c et fz) ∧
      ∀ i s, bs[i]? = some s → c[off + i]? = some (.string ⟨s.toArray⟩) := by
  obtain ⟨ps, hl, _⟩ := h
  obtain ⟨g', t', cs, fuel, p, h1, h2, h3, h4⟩ := laidVars_mem hl hmem
  rw [hg] at h1; simp only [Option.some.injEq] at h1; subst h1
  rw [hty] at h2; simp only [Option.some.injEq] at h2; subst h2
  have hblk : ∃ c0 t0 fz0, W.heap[g]? = some (.cells c0 t0 fz0) ∧ c0 = cs := by
    simp only [World.var?, hg, Option.bind_some] at h3
    split at h3
    · rename_i c0 t0 fz0 hq; simp only [Option.some.injEq] at h3; exact ⟨c0, t0, fz0, hq, h3⟩
    · simp at h3
  obtain ⟨c0, t0, fz0, hb0, rfl⟩ := hblk
  cases fuel with
  | zero => simp [DataW.trod] at h4
  | succ fuel =>
    simp only [DataW.trod, ht] at h4
    split at h4 <;> first
      | (rename_i q _; simp only [Option.some.injEq, reduceCtorEq] at q; done)
      | (simp at h4; done)
      | skip
    rename_i e' a0 len cap hee hcs
    simp only [Option.some.injEq, TypeDesc.slice.injEq] at hee
    subst hee
    split at h4
    · rename_i hc
      obtain ⟨elems, hE, h5⟩ := Option.bind_eq_some_iff.1 h4
      obtain ⟨rest, _, h6⟩ := Option.map_eq_some_iff.1 h5
      simp only [Prod.mk.injEq, DataW.slice.injEq] at h6
      obtain ⟨⟨h7, _⟩, _⟩ := h6
      have hlen : elems.length = len := by simpa using Lib.mapM_length hE
      have hbl : bs.length = len := by have := congrArg List.length h7; simp at this; omega
      have key : ∀ i s, bs[i]? = some s → W.cell? (a0.add i) = some (.string ⟨s.toArray⟩) := by
        intro i s hi
        have hil : i < len := by have := (List.getElem?_eq_some_iff.1 hi).1; omega
        obtain ⟨x, x1, x2⟩ := Lib.mapM_at hE i i (by simp [hil])
        obtain ⟨cs, y1, y2⟩ := Option.bind_eq_some_iff.1 x2
        have hx : x.1 = .lit (.string s) := by
          have := congrArg (·[i]?) h7
          simp only [List.getElem?_map, x1, hi, Option.map_some, Option.some.injEq] at this
          exact this
        rw [hce, Nat.mul_one] at y1
        simp only [World.cells?, Nat.zero_le, if_true, show List.range 1 = [0] from rfl, List.mapM_cons, List.mapM_nil, Option.pure_def, Option.bind_eq_bind, Addr.add] at y1
        obtain ⟨v, z1, z2⟩ := Option.bind_eq_some_iff.1 y1
        simp only [Option.bind_some, Option.some.injEq] at z2
        subst z2
        obtain ⟨b, e1, e2, _⟩ := DataW.trod_string he y2
        simp only [List.cons.injEq, and_true] at e1
        subst e1
        rw [e2] at hx
        simp only [DataW.lit.injEq, Lit.string.injEq] at hx
        rw [← hx]
        simpa [Addr.add] using z1
      have h0 : 0 < bs.length := by cases bs with | nil => exact absurd rfl hne | cons _ _ => simp
      have hs0 := key 0 _ (List.getElem?_eq_getElem h0)
      have hspot : a0.spot = none := by
        cases hsp : a0.spot with
        | none => rfl
        | some z => simp only [Addr.add, if_true, World.cell?, hsp, Option.isSome_some] at hs0; split at hs0 <;> simp at hs0
      obtain ⟨ab, ao, asp⟩ := a0
      simp only at hspot; subst hspot
      have hblk : ∃ c et fz, W.heap[ab]? = some (.cells c et fz) := by
        simp only [Addr.add, if_true, World.cell?] at hs0
        split at hs0
        · rename_i c et fz hq; exact ⟨c, et, fz, hq⟩
        · simp at hs0
      obtain ⟨c, et, fz, hq⟩ := hblk
      refine ⟨c0, t0, fz0, ab, ao, cap, c, fz, et, hb0, ?_, by omega, hq, fun i s hi => ?_⟩
      · rw [← Array.getElem?_toList, hcs, hbl]; rfl
      · have := key i s hi
        rw [add_off] at this
        rw [cell_of hq] at this
        exact this
    · simp at h4

end Go.Ev
namespace Go.Ev
open Go.RowKit

variable {P : Program} {M : Orc}

/-- where one package variable is known, a slice of strings -/
noncomputable def stWords (G g : Nat) (bs : List (List UInt8)) : St :=
  { h := (T.leaf.put g (some (ro [.slice (some ⟨G, 0, none⟩) bs.length CB]))).put G (some (ro (bs.map fun b => .string ⟨b.toArray⟩))), next := G + 1, cl := .leaf }

def rhoWords (G b off cap : Nat) : Rho := fun i => if i < G then some ⟨i, 0, 0⟩ else if i = G then some ⟨b, off, cap⟩ else none

theorem rhoWords_eq (G b off cap i : Nat) : rhoWords G b off cap i = if i < G then some ⟨i, 0, 0⟩ else if i = G then some ⟨b, off, cap⟩ else none := rfl

theorem rel_words {W : World} {laid : List (String × DataW Unit)} {name : String} {bs : List (List UInt8)} {g : Nat} {t e : TypeId} (h : laidMet P laid W)
    (hmem : (name, DataW.slice (bs.map fun b => .lit (.string b)) []) ∈ laid) (hg : P.globalNamed name = some g) (hty : (P.globals[g]?).map (·.type) = some t)
    (ht : P.underlying t = some (.slice e)) (he : P.underlying e = some .string) (hce : P.cellsOf e = 1) (hne : bs ≠ []) :
    ∃ r, Rel P.globals.size W.heap.size r (stWords P.globals.size g bs) W ∧ ∀ x, Prot r (stWords P.globals.size g bs) x := by
  have hgl : g < P.globals.size := by
    cases hq : P.globals[g]? with
    | none => rw [hq] at hty; simp at hty
    | some x => exact (Array.getElem?_eq_some_iff.1 hq).1
  obtain ⟨c0, t0, fz0, b, off, cap, c, fz, et, h1, h2, h3, h4, h5⟩ := laid_strings h hmem hg hty ht he hce hne
  have hr := rhoWords_eq P.globals.size b off cap
  refine ⟨rhoWords P.globals.size b off cap, rel_ro (fun i hi => by rw [hr, if_pos hi]) (fun i hi => ?_) fun i o ho => ?_⟩
  · have hi : P.globals.size + 1 ≤ i := hi
    rw [hr, if_neg (by omega), if_neg (by omega)]
  · rcases T.get_put _ _ _ _ _ ho with ⟨e1, e2⟩ | ⟨e1, e2⟩
    · simp only [Option.some.injEq] at e2
      subst e2; subst e1
      obtain ⟨a1, a2⟩ := ro_ok (r := rhoWords P.globals.size b off cap) (k := ⟨b, off, cap⟩) (l := bs.map fun b => Value.string ⟨b.toArray⟩) h4 (fun j v hj => by
        rw [List.getElem?_map] at hj
        obtain ⟨s, hs, rfl⟩ := Option.map_eq_some_iff.1 hj
        exact ⟨_, by rw [Nat.add_comm]; exact h5 j s hs, .string _⟩)
      exact ⟨a1, ⟨b, off, cap⟩, by rw [hr, if_neg (by omega), if_pos rfl], a2⟩
    · rcases T.get_put _ _ _ _ _ e2 with ⟨e3, e4⟩ | ⟨e3, e4⟩
      · simp only [Option.some.injEq] at e4
        subst e4; subst e3
        obtain ⟨a1, a2⟩ := ro_ok (r := rhoWords P.globals.size b off cap) (k := ⟨i, 0, 0⟩) (l := [Value.slice (some ⟨P.globals.size, 0, none⟩) bs.length CB]) h1 (fun j v hj => by
          cases j with
          | succ j => simp at hj
          | zero =>
            simp only [List.getElem?_cons_zero, Option.some.injEq] at hj
            subst hj
            have hcap : (⟨b, off, cap⟩ : Loc).capOf CB = cap := by simp [Loc.capOf]
            have := VR.slice (r := rhoWords P.globals.size b off cap) (i := P.globals.size) (o := 0) (n := bs.length) (c := CB) (l := ⟨b, off, cap⟩)
              (by rw [hr, if_neg (by omega), if_pos rfl]) (by rw [hcap]; exact h3)
            rw [hcap, Nat.zero_add] at this
            exact ⟨_, by simpa using h2, this⟩)
        exact ⟨a1, ⟨i, 0, 0⟩, by rw [hr, if_pos hgl], a2⟩
      · simp [T.get_leaf] at e4

/-- a closed call, in a world where one package variable is known -/
theorem calls_words (hm : P.follows .mixedOrders = true) (hM : ∀ W0, RcOk P W0 M) {W : World} {laid : List (String × DataW Unit)} {name : String} {bs : List (List UInt8)} {g : Nat} {t e : TypeId} (h : laidMet P laid W)
    (hmem : (name, DataW.slice (bs.map fun b => .lit (.string b)) []) ∈ laid) (hg : P.globalNamed name = some g) (hty : (P.globals[g]?).map (·.type) = some t)
    (ht : P.underlying t = some (.slice e)) (he : P.underlying e = some .string) (hce : P.cellsOf e = 1) (hne : bs ≠ []) {fuel : Nat} {f : FuncId}
    (hrun : isTrue (run P M fuel (.call f []) (stWords P.globals.size g bs)) = true) : Calls P f #[] W fun e w' => e = .returned (.bool true) ∧ Below W.heap.size W w' := by
  obtain ⟨r, hR, hp⟩ := rel_words h hmem hg hty ht he hce hne
  exact calls_of_run hm hM hrun hR hp .nil

end Go.Ev
namespace Go.Ev

noncomputable section

def sameO {α : Type} (f : α → α → Bool) : Option α → Option α → Bool
  | none, none => true
  | some a, some b => f a b
  | _, _ => false

/-- the same tree -/
def sameT {α : Type} (f : α → α → Bool) (t : T α) : T α → Bool :=
  T.rec (motive := fun _ => T α → Bool) (fun u => match u with | .leaf => true | .node _ _ _ => false)
    (fun _ v _ il ir u => match u with | .leaf => false | .node l v' r => sameO f v v' && (il l && ir r)) t

def sameEs : List MapEntry → List MapEntry → Bool
  | [], [] => true
  | a :: l, b :: m => sameV 8 a.key b.key && sameV 8 a.val b.val && Nat.beq a.born b.born && sameEs l m
  | _, _ => false

def sameAO : AO → AO → Bool
  | .cells b, .cells c => Nat.beq b.n c.n && Nat.beq b.es c.es && Nat.beq b.cls c.cls && Nat.beq b.cs c.cs && (b.wr == c.wr) && sameT (sameV 8) b.t c.t
  | .map es k, .map fs m => Nat.beq k m && sameEs es fs
  | .iter b p, .iter c q => Nat.beq p q && decide (b.data.toList = c.data.toList)
  | .marks, .marks => true
  | _, _ => false

/-- what is known of a store: the next number, objects -/
structure Lit where
  next : Nat
  objs : List (Nat × AO)

def litTree (l : List (Nat × AO)) : T AO → T AO :=
  List.rec (motive := fun _ => T AO → T AO) (fun t => t) (fun p _ ih t => ih (t.put p.1 (some p.2))) l

def inCls (c : Nat) : AO → Bool
  | .cells b => b.wr && Nat.beq b.cls c
  | _ => false

/-- the members of a class, the youngest first -/
def membersOf (c : Nat) (l : List (Nat × AO)) : List Nat → List Nat :=
  List.rec (motive := fun _ => List Nat → List Nat) (fun acc => acc) (fun p _ ih acc => ih (bif inCls c p.2 then p.1 :: acc else acc)) l

def clsOne (all : List (Nat × AO)) : AO → T (List Nat) → T (List Nat)
  | .cells b, t => bif b.wr then t.put b.cls (some (membersOf b.cls all [])) else t
  | _, t => t

def clsTree (all : List (Nat × AO)) (l : List (Nat × AO)) : T (List Nat) → T (List Nat) :=
  List.rec (motive := fun _ => T (List Nat) → T (List Nat)) (fun t => t) (fun p _ ih t => ih (clsOne all p.2 t)) l

def Lit.st (l : Lit) : St := { h := litTree l.objs .leaf, next := l.next, cl := clsTree l.objs l.objs .leaf }

def subOne (_s : St) (o : AO) : Option AO → Bool
  | some o' => sameAO o' o
  | none => false

def subOk (s : St) (l : List (Nat × AO)) : Bool :=
  List.rec (motive := fun _ => Bool) true (fun p _ ih => subOne s p.2 (s.h.get p.1) && ih) l

/-- a call that is known: from what it is run, what it gives, what is known then -/
structure Known where
  f : FuncId
  args : List Value
  inn : Lit
  v : Value
  out : Lit

def orcOf (l : List Known) : Orc :=
  List.rec (motive := fun _ => Orc) (fun _ _ _ => none)
    (fun k _ ih f args s => bif Nat.beq k.inn.next s.next then
      (bif Nat.beq k.f f && (sameL (sameV 8) args k.args && subOk s k.inn.objs) then some (.ret k.v k.out.st) else ih f args s) else ih f args s) l

variable (P : Program)

def endOk (k : Known) : Option Res → Bool
  | some (.ret v s) => sameV 8 v k.v && (Nat.beq s.next k.out.next && subOk s k.out.objs)
  | _ => false

/-- a known call is run, by means of others -/
def pieceOk (l : List Known) (k : Known) : Bool := endOk k (trun P (orcOf l) 1000000 (.call k.f k.args) k.inn.st)

def KOk (k : Known) : Prop := ∀ W0, (∀ args w, (callFunc k.f args).run P w = .ok (.enter k.f args) w) ∧
  ∀ r w args', Rel P.globals.size W0 r k.inn.st w → LR r k.args args' → Calls P k.f args'.toArray w (CallPost P W0 r k.inn.st w (.ret k.v k.out.st))

end

theorem sameO_sound {α : Type} {f : α → α → Bool} (hf : ∀ a b, f a b = true → a = b) : ∀ {a b : Option α}, sameO f a b = true → a = b
  | none, none, _ => rfl
  | some a, some b, h => by rw [hf a b h]
  | none, some _, h => by simp [sameO] at h
  | some _, none, h => by simp [sameO] at h

theorem sameT_sound {α : Type} {f : α → α → Bool} (hf : ∀ a b, f a b = true → a = b) : ∀ (t u : T α), sameT f t u = true → t = u := by
  intro t
  induction t with
  | leaf => intro u h; cases u with
    | leaf => rfl
    | node l v r => exact absurd h (by simp [sameT])
  | node l v r ihl ihr =>
    intro u h
    cases u with
    | leaf => exact absurd h (by simp [sameT])
    | node l' v' r' =>
      have h : (sameO f v v' && (sameT f l l' && sameT f r r')) = true := h
      simp only [Bool.and_eq_true] at h
      rw [sameO_sound hf h.1, ihl _ h.2.1, ihr _ h.2.2]

theorem sameEs_sound : ∀ (l m : List MapEntry), sameEs l m = true → l = m
  | [], [], _ => rfl
  | a :: l, b :: m, h => by
    simp only [sameEs, Bool.and_eq_true] at h
    obtain ⟨⟨⟨h1, h2⟩, h3⟩, h4⟩ := h
    have e : a = b := by
      cases a; cases b
      simp only at h1 h2 h3
      rw [sameV_sound _ _ _ h1, sameV_sound _ _ _ h2, Nat.eq_of_beq_eq_true h3]
    rw [e, sameEs_sound l m h4]
  | [], _ :: _, h => by simp [sameEs] at h
  | _ :: _, [], h => by simp [sameEs] at h

theorem sameAO_sound (a b : AO) (h : sameAO a b = true) : a = b := by
  unfold sameAO at h
  split at h
  · rename_i b c
    simp only [Bool.and_eq_true] at h
    obtain ⟨⟨⟨⟨⟨h1, h2⟩, h3⟩, h4⟩, h5⟩, h6⟩ := h
    cases b; cases c
    simp only at h1 h2 h3 h4 h5 h6
    rw [Nat.eq_of_beq_eq_true h1, Nat.eq_of_beq_eq_true h2, Nat.eq_of_beq_eq_true h3, Nat.eq_of_beq_eq_true h4, eq_of_beq h5, sameT_sound (sameV_sound 8) _ _ h6]
  · simp only [Bool.and_eq_true] at h
    rw [Nat.eq_of_beq_eq_true h.1, sameEs_sound _ _ h.2]
  · rename_i b p c q
    simp only [Bool.and_eq_true, decide_eq_true_eq] at h
    have e : b = c := by
      cases b; cases c
      rename_i x y
      have := h.2
      simp only at this
      rw [Array.ext' this]
    rw [Nat.eq_of_beq_eq_true h.1, e]
  · rfl
  · simp at h

theorem litTree_get : ∀ (l : List (Nat × AO)) (t : T AO) (m : Nat) (o : AO), (litTree l t).get m = some o → (m, o) ∈ l ∨ t.get m = some o := by
  intro l
  induction l with
  | nil => intro t m o h; exact .inr h
  | cons p l ih =>
    intro t m o h
    rcases ih _ _ _ h with h | h
    · exact .inl (List.mem_cons_of_mem _ h)
    · rcases T.get_put _ _ _ _ _ h with ⟨rfl, e⟩ | ⟨_, e⟩
      · simp only [Option.some.injEq] at e; subst e; exact .inl (by simp)
      · exact .inr e

theorem members_acc (c : Nat) : ∀ (l : List (Nat × AO)) (acc : List Nat) (i : Nat), i ∈ acc → i ∈ membersOf c l acc := by
  intro l
  induction l with
  | nil => intro acc i h; exact h
  | cons p l ih =>
    intro acc i h
    refine ih _ i ?_
    cases inCls c p.2 with
    | true => exact List.mem_cons_of_mem _ h
    | false => exact h

theorem members_mem (c : Nat) : ∀ (l : List (Nat × AO)) (acc : List Nat) (i : Nat) (o : AO), (i, o) ∈ l → inCls c o = true → i ∈ membersOf c l acc := by
  intro l
  induction l with
  | nil => intro acc i o h; simp at h
  | cons p l ih =>
    intro acc i o h ho
    rcases List.mem_cons.1 h with rfl | h
    · refine members_acc c l _ i ?_
      simp only [ho, cond_true]; simp
    · exact ih _ i o h ho

theorem clsTree_get (all : List (Nat × AO)) : ∀ (l : List (Nat × AO)) (t : T (List Nat)), (∀ c m, t.get c = some m → m = membersOf c all []) → ∀ c m, (clsTree all l t).get c = some m → m = membersOf c all [] := by
  intro l
  induction l with
  | nil => intro t h; exact h
  | cons p l ih =>
    intro t h
    refine ih (clsOne all p.2 t) fun c m hm => ?_
    unfold clsOne at hm
    split at hm
    · rename_i b _
      cases hw : b.wr with
      | false => rw [hw, cond_false] at hm; exact h c m hm
      | true =>
        rw [hw, cond_true] at hm
        rcases T.get_put _ _ _ _ _ hm with ⟨rfl, e⟩ | ⟨_, e⟩
        · simp only [Option.some.injEq] at e; exact e.symm
        · exact h c m e
    · exact h c m hm

theorem Lit.get {l : Lit} {m : Nat} {o : AO} (h : l.st.h.get m = some o) : (m, o) ∈ l.objs := by
  rcases litTree_get _ _ _ _ h with h | h
  · exact h
  · simp [T.get_leaf] at h

theorem Lit.mem {l : Lit} (i : Nat) (b : Blk) (h : l.st.h.get i = some (.cells b)) (hw : b.wr = true) (m : List Nat) (hm : l.st.cl.get b.cls = some m) : i ∈ m := by
  have := clsTree_get l.objs l.objs .leaf (fun c m h => by simp [T.get_leaf] at h) _ _ hm
  rw [this]
  exact members_mem _ _ _ _ _ (Lit.get h) (by simp [inCls, hw])

theorem subOk_spec {s : St} : ∀ {l : List (Nat × AO)}, subOk s l = true → ∀ m o, (m, o) ∈ l → s.h.get m = some o := by
  intro l
  induction l with
  | nil => intro _ m o h; simp at h
  | cons p l ih =>
    intro h m o hm
    have h : (subOne s p.2 (s.h.get p.1) && subOk s l) = true := h
    simp only [Bool.and_eq_true] at h
    rcases List.mem_cons.1 hm with e | hm
    · have h1 := h.1
      rw [← e] at h1
      simp only at h1
      unfold subOne at h1
      split at h1
      · rename_i o' ho
        rw [ho, sameAO_sound _ _ h1]
      · simp at h1
    · exact ih h.2 m o hm

theorem Lit.sub {l : Lit} {s : St} (h : subOk s l.objs = true) : ∀ m o, l.st.h.get m = some o → s.h.get m = some o :=
  fun m o hm => subOk_spec h m o (Lit.get hm)

variable {P : Program} {G W0 : Nat} {r : Rho} {s : St} {w : World}

theorem Rel.lit (h : Rel G W0 r s w) {l : Lit} (hn : l.next = s.next) (hs : subOk s l.objs = true) : Rel G W0 r l.st w :=
  h.less hn (Lit.sub hs) Lit.mem

theorem callPost_in {k : Known} (hn : k.inn.next = s.next) (hs : subOk s k.inn.objs = true) {e : Ending} {w' : World} {res : Res} (h : CallPost P W0 r k.inn.st w res e w') : CallPost P W0 r s w res e w' := by
  have hE : ∀ {r' s' w'}, Ext r k.inn.st w r' s' w' → Ext r s w r' s' w' := fun E =>
    ⟨E.le, by have := E.next; exact hn ▸ this, E.size, E.os, E.tape, E.output, fun i hi => E.fresh i (by show i < k.inn.next; rw [hn]; exact hi), fun x hx hp => E.frame x hx (hp.less (Lit.sub hs))⟩
  cases res with
  | ret v s' => obtain ⟨r', v', h1, h2, h3, h4⟩ := h; exact ⟨r', v', h1, h2, h3, hE h4⟩
  | raised v s' => obtain ⟨r', v', h1, h2, h3, h4⟩ := h; exact ⟨r', v', h1, h2, h3, hE h4⟩
  | _ => exact h.elim

theorem orcOf_ok {l : List Known} (h : ∀ k ∈ l, KOk P k) : ∀ W0, RcOk P W0 (orcOf l) := by
  intro W0
  induction l with
  | nil => intro f args s res hx; exact absurd hx (by simp [orcOf])
  | cons k l ih =>
    have ih := ih fun k hk => h k (List.mem_cons_of_mem _ hk)
    intro f args s res hx
    have hx : (bif Nat.beq k.inn.next s.next then (bif Nat.beq k.f f && (sameL (sameV 8) args k.args && subOk s k.inn.objs) then some (Res.ret k.v k.out.st) else orcOf l f args s) else orcOf l f args s) = some res := hx
    cases h1 : Nat.beq k.inn.next s.next with
    | false => rw [h1, cond_false] at hx; exact ih f args s res hx
    | true =>
      rw [h1, cond_true] at hx
      cases h2 : Nat.beq k.f f && (sameL (sameV 8) args k.args && subOk s k.inn.objs) with
      | false => rw [h2, cond_false] at hx; exact ih f args s res hx
      | true =>
        rw [h2, cond_true] at hx
        simp only [Option.some.injEq] at hx; subst hx
        simp only [Bool.and_eq_true] at h2
        obtain ⟨h3, h4, h5⟩ := h2
        have h1 := Nat.eq_of_beq_eq_true h1
        have h3 := Nat.eq_of_beq_eq_true h3
        have h4 := sameL_sound (sameV_sound 8) _ _ h4
        subst h3; subst h4
        obtain ⟨a, b⟩ := h k (by simp) W0
        exact ⟨a, fun r w args' hR hL => (b r w args' (hR.lit h1 h5) hL).mono fun e w' he => callPost_in h1 h5 he⟩

theorem piece (hm : P.follows .mixedOrders = true) {l : List Known} (hl : ∀ k ∈ l, KOk P k) {k : Known} (h : pieceOk P l k = true) : KOk P k := by
  intro W0
  unfold pieceOk at h
  rw [trun_eq, frun_old] at h
  generalize hx : run P (orcOf l) 1000000 (.call k.f k.args) k.inn.st = o at h
  unfold endOk at h
  split at h
  · rename_i v s
    simp only [Bool.and_eq_true] at h
    obtain ⟨h1, h2, h3⟩ := h
    have h1 := sameV_sound _ _ _ h1
    have h2 := Nat.eq_of_beq_eq_true h2
    subst h1
    obtain ⟨a, b⟩ := run_sound hm (orcOf_ok hl W0) _ _ _ _ hx
    refine ⟨a, fun r w args' hR hL => (b r w args' hR hL).mono fun e w' he => ?_⟩
    obtain ⟨r', v', g1, g2, g3, g4⟩ := he
    exact ⟨r', v', g1, g2, g3.lit h2.symm h3, g4.le, by have := g4.next; show _ ≤ k.out.next; rw [← h2]; exact this, g4.size, g4.os, g4.tape, g4.output, g4.fresh,
      fun x hx hp => ⟨(g4.frame x hx hp).1, (g4.frame x hx hp).2.less (Lit.sub h3)⟩⟩
  · simp at h

end Go.Ev
namespace Go.Ev
/-! how values and objects are written -/
noncomputable section
def vb (b : Bool) : Value := .bool b
def vi (n : Nat) : Value := .int .i64 (.ofNat n)
def vj (n : Nat) : Value := .int .i64 (.negSucc n)
def vk (k : IntKind) (n : Nat) : Value := .int k (.ofNat n)
def vkj (k : IntKind) (n : Nat) : Value := .int k (.negSucc n)
def vs (l : List Nat) : Value := .string ⟨⟨l.map UInt8.ofNat⟩⟩
def vp (i o : Nat) : Value := .pointer (some ⟨i, o, none⟩)
def vp0 : Value := .pointer none
def vl (i o n c : Nat) : Value := .slice (some ⟨i, o, none⟩) n c
def vl0 (n c : Nat) : Value := .slice none n c
def vm (i : Nat) : Value := .map (some i)
def vm0 : Value := .map none
def vf (f : FuncId) (a b : List Value) : Value := .func (.func f) ⟨a⟩ ⟨b⟩
def vc (t : TypeId) (v : Value) : Value := .iface t v
def va (l : List Value) : Value := .agg ⟨l⟩
def vt (l : List Value) : Value := .tuple ⟨l⟩
def ob (i n es cls cs : Nat) (l : List Value) : Nat × AO := (i, .cells { t := T.leaf.puts 0 l, n := n, es := es, cls := cls, cs := cs, wr := true })
def og (i n : Nat) (l : List Value) : Nat × AO := (i, .cells { t := T.leaf.puts 0 l, n := n, es := 0, cls := 0, cs := 0, wr := false })
def om (i clock : Nat) (l : List MapEntry) : Nat × AO := (i, .map l clock)
def ox (i : Nat) : Nat × AO := (i, .marks)
def oi (i : Nat) (l : List Nat) (pos : Nat) : Nat × AO := (i, .iter ⟨⟨l.map UInt8.ofNat⟩⟩ pos)
end
end Go.Ev
namespace Go.Ev
open Go.RowKit
theorem known_nil {P : Program} : ∀ k ∈ ([] : List Known), KOk P k := fun _ h => by cases h
theorem known_cons {P : Program} {k : Known} {l : List Known} (h : KOk P k) (t : ∀ k ∈ l, KOk P k) : ∀ x ∈ k :: l, KOk P x := fun x hx => by
  rcases List.mem_cons.1 hx with rfl | hx
  · exact h
  · exact t x hx

/-- a closed call that is known, in a world that is known as far as it asks -/
theorem calls_of_known {P : Program} {k : Known} (hk : KOk P k) (hargs : k.args = []) {s : St} {r : Rho} {w : World} (hR : Rel P.globals.size w.heap.size r s w) (hp : ∀ x, Prot r s x)
    (hn : k.inn.next = s.next) (hs : subOk s k.inn.objs = true) {b : Bool} (hv : k.v = .bool b) : Calls P k.f #[] w fun e w' => e = .returned (.bool b) ∧ Below w.heap.size w w' := by
  obtain ⟨_, h⟩ := hk w.heap.size
  have := h r w [] (hR.lit hn hs) (by rw [hargs]; exact .nil)
  refine this.mono fun e w' he => ?_
  have he := callPost_in (s := s) hn hs he
  obtain ⟨r', v', rfl, hv', _, hE⟩ := he
  rw [hv] at hv'
  cases hv'
  exact ⟨rfl, below_of_ext hE hp⟩
end Go.Ev
