/- Operations that read, and those that make. -/
import Derived.Test.YtocplhpfndgagaaGreatDoorEvOps
namespace Go.Ev

variable {P : Program} {G W0 : Nat} {r : Rho} {s : St} {w : World}

/-- what the reading of operands leans on -/
structure Base (P : Program) (W0 : Nat) (r : Rho) (s : St) (w : World) (e : Env) (a : Act) : Prop where
  rel : Rel P.globals.size W0 r s w
  env : EnvR r e a.tmps

theorem Base.ev {e : Env} {a : Act} (b : Base P W0 r s w e a) {x : Operand} {v : Value} (hx : Env.ev P e x = some v) : VR r v (a.eval x) := ev_sound b.rel.glob b.env hx

theorem Base.evs {e : Env} {a : Act} (b : Base P W0 r s w e a) {l : List Operand} {vs : List Value} (hx : Env.evs P e l = some vs) : LR r vs (l.map a.eval) := evs_sound b.rel.glob b.env l vs hx

theorem Base.evOpt {e : Env} {a : Act} (b : Base P W0 r s w e a) {x : Option Operand} {v : Option Value} (hx : Env.evOpt P e x = some v) : OVR r v (x.map a.eval) := by
  cases x with
  | none => simp only [Env.evOpt, Option.some.injEq] at hx; subst hx; exact .none
  | some x =>
    simp only [Env.evOpt] at hx
    cases h : Env.ev P e x with
    | none => rw [h] at hx; simp at hx
    | some v' => rw [h] at hx; simp only [Option.map_some, Option.some.injEq] at hx; subst hx; exact .some (b.ev h)

inductive PR (r : Rho) : List (Nat × Value) → List (Nat × Value) → Prop
  | nil : PR r [] []
  | cons {i : Nat} {v v' : Value} {l l' : List (Nat × Value)} (h : VR r v v') (t : PR r l l') : PR r ((i, v) :: l) ((i, v') :: l')

theorem Base.evParts {e : Env} {a : Act} (b : Base P W0 r s w e a) : ∀ {l : List (Nat × Operand)} {vs : List (Nat × Value)}, Env.evParts P e l = some vs → PR r vs (l.map fun (i, x) => (i, a.eval x)) := by
  intro l
  induction l with
  | nil => intro vs h; simp only [Env.evParts, Option.some.injEq] at h; subst h; exact .nil
  | cons p l ih =>
    obtain ⟨i, x⟩ := p
    intro vs h
    simp only [Env.evParts] at h
    split at h
    · rename_i v hv
      split at h
      · rename_i vs' hvs
        simp only [Option.some.injEq] at h; subst h
        exact .cons (b.ev hv) (ih hvs)
      · simp at h
    · simp at h

theorem sizeOf?_spec {t : TypeId} {n : Nat} (h : sizeOf? P t = some n) : ∃ i, P.info? t = some i ∧ i.size = n := by
  unfold sizeOf? at h
  cases hi : P.info? t with
  | none => rw [hi] at h; simp at h
  | some i => rw [hi] at h; exact ⟨i, rfl, by simpa using h⟩

theorem isAgg_sound {t : TypeId} {b : Bool} (hb : isAgg? P t = some b) (w : World) : (isAgg t).run P w = .ok b w := by
  unfold isAgg? at hb
  unfold isAgg
  split at hb
  · rename_i d hd; simp only [Option.some.injEq] at hb; subst hb; simp [run_under hd]
  · rename_i n el hd; simp only [Option.some.injEq] at hb; subst hb; simp [run_under hd]
  · rename_i d _ _ hd
    simp only [Option.some.injEq] at hb; subst hb
    simp only [Sem.run_bind, run_under hd, Result.andThen_ok]
    cases d <;> simp_all
  · simp at hb

theorem loadVar_sound {t : TypeId} {i j : Nat} {v : Value} (h : Rel G W0 r s w) (hl : s.loadVar P t i j = some v) :
    ∃ l, r i = some l ∧ ∃ v', VR r v v' ∧ ∀ w1 : World, w1.heap = w.heap → (loadVar t ⟨l.blk, j + l.sh, none⟩).run P w1 = .ok v' w1 := by
  unfold St.loadVar at hl
  split at hl
  · rename_i hb
    split at hl
    · rename_i n hn
      obtain ⟨inf, hi, rfl⟩ := sizeOf?_spec hn
      cases hc : s.loadAt i j inf.size with
      | none => rw [hc] at hl; simp at hl
      | some vs =>
        rw [hc] at hl; simp only [Option.map_some, Option.some.injEq] at hl; subst hl
        obtain ⟨l, hr, vs', hv, _, hrun⟩ := h.load (P := P) hc
        refine ⟨l, hr, .agg vs'.toArray, VR.agg_list.2 (by simpa using hv), fun w1 hw1 => ?_⟩
        simp only [Go.loadVar, Sem.run_bind, isAgg_sound hb, Result.andThen_ok, if_true, run_sizeOf' hi, hrun w1 hw1, Sem.run_pure]
    · simp at hl
  · rename_i hb
    split at hl
    · rename_i u hc
      simp only [Option.some.injEq] at hl; subst hl
      obtain ⟨l, hr, vs', hv, hlen, hrun⟩ := h.load (P := P) hc
      cases hv with
      | cons hv ht =>
        cases ht
        rename_i v'
        refine ⟨l, hr, v', hv, fun w1 hw1 => ?_⟩
        have := hrun w1 hw1
        simp only [loadCells, loadCellsFrom, Sem.run_bind, add_off, Nat.add_zero] at this
        simp only [Go.loadVar, Sem.run_bind, isAgg_sound hb, Result.andThen_ok, Bool.false_eq_true, if_false]
        cases hq : (load ⟨l.blk, j + l.sh, none⟩).run P w1 with
        | ok u w2 =>
          rw [hq] at this
          simp at this
          obtain ⟨rfl, rfl⟩ := this
          rfl
        | halt x w2 => rw [hq] at this; simp [Result.andThen] at this
    · simp at hl
  · simp at hl

theorem zero_run {t : TypeId} {z : Value} (h : zero? P t = some z) (w : World) : (zeroValue t).run P w = .ok z w := by
  obtain ⟨i, hi, hz, _⟩ := zero_spec h
  exact run_zero hi hz w

theorem LR.set {l l' : List Value} (h : LR r l l') {v v' : Value} (hv : VR r v v') : ∀ i, LR r (l.set i v) (l'.set i v') := by
  induction h with
  | nil => intro i; simp; exact .nil
  | cons h t ih => intro i; cases i with
    | zero => simp; exact .cons hv t
    | succ i => simp; exact .cons h (ih i)

theorem fill_fold {p p' : List Value} (hp : LR r p p') (off : Nat) : ∀ (j : Nat) (cs cs' : Array Value), LR r cs.toList cs'.toList →
    LR r ((p.zipIdx j).foldl (fun cs (x : Value × Nat) => cs.setIfInBounds (off + x.2) x.1) cs).toList ((p'.zipIdx j).foldl (fun cs (x : Value × Nat) => cs.setIfInBounds (off + x.2) x.1) cs').toList := by
  induction hp with
  | nil => intro j cs cs' h; simpa using h
  | cons h t ih =>
    intro j cs cs' hcs
    simp only [List.zipIdx_cons, List.foldl_cons]
    refine ih (j + 1) _ _ ?_
    simp only [Array.toList_setIfInBounds]
    exact hcs.set h _

theorem fill_sound {place : Nat → Option (Nat × Nat)} {ps ps' : List (Nat × Value)} (hp : PR r ps ps') : ∀ {cs cs' out : Array Value}, LR r cs.toList cs'.toList → Instr.fill place cs ps = some out →
    ∃ out', Instr.fill place cs' ps' = some out' ∧ LR r out.toList out'.toList := by
  induction hp with
  | nil => intro cs cs' out h e; simp only [Instr.fill, Option.some.injEq] at e; subst e; exact ⟨cs', rfl, h⟩
  | cons hv t ih =>
    rename_i i v v' l l'
    intro cs cs' out h e
    simp only [Instr.fill] at e ⊢
    cases hpl : place i with
    | none => rw [hpl] at e; simp at e
    | some q =>
      obtain ⟨off, size⟩ := q
      rw [hpl] at e
      simp only at e ⊢
      have hvc := hv.cells
      have h1 : v'.cells.size = v.cells.size := by have := hvc.length; simpa using this.symm
      have h2 : cs'.size = cs.size := by have := h.length; simpa using this.symm
      rw [h1, h2]
      split at e
      · simp at e
      · rename_i hc
        rw [if_neg hc]
        refine ih ?_ e
        have := fill_fold hvc off 0 cs cs' h
        rw [← Array.foldl_toList, ← Array.foldl_toList]
        simpa using this

theorem mapM_places (fields : Array Field) (places : List (Nat × Nat)) (h : fields.toList.mapM (fun f : Field => (sizeOf? P f.type).map fun n => (f.offset, n)) = some places) (w : World) :
    (fields.mapM (fun f => do pure (f.offset, ← sizeOf f.type)) : Sem (Array (Nat × Nat))).run P w = .ok places.toArray w := by
  rw [Array.mapM_eq_mapM_toList]
  simp only [Sem.run_map]
  have key : ∀ (l : List Field) (ps : List (Nat × Nat)), l.mapM (fun f : Field => (sizeOf? P f.type).map fun n => (f.offset, n)) = some ps →
      (l.mapM (fun f => do pure (f.offset, ← sizeOf f.type)) : Sem (List (Nat × Nat))).run P w = .ok ps w := by
    intro l
    induction l with
    | nil => intro ps h; simp at h; subst h; simp
    | cons f l ih =>
      intro ps h
      simp only [List.mapM_cons] at h ⊢
      cases hs : sizeOf? P f.type with
      | none => rw [hs] at h; simp at h
      | some n =>
        obtain ⟨inf, hi, rfl⟩ := sizeOf?_spec hs
        rw [hs] at h
        simp only [Option.map_some, Option.pure_def, Option.bind_eq_bind, Option.bind_some] at h
        cases hl : l.mapM (fun f : Field => (sizeOf? P f.type).map fun n => (f.offset, n)) with
        | none => rw [hl] at h; simp at h
        | some ps' =>
          rw [hl] at h
          simp only [Option.bind_some, Option.some.injEq] at h
          subst h
          simp only [Sem.run_bind, run_sizeOf' hi, Result.andThen_ok, Sem.run_pure, ih ps' hl]
  rw [key _ _ h]
  rfl

end Go.Ev
namespace Go.Ev

variable {P : Program} {G W0 : Nat} {r : Rho} {s : St} {w : World}

theorem bytesOfCells_spec : ∀ (l : List Value) (bs : List UInt8), bytesOfCells l = some bs → ∀ (_acc : ByteArray), ∃ k : List Int, l = k.map (fun n => Value.int .u8 n) ∧ bs = k.map (fun n => UInt8.ofNat n.toNat) := by
  intro l
  induction l with
  | nil => intro bs h _; simp only [bytesOfCells, Option.some.injEq] at h; subst h; exact ⟨[], rfl, rfl⟩
  | cons v l ih =>
    intro bs h acc
    unfold bytesOfCells at h
    split at h
    · simp_all
    · rename_i b l' e
      simp only [List.cons.injEq] at e
      obtain ⟨rfl, rfl⟩ := e
      cases hb : bytesOfCells l with
      | none => rw [hb] at h; simp at h
      | some bs' =>
        rw [hb] at h
        simp only [Option.map_some, Option.some.injEq] at h
        subst h
        obtain ⟨k, rfl, rfl⟩ := ih _ hb acc
        exact ⟨b :: k, rfl, rfl⟩
    · simp at h

theorem run_bytesLoop (F : Value → ByteArray → Sem (ForInStep ByteArray)) (hF : ∀ n s, F (.int .u8 n) s = pure (.yield (s.push (UInt8.ofNat n.toNat)))) (k : List Int) (w : World) : ∀ (acc : ByteArray),
    (forIn (k.map fun n => Value.int .u8 n) acc F : Sem ByteArray).run P w = .ok ⟨acc.data ++ (k.map fun n => UInt8.ofNat n.toNat).toArray⟩ w := by
  induction k with
  | nil => intro acc; simp
  | cons n k ih =>
    intro acc
    simp only [List.map_cons, List.forIn_cons, Sem.run_bind, Sem.run_pure, Result.andThen_ok, hF]
    rw [ih]
    congr 2
    simp [ByteArray.push]

theorem max2_sound {a b v a' b' : Value} (h : max2? a b = some v) (ha : VR r a a') (hb : VR r b b') : (Builtin.max2 a' b').run P w = .ok v w ∧ VR r v v := by
  unfold max2? at h
  split at h
  · simp only [Option.some.injEq] at h; subst h; cases ha; cases hb; exact ⟨by simp [Builtin.max2], .int _ _⟩
  · simp at h

theorem min2_sound {a b v a' b' : Value} (h : min2? a b = some v) (ha : VR r a a') (hb : VR r b b') : (Builtin.min2 a' b').run P w = .ok v w ∧ VR r v v := by
  unfold min2? at h
  split at h
  · simp only [Option.some.injEq] at h; subst h; cases ha; cases hb; exact ⟨by simp [Builtin.min2], .int _ _⟩
  · simp at h

theorem fold2_sound {f : Value → Value → Option Value} {F : Value → Value → Sem Value} (hf : ∀ a b v a' b', f a b = some v → VR r a a' → VR r b b' → (F a' b').run P w = .ok v w ∧ VR r v v) :
    ∀ (l : List Value) (x x' v : Value) (l' : List Value), fold2 f x l = some v → VR r x x' → LR r l l' → ∃ v', (l'.foldlM F x').run P w = .ok v' w ∧ VR r v v' := by
  intro l
  induction l with
  | nil => intro x x' v l' h hx hl; simp only [fold2, Option.some.injEq] at h; subst h; cases hl; exact ⟨x', by simp, hx⟩
  | cons y l ih =>
    intro x x' v l' h hx hl
    cases hl with
    | cons hy ht =>
      simp only [fold2] at h
      split at h
      · rename_i z hz
        obtain ⟨h1, h2⟩ := hf _ _ _ _ _ hz hx hy
        obtain ⟨v', h3, h4⟩ := ih _ _ _ _ h h2 ht
        exact ⟨v', by simp [List.foldlM_cons, h1, h3], h4⟩
      · simp at h

def FindR (r : Rho) : Option (Nat × Value) → Option (Nat × Value) → Prop
  | none, none => True
  | some (a, v), some (a', v') => a = a' ∧ VR r v v'
  | _, _ => False

theorem ER.find {t : TypeId} {k k' : Value} {es es' : List MapEntry} (he : ER r es es') (hk : VR r k k') : ∀ (i : Nat) (res : Option (Nat × Value)), aFind P t k es i = some res →
    ∃ res', (Instr.findAsking t k' es' i).run P w = .ok res' w ∧ FindR r res res' := by
  induction he with
  | nil => intro i res h; simp only [aFind, Option.some.injEq] at h; subst h; exact ⟨none, by simp [Instr.findAsking], trivial⟩
  | cons h1 h2 h3 _ ih =>
    intro i res h
    simp only [aFind] at h
    split at h
    · rename_i heq
      simp only [Option.some.injEq] at h; subst h
      have := aEq_sound (w := w) _ _ _ _ _ _ _ heq hk h1
      exact ⟨some (i, _), by simp [Instr.findAsking, Op.equal, Op.maxDepth, this], rfl, h2⟩
    · rename_i heq
      have := aEq_sound (w := w) _ _ _ _ _ _ _ heq hk h1
      obtain ⟨res', g1, g2⟩ := ih _ _ h
      exact ⟨res', by simp [Instr.findAsking, Op.equal, Op.maxDepth, this, g1], g2⟩
    · simp at h

theorem aEq_int {t : TypeId} {k k' : IntKind} (hd : P.underlying t = some (.int k')) (d : Nat) (a b : Int) : aEq P (d + 1) t (.int k a) (.int k b) = some (a == b) := by simp [aEq, hd]
theorem aEq_string {t : TypeId} (hd : P.underlying t = some .string) (d : Nat) (a b : ByteArray) : aEq P (d + 1) t (.string a) (.string b) = some (a == b) := by simp [aEq, hd]
theorem aEq_bool {t : TypeId} (hd : P.underlying t = some .bool) (d : Nat) (a b : Bool) : aEq P (d + 1) t (.bool a) (.bool b) = some (a == b) := by simp [aEq, hd]

theorem findNow_asking {t : TypeId} {d : TypeDesc} (hd : P.underlying t = some d) (k : Value) : ∀ (es : List MapEntry) (i : Nat) (q : Option (Nat × Value)), Instr.findNow d k es i = some q → (Instr.findAsking t k es i).run P w = .ok q w := by
  intro es
  induction es with
  | nil => intro i q h; simp only [Instr.findNow, Option.some.injEq] at h; subst h; simp [Instr.findAsking]
  | cons e es ih =>
    intro i q h
    have hs : ∀ b, Instr.sameNow d k e.key = some b → (Op.equal t k e.key).run P w = .ok b w := by
      intro b hb
      generalize e.key = ek at hb ⊢
      unfold Instr.sameNow at hb
      have fin : ∀ x y : Value, (aEq P (9999 + 1) t x y = some b) → (∀ r, VR r x x) → (∀ r, VR r y y) → (Op.equal t x y).run P w = .ok b w := fun x y h1 h2 h3 =>
        aEq_sound (r := fun _ => none) _ _ _ _ _ _ _ h1 (h2 _) (h3 _)
      split at hb
      · split at hb
        · rename_i hkk
          simp only [Option.some.injEq] at hb; subst hb; subst hkk
          exact fin _ _ (aEq_int hd _ _ _) (fun _ => .int _ _) (fun _ => .int _ _)
        · simp at hb
      · simp only [Option.some.injEq] at hb; subst hb; exact fin _ _ (aEq_string hd _ _ _) (fun _ => .string _) (fun _ => .string _)
      · simp only [Option.some.injEq] at hb; subst hb; exact fin _ _ (aEq_bool hd _ _ _) (fun _ => .bool _) (fun _ => .bool _)
      · simp at hb
    simp only [Instr.findNow] at h
    split at h
    · rename_i hb
      simp only [Option.some.injEq] at h; subst h
      simp [Instr.findAsking, hs _ hb]
    · rename_i hb
      simp [Instr.findAsking, hs _ hb, ih _ _ h]
    · simp at h

theorem find_sound {t : TypeId} {k k' : Value} {es es' : List MapEntry} {d : TypeDesc} (hd : P.underlying t = some d) (he : ER r es es') (hk : VR r k k') {res : Option (Nat × Value)} (h : aFind P t k es 0 = some res) :
    ∃ res', (Instr.findKey t k' es').run P w = .ok res' w ∧ FindR r res res' := by
  obtain ⟨res', g1, g2⟩ := he.find (w := w) hk 0 res h
  refine ⟨res', ?_, g2⟩
  simp only [Instr.findKey, Sem.run_bind, run_under hd, Result.andThen_ok]
  split
  · rename_i q hq
    have := findNow_asking (w := w) hd k' es' 0 q hq
    rw [g1] at this
    simp only [Result.ok.injEq, and_true] at this
    rw [this]; rfl
  · exact g1

theorem run_forIn_unit {α : Type} (P : Program) (w : World) (F : α → PUnit → Sem (ForInStep PUnit)) (fs : Array α) (hf : ∀ x, x ∈ fs.toList → (F x PUnit.unit).run P w = .ok (.yield PUnit.unit) w) :
    (forIn fs PUnit.unit F : Sem PUnit).run P w = .ok PUnit.unit w := by
  rw [← Array.forIn_toList]
  generalize fs.toList = l at hf
  induction l with
  | nil => simp
  | cons x l ih =>
    simp only [List.forIn_cons, Sem.run_bind, hf x (by simp), Result.andThen_ok]
    exact ih (fun y hy => hf y (List.mem_cons_of_mem _ hy))

theorem aKey_sound (e : Bool) : ∀ (n : Nat) (t : TypeId) (v v' : Value), aKey P n t v = true → VR r v v' → (Instr.checkKey e n t v').run P w = .ok () w := by
  intro n
  induction n with
  | zero => intro t v v' h; simp [aKey] at h
  | succ n ih =>
    intro t v v' h hv
    unfold aKey at h
    split at h
    · rename_i fields cs hu
      cases hv with
      | agg ha hh =>
        rename_i cs'
        have hl := VR.agg_list.1 (VR.agg ha hh)
        simp only [Instr.checkKey, Sem.run_bind, run_under hu, Result.andThen_ok]
        rw [run_forIn_unit P w _ fields]
        · rfl
        intro f hf
        have := List.all_eq_true.1 h f hf
        simp only [Bool.or_eq_true, decide_eq_true_eq] at this
        by_cases hname : f.name = "_"
        · simp [hname]
        · rcases this with hn | hn
          · exact absurd hn hname
          · split at hn
            · rename_i p hp
              obtain ⟨p', q1, q2⟩ := part_sound hp hl w
              simp [hname, q1, ih _ _ _ hn q2]
            · simp at hn
    · rename_i hu; simp [Instr.checkKey, run_underlying hu]
    · rename_i hu; simp [Instr.checkKey, run_underlying hu]
    · rename_i hu; simp [Instr.checkKey, run_underlying hu]
    · simp at h

theorem listEq_sound {f : Value → Value → Bool} (hf : ∀ a b, f a b = true → a = b) : ∀ (l m : List Value), listEq f l m = true → l = m
  | [], [], _ => rfl
  | a :: l, b :: m, h => by
    simp only [listEq, Bool.and_eq_true] at h
    rw [hf a b h.1, listEq_sound hf l m h.2]
  | [], _ :: _, h => by simp [listEq] at h
  | _ :: _, [], h => by simp [listEq] at h

theorem bytes_eq {a b : ByteArray} (h : (a.data.toList == b.data.toList) = true) : a = b := by
  have : a.data.toList = b.data.toList := by simpa using h
  have h2 : a.data = b.data := Array.ext' this
  cases a; cases b; simp_all

theorem valEq_sound : ∀ (n : Nat) (a b : Value), valEq n a b = true → a = b := by
  intro n
  induction n with
  | zero =>
    intro a b h
    unfold valEq at h
    split at h <;> first
      | (simp at h; simp [h]; done)
      | (rw [bytes_eq h]; done)
      | (simp only [Bool.and_eq_true, Nat.beq_eq] at h; simp_all; done)
      | rfl
      | (simp at h; done)
      | (exfalso; omega)
  | succ n ih =>
    intro a b h
    unfold valEq at h
    split at h <;> first
      | (simp at h; simp [h]; done)
      | (rw [bytes_eq h]; done)
      | (simp only [Bool.and_eq_true, Nat.beq_eq] at h; simp_all; done)
      | rfl
      | skip
    · rename_i m t v u w' e
      obtain rfl : n = m := by omega
      simp only [Bool.and_eq_true, Nat.beq_eq] at h
      rw [h.1, ih _ _ h.2]
    · rename_i m a b e
      obtain rfl : n = m := by omega
      rw [Array.ext' (listEq_sound ih _ _ h)]
    · rename_i m a b e
      obtain rfl : n = m := by omega
      rw [Array.ext' (listEq_sound ih _ _ h)]
    · rename_i m f a c g b d e
      obtain rfl : n = m := by omega
      simp only [Bool.and_eq_true, Nat.beq_eq] at h
      rw [h.1.1, Array.ext' (listEq_sound ih _ _ h.1.2), Array.ext' (listEq_sound ih _ _ h.2)]
    · exact absurd h (by simp)

end Go.Ev
namespace Go.Ev

variable {P : Program} {G W0 : Nat} {r : Rho} {s : St} {w : World}

/-- the operation gives a value and turns nothing -/
def Gives (P : Program) (r : Rho) (o : Oper) (a : Act) (w : World) (v : Value) : Prop := ∃ v', (execOp a.eval o).run P w = .ok (.value v') w ∧ VR r v v'

theorem Gives.of {o : Oper} {a : Act} {v v' : Value} {x : Sem Value} (he : execOp a.eval o = (do pure (.value (← x)))) (hx : x.run P w = .ok v' w) (hv : VR r v v') : Gives P r o a w v :=
  ⟨v', by rw [he]; simp [hx], hv⟩

theorem fieldPlace_run {f : Field} {i : TypeInfo} (hi : P.info? f.type = some i) (hs : i.size ≠ 0) (a : Addr) : (fieldPlace a f).run P w = .ok (a.add f.offset) w := by
  simp [fieldPlace, run_sizeOf' hi, hs]

theorem read_sound {o : Oper} {e : Env} {a : Act} {v : Value} (b : Base P W0 r s w e a) (h : aRead P o e s = some v) : Gives P r o a w v := by
  unfold aRead at h
  split at h
  · rename_i x ho; exact ⟨a.eval x, by simp [execOp, ho], b.ev h⟩
  · rename_i x ho; exact ⟨a.eval x, by simp [execOp, ho], b.ev h⟩
  · -- pick
    rename_i c x y ho
    split at h
    · rename_i hc
      have hc := b.ev hc
      generalize hcc : a.eval c = cc at hc
      cases hc
      exact ⟨a.eval x, by simp [execOp, ho, hcc, asBool], b.ev h⟩
    · rename_i hc
      have hc := b.ev hc
      generalize hcc : a.eval c = cc at hc
      cases hc
      exact ⟨a.eval y, by simp [execOp, ho, hcc, asBool], b.ev h⟩
    · simp at h
  · -- nilCheck
    rename_i x ho
    split at h
    · rename_i ad hx
      simp only [Option.some.injEq] at h; subst h
      have hx := b.ev hx
      refine ⟨a.eval x, ?_, hx⟩
      generalize hxx : a.eval x = xx at hx
      cases hx with
      | ptr _ => simp [execOp, ho, hxx]
    · rename_i t u hx
      simp only [Option.some.injEq] at h; subst h
      have hx := b.ev hx
      refine ⟨a.eval x, ?_, hx⟩
      generalize hxx : a.eval x = xx at hx
      cases hx with
      | iface _ _ => simp [execOp, ho, hxx]
    · rename_i f p q hx
      simp only [Option.some.injEq] at h; subst h
      have hx := b.ev hx
      refine ⟨a.eval x, ?_, hx⟩
      generalize hxx : a.eval x = xx at hx
      cases hx with
      | func _ _ _ _ => simp [execOp, ho, hxx]
    · simp at h
  · -- binOp
    rename_i op t x y yt ho
    split at h
    · rename_i p q hp hq
      obtain ⟨h1, h2⟩ := aBin_sound (w := w) h (b.ev hp) (b.ev hq)
      exact Gives.of (by simp [execOp, ho]) h1 (h2 r)
    · simp at h
  · -- unOp
    rename_i op t x ho
    split at h
    · rename_i k n hx
      have hx := b.ev hx
      simp only [Option.some.injEq] at h; subst h
      generalize hxx : a.eval x = xx at hx
      cases hx
      exact ⟨_, by simp [execOp, ho, hxx, Op.unary, Op.intArith], .int _ _⟩
    · rename_i k hx
      have hx := b.ev hx
      simp only [Option.some.injEq] at h; subst h
      generalize hxx : a.eval x = xx at hx
      cases hx
      exact ⟨_, by simp [execOp, ho, hxx, Op.unary], .bool _⟩
    · simp at h
  · -- convert
    rename_i src dst x ho
    split at h
    · rename_i k k' k2 n h1 h2 hx
      have hx := b.ev hx
      simp only [Option.some.injEq] at h; subst h
      generalize hxx : a.eval x = xx at hx
      cases hx
      exact ⟨_, by simp [execOp, ho, hxx, convert, run_underlying h1, run_underlying h2, Conv.intToInt], .int _ _⟩
    · rename_i bs h1 h2 hx
      have hx := b.ev hx
      simp only [Option.some.injEq] at h; subst h
      generalize hxx : a.eval x = xx at hx
      cases hx
      exact ⟨_, by simp [execOp, ho, hxx, convert, run_underlying h1, run_underlying h2], .string _⟩
    · rename_i el xv h1 h2 hx
      have hx := b.ev hx
      split at h
      · rename_i n c hel _
        simp only [Option.some.injEq] at h; subst h
        generalize hxx : a.eval x = xx at hx
        cases hx
        exact ⟨_, by simp [execOp, ho, hxx, convert, run_underlying h1, run_underlying h2, run_underlying hel, Conv.bytesToString], .string _⟩
      · rename_i i j n c hel _
        split at h
        · rename_i l hl
          cases hbs : bytesOfCells l with
          | none => rw [hbs] at h; simp at h
          | some bs =>
            rw [hbs] at h; simp only [Option.map_some, Option.some.injEq] at h; subst h
            obtain ⟨k, rfl, rfl⟩ := bytesOfCells_spec l bs hbs .empty
            obtain ⟨lc, hr, vs', hv, hlen, hrun⟩ := b.rel.load (P := P) hl
            have hvs : vs' = k.map (fun n => Value.int .u8 n) := by
              clear hrun hlen hl hbs
              induction k generalizing vs' with
              | nil => cases hv; rfl
              | cons n k ih => cases hv with | cons h1 h2 => cases h1; simp; exact ih _ h2
            generalize hxx : a.eval x = xx at hx
            have conc : ∀ ad m c', xx = .slice (some ad) m c' → (loadCells ad m).run P w = .ok vs'.toArray w → (execOp a.eval o).run P w = .ok (.value (.string ⟨(k.map fun n => UInt8.ofNat n.toNat).toArray⟩)) w := by
              intro ad m c' e hld
              subst e
              simp only [execOp, ho, hxx, convert, Sem.run_bind, run_under h1, run_under h2, run_under hel, Result.andThen_ok, Conv.bytesToString, hld]
              rw [hvs]
              rw [← Array.forIn_toList]
              simp only
              rw [run_bytesLoop _ (fun _ _ => rfl) k w .empty]
              simp
            cases hx with
            | slice hr2 _ =>
              rw [hr] at hr2; simp only [Option.some.injEq] at hr2; subst hr2
              exact ⟨_, conc _ _ _ rfl (hrun w rfl), .string _⟩
            | @slice0 _ _ _ xa _ =>
              have : vs' = [] := List.eq_nil_of_length_eq_zero hlen
              exact ⟨_, conc xa 0 0 rfl (by rw [this]; simp [loadCells, loadCellsFrom]), .string _⟩
        · simp at h
      · simp at h
    · simp at h
  · -- makeInterface
    rename_i t x ho
    split at h
    · simp at h
    · rename_i d hne hd
      cases hx : Env.ev P e x with
      | none => rw [hx] at h; simp at h
      | some xv =>
        rw [hx] at h; simp only [Option.map_some, Option.some.injEq] at h; subst h
        refine ⟨.iface t (a.eval x), ?_, .iface t (b.ev hx)⟩
        cases d <;> first | (exact absurd rfl (hne _)) | simp [execOp, ho, Instr.makeInterface, run_underlying hd]
    · simp at h
  · -- makeFunc
    rename_i f first captured ho
    split at h
    · rename_i p q hp hq
      simp only [Option.some.injEq] at h; subst h
      refine ⟨.func (.func f) (first.map a.eval) (captured.map a.eval), by simp [execOp, ho, Instr.makeFunc], VR.func_list ?_ ?_⟩
      · simpa using b.evs hp
      · simpa using b.evs hq
    · simp at h
  · -- slice
    rename_i t x lo hi mx ho
    split at h
    · rename_i xv lov hiv mxv h1 h2 h3 h4
      obtain ⟨v', g1, g2⟩ := aSlice_sound (w := w) h (b.ev h1) (b.evOpt h2) (b.evOpt h3) (b.evOpt h4)
      exact Gives.of (by simp [execOp, ho]) g1 g2
    · simp at h
  · -- fieldAddr
    rename_i t x f ho
    split at h
    · rename_i fs i j hu hx
      have hx := b.ev hx
      split at h
      · rename_i fld hf
        split at h
        · rename_i n hsz
          obtain ⟨inf, hi, hn⟩ := sizeOf?_spec hsz
          simp only [Option.some.injEq] at h; subst h
          generalize hxx : a.eval x = xx at hx
          cases hx with
          | ptr hr =>
            rename_i lc
            refine ⟨.pointer (some ⟨lc.blk, j + fld.offset + lc.sh, none⟩), ?_, .ptr hr⟩
            have := fieldPlace_run (w := w) hi (by omega) ⟨lc.blk, j + lc.sh, none⟩
            rw [add_off] at this
            simp [execOp, ho, hxx, Instr.fieldAt, run_underlying hu, hf, sureAddr_run, this]
            omega
        · simp at h
      · simp at h
    · simp at h
  · -- field
    rename_i t x f ho
    split at h
    · rename_i fs cs hu hx
      have hx := b.ev hx
      split at h
      · rename_i fld hf
        generalize hxx : a.eval x = xx at hx
        cases hx with
        | agg hh1 hh2 =>
          obtain ⟨v', g1, g2⟩ := part_sound h (VR.agg_list.1 (VR.agg hh1 hh2)) w
          exact Gives.of (x := Instr.field t (a.eval x) f) (by simp [execOp, ho]) (by simp [Instr.field, hxx, run_underlying hu, hf, asAgg, g1]) g2
      · simp at h
    · simp at h
  · -- indexAddr
    rename_i t x ix ho
    split at h
    · rename_i len el i j k n hu hx hix
      have hx := b.ev hx
      have hix := b.ev hix
      split at h
      · rename_i hc
        cases hsz : sizeOf? P el with
        | none => rw [hsz] at h; simp at h
        | some sz =>
          obtain ⟨inf, hi, rfl⟩ := sizeOf?_spec hsz
          rw [hsz] at h; simp only [Option.map_some, Option.some.injEq] at h; subst h
          generalize hxx : a.eval x = xx at hx
          generalize hii : a.eval ix = ii at hix
          cases hix
          cases hx with
          | ptr hr =>
            rename_i lc
            refine ⟨.pointer (some ⟨lc.blk, j + n.toNat * inf.size + lc.sh, none⟩), ?_, .ptr hr⟩
            simp [execOp, ho, hxx, hii, Instr.indexAt, asIntOf, run_underlying hu, sureAddr_run, hc, run_sizeOf' hi, add_off]
            omega
      · simp at h
    · rename_i el i j len cap k n hu hx hix
      have hx := b.ev hx
      have hix := b.ev hix
      split at h
      · rename_i hc
        cases hsz : sizeOf? P el with
        | none => rw [hsz] at h; simp at h
        | some sz =>
          obtain ⟨inf, hi, rfl⟩ := sizeOf?_spec hsz
          rw [hsz] at h; simp only [Option.map_some, Option.some.injEq] at h; subst h
          generalize hxx : a.eval x = xx at hx
          generalize hii : a.eval ix = ii at hix
          cases hix
          cases hx with
          | @slice _ _ _ _ lc hr _ =>
            refine ⟨.pointer (some ⟨lc.blk, j + n.toNat * inf.size + lc.sh, none⟩), ?_, .ptr hr⟩
            simp [execOp, ho, hxx, hii, Instr.indexAt, asIntOf, run_underlying hu, hc, run_sizeOf' hi, add_off]
            omega
          | slice0 _ => omega
      · simp at h
    · simp at h
  · -- index
    rename_i t x ix ho
    split at h
    · rename_i len el cs k n hu hx hix
      have hx := b.ev hx
      have hix := b.ev hix
      split at h
      · rename_i hc
        split at h
        · rename_i sz hsz
          obtain ⟨inf, hi, rfl⟩ := sizeOf?_spec hsz
          generalize hxx : a.eval x = xx at hx
          generalize hii : a.eval ix = ii at hix
          cases hix
          cases hx with
          | agg hh1 hh2 =>
            obtain ⟨v', g1, g2⟩ := part_sound h (VR.agg_list.1 (VR.agg hh1 hh2)) w
            exact Gives.of (x := Instr.index t (a.eval x) (a.eval ix)) (by simp [execOp, ho]) (by simp [Instr.index, hxx, hii, asIntOf, run_underlying hu, hc, run_sizeOf' hi, g1]) g2
        · simp at h
      · simp at h
    · rename_i bs k n hu hx hix
      have hx := b.ev hx
      have hix := b.ev hix
      split at h
      · rename_i c hc
        simp only [Option.some.injEq] at h; subst h
        generalize hxx : a.eval x = xx at hx
        generalize hii : a.eval ix = ii at hix
        cases hix
        cases hx
        exact Gives.of (x := Instr.index t (a.eval x) (a.eval ix)) (v' := .int .u8 c.toNat) (by simp [execOp, ho]) (by
          simp only [Instr.index, hxx, hii, asIntOf, Sem.run_bind, Sem.run_pure, Result.andThen_ok, run_under hu, hc]) (.int _ _)
      · simp at h
    · simp at h
  · -- extract
    rename_i t ix ho
    split at h
    · rename_i vs hx
      have hx := b.ev hx
      generalize hxx : a.eval t = xx at hx
      cases hx with
      | tuple hh1 hh2 =>
        obtain ⟨v', g1, g2⟩ := (VR.tuple_list.1 (VR.tuple hh1 hh2)).get' (i := ix) (v := v) (by simpa using h)
        exact Gives.of (x := Instr.extract (a.eval t) ix) (v' := v') (by simp [execOp, ho]) (by
          simp only [Instr.extract, hxx]
          rw [show ∀ (q : Array Value), q[ix]? = q.toList[ix]? from fun q => by simp, g1]; rfl) g2
    · simp at h
  · -- build
    rename_i t parts ho
    split at h
    · rename_i fields z ps hu hz hp
      have hz' := zero_spec hz
      obtain ⟨_, _, _, hzf⟩ := hz'
      split at h
      · rename_i places hpl
        cases hfill : Instr.fill (fun i => places[i]?) z.cells ps with
        | none => rw [hfill] at h; simp at h
        | some out =>
          rw [hfill] at h; simp only [Option.map_some, Option.some.injEq] at h; subst h
          obtain ⟨out', g1, g2⟩ := fill_sound (b.evParts hp) (hzf r).cells hfill
          refine Gives.of (x := Instr.build t (parts.map fun (i, x) => (i, a.eval x))) (v' := .agg out') (by simp [execOp, ho]) ?_ (VR.agg_list.2 g2)
          simp only [Instr.build, Sem.run_bind, zero_run hz, Result.andThen_ok, run_under hu, mapM_places fields places hpl w]
          simp only [Array.toList_map] at g1 ⊢
          have : (fun i : Nat => places.toArray[i]?) = fun i : Nat => places[i]? := by funext i; simp
          rw [this]
          rw [g1]; rfl
      · simp at h
    · rename_i n el z ps hu hz hp
      obtain ⟨_, _, _, hzf⟩ := zero_spec hz
      split at h
      · rename_i sz hsz
        obtain ⟨inf, hi, rfl⟩ := sizeOf?_spec hsz
        cases hfill : Instr.fill (fun i => some (i * inf.size, inf.size)) z.cells ps with
        | none => rw [hfill] at h; simp at h
        | some out =>
          rw [hfill] at h; simp only [Option.map_some, Option.some.injEq] at h; subst h
          obtain ⟨out', g1, g2⟩ := fill_sound (b.evParts hp) (hzf r).cells hfill
          refine Gives.of (x := Instr.build t (parts.map fun (i, x) => (i, a.eval x))) (v' := .agg out') (by simp [execOp, ho]) ?_ (VR.agg_list.2 g2)
          simp only [Instr.build, Sem.run_bind, zero_run hz, Result.andThen_ok, run_under hu, run_sizeOf' hi]
          simp only [Array.toList_map] at g1 ⊢
          rw [g1]; rfl
      · simp at h
    · simp at h
  · -- typeAssert
    rename_i x xt asserted ok ho
    split at h
    · simp at h
    · rename_i d t u hne hd hx
      have hx := b.ev hx
      generalize hxx : a.eval x = xx at hx
      cases hx with
      | iface _ hu =>
        rename_i u'
        split at h
        · rename_i heq
          simp only [Option.some.injEq] at h; subst h
          have hrun : (Instr.typeAssert (.iface t u') xt asserted ok).run P w = .ok (if ok then .tuple #[u', .bool true] else u') w := by
            simp only [Instr.typeAssert, Sem.run_bind, run_under hd, Result.andThen_ok]
            cases d <;> first | (exact absurd rfl (hne _)) | (simp [heq]; done)
          refine Gives.of (x := Instr.typeAssert (a.eval x) xt asserted ok) (by simp [execOp, ho]) (by rw [hxx]; exact hrun) ?_
          cases ok with
          | true => simp only [cond_true, if_true]; exact VR.tuple_list.2 (.cons hu (.cons (.bool _) .nil))
          | false => simp only [cond_false, Bool.false_eq_true, if_false]; exact hu
        · rename_i heq
          cases ok with
          | false => simp at h
          | true =>
            simp only [cond_true] at h
            cases hz : zero? P asserted with
            | none => rw [hz] at h; simp at h
            | some z =>
              rw [hz] at h; simp only [Option.map_some, Option.some.injEq] at h; subst h
              obtain ⟨_, _, _, hzf⟩ := zero_spec hz
              have hrun : (Instr.typeAssert (.iface t u') xt asserted true).run P w = .ok (.tuple #[z, .bool false]) w := by
                simp only [Instr.typeAssert, Sem.run_bind, run_under hd, Result.andThen_ok]
                cases d <;> first | (exact absurd rfl (hne _)) | (simp [heq, zero_run hz]; done)
              exact Gives.of (x := Instr.typeAssert (a.eval x) xt asserted true) (by simp [execOp, ho]) (by rw [hxx]; exact hrun) (VR.tuple_list.2 (.cons (hzf r) (.cons (.bool _) .nil)))
    · rename_i d hne hd hx
      have hx := b.ev hx
      generalize hxx : a.eval x = xx at hx
      cases hx
      cases ok with
      | false => simp at h
      | true =>
        simp only [cond_true] at h
        cases hz : zero? P asserted with
        | none => rw [hz] at h; simp at h
        | some z =>
          rw [hz] at h; simp only [Option.map_some, Option.some.injEq] at h; subst h
          obtain ⟨_, _, _, hzf⟩ := zero_spec hz
          have hrun : (Instr.typeAssert .nilIface xt asserted true).run P w = .ok (.tuple #[z, .bool false]) w := by
            simp only [Instr.typeAssert, Sem.run_bind, run_under hd, Result.andThen_ok]
            cases d <;> first | (exact absurd rfl (hne _)) | (simp [zero_run hz]; done)
          exact Gives.of (x := Instr.typeAssert (a.eval x) xt asserted true) (by simp [execOp, ho]) (by rw [hxx]; exact hrun) (VR.tuple_list.2 (.cons (hzf r) (.cons (.bool _) .nil)))
    · simp at h
  · -- load
    rename_i t ad ho
    split at h
    · rename_i i j hx
      have hx := b.ev hx
      obtain ⟨lc, hr, v', hv, hrun⟩ := loadVar_sound b.rel h
      generalize hxx : a.eval ad = xx at hx
      cases hx with
      | ptr hr2 =>
        rw [hr] at hr2; simp only [Option.some.injEq] at hr2; subst hr2
        exact Gives.of (x := Instr.loadAt t (a.eval ad)) (v' := v') (by simp [execOp, ho]) (by simp [hxx, Instr.loadAt, sureAddr_run, hrun w rfl]) hv
    · simp at h
  · -- lookup
    rename_i t x ix ok ho
    split at h
    · rename_i key el rr k hu hx hk
      have hx := b.ev hx
      have hk := b.ev hk
      split at h
      · rename_i es hes
        cases hkey : aKey P 10000 key k with
        | false => rw [hkey, cond_false] at h; simp at h
        | true =>
          rw [hkey, cond_true] at h
          -- the entries
          have hent : ∃ es' : List MapEntry, ER r es es' ∧ ∀ res kv, (Instr.checkKey es'.isEmpty 10000 key kv).run P w = .ok () w → (Instr.findKey key kv es').run P w = .ok res w →
              (∀ n v0, res = some (n, v0) → (Instr.lookup t (a.eval x) kv ok).run P w = .ok (if ok then .tuple #[v0, .bool true] else v0) w) ∧
              (∀ z, res = none → (zeroValue el).run P w = .ok z w → (Instr.lookup t (a.eval x) kv ok).run P w = .ok (if ok then .tuple #[z, .bool false] else z) w) := by
            generalize a.eval x = xx at hx
            cases hx with
            | nilMap =>
              simp only [Option.some.injEq] at hes; subst hes
              refine ⟨[], .nil, fun res kv hck hf => ⟨fun n v0 e => ?_, fun z e hz => ?_⟩⟩
              · subst e; simp [Instr.lookup, run_underlying hu] at hck hf ⊢; simp [hck, hf]
              · subst e; simp [Instr.lookup, run_underlying hu] at hck hf ⊢; simp [hck, hf, hz]
            | map hr =>
              rename_i i lc
              simp only at hes
              split at hes
              · rename_i es0 ck hg
                simp only [Option.some.injEq] at hes; subst hes
                obtain ⟨l2, hr2, _, es', hh, her⟩ := b.rel.obj _ _ hg
                rw [hr] at hr2; simp only [Option.some.injEq] at hr2; subst hr2
                have hgo : (getObj lc.blk).run P w = .ok (.map es' ck) w := by simp [getObj, Sem.run, hh]
                have hemp : es'.isEmpty = es'.toList.isEmpty := by cases es'; simp
                refine ⟨es'.toList, her, fun res kv hck hf => ⟨fun n v0 e => ?_, fun z e hz => ?_⟩⟩
                · subst e; rw [← hemp] at hck; simp only [Instr.lookup, Sem.run_bind, run_under hu, hgo, Result.andThen_ok, Sem.run_pure, hck, hf]
                · subst e; rw [← hemp] at hck; simp only [Instr.lookup, Sem.run_bind, run_under hu, hgo, Result.andThen_ok, Sem.run_pure, hck, hf, hz]
              · simp at hes
          obtain ⟨es', her, hrun⟩ := hent
          have hd : ∃ d, P.underlying key = some d := by
            cases hq : P.underlying key with
            | some d => exact ⟨d, rfl⟩
            | none => unfold aKey at hkey; rw [hq] at hkey; simp at hkey
          obtain ⟨d, hd⟩ := hd
          have hck := fun q => aKey_sound (w := w) q 10000 key k _ hkey hk
          have body : ∀ (res : Option (Nat × Value)), aFind P key k es 0 = some res → ∃ res', (Instr.findKey key (a.eval ix) es').run P w = .ok res' w ∧ FindR r res res' := fun res hr => find_sound hd her hk hr
          split at h
          · rename_i q n v0 hf
            simp only [Option.some.injEq] at h; subst h
            obtain ⟨res', g1, g2⟩ := body _ hf
            cases res' with
            | none => exact g2.elim
            | some p =>
              obtain ⟨n', v'⟩ := p
              refine Gives.of (x := Instr.lookup t (a.eval x) (a.eval ix) ok) (v' := if ok then .tuple #[v', .bool true] else v') (by simp [execOp, ho]) ?_ ?_
              · exact (hrun _ _ (hck _) g1).1 _ _ rfl
              · cases ok with
                | true => simp only [cond_true, if_true]; exact VR.tuple_list.2 (.cons g2.2 (.cons (.bool _) .nil))
                | false => simp only [cond_false, Bool.false_eq_true, if_false]; exact g2.2
          · rename_i q z hf hz
            simp only [Option.some.injEq] at h; subst h
            obtain ⟨_, _, _, hzf⟩ := zero_spec hz
            obtain ⟨res', g1, g2⟩ := body _ hf
            cases res' with
            | some p => obtain ⟨_, _⟩ := p; exact g2.elim
            | none =>
              refine Gives.of (x := Instr.lookup t (a.eval x) (a.eval ix) ok) (v' := if ok then .tuple #[z, .bool false] else z) (by simp [execOp, ho]) ?_ ?_
              · exact (hrun _ _ (hck _) g1).2 _ rfl (zero_run hz w)
              · cases ok with
                | true => simp only [cond_true, if_true]; exact VR.tuple_list.2 (.cons (hzf r) (.cons (.bool _) .nil))
                | false => simp only [cond_false, Bool.false_eq_true, if_false]; exact hzf r
          · simp at h
      · simp at h
    · simp at h
  · -- len
    rename_i args argTypes ho
    split at h
    · rename_i x t h1 h2
      have h1 : args = #[x] := Array.ext' (by simpa using h1)
      have h2 : argTypes = #[t] := Array.ext' (by simpa using h2)
      subst h1; subst h2
      have fin : ∀ u, (Builtin.len_ #[t] o.type #[a.eval x]).run P w = .ok u w → (execOp a.eval o).run P w = .ok (.value u) w := by
        intro u hu
        simp [execOp, ho, resolve, invoke, builtin, hu]
      split at h
      · rename_i bs hu hx
        have hx := b.ev hx
        simp only [Option.some.injEq] at h; subst h
        generalize a.eval x = xx at hx fin
        cases hx
        exact ⟨_, fin _ (by simp [Builtin.len_, run_underlying hu, goInt]), .int _ _⟩
      · rename_i n c hu hx
        have hx := b.ev hx
        simp only [Option.some.injEq] at h; subst h
        generalize a.eval x = xx at hx fin
        cases hx <;> exact ⟨_, fin _ (by simp [Builtin.len_, run_underlying hu, goInt]), .int _ _⟩
      · rename_i n el xv hu hx
        simp only [Option.some.injEq] at h; subst h
        exact ⟨_, fin _ (by simp [Builtin.len_, run_underlying hu, goInt]), .int _ _⟩
      · rename_i hu hx
        have hx := b.ev hx
        simp only [Option.some.injEq] at h; subst h
        generalize a.eval x = xx at hx fin
        cases hx
        exact ⟨_, fin _ (by simp [Builtin.len_, run_underlying hu, goInt]), .int _ _⟩
      · rename_i rr hu hx
        have hx := b.ev hx
        split at h
        · rename_i es ck hg
          simp only [Option.some.injEq] at h; subst h
          generalize a.eval x = xx at hx fin
          cases hx with
          | map hr =>
            obtain ⟨l2, hr2, _, es', hh, her⟩ := b.rel.obj _ _ hg
            rw [hr] at hr2; simp only [Option.some.injEq] at hr2; subst hr2
            have hlen := her.length
            refine ⟨_, fin (.int .i64 es.length) (by simp [Builtin.len_, run_underlying hu, goInt, getObj, Sem.run, hh, hlen]), .int _ _⟩
        · simp at h
      · simp at h
    · simp at h
  · -- cap
    rename_i args argTypes ho
    split at h
    · rename_i x t h1 h2
      have h1 : args = #[x] := Array.ext' (by simpa using h1)
      have h2 : argTypes = #[t] := Array.ext' (by simpa using h2)
      subst h1; subst h2
      have fin : ∀ u, (Builtin.cap_ #[t] o.type #[a.eval x]).run P w = .ok u w → (execOp a.eval o).run P w = .ok (.value u) w := by
        intro u hu
        simp [execOp, ho, resolve, invoke, builtin, hu]
      split at h
      · rename_i el n c hu hx
        have hx := b.ev hx
        cases hcb : Nat.ble CB c with
        | true => rw [hcb, cond_true] at h; simp at h
        | false =>
          rw [hcb, cond_false] at h
          have hcb : c < CB := by
            by_cases e : CB ≤ c
            · rw [bleT e] at hcb; simp at hcb
            · omega
          simp only [Option.some.injEq] at h; subst h
          generalize a.eval x = xx at hx fin
          cases hx with
          | nilSlice _ _ _ => exact ⟨_, fin _ (by simp [Builtin.cap_, run_underlying hu, goInt]), .int _ _⟩
          | slice hr hn =>
            have hcapOf : ∀ l : Loc, l.capOf c = c := fun l => by unfold Loc.capOf; rw [if_pos hcb]
            rw [hcapOf] at fin
            exact ⟨_, fin _ (by simp [Builtin.cap_, run_underlying hu, goInt]), .int _ _⟩
          | slice0 hc0 =>
            have : c = 0 := by rcases hc0 with e | e <;> omega
            subst this
            exact ⟨_, fin _ (by simp [Builtin.cap_, run_underlying hu, goInt]), .int _ _⟩
      · simp at h
    · simp at h
  · -- max
    rename_i args _ ho
    split at h
    · rename_i x l hx
      have hx := b.evs hx
      cases hm : args.toList.map a.eval with
      | nil => rw [hm] at hx; cases hx
      | cons y l' =>
        rw [hm] at hx
        cases hx with
        | cons h1 h2 =>
          obtain ⟨v', g1, g2⟩ := fold2_sound (P := P) (w := w) (F := Builtin.max2) (fun _ _ _ _ _ => max2_sound) _ _ _ _ _ h h1 h2
          refine ⟨v', ?_, g2⟩
          have : (args.map a.eval).toList = y :: l' := by simpa using hm
          simp [execOp, ho, resolve, invoke, builtin, Builtin.max_, hm, g1]
    · simp at h
  · -- min
    rename_i args _ ho
    split at h
    · rename_i x l hx
      have hx := b.evs hx
      cases hm : args.toList.map a.eval with
      | nil => rw [hm] at hx; cases hx
      | cons y l' =>
        rw [hm] at hx
        cases hx with
        | cons h1 h2 =>
          obtain ⟨v', g1, g2⟩ := fold2_sound (P := P) (w := w) (F := Builtin.min2) (fun _ _ _ _ _ => min2_sound) _ _ _ _ _ h h1 h2
          refine ⟨v', ?_, g2⟩
          simp [execOp, ho, resolve, invoke, builtin, Builtin.min_, hm, g1]
    · simp at h
  · simp at h

end Go.Ev
namespace Go.Ev

variable {P : Program} {G W0 : Nat} {r : Rho} {s : St} {w : World}

theorem newObj_run' (o : Obj) : (newObj o).run P w = .ok w.heap.size (w.alloc o) := rfl
theorem newRow_run' (el : TypeId) (c : Array Value) : (newRow el c).run P w = .ok ⟨w.heap.size, 0, none⟩ (w.alloc (.cells c el)) := rfl
theorem newVar_run' (el : TypeId) (v : Value) : (newVar el v).run P w = .ok ⟨w.heap.size, 0, none⟩ (w.alloc (.cells v.cells el)) := rfl

noncomputable def Alc.obj (c : Alc) (i : Nat) : AO :=
  match c.cells with
  | none => .map [] 0
  | some l => .cells { t := T.leaf.puts 0 l, n := l.length, es := 0, cls := i, cs := 0, wr := true }

theorem zeroRow_eq (z : Array Value) (n : Nat) : ((Array.range (n * z.size)).map (fun i => z[i % z.size]!)).toList = zerosOf z.toList n := zeroCells_eq z n

theorem row_ok {r' : Rho} {l l' : List Value} {el : TypeId} (hl : LR r' l l') (hb : W0 ≤ w.heap.size) (i : Nat) :
    AOk r' W0 (.cells { t := T.leaf.puts 0 l, n := l.length, es := 0, cls := i, cs := 0, wr := true }) ⟨w.heap.size, 0, 0⟩ (w.alloc (.cells l'.toArray el)) := by
  refine ⟨l'.toArray, el, (0, 0), (alloc_get w _ _).trans (if_pos rfl), fun j v hj => ?_, fun _ => ⟨hb, fun j _ hh => by simp at hh, ?_, fun q => absurd rfl q⟩, fun q => by simp at q⟩
  · rcases T.get_puts _ _ _ _ _ hj with ⟨_, a⟩ | ⟨_, a⟩
    · obtain ⟨v', b1, b2⟩ := hl.get' a
      have := (List.getElem?_eq_some_iff.1 a).1
      exact ⟨by simpa using this, v', by simpa using b1, b2⟩
    · simp [T.get_leaf] at a
  · have := hl.length; simp; omega

theorem alloc_sound {o : Oper} {e : Env} {a : Act} {c : Alc} (b : Base P W0 r s w e a) (h : aAlloc P o e = some c) :
    ∃ obj, (execOp a.eval o).run P w = .ok (.value (c.val w.heap.size)) (w.alloc obj) ∧
      (∀ r' i, r.le r' → AOk r' W0 (c.obj i) ⟨w.heap.size, 0, 0⟩ (w.alloc obj)) ∧
      (∀ r' i, r' i = some ⟨w.heap.size, 0, 0⟩ → VR r' (c.val i) (c.val w.heap.size)) := by
  have hb := b.rel.base
  unfold aAlloc at h
  split at h
  · rename_i t ho
    split at h
    · rename_i z hz
      simp only [Option.some.injEq] at h; subst h
      obtain ⟨inf, hi, hz2, hzf⟩ := zero_spec hz
      refine ⟨.cells z.cells t, ?_, fun r' i hle => ?_, fun r' i hr => ?_⟩
      · simp [execOp, ho, Instr.alloc, zero_run hz, newVar_run', Alc.val]
      · have := row_ok (w := w) (el := t) (hzf r').cells hb i
        simpa [Alc.obj] using this
      · have := VR.ptr (o := 0) hr; simpa [Alc.val] using this
    · simp at h
  · rename_i t x ho
    split at h
    · rename_i v hx
      have hx := b.ev hx
      simp only [Option.some.injEq] at h; subst h
      refine ⟨.cells (a.eval x).cells t, ?_, fun r' i hle => ?_, fun r' i hr => ?_⟩
      · simp [execOp, ho, Instr.box, newVar_run', Alc.val]
      · have := row_ok (w := w) (el := t) (hx.mono hle).cells hb i
        simpa [Alc.obj] using this
      · have := VR.ptr (o := 0) hr; simpa [Alc.val] using this
    · simp at h
  · rename_i t len parts ho
    split at h
    · rename_i el ps hu hp
      split at h
      · rename_i sz z hsz hz
        obtain ⟨inf, hi, rfl⟩ := sizeOf?_spec hsz
        obtain ⟨inf2, hi2, hz2, hzf⟩ := zero_spec hz
        rw [hi] at hi2; simp only [Option.some.injEq] at hi2; subst hi2
        cases hc : (Nat.ble (len * inf.size) 65536 && Nat.beq z.cells.size inf.size && Nat.ble len 65536) with
        | false => rw [hc, cond_false] at h; simp at h
        | true =>
          rw [hc, cond_true] at h
          simp only [Bool.and_eq_true, Nat.ble_eq, Nat.beq_eq] at hc
          obtain ⟨⟨c1, c2⟩, c3⟩ := hc
          split at h
          · rename_i cs hfill
            simp only [Option.some.injEq] at h; subst h
            obtain ⟨out', g1, g2⟩ := fill_sound (b.evParts hp) (cs := (zerosOf z.cells.toList len).toArray) (cs' := (zerosOf z.cells.toList len).toArray) (by simpa using zeros_LR (hzf r)) hfill
            refine ⟨.cells out' el, ?_, fun r' i hle => ?_, fun r' i hr => ?_⟩
            · have hrow : ((Array.range (len * inf.size)).map (fun i => z.cells[i % z.cells.size]!)) = (zerosOf z.cells.toList len).toArray := by
                apply Array.ext'
                rw [← c2, zeroRow_eq]
              have hnot : ¬ (len * inf.size > 2 ^ 24) := by omega
              have hz0 : ((if len * inf.size = 0 then pure #[] else do pure (← zeroValue el).cells : Sem (Array Value))).run P w = .ok (if len * inf.size = 0 then #[] else z.cells) w := by
                split <;> simp [zero_run hz]
              simp only [execOp, ho, Instr.buildSlice, Sem.run_bind, run_under hu, Result.andThen_ok, run_sizeOf' hi, Sem.run_ite, hnot, if_false]
              by_cases h0 : len * inf.size = 0
              · have hrow0 : (zerosOf z.cells.toList len).toArray = #[] := by rw [← hrow, h0]; simp
                rw [hrow0] at g1
                simp only at g1
                have e0 : ∀ f : Nat → Value, (Array.range 0).map f = #[] := fun f => by apply Array.ext'; simp
                simp only [h0, if_true, Sem.run_bind, Sem.run_pure, Result.andThen_ok, Array.toList_map, e0, g1]
                simp [newRow_run', Alc.val]
              · simp only at g1
                simp only [h0, if_false, Sem.run_bind, zero_run hz, Result.andThen_ok, Sem.run_pure, hrow, Array.toList_map, g1]
                simp [newRow_run', Alc.val]
            · have := row_ok (w := w) (el := el) (g2.mono hle) hb i
              simpa [Alc.obj] using this
            · have hcap : Loc.capOf ⟨w.heap.size, 0, 0⟩ len = len := by unfold Loc.capOf; rw [if_pos (by unfold CB; omega)]
              have := VR.slice_at (r := r') (o := 0) (n := len) hr (Nat.le_refl _) hcap
              simpa [Alc.val] using this
          · simp at h
      · simp at h
    · simp at h
  · rename_i t l c0 ho
    split at h
    · rename_i el kl lv kc cv hu hl hc
      have hl := b.ev hl
      have hc := b.ev hc
      split at h
      · rename_i inf z hi hz
        obtain ⟨inf2, hi2, hz2, hzf⟩ := zero_spec hz
        split at h
        · rename_i hcond
          obtain ⟨d1, d2, d3, d4, d5⟩ := hcond
          simp only [Option.some.injEq] at h; subst h
          generalize hll : a.eval l = ll at hl
          generalize hcc : a.eval c0 = cc at hc
          cases hl
          cases hc
          refine ⟨.cells (zerosOf z.cells.toList cv.toNat).toArray el, ?_, fun r' i hle => ?_, fun r' i hr => ?_⟩
          · have hrow : ((Array.range (cv.toNat * inf.size)).map (fun i => z.cells[i % z.cells.size]!)) = (zerosOf z.cells.toList cv.toNat).toArray := by
              apply Array.ext'
              rw [← d5, zeroRow_eq]
            have w1 : IntKind.i64.wrap lv = lv := by simp [IntKind.wrap, IntKind.bits, IntKind.signed]; omega
            have w2 : IntKind.i64.wrap cv = cv := by simp [IntKind.wrap, IntKind.bits, IntKind.signed]; omega
            have hb1 : (inf.bytes : Int) * cv ≤ 65536 * 16777216 := Int.mul_le_mul (by omega) d3 (by omega) (by omega)
            have t1 : (decide (cv < 0) || decide ((inf.bytes : Int) * cv > 2 ^ 48) || decide (lv < 0) || decide (lv > cv)) = false := by
              simp only [Bool.or_eq_false_iff, decide_eq_false_iff_not]
              refine ⟨⟨⟨by omega, by omega⟩, by omega⟩, by omega⟩
            simp only [execOp, ho, Instr.makeSlice, Sem.run_bind, run_under hu, Result.andThen_ok, hll, hcc, asInt, asIntOf, Sem.run_pure, run_typeInfo hi, w1, w2]
            simp only [t1, Bool.false_eq_true, if_false, Sem.run_bind]
            have hroom : ∀ n, (askRoom n).run P w = .ok () w := by intro n; unfold askRoom; split <;> simp [mark, Sem.run]
            simp only [hroom, Result.andThen_ok]
            by_cases h0 : cv.toNat * inf.size = 0
            · have hrow0 : (zerosOf z.cells.toList cv.toNat).toArray = #[] := by rw [← hrow, h0]; simp
              have e0 : ∀ f : Nat → Value, (Array.range 0).map f = #[] := fun f => by apply Array.ext'; simp
              simp [h0, hrow0, newRow_run', Alc.val, run_sizeOf' hi]
              rw [e0]
            · simp [h0, zero_run hz, hrow, newRow_run', Alc.val, run_sizeOf' hi]
          · have := row_ok (w := w) (el := el) (zeros_LR (n := cv.toNat) (hzf r')) hb i
            simpa [Alc.obj] using this
          · have hcap : Loc.capOf ⟨w.heap.size, 0, 0⟩ cv.toNat = cv.toNat := by unfold Loc.capOf; rw [if_pos (by unfold CB; omega)]
            have := VR.slice_at (r := r') (o := 0) (n := lv.toNat) hr (by omega : lv.toNat ≤ cv.toNat) hcap
            simpa [Alc.val] using this
        · simp at h
      · simp at h
    · simp at h
  · rename_i t x ho
    have fin : ∀ (x' : Option Value), (Instr.makeMap t x').run P w = .ok (.map (some w.heap.size)) (w.alloc (.map #[] 0)) → x.map a.eval = x' → c = ⟨none, none⟩ → ∃ obj, (execOp a.eval o).run P w = .ok (.value (c.val w.heap.size)) (w.alloc obj) ∧
        (∀ r' i, r.le r' → AOk r' W0 (c.obj i) ⟨w.heap.size, 0, 0⟩ (w.alloc obj)) ∧ (∀ r' i, r' i = some ⟨w.heap.size, 0, 0⟩ → VR r' (c.val i) (c.val w.heap.size)) := by
      intro x' h1 h2 h3
      subst h3
      refine ⟨.map #[] 0, ?_, fun r' i hle => ⟨hb, #[], (alloc_get w _ _).trans (if_pos rfl), .nil⟩, fun r' i hr => ?_⟩
      · simp [execOp, ho, h2, h1, Alc.val]
      · have := VR.map hr; simpa [Alc.val] using this
    split at h
    · rename_i k el hu hx
      have hx := b.evOpt hx
      simp only [Option.some.injEq] at h
      generalize hxx : x.map a.eval = xx at hx
      cases hx
      exact fin none (by simp [Instr.makeMap]) hxx h.symm
    · rename_i k el kk n hu hx
      have hx := b.evOpt hx
      simp only [Option.some.injEq] at h
      generalize hxx : x.map a.eval = xx at hx
      cases hx with
      | some hv =>
        cases hv
        exact fin _ (by simp [Instr.makeMap, run_underlying hu, asInt, asIntOf]) hxx h.symm
    · simp at h
  · simp at h

end Go.Ev
