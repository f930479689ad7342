/- Operations that write; calls of what has no body. -/
import Derived.Test.YtocplhpfndgagaaGreatDoorEvOps2
import Derived.KernelRfl
namespace Go.Ev

variable {P : Program} {G W0 : Nat} {r : Rho} {s : St} {w : World}

theorem ER.modify {es es' : List MapEntry} (h : ER r es es') {v v' : Value} (_hv : VR r v v') : ∀ (i : Nat) (f : MapEntry → MapEntry) (g : MapEntry → MapEntry),
    (∀ e e', es[i]? = some e → es'[i]? = some e' → VR r e.key e'.key → e.born = e'.born → VR r (f e).key (g e').key ∧ VR r (f e).val (g e').val ∧ (f e).born = (g e').born) → ER r (es.modify i f) (es'.modify i g) := by
  induction h with
  | nil => intro i f g _; simp; exact .nil
  | cons h1 h2 h3 t ih =>
    intro i f g hfg
    cases i with
    | zero =>
      obtain ⟨a, b, c⟩ := hfg _ _ (by simp) (by simp) h1 h3
      simp only [List.modify_zero_cons]
      exact .cons a b c t
    | succ i =>
      simp only [List.modify_succ_cons]
      exact .cons h1 h2 h3 (ih i f g fun e e' x y => hfg e e' (by simpa using x) (by simpa using y))

theorem ER.get' {es es' : List MapEntry} (h : ER r es es') : ∀ {i : Nat} {e : MapEntry}, es[i]? = some e → ∃ e', es'[i]? = some e' ∧ VR r e.key e'.key ∧ VR r e.val e'.val ∧ e.born = e'.born := by
  induction h with
  | nil => intro i e h; simp at h
  | cons h1 h2 h3 t ih =>
    intro i e he
    cases i with
    | zero => simp at he; subst he; exact ⟨_, rfl, h1, h2, h3⟩
    | succ i => obtain ⟨e', a, b⟩ := ih (i := i) (by simpa using he); exact ⟨e', by simpa using a, b⟩

theorem ER.erase {es es' : List MapEntry} (h : ER r es es') : ∀ i, ER r (es.eraseIdx i) (es'.eraseIdx i) := by
  induction h with
  | nil => intro i; simp; exact .nil
  | cons h1 h2 h3 t ih => intro i; cases i with
    | zero => simpa using t
    | succ i => simp; exact .cons h1 h2 h3 (ih i)

theorem run_setObj {b : Nat} {o o' : Obj} (h : w.heap[b]? = some o) (hn : ∀ c e fz, o ≠ .cells c e fz) : (setObj b o').run P w = .ok () (World.setObj w b o') := by
  simp only [setObj, Sem.run, h]
  cases o <;> first | (exact absurd rfl (hn _ _ _)) | rfl

theorem run_getObj {b : Nat} {o : Obj} (h : w.heap[b]? = some o) (hn : ∀ c e fz, o ≠ .cells c e fz) : (getObj b).run P w = .ok o w := by
  cases o <;> first | (exact absurd rfl (hn _ _ _)) | simp [getObj, Sem.run, h]

/-- the operation turns the store, too -/
def Does (P : Program) (W0 : Nat) (r : Rho) (s : St) (o : Oper) (a : Act) (w : World) (v : Value) (s' : St) : Prop :=
  ∃ r' nx v' w', (execOp a.eval o).run P w = .ok nx w' ∧ (nx = .value v' ∨ (nx = .skip ∧ v' = undef)) ∧ VR r' v v' ∧ Rel P.globals.size W0 r' s' w' ∧ Ext r s w r' s' w'

theorem store_sound {o : Oper} {e : Env} {a : Act} {t : TypeId} {ad x : Operand} {i j : Nat} {v : Value} {s' : St} (b : Base P W0 r s w e a) (ho : o.op = .store t ad x)
    (h1 : Env.ev P e ad = some (.pointer (some ⟨i, j, none⟩))) (h2 : Env.ev P e x = some v) (h : s.storeVar P t i j v = some s') : Does P W0 r s o a w (.tuple #[]) s' := by
  have h1 := b.ev h1
  have h2 := b.ev h2
  unfold St.storeVar at h
  split at h
  · rename_i n hn
    obtain ⟨inf, hi, rfl⟩ := sizeOf?_spec hn
    cases hq : Nat.beq v.cells.size inf.size with
    | false => rw [hq, cond_false] at h; simp at h
    | true =>
      rw [hq, cond_true] at h
      have hq : v.cells.size = inf.size := by simpa using hq
      obtain ⟨l, w', hr, hrun, hR, hE⟩ := b.rel.store (P := P) h h2.cells
      generalize had : a.eval ad = adv at h1
      cases h1 with
      | ptr hr2 =>
        rw [hr] at hr2; simp only [Option.some.injEq] at hr2; subst hr2
        refine ⟨r, .skip, undef, w', ?_, .inr ⟨rfl, rfl⟩, VR.undef r, hR, hE⟩
        have hsz : (a.eval x).cells.size = inf.size := by have := h2.cells.length; simp at this; omega
        simp [execOp, ho, Instr.storeAt, storeVar, had, sureAddr_run, run_sizeOf' hi, hsz, hrun]
  · simp at h

theorem map_obj {i : Nat} {es : List MapEntry} {ck : Nat} (h : Rel G W0 r s w) (hg : s.h.get i = some (.map es ck)) {l : Loc} (hr : r i = some l) :
    ∃ es', w.heap[l.blk]? = some (.map es' ck) ∧ ER r es es'.toList ∧ W0 ≤ l.blk := by
  obtain ⟨l2, hr2, hW, es', hh, her⟩ := h.obj _ _ hg
  rw [hr] at hr2; simp only [Option.some.injEq] at hr2; subst hr2
  exact ⟨es', hh, her, hW⟩

theorem map_turn {i : Nat} {es es2 : List MapEntry} {es' : Array MapEntry} {ck ck2 : Nat} (h : Rel G W0 r s w) (hg : s.h.get i = some (.map es ck)) {l : Loc} (hr : r i = some l) (he : ER r es2 es'.toList) :
    Rel G W0 r { s with h := s.h.put i (some (.map es2 ck2)) } (World.setObj w l.blk (.map es' ck2)) ∧ Ext r s w r { s with h := s.h.put i (some (.map es2 ck2)) } (World.setObj w l.blk (.map es' ck2)) := by
  obtain ⟨l2, hr2, hok⟩ := h.obj _ _ hg
  have hlt := hok.blk_lt
  rw [hr] at hr2; simp only [Option.some.injEq] at hr2; subst hr2
  exact h.turn hg hr (by simp) (by simp) ⟨hok.1, es', by rw [setObj_get _ _ _ _ hlt]; simp, he⟩

theorem keyStays {old new k : Value} {w : World} (h1 : VR r k old) (h2 : VR r k new) : ∃ key d, (Instr.keyThatStays old new).run P w = .ok key { w with drawn := d } ∧ VR r k key := by
  unfold Instr.keyThatStays
  split
  · exact ⟨new, w.drawn, by simp, h2⟩
  · have hch : (choose (.extern "map.whichKeyStays" 2)).run P w = .ok ((Question.extern "map.whichKeyStays" 2).cut (w.tape w.drawn (.extern "map.whichKeyStays" 2))) { w with drawn := w.drawn + 1 } := rfl
    simp only [Sem.run_bind, hch, Result.andThen_ok, Sem.run_pure]
    split
    · exact ⟨new, w.drawn + 1, rfl, h2⟩
    · exact ⟨old, w.drawn + 1, rfl, h1⟩

theorem mapUpdate_sound {t : TypeId} {k v : Value} {m' k' v' : Value} {rr : Nat} {key el : TypeId} {es : List MapEntry} {ck : Nat} {s' : St} (h : Rel G W0 r s w) (hu : P.underlying t = some (.map key el))
    (hm : VR r (.map (some rr)) m') (hk : VR r k k') (hv : VR r v v') (hg : s.h.get rr = some (.map es ck)) (hkey : aKey P 10000 key k = true)
    (hs : (match aFind P key k es 0 with
        | some (some (i, _)) => match es[i]? with
          | some e => bif valEq 8 k e.key then some (Value.tuple #[], { s with h := s.h.put rr (some (.map (es.modify i fun e => { e with val := v }) ck)) }) else none
          | none => none
        | some none => some (.tuple #[], { s with h := s.h.put rr (some (.map (es ++ [{ key := k, val := v, born := ck }]) (ck + 1))) })
        | none => none) = some (Value.tuple #[], s')) :
    ∃ w', (Instr.mapUpdate t m' k' v').run P w = .ok () w' ∧ Rel G W0 r s' w' ∧ Ext r s w r s' w' := by
  cases hm with
  | map hr =>
    rename_i l
    obtain ⟨es', hh, her, hW⟩ := map_obj h hg hr
    have hd : ∃ d, P.underlying key = some d := by
      cases hq : P.underlying key with
      | some d => exact ⟨d, rfl⟩
      | none => unfold aKey at hkey; rw [hq] at hkey; simp at hkey
    obtain ⟨d, hd⟩ := hd
    have hck := aKey_sound (w := w) false 10000 key k _ hkey hk
    have hgo := run_getObj (P := P) hh (by simp)
    split at hs
    · rename_i i v0 hf
      obtain ⟨res', g1, g2⟩ := find_sound (w := w) hd her hk hf
      cases res' with
      | none => exact g2.elim
      | some p =>
        obtain ⟨i', v0'⟩ := p
        obtain ⟨rfl, g2⟩ := g2
        split at hs
        · rename_i e0 he0
          cases hve : valEq 8 k e0.key with
          | false => rw [hve, cond_false] at hs; simp at hs
          | true =>
            rw [hve, cond_true] at hs
            have hve := valEq_sound _ _ _ hve
            simp only [Option.some.injEq, Prod.mk.injEq, true_and] at hs
            subst hs
            obtain ⟨e0', f1, f2, f3, f4⟩ := her.get' he0
            obtain ⟨kk, dd, q1, q2⟩ := keyStays (P := P) (w := w) (new := k') f2 (hve ▸ hk)
            have hold : ((es'[i]?).map (·.key)).getD k' = e0'.key := by
              have : es'[i]? = some e0' := by simpa using f1
              rw [this]; rfl
            have hh2 : ({ w with drawn := dd } : World).heap[l.blk]? = some (.map es' ck) := hh
            refine ⟨World.setObj { w with drawn := dd } l.blk (.map (es'.modify i fun e => { e with key := kk, val := v' }) ck), ?_, ?_⟩
            · simp only [Instr.mapUpdate, Sem.run_bind, run_under hu, Result.andThen_ok, hgo, hck, g1, hold, q1]
              exact run_setObj hh2 (by simp)
            · obtain ⟨hR, hE⟩ := map_turn (w := { w with drawn := dd }) (es' := es'.modify i fun e => { e with key := kk, val := v' }) (es2 := es.modify i fun e => { e with val := v }) (ck2 := ck) (h.same_heap rfl) hg hr (by
                rw [Array.toList_modify]
                refine her.modify hv i _ _ fun e e' x y hk2 hb2 => ⟨?_, hv, hb2⟩
                rw [he0] at x; simp only [Option.some.injEq] at x; subst x
                exact q2)
              exact ⟨hR, Ext.trans (w₂ := { w with drawn := dd }) (Ext.same_heap rfl rfl rfl rfl) hE⟩
        · simp at hs
    · rename_i hf
      simp only [Option.some.injEq, Prod.mk.injEq, true_and] at hs
      subst hs
      obtain ⟨res', g1, g2⟩ := find_sound (w := w) hd her hk hf
      cases res' with
      | some p => obtain ⟨_, _⟩ := p; exact g2.elim
      | none =>
        refine ⟨World.setObj w l.blk (.map (es'.push { key := k', val := v', born := ck }) (ck + 1)), ?_, ?_⟩
        · simp only [Instr.mapUpdate, Sem.run_bind, run_under hu, Result.andThen_ok, hgo, hck, g1]
          exact run_setObj hh (by simp)
        · exact map_turn h hg hr (by rw [Array.toList_push]; exact her.append (.cons hk hv rfl .nil))
    · simp at hs

end Go.Ev
namespace Go.Ev

variable {P : Program} {G W0 : Nat} {r : Rho} {s : St} {w : World}

theorem LR.two {l : List Value} {x y : Value} (h : LR r [x, y] l) : ∃ x' y', l = [x', y'] ∧ VR r x x' ∧ VR r y y' := by
  cases h with
  | cons h1 h2 => cases h2 with
    | cons h3 h4 => cases h4; exact ⟨_, _, rfl, h1, h3⟩

theorem LR.one {l : List Value} {x : Value} (h : LR r [x] l) : ∃ x', l = [x'] ∧ VR r x x' := by
  cases h with
  | cons h1 h2 => cases h2; exact ⟨_, rfl, h1⟩

theorem copy_cells {el : TypeId} {info : TypeInfo} {y y' : Value} {m n : Nat} {l : List Value} (h : Rel G W0 r s w) (hy : VR r y y') (_hi : P.info? el = some info) (hm : lenOf? y = some m) (hn : n ≤ m)
    (hl : copySrc s info.size n y = some l) :
    ∃ l', LR r l l' ∧ (Builtin.lenOf y').run P w = .ok m w ∧ (Builtin.firstCells info.size n y').run P w = .ok l'.toArray w := by
  cases hy with
  | string b =>
    simp only [lenOf?, Option.some.injEq] at hm; subst hm
    simp only [copySrc] at hl
    cases hs : Nat.beq info.size 1 with
    | false => rw [hs, cond_false] at hl; simp at hl
    | true =>
      rw [hs, cond_true] at hl
      simp only [Option.some.injEq] at hl; subst hl
      refine ⟨_, bytes_LR _, rfl, ?_⟩
      simp only [Builtin.firstCells, Sem.run_pure]
      congr 1
      apply Array.ext'
      have : (b.extract 0 n).data = b.data.extract 0 n := by simp [ByteArray.data_extract]
      simp
  | nilSlice _ _ _ =>
    simp only [lenOf?, Option.some.injEq] at hm; subst hm
    simp only [copySrc, Option.some.injEq] at hl; subst hl
    exact ⟨[], .nil, rfl, by simpa using run_firstCells_none (P := P) w info.size n _ _⟩
  | slice hr2 _ =>
    simp only [lenOf?, Option.some.injEq] at hm; subst hm
    simp only [copySrc] at hl
    cases hn0 : Nat.beq n 0 with
    | true =>
      rw [hn0, cond_true] at hl
      have hn0 : n = 0 := by simpa using hn0
      subst hn0
      simp only [Option.some.injEq] at hl; subst hl
      exact ⟨[], .nil, rfl, by simpa using run_firstCells_some (P := P) w info.size 0 _ _ _ [] (by simp) (by simp)⟩
    | false =>
      rw [hn0, cond_false] at hl
      obtain ⟨lc, hr, vs', hv, hlen, hrun⟩ := h.load (P := P) hl
      rw [hr] at hr2; simp only [Option.some.injEq] at hr2; subst hr2
      exact ⟨vs', hv, rfl, by simpa [Builtin.firstCells] using hrun w rfl⟩
  | @slice0 _ _ _ xa _ =>
    simp only [lenOf?, Option.some.injEq] at hm; subst hm
    have : n = 0 := by omega
    subst this
    simp only [copySrc, Nat.beq, cond_true, Option.some.injEq] at hl; subst hl
    exact ⟨[], .nil, rfl, by simpa using run_firstCells_some (P := P) w info.size 0 xa 0 0 [] (by simp) (by simp)⟩
  | _ => simp [copySrc] at hl

theorem eff_sound {o : Oper} {e : Env} {a : Act} {v : Value} {s' : St} (b : Base P W0 r s w e a) (h : aEff P o e s = some (v, s')) : Does P W0 r s o a w v s' := by
  have hbase := b.rel.base
  have hdom := b.rel.dom s.next (Nat.le_refl _)
  unfold aEff at h
  split at h
  · -- range
    rename_i t x ho
    split at h
    · rename_i bs hu hx
      have hx := b.ev hx
      simp only [Option.some.injEq, Prod.mk.injEq] at h
      obtain ⟨rfl, rfl⟩ := h
      generalize hxx : a.eval x = xx at hx
      cases hx
      obtain ⟨hR, hE⟩ := b.rel.newAny (i := s.next) (k := 1) (cap := 0) (o := .iter bs 0) (obj := .stringIter bs 0) (w1 := w.alloc (.stringIter bs 0)) hdom (by omega) (by omega) rfl rfl rfl rfl
        ⟨hbase, rfl, (alloc_get w _ _).trans (if_pos rfl)⟩ rfl (fun b e => by simp at e) (s' := (s.objAt s.next (.iter bs 0)).up 1) rfl rfl (.inr ⟨rfl, by simp⟩)
      refine ⟨_, .value (.pointer (some ⟨w.heap.size, 0, none⟩)), _, _, ?_, .inl rfl, ?_, hR, hE⟩
      · simp [execOp, ho, hxx, Instr.range, run_underlying hu]
      · have := VR.ptr (o := 0) (Rho.upd_same (r := r) (i := s.next) (l := ⟨w.heap.size, 0, 0⟩)); simpa using this
    · simp at h
  · -- next
    rename_i it ho
    split at h
    · rename_i i hx
      have hx := b.ev hx
      split at h
      · rename_i bs pos hg
        obtain ⟨l, hr, hW, hsh, hh⟩ := b.rel.obj _ _ hg
        generalize hxx : a.eval it = xx at hx
        cases hx with
        | ptr hr2 =>
          rw [hr] at hr2; simp only [Option.some.injEq] at hr2; subst hr2
          have hgo := run_getObj (P := P) hh (by simp)
          rw [hsh] at hxx
          simp only [Nat.add_zero] at hxx
          cases hp : Nat.ble bs.size pos with
          | true =>
            rw [hp, cond_true] at h
            have hp := of_bleT hp
            simp only [Option.some.injEq, Prod.mk.injEq] at h
            obtain ⟨rfl, rfl⟩ := h
            refine ⟨r, .value (.tuple #[.bool false]), _, w, ?_, .inl rfl, VR.tuple_list.2 (.cons (.bool _) .nil), b.rel, .refl _ _ _⟩
            have : ¬ pos < bs.size := by omega
            simp [execOp, ho, hxx, Instr.next, hgo, this]
          | false =>
            rw [hp, cond_false] at h
            have hp : pos < bs.size := by
              by_cases e : bs.size ≤ pos
              · rw [bleT e] at hp; simp at hp
              · omega
            generalize hdec : Utf8.decode bs pos = dd at h
            obtain ⟨c, width⟩ := dd
            simp only [Option.some.injEq, Prod.mk.injEq] at h
            obtain ⟨rfl, rfl⟩ := h
            have hlt := (Array.getElem?_eq_some_iff.1 hh).1
            obtain ⟨hR, hE⟩ := b.rel.turn (o' := .iter bs (pos + width)) (obj := .stringIter bs (pos + width)) hg hr (by simp) (by simp) ⟨hW, hsh, by rw [setObj_get _ _ _ _ hlt]; simp⟩
            refine ⟨r, .value (.tuple #[.bool true, goInt pos, .int .i32 c]), _, _, ?_, .inl rfl, VR.tuple_list.2 (.cons (.bool _) (.cons (.int _ _) (.cons (.int _ _) .nil))), hR, hE⟩
            simp only [execOp, ho, Sem.run_bind, hxx, Instr.next, hgo, Result.andThen_ok, hp, if_true, hdec, run_setObj (P := P) (o' := .stringIter bs (pos + width)) hh (by simp), Sem.run_pure]
      · simp at h
    · simp at h
  · -- store
    rename_i t ad x ho
    split at h
    · rename_i i j vv h1 h2
      cases hsv : s.storeVar P t i j vv with
      | none => rw [hsv] at h; simp at h
      | some s2 =>
        rw [hsv] at h; simp only [Option.map_some, Option.some.injEq, Prod.mk.injEq] at h
        obtain ⟨rfl, rfl⟩ := h
        exact store_sound b ho h1 h2 hsv
    · simp at h
  · -- mapUpdate
    rename_i t m k x ho
    split at h
    · rename_i key el rr kv vv hu hm hk hx
      split at h
      · rename_i es ck hg
        cases hkey : aKey P 10000 key kv with
        | false => rw [hkey] at h; simp at h
        | true =>
          rw [hkey] at h
          simp only [Bool.not_true, cond_false] at h
          have hv : v = .tuple #[] := by
            split at h
            · split at h
              · rename_i e0 _; cases hq : valEq 8 kv e0.key with
                | false => rw [hq] at h; simp at h
                | true => rw [hq] at h; simp at h; exact h.1.symm
              · simp at h
            · simp at h; exact h.1.symm
            · simp at h
          subst hv
          obtain ⟨w', h1, h2, h3⟩ := mapUpdate_sound b.rel hu (b.ev hm) (b.ev hk) (b.ev hx) hg hkey h
          exact ⟨r, .skip, undef, w', by simp [execOp, ho, h1], .inr ⟨rfl, rfl⟩, VR.undef r, h2, h3⟩
      · simp at h
    · simp at h
  · -- insert
    rename_i t m k x ho
    split at h
    · rename_i key el rr kv vv hu hm hk hx
      split at h
      · rename_i es ck hg
        cases hkey : aKey P 10000 key kv with
        | false => rw [hkey] at h; simp at h
        | true =>
          rw [hkey] at h
          simp only [Bool.not_true, cond_false] at h
          have hv : v = .tuple #[] := by
            split at h
            · split at h
              · rename_i e0 _; cases hq : valEq 8 kv e0.key with
                | false => rw [hq] at h; simp at h
                | true => rw [hq] at h; simp at h; exact h.1.symm
              · simp at h
            · simp at h; exact h.1.symm
            · simp at h
          subst hv
          obtain ⟨w', h1, h2, h3⟩ := mapUpdate_sound b.rel hu (b.ev hm) (b.ev hk) (b.ev hx) hg hkey h
          exact ⟨r, .skip, undef, w', by simp [execOp, ho, h1], .inr ⟨rfl, rfl⟩, VR.undef r, h2, h3⟩
      · simp at h
    · simp at h
  · -- append
    rename_i args argTypes ho
    split at h
    · rename_i x y t tx hxy hts
      have hts : argTypes = #[t, tx] := Array.ext' (by simpa using hts)
      subst hts
      have hxy := b.evs hxy
      obtain ⟨x', y', hmap, hx, hy⟩ := hxy.two
      split at h
      · rename_i el hu
        split at h
        · rename_i new n ha
          obtain ⟨r', v', w', h1, h2, h3, h4⟩ := b.rel.append (ty := o.type) hu ha h hx hy
          refine ⟨r', .value v', v', w', ?_, .inl rfl, h2, h3, h4⟩
          have hargs : args.map a.eval = #[x', y'] := Array.ext' (by simpa using hmap)
          simp [execOp, ho, resolve, invoke, builtin, hargs, h1]
        · simp at h
      · simp at h
    · simp at h
  · -- delete
    rename_i args argTypes ho
    split at h
    · rename_i m k t tl hxy hts
      have hxy := b.evs hxy
      obtain ⟨m', k', hmap, hm, hk⟩ := hxy.two
      have ht0 : argTypes[0]? = some t := by rw [← Array.getElem?_toList, hts]; rfl
      have hargs : args.map a.eval = #[m', k'] := Array.ext' (by simpa using hmap)
      have fin : ∀ w', (Builtin.delete_ argTypes o.type #[m', k']).run P w = .ok (.tuple #[]) w' → (execOp a.eval o).run P w = .ok (.value (.tuple #[])) w' := by
        intro w' hw; simp [execOp, ho, resolve, invoke, builtin, hargs, hw]
      have del_nil : m = .map none → ∀ key el, P.underlying t = some (.map key el) → aKey P 10000 key k = true → Does P W0 r s o a w (.tuple #[]) s := by
        intro e key el hu hkey
        subst e
        cases hm
        have hck := aKey_sound (w := w) true 10000 key k _ hkey hk
        exact ⟨r, _, _, w, fin w (by simp [Builtin.delete_, ht0, run_underlying hu, hck]), .inl rfl, VR.undef r, b.rel, .refl _ _ _⟩
      have del_some : ∀ rr, m = .map (some rr) → ∀ key el es ck, P.underlying t = some (.map key el) → s.h.get rr = some (.map es ck) → aKey P 10000 key k = true → ∀ res, aFind P key k es 0 = some res →
          Does P W0 r s o a w (.tuple #[]) (match res with | some (i, _) => { s with h := s.h.put rr (some (.map (es.eraseIdx i) ck)) } | none => s) := by
        intro rr e key el es ck hu hg hkey res hf
        subst e
        cases hm with
        | map hr =>
          rename_i l
          obtain ⟨es', hh, her, hW⟩ := map_obj b.rel hg hr
          have hd : ∃ d, P.underlying key = some d := by
            cases hq : P.underlying key with
            | some d => exact ⟨d, rfl⟩
            | none => unfold aKey at hkey; rw [hq] at hkey; simp at hkey
          obtain ⟨d, hd⟩ := hd
          have hck := aKey_sound (w := w) es'.isEmpty 10000 key k _ hkey hk
          have hgo := run_getObj (P := P) hh (by simp)
          obtain ⟨res', g1, g2⟩ := find_sound (w := w) hd her hk hf
          cases res with
          | some p0 =>
            obtain ⟨i, v0⟩ := p0
            cases res' with
            | none => exact g2.elim
            | some p =>
              obtain ⟨i', v0'⟩ := p
              obtain ⟨rfl, g2⟩ := g2
              obtain ⟨hR, hE⟩ := map_turn (ck2 := ck) (es' := es'.eraseIdxIfInBounds i) b.rel hg hr (by
                have : (es'.eraseIdxIfInBounds i).toList = es'.toList.eraseIdx i := by simp
                rw [this]; exact her.erase i)
              refine ⟨r, _, _, _, fin _ ?_, .inl rfl, VR.undef r, hR, hE⟩
              simp only [Builtin.delete_, ht0, List.getElem?_toArray, List.getElem?_cons_zero, List.getElem?_cons_succ, Sem.run_bind, run_under hu, Result.andThen_ok, hgo, hck, g1, run_setObj (P := P) (o' := .map (es'.eraseIdxIfInBounds i) ck) hh (by simp), Sem.run_pure]
          | none =>
            cases res' with
            | some p => obtain ⟨_, _⟩ := p; exact g2.elim
            | none =>
              refine ⟨r, _, _, w, fin _ ?_, .inl rfl, VR.undef r, b.rel, .refl _ _ _⟩
              simp only [Builtin.delete_, ht0, List.getElem?_toArray, List.getElem?_cons_zero, List.getElem?_cons_succ, Sem.run_bind, run_under hu, Result.andThen_ok, hgo, hck, g1, run_setObj (P := P) (o' := .map es' ck) hh (by simp), Sem.run_pure]
              rw [setObj_same hh]
      clear hm hxy hmap hargs fin
      generalize hu : P.underlying t = ud at h
      generalize hmm : m = mm at h
      split at h
      · rename_i key el
        cases hkey : aKey P 10000 key k with
        | false => rw [hkey] at h; simp at h
        | true =>
          rw [hkey, cond_true] at h
          simp only [Option.some.injEq, Prod.mk.injEq] at h
          obtain ⟨rfl, rfl⟩ := h
          exact del_nil hmm key el hu hkey
      · rename_i key el rr
        split at h
        · rename_i es ck hg
          cases hkey : aKey P 10000 key k with
          | false => rw [hkey] at h; simp at h
          | true =>
            rw [hkey] at h
            simp only [Bool.not_true, cond_false] at h
            split at h
            · rename_i i v0 hf
              simp only [Option.some.injEq, Prod.mk.injEq] at h
              obtain ⟨rfl, rfl⟩ := h
              exact del_some rr hmm key el es ck hu hg hkey _ hf
            · rename_i hf
              simp only [Option.some.injEq, Prod.mk.injEq] at h
              obtain ⟨rfl, rfl⟩ := h
              exact del_some rr hmm key el es ck hu hg hkey _ hf
            · simp at h
        · simp at h
      · simp at h
    · simp at h
  · -- clear
    rename_i args argTypes ho
    split at h
    · rename_i x t tl hxy hts
      have hxy := b.evs hxy
      obtain ⟨x', hmap, hx⟩ := hxy.one
      have ht0 : argTypes[0]? = some t := by rw [← Array.getElem?_toList, hts]; rfl
      have hargs : args.map a.eval = #[x'] := Array.ext' (by simpa using hmap)
      have fin : ∀ w', (Builtin.clear_ argTypes o.type #[x']).run P w = .ok (.tuple #[]) w' → (execOp a.eval o).run P w = .ok (.value (.tuple #[])) w' := by
        intro w' hw; simp [execOp, ho, resolve, invoke, builtin, hargs, hw]
      have clr : ∀ el ad n c z s2, x = .slice ad n c → P.underlying t = some (.slice el) → (match ad with | some ⟨i, j, none⟩ => zero? P el = some z ∧ s.storeAt i j (zerosOf z.cells.toList n) = some s2 | none => s2 = s | _ => False) → Does P W0 r s o a w (.tuple #[]) s2 := by
        intro el ad n c z s2 e hu hc
        subst e
        cases hx with
        | nilSlice _ _ _ =>
          simp only at hc
          subst hc
          exact ⟨r, _, _, w, fin w (by simp [Builtin.clear_, ht0, run_underlying hu]), .inl rfl, VR.undef r, b.rel, .refl _ _ _⟩
        | slice hr2 _ =>
          obtain ⟨hz, hst⟩ := hc
          obtain ⟨inf, hi, hz2, hzf⟩ := zero_spec hz
          obtain ⟨l, w', hr, hrun, hR, hE⟩ := b.rel.store (P := P) hst (zeros_LR (n := n) (hzf r))
          rw [hr] at hr2; simp only [Option.some.injEq] at hr2; subst hr2
          refine ⟨r, _, _, w', fin w' ?_, .inl rfl, VR.undef r, hR, hE⟩
          cases n with
          | zero =>
            have hw : w' = w := by simp [zerosOf, storeCells] at hrun; exact hrun.symm
            subst hw
            simp [Builtin.clear_, ht0, run_underlying hu]
          | succ n =>
            have hz3 : (Builtin.zeroCells z.cells (n + 1)).toList = zerosOf z.cells.toList (n + 1) := zeroCells_eq _ _
            simp only [Builtin.clear_, ht0, List.getElem?_toArray, List.getElem?_cons_zero, Sem.run_bind, run_under hu, Result.andThen_ok, zero_run hz, hz3, hrun, Sem.run_pure]
        | @slice0 _ _ _ xa _ =>
          obtain ⟨hz, hst⟩ := hc
          obtain ⟨inf, hi, hz2, hzf⟩ := zero_spec hz
          obtain ⟨l, w', hr, hrun, hR, hE⟩ := b.rel.store (P := P) hst (zeros_LR (n := 0) (hzf r))
          have hw : w' = w := by simp [zerosOf, storeCells] at hrun; exact hrun.symm
          subst hw
          refine ⟨r, _, _, w', fin w' ?_, .inl rfl, VR.undef r, hR, hE⟩
          simp [Builtin.clear_, ht0, run_underlying hu]
      clear hx hxy hmap hargs fin
      generalize hu : P.underlying t = ud at h
      generalize hxx : x = xx at h
      split at h
      · rename_i el i j n c
        split at h
        · rename_i z hz
          cases hst : s.storeAt i j (zerosOf z.cells.toList n) with
          | none => rw [hst] at h; simp at h
          | some s2 =>
            rw [hst] at h; simp only [Option.map_some, Option.some.injEq, Prod.mk.injEq] at h
            obtain ⟨rfl, rfl⟩ := h
            exact clr el _ n c z _ hxx hu ⟨hz, hst⟩
        · simp at h
      · rename_i el n c
        simp only [Option.some.injEq, Prod.mk.injEq] at h
        obtain ⟨rfl, rfl⟩ := h
        exact clr el none n c undef _ hxx hu rfl
      · simp at h
    · simp at h
  · -- copy
    rename_i args argTypes ho
    split at h
    · rename_i base dl dc y t tl hxy hts
      have hxy := b.evs hxy
      obtain ⟨x', y', hmap, hx, hy⟩ := hxy.two
      have ht0 : argTypes[0]? = some t := by rw [← Array.getElem?_toList, hts]; rfl
      have hargs : args.map a.eval = #[x', y'] := Array.ext' (by simpa using hmap)
      have fin : ∀ u w', (Builtin.copy_ argTypes o.type #[x', y']).run P w = .ok u w' → (execOp a.eval o).run P w = .ok (.value u) w' := by
        intro u w' hw; simp [execOp, ho, resolve, invoke, builtin, hargs, hw]
      split at h
      · rename_i el hu
        split at h
        · rename_i info m hi hm
          split at h
          · rename_i l hl
            obtain ⟨l', hv, hln, hfc⟩ := copy_cells (n := Nat.min m dl) b.rel hy hi hm (Nat.min_le_left _ _) hl
            have cpy : ∀ ad s2, base = ad → (match ad with | some ⟨i, j, none⟩ => s.storeAt i j l = some s2 | none => s2 = s | _ => False) → Does P W0 r s o a w (.int .i64 (Nat.min m dl : Nat)) s2 := by
              intro ad s2 e hc
              subst e
              cases hx with
              | nilSlice _ _ _ =>
                simp only at hc
                subst hc
                refine ⟨r, _, _, w, fin (goInt (Nat.min m dl)) w ?_, .inl rfl, .int _ _, b.rel, .refl _ _ _⟩
                simp only [Builtin.copy_, ht0, List.getElem?_toArray, List.getElem?_cons_zero, List.getElem?_cons_succ, Sem.run_bind, run_under hu, Result.andThen_ok, hln, run_sizeOf' hi, hfc, Sem.run_pure]
              | slice hr2 _ =>
                obtain ⟨lc, w', hr, hrun, hR, hE⟩ := b.rel.store (P := P) hc hv
                rw [hr] at hr2; simp only [Option.some.injEq] at hr2; subst hr2
                refine ⟨r, _, _, w', fin (goInt (Nat.min m dl)) w' ?_, .inl rfl, .int _ _, hR, hE⟩
                simp only [Builtin.copy_, ht0, List.getElem?_toArray, List.getElem?_cons_zero, List.getElem?_cons_succ, Sem.run_bind, run_under hu, Result.andThen_ok, hln, run_sizeOf' hi, hfc, hrun, Sem.run_pure]
              | @slice0 _ _ _ xa _ =>
                obtain ⟨lc, w', hr, hrun, hR, hE⟩ := b.rel.store (P := P) hc hv
                have h0 : Nat.min m 0 = 0 := Nat.min_zero m
                have hl0 : l = [] := by
                  rw [h0] at hl
                  unfold copySrc at hl
                  split at hl
                  · rename_i bs _ _ _; cases hq : Nat.beq info.size 1 with
                    | false => rw [hq, cond_false] at hl; simp at hl
                    | true => rw [hq, cond_true] at hl; simp at hl; exact hl
                  · simp at hl; exact hl
                  · simp at hl; exact hl
                  · simp at hl
                subst hl0
                cases hv
                have hw : w' = w := by simp [storeCells] at hrun; exact hrun.symm
                subst hw
                refine ⟨r, _, _, w', fin (goInt (Nat.min m 0)) w' ?_, .inl rfl, .int _ _, hR, hE⟩
                simp only [Builtin.copy_, ht0, List.getElem?_toArray, List.getElem?_cons_zero, List.getElem?_cons_succ, Sem.run_bind, run_under hu, Result.andThen_ok, hln, run_sizeOf' hi, hfc, Sem.run_pure, storeCells]
            clear hx hxy hmap hargs fin
            generalize hbb : base = bb at h
            split at h
            · rename_i i j
              cases hst : s.storeAt i j l with
              | none => rw [hst] at h; simp at h
              | some s2 =>
                rw [hst] at h; simp only [Option.map_some, Option.some.injEq, Prod.mk.injEq] at h
                obtain ⟨rfl, rfl⟩ := h
                exact cpy _ _ hbb hst
            · simp only [Option.some.injEq, Prod.mk.injEq] at h
              obtain ⟨rfl, rfl⟩ := h
              exact cpy none _ hbb rfl
            · simp at h
          · simp at h
        · simp at h
      · simp at h
    · simp at h
  · -- a string as bytes
    rename_i src dst x ho
    split at h
    · rename_i el bs h1 h2 hx
      have hx := b.ev hx
      split at h
      · rename_i hel
        simp only [Option.some.injEq, Prod.mk.injEq] at h
        obtain ⟨rfl, rfl⟩ := h
        generalize hxx : a.eval x = xx at hx
        cases hx
        generalize hcap : (Question.appendCap bs.size 0 el).cut (w.tape w.drawn (.appendCap bs.size 0 el)) = cap
        have hge : bs.size ≤ cap := by rw [← hcap]; simp [Question.cut]
        generalize hc : (bs.data.map (fun b => Value.int .u8 b.toNat) ++ Array.replicate (cap - bs.size) (.int .u8 0)) = c
        have hcs : c.size = cap := by rw [← hc]; simp; show bs.size + (cap - bs.size) = cap; omega
        generalize hw1 : ({ w with drawn := w.drawn + 1, heap := w.heap.push (.cells c el (c.size, c.size + 1)) } : World) = w1
        have hrun : (Conv.stringToBytes el bs).run P w = .ok (.slice (some ⟨w.heap.size, 0, none⟩) bs.size cap) w1 := by
          have hch : (choose (.appendCap bs.size 0 el)).run P w = .ok cap w.drew := by rw [← hcap]; rfl
          simp only [Conv.stringToBytes, Sem.run_bind, hch, Result.andThen_ok, hc, newRow_run', markStringish]
          have h2 : (shape w.drew.heap.size).run P (w.drew.alloc (.cells c el)) = .ok (some (el, c.size)) (w.drew.alloc (.cells c el)) := by
            have : (w.drew.alloc (.cells c el)).heap[w.drew.heap.size]? = some (.cells c el) := (alloc_get w.drew _ _).trans (if_pos rfl)
            simp only [shape, Sem.run, World.shape?, this]
          simp only [h2, Result.andThen_ok, freeze, Sem.run, Sem.run_pure]
          congr 1
          rw [← hw1]
          simp only [World.freeze, Nat.one_ne_zero, if_false]
          have h3 : (w.drew.alloc (.cells c el)).heap = w.heap.push (.cells c el) := rfl
          have h4 : w.drew.heap.size = w.heap.size := rfl
          simp only [h3, h4]
          have h5 : ∀ f : Obj → Obj, (w.heap.push (.cells c el)).modify w.heap.size f = w.heap.push (f (.cells c el)) := by
            intro f
            apply Array.ext_getElem?
            intro k
            rw [Array.getElem?_modify, Array.getElem?_push, Array.getElem?_push]
            by_cases hk : k = w.heap.size
            · subst hk; simp
            · rw [if_neg (fun e => hk e.symm), if_neg hk, if_neg hk]
          rw [h5]
          rfl
        obtain ⟨hR, hE⟩ := b.rel.newAny (i := s.next) (k := 1) (cap := cap) (w1 := w1) (obj := .cells c el (c.size, c.size + 1))
          (o := .cells { t := T.leaf.puts 0 (bs.data.toList.map fun c => Value.int .u8 c.toNat), n := bs.size, es := 1, cls := s.next, cs := 0, wr := true })
          hdom (by omega) (by omega) (by rw [← hw1]) (by rw [← hw1]) (by rw [← hw1]) (by rw [← hw1])
          (by
            refine ⟨c, el, (c.size, c.size + 1), by rw [← hw1]; simp, fun j v hj => ?_, fun _ => ⟨hbase, fun j hj hh => by omega, by simp only [Nat.add_zero]; omega, fun _ => by simp only [Nat.zero_add, Nat.mul_one]; omega⟩, fun q => by simp at q⟩
            rcases T.get_puts _ _ _ _ _ hj with ⟨_, a1⟩ | ⟨_, a1⟩
            · have hjl := (List.getElem?_eq_some_iff.1 a1).1
              have hjb : j < bs.data.size := by simpa using hjl
              refine ⟨hjb, v, ?_, ?_⟩
              · rw [← hc]
                simp only [Nat.add_zero]
                rw [Array.getElem?_append_left (by simpa using hjb)]
                simpa using a1
              · simp only [Nat.sub_zero, List.getElem?_map] at a1
                cases hq : bs.data.toList[j]? with
                | none => rw [hq] at a1; simp at a1
                | some q => rw [hq] at a1; simp at a1; subst a1; exact .int _ _
            · simp [T.get_leaf] at a1) rfl (fun b e => by simp only [AO.cells.injEq] at e; subst e; rfl)
          (s' := (s.newAt s.next (T.leaf.puts 0 (bs.data.toList.map fun c => Value.int .u8 c.toNat)) bs.size 1).up 1) rfl rfl (.inl rfl)
        refine ⟨_, .value (.slice (some ⟨w.heap.size, 0, none⟩) bs.size cap), _, _, ?_, .inl rfl, ?_, hR, hE⟩
        · simp [execOp, ho, hxx, convert, run_underlying h1, run_underlying h2, run_underlying hel, hrun]
        · have := VR.slice (r := r.upd s.next ⟨w.heap.size, 0, cap⟩) (i := s.next) (o := 0) (n := bs.size) (c := CB) Rho.upd_same (by rw [sub_cap (Nat.le_refl _)]; simpa using hge)
          rw [sub_cap (Nat.le_refl _)] at this
          simpa using this
      · simp at h
    · simp at h
  · simp at h

end Go.Ev
namespace Go.Ev

variable {P : Program} {G W0 : Nat} {r : Rho} {s : St} {w : World}

theorem EnvR.put {e : Env} {a : Act} {d : Option Tmp} {v v' : Value} (h : EnvR r e a.tmps) (hv : VR r v v') : EnvR r (putE e d v) (a.put d v').tmps := by
  intro t u ht
  obtain ⟨hne, k⟩ := putE_get ht
  rcases k with ⟨rfl, rfl⟩ | ⟨hd, e2⟩
  · cases ho : T.get e t with
    | none => exact absurd ho hne
    | some ov =>
      obtain ⟨ov', h1, _⟩ := h t ov ho
      have hd : t < a.tmps.size := (Array.getElem?_eq_some_iff.1 h1).1
      exact ⟨v', by simp [Act.put, hd], hv⟩
  · obtain ⟨u', h1, h2⟩ := h t u e2
    cases d with
    | none => exact ⟨u', h1, h2⟩
    | some d => exact ⟨u', by simp only [Act.put]; rw [Array.getElem?_setIfInBounds_ne (fun e => hd (by rw [e]))]; exact h1, h2⟩

theorem guard_ok {ops : Array Oper} {e : Env} {a : Act} {o : Oper} {b : Bool} (he : EnvR r e a.tmps) (h : guardOk ops.toList e o = some b) : Region.wanted o (yielded ops a.tmps) = b := by
  unfold guardOk at h
  unfold Region.wanted
  split at h
  · simp only [Option.some.injEq] at h; subst h; rename_i hg; rw [hg]
  · rename_i j want hg
    rw [hg]
    simp only
    split at h
    · rename_i o2 ho2
      have ho2 : ops[j]? = some o2 := by simpa using ho2
      split at h
      · rename_i d hd
        split at h
        · rename_i q hq
          obtain ⟨v', h1, h2⟩ := he _ _ hq
          cases h2
          simp only [Option.some.injEq] at h; subst h
          simp [yielded, ho2, hd, h1]
        · rename_i u hne hq
          obtain ⟨v', h1, h2⟩ := he _ _ hq
          simp only [Option.some.injEq] at h; subst h
          have : yielded ops a.tmps j = none := by
            simp only [yielded, ho2, hd, Option.bind_some, h1]
            cases h2 <;> simp_all
          rw [this]; rfl
        · simp at h
      · rename_i hd
        simp only [Option.some.injEq] at h; subst h
        have : yielded ops a.tmps j = none := by simp [yielded, ho2, hd]
        rw [this]; rfl
    · rename_i ho2
      have ho2 : ops[j]? = none := by simpa using ho2
      simp only [Option.some.injEq] at h; subst h
      have : yielded ops a.tmps j = none := by simp [yielded, ho2]
      rw [this]; rfl

/-! ## the callee -/

theorem fieldSize {f : Field} {n : Nat} (h : sizeOf? P f.type = some (n + 1)) (a : Addr) (w : World) : (fieldPlace a f).run P w = .ok (a.add f.offset) w := by
  obtain ⟨i, hi, hs⟩ := sizeOf?_spec h
  exact fieldPlace_run hi (by omega) a

def PlR (r : Rho) : Value ⊕ (Nat × Nat) → Place → Prop
  | .inl v, .val v' => VR r v v'
  | .inr (i, j), .var a => ∃ l, r i = some l ∧ a = ⟨l.blk, j + l.sh, none⟩
  | _, _ => False

theorem get_sound {t : TypeId} {x : Value ⊕ (Nat × Nat)} {x' : Place} {v : Value} (h : Rel G W0 r s w) (hx : PlR r x x') (hg : aGet P s t x = some v) : ∃ v', (x'.get t).run P w = .ok v' w ∧ VR r v v' := by
  cases x with
  | inl u =>
    cases x' with
    | val u' => simp only [aGet, Option.some.injEq] at hg; subst hg; exact ⟨u', rfl, hx⟩
    | var a => exact hx.elim
  | inr p =>
    obtain ⟨i, j⟩ := p
    cases x' with
    | val u' => exact hx.elim
    | var a =>
      obtain ⟨l, hr, rfl⟩ := hx
      obtain ⟨l2, hr2, v', hv, hrun⟩ := loadVar_sound h hg
      rw [hr] at hr2; simp only [Option.some.injEq] at hr2; subst hr2
      exact ⟨v', hrun w rfl, hv⟩

theorem follow_sound (h : Rel G W0 r s w) : ∀ (path : List FieldStep) (t : TypeId) (x : Value ⊕ (Nat × Nat)) (x' : Place) (t2 : TypeId) (y : Value ⊕ (Nat × Nat)), PlR r x x' → aFollow P s path t x = some (t2, y) →
    ∃ y', (follow path t x').run P w = .ok (t2, y') w ∧ PlR r y y' := by
  intro path
  induction path with
  | nil => intro t x x' t2 y hx hf; simp only [aFollow, Option.some.injEq, Prod.mk.injEq] at hf; obtain ⟨rfl, rfl⟩ := hf; exact ⟨x', rfl, hx⟩
  | cons st rest ih =>
    intro t x x' t2 y hx hf
    simp only [aFollow] at hf
    split at hf
    · rename_i fields hu
      split at hf
      · rename_i f hfld
        split at hf
        · rename_i hderef
          split at hf
          · rename_i i j hp
            split at hf
            · rename_i n hsz
              have : ∃ v', (x'.get t).run P w = .ok v' w ∧ VR r (.pointer (some ⟨i, j, none⟩)) v' := get_sound h hx (by
                cases x with
                | inl u => simpa [aGet] using hp
                | inr p => obtain ⟨a, b⟩ := p; simpa [aGet] using hp)
              obtain ⟨v', h1, h2⟩ := this
              cases h2 with
              | ptr hr =>
                rename_i l
                obtain ⟨y', g1, g2⟩ := ih f.type (.inr (i, j + f.offset)) (.var ⟨l.blk, j + f.offset + l.sh, none⟩) t2 y ⟨l, hr, rfl⟩ hf
                refine ⟨y', ?_, g2⟩
                have hfp := fieldSize hsz ⟨l.blk, j + l.sh, none⟩ w
                rw [add_off] at hfp
                simp only [follow, Sem.run_bind, run_under hu, Result.andThen_ok, hfld, hderef, if_true, h1, asAddr, Sem.run_pure, hfp]
                rw [show j + l.sh + f.offset = j + f.offset + l.sh by omega]
                exact g1
            · simp at hf
          · simp at hf
        · rename_i hderef
          have hderef : st.deref = false := by simpa using hderef
          split at hf
          · rename_i i j
            split at hf
            · rename_i n hsz
              cases x' with
              | val u' => exact hx.elim
              | var a =>
                obtain ⟨l, hr, rfl⟩ := hx
                obtain ⟨y', g1, g2⟩ := ih f.type (.inr (i, j + f.offset)) (.var ⟨l.blk, j + f.offset + l.sh, none⟩) t2 y ⟨l, hr, rfl⟩ hf
                refine ⟨y', ?_, g2⟩
                have hfp := fieldSize hsz ⟨l.blk, j + l.sh, none⟩ w
                rw [add_off] at hfp
                simp only [follow, Sem.run_bind, run_under hu, Result.andThen_ok, hfld, hderef, Bool.false_eq_true, if_false, Sem.run_bind, hfp]
                rw [show j + l.sh + f.offset = j + f.offset + l.sh by omega]
                exact g1
            · simp at hf
          · rename_i cs
            split at hf
            · rename_i v hpart
              cases x' with
              | var a => exact hx.elim
              | val u' =>
                have hx : VR r (.agg cs) u' := hx
                cases hx with
                | agg q1 q2 =>
                  obtain ⟨v', p1, p2⟩ := part_sound hpart (VR.agg_list.1 (VR.agg q1 q2)) w
                  obtain ⟨y', g1, g2⟩ := ih f.type (.inl v) (.val v') t2 y p2 hf
                  refine ⟨y', ?_, g2⟩
                  simp only [follow, Sem.run_bind, run_under hu, Result.andThen_ok, hfld, hderef, Bool.false_eq_true, if_false, Sem.run_bind, p1]
                  exact g1
            · simp at hf
          · simp at hf
      · simp at hf
    · simp at hf

theorem run_wrapnil (xt : TypeId) (a : Addr) (p q : ByteArray) (w : World) : (Builtin.ssaWrapNilChk_ #[xt] xt #[.pointer (some a), .string p, .string q]).run P w = .ok (.pointer (some a)) w := rfl

theorem receiver_sound {t : TypeId} {x : Value ⊕ (Nat × Nat)} {x' : Place} {ptr : Bool} {v : Value} (h : Rel G W0 r s w) (hx : PlR r x x') (hr : aReceiver P s t x ptr = some v) (wr : Option String) :
    ∃ v', (receiverAt t x' ptr wr).run P w = .ok v' w ∧ VR r v v' := by
  unfold aReceiver at hr
  split at hr
  · rename_i el hu
    obtain ⟨v', h1, h2⟩ := get_sound h hx hr
    exact ⟨v', by simp [receiverAt, run_underlying hu, h1], h2⟩
  · rename_i el hu
    split at hr
    · rename_i i j hg
      obtain ⟨p', h1, h2⟩ := get_sound h hx hg
      cases h2 with
      | ptr hri =>
        rename_i l
        obtain ⟨l2, hr2, v', hv, hrun⟩ := loadVar_sound h hr
        rw [hri] at hr2; simp only [Option.some.injEq] at hr2; subst hr2
        refine ⟨v', ?_, hv⟩
        cases wr with
        | none => simp [receiverAt, run_underlying hu, h1, asAddr, hrun w rfl]
        | some nm => simp only [receiverAt, Sem.run_bind, run_under hu, Result.andThen_ok, h1, strVal, run_wrapnil, asAddr, Sem.run_pure, hrun w rfl]
    · simp at hr
  · rename_i d i j hne hu
    cases x' with
    | val _ => exact hx.elim
    | var a =>
      obtain ⟨l, hri, rfl⟩ := hx
      simp only [Option.some.injEq] at hr; subst hr
      refine ⟨.pointer (some ⟨l.blk, j + l.sh, none⟩), ?_, .ptr hri⟩
      cases d <;> first | (exact absurd rfl (hne _)) | simp [receiverAt, run_underlying hu]
  · rename_i d hne hu
    obtain ⟨v', h1, h2⟩ := get_sound h hx hr
    refine ⟨v', ?_, h2⟩
    cases d <;> first | (exact absurd rfl (hne _)) | simp [receiverAt, run_underlying hu, h1]
  · simp at hr

theorem fuel_succ (P : Program) : ∃ n, P.types.size + Made.depth = n + 1 := ⟨P.types.size + 99, by simp [Made.depth]⟩

/-- what a call comes to -/
theorem callee_sound {c : Call} {ty : TypeId} {e : Env} {a : Act} {f : FuncId} {args : List Value} (b : Base P W0 r s w e a) (h : aCallee P c e s = some (f, args)) :
    ∃ args' d, LR r args args' ∧ (resolve a.eval c ty).run P w = .ok d w ∧ (invoke d.target d.args).run P w = (callFunc f args'.toArray).run P w := by
  unfold aCallee at h
  split at h
  · rename_i fo hc
    split at h
    · rename_i g first captured as hf has
      have hf := b.ev hf
      have has := b.evs has
      simp only [Option.some.injEq, Prod.mk.injEq] at h
      obtain ⟨rfl, rfl⟩ := h
      generalize hff : a.eval fo = ff at hf
      cases hf with
      | func q1 q2 q3 q4 =>
        rename_i first' captured'
        have l1 : LR r first.toList first'.toList := LR.of_get (by simpa using q1) fun i v v' x y => q3 i v v' (by simpa using x) (by simpa using y)
        have l2 : LR r captured.toList captured'.toList := LR.of_get (by simpa using q2) fun i v v' x y => q4 i v v' (by simpa using x) (by simpa using y)
        refine ⟨first'.toList ++ c.args.toList.map a.eval ++ captured'.toList, { target := .fn (.func g) captured', args := first' ++ c.args.map a.eval }, (l1.append has).append l2, ?_, ?_⟩
        · simp [resolve, hc, hff, Deferred.ofValue]
        · simp only [invoke]
          congr 2
          apply Array.ext'; simp
    · simp at h
  · rename_i ro name hc
    split at h
    · rename_i t v as hr has
      have hr := b.ev hr
      have has := b.evs has
      split at h
      · rename_i i hi
        split at h
        · rename_i m hm
          split at h
          · rename_i g ptr hg
            split at h
            · rename_i t2 x hfol
              split at h
              · rename_i rv hrv
                simp only [Option.some.injEq, Prod.mk.injEq] at h
                obtain ⟨rfl, rfl⟩ := h
                generalize hrr : a.eval ro = rr at hr
                cases hr with
                | iface _ hv =>
                  rename_i v'
                  obtain ⟨x', f1, f2⟩ := follow_sound b.rel m.path.toList t (.inl v) (.val v') t2 x hv hfol
                  obtain ⟨rv', g1, g2⟩ := receiver_sound b.rel f2 hrv (if m.path.isEmpty then some ((name.splitOn ".").getLastD name) else none)
                  refine ⟨rv' :: c.args.toList.map a.eval, { target := .fn (.method name) #[], args := #[a.eval ro] ++ c.args.map a.eval }, .cons g2 has, by simp [resolve, hc], ?_⟩
                  obtain ⟨n, hn⟩ := fuel_succ P
                  have hmeth : (method (P.types.size + Made.depth) t v' name).run P w = .ok (g, rv') w := by
                    rw [hn]
                    simp only [method, Sem.run_bind, run_typeInfo hi, Result.andThen_ok, hm, f1, hg, g1, Sem.run_pure]
                  have h0 : (#[Value.iface t v'] ++ c.args.map a.eval)[0]? = some (.iface t v') := by rw [Array.getElem?_append_left (by simp)]; rfl
                  simp only [invoke, hrr, h0, callMethod, program, Sem.run_bind, Sem.run, Result.andThen_ok, hmeth]
                  congr 2
                  apply Array.ext'; simp; exact List.take_of_length_le (by simp)
              · simp at h
            · simp at h
          · simp at h
        · simp at h
      · simp at h
    · simp at h
  · simp at h

def resOne (tmps : Array Value) : ResultVar → Sem Value
  | .tmp t => pure (tmps.getD t undef)
  | .cell a t => do loadVar t (← asAddr (tmps.getD a undef))

theorem results_eq (fn : Func) (tmps : Array Value) : results fn tmps = (do let vs ← fn.results.mapM (resOne tmps); pure (if h : vs.size = 1 then vs[0] else .tuple vs)) := by
  unfold results
  have : (fun | .tmp t => pure (tmps.getD t undef) | .cell a t => do loadVar t (← asAddr (tmps.getD a undef)) : ResultVar → Sem Value) = resOne tmps := by
    funext x; cases x <;> rfl
  rw [← this]
  rfl

theorem asAddr_run (a : Addr) (w : World) : (asAddr (.pointer (some a))).run P w = .ok a w := rfl

theorem results_sound {fn : Func} {e : Env} {tmps : Array Value} {vs : List Value} (h : Rel G W0 r s w) (he : EnvR r e tmps) (hr : aResults P fn.results.toList e s = some vs) :
    ∃ v', (results fn tmps).run P w = .ok v' w ∧ VR r (oneOf vs) v' := by
  have key : ∀ (l : List ResultVar) (vs : List Value), aResults P l e s = some vs → ∃ vs', (l.mapM (resOne tmps)).run P w = .ok vs' w ∧ LR r vs vs' := by
    intro l
    induction l with
    | nil => intro vs h; simp only [aResults, Option.some.injEq] at h; subst h; exact ⟨[], by simp, .nil⟩
    | cons x l ih =>
      intro vs hx
      cases x with
      | tmp t =>
        simp only [aResults] at hx
        split at hx
        · rename_i v hv
          cases hl : aResults P l e s with
          | none => rw [hl] at hx; simp at hx
          | some vs2 =>
            rw [hl] at hx; simp only [Option.map_some, Option.some.injEq] at hx; subst hx
            obtain ⟨vs', g1, g2⟩ := ih _ hl
            obtain ⟨v', h1, h2⟩ := he _ _ hv
            refine ⟨v' :: vs', ?_, .cons h2 g2⟩
            simp only [List.mapM_cons, resOne, Sem.run_bind, Sem.run_pure, Result.andThen_ok, g1]
            simp [h1]
        · simp at hx
      | cell at_ t =>
        simp only [aResults] at hx
        split at hx
        · rename_i i j hp
          split at hx
          · rename_i v hv
            cases hl : aResults P l e s with
            | none => rw [hl] at hx; simp at hx
            | some vs2 =>
              rw [hl] at hx; simp only [Option.map_some, Option.some.injEq] at hx; subst hx
              obtain ⟨vs', g1, g2⟩ := ih _ hl
              obtain ⟨p', h1, h2⟩ := he _ _ hp
              obtain ⟨lc, hlc, v', hvr, hrun⟩ := loadVar_sound h hv
              cases h2 with
              | ptr hr2 =>
                rw [hlc] at hr2; simp only [Option.some.injEq] at hr2; subst hr2
                refine ⟨v' :: vs', ?_, .cons hvr g2⟩
                have hget : tmps.getD at_ undef = .pointer (some ⟨lc.blk, j + lc.sh, none⟩) := by simp [h1]
                simp only [List.mapM_cons, resOne, Sem.run_bind, Sem.run_pure, Result.andThen_ok, g1, hget, asAddr_run, hrun w rfl]
          · simp at hx
        · simp at hx
  obtain ⟨vs', g1, g2⟩ := key _ _ hr
  have hrun : (fn.results.mapM (resOne tmps)).run P w = .ok vs'.toArray w := by
    rw [Array.mapM_eq_mapM_toList]
    simp only [Sem.run_map]
    rw [g1]; rfl
  rw [results_eq]
  simp only [Sem.run_bind]
  rw [hrun]
  simp only [Result.andThen_ok, Sem.run_pure]
  refine ⟨_, rfl, ?_⟩
  cases g2 with
  | nil => exact VR.tuple_list.2 (by simpa using LR.nil)
  | cons h1 h2 => cases h2 with
    | nil => simpa [oneOf] using h1
    | cons h3 h4 =>
      have : ∀ v l, ¬ ((v :: l : List Value).toArray.size = 1) ↔ l ≠ [] := by intro v l; cases l <;> simp
      rw [dif_neg (by simp)]
      exact VR.tuple_list.2 (by simpa [oneOf] using LR.cons h1 (.cons h3 h4))

end Go.Ev
namespace Go.Ev

variable {P : Program} {G W0 : Nat} {r : Rho} {s : St} {w : World}

theorem next_clone : Extern.allNextRows.lookup "maps.clone" = none := by kernel_rfl
theorem next_empty : Extern.allNextRows.lookup "" = none := by kernel_rfl
theorem next_index : Extern.allNextRows.lookup "internal/bytealg.IndexByteString" = none := by kernel_rfl
theorem gen_clone : Extern.allGenericRows.lookup "maps.clone" = none := by kernel_rfl
theorem gen_index : Extern.allGenericRows.lookup "internal/bytealg.IndexByteString" = none := by kernel_rfl
theorem typed_clone : Extern.allTypedRows.lookup "maps.clone" = none := by kernel_rfl
theorem typed_index : Extern.allTypedRows.lookup "internal/bytealg.IndexByteString" = none := by kernel_rfl
theorem row_clone : Extern.allRows.lookup "maps.clone" = some Extern.MapsClone.clone := by kernel_rfl
theorem row_index : Extern.allRows.lookup "internal/bytealg.IndexByteString" = some Extern.BytealgIndexByte.indexByte := by kernel_rfl

theorem callX_run {f : FuncId} {fn : Func} {e : Array Value → Sem Value} {args : Array Value} (hf : P.funcs[f]? = some fn) (hb : fn.body.isNone = true) (hn : (fn.name == "runtime.NumGoroutine") = false)
    (h1 : Extern.findNext fn = none) (h2 : Extern.find fn = some e) : (callFunc f args).run P w = ((e args).run P w).andThen fun v w' => .ok (.value v) w' := by
  simp only [callFunc, program, Sem.run_bind, Sem.run, Result.andThen_ok, hf, hn, Bool.false_eq_true, if_false, hb, if_true, mark, h1, h2, Sem.run_pure]

theorem callX_sound {f : FuncId} {args args' : List Value} {v : Value} {s' : St} (h : Rel G W0 r s w) (ha : LR r args args') (hx : aCallX P f args s = some (v, s')) :
    ∃ r' v' w', (callFunc f args'.toArray).run P w = .ok (.value v') w' ∧ VR r' v v' ∧ Rel G W0 r' s' w' ∧ Ext r s w r' s' w' := by
  unfold aCallX at hx
  split at hx
  · rename_i fn hf
    cases hb : fn.body.isNone with
    | false => rw [hb, cond_false] at hx; simp at hx
    | true =>
      rw [hb, cond_true] at hx
      unfold aExtern at hx
      split at hx
      · simp at hx
      · rename_i horigin
        have horigin : fn.origin = "" := by simpa using horigin
        split at hx
        · rename_i hname
          split at hx
          · rename_i t rr
            split at hx
            · rename_i es ck hg
              simp only [Option.some.injEq, Prod.mk.injEq] at hx
              obtain ⟨rfl, rfl⟩ := hx
              have h1 : Extern.findNext fn = none := by simp [Extern.findNext, hname, horigin, next_clone, next_empty]
              have h2 : Extern.find fn = some Extern.MapsClone.clone := by simp [Extern.find, hname, gen_clone, typed_clone, row_clone]
              have hrun := fun args w => callX_run (P := P) (w := w) (args := args) hf hb (by rw [hname]; rfl) h1 h2
              obtain ⟨x', rfl, hx1⟩ := ha.one
              cases hx1 with
              | iface _ hm =>
                cases hm with
                | map hr =>
                  rename_i l
                  obtain ⟨es', hh, her, hW⟩ := map_obj h hg hr
                  have hdom := h.dom s.next (Nat.le_refl _)
                  obtain ⟨hR, hE⟩ := h.newAny (i := s.next) (k := 1) (cap := 0) (o := .map es ck) (obj := .map es' ck) (w1 := w.alloc (.map es' ck)) hdom (by omega) (by omega) rfl rfl rfl rfl
                    ⟨h.base, es', (alloc_get w _ _).trans (if_pos rfl), her.mono (Rho.le_upd hdom)⟩ rfl (fun b e => by simp at e) (s' := (s.objAt s.next (.map es ck)).up 1) rfl rfl (.inr ⟨rfl, by simp⟩)
                  refine ⟨_, .iface t (.map (some w.heap.size)), _, ?_, .iface t (.map Rho.upd_same), hR, hE⟩
                  rw [hrun]
                  have hc : (Extern.MapsClone.clone #[.iface t (.map (some l.blk))]).run P w = .ok (.iface t (.map (some w.heap.size))) (w.alloc (.map es' ck)) := by
                    change ((do
                      let .map entries clock ← getObj l.blk | stuck "maps.clone: a map expected"
                      pure (.iface t (.map (some (← newObj (.map entries clock)))))) : Sem Value).run P w = _
                    simp [run_getObj (P := P) hh (by simp)]
                  change ((Extern.MapsClone.clone #[.iface t (.map (some l.blk))]).run P w).andThen _ = _
                  rw [hc]; rfl
            · simp at hx
          · simp at hx
        · split at hx
          · rename_i _ hname
            have h1 : Extern.findNext fn = none := by simp [Extern.findNext, hname, horigin, next_index, next_empty]
            have h2 : Extern.find fn = some Extern.BytealgIndexByte.indexByte := by simp [Extern.find, hname, gen_index, typed_index, row_index]
            have hrun := fun args w => callX_run (P := P) (w := w) (args := args) hf hb (by rw [hname]; rfl) h1 h2
            split at hx
            · rename_i bs c
              obtain ⟨x', y', rfl, hx1, hy1⟩ := ha.two
              cases hx1
              cases hy1
              have hq : ∀ q, (List.range bs.size).find? (fun i => bs[i]! == c.toNat.toUInt8) = q →
                  (callFunc f #[.string bs, .int .u8 c]).run P w = .ok (.value (match q with | some i => .int .i64 i | none => .int .i64 (-1))) w := by
                intro q hq
                rw [hrun]
                have hc : (Extern.BytealgIndexByte.indexByte #[.string bs, .int .u8 c]).run P w = .ok (match q with | some i => .int .i64 i | none => .int .i64 (-1)) w := by
                  change ((do
                    let b ← Extern.Bytes.bytesOf (.string bs)
                    let c ← Extern.Bytes.asByte (.int .u8 c)
                    match (List.range b.size).find? fun i => b[i]! == c with
                    | some i => pure (goInt i)
                    | none => pure (goInt (-1))) : Sem Value).run P w = _
                  simp only [Extern.Bytes.bytesOf, Extern.Bytes.asByte, Sem.run_bind, Sem.run_pure, Result.andThen_ok, hq]
                  cases q <;> simp [goInt]
                rw [hc]; cases q <;> rfl
              split at hx
              · rename_i i hi
                simp only [Option.some.injEq, Prod.mk.injEq] at hx
                obtain ⟨rfl, rfl⟩ := hx
                exact ⟨r, _, w, hq _ hi, .int _ _, h, .refl _ _ _⟩
              · rename_i hi
                simp only [Option.some.injEq, Prod.mk.injEq] at hx
                obtain ⟨rfl, rfl⟩ := hx
                exact ⟨r, _, w, hq _ hi, .int _ _, h, .refl _ _ _⟩
            · simp at hx
          · simp at hx
  · simp at hx

end Go.Ev
