/- What the evaluator gives is what the model does. -/
import Derived.Test.YtocplhpfndgagaaGreatDoorEvDraw
namespace Go.Ev

variable {P : Program} {M : Orc} {G W0 : Nat} {r : Rho} {s : St} {w : World}

/-- an object that is no row of cells is known no more -/
theorem Rel.gone (h : Rel G W0 r s w) {i : Nat} {o : AO} {l : Loc} {obj : Obj} (hg : s.h.get i = some o) (hr : r i = some l) (hno : ∀ b, o ≠ .cells b)
    : Rel G W0 r { s with h := s.h.put i none } (World.setObj w l.blk obj) ∧ Ext r s w r { s with h := s.h.put i none } (World.setObj w l.blk obj) := by
  obtain ⟨l0, a, ok0⟩ := h.obj i o hg
  rw [hr] at a; simp only [Option.some.injEq] at a; subst a
  have hlt := ok0.blk_lt
  have hwo : o.wr = true := by cases o with | cells b => exact absurd rfl (hno b) | _ => rfl
  have hget := fun x => setObj_get w l.blk x obj hlt
  have hnr : ∀ c e fz, w.heap[l.blk]? ≠ some (.cells c e fz) := by
    intro c e fz hc
    cases o with
    | cells b => exact hno b rfl
    | map es ck => obtain ⟨_, es', q, _⟩ := ok0; rw [q] at hc; simp at hc
    | iter t p => have := ok0.2.2; rw [this] at hc; simp at hc
    | loop e ps as b st pd => obtain ⟨_, fn, tm, df, q, _⟩ := ok0; rw [q] at hc; simp at hc
    | marks => have := ok0.2; rw [this] at hc; simp at hc
  have key : ∀ z oz, (s.h.put i none).get z = some oz → z ≠ i ∧ s.h.get z = some oz := by
    intro z oz hz
    rcases T.get_put _ _ _ _ _ hz with ⟨_, e2⟩ | e
    · simp at e2
    · exact e
  constructor
  · refine { glob := h.glob, dom := h.dom, base := by simpa [World.setObj] using h.base, obj := ?_, alias := ?_, mem := ?_, clsd := ?_ }
    · intro x ox hx
      obtain ⟨e1, e2⟩ := key x ox hx
      obtain ⟨lx, ax, okx⟩ := h.obj x ox e2
      refine ⟨lx, ax, okx.of_heap (.refl r) ?_⟩
      rw [hget, if_neg]
      intro hbl
      by_cases hwx : ox.wr = true
      · obtain ⟨bi, bj, _, ej, _⟩ := h.alias x i ox o lx l e2 hg hwx hwo ax hr e1 hbl
        exact hno bj ej
      · cases ox with
        | cells b => obtain ⟨c, e, fz, q, _⟩ := okx; rw [hbl] at q; exact hnr _ _ _ q
        | _ => exact hwx rfl
    · intro x y ox oy lx ly hx hy wx wy rx ry hne hbl
      exact h.alias x y ox oy lx ly (key x ox hx).2 (key y oy hy).2 wx wy rx ry hne hbl
    · intro x b hx hw m hm
      exact h.mem x b (key x _ hx).2 hw m hm
    · intro x b hx hw
      exact h.clsd x b (key x _ hx).2 hw
  · refine ⟨.refl r, Nat.le_refl _, by simp [World.setObj], rfl, rfl, rfl, fun _ _ h => h, fun x hx hp => ⟨?_, ?_⟩⟩
    · rw [hget, if_neg (fun e => hp i o l hg hwo hr e.symm)]
    · intro y oy ly hy hw hry
      exact hp y oy ly (key y oy hy).2 hw hry

theorem run_getLoop {l : Nat} {L : Loop} (h : w.heap[l]? = some (.loop L)) : (Instr.getLoop l).run P w = .ok L w := by
  simp [Instr.getLoop, Sem.run_bind, run_getObj (P := P) h (by simp)]

theorem run_endLoop {l : Nat} {L : Loop} (h : w.heap[l]? = some (.loop L)) (hb : L.state ≠ .busy) : (Instr.endLoop l).run P w = .ok L.pending (World.setObj w l (.loop { L with state := .exhausted })) := by
  have hb' : (L.state == LoopState.busy) = false := by cases hs : L.state <;> first | rfl | exact absurd hs hb
  simp [Instr.endLoop, Sem.run_bind, run_getLoop h, run_setObj (P := P) h (by simp)]
  exact fun e => absurd e hb

theorem run_beginRound {l : Nat} {L : Loop} (h : w.heap[l]? = some (.loop L)) (hs : L.state = .ready) : (Instr.beginRound l).run P w = .ok () (World.setObj w l (.loop { L with state := .busy })) := by
  simp [Instr.beginRound, Sem.run_bind, run_getLoop h, run_setObj (P := P) h (by simp), hs]

theorem run_endRound {l : Nat} {L : Loop} {j : Option Code} (h : w.heap[l]? = some (.loop L)) : (Instr.endRound l j).run P w = .ok (.bool j.isNone) (World.setObj w l (.loop { L with state := if j.isNone then .ready else .done, pending := j })) := by
  simp [Instr.endRound, Sem.run_bind, run_getLoop h, run_setObj (P := P) h (by simp)]

theorem run_takeDeferred {l : Nat} (h : w.heap[l]? = some (.deferred (some []))) : (Instr.takeDeferred l).run P w = .ok [] (World.setObj w l (.deferred none)) := by
  simp [Instr.takeDeferred, Sem.run_bind, run_getObj (P := P) h (by simp), run_setObj (P := P) h (by simp)]

theorem run_enterLoop {fn : FuncId} {tmps : Array Value} {ps : Array Tmp} {assign body : Code} : (Instr.enterLoop fn tmps ps assign body none).run P w =
    .ok (w.heap.size + 1, [{ target := .collected w.heap.size, args := #[] }]) ((w.alloc (.deferred (some []))).alloc (.loop { state := .ready, pending := none, fn := fn, tmps := tmps, params := ps, assign := assign, body := body, defers := w.heap.size })) := by
  simp [Instr.enterLoop, Sem.run_bind]

/-- a loop's record and its block are laid -/
theorem enter_rel (h : Rel G W0 r s w) {e : Env} {tmps : Array Value} (he : EnvR r e tmps) {fn : FuncId} {ps : Array Tmp} {assign body : Code} :
    let w1 := (w.alloc (.deferred (some []))).alloc (.loop { state := .ready, pending := none, fn := fn, tmps := tmps, params := ps, assign := assign, body := body, defers := w.heap.size })
    ∃ r1, r1 s.next = some ⟨w.heap.size, 0, 0⟩ ∧ r1 (s.next + 1) = some ⟨w.heap.size + 1, 0, 0⟩ ∧ Rel G W0 r1 (s.enter e ps assign body) w1 ∧ Ext r s w r1 (s.enter e ps assign body) w1 := by
  intro w1
  have h0 : r s.next = none := h.dom _ (Nat.le_refl _)
  obtain ⟨hR, hE⟩ := h.newAny (i := s.next) (k := 1) (cap := 0) (o := .marks) (obj := .deferred (some [])) (w1 := w.alloc (.deferred (some []))) h0 (Nat.le_refl _) (by omega) rfl rfl rfl rfl
    ⟨h.base, by rw [alloc_get, if_pos rfl]⟩ rfl (fun b e => by simp at e) (s' := { h := s.h.put s.next (some .marks), next := s.next + 1, cl := s.cl }) rfl rfl (.inr ⟨rfl, fun b e => by simp at e⟩)
  have hsz : (w.alloc (.deferred (some []))).heap.size = w.heap.size + 1 := by unfold World.alloc; simp
  have h1 : (r.upd s.next ⟨w.heap.size, 0, 0⟩) (s.next + 1) = none := hR.dom _ (Nat.le_refl _)
  have hle := Rho.le_upd (l := ⟨(w.alloc (.deferred (some []))).heap.size, 0, 0⟩) h1
  obtain ⟨hR2, hE2⟩ := hR.newAny (i := s.next + 1) (k := 1) (cap := 0) (o := .loop e ps assign body .ready none)
    (obj := .loop { state := .ready, pending := none, fn := fn, tmps := tmps, params := ps, assign := assign, body := body, defers := w.heap.size }) (w1 := w1) h1 (Nat.le_refl _) (by show s.next + 1 < s.next + 1 + 1; omega) rfl rfl rfl rfl
    ⟨hR.base, fn, tmps, w.heap.size, by rw [alloc_get, if_pos rfl], fun t v hv => by
      obtain ⟨v', x, y⟩ := he t v hv
      exact ⟨v', x, (y.mono hE.le).mono hle⟩⟩ rfl (fun b e => by simp at e) (s' := s.enter e ps assign body) rfl rfl (.inr ⟨rfl, fun b e => by simp at e⟩)
  refine ⟨_, ?_, ?_, hR2, hE.trans hE2⟩
  · exact hle _ _ Rho.upd_same
  · rw [Rho.upd_same, hsz]

theorem putTmps_env : ∀ (l : List (Tmp × Value)) (l' : List (Tmp × Value)) (e : Env) (tmps : Array Value), l.map (·.1) = l'.map (·.1) → LR r (l.map (·.2)) (l'.map (·.2)) → EnvR r e tmps →
    EnvR r (putTmps e l) (l'.foldl (fun tmps p => tmps.setIfInBounds p.1 p.2) tmps) := by
  intro l
  induction l with
  | nil =>
    intro l' e tmps h1 h2 he
    cases l' with
    | nil => exact he
    | cons _ _ => simp at h1
  | cons p l ih =>
    intro l' e tmps h1 h2 he
    cases l' with
    | nil => simp at h1
    | cons p' l' =>
      simp only [List.map_cons, List.cons.injEq] at h1
      cases h2 with
      | cons q qs =>
        refine ih l' _ _ h1.2 qs ?_
        have := EnvR.put (d := some p.1) (a := { tmps := tmps, defers := [] }) he q
        show EnvR r (putE e (some p.1) p.2) (tmps.setIfInBounds p'.1 p'.2)
        rw [← h1.1]
        exact this

theorem LR.snoc3 {a a' b b' : List Value} {x x' : Value} (h1 : LR r a a') (h2 : VR r x x') (h3 : LR r b b') : LR r (a ++ [x] ++ b) (a' ++ [x'] ++ b') := (h1.append (.cons h2 .nil)).append h3


theorem zip_fst {α β : Type} : ∀ {l : List α} {m : List β}, l.length = m.length → (l.zip m).map (·.1) = l
  | [], [], _ => rfl
  | x :: l, y :: m, h => by simp only [List.zip_cons_cons, List.map_cons]; rw [zip_fst (by simpa using h)]
  | [], _ :: _, h => by simp at h
  | _ :: _, [], h => by simp at h
theorem zip_snd {α β : Type} : ∀ {l : List α} {m : List β}, l.length = m.length → (l.zip m).map (·.2) = m
  | [], [], _ => rfl
  | x :: l, y :: m, h => by simp only [List.zip_cons_cons, List.map_cons]; rw [zip_snd (by simpa using h)]
  | [], _ :: _, h => by simp at h
  | _ :: _, [], h => by simp at h

theorem arr_zip_foldl (ps : Array Tmp) (args : Array Value) (tmps : Array Value) :
    (ps.zip args).foldl (fun tmps x => tmps.setIfInBounds x.1 x.2) tmps = (ps.toList.zip args.toList).foldl (fun tmps p => tmps.setIfInBounds p.1 p.2) tmps := by
  rw [← Array.foldl_toList, Array.toList_zip]

theorem run_yield {l : Nat} {L : Loop} {args : Array Value} (h : w.heap[l]? = some (.loop L)) (hn : args.size = L.params.size) : (Instr.yield l args).run P w =
    .ok (.round l L.fn ((L.params.toList.zip args.toList).foldl (fun tmps p => tmps.setIfInBounds p.1 p.2) L.tmps) L.assign L.body) w := by
  rw [← arr_zip_foldl]
  simp [Instr.yield, Sem.run_bind, run_getLoop h, hn]

/-- one round of a range over a function -/
theorem round_sound {fuel : Nat} (IH : ∀ n, n ≤ fuel → ∀ (t : Task) (s : St) (res : Res), run P M n t s = some res → Sound P W0 n t s res) {i : Nat} {args : List Value} {v : Value} {s s' : St}
    (h : run P M (fuel + 1) (.round i args) s = some (.ret v s')) : Sound P W0 (fuel + 1) (.round i args) s (.ret v s') := by
  simp only [run_succ, stepT] at h
  split at h
  · rename_i e ps assign body hobj
    cases hcm : (calmC assign && calmC body && Nat.beq args.length ps.size) with
    | false => rw [hcm, cond_false] at h; simp at h
    | true =>
      rw [hcm, cond_true] at h
      simp only [Bool.and_eq_true] at hcm
      obtain ⟨⟨hca, hcb⟩, hlen⟩ := hcm
      have hlen := Nat.eq_of_beq_eq_true hlen
      split at h
      · rename_i a1 s1 hx1
        have h1 := IH fuel (Nat.le_refl _) _ _ _ hx1
        split at h
        · rename_i e1 ps1 as1 b1 hobj1
          split at h
          · rename_i o a2 s2 hx2
            have h2 := IH fuel (Nat.le_refl _) _ _ _ hx2
            split at h
            · rename_i e2 ps2 as2 b2 hobj2
              intro r w args' l hr hR hL
              obtain ⟨l0, q0, hW, fn, tmps, df, hblk, henv⟩ := hR.obj i _ hobj
              rw [hr] at q0; simp only [Option.some.injEq] at q0; subst q0
              have hlen' : args'.length = ps.size := by rw [← hL.length]; exact hlen
              refine ⟨fn, _, assign, body, run_yield hblk (by simpa using hlen'), ?_⟩
              have hE0 : EnvR r (putTmps e (ps.toList.zip args)) ((ps.toList.zip args').foldl (fun tmps p => tmps.setIfInBounds p.1 p.2) tmps) := by
                refine putTmps_env _ _ _ _ ?_ ?_ henv
                · rw [zip_fst (by simpa using hlen.symm), zip_fst (by simpa using hlen'.symm)]
                · rw [zip_snd (by simpa using hlen.symm), zip_snd (by simpa using hlen'.symm)]; exact hL
              refine roundIn_of_wpIn (F := Fence.wide) trivial ?_
              have k1 := (h1 (some l.blk) r w ⟨_, []⟩ (.inr hca) hR ⟨hE0, .nil⟩).wp
              refine Code.wpIn_mono (fun ex c w1 hp => ?_) k1
              obtain ⟨r1, hex, hA1, hR1, hE1⟩ := hp
              have hex : ex = .normal := hex
              subst hex
              have hr1 := hE1.le _ _ hr
              obtain ⟨l1, p0, hW1, fn1, tmps1, df1, hblk1, henv1⟩ := hR1.obj i _ hobj1
              rw [hr1] at p0; simp only [Option.some.injEq] at p0; subst p0
              have hlt1 := (Array.getElem?_eq_some_iff.1 hblk1).1
              refine ⟨_, run_beginRound hblk1 rfl, ?_⟩
              obtain ⟨hRb, hEb⟩ := hR1.turn (o' := .loop e1 ps1 as1 b1 .busy none) (obj := .loop { state := .busy, pending := none, fn := fn1, tmps := tmps1, params := ps1, assign := as1, body := b1, defers := df1 }) hobj1 hr1 (by simp) (by simp)
                ⟨hW1, fn1, tmps1, df1, by rw [setObj_get _ _ _ _ hlt1, if_pos rfl], henv1⟩
              have k2 := (h2 (some l.blk) r1 _ c (.inr hcb) hRb hA1).wp
              refine Code.wpIn_mono (fun ex c2 w2 hp => ?_) k2
              obtain ⟨r2, hex, hA2, hR2, hE2⟩ := hp
              have hr2 := hE2.le _ _ hr1
              obtain ⟨l2, p0, hW2, fn2, tmps2, df2, hblk2, henv2⟩ := hR2.obj i _ hobj2
              rw [hr2] at p0; simp only [Option.some.injEq] at p0; subst p0
              have hlt2 := (Array.getElem?_eq_some_iff.1 hblk2).1
              have hEE := (hE1.trans hEb).trans hE2
              have fin : ∀ (st : LoopState) (j : Option Code), (if j.isNone then LoopState.ready else LoopState.done) = st → some (Res.ret (.bool j.isNone) { s2 with h := s2.h.put i (some (.loop e2 ps2 as2 b2 st j)) }) = some (Res.ret v s') →
                  ∃ u w', (Instr.endRound l.blk j).run P w2 = .ok u w' ∧ CallPost P W0 r s w (.ret v s') (.returned u) w' := by
                intro st j hst heq
                simp only [Option.some.injEq] at heq
                rw [← heq]
                obtain ⟨hRz, hEz⟩ := hR2.turn (o' := .loop e2 ps2 as2 b2 st j) (obj := .loop { state := st, pending := j, fn := fn2, tmps := tmps2, params := ps2, assign := as2, body := b2, defers := df2 }) hobj2 hr2 (by simp) (by simp)
                  ⟨hW2, fn2, tmps2, df2, by rw [setObj_get _ _ _ _ hlt2, if_pos rfl], henv2⟩
                refine ⟨_, _, run_endRound hblk2, r2, _, rfl, .bool _, ?_, ?_⟩
                · simp only [hst]; exact hRz
                · simp only [hst]; exact hEE.trans hEz
              cases o with
              | normal => have hex : ex = .normal := hex; subst hex; exact fin .ready none rfl h
              | ret => have hex : ex = .ret := hex; subst hex; exact fin .done (some .ret) rfl h
              | exit j => have hex : ex = .exit j := hex; subst hex; exact fin .done (some (.exit j)) rfl h
              | panic v => simp [roundEnd] at h
            · simp at h
          · simp at h
        · simp at h
      · simp at h
  · simp at h


/-- a range over a function -/
theorem range_sound {fuel : Nat} (IH : ∀ n, n ≤ fuel → ∀ (t : Task) (s : St) (res : Res), run P M n t s = some res → Sound P W0 n t s res) {g : Operand} {ps : Array Tmp} {assign body : Code} {a : Act'} {s : St} {res : Res}
    (h : run P M (fuel + 1) (.code (.rangeFunc g ps assign body) a) s = some res) : Sound P W0 (fuel + 1) (.code (.rangeFunc g ps assign body) a) s res := by
  simp only [run_succ, stepT] at h
  cases hcm : (calmC assign && calmC body) with
  | false => rw [hcm, cond_false] at h; simp at h
  | true =>
    rw [hcm, cond_true] at h
    split at h
    · rename_i f first cap hg
      split at h
      · rename_i v2 s2 hx
        have h1 := IH fuel (Nat.le_refl _) _ _ _ hx
        obtain ⟨hen, hcall⟩ := h1
        split at h
        · rename_i e2 ps2 as2 b2 st pend hobj
          cases res with
          | done o a' s' =>
            intro ρ r w act hc hR hA
            have hρ : ρ = none := by
              rcases hc with hc | hc
              · exact hc
              · simp [calmC] at hc
            subst hρ
            show (Code.rangeFunc g ps assign body).wpIn (FW none) 0 P (Post P W0 r s w o a' s') act w
            refine wpIn_rangeFunc fun fn _ => ?_
            obtain ⟨r1, q1, q2, hR1, hE1⟩ := enter_rel hR hA.env (fn := fn) (ps := ps) (assign := assign) (body := body)
            have hv := ev_sound hR.glob hA.env hg
            generalize hcc : act.eval g = cc at hv
            cases hv with
            | func p1 p2 p3 p4 =>
              rename_i first' cap'
              have l1 : LR r1 first.toList first'.toList := LR.mono hE1.le (LR.of_get (by simpa using p1) fun i v v' x y => p3 i v v' (by simpa using x) (by simpa using y))
              have l2 : LR r1 cap.toList cap'.toList := LR.mono hE1.le (LR.of_get (by simpa using p2) fun i v v' x y => p4 i v v' (by simpa using x) (by simpa using y))
              have hL : LR r1 (first.toList ++ [.func (.yield (s.next + 1)) ⟨[]⟩ ⟨[]⟩] ++ cap.toList) (first'.toList ++ [.func (.yield (w.heap.size + 1)) ⟨[]⟩ ⟨[]⟩] ++ cap'.toList) := LR.snoc3 l1 (.yield q2) l2
              have hcalls := hcall r1 _ _ hR1 hL
              have e1 : (first'.toList ++ [Value.func (.yield (w.heap.size + 1)) ⟨[]⟩ ⟨[]⟩] ++ cap'.toList).toArray = first' ++ #[Value.func (.yield (w.heap.size + 1)) #[] #[]] ++ cap' := by apply Array.ext'; simp
              rw [e1] at hcalls
              refine ⟨w.heap.size + 1, [{ target := .collected w.heap.size, args := #[] }], _, { target := .fn (.func f) cap', args := first' ++ #[Value.func (.yield (w.heap.size + 1)) #[] #[]] }, _, f, _, _, run_enterLoop, ?_, fun _ _ => trivial, hen _ _, FW_depth, callsIn_FW (hcalls.mono fun e w3 he => ?_)⟩
              · have hce : ∀ v, act.eval (.const v) = v := fun _ => rfl
                simp [resolve, hcc, hce, Deferred.ofValue]
              · obtain ⟨r2, v', rfl, _, hR2, hE2⟩ := he
                have hr2 := hE2.le _ _ q2
                obtain ⟨l0, p0, hW, fn2, tmps2, df2, hblk, henv⟩ := hR2.obj _ _ hobj
                rw [hr2] at p0; simp only [Option.some.injEq] at p0; subst p0
                obtain ⟨hR3, hE3⟩ := hR2.gone (obj := .loop { state := .exhausted, pending := pend, fn := fn2, tmps := tmps2, params := ps2, assign := as2, body := b2, defers := df2 }) hobj hr2 (by simp)
                have hEE := (hE1.trans hE2).trans hE3
                have hA3 : ActR r2 { a with d := ⟨0, [], some s.next⟩ :: a.d } { act with defers := [{ target := .collected w.heap.size, args := #[] }] ++ act.defers } :=
                  ⟨hA.env.mono (hE1.le.trans hE2.le), .cons (.inr ⟨s.next, _, rfl, hE2.le _ _ q1, rfl⟩) (hA.d.mono (hE1.le.trans hE2.le))⟩
                unfold rangeEnd at h
                split at h
                · simp only [Option.some.injEq, Res.done.injEq] at h
                  obtain ⟨rfl, rfl, rfl⟩ := h
                  exact ⟨none, _, run_endLoop hblk (by simp), r2, rfl, hA3, hR3, hEE⟩
                · simp only [Option.some.injEq, Res.done.injEq] at h
                  obtain ⟨rfl, rfl, rfl⟩ := h
                  exact ⟨some .ret, _, run_endLoop hblk (by simp), wpIn_ret ⟨r2, rfl, hA3, hR3, hEE⟩⟩
                · simp only [Option.some.injEq, Res.done.injEq] at h
                  obtain ⟨rfl, rfl, rfl⟩ := h
                  exact ⟨some (.exit _), _, run_endLoop hblk (by simp), wpIn_exit ⟨r2, rfl, hA3, hR3, hEE⟩⟩
                · simp at h
          | _ => trivial
        · simp at h
      · simp at h
    · simp at h

end Go.Ev
namespace Go.Ev

variable {P : Program} {M : Orc} {W0 : Nat}

theorem calm_l {ρ : Option Nat} {x y : Bool} (h : ρ = none ∨ (x && y) = true) : ρ = none ∨ x = true := h.imp id fun h => by simp only [Bool.and_eq_true] at h; exact h.1
theorem calm_r {ρ : Option Nat} {x y : Bool} (h : ρ = none ∨ (x && y) = true) : ρ = none ∨ y = true := h.imp id fun h => by simp only [Bool.and_eq_true] at h; exact h.2
theorem calm_hd {ρ : Option Nat} {o : Oper} {l : List Oper} (h : ρ = none ∨ ((o :: l).all fun o => calmO o.op) = true) : ρ = none ∨ calmO o.op = true := calm_l h
theorem calm_tl {ρ : Option Nat} {o : Oper} {l : List Oper} (h : ρ = none ∨ ((o :: l).all fun o => calmO o.op) = true) : ρ = none ∨ (l.all fun o => calmO o.op) = true := calm_r h

theorem wpList_post_mono {ρ : Option Nat} {ops : Array Oper} {Q Q' : Exit → Act → World → Prop} (hq : ∀ e a w, Q e a w → Q' e a w) : ∀ (l : List Oper) (a : Act) (w : World), wpListIn (FW ρ) 0 P ops Q l a w → wpListIn (FW ρ) 0 P ops Q' l a w := by
  intro l
  induction l with
  | nil => intro a w h; exact hq _ _ _ h
  | cons o l ih =>
    intro a w h
    unfold wpListIn at h ⊢
    split
    · rename_i hw
      rw [if_pos hw] at h
      obtain ⟨h1, h⟩ := h
      refine ⟨h1, ?_⟩
      generalize (o.semAt (FW ρ).round a.eval).run P w = res at h ⊢
      cases res with
      | ok n w' =>
        cases n <;> simp only [Oper.uponIn] at h ⊢ <;> first
          | exact ih _ _ h
          | exact ⟨h.1, h.2.mono fun v w2 he => ih _ _ he⟩
          | exact ⟨h.1, h.2.mono fun e w2 he => by
             cases e with
             | returned v => exact ih _ _ he
             | panicked ch => exact hq _ _ _ he
             | outgrown => obtain ⟨x, y, z⟩ := he; exact ⟨x, y, hq _ _ _ z⟩⟩
          | exact h
      | halt x w' => cases x <;> simp only [Oper.uponIn] at h ⊢ <;> first | exact hq _ _ _ h | exact h
    · rename_i hw
      rw [if_neg hw] at h
      exact ⟨h.1, ih _ _ h.2⟩

/-- the value of an operation is in; the rest follows -/
theorem ops_value {ρ : Option Nat} {all : List Oper} {ops : Array Oper} {o : Oper} {l : List Oper} {a a' : Act'} {c : Act} {r r1 : Rho} {s s1 s' : St} {w w1 : World} {out : Out} {v v' : Value} {nx : Next} (hcm : ρ = none ∨ ((o :: l).all fun o => calmO o.op) = true) (ho : ops.toList = all)
    (hg : guardOk all a.t o = some true) (ha : ActR r a c) (hrun : (execOp c.eval o).run P w = .ok nx w1) (hnx : nx = .value v' ∨ (nx = .skip ∧ v' = undef)) (hv : VR r1 v v') (hR : Rel P.globals.size W0 r1 s1 w1) (hE : Ext r s w r1 s1 w1)
    (ih : ∀ (ρ : Option Nat) (ops : Array Oper) r w act, (ρ = none ∨ (l.all fun o => calmO o.op) = true) → ops.toList = all → Rel P.globals.size W0 r s1 w → ActR r (a.put o.dst v) act → wpListIn (FW ρ) 0 P ops (Post P W0 r s1 w out a' s') l act w) :
    wpListIn (FW ρ) 0 P ops (Post P W0 r s w out a' s') (o :: l) c w := by
  have hw : Region.wanted o (yielded ops c.tmps) = true := guard_ok ha.env (by rw [ho]; exact hg)
  have hrest := ih ρ ops r1 w1 (c.put o.dst v') (calm_tl hcm) ho hR ((ha.mono hE.le).put hv)
  refine wpListIn_step fun K hK => ?_
  rw [if_pos hw]
  have hk : K (c.put o.dst v') w1 := hK _ _ (wpList_post_mono (fun e c2 w2 hp => hp.after hE) _ _ _ hrest)
  refine opIn_of (calm_hd hcm) hrun ?_
  rcases hnx with rfl | ⟨rfl, rfl⟩
  · exact hk
  · exact hk

/-- what is undefined -/
theorem ops_skip {ρ : Option Nat} {all : List Oper} {ops : Array Oper} {o : Oper} {l : List Oper} {a a' : Act'} {c : Act} {r : Rho} {s s' : St} {w : World} {out : Out} (hcm : ρ = none ∨ ((o :: l).all fun o => calmO o.op) = true) (ho : ops.toList = all)
    (hg : guardOk all a.t o = some false) (ha : ActR r a c) (hR : Rel P.globals.size W0 r s w)
    (ih : ∀ (ρ : Option Nat) (ops : Array Oper) r w act, (ρ = none ∨ (l.all fun o => calmO o.op) = true) → ops.toList = all → Rel P.globals.size W0 r s w → ActR r (a.put o.dst (.tuple #[])) act → wpListIn (FW ρ) 0 P ops (Post P W0 r s w out a' s') l act w) :
    wpListIn (FW ρ) 0 P ops (Post P W0 r s w out a' s') (o :: l) c w := by
  have hw : Region.wanted o (yielded ops c.tmps) = false := guard_ok ha.env (by rw [ho]; exact hg)
  refine wpListIn_step fun K hK => ?_
  rw [if_neg (by rw [hw]; simp)]
  exact ⟨fun f _ => trivial, hK _ _ (ih ρ ops r w _ (calm_tl hcm) ho hR (ha.put (VR.undef r)))⟩

theorem rounds_of {ρ : Option Nat} {n : Nat} {x : Code} {Q : Exit → Act → World → Prop} {a : Act} {w : World} (h : x.wpIn (FW ρ) 0 P (Exit.then (Code.roundsIn (FW ρ) 0 P x Q n) Q) a w) : CodeOk P ρ (n + 1) (.loop x) Q a w := h

theorem results_vals {fn : Func} {e : Env} {tmps : Array Value} {s : St} {r : Rho} {w : World} {res : Res} (h : Rel P.globals.size W0 r s w) (he : EnvR r e tmps)
    (hr : (aResults P fn.results.toList e s).map (fun vs => Res.ret (oneOf vs) s) = some res) : ∃ v v', res = .ret v s ∧ (results fn tmps).run P w = .ok v' w ∧ VR r v v' := by
  cases hx : aResults P fn.results.toList e s with
  | none => rw [hx] at hr; simp at hr
  | some vs =>
    rw [hx] at hr; simp only [Option.map_some, Option.some.injEq] at hr
    obtain ⟨v', h1, h2⟩ := results_sound h he hx
    exact ⟨_, v', hr.symm, h1, h2⟩

theorem recover_run {o : Oper} {w : World} {args : Array Operand} {at' : Array TypeId} (ho : o.op = .call { callee := .builtin .recover, args := args, argTypes := at' }) (ρ : Operand → Value) : (execOp ρ o).run P w = .ok .recover w := by
  simp [execOp, ho, resolve, invoke, builtin]

theorem alloc_rel {r : Rho} {s : St} {w : World} {c : Alc} {obj : Obj} (h : Rel P.globals.size W0 r s w) (hi : r s.next = none)
    (hok : ∀ r' i, r.le r' → AOk r' W0 (c.obj i) ⟨w.heap.size, 0, 0⟩ (w.alloc obj)) :
    Rel P.globals.size W0 (r.upd s.next ⟨w.heap.size, 0, 0⟩) ((c.make s s.next).up 1) (w.alloc obj) ∧ Ext r s w (r.upd s.next ⟨w.heap.size, 0, 0⟩) ((c.make s s.next).up 1) (w.alloc obj) := by
  have hok := hok (r.upd s.next ⟨w.heap.size, 0, 0⟩) s.next (Rho.le_upd hi)
  unfold Alc.obj at hok
  unfold Alc.make
  split
  · rename_i hc
    rw [hc] at hok
    exact h.newAny (k := 1) (obj := obj) (w1 := w.alloc obj) (o := .map [] 0) (s' := (s.objAt s.next (.map [] 0)).up 1) hi (Nat.le_refl _) (by omega) rfl rfl rfl rfl hok rfl (fun b e => nomatch e) rfl rfl (.inr ⟨rfl, fun b e => nomatch e⟩)
  · rename_i l hc
    rw [hc] at hok
    exact h.newAny (k := 1) (obj := obj) (w1 := w.alloc obj) (o := .cells { t := T.leaf.puts 0 l, n := l.length, es := 0, cls := s.next, cs := 0, wr := true }) (s' := (s.newAt s.next (T.leaf.puts 0 l) l.length 0).up 1) hi (Nat.le_refl _) (by omega) rfl rfl rfl rfl hok rfl (fun b e => by cases e; rfl) rfl rfl (.inl rfl)

theorem run_step (hm : P.follows .mixedOrders = true) (hM : RcOk P W0 M) (fuel : Nat) (IH : ∀ n, n ≤ fuel → ∀ (t : Task) (s : St) (res : Res), run P M n t s = some res → Sound P W0 n t s res)
    (t : Task) (s : St) (res : Res) (h : run P M (fuel + 1) t s = some res) : Sound P W0 (fuel + 1) t s res := by
    have ih := IH fuel (Nat.le_refl _)
    have hrc : RcOk P W0 (fun f args s => run P M fuel (.call f args) s) := fun f args s res h => ih _ _ _ h
    have hrr : RrOk P W0 (fun i args s => run P M fuel (.round i args) s) := fun i args s v s' h => ih _ _ _ h
    cases t with
    | code c a =>
      cases c with
      | skip =>
        simp only [run_succ, stepT, Option.some.injEq] at h; subst h
        exact fun ρ r w act hcm hR hA => wpIn_skip ⟨r, rfl, hA, hR, .refl _ _ _⟩
      | ret =>
        simp only [run_succ, stepT, Option.some.injEq] at h; subst h
        exact fun ρ r w act hcm hR hA => wpIn_ret ⟨r, rfl, hA, hR, .refl _ _ _⟩
      | exit id =>
        simp only [run_succ, stepT, Option.some.injEq] at h; subst h
        exact fun ρ r w act hcm hR hA => wpIn_exit ⟨r, rfl, hA, hR, .refl _ _ _⟩
      | seq x y =>
        simp only [run_succ, stepT] at h
        cases hx : run P M fuel (.code x a) s with
        | none => rw [hx] at h; simp at h
        | some r1 =>
          rw [hx] at h
          have h1 := ih _ _ _ hx
          cases r1 with
          | done o a1 s1 =>
            cases o with
            | normal =>
              simp only at h
              have h2 := ih _ _ _ h
              cases res with
              | done o2 a2 s2 =>
                intro ρ r w act hcm hR hA
                refine wpIn_seq (Code.wpIn_mono (fun e c w' hp => ?_) (h1 ρ r w act (calm_l hcm) hR hA).wp)
                obtain ⟨r', he, hA', hR', hE⟩ := hp
                subst he
                exact Code.wpIn_mono (fun e c w' hp => hp.after hE) (h2 ρ r' w' c (calm_r hcm) hR' hA').wp
              | _ => trivial
            | exit i =>
              simp only [Option.some.injEq] at h; subst h
              intro ρ r w act hcm hR hA
              refine wpIn_seq (Code.wpIn_mono (fun e c w' hp => ?_) (h1 ρ r w act (calm_l hcm) hR hA).wp)
              obtain ⟨r', he, rest⟩ := hp
              subst he
              exact ⟨r', rfl, rest⟩
            | ret =>
              simp only [Option.some.injEq] at h; subst h
              intro ρ r w act hcm hR hA
              refine wpIn_seq (Code.wpIn_mono (fun e c w' hp => ?_) (h1 ρ r w act (calm_l hcm) hR hA).wp)
              obtain ⟨r', he, rest⟩ := hp
              subst he
              exact ⟨r', rfl, rest⟩
            | panic v =>
              simp only [Option.some.injEq] at h; subst h
              intro ρ r w act hcm hR hA
              refine wpIn_seq (Code.wpIn_mono (fun e c w' hp => ?_) (h1 ρ r w act (calm_l hcm) hR hA).wp)
              obtain ⟨r', ⟨v', rfl, hv⟩, rest⟩ := hp
              exact ⟨r', ⟨v', rfl, hv⟩, rest⟩
          | _ => simp only [Option.some.injEq] at h; subst h; trivial
      | cond co x y =>
        simp only [run_succ, stepT] at h
        split at h
        · rename_i hc
          have h1 := ih _ _ _ h
          cases res with
          | done o a' s' =>
            intro ρ r w act hcm hR hA
            have hv := ev_sound hR.glob hA.env hc
            generalize hcc : act.eval co = cc at hv
            cases hv
            exact wpIn_cond_true hcc (h1 ρ r w act (calm_l hcm) hR hA).wp
          | _ => trivial
        · rename_i hc
          have h1 := ih _ _ _ h
          cases res with
          | done o a' s' =>
            intro ρ r w act hcm hR hA
            have hv := ev_sound hR.glob hA.env hc
            generalize hcc : act.eval co = cc at hv
            cases hv
            exact wpIn_cond_false hcc (h1 ρ r w act (calm_r hcm) hR hA).wp
          | _ => trivial
        · simp at h
      | block id x =>
        simp only [run_succ, stepT] at h
        cases hx : run P M fuel (.code x a) s with
        | none => rw [hx] at h; simp at h
        | some r1 =>
          rw [hx] at h
          have h1 := ih _ _ _ hx
          cases r1 with
          | done o a1 s1 =>
            cases o with
            | exit j =>
              simp only at h
              cases hj : Nat.beq j id with
              | true =>
                rw [hj, cond_true] at h
                have hj : j = id := by simpa using hj
                simp only [Option.some.injEq] at h; subst h
                intro ρ r w act hcm hR hA
                refine wpIn_block (Code.wpIn_mono (fun e c w' hp => ?_) (h1 ρ r w act hcm hR hA).wp)
                obtain ⟨r', he, rest⟩ := hp
                subst he
                simp only [Exit.inBlock, if_pos hj]
                exact ⟨r', rfl, rest⟩
              | false =>
                rw [hj, cond_false] at h
                have hj : j ≠ id := fun e => by rw [beqT e] at hj; simp at hj
                simp only [Option.some.injEq] at h; subst h
                intro ρ r w act hcm hR hA
                refine wpIn_block (Code.wpIn_mono (fun e c w' hp => ?_) (h1 ρ r w act hcm hR hA).wp)
                obtain ⟨r', he, rest⟩ := hp
                subst he
                simp only [Exit.inBlock, if_neg hj]
                exact ⟨r', rfl, rest⟩
            | normal =>
              simp only [Option.some.injEq] at h; subst h
              intro ρ r w act hcm hR hA
              refine wpIn_block (Code.wpIn_mono (fun e c w' hp => ?_) (h1 ρ r w act hcm hR hA).wp)
              obtain ⟨r', he, rest⟩ := hp
              subst he
              exact ⟨r', rfl, rest⟩
            | ret =>
              simp only [Option.some.injEq] at h; subst h
              intro ρ r w act hcm hR hA
              refine wpIn_block (Code.wpIn_mono (fun e c w' hp => ?_) (h1 ρ r w act hcm hR hA).wp)
              obtain ⟨r', he, rest⟩ := hp
              subst he
              exact ⟨r', rfl, rest⟩
            | panic v =>
              simp only [Option.some.injEq] at h; subst h
              intro ρ r w act hcm hR hA
              refine wpIn_block (Code.wpIn_mono (fun e c w' hp => ?_) (h1 ρ r w act hcm hR hA).wp)
              obtain ⟨r', ⟨v', rfl, hv⟩, rest⟩ := hp
              exact ⟨r', ⟨v', rfl, hv⟩, rest⟩
          | _ => simp only [Option.some.injEq] at h; subst h; trivial
      | loop x =>
        simp only [run_succ, stepT] at h
        cases hx : run P M fuel (.code x a) s with
        | none => rw [hx] at h; simp at h
        | some r1 =>
          rw [hx] at h
          have h1 := ih _ _ _ hx
          cases r1 with
          | done o a1 s1 =>
            cases o with
            | normal =>
              simp only at h
              have h2 := ih _ _ _ h
              cases res with
              | done o2 a2 s2 =>
                intro ρ r w act hcm hR hA
                refine rounds_of (Code.wpIn_mono (fun e c w' hp => ?_) (h1 ρ r w act hcm hR hA).wp)
                obtain ⟨r', he, hA', hR', hE⟩ := hp
                subst he
                exact rounds_mono (fun e c w' hp => hp.after hE) _ _ _ (h2 ρ r' w' c hcm hR' hA')
              | _ => trivial
            | exit i =>
              simp only [Option.some.injEq] at h; subst h
              intro ρ r w act hcm hR hA
              refine rounds_of (Code.wpIn_mono (fun e c w' hp => ?_) (h1 ρ r w act hcm hR hA).wp)
              obtain ⟨r', he, rest⟩ := hp
              subst he
              exact ⟨r', rfl, rest⟩
            | ret =>
              simp only [Option.some.injEq] at h; subst h
              intro ρ r w act hcm hR hA
              refine rounds_of (Code.wpIn_mono (fun e c w' hp => ?_) (h1 ρ r w act hcm hR hA).wp)
              obtain ⟨r', he, rest⟩ := hp
              subst he
              exact ⟨r', rfl, rest⟩
            | panic v =>
              simp only [Option.some.injEq] at h; subst h
              intro ρ r w act hcm hR hA
              refine rounds_of (Code.wpIn_mono (fun e c w' hp => ?_) (h1 ρ r w act hcm hR hA).wp)
              obtain ⟨r', ⟨v', rfl, hv⟩, rest⟩ := hp
              exact ⟨r', ⟨v', rfl, hv⟩, rest⟩
          | _ => simp only [Option.some.injEq] at h; subst h; trivial
      | region id ops draw =>
        cases draw with
        | false =>
          simp only [run_succ, stepT] at h
          have h1 := ih _ _ _ h
          cases res with
          | done o a' s' => exact fun ρ r w act hcm hR hA => wpIn_region_list (h1 ρ ops r w act hcm rfl hR hA)
          | _ => trivial
        | true =>
          simp only [run_succ, stepT] at h
          split at h
          · rename_i xs hxs
            obtain ⟨a', s', rfl, hw⟩ := draw_sound hm (fun n hn => fun f args s res hx => IH n (Nat.le_of_lt hn) _ _ _ hx) ⟨_, hxs⟩ h
            exact fun ρ r w act hcm hR hA => hw ρ id r w act hcm hR hA
          · simp at h
      | rangeFunc g ps assign body =>
        exact range_sound IH h
      | _ => simp [run_succ, stepT] at h
    | ops all l a =>
      cases l with
      | nil =>
        simp only [run_succ, stepT, Option.some.injEq] at h; subst h
        exact fun ρ ops r w act hcm ho hR hA => ⟨r, rfl, hA, hR, .refl _ _ _⟩
      | cons o l =>
        simp only [run_succ, stepT] at h
        split at h
        · simp at h
        · rename_i hg
          have h1 := ih _ _ _ h
          cases res with
          | done o2 a2 s2 =>
            intro ρ ops r w act hcm ho hR hA
            exact ops_skip hcm ho hg hA hR h1
          | _ => trivial
        · rename_i hg
          split at h
          · rename_i v hv
            have h1 := ih _ _ _ h
            cases res with
            | done o2 a2 s2 =>
              intro ρ ops r w act hcm ho hR hA
              obtain ⟨v', g1, g2⟩ := read_sound ⟨hR, hA.env⟩ hv
              exact ops_value hcm ho hg hA g1 (.inl rfl) g2 hR (.refl _ _ _) h1
            | _ => trivial
          · split at h
            · rename_i c hc
              have h1 := ih _ _ _ h
              cases res with
              | done o2 a2 s2 =>
                intro ρ ops r w act hcm ho hR hA
                obtain ⟨obj, g1, g2, g3⟩ := alloc_sound ⟨hR, hA.env⟩ hc
                obtain ⟨hR', hE⟩ := alloc_rel hR (hR.dom _ (Nat.le_refl _)) g2
                exact ops_value hcm ho hg hA g1 (.inl rfl) (g3 _ _ Rho.upd_same) hR' hE h1
              | _ => trivial
            · split at h
              · rename_i v s1 hd
                have h1 := ih _ _ _ h
                cases res with
                | done o2 a2 s2 =>
                  intro ρ ops r w act hcm ho hR hA
                  have hw : Region.wanted o (yielded ops act.tmps) = true := guard_ok hA.env (by rw [ho]; exact hg)
                  refine wpListIn_step fun K hK => ?_
                  rw [if_pos hw]
                  refine doOp_sound hrc hrr ⟨hR, hA.env⟩ (calm_hd hcm) hd fun r' v' w' q1 q2 q3 => ?_
                  exact hK _ _ (wpList_post_mono (fun e c2 w2 hp => hp.after q3) _ _ _ (h1 ρ ops r' w' _ (calm_tl hcm) ho q2 ((hA.mono q3.le).put q1)))
                | _ => trivial
              · rename_i v s1 hd
                simp only [Option.some.injEq] at h; subst h
                intro ρ ops r w act hcm ho hR hA
                have hw : Region.wanted o (yielded ops act.tmps) = true := guard_ok hA.env (by rw [ho]; exact hg)
                refine wpListIn_step fun K hK => ?_
                rw [if_pos hw]
                refine doOp_sound hrc hrr ⟨hR, hA.env⟩ (calm_hd hcm) hd fun r' v' w' q1 q2 q3 => ?_
                exact ⟨r', ⟨v', rfl, q1⟩, hA.mono q3.le, q2, q3⟩
              · split at h
                · rename_i c ho
                  split at h
                  · rename_i x hx
                    split at h
                    · rename_i f args hcal
                      have h1 := ih _ _ _ h
                      cases res with
                      | done o2 a2 s2 =>
                        intro ρ ops r w act hcm hops hR hA
                        have hw : Region.wanted o (yielded ops act.tmps) = true := guard_ok hA.env (by rw [hops]; exact hg)
                        obtain ⟨d, g1, g2⟩ := defer_sound (ty := o.type) ⟨hR, hA.env⟩ hx hcal
                        refine wpListIn_step fun K hK => ?_
                        rw [if_pos hw]
                        have hrun : (execOp act.eval o).run P w = .ok (.defer d) w := by simp only [execOp, ho, Sem.run_bind, g1, Result.andThen_ok, Sem.run_pure]
                        refine opIn_of (calm_hd hcm) hrun ?_
                        refine hK _ _ (h1 ρ ops r w _ (calm_tl hcm) hops hR ⟨?_, ?_⟩)
                        · have e1 : (({ act with defers := d :: act.defers } : Act).put o.dst undef).tmps = (act.put o.dst undef).tmps := by cases o.dst <;> rfl
                          rw [e1]; exact hA.env.put (VR.undef r)
                        · rw [put_defers]; exact .cons g2 hA.d
                      | _ => trivial
                    · simp at h
                  · simp at h
                · rename_i x ho
                  split at h
                  · rename_i tt v hv
                    simp only [Option.some.injEq] at h; subst h
                    intro ρ ops r w act hcm hops hR hA
                    have hw : Region.wanted o (yielded ops act.tmps) = true := guard_ok hA.env (by rw [hops]; exact hg)
                    have hvv := ev_sound hR.glob hA.env hv
                    refine wpListIn_step fun K hK => ?_
                    rw [if_pos hw]
                    generalize hxx : act.eval x = xx at hvv
                    cases hvv with
                    | iface _ q =>
                      rename_i v'
                      have hrun : (execOp act.eval o).run P w = .halt (.panic (.iface tt v')) w := by
                        simp [execOp, ho, Instr.panic, hxx, goPanic, Sem.run]
                      refine opIn_of (calm_hd hcm) hrun ?_
                      exact ⟨r, ⟨_, rfl, .iface tt q⟩, hA, hR, .refl _ _ _⟩
                  · simp at h
                · simp at h
    | draw all base l d a => trivial
    | call f args =>
      simp only [run_succ, stepT] at h
      split at h
      · rename_i r1 hr1
        simp only [Option.some.injEq] at h; subst h
        exact hM _ _ _ _ hr1
      split at h
      · simp at h
      · rename_i fn hf
        split at h
        · simp at h
        · rename_i c hb
          cases hn : (fn.name == "runtime.NumGoroutine") with
          | true => rw [hn, cond_true] at h; simp at h
          | false =>
            rw [hn, cond_false] at h
            refine ⟨fun args w => callFunc_enter hf hb hn args w, fun r w args' hR hL => ?_⟩
            refine callsIn_wide.1 (callsIn_of_wp_marks (F := Fence.wide) (n := 0) hf hb trivial ?_)
            split at h
            · rename_i v a1 s1 hx
              have h1 := ih _ _ _ hx
              have h2 := ih _ _ _ h
              refine Code.wpIn_mono (fun e c2 w2 hp => ?_) (h1 none r w ⟨_, []⟩ (.inl rfl) hR ⟨init_env hL, .nil⟩).wp
              obtain ⟨r', ⟨v', rfl, hv⟩, hA, hR', hE⟩ := hp
              exact leaves_mono (fun e w he => he.after hE) _ _ _ (h2 r' w2 c2.tmps c2.defers _ hR' hA.env hA.d ⟨hv, rfl⟩)
            · rename_i a1 s1 hx
              have h1 := ih _ _ _ hx
              have h2 := ih _ _ _ h
              refine Code.wpIn_mono (fun e c2 w2 hp => ?_) (h1 none r w ⟨_, []⟩ (.inl rfl) hR ⟨init_env hL, .nil⟩).wp
              obtain ⟨r', rfl, hA, hR', hE⟩ := hp
              exact leaves_mono (fun e w he => he.after hE) _ _ _ (h2 r' w2 c2.tmps c2.defers .returning hR' hA.env hA.d trivial)
            · rename_i a1 s1 hx
              have h1 := ih _ _ _ hx
              have h2 := ih _ _ _ h
              refine Code.wpIn_mono (fun e c2 w2 hp => ?_) (h1 none r w ⟨_, []⟩ (.inl rfl) hR ⟨init_env hL, .nil⟩).wp
              obtain ⟨r', rfl, hA, hR', hE⟩ := hp
              exact leaves_mono (fun e w he => he.after hE) _ _ _ (h2 r' w2 c2.tmps c2.defers .returning hR' hA.env hA.d trivial)
            · simp at h
    | round i args =>
      cases res with
      | ret v s' => exact round_sound IH h
      | _ => trivial
    | leave fn e ds m =>
      cases ds with
      | nil =>
        intro r w tmps ds' m' hR he hd hm
        cases hd
        cases m with
        | returning =>
          cases m' with
          | returning =>
            simp only [run_succ, stepT] at h
            obtain ⟨v, v', rfl, h1, h2⟩ := results_vals hR he h
            exact ⟨v', h1, r, v', rfl, h2, hR, .refl _ _ _⟩
          | _ => exact hm.elim
        | panicking v rec =>
          cases rec with
          | true => simp [run_succ, stepT] at h
          | false =>
            simp only [run_succ, stepT, Option.some.injEq] at h; subst h
            generalize hmm : FM.panicking v false = mm at hm
            unfold modeR at hm
            split at hm
            · cases hmm
            · cases hmm
              obtain ⟨q1, q2⟩ := hm
              subst q2
              exact ⟨r, _, rfl, q1, hR, .refl _ _ _⟩
            · exact hm.elim
      | cons d ds =>
        simp only [run_succ, stepT] at h
        split at h
        · rename_i i hmk
          split at h
          · rename_i hobj
            have h2 := ih _ _ _ h
            intro r w tmps ds' m' hR he hd hm
            cases hd with
            | cons q t =>
              rename_i d' l'
              rcases q with ⟨q0, _⟩ | ⟨i', l, q0, q1, q2⟩
              · rw [hmk] at q0; simp at q0
              · rw [hmk] at q0; simp only [Option.some.injEq] at q0; subst q0
                obtain ⟨l0, a0, hW, hblk⟩ := hR.obj i _ hobj
                rw [q1] at a0; simp only [Option.some.injEq] at a0; subst a0
                obtain ⟨hR', hE⟩ := hR.gone (obj := .deferred none) hobj q1 (by simp)
                exact ⟨hm.ne_run, .inl ⟨l.blk, _, q2, run_takeDeferred hblk, leaves_mono (fun e w he => he.after hE) _ _ _ (h2 r _ tmps l' _ hR' he t hm)⟩⟩
          · simp at h
        · rename_i hmk
          split at h
          · rename_i m1 s1 hx
            have h1 := ih _ _ _ hx
            have h2 := ih _ _ _ h
            intro r w tmps ds' m' hR he hd hm
            cases hd with
            | cons q t =>
              rename_i d' l'
              rcases q with ⟨_, cap, q1, q2⟩ | ⟨i', l, q0, _⟩
              · obtain ⟨k1, k2⟩ := h1
                refine ⟨hm.ne_run, .inr ⟨FW_depth (ρ := none), .func d.f, cap, d.f, d'.args ++ cap, q1, ?_, fun _ _ => trivial, ?_⟩⟩
                · rw [q1]; exact k1 _ _
                · have := k2 r w _ m' hR q2 hm
                  have e1 : (d'.args.toList ++ cap.toList).toArray = d'.args ++ cap := by apply Array.ext'; simp
                  rw [e1] at this
                  refine callsD_mono (fun e u w2 he2 => ?_) this
                  obtain ⟨r', v', rfl, g2, g3, g4⟩ := he2
                  exact leaves_mono (fun e w he => he.after g4) _ _ _ (h2 r' w2 tmps l' _ g3 (he.mono g4.le) (t.mono g4.le) g2.settle)
              · rw [hmk] at q0; simp at q0
          · simp at h
    | callD f args m =>
      simp only [run_succ, stepT] at h
      split at h
      · simp at h
      · rename_i fn hf
        split at h
        · simp at h
        · rename_i c hb
          cases hn : (fn.name == "runtime.NumGoroutine") with
          | true => rw [hn, cond_true] at h; simp at h
          | false =>
            rw [hn, cond_false] at h
            split at h
            · rename_i a1 m1 s1 hx
              have h1 := ih _ _ _ hx
              split at h
              · rename_i hd
                cases hres : aResults P fn.results.toList a1.t s1 with
                | none => rw [hres] at h; simp at h
                | some vs =>
                  rw [hres] at h
                  simp only [Option.map_some, Option.some.injEq] at h; subst h
                  refine ⟨fun args w => callFunc_enter hf hb hn args w, fun r w args' m' hR hL hm => ?_⟩
                  refine callsDIn_of_wpSIn (F := Fence.wide) (n := 0) hf hb trivial fun c₀ cs hc => ?_
                  refine wpS_mono (fun e c2 cs2 w2 hp => ?_) (h1 r w ⟨_, []⟩ m' c₀ cs hR ⟨init_env hL, .nil⟩ hm hc)
                  obtain ⟨r', u', rfl, hA, hm2, rfl, hR', hE⟩ := hp
                  have hdd := hA.d; rw [hd] at hdd
                  obtain ⟨v', k1, k2⟩ := results_sound hR' hA.env hres
                  have hnil : c2.defers = [] := by
                    cases hq : c2.defers with
                    | nil => rfl
                    | cons x y => rw [hq] at hdd; cases hdd
                  exact ⟨hnil, u', rfl, v', k1, r', v', rfl, hm2, hR', hE⟩
              · simp at h
            · rename_i a1 m1 s1 hx
              have h1 := ih _ _ _ hx
              split at h
              · rename_i hd
                cases hres : aResults P fn.results.toList a1.t s1 with
                | none => rw [hres] at h; simp at h
                | some vs =>
                  rw [hres] at h
                  simp only [Option.map_some, Option.some.injEq] at h; subst h
                  refine ⟨fun args w => callFunc_enter hf hb hn args w, fun r w args' m' hR hL hm => ?_⟩
                  refine callsDIn_of_wpSIn (F := Fence.wide) (n := 0) hf hb trivial fun c₀ cs hc => ?_
                  refine wpS_mono (fun e c2 cs2 w2 hp => ?_) (h1 r w ⟨_, []⟩ m' c₀ cs hR ⟨init_env hL, .nil⟩ hm hc)
                  obtain ⟨r', u', rfl, hA, hm2, rfl, hR', hE⟩ := hp
                  have hdd := hA.d; rw [hd] at hdd
                  obtain ⟨v', k1, k2⟩ := results_sound hR' hA.env hres
                  have hnil : c2.defers = [] := by
                    cases hq : c2.defers with
                    | nil => rfl
                    | cons x y => rw [hq] at hdd; cases hdd
                  exact ⟨hnil, u', rfl, v', k1, r', v', rfl, hm2, hR', hE⟩
              · simp at h
            · simp at h
    | codeD c a m =>
      have plain : ∀ c, (match run P M fuel (.code c a) s with
          | some (.done .normal a s) => some (Res.doneD .normal a m s)
          | some (.done .ret a s) => some (.doneD .ret a m s)
          | _ => none) = some res → Sound P W0 (fuel + 1) (.codeD c a m) s res := by
        intro c h
        split at h
        · rename_i a1 s1 hx
          have h1 := ih _ _ _ hx
          simp only [Option.some.injEq] at h; subst h
          intro r w act m' c₀ cs hR hA hm hc
          refine wpSIn_of_wpIn (F := Fence.wide) rfl (Code.wpIn_mono (fun e c2 w2 hp => ?_) (h1 none r w act (.inl rfl) hR hA).wp)
          obtain ⟨r', he, hA', hR', hE⟩ := hp
          exact ⟨r', m', he, hA', hm.mono hE.le, by rw [← hc], hR', hE⟩
        · rename_i a1 s1 hx
          have h1 := ih _ _ _ hx
          simp only [Option.some.injEq] at h; subst h
          intro r w act m' c₀ cs hR hA hm hc
          refine wpSIn_of_wpIn (F := Fence.wide) rfl (Code.wpIn_mono (fun e c2 w2 hp => ?_) (h1 none r w act (.inl rfl) hR hA).wp)
          obtain ⟨r', he, hA', hR', hE⟩ := hp
          exact ⟨r', m', he, hA', hm.mono hE.le, by rw [← hc], hR', hE⟩
        · simp at h
      cases c with
      | skip =>
        simp only [run_succ, stepT, Option.some.injEq] at h; subst h
        intro r w act m' c₀ cs hR hA hm hc
        exact wpSIn_of_wpIn (F := Fence.wide) rfl (wpIn_skip ⟨r, m', rfl, hA, hm, by rw [← hc], hR, .refl _ _ _⟩)
      | ret =>
        simp only [run_succ, stepT, Option.some.injEq] at h; subst h
        intro r w act m' c₀ cs hR hA hm hc
        exact wpSIn_of_wpIn (F := Fence.wide) rfl (wpIn_ret ⟨r, m', rfl, hA, hm, by rw [← hc], hR, .refl _ _ _⟩)
      | seq x y =>
        simp only [run_succ, stepT] at h
        cases hx : run P M fuel (.codeD x a m) s with
        | none => rw [hx] at h; simp at h
        | some r1 =>
          rw [hx] at h
          have h1 := ih _ _ _ hx
          cases r1 with
          | doneD o a1 m1 s1 =>
            cases o with
            | normal =>
              simp only at h
              have h2 := ih _ _ _ h
              cases res with
              | doneD o2 a2 m2 s2 =>
                intro r w act m' c₀ cs hR hA hm hc
                refine wpSIn_seq (wpS_mono (fun e c2 cs2 w2 hp => ?_) (h1 r w act m' c₀ cs hR hA hm hc))
                obtain ⟨r', u', rfl, hA', hm', rfl, hR', hE⟩ := hp
                refine wpS_mono (fun e c3 cs3 w3 hp => ?_) (h2 r' w2 c2 u' { c₀ with mode := u' } cs hR' hA' hm' rfl)
                obtain ⟨r2, u2, g1, g2, g3, g4, g5, g6⟩ := hp
                exact ⟨r2, u2, g1, g2, g3, g4, g5, hE.trans g6⟩
              | _ => trivial
            | exit i =>
              simp only [Option.some.injEq] at h; subst h
              intro r w act m' c₀ cs hR hA hm hc
              refine wpSIn_seq (wpS_mono (fun e c2 cs2 w2 hp => ?_) (h1 r w act m' c₀ cs hR hA hm hc))
              obtain ⟨r', u', rfl, rest⟩ := hp
              exact ⟨r', u', rfl, rest⟩
            | ret =>
              simp only [Option.some.injEq] at h; subst h
              intro r w act m' c₀ cs hR hA hm hc
              refine wpSIn_seq (wpS_mono (fun e c2 cs2 w2 hp => ?_) (h1 r w act m' c₀ cs hR hA hm hc))
              obtain ⟨r', u', rfl, rest⟩ := hp
              exact ⟨r', u', rfl, rest⟩
            | panic v =>
              simp only [Option.some.injEq] at h; subst h
              intro r w act m' c₀ cs hR hA hm hc
              refine wpSIn_seq (wpS_mono (fun e c2 cs2 w2 hp => ?_) (h1 r w act m' c₀ cs hR hA hm hc))
              obtain ⟨r', u', ⟨v', rfl, hv⟩, rest⟩ := hp
              exact ⟨r', u', ⟨v', rfl, hv⟩, rest⟩
          | _ => simp only [Option.some.injEq] at h; subst h; trivial
      | cond co x y =>
        simp only [run_succ, stepT] at h
        split at h
        · rename_i hc0
          have h1 := ih _ _ _ h
          cases res with
          | doneD o a' m2 s' =>
            intro r w act m' c₀ cs hR hA hm hc
            have hv := ev_sound hR.glob hA.env hc0
            generalize hcc : act.eval co = cc at hv
            cases hv
            exact wpSIn_cond hcc (by simpa using h1 r w act m' c₀ cs hR hA hm hc)
          | _ => trivial
        · rename_i hc0
          have h1 := ih _ _ _ h
          cases res with
          | doneD o a' m2 s' =>
            intro r w act m' c₀ cs hR hA hm hc
            have hv := ev_sound hR.glob hA.env hc0
            generalize hcc : act.eval co = cc at hv
            cases hv
            exact wpSIn_cond hcc (by simpa using h1 r w act m' c₀ cs hR hA hm hc)
          | _ => trivial
        · simp at h
      | region id ops draw =>
        cases draw with
        | false =>
          simp only [run_succ, stepT] at h
          have h1 := ih _ _ _ h
          cases res with
          | doneD o a' m2 s' =>
            intro r w act m' c₀ cs hR hA hm hc
            have := h1 ops 0 r w act m' c₀ cs rfl (by simp) hR hA hm hc
            refine wpSIn_region ?_
            rw [List.range_eq_range']
            simpa using this
          | _ => trivial
        | true => simp only [run_succ, stepT] at h; exact plain _ h
      | _ => simp only [run_succ, stepT] at h; exact plain _ h
    | opsD all l a m =>
      cases l with
      | nil =>
        simp only [run_succ, stepT, Option.some.injEq] at h; subst h
        exact fun ops k r w act m' c₀ cs ho hk hR hA hm hc => ⟨r, m', rfl, hA, hm, by rw [← hc], hR, .refl _ _ _⟩
      | cons o l =>
        have hat : ∀ (ops : Array Oper) (k : Nat), (∀ j, (o :: l)[j]? = ops[k + j]?) → ops[k]? = some o ∧ ∀ j, l[j]? = ops[k + 1 + j]? := fun ops k hk =>
          ⟨by simpa using (hk 0).symm, fun j => by have := hk (j + 1); simp only [List.getElem?_cons_succ] at this; rw [this]; congr 1; omega⟩
        simp only [run_succ, stepT] at h
        split at h
        · simp at h
        · rename_i hg
          have h1 := ih _ _ _ h
          cases res with
          | doneD o2 a2 m2 s2 =>
            intro ops k r w act m' c₀ cs ho hk hR hA hm hc
            obtain ⟨hk0, hk1⟩ := hat ops k hk
            have hw : Region.wanted o (yielded ops act.tmps) = false := guard_ok hA.env (by rw [ho]; exact hg)
            rw [List.length_cons, List.range'_succ]
            simp only [wpOpsSIn, hk0, hw, Bool.false_eq_true, if_false]; refine ⟨fun _ _ => trivial, ?_⟩
            exact h1 ops (k + 1) r w _ m' c₀ cs ho hk1 hR (hA.put (VR.undef r)) hm hc
          | _ => trivial
        · rename_i hg
          split at h
          · rename_i v hv
            have h1 := ih _ _ _ h
            cases res with
            | doneD o2 a2 m2 s2 =>
              intro ops k r w act m' c₀ cs ho hk hR hA hm hc
              obtain ⟨hk0, hk1⟩ := hat ops k hk
              have hw : Region.wanted o (yielded ops act.tmps) = true := guard_ok hA.env (by rw [ho]; exact hg)
              obtain ⟨v', g1, g2⟩ := read_sound ⟨hR, hA.env⟩ hv
              rw [List.length_cons, List.range'_succ]
              simp only [wpOpsSIn, hk0, hw, if_true, g1]; refine ⟨fun _ _ => trivial, ?_⟩
              exact h1 ops (k + 1) r w _ m' c₀ cs ho hk1 hR (hA.put g2) hm hc
            | _ => trivial
          · split at h
            · rename_i v s1 hv
              have h1 := ih _ _ _ h
              cases res with
              | doneD o2 a2 m2 s2 =>
                intro ops k r w act m' c₀ cs ho hk hR hA hm hc
                obtain ⟨hk0, hk1⟩ := hat ops k hk
                have hw : Region.wanted o (yielded ops act.tmps) = true := guard_ok hA.env (by rw [ho]; exact hg)
                obtain ⟨r', nx, v', w', g1, g2, g3, g4, g5⟩ := eff_sound ⟨hR, hA.env⟩ hv
                have := h1 ops (k + 1) r' w' (act.put o.dst v') m' c₀ cs ho hk1 g4 ((hA.mono g5.le).put g3) (hm.mono g5.le) hc
                rw [List.length_cons, List.range'_succ]
                simp only [wpOpsSIn, hk0, hw, if_true, g1]; refine ⟨fun _ _ => trivial, ?_⟩
                have fin := wpOpsS_mono (fun e c2 cs2 w2 (hp : ∃ r'' u', outR r'' o2 e ∧ ActR r'' a2 c2 ∧ modeR r'' m2 u' ∧ cs2 = { c₀ with mode := u' } :: cs ∧ Rel P.globals.size W0 r'' s2 w2 ∧ Ext r' s1 w' r'' s2 w2) =>
                    let ⟨r2, u2, a, b, c, d, e3, f⟩ := hp
                    (⟨r2, u2, a, b, c, d, e3, g5.trans f⟩ : ∃ r'' u', outR r'' o2 e ∧ ActR r'' a2 c2 ∧ modeR r'' m2 u' ∧ cs2 = { c₀ with mode := u' } :: cs ∧ Rel P.globals.size W0 r'' s2 w2 ∧ Ext r s w r'' s2 w2)) _ _ _ _ this
                rcases g2 with rfl | ⟨rfl, rfl⟩
                · exact fin
                · exact fin
              | _ => trivial
            · split at h
              · rename_i ho1
                split at h
                · rename_i v
                  have h1 := ih _ _ _ h
                  cases res with
                  | doneD o2 a2 m2 s2 =>
                    intro ops k r w act m' c₀ cs ho hk hR hA hm hc
                    obtain ⟨hk0, hk1⟩ := hat ops k hk
                    have hw : Region.wanted o (yielded ops act.tmps) = true := guard_ok hA.env (by rw [ho]; exact hg)
                    rw [List.length_cons, List.range'_succ]
                    generalize hmm : FM.panicking v false = mm at hm
                    unfold modeR at hm
                    split at hm
                    · cases hmm
                    · cases hmm
                      rename_i v' rec'
                      obtain ⟨q1, q2⟩ := hm
                      subst q2
                      have hrec : recoverD (c₀ :: cs) = some (v', { c₀ with mode := .panicking [{ v := v', recovered := true, goexit := false }] } :: cs) := by simp only [recoverD, hc]
                      have hrr : (execOp act.eval o).run P w = .ok .recover w := recover_run ho1 act.eval
                      simp only [wpOpsSIn, hk0, hw, if_true]; refine ⟨fun _ _ => trivial, ?_⟩; rw [hrr]; simp only [hrec]
                      exact h1 ops (k + 1) r w _ (.panicking [{ v := v', recovered := true, goexit := false }]) { c₀ with mode := .panicking [{ v := v', recovered := true, goexit := false }] } cs ho hk1 hR (hA.put q1) ⟨q1, rfl⟩ rfl
                    · exact hm.elim
                  | _ => trivial
                · rename_i hnp
                  have h1 := ih _ _ _ h
                  cases res with
                  | doneD o2 a2 m2 s2 =>
                    intro ops k r w act m' c₀ cs ho hk hR hA hm hc
                    obtain ⟨hk0, hk1⟩ := hat ops k hk
                    have hw : Region.wanted o (yielded ops act.tmps) = true := guard_ok hA.env (by rw [ho]; exact hg)
                    rw [List.length_cons, List.range'_succ]
                    have hrec : recoverD (c₀ :: cs) = none := by
                      have hm0 := hm
                      unfold modeR at hm0
                      split at hm0
                      · simp only [recoverD, hc]
                      · rename_i v rec v' rec'
                        obtain ⟨q1, q2⟩ := hm0
                        subst q2
                        cases rec with
                        | false => exact absurd rfl (hnp v)
                        | true => simp only [recoverD, hc]
                      · exact hm0.elim
                    have hrr : (execOp act.eval o).run P w = .ok .recover w := recover_run ho1 act.eval
                    simp only [wpOpsSIn, hk0, hw, if_true]; refine ⟨fun _ _ => trivial, ?_⟩; rw [hrr]; simp only [hrec]
                    exact h1 ops (k + 1) r w _ m' c₀ cs ho hk1 hR (hA.put .nilIface) hm hc
                  | _ => trivial
              · simp at h

theorem run_sound (hm : P.follows .mixedOrders = true) (hM : RcOk P W0 M) : ∀ (fuel : Nat) (t : Task) (s : St) (res : Res), run P M fuel t s = some res → Sound P W0 fuel t s res := by
  have key : ∀ fuel n, n ≤ fuel → ∀ (t : Task) (s : St) (res : Res), run P M n t s = some res → Sound P W0 n t s res := by
    intro fuel
    induction fuel with
    | zero => intro n hn t s res h; have : n = 0 := by omega
              subst this; simp [run_none] at h
    | succ fuel IH =>
      intro n hn t s res h
      by_cases hle : n ≤ fuel
      · exact IH n hle t s res h
      · have : n = fuel + 1 := by omega
        subst this
        exact run_step hm hM fuel IH t s res h
  exact fun fuel => key fuel fuel (Nat.le_refl _)

end Go.Ev
