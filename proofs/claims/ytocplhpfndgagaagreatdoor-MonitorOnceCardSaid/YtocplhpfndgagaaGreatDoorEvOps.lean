/- Operations that read, one by one. -/
import Derived.Test.YtocplhpfndgagaaGreatDoorEvRel
namespace Go.Ev

variable {P : Program} {G W0 : Nat} {r : Rho} {s : St} {w : World}

theorem oneCell_eq (v : Value) : v.oneCell' = oneCell v := by cases v <;> rfl

theorem zero_spec {t : TypeId} {z : Value} (h : zero? P t = some z) : ∃ i, P.info? t = some i ∧ i.zero = some z ∧ ∀ r, VR r z z := by
  unfold zero? at h
  split at h
  · rename_i i hi
    split at h
    · rename_i z' hz
      cases hf : flatV 8 z' with
      | true => rw [hf, cond_true] at h; simp only [Option.some.injEq] at h; subst h; exact ⟨i, hi, hz, fun r => flatV_sound r 8 _ hf⟩
      | false => rw [hf, cond_false] at h; simp at h
    · simp at h
  · simp at h

theorem bytes_LR (l : List UInt8) : LR r (l.map fun c => Value.int .u8 c.toNat) (l.map fun c => Value.int .u8 c.toNat) := by
  induction l with
  | nil => exact .nil
  | cons c l ih => exact .cons (.int _ _) ih

theorem app_law (h : Rel G W0 r s w) {t tx ty el : TypeId} {y y' z : Value} {new : List Value} {n : Nat} {info : TypeInfo} (ht : P.underlying t = some (.slice el)) (hi : P.info? el = some info)
    (hz : zero? P el = some z) (ha : aAppended P s el #[t, tx] y = some (new, n)) (hy : VR r y y') (hsz : info.size ≠ 0) (hlen : new.length = n * info.size) (hone : new.all oneCell = true) :
    ∃ new', LR r new new' ∧ AppLaw P w t tx ty el info z y' n new' := by
  obtain ⟨i2, hi2, hz2, hzf⟩ := zero_spec hz
  rw [hi] at hi2; simp only [Option.some.injEq] at hi2; subst hi2
  have one' : ∀ {new' : List Value}, LR r new new' → ∀ u ∈ new', u.oneCell' = true := by
    intro new' hl u hu
    rw [oneCell_eq]
    have := oneCell_LR hl
    rw [hone] at this
    exact List.all_eq_true.1 this u hu
  unfold aAppended at ha
  have hz1 : (#[t, tx] : Array TypeId)[1]? = some tx := rfl
  have hkind : ∀ b, appZeros P #[t, tx] = some b → if b then (∃ k, P.underlying tx = some (.int k)) else ((∃ e', P.underlying tx = some (.slice e')) ∨ P.underlying tx = some .string) := by
    intro b hb
    unfold appZeros at hb
    rw [hz1] at hb
    simp only at hb
    split at hb
    · rename_i k hk; simp only [Option.some.injEq] at hb; subst hb; exact ⟨k, hk⟩
    · rename_i e' hk; simp only [Option.some.injEq] at hb; subst hb; exact .inl ⟨e', hk⟩
    · rename_i hk; simp only [Option.some.injEq] at hb; subst hb; exact .inr hk
    · simp at hb
  split at ha
  · -- a string
    rename_i b hzs
    have hk := hkind _ hzs
    simp only [Bool.false_eq_true, if_false] at hk
    rw [hi] at ha
    simp only at ha
    cases hs1 : Nat.beq info.size 1 with
    | false => rw [hs1, cond_false] at ha; simp at ha
    | true =>
      rw [hs1, cond_true] at ha
      simp only [Option.some.injEq, Prod.mk.injEq] at ha
      obtain ⟨rfl, rfl⟩ := ha
      cases hy
      have hs1 : info.size = 1 := by simpa using hs1
      refine ⟨_, bytes_LR _, AppLaw.of_src ht hi hz2 ?_⟩
      rw [hs1]
      exact ⟨hk, fun _ => rfl, firstCells_string b w, firstCells_string b w.drew, by rw [Nat.mul_one]; exact byteCells_length b, fun u hu => by
        obtain ⟨_, _, rfl⟩ := List.mem_map.1 hu
        rfl⟩
  · -- nil
    rename_i n0 c hzs
    have hk := hkind _ hzs
    simp only [Bool.false_eq_true, if_false] at hk
    cases hn : Nat.beq n0 0 with
    | false => rw [hn, cond_false] at ha; simp at ha
    | true =>
      rw [hn, cond_true] at ha
      simp only [Option.some.injEq, Prod.mk.injEq] at ha
      obtain ⟨rfl, rfl⟩ := ha
      have hn : n0 = 0 := by simpa using hn
      subst hn
      cases hy
      exact ⟨[], .nil, AppLaw.of_src ht hi hz2 ⟨hk, fun _ => rfl, run_firstCells_none w _ _ _ _, run_firstCells_none w.drew _ _ _ _, by simp, by simp⟩⟩
  · -- a slice
    rename_i i j n0 c hzs
    have hk := hkind _ hzs
    simp only [Bool.false_eq_true, if_false] at hk
    cases hn : Nat.beq n0 0 with
    | true =>
      rw [hn, cond_true] at ha
      simp only [Option.some.injEq, Prod.mk.injEq] at ha
      obtain ⟨rfl, rfl⟩ := ha
      have hn : n0 = 0 := by simpa using hn
      subst hn
      have : ∃ a c', y' = .slice (some a) 0 c' := by cases hy <;> exact ⟨_, _, rfl⟩
      obtain ⟨a, c', rfl⟩ := this
      exact ⟨[], .nil, AppLaw.of_src ht hi hz2 ⟨hk, fun _ => rfl, run_firstCells_some w _ _ a _ _ [] (by simp) (by simp), run_firstCells_some w.drew _ _ a _ _ [] (by simp) (by simp), by simp, by simp⟩⟩
    | false =>
      rw [hn, cond_false, hi] at ha
      simp only at ha
      split at ha
      · rename_i l hl
        simp only [Option.some.injEq, Prod.mk.injEq] at ha
        obtain ⟨rfl, rfl⟩ := ha
        obtain ⟨lc, hr, vs', hv, hlen', hrun⟩ := h.load (P := P) hl
        have hn0 : n0 ≠ 0 := fun e => by rw [e] at hn; simp at hn
        cases hy with
        | slice0 _ => exact absurd rfl hn0
        | slice hr2 hle =>
          rw [hr] at hr2; simp only [Option.some.injEq] at hr2; subst hr2
          exact ⟨vs', hv, AppLaw.of_src ht hi hz2 ⟨hk, fun _ => rfl, by simpa [Builtin.firstCells] using hrun w rfl, by simpa [Builtin.firstCells] using hrun w.drew rfl, by omega, one' hv⟩⟩
      · simp at ha
  · -- zeros
    rename_i k n0 hzs
    have hk := hkind _ hzs
    simp only [if_true] at hk
    obtain ⟨kk, hk⟩ := hk
    rw [hi, hz] at ha
    simp only at ha
    split at ha
    · rename_i hc
      simp only [Option.some.injEq, Prod.mk.injEq] at ha
      obtain ⟨rfl, rfl⟩ := ha
      cases hy
      have e0 : ((n0.toNat : Nat) : Int) = n0 := Int.toNat_of_nonneg (by omega)
      refine ⟨_, zeros_LR (hzf r), ?_⟩
      rw [← zeroCells_eq]
      have := AppLaw.of_make (w := w) (ty := ty) (k' := k) (n := n0.toNat) ht hk hi hz2 (by omega) (by omega) hc.2.2 hsz
      rw [e0] at this
      exact this
    · simp at ha
  · simp at ha

theorem loadRow {b o : Nat} {c : Array Value} {e : TypeId} {fz : Nat × Nat} (h : w.heap[b]? = some (.cells c e fz)) (k : Nat) (hk : o + k ≤ c.size) :
    ∃ vs : List Value, vs.length = k ∧ (∀ j, j < k → vs[j]? = c[o + j]?) ∧ ∀ w1 : World, w1.heap = w.heap → (loadCells ⟨b, o, none⟩ k).run P w1 = .ok vs.toArray w1 := by
  refine ⟨(List.range k).map fun j => c.getD (o + j) default, by simp, fun j hj => ?_, fun w1 hw1 => ?_⟩
  · have : o + j < c.size := by omega
    simp [hj, Array.getD_eq_getD_getElem?, this]
  · have := run_loadCells (P := P) (w := w1) (b := b) (o := o) (by rw [hw1]; exact h) ((List.range k).map fun j => c.getD (o + j) default) (fun j v hv => by
      have hj : j < k := by have := (List.getElem?_eq_some_iff.1 hv).1; simpa using this
      have : o + j < c.size := by omega
      simp [hj, Array.getD_eq_getD_getElem?, this] at hv
      simp [this, hv])
    simpa using this

theorem grown_ok {r' : Rho} {w1 : World} {t : T Value} {lv : List Value} {z : Value} {n size B cap cls cs : Nat} {el : TypeId} (hW : W0 ≤ B) (hz : z.cells.size = size) (hcap : n ≤ cap) (hlv : lv.length = n * size)
    (hg : w1.heap[B]? = some (.cells (lv.toArray ++ Builtin.zeroCells z.cells (cap - n)) el)) (ht : ∀ j v, t.get j = some v → j < n * size ∧ ∃ v', lv[j]? = some v' ∧ VR r' v v') :
    AOk r' W0 (.cells { t := t, n := n * size, es := size, cls := cls, cs := cs, wr := true }) ⟨B, 0, cap⟩ w1 := by
  have hsize : (lv.toArray ++ Builtin.zeroCells z.cells (cap - n)).size = cap * size := by
    simp [Builtin.zeroCells, hlv, hz]
    rw [← Nat.add_mul]; congr 1; omega
  refine ⟨_, el, (0, 0), hg, fun j v hj => ?_, fun _ => ⟨hW, fun j _ hh => by simp at hh, ?_, fun _ => ?_⟩, fun q => by simp at q⟩
  · obtain ⟨a, v', b, c⟩ := ht j v hj
    refine ⟨a, v', ?_, c⟩
    have hj2 : j < lv.length := (List.getElem?_eq_some_iff.1 b).1
    simp only [Nat.add_zero]
    rw [Array.getElem?_append_left (by simpa using hj2)]
    simpa using b
  · rw [hsize]; simp only [Nat.add_zero]; exact Nat.mul_le_mul_right size hcap
  · rw [hsize]; simp

theorem sub_cap {l : Loc} {c : Nat} (h : CB ≤ c) : l.capOf c = l.cap - (c - CB) := by
  unfold Loc.capOf; rw [if_neg (by omega)]

set_option maxHeartbeats 2000000 in
theorem Rel.append (h : Rel G W0 r s w) {t tx ty el : TypeId} {x y v x' y' : Value} {new : List Value} {n : Nat} {s' : St} (ht : P.underlying t = some (.slice el))
    (ha : aAppended P s el #[t, tx] y = some (new, n)) (hb : aAppend P s el x new n = some (v, s')) (hx : VR r x x') (hy : VR r y y') :
    ∃ r' v' w', (Builtin.append_ #[t, tx] ty #[x', y']).run P w = .ok v' w' ∧ VR r' v v' ∧ Rel G W0 r' s' w' ∧ Ext r s w r' s' w' := by
  unfold aAppend at hb
  split at hb
  · rename_i info z base len cap hi hz
    simp only at hb
    generalize hq : (Nat.ble (len + n) 16777216 && Nat.ble info.bytes 65536 && !(Nat.beq info.bytes 0) && Nat.beq new.length (n * info.size) && !(Nat.beq info.size 0) && Nat.beq z.cells.size info.size && new.all oneCell) = q at hb
    cases q with
    | false => simp at hb
    | true =>
      simp only [Bool.not_true, cond_false] at hb
      simp only [Bool.and_eq_true, Bool.not_eq_true', Nat.ble_eq, Nat.beq_eq] at hq
      obtain ⟨⟨⟨⟨⟨⟨q1, q2⟩, q3⟩, q4⟩, q5⟩, q6⟩, q7⟩ := hq
      have q3 : info.bytes ≠ 0 := fun e => by rw [e] at q3; simp at q3
      have q5 : info.size ≠ 0 := fun e => by rw [e] at q5; simp at q5
      obtain ⟨new', hnew, law⟩ := app_law (ty := ty) h ht hi hz ha hy q5 q4 q7
      have hlen' := hnew.length
      have hmulLN : (len + n) * info.size = len * info.size + n * info.size := Nat.add_mul _ _ _
      have hdom := h.dom s.next (Nat.le_refl _)
      cases hn : Nat.beq n 0 with
      | true =>
        rw [hn, cond_true] at hb
        simp only [Option.some.injEq, Prod.mk.injEq] at hb
        obtain ⟨rfl, rfl⟩ := hb
        have hn : n = 0 := by simpa using hn
        subst hn
        have hnil : new' = [] := List.eq_nil_of_length_eq_zero (by omega)
        subst hnil
        refine ⟨r, x', w, ?_, hx, h, .refl _ _ _⟩
        cases hx with
        | nilSlice _ _ hle => exact law.room _ _ _ _ (by omega) (by simp [pure])
        | slice hr hle => exact law.room _ _ _ _ (by omega) (by simp [storeCells, pure])
        | slice0 hc => exact law.room _ _ _ _ (by omega) (by simp [storeCells, pure])
      | false =>
        rw [hn, cond_false] at hb
        have hn : n ≠ 0 := fun e => by rw [e] at hn; simp at hn
        cases hc : (!(Nat.ble CB cap) && Nat.ble (len + n) cap) with
        | true =>
          rw [hc, cond_true] at hb
          simp only [Bool.and_eq_true, Bool.not_eq_true', Nat.ble_eq] at hc
          obtain ⟨c1, c2⟩ := hc
          have c1 : cap < CB := by
            by_cases e : CB ≤ cap
            · rw [bleT e] at c1; simp at c1
            · omega
          split at hb
          · rename_i i o
            split at hb
            · rename_i s1 hs1
              simp only [Option.some.injEq, Prod.mk.injEq] at hb
              obtain ⟨rfl, rfl⟩ := hb
              obtain ⟨l, w1, hr, hrun, hrel, hext⟩ := h.store (P := P) hs1 hnew
              cases hx with
              | slice0 hcb => omega
              | slice hr2 hle =>
                rw [hr] at hr2; simp only [Option.some.injEq] at hr2; subst hr2
                have hcap : l.capOf cap = cap := by unfold Loc.capOf; rw [if_pos c1]
                rw [hcap] at hle ⊢
                refine ⟨r, _, w1, law.room (some ⟨l.blk, o + l.sh, none⟩) len cap w1 c2 ?_, ?_, hrel, hext⟩
                · simp only [add_off]
                  rw [show o + l.sh + len * info.size = o + len * info.size + l.sh by omega]
                  exact hrun
                · have := VR.slice (r := r) (i := i) (o := o) (n := len + n) (c := cap) hr (by rw [hcap]; exact c2)
                  rwa [hcap] at this
            · simp at hb
          · simp at hb
        | false =>
          rw [hc, cond_false] at hb
          have hnoroom : cap < CB → cap < len + n := by
            intro e
            rw [bleF (by omega), Bool.not_false, Bool.true_and] at hc
            by_cases e2 : len + n ≤ cap
            · rw [bleT e2] at hc; simp at hc
            · omega
          split at hb
          · -- nil
            cases hl : (Nat.beq len 0 && Nat.beq cap 0) with
            | false => rw [hl, cond_false] at hb; simp at hb
            | true =>
              rw [hl, cond_true] at hb
              simp only [Bool.and_eq_true, Nat.beq_eq] at hl
              obtain ⟨rfl, rfl⟩ := hl
              simp only [Option.some.injEq, Prod.mk.injEq] at hb
              obtain ⟨rfl, rfl⟩ := hb
              cases hx with
              | nilSlice _ _ _ =>
                have hg := law.grow none 0 0 [] (run_firstCells_none _ _ _ _ _) (by omega) q1 q2 q3
                have hge := grownCap_ge w (0 + n) 0 el
                simp only [Nat.zero_add, List.nil_append] at hg hge
                obtain ⟨hR, hE⟩ := h.newAny (i := s.next) (k := 1) (cap := grownCap w n 0 el) (w1 := w.drew.alloc (.cells ((new').toArray ++ Builtin.zeroCells z.cells (grownCap w n 0 el - n)) el))
                  (o := .cells { t := T.leaf.puts 0 new, n := n * info.size, es := info.size, cls := s.next, cs := 0, wr := true })
                  hdom (by omega) (by omega) rfl rfl rfl rfl
                  (grown_ok (lv := new') (z := z) (el := el) h.base q6 (by omega) (by omega) ((alloc_get w.drew _ _).trans (if_pos rfl)) (fun j v hj => by
                      rcases T.get_puts _ _ _ _ _ hj with ⟨_, a⟩ | ⟨_, a⟩
                      · obtain ⟨v', b1, b2⟩ := hnew.get' a
                        refine ⟨?_, v', by simpa using b1, b2.mono (Rho.le_upd hdom)⟩
                        have := (List.getElem?_eq_some_iff.1 a).1; omega
                      · simp [T.get_leaf] at a)) rfl (fun b e => by simp only [AO.cells.injEq] at e; subst e; rfl)
                  (s' := (s.newAt s.next (T.leaf.puts 0 new) (n * info.size) info.size).up 1) rfl rfl (.inl rfl)
                refine ⟨_, _, _, hg, ?_, hR, hE⟩
                have := VR.slice (r := r.upd s.next ⟨w.heap.size, 0, grownCap w n 0 el⟩) (i := s.next) (o := 0) (n := n) (c := CB) Rho.upd_same (by rw [sub_cap (Nat.le_refl _)]; simpa using hge)
                rw [sub_cap (Nat.le_refl _)] at this
                simpa using this
          · rename_i i o
            split at hb
            · rename_i b hbk
              obtain ⟨l, hr, hbok⟩ := h.obj _ _ hbk
              obtain ⟨c, e, fz, hheap, hcells, hfree, hlow⟩ := hbok
              cases hcb : Nat.ble CB cap with
              | true =>
                rw [hcb, cond_true] at hb
                have hcb := of_bleT hcb
                cases hck : (Nat.beq o ((cap - CB) * info.size) && Nat.beq b.es info.size && Nat.ble (o + len * info.size) b.n && b.wr) with
                | false => rw [hck, cond_false] at hb; simp at hb
                | true =>
                  rw [hck, cond_true] at hb
                  simp only [Bool.and_eq_true, Nat.beq_eq, Nat.ble_eq] at hck
                  obtain ⟨⟨⟨k1, k2⟩, k3⟩, k4⟩ := hck
                  split at hb
                  · rename_i tt htt
                    have hft := frontOf_spec htt (fun j v hj => (hcells j v hj).1)
                    split at hb
                    · rename_i s1 hkill
                      split at hb
                      · rename_i lst hlst
                        simp only [Option.some.injEq, Prod.mk.injEq] at hb
                        obtain ⟨rfl, rfl⟩ := hb
                        obtain ⟨e1, e2, e3, e4⟩ := kill_spec h hkill
                        obtain ⟨t1, t2⟩ := trimCl_spec lst s1.h keepMax
                        generalize hs2 : (⟨(trimCl s1.h keepMax lst).1, s.next, s1.cl.put b.cls (some (trimCl s1.h keepMax lst).2)⟩ : St) = s2
                        have hs2h : s2.h = (trimCl s1.h keepMax lst).1 := by rw [← hs2]
                        have hs2n : s2.next = s.next := by rw [← hs2]
                        have hsub : ∀ m o, s2.h.get m = some o → s.h.get m = some o := fun m o hm => e2 m o (t1 m o (by rw [← hs2h]; exact hm))
                        have hend : ∀ m b', s2.h.get m = some (.cells b') → b'.wr = true → b'.cls = b.cls → b'.cs + b'.n ≤ b.cs + (o + len * info.size) := by
                          intro m b' hm hw hcl
                          have hm1 := t1 m _ (by rw [← hs2h]; exact hm)
                          by_cases hmi : m = (bif Nat.beq b.n (o + len * info.size) then i else s.next)
                          · cases hbn : Nat.beq b.n (o + len * info.size) with
                            | true =>
                              rw [hbn, cond_true] at hmi
                              subst hmi
                              have := hsub _ _ hm
                              rw [hbk] at this; simp only [Option.some.injEq, AO.cells.injEq] at this; subst this
                              have : b.n = o + len * info.size := by simpa using hbn
                              omega
                            | false =>
                              rw [hbn, cond_false] at hmi
                              subst hmi
                              obtain ⟨lx, hx1, _⟩ := h.obj _ _ (hsub _ _ hm)
                              rw [hdom] at hx1; simp at hx1
                          · exact e3 m b' hmi hm1 hw hcl
                        -- the class
                        have hmemf : ∀ (x : Nat) (bx : Blk), (((trimCl s1.h keepMax lst).1.put s.next (some (.cells { t := tt.puts (len * info.size) new, n := (len + n) * info.size, es := info.size, cls := b.cls, cs := b.cs + o, wr := true }))).get x = some (.cells bx)) → bx.wr = true →
                            ∀ m, (s1.cl.put b.cls (some (s.next :: (trimCl s1.h keepMax lst).2))).get bx.cls = some m → x ∈ m := by
                          intro x bx hx hw m hm
                          rcases T.get_put _ _ _ _ _ hx with ⟨rfl, f2⟩ | ⟨f1, f2⟩
                          · simp only [Option.some.injEq, AO.cells.injEq] at f2
                            subst f2
                            rcases T.get_put _ _ _ _ _ hm with ⟨_, g2⟩ | ⟨g1, _⟩
                            · simp only [Option.some.injEq] at g2; subst g2; simp
                            · exact absurd rfl g1
                          · rcases T.get_put _ _ _ _ _ hm with ⟨g1, g2⟩ | ⟨g1, g2⟩
                            · simp only [Option.some.injEq] at g2; subst g2
                              exact List.mem_cons_of_mem _ (t2 x (e4.mem x bx (t1 _ _ f2) hw lst (by rw [g1]; exact hlst)) _ f2)
                            · exact e4.mem x bx (t1 _ _ f2) hw m g2
                        have hkk : o = (cap - CB) * info.size := k1
                        have hVR : ∀ (r2 : Rho) (L : Loc), r2 s.next = some L → len + n ≤ L.cap → VR r2 (.slice (some ⟨s.next, 0, none⟩) (len + n) CB) (.slice (some ⟨L.blk, 0 + L.sh, none⟩) (len + n) L.cap) := by
                          intro r2 L h1 h2
                          have := VR.slice (r := r2) (i := s.next) (o := 0) (n := len + n) (c := CB) h1 (by rw [sub_cap (Nat.le_refl _)]; simpa using h2)
                          rw [sub_cap (Nat.le_refl _)] at this
                          simpa using this
                        have grown : ∀ (base' : Option Addr) (cap' : Nat) (old' : List Value), old'.length = len * info.size → (Builtin.firstCells info.size len (.slice base' len cap')).run P w.drew = .ok old'.toArray w.drew → cap' < len + n →
                            (∀ j v, tt.get j = some v → ∃ v', old'[j]? = some v' ∧ VR r v v') →
                            ∃ r' v' w', (Builtin.append_ #[t, tx] ty #[.slice base' len cap', y']).run P w = .ok v' w' ∧ VR r' (.slice (some ⟨s.next, 0, none⟩) (len + n) CB) v' ∧
                              Rel G W0 r' { h := (trimCl s1.h keepMax lst).1.put s.next (some (.cells { t := tt.puts (len * info.size) new, n := (len + n) * info.size, es := info.size, cls := b.cls, cs := b.cs + o, wr := true })), next := s.next + 1, cl := s1.cl.put b.cls (some (s.next :: (trimCl s1.h keepMax lst).2)) } w' ∧
                              Ext r s w r' { h := (trimCl s1.h keepMax lst).1.put s.next (some (.cells { t := tt.puts (len * info.size) new, n := (len + n) * info.size, es := info.size, cls := b.cls, cs := b.cs + o, wr := true })), next := s.next + 1, cl := s1.cl.put b.cls (some (s.next :: (trimCl s1.h keepMax lst).2)) } w' := by
                          intro base' cap' old' hol hof hcap' hold
                          have hg := law.grow base' len cap' old' hof hcap' q1 q2 q3
                          have hge := grownCap_ge w (len + n) cap' el
                          have hrel2 : Rel G W0 r s2 w := e4.less (by rw [hs2n, e1]) (fun m o hm => t1 m o (by rw [← hs2h]; exact hm)) (by
                            intro x bx hx hw m hm
                            rw [← hs2] at hm
                            simp only at hm
                            have hx1 := t1 _ _ (by rw [← hs2h]; exact hx)
                            rcases T.get_put _ _ _ _ _ hm with ⟨g1, g2⟩ | ⟨g1, g2⟩
                            · simp only [Option.some.injEq] at g2; subst g2
                              exact t2 x (e4.mem x bx hx1 hw lst (by rw [g1]; exact hlst)) _ (by rw [← hs2h]; exact hx)
                            · exact e4.mem x bx hx1 hw m g2)
                          obtain ⟨hR, hE⟩ := hrel2.newObj (i := s.next) (k := 1) (cap := grownCap w (len + n) cap' el) (w1 := w.drew.alloc (.cells ((old' ++ new').toArray ++ Builtin.zeroCells z.cells (grownCap w (len + n) cap' el - (len + n))) el))
                            (o := .cells { t := tt.puts (len * info.size) new, n := (len + n) * info.size, es := info.size, cls := b.cls, cs := b.cs + o, wr := true })
                            hdom (by omega) (by omega) rfl rfl rfl rfl
                            (grown_ok (lv := old' ++ new') (z := z) (el := el) h.base q6 hge (by simp; omega) ((alloc_get w.drew _ _).trans (if_pos rfl)) (fun j v hj => by
                                rcases T.get_puts _ _ _ _ _ hj with ⟨a0, a⟩ | ⟨a0, a⟩
                                · obtain ⟨v', b1, b2⟩ := hnew.get' a
                                  have hjl := (List.getElem?_eq_some_iff.1 a).1
                                  refine ⟨by omega, v', ?_, b2.mono (Rho.le_upd hdom)⟩
                                  rw [List.getElem?_append_right (by omega), hol]; exact b1
                                · obtain ⟨v', b1, b2⟩ := hold j v a
                                  have hjl := (hft j v a).1
                                  refine ⟨by omega, v', ?_, b2.mono (Rho.le_upd hdom)⟩
                                  rw [List.getElem?_append_left (by omega)]; exact b1)) rfl
                            (fun bx ex => by
                              simp only [AO.cells.injEq] at ex; subst ex
                              intro hnone
                              have hcne : r b.cls ≠ none := h.clsd i b hbk k4
                              cases hrc : r b.cls with
                              | none => exact hcne hrc
                              | some L => have := Rho.le_upd (l := ⟨w.heap.size, 0, grownCap w (len + n) cap' el⟩) hdom _ _ hrc; simp only at hnone; rw [this] at hnone; simp at hnone)
                            (s' := { h := (trimCl s1.h keepMax lst).1.put s.next (some (.cells { t := tt.puts (len * info.size) new, n := (len + n) * info.size, es := info.size, cls := b.cls, cs := b.cs + o, wr := true })), next := s.next + 1, cl := s1.cl.put b.cls (some (s.next :: (trimCl s1.h keepMax lst).2)) })
                            (by rw [hs2h]) (by rw [hs2n]) hmemf
                          refine ⟨_, _, _, hg, hVR _ _ Rho.upd_same hge, hR, ?_⟩
                          exact Ext.trans (⟨.refl r, by rw [hs2n]; exact Nat.le_refl _, Nat.le_refl _, rfl, rfl, rfl, fun _ _ h => h, fun x _ hp => ⟨rfl, hp.less hsub⟩⟩ : Ext r s w r s2 w) hE
                        have hfree' := hfree k4
                        cases hx with
                        | @slice0 _ _ _ xa _ =>
                          refine grown (some xa) 0 [] (by simp) (by simpa using (run_firstCells_some (P := P) w.drew info.size 0 xa 0 0 [] (by simp) (by simp))) (by omega) (fun j v hj => ?_)
                          have := (hft j v hj).1; omega
                        | slice hr2 hle =>
                          rw [hr] at hr2; simp only [Option.some.injEq] at hr2; subst hr2
                          rw [sub_cap hcb] at hle ⊢
                          by_cases hroom : len + n ≤ l.cap - (cap - CB)
                          · obtain ⟨w1, hst, hR, hE⟩ := h.inPlace (P := P) (s2 := s2) (s3 := { h := (trimCl s1.h keepMax lst).1.put s.next (some (.cells { t := tt.puts (len * info.size) new, n := (len + n) * info.size, es := info.size, cls := b.cls, cs := b.cs + o, wr := true })), next := s.next + 1, cl := s1.cl.put b.cls (some (s.next :: (trimCl s1.h keepMax lst).2)) })
                              hbk k4 hr k2 q5 hkk hroom hn hsub hs2n hend k3 hft q4 hnew q7 (by rw [hs2h]) rfl hmemf
                            refine ⟨_, _, w1, law.room (some ⟨l.blk, o + l.sh, none⟩) len _ w1 hroom (by simp only [add_off]; exact hst), ?_, hR, hE⟩
                            have := hVR _ _ (Rho.upd_same (r := r) (i := s.next) (l := ⟨l.blk, o + l.sh, l.cap - (cap - CB)⟩)) hroom
                            simpa using this
                          · obtain ⟨old', hol, hog, horun⟩ := loadRow (P := P) hheap (o := o + l.sh) (len * info.size) (by have := hfree'.2.2.1; omega)
                            refine grown _ _ old' hol (by simpa [Builtin.firstCells] using horun w.drew rfl) (by omega) (fun j v hj => ?_)
                            obtain ⟨f1, f2⟩ := hft j v hj
                            obtain ⟨_, v', f3, f4⟩ := hcells _ _ f2
                            refine ⟨v', ?_, f4⟩
                            rw [hog j f1, show o + l.sh + j = o + j + l.sh by omega]; exact f3
                      · simp at hb
                    · simp at hb
                  · simp at hb
              | false =>
                rw [hcb, cond_false] at hb
                have hcb : cap < CB := by
                  by_cases e : CB ≤ cap
                  · rw [bleT e] at hcb; simp at hcb
                  · omega
                split at hb
                · rename_i old hold
                  simp only [Option.some.injEq, Prod.mk.injEq] at hb
                  obtain ⟨rfl, rfl⟩ := hb
                  have hld : s.loadAt i o (len * info.size) = some old := by unfold St.loadAt; rw [hbk]; exact hold
                  obtain ⟨l2, hr2, old', hov, hol, horun⟩ := h.load (P := P) hld
                  rw [hr] at hr2; simp only [Option.some.injEq] at hr2; subst hr2
                  have hall := hov.append hnew
                  have grown : ∀ (base' : Option Addr) (cap' : Nat), (Builtin.firstCells info.size len (.slice base' len cap')).run P w.drew = .ok old'.toArray w.drew → cap' < len + n →
                      ∃ r' v' w', (Builtin.append_ #[t, tx] ty #[.slice base' len cap', y']).run P w = .ok v' w' ∧ VR r' (.slice (some ⟨s.next, 0, none⟩) (len + n) CB) v' ∧
                        Rel G W0 r' ((s.newAt s.next (T.leaf.puts 0 (old ++ new)) ((len + n) * info.size) info.size).up 1) w' ∧ Ext r s w r' ((s.newAt s.next (T.leaf.puts 0 (old ++ new)) ((len + n) * info.size) info.size).up 1) w' := by
                    intro base' cap' hof hcap'
                    have hg := law.grow base' len cap' old' hof hcap' q1 q2 q3
                    have hge := grownCap_ge w (len + n) cap' el
                    obtain ⟨hR, hE⟩ := h.newAny (i := s.next) (k := 1) (cap := grownCap w (len + n) cap' el) (w1 := w.drew.alloc (.cells ((old' ++ new').toArray ++ Builtin.zeroCells z.cells (grownCap w (len + n) cap' el - (len + n))) el))
                      (o := .cells { t := T.leaf.puts 0 (old ++ new), n := (len + n) * info.size, es := info.size, cls := s.next, cs := 0, wr := true })
                      hdom (by omega) (by omega) rfl rfl rfl rfl
                      (grown_ok (lv := old' ++ new') (z := z) (el := el) h.base q6 hge (by simp; omega) ((alloc_get w.drew _ _).trans (if_pos rfl)) (fun j v hj => by
                          rcases T.get_puts _ _ _ _ _ hj with ⟨_, a⟩ | ⟨_, a⟩
                          · obtain ⟨v', b1, b2⟩ := hall.get' a
                            refine ⟨?_, v', by simpa using b1, b2.mono (Rho.le_upd hdom)⟩
                            have := (List.getElem?_eq_some_iff.1 a).1
                            have h1 := hall.length
                            simp at this h1; omega
                          · simp [T.get_leaf] at a)) rfl (fun b e => by simp only [AO.cells.injEq] at e; subst e; rfl)
                      (s' := (s.newAt s.next (T.leaf.puts 0 (old ++ new)) ((len + n) * info.size) info.size).up 1) rfl rfl (.inl rfl)
                    refine ⟨_, _, _, hg, ?_, hR, hE⟩
                    have := VR.slice (r := r.upd s.next ⟨w.heap.size, 0, grownCap w (len + n) cap' el⟩) (i := s.next) (o := 0) (n := len + n) (c := CB) Rho.upd_same (by rw [sub_cap (Nat.le_refl _)]; simpa using hge)
                    rw [sub_cap (Nat.le_refl _)] at this
                    simpa using this
                  cases hx with
                  | @slice0 _ _ _ xa hcb2 =>
                    have hnil : old' = [] := List.eq_nil_of_length_eq_zero (by omega)
                    subst hnil
                    exact grown (some xa) 0 (by simpa using (run_firstCells_some (P := P) w.drew info.size 0 xa 0 0 [] (by simp) (by simp))) (by omega)
                  | slice hr3 hle =>
                    rw [hr] at hr3; simp only [Option.some.injEq] at hr3; subst hr3
                    have hcapOf : l.capOf cap = cap := by unfold Loc.capOf; rw [if_pos hcb]
                    rw [hcapOf] at hle ⊢
                    exact grown _ cap (by simpa [Builtin.firstCells] using horun w.drew rfl) (hnoroom hcb)
                · simp at hb
            · simp at hb
          · simp at hb
  · simp at hb

end Go.Ev
namespace Go.Ev

variable {P : Program} {G W0 : Nat} {r : Rho} {s : St} {w : World}

def EnvR (r : Rho) (e : Env) (a : Array Value) : Prop := ∀ t v, T.get e t = some v → ∃ v', a[t]? = some v' ∧ VR r v v'

theorem EnvR.mono {r r' : Rho} {e : Env} {a : Array Value} (hr : r.le r') (h : EnvR r e a) : EnvR r' e a :=
  fun t v hv => let ⟨v', x, y⟩ := h t v hv; ⟨v', x, y.mono hr⟩

theorem ev_sound (hg : ∀ g, g < P.globals.size → r g = some ⟨g, 0, 0⟩) {e : Env} {a : Act} (he : EnvR r e a.tmps) {x : Operand} {v : Value} (hx : Env.ev P e x = some v) : VR r v (a.eval x) := by
  cases x with
  | tmp t =>
    obtain ⟨v', h1, h2⟩ := he t v hx
    have : a.eval (.tmp t) = v' := by simp [Act.eval, h1]
    rw [this]; exact h2
  | const c =>
    simp only [Env.ev] at hx
    cases hf : flatV 8 c with
    | true => rw [hf, cond_true] at hx; simp only [Option.some.injEq] at hx; subst hx; exact flatV_sound r 8 _ hf
    | false => rw [hf, cond_false] at hx; simp at hx
  | global g =>
    simp only [Env.ev] at hx
    cases hf : Nat.blt g P.globals.size with
    | true =>
      rw [hf, cond_true] at hx; simp only [Option.some.injEq] at hx; subst hx
      have := VR.ptr (r := r) (o := 0) (hg g (by have := of_bleT hf; omega))
      simpa [Act.eval] using this
    | false => rw [hf, cond_false] at hx; simp at hx
  | func f => simp only [Env.ev, Option.some.injEq] at hx; subst hx; exact VR.func_list .nil .nil

theorem evs_sound (hg : ∀ g, g < P.globals.size → r g = some ⟨g, 0, 0⟩) {e : Env} {a : Act} (he : EnvR r e a.tmps) : ∀ (l : List Operand) (vs : List Value), Env.evs P e l = some vs → LR r vs (l.map a.eval) := by
  intro l
  induction l with
  | nil => intro vs h; simp only [Env.evs, Option.some.injEq] at h; subst h; exact .nil
  | cons x l ih =>
    intro vs h
    simp only [Env.evs] at h
    split at h
    · rename_i v hv
      split at h
      · rename_i vs' hvs
        simp only [Option.some.injEq] at h; subst h
        exact .cons (ev_sound hg he hv) (ih _ hvs)
      · simp at h
    · simp at h

/-! ## equality -/

theorem VR.flat_eq {v v' : Value} (h : VR r v v') : (∀ b, v = .bool b → v' = .bool b) ∧ (∀ k n, v = .int k n → v' = .int k n) ∧ (∀ b, v = .string b → v' = .string b) := by
  cases h <;> simp

theorem part_sound {t : TypeId} {cs cs' : Array Value} {off : Nat} {v : Value} (h : partAt P t cs off = some v) (hv : LR r cs.toList cs'.toList) (w : World) :
    ∃ v', (part t cs' off).run P w = .ok v' w ∧ VR r v v' := by
  unfold partAt at h
  have hagg : ∀ b, isAgg? P t = some b → (isAgg t).run P w = .ok b w := by
    intro b hb
    unfold isAgg? at hb
    unfold isAgg
    split at hb
    · rename_i d hd; simp only [Option.some.injEq] at hb; subst hb; simp [run_under hd]
    · rename_i n el hd; simp only [Option.some.injEq] at hb; subst hb; simp [run_under hd]
    · rename_i d _ _ hd
      simp only [Option.some.injEq] at hb; subst hb
      simp only [Sem.run_bind, run_under hd, Result.andThen_ok]
      cases d <;> simp_all
    · simp at hb
  split at h
  · rename_i hb
    unfold sizeOf? at h
    cases hi : P.info? t with
    | none => rw [hi] at h; simp at h
    | some i =>
      rw [hi] at h; simp only [Option.map_some, Option.some.injEq] at h; subst h
      refine ⟨.agg (cs'.extract off (off + i.size)), ?_, ?_⟩
      · unfold part; simp [hagg _ hb, run_sizeOf' hi]
      · refine VR.agg_list.2 ?_
        simp only [Array.toList_extract, List.extract_eq_take_drop]
        exact (hv.drop _).take _
  · rename_i hb
    obtain ⟨v', h1, h2⟩ := hv.get' (i := off) (v := v) (by simpa using h)
    refine ⟨v', ?_, h2⟩
    unfold part; simp only [Sem.run_bind, hagg _ hb, Result.andThen_ok]
    have : cs'[off]? = some v' := by simpa using h1
    simp [this]
  · simp at h

theorem run_forIn_all {α : Type} (P : Program) (w : World) (F : α → Option Bool × PUnit → Sem (ForInStep (Option Bool × PUnit))) (g : α → Option Bool) (fs : Array α) (b : Bool) (h : allB g fs.toList = some b)
    (hf : ∀ x, x ∈ fs.toList → ∀ b, g x = some b → (F x (none, PUnit.unit)).run P w = .ok (if b then .yield (none, PUnit.unit) else .done (some false, PUnit.unit)) w) :
    (forIn fs ((none : Option Bool), PUnit.unit) F : Sem (Option Bool × PUnit)).run P w = .ok (if b then none else some false, PUnit.unit) w := by
  rw [← Array.forIn_toList]
  generalize fs.toList = l at h hf
  induction l with
  | nil => simp only [allB, Option.some.injEq] at h; subst h; simp
  | cons x l ih =>
    simp only [allB] at h
    split at h
    · rename_i hx
      simp only [List.forIn_cons, Sem.run_bind, hf x (by simp) _ hx, Result.andThen_ok]
      simpa using ih h (fun y hy => hf y (List.mem_cons_of_mem _ hy))
    · rename_i hx
      simp only [Option.some.injEq] at h; subst h
      simp [List.forIn_cons, hf x (by simp) _ hx]
    · simp at h

theorem VR.isNone_ptr {a : Option Addr} {v' : Value} (h : VR r (.pointer a) v') : ∃ a', v' = .pointer a' ∧ a'.isNone = a.isNone := by
  cases h <;> exact ⟨_, rfl, rfl⟩

theorem VR.isNone_slice {a : Option Addr} {n c : Nat} {v' : Value} (h : VR r (.slice a n c) v') : ∃ a' n' c', v' = .slice a' n' c' ∧ a'.isNone = a.isNone := by
  cases h <;> exact ⟨_, _, _, rfl, rfl⟩

theorem VR.isNone_map {a : Option Nat} {v' : Value} (h : VR r (.map a) v') : ∃ a', v' = .map a' ∧ a'.isNone = a.isNone := by
  cases h <;> exact ⟨_, rfl, rfl⟩

set_option maxHeartbeats 2000000 in
theorem aEq_sound : ∀ (d : Nat) (t : TypeId) (x y x' y' : Value) (b : Bool), aEq P d t x y = some b → VR r x x' → VR r y y' → (Op.equalIn d t x' y').run P w = .ok b w := by
  intro d
  induction d with
  | zero => intro t x y x' y' b h; simp [aEq] at h
  | succ d ih =>
    intro t x y x' y' b h hx hy
    simp only [aEq] at h
    split at h
    · rename_i hu; simp only [Option.some.injEq] at h; subst h; cases hx; cases hy; simp [Op.equalIn, run_underlying hu]
    · rename_i hu
      split at h
      · rename_i hk; simp only [Option.some.injEq] at h; subst h; cases hx; cases hy; simp [Op.equalIn, run_underlying hu, hk]
      · simp at h
    · rename_i hu; simp only [Option.some.injEq] at h; subst h; cases hx; cases hy; simp [Op.equalIn, run_underlying hu]
    · rename_i hu; simp only [Option.some.injEq] at h; subst h; cases hx; obtain ⟨a', rfl, e⟩ := hy.isNone_ptr; rw [← e]; simp [Op.equalIn, run_underlying hu]
    · rename_i hne hu; simp only [Option.some.injEq] at h; subst h; cases hy; obtain ⟨a', rfl, e⟩ := hx.isNone_ptr
      cases a' with
      | none => simp at e; exact absurd e.symm (by rename_i a0 _ _; cases a0 <;> simp_all)
      | some _ => simp [Op.equalIn, run_underlying hu]
    · rename_i hu; simp only [Option.some.injEq] at h; subst h; cases hx; cases hy; simp [Op.equalIn, run_underlying hu]
    · rename_i hu; simp only [Option.some.injEq] at h; subst h; cases hx; cases hy; simp [Op.equalIn, run_underlying hu]
    · rename_i hu; simp only [Option.some.injEq] at h; subst h; cases hx; cases hy; simp [Op.equalIn, run_underlying hu]
    · rename_i hu
      split at h
      · rename_i hne; simp only [Option.some.injEq] at h; subst h; cases hx; cases hy; simp [Op.equalIn, run_underlying hu, hne]
      · rename_i heq
        split at h
        · rename_i i hi
          split at h
          · rename_i hc
            cases hx with
            | iface _ hx => cases hy with
              | iface _ hy =>
                have := ih _ _ _ _ _ _ h hx hy
                simp only [ne_eq, Decidable.not_not] at heq
                subst heq
                simp [Op.equalIn, run_underlying hu, run_typeInfo hi, hc, this]
          · simp at h
        · simp at h
    · rename_i fields xs ys hu
      split at h
      · simp at h
      · rename_i hs
        cases hx with
        | agg hxs hx1 => cases hy with
          | agg hys hy1 =>
            rename_i xs' ys'
            have lx := VR.agg_list.1 (VR.agg hxs hx1)
            have ly := VR.agg_list.1 (VR.agg hys hy1)
            have hs : P.stoodInHeld t = false := by simpa using hs
            simp only [Op.equalIn, Sem.run_bind, run_under hu, Result.andThen_ok]
            simp only [program, Sem.run_bind, Sem.run, hs, Result.andThen_ok, Bool.false_eq_true, if_false]
            rw [run_forIn_all P w _ _ fields b h]
            · cases b <;> simp
            · intro f hf b' hb'
              split at hb'
              · rename_i hname
                split at hb'
                · rename_i a1 b1 ha hb
                  obtain ⟨a2, p1, p2⟩ := part_sound ha lx w
                  obtain ⟨b2, q1, q2⟩ := part_sound hb ly w
                  have := ih _ _ _ _ _ _ hb' p2 q2
                  simp only [if_pos hname, Sem.run_bind, p1, q1, this, Result.andThen_ok]
                  cases b' <;> simp
                · simp at hb'
              · rename_i hname
                simp only [Option.some.injEq] at hb'; subst hb'
                simp [if_neg hname]
    · rename_i hu; simp only [Option.some.injEq] at h; subst h; obtain ⟨a', n', c', rfl, e⟩ := hx.isNone_slice; obtain ⟨b', n2, c2, rfl, e2⟩ := hy.isNone_slice
      cases a' with
      | some _ => simp at e
      | none => rw [← e2]; simp [Op.equalIn, run_underlying hu]
    · rename_i hne hu; simp only [Option.some.injEq] at h; subst h; obtain ⟨a', n', c', rfl, e⟩ := hx.isNone_slice; obtain ⟨b', n2, c2, rfl, e2⟩ := hy.isNone_slice
      cases b' with
      | some _ => simp at e2
      | none => cases a' with
        | none => simp at e; exact absurd e.symm (by rename_i a0 _ _ _ _ _ _; cases a0 <;> simp_all)
        | some _ => simp [Op.equalIn, run_underlying hu]
    · rename_i hu; simp only [Option.some.injEq] at h; subst h; cases hx; obtain ⟨a', rfl, e⟩ := hy.isNone_map; rw [← e]; simp [Op.equalIn, run_underlying hu]
    · rename_i hne hu; simp only [Option.some.injEq] at h; subst h; cases hy; obtain ⟨a', rfl, e⟩ := hx.isNone_map
      cases a' with
      | none => simp at e; exact absurd e.symm (by rename_i a0 _ _; cases a0 <;> simp_all)
      | some _ => simp [Op.equalIn, run_underlying hu]
    · rename_i hu; simp only [Option.some.injEq] at h; subst h; cases hx; cases hy; simp [Op.equalIn, run_underlying hu]
    · rename_i hu; simp only [Option.some.injEq] at h; subst h; cases hx; cases hy <;> simp [Op.equalIn, run_underlying hu]
    · rename_i hu; simp only [Option.some.injEq] at h; subst h; cases hx <;> cases hy <;> simp [Op.equalIn, run_underlying hu]
    · simp at h

end Go.Ev
namespace Go.Ev

variable {P : Program} {G W0 : Nat} {r : Rho} {s : St} {w : World}

theorem guard_other {op : BinOp} {t : TypeId} {x y : Operand} {a b : Value} (h : ∀ p q, ¬ (a = .nilIface ∧ b = .nilIface) ∧ ¬ (a = .agg p ∧ b = .agg q)) : (eqGuard op t x y a b).run P w = .ok () w := by
  unfold eqGuard
  cases a <;> cases b <;> first
    | (exfalso; exact (h #[] #[]).1 ⟨rfl, rfl⟩)
    | (exfalso; exact (h _ _).2 ⟨rfl, rfl⟩)
    | (simp only [Sem.run_pure, ite_self]; done)
    | (split <;> simp; done)
    | simp

theorem aBin_int {op : BinOp} {t : TypeId} {x y : Operand} {k k' : IntKind} {m n : Int} {v : Value} (h : aBin P op t x y (.int k m) (.int k' n) = some v) :
    (binOp op t (.int k m) (.int k' n)).run P w = .ok v w ∧ ∀ r, VR r v v := by
  unfold aBin at h
  cases op <;> simp only at h
  all_goals first
    | (split at h
       · simp at h
       · rename_i hb
         simp only [Option.some.injEq] at h; subst h
         refine ⟨?_, fun r => .int _ _⟩
         simp [binOp, Op.shift, hb]; done)
    | (split at h
       · simp at h
       · rename_i hb
         have hb : k = k' := by simpa using hb
         subst hb
         first
           | (split at h
              · simp at h
              · rename_i h0
                simp only [Option.some.injEq] at h; subst h
                refine ⟨?_, fun r => .int _ _⟩
                simp [binOp, Op.intDiv, h0]; done)
           | (simp only [Option.some.injEq] at h; subst h
              refine ⟨?_, fun r => by first | exact .int _ _ | exact .bool _⟩
              simp [binOp, Op.intArith, Op.intBits, Op.intCmp]; done)
           | simp at h)

theorem aBin_string {op : BinOp} {t : TypeId} {x y : Operand} {m n : ByteArray} {v : Value} (h : aBin P op t x y (.string m) (.string n) = some v) :
    (binOp op t (.string m) (.string n)).run P w = .ok v w ∧ ∀ r, VR r v v := by
  unfold aBin at h
  cases op <;> simp only at h
  all_goals first
    | (split at h
       · rename_i hs
         simp only [Option.some.injEq] at h; subst h
         refine ⟨?_, fun r => .string _⟩
         have : ¬ (((m.size + n.size : Nat) : Int) > IntKind.i64.max) := by simp [IntKind.max, IntKind.signed, IntKind.bits]; omega
         simp only [binOp, Op.stringOp, Sem.run_ite]
         rw [if_neg this]; simp
       · simp at h)
    | (simp only [Option.some.injEq] at h; subst h
       exact ⟨by simp [binOp, Op.stringOp], fun r => .bool _⟩)
    | simp at h

theorem binOp_eql {t : TypeId} {a b : Value} {q : Bool} (hi : ∀ k n k' n', ¬ (a = .int k n ∧ b = .int k' n')) (hs : ∀ m n, ¬ (a = .string m ∧ b = .string n))
    (hf : ∀ k m k' n, ¬ (a = .float k m ∧ b = .float k' n)) (hc : ∀ k m m' k' n n', ¬ (a = .complex k m m' ∧ b = .complex k' n n'))
    (h : (Op.equalIn 10000 t a b).run P w = .ok q w) : (binOp .eql t a b).run P w = .ok (.bool q) w ∧ (binOp .neq t a b).run P w = .ok (.bool (!q)) w := by
  constructor
  · unfold binOp
    split <;> first
      | (exfalso; first | exact hi _ _ _ _ ⟨rfl, rfl⟩ | exact hs _ _ ⟨rfl, rfl⟩ | exact hf _ _ _ _ ⟨rfl, rfl⟩ | exact hc _ _ _ _ _ _ ⟨rfl, rfl⟩)
      | (simp only [Op.equal, Op.maxDepth, Sem.run_bind, h, Result.andThen_ok, Sem.run_pure]; done)
      | contradiction
      | (simp_all; done)
  · unfold binOp
    split <;> first
      | (exfalso; first | exact hi _ _ _ _ ⟨rfl, rfl⟩ | exact hs _ _ ⟨rfl, rfl⟩ | exact hf _ _ _ _ ⟨rfl, rfl⟩ | exact hc _ _ _ _ _ _ ⟨rfl, rfl⟩)
      | (simp only [Op.equal, Op.maxDepth, Sem.run_bind, h, Result.andThen_ok, Sem.run_pure]; done)
      | contradiction
      | (simp_all; done)

theorem guard_sound {op : BinOp} {t : TypeId} {x y : Operand} {a b a' b' : Value}
    (h : aGuard P t x y a b = true)
    (ha : VR r a a') (hb : VR r b b') : (eqGuard op t x y a' b').run P w = .ok () w := by
  unfold aGuard at h
  split at h
  · cases ha; cases hb
    simp only [Bool.or_eq_true] at h
    rcases h with h | h
    · cases x <;> simp [isConstO] at h
      simp only [eqGuard, Sem.run_pure, Bool.true_or, if_true, ite_self]
    · cases y <;> simp [isConstO] at h
      simp only [eqGuard, Sem.run_pure, Bool.or_true, if_true, ite_self]
  · cases ha; cases hb
    have h : P.eqGuardType P.depth t = false := by simpa using h
    unfold eqGuard
    simp only [program, Sem.run_ite, Sem.run_bind, Sem.run, Sem.run_pure, Result.andThen_ok, h, Bool.not_false, if_true, ite_self]
  · rename_i h1 h2
    refine guard_other fun p q => ⟨fun ⟨e1, e2⟩ => ?_, fun ⟨e1, e2⟩ => ?_⟩
    · subst e1; subst e2; cases ha; cases hb; exact h1 rfl rfl
    · subst e1; subst e2; cases ha; cases hb; exact h2 _ _ rfl rfl

theorem aBin_sound {op : BinOp} {t : TypeId} {x y : Operand} {a b a' b' v : Value} (h : aBin P op t x y a b = some v) (ha : VR r a a') (hb : VR r b b') :
    ((do eqGuard op t x y a' b'; binOp op t a' b') : Sem Value).run P w = .ok v w ∧ ∀ r, VR r v v := by
  by_cases hii : ∃ k m k' n, a = .int k m ∧ b = .int k' n
  · obtain ⟨k, m, k', n, rfl, rfl⟩ := hii
    cases ha; cases hb
    obtain ⟨h1, h2⟩ := aBin_int (w := w) h
    exact ⟨by rw [Sem.run_bind, guard_other (by simp)]; exact h1, h2⟩
  · by_cases hss : ∃ m n, a = .string m ∧ b = .string n
    · obtain ⟨m, n, rfl, rfl⟩ := hss
      cases ha; cases hb
      obtain ⟨h1, h2⟩ := aBin_string (w := w) h
      exact ⟨by rw [Sem.run_bind, guard_other (by simp)]; exact h1, h2⟩
    · unfold aBin at h
      split at h
      · exact absurd ⟨_, _, _, _, rfl, rfl⟩ hii
      · exact absurd ⟨_, _, rfl, rfl⟩ hss
      · generalize hq : aGuard P t x y a b = q at h
        cases q with
        | false => simp at h
        | true =>
          simp only [cond_true] at h
          have hg := guard_sound (w := w) (op := op) hq ha hb
          have hi' : ∀ k n k' n', ¬ (a' = .int k n ∧ b' = .int k' n') := fun k n k' n' ⟨e1, e2⟩ => by
            subst e1; subst e2; cases ha; cases hb; exact hii ⟨_, _, _, _, rfl, rfl⟩
          have hs' : ∀ m n, ¬ (a' = .string m ∧ b' = .string n) := fun m n ⟨e1, e2⟩ => by
            subst e1; subst e2; cases ha; cases hb; exact hss ⟨_, _, rfl, rfl⟩
          have hf' : ∀ k m k' n, ¬ (a' = .float k m ∧ b' = .float k' n) := fun k m k' n ⟨e1, e2⟩ => by subst e1; cases ha
          have hc' : ∀ k m m' k' n n', ¬ (a' = .complex k m m' ∧ b' = .complex k' n n') := fun k m m' k' n n' ⟨e1, e2⟩ => by subst e1; cases ha
          split at h
          · cases he : aEq P 10000 t a b with
            | none => rw [he] at h; simp at h
            | some q =>
              rw [he] at h; simp only [Option.map_some, Option.some.injEq] at h; subst h
              have := binOp_eql hi' hs' hf' hc' (aEq_sound (w := w) _ _ _ _ _ _ _ he ha hb)
              exact ⟨by rw [Sem.run_bind, hg]; exact this.1, fun _ => .bool _⟩
          · cases he : aEq P 10000 t a b with
            | none => rw [he] at h; simp at h
            | some q =>
              rw [he] at h; simp only [Option.map_some, Option.some.injEq] at h; subst h
              have := binOp_eql hi' hs' hf' hc' (aEq_sound (w := w) _ _ _ _ _ _ _ he ha hb)
              exact ⟨by rw [Sem.run_bind, hg]; exact this.2, fun _ => .bool _⟩
          · simp at h

end Go.Ev
namespace Go.Ev

variable {P : Program} {G W0 : Nat} {r : Rho} {s : St} {w : World}

inductive OVR (r : Rho) : Option Value → Option Value → Prop
  | none : OVR r none none
  | some {v v' : Value} (h : VR r v v') : OVR r (some v) (some v')

theorem aBound_sound {v v' : Value} {y y' n : Nat} {code : BoundsCode} (h : aBound v y = some n) (hv : VR r v v') (hy : y ≤ y') : (Instr.sliceBound v' y' code).run P w = .ok n w ∧ n ≤ y := by
  unfold aBound at h
  split at h
  · rename_i k i
    cases hv
    split at h
    · rename_i hc
      simp only [Option.some.injEq] at h; subst h
      refine ⟨?_, by omega⟩
      have : 0 ≤ i ∧ i ≤ (y' : Int) := ⟨hc.1, by omega⟩
      simp [Instr.sliceBound, asIntOf, this]
    · simp at h
  · simp at h

theorem aBounds_sound {len cap cap' : Nat} {lo hi mx lo' hi' mx' : Option Value} {l h : Nat} {m : Option Nat} {b : Bool} (e : aBounds len cap lo hi mx = some (l, h, m)) (hlo : OVR r lo lo') (hhi : OVR r hi hi') (hmx : OVR r mx mx')
    (h1 : len ≤ cap') (h2 : cap < CB → cap' = cap) :
    (Instr.sliceBounds b len cap' lo' hi' mx').run P w = .ok (l, h, m.getD cap') w ∧ l ≤ h ∧ h ≤ m.getD cap' ∧ (∀ q, m = some q → q ≤ cap' ∧ (CB ≤ cap → q ≤ len)) ∧ (m = none → CB ≤ cap → h ≤ len) := by
  have hbd : (bif Nat.ble CB cap then len else cap) ≤ cap' := by
    by_cases hc : CB ≤ cap
    · rw [bleT hc]; exact h1
    · rw [bleF hc, h2 (by omega)]; exact Nat.le_refl _
  unfold aBounds at e
  cases hmx with
  | some hm =>
    rename_i mv mv'
    simp only at e
    split at e
    · rename_i q hq
      obtain ⟨r1, r2⟩ := aBound_sound (P := P) (w := w) (code := (if b then BoundsCode.slice3Acap else BoundsCode.slice3Alen)) hq hm hbd
      cases hhi with
      | none => simp at e
      | some hh =>
        simp only at e
        split at e
        · rename_i h0 hh0
          obtain ⟨s1, s2⟩ := aBound_sound (P := P) (w := w) (code := BoundsCode.slice3B) hh0 hh (Nat.le_refl _)
          have hq2 : CB ≤ cap → q ≤ len := fun hc => by rw [bleT hc] at r2; exact r2
          cases hlo with
          | none =>
            simp only [Option.some.injEq, Prod.mk.injEq] at e
            obtain ⟨rfl, rfl, rfl⟩ := e
            exact ⟨by simp [Instr.sliceBounds, r1, s1], by omega, by simpa using s2, fun q' e => by simp only [Option.some.injEq] at e; subst e; exact ⟨by omega, hq2⟩, fun e => by simp at e⟩
          | some hl =>
            simp only at e
            cases ha : aBound _ h0 with
            | none => rw [ha] at e; simp at e
            | some l0 =>
              rw [ha] at e
              simp only [Option.map_some, Option.some.injEq, Prod.mk.injEq] at e
              obtain ⟨rfl, rfl, rfl⟩ := e
              obtain ⟨t1, t2⟩ := aBound_sound (P := P) (w := w) (code := BoundsCode.slice3C) ha hl (Nat.le_refl _)
              exact ⟨by simp [Instr.sliceBounds, r1, s1, t1], t2, by simpa using s2, fun q' e => by simp only [Option.some.injEq] at e; subst e; exact ⟨by omega, hq2⟩, fun e => by simp at e⟩
        · simp at e
    · simp at e
  | none =>
    simp only at e
    have key : ∀ h0, (match hi with | some h => aBound h (bif Nat.ble CB cap then len else cap) | none => some len) = some h0 →
        ((match hi' with | some v => Instr.sliceBound v cap' (if b then BoundsCode.sliceAcap else BoundsCode.sliceAlen) | none => pure len) : Sem Nat).run P w = .ok h0 w ∧ h0 ≤ cap' ∧ (CB ≤ cap → h0 ≤ len) := by
      intro h0 hh0
      cases hhi with
      | none => simp only [Option.some.injEq] at hh0; subst hh0; exact ⟨rfl, h1, fun _ => Nat.le_refl _⟩
      | some hh =>
        simp only at hh0
        obtain ⟨s1, s2⟩ := aBound_sound (P := P) (w := w) (code := (if b then BoundsCode.sliceAcap else BoundsCode.sliceAlen)) hh0 hh hbd
        exact ⟨s1, by omega, fun hc => by rw [bleT hc] at s2; exact s2⟩
    split at e
    · rename_i h0 hh0
      obtain ⟨k1, k2, k3⟩ := key h0 hh0
      cases hlo with
      | none =>
        simp only [Option.some.injEq, Prod.mk.injEq] at e
        obtain ⟨rfl, rfl, rfl⟩ := e
        refine ⟨?_, Nat.zero_le _, k2, fun q e => by simp at e, fun _ => k3⟩
        cases hi' <;> simp_all [Instr.sliceBounds]
      | some hl =>
        simp only at e
        cases ha : aBound _ h0 with
        | none => rw [ha] at e; simp at e
        | some l0 =>
          rw [ha] at e
          simp only [Option.map_some, Option.some.injEq, Prod.mk.injEq] at e
          obtain ⟨rfl, rfl, rfl⟩ := e
          obtain ⟨t1, t2⟩ := aBound_sound (P := P) (w := w) (code := BoundsCode.sliceB) ha hl (Nat.le_refl _)
          refine ⟨?_, t2, k2, fun q e => by simp at e, fun _ => k3⟩
          cases hi' <;> simp_all [Instr.sliceBounds]
    · simp at e

theorem VR.slice_at {i o n c c' : Nat} {l : Loc} (h : r i = some l) (hn : n ≤ c') (hc : l.capOf c = c') : VR r (.slice (some ⟨i, o, none⟩) n c) (.slice (some ⟨l.blk, o + l.sh, none⟩) n c') := by
  subst hc; exact .slice h hn

theorem sureAddr_run (a : Addr) : (Instr.sureAddr (.pointer (some a))).run P w = .ok a w := rfl

theorem aSlice_sound {t : TypeId} {x x' v : Value} {lo hi mx lo' hi' mx' : Option Value} (h : aSlice P t x lo hi mx = some v) (hx : VR r x x') (hlo : OVR r lo lo') (hhi : OVR r hi hi') (hmx : OVR r mx mx') :
    ∃ v', (Instr.sliceAt t x' lo' hi' mx').run P w = .ok v' w ∧ VR r v v' := by
  unfold aSlice at h
  split at h
  · rename_i b hu
    cases hx
    cases hmx with
    | some _ => simp at h
    | none =>
      simp only [Option.isSome_none, Bool.false_eq_true, if_false] at h
      cases ha : aBounds b.size b.size lo hi none with
      | none => rw [ha] at h; simp at h
      | some q =>
        obtain ⟨l, h0, m⟩ := q
        rw [ha] at h
        simp only [Option.map_some, Option.some.injEq] at h
        subst h
        obtain ⟨r1, r2, r3, r4, r5⟩ := aBounds_sound (P := P) (w := w) (b := false) (cap' := b.size) ha hlo hhi .none (Nat.le_refl _) (fun _ => rfl)
        exact ⟨_, by simp [Instr.sliceAt, Instr.slice, run_underlying hu, r1], .string _⟩
  · rename_i elem a len cap hu
    split at h
    · rename_i l h0 m size hb hsz
      have hinfo : ∃ i, P.info? elem = some i ∧ i.size = size := by
        unfold sizeOf? at hsz
        cases hi2 : P.info? elem with
        | none => rw [hi2] at hsz; simp at hsz
        | some i => rw [hi2] at hsz; exact ⟨i, rfl, by simpa using hsz⟩
      obtain ⟨inf, hinf, rfl⟩ := hinfo
      have fin : ∀ (a' : Option Addr) (cap' : Nat), len ≤ cap' → (cap < CB → cap' = cap) →
          (Instr.sliceAt t (.slice a' len cap') lo' hi' mx').run P w = .ok (.slice (if m.getD cap' = l then a' else a'.map (·.add (l * inf.size))) (h0 - l) (m.getD cap' - l)) w := by
        intro a' cap' e1 e2
        obtain ⟨r1, _⟩ := aBounds_sound (P := P) (w := w) (b := true) (cap' := cap') hb hlo hhi hmx e1 e2
        simp [Instr.sliceAt, Instr.slice, run_underlying hu, r1, run_sizeOf' hinf]
      split at h
      · -- nil
        simp only [Option.some.injEq] at h
        subst h
        cases hx with
        | nilSlice _ _ hle =>
          obtain ⟨_, r2, r3, r4, r5⟩ := aBounds_sound (P := P) (w := w) (b := true) (cap' := cap) hb hlo hhi hmx hle (fun _ => rfl)
          refine ⟨_, fin none cap hle (fun _ => rfl), ?_⟩
          cases m with
          | none => simp only [Option.getD_none, Option.map_none, ite_self]; simp at r3; exact .nilSlice _ _ (by omega)
          | some q => simp only [Option.getD_some, Option.map_none, ite_self]; simp at r3; exact .nilSlice _ _ (by omega)
      · rename_i i o
        split at h
        · rename_i q
          cases hcb : Nat.ble CB q with
          | true => rw [hcb, cond_true] at h; simp at h
          | false =>
            rw [hcb, cond_false] at h
            simp only [Option.some.injEq] at h
            subst h
            have hq : q < CB := by
              by_cases e : CB ≤ q
              · rw [bleT e] at hcb; simp at hcb
              · omega
            cases hx with
            | slice hr hle =>
              rename_i lc
              obtain ⟨_, r2, r3, r4, r5⟩ := aBounds_sound (P := P) (w := w) (b := true) (cap' := lc.capOf cap) hb hlo hhi hmx hle (fun e => by unfold Loc.capOf; rw [if_pos e])
              refine ⟨_, fin _ _ hle (fun e => by unfold Loc.capOf; rw [if_pos e]), ?_⟩
              simp only [Option.getD_some] at r3 ⊢
              have hcapq : lc.capOf (q - l) = q - l := by unfold Loc.capOf; rw [if_pos (by omega)]
              by_cases e : q = l
              · rw [if_pos e, beqT e, cond_true]
                exact VR.slice_at hr (by omega) hcapq
              · rw [if_neg e, beqF e, cond_false]
                simp only [Option.map_some, add_off]
                rw [show o + lc.sh + l * inf.size = o + l * inf.size + lc.sh by omega]
                exact VR.slice_at hr (by omega) hcapq
            | @slice0 _ _ _ xa hc0 =>
              obtain ⟨_, r2, r3, r4, r5⟩ := aBounds_sound (P := P) (w := w) (b := true) (cap' := 0) hb hlo hhi hmx (Nat.le_refl _) (fun e => by omega)
              have hq0 : q = 0 := by have := (r4 q rfl).1; omega
              subst hq0
              simp only [Option.getD_some] at r3
              refine ⟨_, fin _ 0 (Nat.le_refl _) (fun e => by omega), ?_⟩
              have : l = 0 := by omega
              subst this
              have : h0 = 0 := by omega
              subst this
              simp only [Option.getD_some, if_true, beqT, cond_true]
              exact .slice0 (.inr rfl)
        · -- the capacity is what it was
          cases hcb : Nat.ble CB cap with
          | true =>
            rw [hcb, cond_true] at h
            have hcb := of_bleT hcb
            simp only [Option.some.injEq] at h
            subst h
            cases hx with
            | slice hr hle =>
              rename_i lc
              obtain ⟨_, r2, r3, r4, r5⟩ := aBounds_sound (P := P) (w := w) (b := true) (cap' := lc.capOf cap) hb hlo hhi hmx hle (fun e => by omega)
              refine ⟨_, fin _ _ hle (fun e => by omega), ?_⟩
              simp only [Option.getD_none] at r3 ⊢
              by_cases e : lc.capOf cap = l
              · rw [if_pos e]
                have : h0 - l = 0 := by omega
                rw [this, show lc.capOf cap - l = 0 by omega]
                exact .slice0 (.inl (by omega))
              · rw [if_neg e]
                simp only [Option.map_some, add_off]
                rw [show o + lc.sh + l * inf.size = o + l * inf.size + lc.sh by omega]
                refine VR.slice_at hr (by omega) ?_
                rw [sub_cap hcb, sub_cap (by omega)]
                omega
            | @slice0 _ _ _ xa hc0 =>
              obtain ⟨_, r2, r3, r4, r5⟩ := aBounds_sound (P := P) (w := w) (b := true) (cap' := 0) hb hlo hhi hmx (Nat.le_refl _) (fun e => by omega)
              refine ⟨_, fin _ 0 (Nat.le_refl _) (fun e => by omega), ?_⟩
              simp only [Option.getD_none] at r3 ⊢
              have : l = 0 := by omega
              subst this
              have : h0 = 0 := by omega
              subst this
              simp only [if_true]
              exact .slice0 (.inl (by omega))
          | false =>
            rw [hcb, cond_false] at h
            have hcb : cap < CB := by
              by_cases e : CB ≤ cap
              · rw [bleT e] at hcb; simp at hcb
              · omega
            simp only [Option.some.injEq] at h
            subst h
            cases hx with
            | slice hr hle =>
              rename_i lc
              have hcapOf : lc.capOf cap = cap := by unfold Loc.capOf; rw [if_pos hcb]
              rw [hcapOf] at hle ⊢
              obtain ⟨_, r2, r3, r4, r5⟩ := aBounds_sound (P := P) (w := w) (b := true) (cap' := cap) hb hlo hhi hmx hle (fun e => rfl)
              refine ⟨_, fin _ _ hle (fun e => rfl), ?_⟩
              simp only [Option.getD_none] at r3 ⊢
              have hcapq : lc.capOf (cap - l) = cap - l := by unfold Loc.capOf; rw [if_pos (by omega)]
              by_cases e : cap = l
              · rw [if_pos e, beqT e, cond_true]
                exact VR.slice_at hr (by omega) hcapq
              · rw [if_neg e, beqF e, cond_false]
                simp only [Option.map_some, add_off]
                rw [show o + lc.sh + l * inf.size = o + l * inf.size + lc.sh by omega]
                exact VR.slice_at hr (by omega) hcapq
            | @slice0 _ _ _ xa hc0 =>
              have hc0 : cap = 0 := by rcases hc0 with e | e <;> omega
              subst hc0
              obtain ⟨_, r2, r3, r4, r5⟩ := aBounds_sound (P := P) (w := w) (b := true) (cap' := 0) hb hlo hhi hmx (Nat.le_refl _) (fun e => rfl)
              refine ⟨_, fin _ 0 (Nat.le_refl _) (fun e => rfl), ?_⟩
              simp only [Option.getD_none] at r3 ⊢
              have : l = 0 := by omega
              subst this
              have : h0 = 0 := by omega
              subst this
              simp only [if_true, beqT, cond_true]
              exact .slice0 (.inr rfl)
      · simp at h
    · simp at h
  · rename_i n elem i o hu
    split at h
    · rename_i l h0 m size hb hsz
      simp only at h
      cases hcb : Nat.ble CB n with
      | true => rw [hcb, cond_true] at h; simp at h
      | false =>
        rw [hcb, cond_false] at h
        have hcb : n < CB := by
          by_cases e : CB ≤ n
          · rw [bleT e] at hcb; simp at hcb
          · omega
        simp only [Option.some.injEq] at h
        subst h
        have hinfo : ∃ i, P.info? elem = some i ∧ i.size = size := by
          unfold sizeOf? at hsz
          cases hi2 : P.info? elem with
          | none => rw [hi2] at hsz; simp at hsz
          | some i => rw [hi2] at hsz; exact ⟨i, rfl, by simpa using hsz⟩
        obtain ⟨inf, hinf, rfl⟩ := hinfo
        cases hx with
        | ptr hr =>
          rename_i lc
          obtain ⟨r1, r2, r3, r4, r5⟩ := aBounds_sound (P := P) (w := w) (b := false) (cap' := n) hb hlo hhi hmx (Nat.le_refl _) (fun e => rfl)
          have hq : m.getD n ≤ n := by
            cases m with
            | none => exact Nat.le_refl _
            | some q => exact (r4 q rfl).1
          have hcapq : lc.capOf (m.getD n - l) = m.getD n - l := by unfold Loc.capOf; rw [if_pos (by omega)]
          refine ⟨.slice (some (if m.getD n = l then ⟨lc.blk, o + lc.sh, none⟩ else Addr.add ⟨lc.blk, o + lc.sh, none⟩ (l * inf.size))) (h0 - l) (m.getD n - l), ?_, ?_⟩
          · simp [Instr.sliceAt, run_underlying hu, sureAddr_run, r1, run_sizeOf' hinf]
          · by_cases e : m.getD n = l
            · rw [if_pos e, beqT e, cond_true]
              exact VR.slice_at hr (by omega) hcapq
            · rw [if_neg e, beqF e, cond_false, add_off]
              rw [show o + lc.sh + l * inf.size = o + l * inf.size + lc.sh by omega]
              exact VR.slice_at hr (by omega) hcapq
    · simp at h
  · simp at h

end Go.Ev
