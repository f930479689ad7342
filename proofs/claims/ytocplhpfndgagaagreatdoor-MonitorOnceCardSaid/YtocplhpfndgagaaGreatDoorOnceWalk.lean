/- MonitorOnce: its walk. -/
import Derived.Deep.OwnRows
import Derived.BigRegion
import Derived.Deep.QuietTactic
import Derived.BigQuiet
import Derived.Test.YtocplhpfndgagaaGreatDoorWatch
namespace Go.Proofs.YtocplhpfndgagaaGreatDoor
open Go.RowKit

/-- how often a check's failure was told, by its first -/
def tol (x : Int) : Int := if x = -1 then 0 else 1
def toldT (F : Nat → Int) (fl : List Nat) (j k : Nat) : Int := tol (F k) + (if k ∈ fl.take j then 1 else 0)
theorem tol_le (x : Int) : 0 ≤ tol x ∧ tol x ≤ 1 := by unfold tol; split <;> omega
theorem toldT_le (F : Nat → Int) (fl : List Nat) (j k : Nat) : 0 ≤ toldT F fl j k ∧ toldT F fl j k ≤ 2 := by
  have := tol_le (F k)
  unfold toldT; split <;> omega
theorem toldT_zero (F : Nat → Int) (fl : List Nat) : toldT F fl 0 = fun k => tol (F k) := by funext k; simp [toldT]
theorem fails_nodup (hb : Nat → Bool) (f : Nat → Int) (n : Nat) : (fails hb f n).Pairwise (· < ·) := List.Pairwise.filter _ List.pairwise_lt_range
theorem mem_fails (hb : Nat → Bool) (f : Nat → Int) (n k : Nat) : k ∈ fails hb f n ↔ k < n ∧ f k = -1 ∧ hb k = false := by
  simp [fails]
theorem toldT_succ (F : Nat → Int) (fl : List Nat) (hnd : fl.Pairwise (· < ·)) (j : Nat) (hj : j < fl.length) :
    toldT F fl (j + 1) = fun k => if k = fl.getD j 0 then toldT F fl j (fl.getD j 0) + 1 else toldT F fl j k := by
  have hget : fl.getD j 0 = fl[j] := by simp [hj]
  rw [hget]
  have hnot : fl[j] ∉ fl.take j := by
    intro h
    obtain ⟨i, hi, e⟩ := List.getElem_of_mem h
    rw [List.getElem_take] at e
    have hij : i < j := by simp at hi; omega
    have := (List.pairwise_iff_getElem.1 hnd) i j (by omega) hj hij
    omega
  have hm : ∀ k, k ∈ fl.take (j + 1) ↔ k ∈ fl.take j ∨ k = fl[j] := fun k => by
    rw [List.take_succ_eq_append_getElem hj, List.mem_append, List.mem_singleton]
  funext k
  unfold toldT
  simp only [hm]
  by_cases e : k = fl[j]
  · subst e
    simp [hnot]
  · simp [e]
theorem toldT_end (hb : Nat → Bool) (F : Nat → Int) (c : Int) (hc : 0 ≤ c) (n k : Nat) (hk : k < n) : toldT F (fails hb F n) (fails hb F n).length k = tol (mixF hb F c n k) := by
  unfold toldT mixF stepF
  rw [List.take_length, if_pos hk]
  by_cases h : F k = -1 ∧ hb k = false
  · rw [if_pos ((mem_fails hb F n k).2 ⟨hk, h⟩), if_pos h, h.1]
    have : c ≠ -1 := by omega
    simp [tol, this]
  · rw [if_neg (fun e => h ((mem_fails hb F n k).1 e).2), if_neg h]
    simp
theorem fails_getD_lt (hb : Nat → Bool) (f : Nat → Int) (n j : Nat) (hj : j < (fails hb f n).length) : (fails hb f n).getD j 0 < n := by
  have hget : (fails hb f n).getD j 0 = (fails hb f n)[j] := by simp [hj]
  rw [hget]
  exact ((mem_fails hb f n _).1 (List.getElem_mem hj)).1

/-- what was there is there, but for one block -/
structure ButOne (bt : Nat) (w w' : World) : Prop where
  size : w.heap.size ≤ w'.heap.size
  block : ∀ b, b < w.heap.size → b ≠ bt → w'.heap[b]? = w.heap[b]?
theorem ButOne.refl (bt : Nat) (w : World) : ButOne bt w w := ⟨Nat.le_refl _, fun _ _ _ => rfl⟩
theorem ButOne.setCell {bt : Nat} {w w' : World} (h : ButOne bt w w') (i : Nat) (v : Value) : ButOne bt w (w'.setCell ⟨bt, i, none⟩ v) :=
  ⟨by simpa [World.setCell] using h.size, fun b h1 h2 => (Below.heap_setCell _ _ _ _ h2).trans (h.block b h1 h2)⟩
theorem rowIs_block {w w' : World} {b t n : Nat} {f : Nat → Value} (h : w.rowIs b t n f) (hk : w'.heap[b]? = w.heap[b]?) : w'.rowIs b t n f := by
  unfold World.rowIs at *
  rw [hk]
  exact h

/-- the state between two rounds -/
structure OnceInv (W w : World) (bw n cc : Nat) (ca : Option Addr) (fa : Addr) (H : Nat → Int) (bt i : Nat) (F : Nat → Int) : Prop where
  wo : WatchOk w W.heap.size bw n cc ca fa H F i
  far : bw < bt
  lt : bt < w.heap.size
  told : 0 < n → w.rowIs bt 3 n (fun k => .int .i64 (tol (F k)))
  bel : Below W.heap.size W w
theorem OnceInv.fa_lt {W w : World} {bw n cc : Nat} {ca : Option Addr} {fa : Addr} {H : Nat → Int} {bt i : Nat} {F : Nat → Int} (h : OnceInv W w bw n cc ca fa H bt i F) (h0 : 0 < n) : fa.block < bw := by
  obtain ⟨bc, bf, o, _, rfl, _, _, _, _, q, _⟩ := h.wo.row h0
  exact q
end Go.Proofs.YtocplhpfndgagaaGreatDoor
namespace Go.Proofs.YtocplhpfndgagaaGreatDoor
open Go.RowKit

theorem WatchOk.mono {w : World} {base base' bw n cc : Nat} {ca : Option Addr} {fa : Addr} {Hd f : Nat → Int} {c : Int} (h : WatchOk w base bw n cc ca fa Hd f c) (hb : base' ≤ base) : WatchOk w base' bw n cc ca fa Hd f c :=
  ⟨h.c0, h.c1, h.c2, h.u2, by have := h.lo; omega, h.hi, fun h0 => by
    obtain ⟨bc, bf, o, e1, e2, e3, e4, e5⟩ := h.row h0
    exact ⟨bc, bf, o, e1, e2, by omega, by omega, e5⟩⟩

set_option maxRecDepth 100000 in
set_option maxHeartbeats 800000 in
theorem once_big (a1 : Option Addr) (n c1 : Nat) (a2 : Option Addr) (m c2 : Nat) (W : World) (hb : 60 < n ∨ 30 < m) (h1 : n ≤ 9223372036854775807) (h2 : m ≤ 9223372036854775807)
    (hlive : ∀ w, Below W.heap.size W w → Calls Tryz.prog 8 #[] w fun e w' => e = .returned (.bool true) ∧ Below w.heap.size w w') :
    Calls Tryz.prog 5 #[.slice a1 n c1, .slice a2 m c2] W fun e w' => e = .returned (.bool true) ∧ Below W.heap.size W w' := by
  have hlive' := hlive W (Below.refl _ _)
  clear hlive
  by_cases h : 60 < n
  · go_enter Tryz.func5, Tryz.ntmps5
    go_wp2_with (go_at_call 8; refine hlive'.mono ?_; rintro e w' ⟨rfl, hb⟩)
    go_ret
    exact ⟨rfl, hb⟩
  · have h3 : 30 < m := by omega
    go_enter Tryz.func5, Tryz.ntmps5
    go_wp2_with (go_at_call 8; refine hlive'.mono ?_; rintro e w' ⟨rfl, hb⟩)
    go_ret
    exact ⟨rfl, hb⟩

set_option maxRecDepth 100000 in
set_option maxHeartbeats 8000000 in
theorem once_any (a1 : Option Addr) (n cp1 : Nat) (a2 : Option Addr) (m cp2 : Nat) (K : Nat → Int) (S : Nat → ByteArray) (H A : Nat → Int) (RA : Nat → Option Addr) (RL RC : Nat → Nat) (R : Nat → Nat → Int) (W : World) (hn : n ≤ 60) (hm : m ≤ 30)
    (hc : ChecksAt W a1 n K S H A) (hr : RowsAt W W.heap.size a2 m RA RL RC R)
    (hlive : ∀ w, Below W.heap.size W w → Calls Tryz.prog 8 #[] w fun e w' => e = .returned (.bool true) ∧ Below w.heap.size w w') :
    Calls Tryz.prog 5 #[.slice a1 n cp1, .slice a2 m cp2] W fun e w' => e = .returned (.bool true) ∧ Below W.heap.size W w' := by
  have hmk := run_make_row' (P := Tryz.prog) 45 3 (.int .i64 0) 8 Tryz.underlying45 info3 rfl .i64 .i64 n (by omega) (by omega)
  go_enter Tryz.func5, Tryz.ntmps5
  go_wp2_with fail
  refine (own_all a1 n cp1 K S H A W hn hc).mono ?_
  rintro e w1 ⟨v, rfl, hv, hb1⟩
  go_wp2_with fail
  refine (new_all v n K S H A w1 hn hv).mono ?_
  rintro e w2 ⟨bw, cc, ca, fa, rfl, hw, hb2⟩
  go_wp2_with fail
  have hs1 := hb1.size
  have hs2 := hb2.size
  have hinv : OnceInv W (w2.alloc (.cells (madeCells #[.int .i64 0] n) 3)) bw n cc ca fa H w2.heap.size 0 (fun _ => -1) :=
    { wo := by
        exact (hw.keep (w' := w2.alloc (.cells (madeCells #[.int .i64 0] n) 3)) (by simp) (fun b hb => Below.heap_alloc _ _ _ (by have := hw.hi; omega))).mono hs1
      far := hw.hi
      lt := by simp
      told := fun _ => World.rowIs_made w2 (.int .i64 0) n 3
      bel := (hb1.trans (hb2.mono (by omega))).alloc (by omega) _ }
  clear hmk hc
  generalize hbt : w2.heap.size = bt at *
  generalize (w2.alloc (.cells (madeCells #[.int .i64 0] n) 3)) = w3 at *
  clear hv hw hb1 hb2 hs1 hs2 hbt
  go_loopw [7] (fun i wr => ∃ (k : Nat) (F : Nat → Int), k ≤ m ∧ i = .int .i64 k ∧ OnceInv W wr bw n cc ca fa H bt k F) (fun i _ => m - (intOf i).toNat)
  case atStart => exact ⟨0, _, Nat.zero_le _, rfl, hinv⟩
  case round =>
    obtain ⟨i, F, hi, rfl, hI⟩ := hrel
    clear hinv
    by_cases hlt : i < m
    · obtain ⟨b2, o2, rfl, q1, q2, q3, q4⟩ := hr (by omega)
      have hcell : wr.cell? ⟨b2, o2 + i, none⟩ = some (.slice (RA i) (RL i) (RC i)) := (hI.bel.cell (p := ⟨b2, _, none⟩) q1).trans (q2 i hlt)
      have hrl := q3 i hlt
      have hrow : RowAt wr W.heap.size (RA i) (RL i) (R i) := by
        intro h0
        obtain ⟨br, ofr, e1, e2, e3⟩ := q4 i hlt h0
        exact ⟨br, ofr, e1, e2, fun j hj => (hI.bel.cell (p := ⟨br, _, none⟩) e2).trans (e3 j hj)⟩
      have hbw := hI.bel.size
      clear q2 q3 q4
      go_wp2_with fail
      refine (first_watch _ bw n cc ca fa H F i wr hn hI.wo).mono ?_
      rintro e w4 ⟨a4, cp4, rfl, hwas, hb4⟩
      have hs4 := hb4.size
      have hcell4 : w4.cell? ⟨b2, o2 + i, none⟩ = some (.slice (RA i) (RL i) (RC i)) := (hb4.cell (p := ⟨b2, _, none⟩) (by show b2 < _; omega)).trans hcell
      have hrow4 : RowAt w4 W.heap.size (RA i) (RL i) (R i) := by
        intro h0
        obtain ⟨br, ofr, e1, e2, e3⟩ := hrow h0
        exact ⟨br, ofr, e1, e2, fun j hj => (hb4.cell (p := ⟨br, _, none⟩) (by show br < _; omega)).trans (e3 j hj)⟩
      have hwo4 := hI.wo.keep (w' := w4) hs4 (fun b hb => hb4.block b (by have := hI.wo.hi; omega))
      have htold4 := fun h0 => (hI.told h0).of_block (hb4.block bt hI.lt)
      have hi0' : (0 : Int) ≤ (i : Int) := Int.natCast_nonneg _
      have hi1' : (i : Int) < (m : Int) := by omega
      clear hcell hrow
      go_wp2_with fail
      refine (step_watch W.heap.size bw n cc ca fa H F i (RA i) (RL i) (RC i) (R i) w4 hn hrl (by omega) (by omega) (by omega) hwo4 hrow4).mono ?_
      rintro e w5 ⟨a5, cp5, rfl, hfl, hwo5, hb5, hoth⟩
      have hend := fun k (hk : k < n) => toldT_end (fun k => rowB (R i) (RL i) (H k)) F i (by omega) n k hk
      have hnd := fails_nodup (fun k => rowB (R i) (RL i) (H k)) F n
      have hgl := fun j hj => fails_getD_lt (fun k => rowB (R i) (RL i) (H k)) F n j hj
      have hfn := fails_len (fun k => rowB (R i) (RL i) (H k)) F n
      have hst : ∀ k, k < n → mixF (fun k => rowB (R i) (RL i) (H k)) F i n k = F k ∨ (F k = -1 ∧ mixF (fun k => rowB (R i) (RL i) (H k)) F i n k = i) := by
        intro k hk
        unfold mixF stepF
        rw [if_pos hk]
        by_cases h : F k = -1 ∧ rowB (R i) (RL i) (H k) = false
        · rw [if_pos h]; exact Or.inr ⟨h.1, rfl⟩
        · rw [if_neg h]; exact Or.inl rfl
      generalize mixF (fun k => rowB (R i) (RL i) (H k)) F i n = F' at *
      generalize fails (fun k => rowB (R i) (RL i) (H k)) F n = fl at *
      have hs5 := hb5.size
      have hfar := hI.far
      have hbtlt := hI.lt
      have hbwlt := hI.wo.hi
      have hWbw := hI.wo.lo
      have htold5 : 0 < n → w5.rowIs bt 3 n (fun k => .int .i64 (tol (F k))) := fun h0 =>
        (htold4 h0).of_block (hoth bt (by omega) (by omega) (by have := hI.fa_lt h0; omega))
      have hwas5 : IntRow w5 wr.heap.size a4 n F := fun h0 =>
        hwas.keep hs5 (fun b h1 h2 => hoth b h2 (by omega) (by have := hI.fa_lt h0; omega)) h0
      have hbel5 : Below W.heap.size W w5 := (hI.bel.trans (hb4.mono hbw)).trans hb5
      clear hcell4 hrow4 hwo4 htold4 hwas hoth hrl q1 hb4 hb5 hI
      generalize wr.heap.size = sO at *
      clear wr
      go_wp2_with fail
      go_loopw [10] (fun v wr' => ∃ j : Nat, j ≤ fl.length ∧ v = .int .i64 j ∧ ButOne bt w5 wr' ∧ (0 < n → wr'.rowIs bt 3 n (fun k => .int .i64 (toldT F fl j k))) ∧ Below W.heap.size W wr') (fun v _ => fl.length - (intOf v).toNat)
      case atStart => exact ⟨0, Nat.zero_le _, rfl, ButOne.refl _ _, fun h0 => by rw [toldT_zero]; exact htold5 h0, hbel5⟩
      case round =>
        obtain ⟨j, hj, rfl, hbut, htold, hbel⟩ := hrel
        by_cases hjl : j < fl.length
        · obtain ⟨g, rfl, g1, g2, g3⟩ := hfl (by omega)
          have hx := hgl j hjl
          have cj : wr.cell? ⟨g, j, none⟩ = some (.int .i64 (fl.getD j 0 : Nat)) := (World.cell?_of_block (w := w5) (hbut.block g g2 (by omega))).trans (g3 j hjl)
          have htx := htold (by omega)
          have cx := htx.cell hx
          have fx := htx.frozen (fl.getD j 0)
          have hv := toldT_le F fl j (fl.getD j 0)
          have hsucc := toldT_succ F fl hnd j hjl
          generalize fl.getD j 0 = x at *
          generalize toldT F fl j x = v0 at *
          have hx0 : (0 : Int) ≤ (x : Int) := Int.natCast_nonneg _
          have hx1 : (x : Int) < (n : Int) := by omega
          have hj0 : (0 : Int) ≤ (j : Int) := Int.natCast_nonneg _
          have hj1 : (j : Int) < (fl.length : Int) := by omega
          clear htold htold5 hwas5 g3 hend hgl hst hlive hwo5
          go_wp2_with fail
          go_roundw
          case rel =>
            refine ⟨j + 1, by omega, by go_num, hbut.setCell _ _, fun _ => ?_, hbel.setCell (by show W.heap.size ≤ bt; omega) _⟩
            rw [hsucc]
            refine (htx.set x (.int .i64 (v0 + 1))).congr fun k hk => ?_
            show _ = Value.int .i64 (if k = x then v0 + 1 else toldT F fl j k)
            split <;> rfl
          case measure => simp [intOf]; omega
        · have hjn : j = fl.length := by omega
          subst hjn
          have hbs := hbut.size
          have hwo6 := hwo5.keep hbs (fun b hb => hbut.block b (by omega) (by omega))
          have hwas6 : IntRow wr sO a4 n F := hwas5.keep hbs (fun b h1 h2 => hbut.block b h2 (by omega))
          have htold6 : 0 < n → wr.rowIs bt 3 n (fun k => .int .i64 (tol (F' k))) := fun h0 => (htold h0).congr (fun k hk => by show Value.int .i64 _ = _; rw [hend k hk])
          clear htold htold5 hwas5 hwo5 hgl hend hbut hfl hnd
          go_wp2_with fail
          refine (first_watch _ bw n cc ca fa H F' _ wr hn hwo6).mono ?_
          rintro e w7 ⟨a7, cp7, rfl, hnow, hb7⟩
          have hs7 := hb7.size
          have hwo7 := hwo6.keep hs7 (fun b hb => hb7.block b (by omega))
          have hwas7 : IntRow w7 sO a4 n F := hwas6.keep hs7 (fun b h1 h2 => hb7.block b h2)
          have htold7 : 0 < n → w7.rowIs bt 3 n (fun k => .int .i64 (tol (F' k))) := fun h0 => (htold6 h0).of_block (hb7.block bt (by omega))
          have hbel7 := hbel.trans (hb7.mono hbel.size)
          clear htold6 hwas6 hwo6 hb7 hbel
          go_wp2_with fail
          go_loopw [12] (fun v wr' => ∃ k : Nat, k ≤ n ∧ v = .int .i64 k ∧ Below w7.heap.size w7 wr') (fun v _ => n - (intOf v).toNat)
          case atStart => exact ⟨0, Nat.zero_le _, rfl, Below.refl _ _⟩
          case round =>
            obtain ⟨k, hk, rfl, hb8⟩ := hrel
            by_cases hkn : k < n
            · obtain ⟨g1, rfl, p1, p2, p3⟩ := hwas7 (by omega)
              obtain ⟨g2, rfl, r1, r2, r3⟩ := hnow (by omega)
              have cw : wr.cell? ⟨g1, k, none⟩ = some (.int .i64 (F k)) := (hb8.cell (p := ⟨g1, _, none⟩) p2).trans (p3 k hkn)
              have cn : wr.cell? ⟨g2, k, none⟩ = some (.int .i64 (F' k)) := (hb8.cell (p := ⟨g2, _, none⟩) r2).trans (r3 k hkn)
              have ct : wr.cell? ⟨bt, k, none⟩ = some (.int .i64 (tol (F' k))) := (hb8.cell (p := ⟨bt, _, none⟩) (by show bt < _; omega)).trans ((htold7 (by omega)).cell hkn)
              have hk0 : (0 : Int) ≤ (k : Int) := Int.natCast_nonneg _
              have hk1 : (k : Int) < (n : Int) := by omega
              have hcase := hst k hkn
              clear hwas7 hnow htold7 p3 r3 hst hwo7 hlive
              by_cases hF : F k = -1
              · rcases hcase with hc | ⟨_, hc⟩
                · rw [hF] at hc cw
                  rw [hc] at cn ct
                  have ct' : wr.cell? ⟨bt, k, none⟩ = some (.int .i64 0) := ct
                  clear ct
                  go_wp2_with fail
                  go_big_quiet (fail)
                  go_wp2_with fail
                  go_roundw
                  case rel => exact ⟨k + 1, by omega, by go_num, ⟨hb8.os, hb8.tape, hb8.output, hb8.size, hb8.block⟩⟩
                  case measure => simp [intOf]; omega
                · rw [hF] at cw
                  rw [hc] at cn ct
                  have hne : (i : Int) ≠ -1 := by omega
                  have ct' : wr.cell? ⟨bt, k, none⟩ = some (.int .i64 1) := by rw [ct, tol, if_neg hne]
                  have hd1 : ((i : Int) != (-1 : Int)) = true := by simp
                  have hd2 : ((i : Int) == (-1 : Int)) = false := by simp
                  have hd3 : decide ((i : Int) = (-1 : Int)) = false := by simp
                  clear ct
                  go_wp2_with fail
                  go_big_quiet (fail)
                  go_wp2_with fail
                  go_roundw
                  case rel => exact ⟨k + 1, by omega, by go_num, ⟨hb8.os, hb8.tape, hb8.output, hb8.size, hb8.block⟩⟩
                  case measure => simp [intOf]; omega
              · have hc : F' k = F k := by
                  rcases hcase with hc | ⟨hc, _⟩
                  · exact hc
                  · exact absurd hc hF
                rw [hc] at cn ct
                have ct' : wr.cell? ⟨bt, k, none⟩ = some (.int .i64 1) := by rw [ct, tol, if_neg hF]
                clear ct hc hcase
                generalize F k = x at *
                have hd1 : (x != (-1 : Int)) = true := by simpa using hF
                have hd2 : (x == (-1 : Int)) = false := by simpa using hF
                have hd3 : decide (x = (-1 : Int)) = false := by simpa using hF
                go_wp2_with fail
                go_big_quiet (fail)
                go_wp2_with fail
                go_roundw
                case rel => exact ⟨k + 1, by omega, by go_num, ⟨hb8.os, hb8.tape, hb8.output, hb8.size, hb8.block⟩⟩
                case measure => simp [intOf]; omega
            · go_wp2_with fail
              go_roundw
              case rel => 
                refine ⟨i + 1, F', by omega, by go_num, ?_⟩
                have hs8 := hb8.size
                exact { wo := by
                          have := hwo7.keep hs8 (fun b hb => hb8.block b (by omega))
                          rwa [show ((i + 1 : Nat) : Int) = (i : Int) + 1 by omega]
                        far := hfar
                        lt := by omega
                        told := fun h0 => (htold7 h0).of_block (hb8.block bt (by omega))
                        bel := hbel7.trans (hb8.mono (by have := hbel7.size; omega)) }
              case measure => simp [intOf]; omega
    · have hl := hlive wr hI.bel
      clear hlive hr
      have him : i = m := by omega
      go_wp2_with (go_at_call 8; refine hl.mono ?_; rintro e w' ⟨rfl, hb⟩)
      go_ret
      exact ⟨rfl, hI.bel.trans (hb.mono hI.bel.size)⟩
end Go.Proofs.YtocplhpfndgagaaGreatDoor
