/- What a watch does: the walks of Own, New, Step, First, Count and Holds, and the arguments opened to cells. -/
import Derived.Test.YtocplhpfndgagaaGreatDoorProg
import Derived.WalkKit
import Derived.WalkSpells
import Derived.Lib.Hide
import Derived.OwnWalk
import Derived.Laws.Pointers
import Derived.Deep.RegionHeld3
import Derived.Deep.AppendLies
import Derived.KernelRfl
import Derived.WalkLawsBesides
import Derived.BigRegion
import Derived.Deep.Slices
import Derived.Deep.Matrix
import Derived.Deep.Fields
import Derived.ChangeSame
import Derived.Test.YtocplhpfndgagaaGreatDoorEvKnown
namespace Go.Proofs.YtocplhpfndgagaaGreatDoor
open Go.RowKit

set_option maxRecDepth 100000 in
set_option maxHeartbeats 400000 in
theorem count_nil (w : World) : Calls Tryz.prog 20 #[.pointer none] w fun e w' => e = .returned (.int .i64 0) ∧ w = w' := by
  go_enter Tryz.func20, Tryz.ntmps20
  go_wp2
  go_ret
  exact ⟨rfl, rfl⟩

set_option maxRecDepth 100000 in
set_option maxHeartbeats 400000 in
theorem count_any (b : Nat) (c : Int) (w : World) (h : w.cell? ⟨b, 2, none⟩ = some (.int .i64 c)) : Calls Tryz.prog 20 #[.pointer (some ⟨b, 0, none⟩)] w fun e w' => e = .returned (.int .i64 c) ∧ w = w' := by
  go_enter Tryz.func20, Tryz.ntmps20
  go_wp2
  go_ret
  exact ⟨rfl, rfl⟩

set_option maxRecDepth 100000 in
set_option maxHeartbeats 400000 in
theorem holds_low (bc oc n cc i : Nat) (hi : i < n) (_hn : n ≤ 60) (a : Option Addr) (len cap : Nat) (kf : Int) (hk : kf < 0) (w : World) (h : w.cell? ⟨bc, oc + i * 4 + 2, none⟩ = some (.int .i64 kf)) :
    Calls Tryz.prog 44 #[.slice (some ⟨bc, oc, none⟩) n cc, .int .i64 i, .slice a len cap] w fun e w' => e = .returned (.bool false) ∧ w = w' := by
  go_enter Tryz.func44, Tryz.ntmps44
  go_wp2
  go_ret
  exact ⟨rfl, rfl⟩

set_option maxRecDepth 100000 in
set_option maxHeartbeats 400000 in
theorem holds_high (bc oc n cc i : Nat) (hi : i < n) (_hn : n ≤ 60) (a : Option Addr) (len cap : Nat) (_hlen : len ≤ 9223372036854775807) (kf : Int) (hk : 0 ≤ kf) (hk2 : (len : Int) ≤ kf) (w : World) (h : w.cell? ⟨bc, oc + i * 4 + 2, none⟩ = some (.int .i64 kf)) :
    Calls Tryz.prog 44 #[.slice (some ⟨bc, oc, none⟩) n cc, .int .i64 i, .slice a len cap] w fun e w' => e = .returned (.bool false) ∧ w = w' := by
  go_enter Tryz.func44, Tryz.ntmps44
  go_wp2
  go_ret
  exact ⟨rfl, rfl⟩

set_option maxRecDepth 100000 in
set_option maxHeartbeats 400000 in
theorem holds_in (bc oc n cc i : Nat) (hi : i < n) (_hn : n ≤ 60) (br ofr : Nat) (len cap : Nat) (_hlen : len ≤ 9223372036854775807) (k : Nat) (hk2 : k < len) (v : Int) (w : World) (h : w.cell? ⟨bc, oc + i * 4 + 2, none⟩ = some (.int .i64 k))
    (hv : w.cell? ⟨br, ofr + k, none⟩ = some (.int .i64 v)) :
    Calls Tryz.prog 44 #[.slice (some ⟨bc, oc, none⟩) n cc, .int .i64 i, .slice (some ⟨br, ofr, none⟩) len cap] w fun e w' => e = .returned (.bool (v != 0)) ∧ w = w' := by
  go_enter Tryz.func44, Tryz.ntmps44
  go_wp2
  go_ret
  exact ⟨rfl, rfl⟩
end Go.Proofs.YtocplhpfndgagaaGreatDoor
namespace Go.Proofs.YtocplhpfndgagaaGreatDoor
open Go.RowKit

theorem info53 : (Tryz.prog.info? 53).map (fun i => (i.zero, i.size, i.bytes)) = some (some (.agg #[.int .i64 0, .string ⟨#[]⟩, .int .i64 0, .int .i64 0]), 4, 40) := by kernel_rfl

/-- the checks of a list, as cells -/
def chk (K : Nat → Int) (S : Nat → ByteArray) (H A : Nat → Int) (i : Nat) : List Value := [.int .i64 (K i), .string (S i), .int .i64 (H i), .int .i64 (A i)]
def chks (K : Nat → Int) (S : Nat → ByteArray) (H A : Nat → Int) (n : Nat) : List Value := (List.range n).flatMap (chk K S H A)

set_option maxRecDepth 100000 in
set_option maxHeartbeats 3200000 in
theorem own_any (b off n cap : Nat) (K : Nat → Int) (S : Nat → ByteArray) (H A : Nat → Int) (w : World) (hn : n ≤ 60) (hb : b < w.heap.size)
    (h0 : ∀ i, i < n → w.cell? ⟨b, off + i * 4, none⟩ = some (.int .i64 (K i))) (h1 : ∀ i, i < n → w.cell? ⟨b, off + i * 4 + 1, none⟩ = some (.string (S i)))
    (h2 : ∀ i, i < n → w.cell? ⟨b, off + i * 4 + 2, none⟩ = some (.int .i64 (H i))) (h3 : ∀ i, i < n → w.cell? ⟨b, off + i * 4 + 3, none⟩ = some (.int .i64 (A i))) :
    Calls Tryz.prog 16 #[.slice (some ⟨b, off, none⟩) n cap] w fun e w' => ∃ v, e = .returned v ∧ w'.ownsRow w.heap.size 53 4 v n (chks K S H A n) ∧ Below w.heap.size w w' := by
  obtain ⟨i0, hi0, hz0, hz1, hz2⟩ := info_parts info53
  go_enter Tryz.func16, Tryz.ntmps16
  go_wp2
  go_loopw [3, 4] (fun v i wr => ∃ k : Nat, k ≤ n ∧ i = .int .i64 k ∧ wr.ownsRow w.heap.size 53 4 v k (chks K S H A k) ∧ Below w.heap.size w wr) (fun _ i _ => n - (intOf i).toNat)
  case atStart => exact ⟨0, Nat.zero_le _, rfl, World.ownsRow_nil _ _ _ _, Below.refl _ _⟩
  case round =>
    obtain ⟨k, hk, rfl, hown, hbel⟩ := hrel
    have hsz := hbel.size
    by_cases hlt : k < n
    · have c0 : wr.cell? ⟨b, off + k * 4, none⟩ = some (.int .i64 (K k)) := (hbel.cell (p := ⟨b, _, none⟩) hb).trans (h0 k hlt)
      have c1 : wr.cell? ⟨b, off + k * 4 + 1, none⟩ = some (.string (S k)) := (hbel.cell (p := ⟨b, _, none⟩) hb).trans (h1 k hlt)
      have c2 : wr.cell? ⟨b, off + k * 4 + 2, none⟩ = some (.int .i64 (H k)) := (hbel.cell (p := ⟨b, _, none⟩) hb).trans (h2 k hlt)
      have c3 : wr.cell? ⟨b, off + k * 4 + 3, none⟩ = some (.int .i64 (A k)) := (hbel.cell (p := ⟨b, _, none⟩) hb).trans (h3 k hlt)
      have hne : u3.ownBlock ≠ some b := fun e => by have := (hown.lt _ e).1; omega
      have hbr : b < wr.heap.size := by omega
      have hi0' : (0 : Int) ≤ (k : Int) := Int.natCast_nonneg _
      have hi1 : (k : Int) < (n : Int) := by omega
      clear h0 h1 h2 h3
      go_wp2_with fail
      go_region_held3 (fun w' => w'.cell? ⟨b, off + k * 4, none⟩ = some (.int .i64 (K k)) ∧ w'.cell? ⟨b, off + k * 4 + 1, none⟩ = some (.string (S k)) ∧
          w'.cell? ⟨b, off + k * 4 + 2, none⟩ = some (.int .i64 (H k)) ∧ w'.cell? ⟨b, off + k * 4 + 3, none⟩ = some (.int .i64 (A k)))
        (first
          | go_keep
          | (go_split_ands
             refine ⟨?_, ?_, ?_, ?_⟩
             · (rw [hgrow.cell_far _ (by simp; omega) (Ne.symm hne)]; assumption)
             · (rw [hgrow.cell_far _ (by simp; omega) (Ne.symm hne)]; assumption)
             · (rw [hgrow.cell_far _ (by simp; omega) (Ne.symm hne)]; assumption)
             · (rw [hgrow.cell_far _ (by simp; omega) (Ne.symm hne)]; assumption)))
        ((refine step_append_lies _ (by rfl) _ _ _ (by rfl) w.heap.size 53 i0 _ 4 40 Tryz.underlying31 hi0 hz0 hz1 hz2 rfl (by omega) u3 k (chks K S H A k) (by rfl) ((hown.alloc _).drew)
            ⟨wr.heap.size, 0, none⟩ 1 1 (chk K S H A k) (by rfl) (by rfl) (World.news_of_block (cs := #[.int .i64 (K k), .string (S k), .int .i64 (H k), .int .i64 (A k)]) (t := 53) (fr := (0, 0)) (heap_alloc_new wr _)) (by simp [chk, Value.oneCell'])
            (by omega) (by unfold maxLen; omega) (by omega) (by simp; omega) (wr.heap.size + 1) (by simp) ?_; intro gg cap1 w1 hown1 hgrow hat hlt_1))
      have hb1 : Below w.heap.size w w1 := (((hbel.alloc (by omega) _).drew).grown hgrow (by simp; omega) (fun j hj => (hown.lt j hj).1))
      clear c0 c1 c2 c3 hne hbr hgrow hat hlt_1 hbel hown
      go_wp2
      go_roundw
      case rel => exact ⟨k + 1, by omega, by go_num, by simpa [chks, List.range_succ] using hown1, hb1⟩
      case measure => simp [intOf]; omega
    · go_wp2
      go_ret
      have : k = n := by omega
      subst this
      exact ⟨u3, rfl, hown, hbel⟩
end Go.Proofs.YtocplhpfndgagaaGreatDoor
namespace Go.Proofs.YtocplhpfndgagaaGreatDoor
open Go.RowKit

theorem run_eql_slice_nil {P : Program} (w : World) (t e : TypeId) (a : Option Addr) (l c : Nat) (h : P.underlying t = some (.slice e)) : (binOp .eql t (.slice a l c) (.slice none 0 0)).run P w = .ok (.bool a.isNone) w := by
  simp only [binOp]
  simp [run_equal_slice_nil w t e a l c h]

theorem chks_one (K : Nat → Int) (S : Nat → ByteArray) (H A : Nat → Int) (n : Nat) : ∀ u ∈ chks K S H A n, u.oneCell' = true := by
  intro u hu
  obtain ⟨i, _, h⟩ := List.mem_flatMap.1 hu
  simp only [chk, List.mem_cons, List.not_mem_nil, or_false] at h
  rcases h with rfl | rfl | rfl | rfl <;> rfl

set_option maxRecDepth 100000 in
set_option maxHeartbeats 800000 in
theorem own_empty (a : Option Addr) (cap : Nat) (w : World) :
    Calls Tryz.prog 16 #[.slice a 0 cap] w fun e w' => e = .returned (.slice none 0 0) ∧ w = w' := by
  go_enter Tryz.func16, Tryz.ntmps16
  go_wp2
  refine wp_loop_rounds 1 ?_
  rw [rounds_succ]
  go_wp2
  go_ret
  exact ⟨rfl, rfl⟩

set_option maxRecDepth 100000 in
set_option maxHeartbeats 800000 in
theorem cloneC_nil (w : World) : Calls Tryz.prog 41 #[.slice none 0 0] w fun e w' => e = .returned (.slice none 0 0) ∧ w = w' := by
  have hq := run_eql_slice_nil (P := Tryz.prog) w 31 53 none 0 0 Tryz.underlying31
  go_enter Tryz.func41, Tryz.ntmps41
  go_wp2
  go_ret
  exact ⟨rfl, rfl⟩

set_option maxRecDepth 100000 in
set_option maxHeartbeats 800000 in
theorem cloneC_any (g n cap : Nat) (xs : List Value) (w : World) (hn : n ≤ 60) (hl : xs.length = n * 4) (hx : ∀ j u, xs[j]? = some u → w.cell? ((⟨g, 0, none⟩ : Addr).add j) = some u) (h1 : ∀ u ∈ xs, u.oneCell' = true) (hg : g < w.heap.size) :
    Calls Tryz.prog 41 #[.slice (some ⟨g, 0, none⟩) n cap] w fun e w' => ∃ v, e = .returned v ∧ w'.ownsRow w.heap.size 53 4 v n xs ∧ Below w.heap.size w w' := by
  obtain ⟨i0, hi0, hz0, hz1, hz2⟩ := info_parts info53
  have hnews : ∀ j u, xs[j]? = some u → (w.alloc (.cells #[] 53)).cell? ((⟨g, 0, none⟩ : Addr).add j) = some u := by
    intro j u hj
    have e : ((⟨g, 0, none⟩ : Addr).add j) = ⟨g, j, none⟩ := by unfold Addr.add; split <;> simp_all
    have := hx j u hj
    rw [e] at this ⊢
    rw [World.cell?_alloc_past _ _ _ hg]; exact this
  have hown : (w.alloc (.cells #[] 53)).ownsRow w.heap.size 53 4 (.slice (some ⟨w.heap.size, 0, none⟩) 0 0) 0 [] := World.ownsRow_made w #[] 0 (Nat.le_refl _) (by unfold maxLen; omega) rfl
  have hq := run_eql_slice_nil (P := Tryz.prog) w 31 53 (some ⟨g, 0, none⟩) n cap Tryz.underlying31
  go_enter Tryz.func41, Tryz.ntmps41
  go_wp2_with (at_builtin; refine wpList_append_own _ rfl _ _ 31 rfl w.heap.size 53 i0 _ 4 40 Tryz.underlying31 hi0 hz0 hz1 hz2 rfl (by decide) _ _ _ rfl hown ⟨g, 0, none⟩ n cap xs rfl hl hnews h1 (by unfold maxLen; omega) (by omega) (by simp) ?_; intro v' w1 hown1 hgrow _)
  go_ret
  exact ⟨v', rfl, by simpa using hown1, ((Below.refl _ _).alloc (Nat.le_refl _) _).grown hgrow (by simp) (fun j hj => Nat.le_of_eq (Option.some.inj (show some w.heap.size = some j from hj)))⟩
end Go.Proofs.YtocplhpfndgagaaGreatDoor
namespace Go.Proofs.YtocplhpfndgagaaGreatDoor
open Go.RowKit

theorem info3 : (Tryz.prog.info? 3).map (fun i => (i.zero, i.size, i.bytes)) = some (some (.int .i64 0), 1, 8) := by kernel_rfl

set_option maxRecDepth 100000 in
set_option maxHeartbeats 800000 in
theorem cloneI_any (g o n cap : Nat) (xs : List Value) (w : World) (hn : n ≤ 60) (hl : xs.length = n) (hx : ∀ j u, xs[j]? = some u → w.cell? ((⟨g, o, none⟩ : Addr).add j) = some u) (h1 : ∀ u ∈ xs, u.oneCell' = true) (hg : g < w.heap.size) :
    Calls Tryz.prog 45 #[.slice (some ⟨g, o, none⟩) n cap] w fun e w' => ∃ v, e = .returned v ∧ w'.ownsRow w.heap.size 3 1 v n xs ∧ Below w.heap.size w w' := by
  obtain ⟨i0, hi0, hz0, hz1, hz2⟩ := info_parts info3
  have hnews : ∀ j u, xs[j]? = some u → (w.alloc (.cells #[] 3)).cell? ((⟨g, o, none⟩ : Addr).add j) = some u := by
    intro j u hj
    have e : ((⟨g, o, none⟩ : Addr).add j) = ⟨g, o + j, none⟩ := by unfold Addr.add; split <;> simp_all
    have := hx j u hj
    rw [e] at this ⊢
    rw [World.cell?_alloc_past _ _ _ hg]; exact this
  have hown : (w.alloc (.cells #[] 3)).ownsRow w.heap.size 3 1 (.slice (some ⟨w.heap.size, 0, none⟩) 0 0) 0 [] := World.ownsRow_made w #[] 0 (Nat.le_refl _) (by unfold maxLen; omega) rfl
  have hq := run_eql_slice_nil (P := Tryz.prog) w 45 3 (some ⟨g, o, none⟩) n cap Tryz.underlying45
  go_enter Tryz.func45, Tryz.ntmps45
  go_wp2_with (at_builtin; refine wpList_append_own _ rfl _ _ 45 rfl w.heap.size 3 i0 _ 1 8 Tryz.underlying45 hi0 hz0 hz1 hz2 rfl (by decide) _ _ _ rfl hown ⟨g, o, none⟩ n cap xs rfl (by simpa using hl) hnews h1 (by unfold maxLen; omega) (by omega) (by simp) ?_; intro v' w1 hown1 hgrow _)
  go_ret
  exact ⟨v', rfl, by simpa using hown1, ((Below.refl _ _).alloc (Nat.le_refl _) _).grown hgrow (by simp) (fun j hj => Nat.le_of_eq (Option.some.inj (show some w.heap.size = some j from hj)))⟩

set_option maxRecDepth 100000 in
set_option maxHeartbeats 800000 in
theorem first_any (b g o n cap : Nat) (xs : List Value) (w : World) (hf : w.cell? ⟨b, 1, none⟩ = some (.slice (some ⟨g, o, none⟩) n cap)) (hn : n ≤ 60) (hl : xs.length = n)
    (hx : ∀ j u, xs[j]? = some u → w.cell? ((⟨g, o, none⟩ : Addr).add j) = some u) (h1 : ∀ u ∈ xs, u.oneCell' = true) (hg : g < w.heap.size) :
    Calls Tryz.prog 21 #[.pointer (some ⟨b, 0, none⟩)] w fun e w' => ∃ v, e = .returned v ∧ w'.ownsRow w.heap.size 3 1 v n xs ∧ Below w.heap.size w w' := by
  go_enter Tryz.func21, Tryz.ntmps21
  go_wp2_with fail
  refine (cloneI_any g o n cap xs w hn hl hx h1 hg).mono ?_
  rintro e w' ⟨v, rfl, hown, hb⟩
  go_wp2
  go_ret
  exact ⟨v, rfl, hown, hb⟩

set_option maxRecDepth 100000 in
set_option maxHeartbeats 400000 in
theorem first_nil (w : World) : Calls Tryz.prog 21 #[.pointer none] w fun e w' => e = .returned (.slice none 0 0) ∧ w = w' := by
  go_enter Tryz.func21, Tryz.ntmps21
  go_wp2
  go_ret
  exact ⟨rfl, rfl⟩

set_option maxRecDepth 100000 in
set_option maxHeartbeats 400000 in
theorem step_nil (v : Value) (w : World) : Calls Tryz.prog 18 #[.pointer none, v] w fun e w' => e = .returned (.slice none 0 0) ∧ w = w' := by
  go_enter Tryz.func18, Tryz.ntmps18
  go_wp2
  go_ret
  exact ⟨rfl, rfl⟩
end Go.Proofs.YtocplhpfndgagaaGreatDoor
namespace Go.Proofs.YtocplhpfndgagaaGreatDoor
open Go.Ev Go.RowKit
theorem mixed' : Tryz.prog.follows .mixedOrders = true := by decide +kernel

noncomputable section
def stOne (G : Nat) : St := { h := T.leaf.put G (some (ro [vj 0])), next := G + 1, cl := .leaf }
def allMinus (b : Blk) : Nat → Bool
  | 0 => true
  | n + 1 => (match b.t.get n with | some v => sameV 8 v (vj 0) | none => false) && allMinus b n
def repRes (n : Nat) : Option Res → Bool
  | some (.ret v s) => sameV 8 v (vl 5 0 n n) && (match s.h.get 5 with | some (.cells b) => b.wr && Nat.beq b.n n && allMinus b n | _ => false)
  | _ => false
def repOk (n : Nat) : Bool := repRes n (trun Tryz.prog (orcOf []) 1000000 (.call 42 [vl 4 0 1 1, vi n]) (stOne 4))
def repAll (n : Nat) : Bool := Nat.rec (motive := fun _ => Bool) true (fun k ih => repOk k && ih) n
end
set_option maxRecDepth 100000
set_option maxHeartbeats 4000000
theorem rep_all : repAll 61 = true := by decide +kernel
end Go.Proofs.YtocplhpfndgagaaGreatDoor
namespace Go.Proofs.YtocplhpfndgagaaGreatDoor
open Go.Ev Go.RowKit

theorem repAll_at {n m : Nat} (h : repAll m = true) (hn : n < m) : repOk n = true := by
  induction m with
  | zero => omega
  | succ m ih =>
    have h : (repOk m && repAll m) = true := h
    simp only [Bool.and_eq_true] at h
    by_cases e : n = m
    · subst e; exact h.1
    · exact ih h.2 (by omega)

theorem allMinus_at {b : Blk} : ∀ {n : Nat}, allMinus b n = true → ∀ j, j < n → b.t.get j = some (vj 0) := by
  intro n
  induction n with
  | zero => intro _ j hj; omega
  | succ n ih =>
    intro h j hj
    simp only [allMinus, Bool.and_eq_true] at h
    obtain ⟨h1, h2⟩ := h
    by_cases e : j = n
    · subst e
      split at h1
      · rename_i v hv
        rw [hv, sameV_sound _ _ _ h1]
      · simp at h1
    · exact ih h2 j (by omega)

theorem size_globals : Tryz.prog.globals.size = 4 := by decide +kernel

/-- slices.Repeat of one -1 -/
theorem repeat_any (b n : Nat) (fz : Nat × Nat) (t : TypeId) (w : World) (hn : n ≤ 60) (hblk : w.heap[b]? = some (.cells #[.int .i64 (-1)] t fz)) :
    Calls Tryz.prog 42 #[.slice (some ⟨b, 0, none⟩) 1 1, .int .i64 n] w fun e w' => ∃ a, e = .returned (.slice (some a) n n) ∧ Below w.heap.size w w' ∧
      (0 < n → ∃ g o, a = ⟨g, o, none⟩ ∧ w.heap.size ≤ g ∧ g < w'.heap.size ∧ (∀ j, j < n → w'.cell? ⟨g, o + j, none⟩ = some (.int .i64 (-1))) ∧ ∀ j, j < n → w'.frozen? ⟨g, o + j, none⟩ = false) := by
  have h := repAll_at rep_all (show n < 61 by omega)
  unfold repOk at h
  rw [trun_eq, frun_old] at h
  generalize hx : run Tryz.prog (orcOf []) 1000000 (.call 42 [vl 4 0 1 1, vi n]) (stOne 4) = res at h
  unfold repRes at h
  split at h
  · rename_i v s
    simp only [Bool.and_eq_true] at h
    obtain ⟨hv, h2⟩ := h
    have hv := sameV_sound _ _ _ hv
    subst hv
    split at h2
    · rename_i bk hbk
      simp only [Bool.and_eq_true] at h2
      obtain ⟨⟨hwr, hbn⟩, hall⟩ := h2
      have hbn := Nat.eq_of_beq_eq_true hbn
      have hlt : b < w.heap.size := (Array.getElem?_eq_some_iff.1 hblk).1
      obtain ⟨_, hcall⟩ := run_sound (W0 := w.heap.size) mixed' (orcOf_ok (fun k hk => by simp at hk) w.heap.size) _ _ _ _ hx
      let r : Rho := fun i => if i < 4 then some ⟨i, 0, 0⟩ else if i = 4 then some ⟨b, 0, 1⟩ else none
      have hRp := rel_ro (G := Tryz.prog.globals.size) (r := r) (s := stOne 4) (w := w)
        (fun g hg => by rw [size_globals] at hg; simp [r, hg])
        (fun i hi => by have hi : 5 ≤ i := hi; simp only [r]; rw [if_neg (by omega), if_neg (by omega)])
        (fun i o ho => by
          rcases T.get_put _ _ _ _ _ (show (T.leaf.put 4 (some (ro [vj 0]))).get i = some o from ho) with ⟨rfl, e2⟩ | ⟨_, e2⟩
          · simp only [Option.some.injEq] at e2
            subst e2
            obtain ⟨a1, a2⟩ := ro_ok (r := r) (k := ⟨b, 0, 1⟩) (l := [vj 0]) hblk (fun j v hj => by
              cases j with
              | succ j => simp at hj
              | zero =>
                simp only [List.getElem?_cons_zero, Option.some.injEq] at hj
                subst hj
                exact ⟨.int .i64 (-1), by simp, .int _ _⟩)
            exact ⟨a1, ⟨b, 0, 1⟩, by simp [r], a2⟩
          · simp [T.get_leaf] at e2)
      obtain ⟨hR, hp⟩ := hRp
      have hargs : LR r [vl 4 0 1 1, vi n] [.slice (some ⟨b, 0, none⟩) 1 1, .int .i64 n] := by
        have hcap : (Go.Ev.Loc.mk b 0 1).capOf 1 = 1 := by unfold Go.Ev.Loc.capOf; rw [if_pos (by decide)]
        have := VR.slice (r := r) (i := 4) (o := 0) (n := 1) (c := 1) (l := ⟨b, 0, 1⟩) (by simp [r]) (by rw [hcap]; exact Nat.le_refl _)
        rw [hcap] at this
        exact .cons this (.cons (.int _ _) .nil)
      refine (hcall r w _ hR hargs).mono fun e w' he => ?_
      obtain ⟨r', v', rfl, hvr, hR', hE⟩ := he
      have hbel := below_of_ext hE hp
      cases hvr with
      | slice0 hc => exact ⟨_, rfl, hbel, fun h => absurd h (by omega)⟩
      | slice hr hcap =>
        rename_i l
        have hc : l.capOf n = n := by unfold Loc.capOf; rw [if_pos]; have : CB = 4611686018427387904 := rfl; omega
        rw [hc]
        refine ⟨_, rfl, hbel, fun _ => ⟨l.blk, l.sh, by simp, ?_⟩⟩
        obtain ⟨l', hr2, c, et, fz', hh, hcells, hfree, _⟩ := hR'.obj 5 _ hbk
        rw [hr] at hr2; simp only [Option.some.injEq] at hr2; subst hr2
        obtain ⟨f1, f2, f3, _⟩ := hfree hwr
        refine ⟨f1, (Array.getElem?_eq_some_iff.1 hh).1, fun j hj => ?_, fun j hj => ?_⟩
        · obtain ⟨_, u, hu, hv⟩ := hcells j _ (allMinus_at hall j hj)
          cases hv
          rw [cell_of hh, Nat.add_comm]; exact hu
        · have := f2 (l.sh + j) (by omega)
          obtain ⟨lo, hi⟩ := fz'
          simp only [World.frozen?, hh]
          simp only [Bool.and_eq_false_iff, decide_eq_false_iff_not]
          by_cases h1 : lo ≤ l.sh + j
          · exact .inr fun h2 => this ⟨h1, h2⟩
          · exact .inl h1
    · simp at h2
  · simp at h
end Go.Proofs.YtocplhpfndgagaaGreatDoor
namespace Go.Proofs.YtocplhpfndgagaaGreatDoor
open Go.RowKit

/-- a watch: where it lies, what it holds -/
structure WatchOk (w : World) (base bw n cc : Nat) (ca : Option Addr) (fa : Addr) (Hd f : Nat → Int) (c : Int) : Prop where
  c0 : w.cell? ⟨bw, 0, none⟩ = some (.slice ca n cc)
  c1 : w.cell? ⟨bw, 1, none⟩ = some (.slice (some fa) n n)
  c2 : w.cell? ⟨bw, 2, none⟩ = some (.int .i64 c)
  u2 : w.frozen? ⟨bw, 2, none⟩ = false
  lo : base ≤ bw
  hi : bw < w.heap.size
  row : 0 < n → ∃ bc bf o, ca = some ⟨bc, 0, none⟩ ∧ fa = ⟨bf, o, none⟩ ∧ base ≤ bc ∧ base ≤ bf ∧ bc ≠ bf ∧ bc < bw ∧ bf < bw ∧
    (∀ k, k < n → w.cell? ⟨bc, k * 4 + 2, none⟩ = some (.int .i64 (Hd k))) ∧ (∀ k, k < n → w.cell? ⟨bf, o + k, none⟩ = some (.int .i64 (f k))) ∧ ∀ k, k < n → w.frozen? ⟨bf, o + k, none⟩ = false

/-- a watch whose blocks have not turned -/
theorem WatchOk.keep {w w' : World} {base bw n cc : Nat} {ca : Option Addr} {fa : Addr} {Hd f : Nat → Int} {c : Int} (h : WatchOk w base bw n cc ca fa Hd f c) (hs : w.heap.size ≤ w'.heap.size)
    (hk : ∀ b, b ≤ bw → w'.heap[b]? = w.heap[b]?) : WatchOk w' base bw n cc ca fa Hd f c :=
  ⟨(World.cell?_of_block (w := w) (hk bw (Nat.le_refl _))).trans h.c0, (World.cell?_of_block (w := w) (hk bw (Nat.le_refl _))).trans h.c1, (World.cell?_of_block (w := w) (hk bw (Nat.le_refl _))).trans h.c2,
    (World.frozen?_of_block (w := w) (hk bw (Nat.le_refl _))).trans h.u2, h.lo, Nat.lt_of_lt_of_le h.hi hs,
    fun h0 => by
      obtain ⟨bc, bf, o, e1, e2, e3, e4, e5, e6, e7, e8, e9, e10⟩ := h.row h0
      exact ⟨bc, bf, o, e1, e2, e3, e4, e5, e6, e7, fun k hk2 => (World.cell?_of_block (w := w) (hk bc (Nat.le_of_lt e6))).trans (e8 k hk2), fun k hk2 => (World.cell?_of_block (w := w) (hk bf (Nat.le_of_lt e7))).trans (e9 k hk2),
        fun k hk2 => (World.frozen?_of_block (w := w) (hk bf (Nat.le_of_lt e7))).trans (e10 k hk2)⟩⟩

/-- a check's first failure is noted -/
theorem WatchOk.note {w : World} {base bw n cc : Nat} {ca : Option Addr} {fa : Addr} {Hd f : Nat → Int} {c : Int} (h : WatchOk w base bw n cc ca fa Hd f c) {k bf o : Nat} (hk : k < n) (ha : fa = ⟨bf, o, none⟩) (v : Int) :
    WatchOk (w.setCell ⟨bf, o + k, none⟩ (.int .i64 v)) base bw n cc ca fa Hd (fun j => if j = k then v else f j) c := by
  obtain ⟨bc, bf', o', e1, e2, e3, e4, e5, e6, e7, e8, e9, e10⟩ := h.row (by omega)
  rw [ha] at e2
  simp only [Addr.mk.injEq, and_true] at e2
  obtain ⟨rfl, rfl⟩ := e2
  have hne : ∀ b i, b ≠ bf → (w.setCell ⟨bf, o + k, none⟩ (.int .i64 v)).cell? ⟨b, i, none⟩ = w.cell? ⟨b, i, none⟩ := fun b i hb => World.cell?_of_block (w := w) (Below.heap_setCell _ _ _ _ hb)
  have hnf : ∀ b i, b ≠ bf → (w.setCell ⟨bf, o + k, none⟩ (.int .i64 v)).frozen? ⟨b, i, none⟩ = w.frozen? ⟨b, i, none⟩ := fun b i hb => World.frozen?_of_block (w := w) (Below.heap_setCell _ _ _ _ hb)
  refine ⟨(hne _ _ (by omega)).trans h.c0, (hne _ _ (by omega)).trans h.c1, (hne _ _ (by omega)).trans h.c2, (hnf _ _ (by omega)).trans h.u2, h.lo, (by simpa [World.setCell] using h.hi),
    fun _ => ⟨bc, bf, o, e1, ha, e3, e4, e5, e6, e7, fun j hj => (hne _ _ (by omega)).trans (e8 j hj), fun j hj => ?_, fun j hj => ?_⟩⟩
  · by_cases e : j = k
    · subst e
      simp only [if_true]
      exact World.cell?_setCell_same (h := e9 j hj) ..
    · simp only [e, if_false]
      rw [World.cell?_setCell_other (h := fun h => e (by simp only [Addr.mk.injEq] at h; omega))]
      exact e9 j hj
  · rw [World.frozen?_setCell]; exact e10 j hj

theorem chks_succ (K : Nat → Int) (S : Nat → ByteArray) (H A : Nat → Int) (n : Nat) : chks K S H A (n + 1) = chks K S H A n ++ chk K S H A n := by simp [chks, List.range_succ]

theorem chks_len (K : Nat → Int) (S : Nat → ByteArray) (H A : Nat → Int) (n : Nat) : (chks K S H A n).length = n * 4 := by
  induction n with
  | zero => rfl
  | succ n ih => rw [chks_succ, List.length_append, ih]; simp [chk]; omega

theorem chks_get (K : Nat → Int) (S : Nat → ByteArray) (H A : Nat → Int) (n k : Nat) (hk : k < n) : (chks K S H A n)[k * 4 + 2]? = some (.int .i64 (H k)) := by
  induction n with
  | zero => omega
  | succ n ih =>
    rw [chks_succ]
    by_cases h : k < n
    · rw [List.getElem?_append_left (by rw [chks_len]; omega)]; exact ih h
    · have : k = n := by omega
      subst this
      rw [List.getElem?_append_right (by rw [chks_len]; omega), chks_len]
      have e : k * 4 + 2 - k * 4 = 2 := by omega
      rw [e]
      simp [chk]

/-- what New is given: nothing, or a row of the checks -/
def Given (w : World) (a : Option Addr) (n : Nat) (xs : List Value) : Prop := (n = 0 ∧ a = none) ∨ ∃ g, a = some ⟨g, 0, none⟩ ∧ g < w.heap.size ∧ ∀ j u, xs[j]? = some u → w.cell? ((⟨g, 0, none⟩ : Addr).add j) = some u

def SomeWatch (w w' : World) (n : Nat) (H : Nat → Int) (e : Ending) : Prop := ∃ bw cc ca fa, e = .returned (.pointer (some ⟨bw, 0, none⟩)) ∧ WatchOk w' w.heap.size bw n cc ca fa H (fun _ => -1) 0 ∧ Below w.heap.size w w'

set_option maxRecDepth 100000 in
set_option maxHeartbeats 1600000 in
theorem new_row (g n cap : Nat) (K : Nat → Int) (S : Nat → ByteArray) (H A : Nat → Int) (w : World) (hn : n ≤ 60) (h0 : 0 < n) (hg : g < w.heap.size) (hx : ∀ j u, (chks K S H A n)[j]? = some u → w.cell? ((⟨g, 0, none⟩ : Addr).add j) = some u) :
    Calls Tryz.prog 15 #[.slice (some ⟨g, 0, none⟩) n cap] w fun e w' => SomeWatch w w' n H e := by
  go_enter Tryz.func15, Tryz.ntmps15
  go_wp2_with fail
  refine (cloneC_any g n cap _ w hn (chks_len K S H A n) hx (chks_one K S H A n) hg).mono ?_
  rintro e w1 ⟨v, rfl, hown, hb1⟩
  rcases hown.2 with ⟨_, h⟩ | ⟨bc, cc, cur, rfl, q1, q2, q3, q4, q5, q6⟩
  · omega
  have hcur := hown.cells (g := bc) rfl
  have hs1 := hb1.size
  have hbc : bc < w1.heap.size := (Array.getElem?_eq_some_iff.1 q2).1
  go_wp2_with fail
  refine (repeat_any w1.heap.size n (0, 0) 3 (w1.alloc (.cells #[.int .i64 (-1)] 3)) hn (heap_alloc_new _ _)).mono ?_
  rintro e w2 ⟨a, rfl, hb2, hrow⟩
  obtain ⟨bf, o, rfl, r1, r2, r3, r4⟩ := hrow h0
  have hs2 := hb2.size
  have hz1 : (w1.alloc (.cells #[.int .i64 (-1)] 3)).heap.size = w1.heap.size + 1 := by simp
  have hbelow : Below w.heap.size w (w2.alloc (.cells #[.slice (some ⟨bc, 0, none⟩) n cc, .slice (some ⟨bf, o, none⟩) n n, .int .i64 0] 103)) :=
    (((hb1.alloc (by omega) _).trans (hb2.mono (by omega)))).alloc (by omega) _
  have hc2 : ∀ k, k < n → (w2.alloc (.cells #[.slice (some ⟨bc, 0, none⟩) n cc, .slice (some ⟨bf, o, none⟩) n n, .int .i64 0] 103)).cell? ⟨bc, k * 4 + 2, none⟩ = some (.int .i64 (H k)) := by
    intro k hk
    rw [World.cell?_alloc_past _ _ _ (by show bc < _; omega), hb2.cell (p := ⟨bc, _, none⟩) (by show bc < _; omega), World.cell?_alloc_past _ _ _ hbc]
    have := hcur _ _ (chks_get K S H A n k hk)
    have e : ((⟨bc, 0, none⟩ : Addr).add (k * 4 + 2)) = ⟨bc, k * 4 + 2, none⟩ := by unfold Addr.add; rw [if_neg (by omega)]; simp
    rw [e] at this; exact this
  have hlast : SomeWatch w (w2.alloc (.cells #[.slice (some ⟨bc, 0, none⟩) n cc, .slice (some ⟨bf, o, none⟩) n n, .int .i64 0] 103)) n H (.returned (.pointer (some ⟨w2.heap.size, 0, none⟩))) :=
    ⟨w2.heap.size, cc, some ⟨bc, 0, none⟩, ⟨bf, o, none⟩, rfl,
      { c0 := by rw [World.cell?_alloc_at _ _ _ _ rfl]; rfl, c1 := by rw [World.cell?_alloc_at _ _ _ _ rfl]; rfl, c2 := by rw [World.cell?_alloc_at _ _ _ _ rfl]; rfl,
        u2 := World.frozen?_alloc_at _ _ _ _ rfl, lo := by omega, hi := by simp,
        row := fun _ => ⟨bc, bf, o, rfl, rfl, q1, by omega, by omega, by omega, by omega, hc2,
          fun k hk => by rw [World.cell?_alloc_past _ _ _ (by show bf < _; omega)]; exact r3 k hk,
          fun k hk => by rw [World.frozen?_alloc_past _ _ _ (by show bf < _; omega)]; exact r4 k hk⟩ }, hbelow⟩
  clear hc2 hbelow r3 r4 hcur hown hx
  go_wp2
  go_ret
  exact hlast
end Go.Proofs.YtocplhpfndgagaaGreatDoor
namespace Go.Proofs.YtocplhpfndgagaaGreatDoor
open Go.RowKit

set_option maxRecDepth 100000 in
set_option maxHeartbeats 1600000 in
theorem new_nil (H : Nat → Int) (w : World) :
    Calls Tryz.prog 15 #[.slice none 0 0] w fun e w' => SomeWatch w w' 0 H e := by
  go_enter Tryz.func15, Tryz.ntmps15
  go_wp2_with fail
  refine (cloneC_nil w).mono ?_
  rintro e w1 ⟨rfl, rfl⟩
  go_wp2_with fail
  refine (repeat_any w.heap.size 0 (0, 0) 3 (w.alloc (.cells #[.int .i64 (-1)] 3)) (by omega) (heap_alloc_new _ _)).mono ?_
  rintro e w2 ⟨a, rfl, hb2, _⟩
  have hs2 := hb2.size
  have hz1 : (w.alloc (.cells #[.int .i64 (-1)] 3)).heap.size = w.heap.size + 1 := by simp
  have hbelow : Below w.heap.size w (w2.alloc (.cells #[.slice none 0 0, .slice (some a) 0 0, .int .i64 0] 103)) :=
    ((((Below.refl _ _).alloc (Nat.le_refl _) _).trans (hb2.mono (by omega)))).alloc (by omega) _
  have hlast : SomeWatch w (w2.alloc (.cells #[.slice none 0 0, .slice (some a) 0 0, .int .i64 0] 103)) 0 H (.returned (.pointer (some ⟨w2.heap.size, 0, none⟩))) :=
    ⟨w2.heap.size, 0, none, a, rfl,
      { c0 := by rw [World.cell?_alloc_at _ _ _ _ rfl]; rfl, c1 := by rw [World.cell?_alloc_at _ _ _ _ rfl]; rfl, c2 := by rw [World.cell?_alloc_at _ _ _ _ rfl]; rfl,
        u2 := World.frozen?_alloc_at _ _ _ _ rfl, lo := by omega, hi := by simp, row := fun h => by omega }, hbelow⟩
  clear hbelow
  go_wp2
  go_ret
  exact hlast

/-- Holds of a check, in a row -/
def holdsB (Hd : Nat → Int) (R : Int → Option Int) (k : Nat) : Bool := match R (Hd k) with | some v => v != 0 | none => false

/-- a watch goes on by one row -/
def stepF (hb : Nat → Bool) (f : Nat → Int) (c : Int) (k : Nat) : Int := if f k = -1 ∧ hb k = false then c else f k
/-- the checks that fail now, of the first so many -/
def fails (hb : Nat → Bool) (f : Nat → Int) (k : Nat) : List Nat := (List.range k).filter fun j => decide (f j = -1) && !hb j
def mixF (hb : Nat → Bool) (f : Nat → Int) (c : Int) (k j : Nat) : Int := if j < k then stepF hb f c j else f j
end Go.Proofs.YtocplhpfndgagaaGreatDoor
namespace Go.Proofs.YtocplhpfndgagaaGreatDoor
open Go.RowKit

/-- what a row holds at a place, as 'holds' reads it -/
def rowB (R : Nat → Int) (rl : Nat) (k : Int) : Bool := if 0 ≤ k ∧ k < rl then R k.toNat != 0 else false

/-- a row that is given: nothing, or cells -/
def RowAt (w : World) (base : Nat) (ra : Option Addr) (rl : Nat) (R : Nat → Int) : Prop :=
  0 < rl → ∃ br ofr, ra = some ⟨br, ofr, none⟩ ∧ br < base ∧ ∀ j, j < rl → w.cell? ⟨br, ofr + j, none⟩ = some (.int .i64 (R j))

theorem holds_any (bc n cc i : Nat) (hi : i < n) (hn : n ≤ 60) (ra : Option Addr) (rl rc base : Nat) (hlen : rl ≤ 9223372036854775807) (R : Nat → Int) (kf : Int) (w : World) (h : w.cell? ⟨bc, i * 4 + 2, none⟩ = some (.int .i64 kf)) (hr : RowAt w base ra rl R) :
    Calls Tryz.prog 44 #[.slice (some ⟨bc, 0, none⟩) n cc, .int .i64 i, .slice ra rl rc] w fun e w' => e = .returned (.bool (rowB R rl kf)) ∧ w = w' := by
  by_cases h0 : kf < 0
  · have := holds_low bc 0 n cc i hi hn ra rl rc kf h0 w (by simpa using h)
    simpa [rowB, show ¬ 0 ≤ kf by omega] using this
  · by_cases h1 : (rl : Int) ≤ kf
    · have := holds_high bc 0 n cc i hi hn ra rl rc hlen kf (by omega) h1 w (by simpa using h)
      simpa [rowB, show ¬ kf < (rl : Int) by omega] using this
    · obtain ⟨br, ofr, rfl, hb, hc⟩ := hr (by omega)
      have e : kf = ((kf.toNat : Nat) : Int) := (Int.toNat_of_nonneg (by omega)).symm
      have := holds_in bc 0 n cc i hi hn br ofr rl rc hlen kf.toNat (by omega) (R kf.toNat) w (by rw [← e]; simpa using h) (hc _ (by omega))
      simpa [rowB, show 0 ≤ kf by omega, show kf < (rl : Int) by omega] using this
end Go.Proofs.YtocplhpfndgagaaGreatDoor
namespace Go.Proofs.YtocplhpfndgagaaGreatDoor
open Go.RowKit

/-- failing checks' numbers, as cells -/
def failV (hb : Nat → Bool) (f : Nat → Int) (k : Nat) : List Value := (fails hb f k).map fun (j : Nat) => (Value.int .i64 j)
theorem fails_succ (hb : Nat → Bool) (f : Nat → Int) (k : Nat) : fails hb f (k + 1) = fails hb f k ++ (if f k = -1 ∧ hb k = false then [k] else []) := by
  simp only [fails, List.range_succ, List.filter_append, List.filter_cons, List.filter_nil]
  by_cases h1 : f k = -1 <;> cases h2 : hb k <;> simp [h1]
theorem fails_len (hb : Nat → Bool) (f : Nat → Int) (k : Nat) : (fails hb f k).length ≤ k := by
  have := List.length_filter_le (fun j => decide (f j = -1) && !hb j) (List.range k)
  simpa [fails] using this
theorem mixF_zero (hb : Nat → Bool) (f : Nat → Int) (c : Int) : mixF hb f c 0 = f := by funext j; simp [mixF]
theorem mixF_at (hb : Nat → Bool) (f : Nat → Int) (c : Int) (k : Nat) : mixF hb f c k k = f k := by simp [mixF]
theorem mixF_succ_skip (hb : Nat → Bool) (f : Nat → Int) (c : Int) (k : Nat) (h : ¬ (f k = -1 ∧ hb k = false)) : mixF hb f c (k + 1) = mixF hb f c k := by
  funext j
  unfold mixF stepF
  by_cases e : j = k
  · subst e
    rw [if_pos (by omega), if_neg h, if_neg (by omega)]
  · by_cases h2 : j < k
    · rw [if_pos (by omega), if_pos h2]
    · rw [if_neg (by omega), if_neg h2]
theorem mixF_succ_note (hb : Nat → Bool) (f : Nat → Int) (c : Int) (k : Nat) (h : f k = -1 ∧ hb k = false) : mixF hb f c (k + 1) = fun j => if j = k then c else mixF hb f c k j := by
  funext j
  unfold mixF stepF
  by_cases e : j = k
  · subst e
    rw [if_pos (by omega), if_pos h, if_pos rfl]
  · by_cases h2 : j < k
    · rw [if_pos (by omega), if_neg e, if_pos h2]
    · rw [if_neg (by omega), if_neg e, if_neg h2]

/-- a row of the call's own, behind stores elsewhere -/
theorem ownsRow_blocks {w w' : World} {base : Nat} {e : TypeId} {size : Nat} {v : Value} {n : Nat} {xs : List Value} (h : w.ownsRow base e size v n xs) (hk : ∀ b, base ≤ b → w'.heap[b]? = w.heap[b]?) : w'.ownsRow base e size v n xs := by
  refine ⟨h.1, ?_⟩
  rcases h.2 with h2 | ⟨g, cap, cur, p1, p2, p3, p4⟩
  · exact Or.inl h2
  · exact Or.inr ⟨g, cap, cur, p1, p2, (hk g p2).trans p3, p4⟩

/-- a watch counts -/
theorem WatchOk.counted {w : World} {base bw n cc : Nat} {ca : Option Addr} {fa : Addr} {Hd f : Nat → Int} {c : Int} (h : WatchOk w base bw n cc ca fa Hd f c) (v : Int) :
    WatchOk (w.setCell ⟨bw, 2, none⟩ (.int .i64 v)) base bw n cc ca fa Hd f v := by
  have hne : ∀ b i, b ≠ bw → (w.setCell ⟨bw, 2, none⟩ (.int .i64 v)).cell? ⟨b, i, none⟩ = w.cell? ⟨b, i, none⟩ := fun b i hb => World.cell?_of_block (w := w) (Below.heap_setCell _ _ _ _ hb)
  have hnf : ∀ b i, b ≠ bw → (w.setCell ⟨bw, 2, none⟩ (.int .i64 v)).frozen? ⟨b, i, none⟩ = w.frozen? ⟨b, i, none⟩ := fun b i hb => World.frozen?_of_block (w := w) (Below.heap_setCell _ _ _ _ hb)
  have hsame : ∀ i, i ≠ 2 → (w.setCell ⟨bw, 2, none⟩ (.int .i64 v)).cell? ⟨bw, i, none⟩ = w.cell? ⟨bw, i, none⟩ := fun i hi => World.cell?_setCell_other (h := fun e => hi (by simp only [Addr.mk.injEq] at e; omega)) ..
  refine ⟨(hsame 0 (by omega)).trans h.c0, (hsame 1 (by omega)).trans h.c1, World.cell?_setCell_same (h := h.c2) .., (by rw [World.frozen?_setCell]; exact h.u2), h.lo, (by simpa [World.setCell] using h.hi), fun h0 => ?_⟩
  obtain ⟨bc, bf, o, e1, e2, e3, e4, e5, e6, e7, e8, e9, e10⟩ := h.row h0
  exact ⟨bc, bf, o, e1, e2, e3, e4, e5, e6, e7, fun j hj => (hne _ _ (by omega)).trans (e8 j hj), fun j hj => (hne _ _ (by omega)).trans (e9 j hj), fun j hj => (hnf _ _ (by omega)).trans (e10 j hj)⟩

/-- what a step leaves: but for the watch's two blocks all that lay there lies there still -/
def Others (w w' : World) (bw bf : Nat) : Prop := ∀ b, b < w.heap.size → b ≠ bw → b ≠ bf → w'.heap[b]? = w.heap[b]?

set_option maxRecDepth 100000 in
set_option maxHeartbeats 3200000 in
theorem step_any (base bw n cc : Nat) (ca : Option Addr) (fa : Addr) (Hd f : Nat → Int) (c : Int) (ra : Option Addr) (rl rc : Nat) (R : Nat → Int) (w : World) (hn : n ≤ 60) (hlen : rl ≤ 9223372036854775807)
    (hc0 : 0 ≤ c) (hc1 : c ≤ 1000) (hbase : base ≤ w.heap.size) (hw : WatchOk w base bw n cc ca fa Hd f c) (hr : RowAt w base ra rl R) :
    Calls Tryz.prog 18 #[.pointer (some ⟨bw, 0, none⟩), .slice ra rl rc] w fun e w' => ∃ v, e = .returned v ∧ w'.ownsRow w.heap.size 3 1 v (fails (fun k => rowB R rl (Hd k)) f n).length (failV (fun k => rowB R rl (Hd k)) f n) ∧
      WatchOk w' base bw n cc ca fa Hd (mixF (fun k => rowB R rl (Hd k)) f c n) (c + 1) ∧ Below base w w' ∧ Others w w' bw fa.block := by
  obtain ⟨i0, hi0, hz0, hz1, hz2⟩ := info_parts info3
  have h0 := hw.c0
  have hhi := hw.hi
  go_enter Tryz.func18, Tryz.ntmps18
  go_wp2_with fail
  go_loopw [5, 14] (fun v i wr => ∃ k : Nat, k ≤ n ∧ i = .int .i64 k ∧ wr.ownsRow w.heap.size 3 1 v (fails (fun k => rowB R rl (Hd k)) f k).length (failV (fun k => rowB R rl (Hd k)) f k) ∧
      WatchOk wr base bw n cc ca fa Hd (mixF (fun k => rowB R rl (Hd k)) f c k) c ∧ Below base w wr ∧ Others w wr bw fa.block) (fun _ i _ => n - (intOf i).toNat)
  case atStart => exact ⟨0, Nat.zero_le _, rfl, World.ownsRow_nil _ _ _ _, (mixF_zero _ f c).symm ▸ hw, Below.refl _ _, fun _ _ _ _ => rfl⟩
  case round =>
    obtain ⟨k, hk, rfl, hown, hwo, hbel, hoth⟩ := hrel
    clear h0 hhi
    have hsz := hbel.size
    by_cases hlt : k < n
    · obtain ⟨bc, bf, o, rfl, rfl, q1, q2, q3, q4, q5, hcell, hfirst, hfz⟩ := hwo.row (by omega)
      have c0 := hwo.c0
      have c1 := hwo.c1
      have c2 := hwo.c2
      have cf : wr.cell? ⟨bf, o + k, none⟩ = some (.int .i64 (f k)) := by have := hfirst k hlt; rwa [mixF_at] at this
      have cz := hfz k hlt
      have cc0 := hcell k hlt
      have hrw : RowAt wr base ra rl R := by
        intro h0
        obtain ⟨br, ofr, e1, e2, e3⟩ := hr h0
        exact ⟨br, ofr, e1, e2, fun j hj => (hbel.cell (p := ⟨br, _, none⟩) e2).trans (e3 j hj)⟩
      have hi0' : (0 : Int) ≤ (k : Int) := Int.natCast_nonneg _
      have hi1 : (k : Int) < (n : Int) := by omega
      have hfl := fails_len (fun k => rowB R rl (Hd k)) f k
      clear hcell hfirst hfz hr
      by_cases hf1 : f k = -1
      · rw [hf1] at cf
        have hholds := fun w' (e : w' = wr) => (holds_any bc n cc k hlt hn ra rl rc base hlen R (Hd k) w' (by rw [e]; exact cc0) (by rw [e]; exact hrw))
        go_wp2_with fail
        refine (hholds _ rfl).mono ?_
        rintro e w1 ⟨rfl, rfl⟩
        cases hrb : rowB R rl (Hd k)
        · have c2 := hwo.c2
          go_wp2_with fail
          have hown2 : (wr.setCell ⟨bf, o + k, none⟩ (.int .i64 c)).ownsRow w.heap.size 3 1 u5 (fails (fun k => rowB R rl (Hd k)) f k).length (failV (fun k => rowB R rl (Hd k)) f k) :=
            ownsRow_blocks hown (fun b hb => Below.heap_setCell _ _ _ _ (by show b ≠ bf; have := hw.hi; omega))
          have hwo2 := hwo.note hlt rfl c
          have hbel2 : Below base w (wr.setCell ⟨bf, o + k, none⟩ (.int .i64 c)) := hbel.setCell (by show base ≤ bf; exact q2) _
          have hoth2 : Others w (wr.setCell ⟨bf, o + k, none⟩ (.int .i64 c)) bw bf := fun b h1 h2 h3 => (Below.heap_setCell _ _ _ _ h3).trans (hoth b h1 h2 h3)
          clear hown hwo hbel hoth cc0 hholds hrw
          go_region
          generalize wr.setCell ⟨bf, o + k, none⟩ (.int .i64 c) = w2 at *
          have hs2 := hbel2.size
          go_wp2_with (at_builtin; refine wpList_append_own _ rfl _ _ 45 rfl w.heap.size 3 i0 _ 1 8 Tryz.underlying45 hi0 hz0 hz1 hz2 rfl (by decide) u5 _ _ rfl ((hown2.alloc _).drew) ⟨w2.heap.size, 0, none⟩ 1 1 [.int .i64 k] rfl rfl (World.news_of_block (cs := #[.int .i64 k]) (t := 3) (fr := (0, 0)) (heap_alloc_new w2 _)) (by simp [Value.oneCell']) (by unfold maxLen; omega) (by omega) (by simp; omega) ?_; intro v' w1 hown1 hgrow _)
          go_roundw
          case rel => 
            have hs : f k = -1 ∧ rowB R rl (Hd k) = false := ⟨hf1, hrb⟩
            have hblk : ∀ b, b < w.heap.size → w1.heap[b]? = w2.heap[b]? := by
              intro b hb2
              refine (hgrow.block b (by simp; omega) (fun e => ?_)).trans (Below.heap_alloc _ _ _ (by omega))
              have := (hown2.lt b e.symm).1
              omega
            have hsz3 : w2.heap.size ≤ w1.heap.size := by have := hgrow.size; simp at this; omega
            refine ⟨k + 1, by omega, by go_num, by simpa [failV, fails_succ, hs] using hown1, ?_, ?_, ?_⟩
            · rw [mixF_succ_note _ f c k hs]
              exact hwo2.keep hsz3 (fun b hb2 => hblk b (by have := hw.hi; omega))
            · exact ((hbel2.alloc (by omega) _).drew).grown hgrow (by simp; omega) (fun j hj => by have := (hown2.lt j hj).1; omega)
            · exact fun b h1 h2 h3 => (hblk b h1).trans (hoth2 b h1 h2 h3)
          case measure => simp [intOf]; omega
        · go_wp2
          go_roundw
          case rel => 
            have hs : ¬ (f k = -1 ∧ rowB R rl (Hd k) = false) := fun h => by rw [hrb] at h; exact absurd h.2 (by decide)
            exact ⟨k + 1, by omega, by go_num, by simpa [failV, fails_succ, hs] using hown, by rw [mixF_succ_skip _ f c k hs]; exact hwo, hbel, hoth⟩
          case measure => simp [intOf]; omega
      · go_wp2
        go_roundw
        case rel => 
          have hs : ¬ (f k = -1 ∧ rowB R rl (Hd k) = false) := fun h => hf1 h.1
          exact ⟨k + 1, by omega, by go_num, by simpa [failV, fails_succ, hs] using hown, by rw [mixF_succ_skip _ f c k hs]; exact hwo, hbel, hoth⟩
        case measure => simp [intOf]; omega
    · have c2 := hwo.c2
      have u2 := hwo.u2
      have hkn : k = n := by omega
      subst hkn
      go_wp2
      go_ret
      have hlo := hwo.lo
      have hhi := hw.hi
      refine ⟨u5, rfl, ownsRow_blocks hown (fun b hb => Below.heap_setCell _ _ _ _ (by show b ≠ bw; omega)), hwo.counted _, hbel.setCell (by show base ≤ bw; exact hlo) _, fun b h1 h2 h3 => (Below.heap_setCell _ _ _ _ h2).trans (hoth b h1 h2 h3)⟩
end Go.Proofs.YtocplhpfndgagaaGreatDoor
namespace Go.Proofs.YtocplhpfndgagaaGreatDoor
open Go.RowKit

/-- a row of numbers, of blocks from 'lo' on -/
def IntRow (w : World) (lo : Nat) (a : Option Addr) (n : Nat) (f : Nat → Int) : Prop :=
  0 < n → ∃ g, a = some ⟨g, 0, none⟩ ∧ lo ≤ g ∧ g < w.heap.size ∧ ∀ k, k < n → w.cell? ⟨g, k, none⟩ = some (.int .i64 (f k))

theorem IntRow.keep {w w' : World} {lo : Nat} {a : Option Addr} {n : Nat} {f : Nat → Int} (h : IntRow w lo a n f) (hs : w.heap.size ≤ w'.heap.size) (hk : ∀ b, lo ≤ b → b < w.heap.size → w'.heap[b]? = w.heap[b]?) : IntRow w' lo a n f := by
  intro h0
  obtain ⟨g, e1, e2, e3, e4⟩ := h h0
  exact ⟨g, e1, e2, by omega, fun k hk2 => (World.cell?_of_block (w := w) (hk g e2 e3)).trans (e4 k hk2)⟩

theorem intRow_of_owns {w : World} {lo n : Nat} {v : Value} {xs : List Value} {f : Nat → Int} (h : w.ownsRow lo 3 1 v n xs) (hx : ∀ k, k < n → xs[k]? = some (.int .i64 (f k))) :
    ∃ a cap, v = .slice a n cap ∧ IntRow w lo a n f := by
  rcases h.2 with ⟨rfl, rfl⟩ | ⟨g, cap, cur, rfl, q1, q2, _⟩
  · exact ⟨none, 0, rfl, fun h0 => absurd h0 (by omega)⟩
  · refine ⟨some ⟨g, 0, none⟩, cap, rfl, fun _ => ⟨g, rfl, q1, (Array.getElem?_eq_some_iff.1 q2).1, fun k hk => ?_⟩⟩
    have := h.cells rfl k _ (hx k hk)
    have e : ((⟨g, 0, none⟩ : Addr).add k) = ⟨g, k, none⟩ := by unfold Addr.add; split <;> simp_all
    rw [e] at this
    exact this

set_option maxRecDepth 100000 in
set_option maxHeartbeats 800000 in
theorem cloneI_zero (fa : Addr) (cap : Nat) (w : World) :
    Calls Tryz.prog 45 #[.slice (some fa) 0 cap] w fun e w' => ∃ v, e = .returned v ∧ w'.ownsRow w.heap.size 3 1 v 0 [] ∧ Below w.heap.size w w' := by
  obtain ⟨i0, hi0, hz0, hz1, hz2⟩ := info_parts info3
  have hown : (w.alloc (.cells #[] 3)).ownsRow w.heap.size 3 1 (.slice (some ⟨w.heap.size, 0, none⟩) 0 0) 0 [] := World.ownsRow_made w #[] 0 (Nat.le_refl _) (by unfold maxLen; omega) rfl
  have hq := run_eql_slice_nil (P := Tryz.prog) w 45 3 (some fa) 0 cap Tryz.underlying45
  go_enter Tryz.func45, Tryz.ntmps45
  go_wp2_with (at_builtin; refine wpList_append_own _ rfl _ _ 45 rfl w.heap.size 3 i0 _ 1 8 Tryz.underlying45 hi0 hz0 hz1 hz2 rfl (by decide) _ _ _ rfl hown fa 0 cap [] rfl rfl (fun j u h => by simp at h) (fun u h => by simp at h) (by unfold maxLen; omega) (by omega) (by simp) ?_; intro v' w1 hown1 hgrow _)
  go_ret
  exact ⟨v', rfl, by simpa using hown1, ((Below.refl _ _).alloc (Nat.le_refl _) _).grown hgrow (by simp) (fun j hj => Nat.le_of_eq (Option.some.inj (show some w.heap.size = some j from hj)))⟩

set_option maxRecDepth 100000 in
set_option maxHeartbeats 800000 in
theorem first_zero (b : Nat) (fa : Addr) (cap : Nat) (w : World) (hf : w.cell? ⟨b, 1, none⟩ = some (.slice (some fa) 0 cap)) :
    Calls Tryz.prog 21 #[.pointer (some ⟨b, 0, none⟩)] w fun e w' => ∃ v, e = .returned v ∧ w'.ownsRow w.heap.size 3 1 v 0 [] ∧ Below w.heap.size w w' := by
  go_enter Tryz.func21, Tryz.ntmps21
  go_wp2_with fail
  refine (cloneI_zero fa cap w).mono ?_
  rintro e w' ⟨v, rfl, hown, hb⟩
  go_wp2
  go_ret
  exact ⟨v, rfl, hown, hb⟩

/-- First, of a watch -/
theorem first_watch (base bw n cc : Nat) (ca : Option Addr) (fa : Addr) (Hd f : Nat → Int) (c : Int) (w : World) (hn : n ≤ 60) (hw : WatchOk w base bw n cc ca fa Hd f c) :
    Calls Tryz.prog 21 #[.pointer (some ⟨bw, 0, none⟩)] w fun e w' => ∃ a cap, e = .returned (.slice a n cap) ∧ IntRow w' w.heap.size a n f ∧ Below w.heap.size w w' := by
  by_cases h0 : 0 < n
  · obtain ⟨bc, bf, o, e1, rfl, e3, e4, e5, e6, e7, e8, e9, e10⟩ := hw.row h0
    have hlt : bf < w.heap.size := by have := hw.hi; omega
    refine (first_any bw bf o n n ((List.range n).map fun k => Value.int .i64 (f k)) w hw.c1 hn (by simp) (fun j u hj => ?_) (fun u hu => ?_) hlt).mono ?_
    · rw [List.getElem?_map] at hj
      obtain ⟨k, hk, rfl⟩ := Option.map_eq_some_iff.1 hj
      obtain ⟨hk2, rfl⟩ := List.getElem?_eq_some_iff.1 hk
      have e : ((⟨bf, o, none⟩ : Addr).add j) = ⟨bf, o + j, none⟩ := by unfold Addr.add; split <;> simp_all
      rw [e, e9 j (by simpa using hk2)]
      simp
    · obtain ⟨k, _, rfl⟩ := List.mem_map.1 hu
      rfl
    · rintro e w' ⟨v, rfl, hown, hb⟩
      obtain ⟨a, cap, rfl, hr⟩ := intRow_of_owns (f := f) hown (fun k hk => by simp [hk])
      exact ⟨a, cap, rfl, hr, hb⟩
  · obtain rfl : n = 0 := by omega
    refine (first_zero bw fa 0 w hw.c1).mono ?_
    rintro e w' ⟨v, rfl, hown, hb⟩
    obtain ⟨a, cap, rfl, hr⟩ := intRow_of_owns (f := f) hown (fun k hk => absurd hk (by omega))
    exact ⟨a, cap, rfl, hr, hb⟩

/-- Step, of a watch -/
theorem step_watch (base bw n cc : Nat) (ca : Option Addr) (fa : Addr) (Hd f : Nat → Int) (c : Int) (ra : Option Addr) (rl rc : Nat) (R : Nat → Int) (w : World) (hn : n ≤ 60) (hlen : rl ≤ 9223372036854775807)
    (hc0 : 0 ≤ c) (hc1 : c ≤ 1000) (hbase : base ≤ w.heap.size) (hw : WatchOk w base bw n cc ca fa Hd f c) (hr : RowAt w base ra rl R) :
    Calls Tryz.prog 18 #[.pointer (some ⟨bw, 0, none⟩), .slice ra rl rc] w fun e w' => ∃ a cap, e = .returned (.slice a (fails (fun k => rowB R rl (Hd k)) f n).length cap) ∧
      IntRow w' w.heap.size a (fails (fun k => rowB R rl (Hd k)) f n).length (fun j => (((fails (fun k => rowB R rl (Hd k)) f n).getD j 0 : Nat) : Int)) ∧
      WatchOk w' base bw n cc ca fa Hd (mixF (fun k => rowB R rl (Hd k)) f c n) (c + 1) ∧ Below base w w' ∧ Others w w' bw fa.block := by
  refine (step_any base bw n cc ca fa Hd f c ra rl rc R w hn hlen hc0 hc1 hbase hw hr).mono ?_
  rintro e w' ⟨v, rfl, hown, h1, h2, h3⟩
  obtain ⟨a, cap, rfl, hrow⟩ := intRow_of_owns (f := fun j => (((fails (fun k => rowB R rl (Hd k)) f n).getD j 0 : Nat) : Int)) hown (fun k hk => by simp [failV, hk])
  exact ⟨a, cap, rfl, hrow, h1, h2, h3⟩

/-- what Own gives, and New takes -/
def Owned (w : World) (v : Value) (n : Nat) (xs : List Value) : Prop := (n = 0 ∧ v = .slice none 0 0) ∨ (0 < n ∧ ∃ g cap, v = .slice (some ⟨g, 0, none⟩) n cap ∧ g < w.heap.size ∧ ∀ j u, xs[j]? = some u → w.cell? ((⟨g, 0, none⟩ : Addr).add j) = some u)

/-- checks that are given: none, or cells -/
def ChecksAt (w : World) (a : Option Addr) (n : Nat) (K : Nat → Int) (S : Nat → ByteArray) (H A : Nat → Int) : Prop :=
  0 < n → ∃ b off, a = some ⟨b, off, none⟩ ∧ b < w.heap.size ∧ (∀ i, i < n → w.cell? ⟨b, off + i * 4, none⟩ = some (.int .i64 (K i))) ∧ (∀ i, i < n → w.cell? ⟨b, off + i * 4 + 1, none⟩ = some (.string (S i))) ∧
    (∀ i, i < n → w.cell? ⟨b, off + i * 4 + 2, none⟩ = some (.int .i64 (H i))) ∧ (∀ i, i < n → w.cell? ⟨b, off + i * 4 + 3, none⟩ = some (.int .i64 (A i)))

theorem own_all (a : Option Addr) (n cap : Nat) (K : Nat → Int) (S : Nat → ByteArray) (H A : Nat → Int) (w : World) (hn : n ≤ 60) (hc : ChecksAt w a n K S H A) :
    Calls Tryz.prog 16 #[.slice a n cap] w fun e w' => ∃ v, e = .returned v ∧ Owned w' v n (chks K S H A n) ∧ Below w.heap.size w w' := by
  by_cases h0 : 0 < n
  · obtain ⟨b, off, rfl, hb, h1, h2, h3, h4⟩ := hc h0
    refine (own_any b off n cap K S H A w hn hb h1 h2 h3 h4).mono ?_
    rintro e w' ⟨v, rfl, hown, hbel⟩
    refine ⟨v, rfl, Or.inr ⟨h0, ?_⟩, hbel⟩
    rcases hown.2 with ⟨_, h⟩ | ⟨g, cc, cur, rfl, q1, q2, _⟩
    · omega
    · exact ⟨g, cc, rfl, (Array.getElem?_eq_some_iff.1 q2).1, hown.cells rfl⟩
  · obtain rfl : n = 0 := by omega
    refine (own_empty a cap w).mono ?_
    rintro e w' ⟨rfl, rfl⟩
    exact ⟨_, rfl, Or.inl ⟨rfl, rfl⟩, Below.refl _ _⟩

theorem new_all (v : Value) (n : Nat) (K : Nat → Int) (S : Nat → ByteArray) (H A : Nat → Int) (w : World) (hn : n ≤ 60) (hv : Owned w v n (chks K S H A n)) :
    Calls Tryz.prog 15 #[v] w fun e w' => SomeWatch w w' n H e := by
  rcases hv with ⟨rfl, rfl⟩ | ⟨h0, g, cap, rfl, hg, hx⟩
  · exact new_nil H w
  · exact new_row g n cap K S H A w hn h0 hg hx
end Go.Proofs.YtocplhpfndgagaaGreatDoor
namespace Go.Proofs.YtocplhpfndgagaaGreatDoor
open Go.RowKit
/-- rows that are given -/
def RowsAt (w : World) (base : Nat) (a : Option Addr) (m : Nat) (RA : Nat → Option Addr) (RL RC : Nat → Nat) (R : Nat → Nat → Int) : Prop :=
  0 < m → ∃ b off, a = some ⟨b, off, none⟩ ∧ b < base ∧ (∀ i, i < m → w.cell? ⟨b, off + i, none⟩ = some (.slice (RA i) (RL i) (RC i))) ∧ (∀ i, i < m → RL i ≤ 9223372036854775807) ∧ ∀ i, i < m → RowAt w base (RA i) (RL i) (R i)

end Go.Proofs.YtocplhpfndgagaaGreatDoor
namespace Go.Proofs.YtocplhpfndgagaaGreatDoor
open Go.ChangeShapes Go.WideShapes Go.RowKit Go.Deep
section
variable {H : Type} {enc : TypeId × Value → H} {P : Program} {w : World} {base : Nat} {spare : Nat → Bool} {held : Bool}
theorem open_slice_fields {t e : TypeId} {fs : Array Field} {fuel : Nat} {cs : List Value} {x : DataW H × List MemPlace} (ht : P.underlying t = some (.slice e)) (he : P.underlying e = some (.struct fs))
    (hone : oneCellFields P fs = true) (hC : P.cellsOf e = fs.size) (h : DataW.trod enc P w base spare held fuel t cs = some x) :
    (cs = [.slice none 0 0] ∧ x = (.nil, [])) ∨
    ∃ (a : Addr) (len cap m : Nat) (D : Nat → DataW H) (Pl : Nat → List MemPlace), cs = [.slice (some a) len cap] ∧ base ≤ a.block ∧ len ≤ cap ∧ cap ≤ maxLen ∧ m = (if spare a.block then cap else len) ∧
      x = (.slice ((List.range len).map D) ((List.range (m - len)).map fun j => D (len + j)), MemPlace.row a (m * fs.size) ++ (List.range m).flatMap Pl) ∧
      ∀ i, i < m → ∃ (ys : List (DataW H × List MemPlace)) (n : Nat), D i = .agg (ys.map (·.1)) ∧ Pl i = ys.flatMap (·.2) ∧ ys.length = fs.size ∧
        ∀ (j : Nat) (f : Field), fs[j]? = some f → ∃ (v : Value) (y : DataW H × List MemPlace), w.cell? (a.add (i * fs.size + j)) = some v ∧ ys[j]? = some y ∧ DataW.trod enc P w base spare held n f.type [v] = some y := by
  rcases open_slice ht h with h0 | ⟨a, len, cap, m, n, D, Pl, hcs, hb, hl, hm, hmm, hx, hi⟩
  · exact .inl h0
  · refine .inr ⟨a, len, cap, m, D, Pl, hcs, hb, hl, hm, hmm, by rw [hC] at hx; exact hx, fun i him => ?_⟩
    obtain ⟨cs', hc, ht'⟩ := hi i him
    rw [hC] at hc
    obtain ⟨ys, n', hn', hy, hlen, hyl, hf⟩ := DataW.trod_struct he ht'
    obtain ⟨_, hcl, hat⟩ := World.cells?_some hc
    simp only [Prod.mk.injEq] at hy
    refine ⟨ys, n', hy.1, hy.2, hyl, fun j f hj => ?_⟩
    obtain ⟨ho, hk⟩ := hone_of hone j f hj
    have hjl : j < fs.size := (Array.getElem?_eq_some_iff.1 hj).1
    have hcell := hat j hjl
    have hv : cs'[j]? = some (cs'[j]'(by omega)) := List.getElem?_eq_getElem (by omega)
    have h1 := hf j f hj
    rw [ho, hk] at h1
    have hone' : (cs'.drop j).take 1 = [cs'[j]'(by omega)] := by
      rw [List.drop_eq_getElem_cons (by omega)]
      rfl
    rw [hone'] at h1
    have hys : ys[j]? = some (ys[j]'(by omega)) := List.getElem?_eq_getElem (by omega)
    refine ⟨_, _, ?_, hys, h1.trans hys⟩
    rw [← Go.Deep.add_add, hcell, hv]
end


theorem cell_lt {w : World} {p : Addr} {v : Value} (h : w.cell? p = some v) : p.block < w.heap.size := by
  unfold World.cell? at h
  cases hh : w.heap[p.block]? with
  | none => rw [hh] at h; simp at h
  | some o => exact (Array.getElem?_eq_some_iff.1 hh).1
/-- the fields of a check -/
noncomputable def fs74 : Array Field := match Tryz.prog.underlying 74 with
  | some (.struct fs) => fs
  | _ => #[]
theorem under74 : ∃ fs : Array Field, Tryz.prog.underlying 74 = some (.struct fs) ∧ fs.size = 4 ∧ (fs.map (·.type)) = #[3, 9, 3, 3] ∧ oneCellFields Tryz.prog fs = true ∧ Tryz.prog.cellsOf 74 = 4 :=
  ⟨fs74, by kernel_rfl, by kernel_rfl, by kernel_rfl, by kernel_rfl, by kernel_rfl⟩
theorem under3 : Tryz.prog.underlying 3 = some (.int .i64) := by kernel_rfl
theorem under9 : Tryz.prog.underlying 9 = some .string := by kernel_rfl
theorem cells45 : Tryz.prog.cellsOf 45 = 1 := by kernel_rfl
theorem cells3 : Tryz.prog.cellsOf 3 = 1 := by kernel_rfl

theorem open_checks {H : Type} {enc : TypeId × Value → H} {W : World} {a0 : Option Addr} {n cap : Nat} {d : DataW H} {p : List MemPlace} (h : DataW.Trod enc Tryz.prog W 0 (fun _ => true) true 34 (.slice a0 n cap) d p) :
    n ≤ maxLen ∧ ∃ K S Hd A, ChecksAt W a0 n K S Hd A := by
  obtain ⟨fuel, hf⟩ := h
  obtain ⟨fs, hu, hsz, hty, hone, hC⟩ := under74
  have hcs : (Value.slice a0 n cap).cells.toList = [.slice a0 n cap] := rfl
  rw [hcs] at hf
  rcases open_slice_fields Tryz.underlying34 hu hone (by rw [hC, hsz]) hf with ⟨e, _⟩ | ⟨a, len, cp, m, D, Pl, e, hb, hl, hm, hmm, _, hi⟩
  · simp only [List.cons.injEq, Value.slice.injEq, and_true] at e
    obtain ⟨rfl, rfl, rfl⟩ := e
    exact ⟨Nat.zero_le _, fun _ => 0, fun _ => ⟨#[]⟩, fun _ => 0, fun _ => 0, fun h0 => absurd h0 (by omega)⟩
  · simp only [List.cons.injEq, Value.slice.injEq, and_true] at e
    obtain ⟨rfl, rfl, rfl⟩ := e
    refine ⟨by omega, ?_⟩
    simp only [if_true] at hmm
    subst hmm
    have hfield : ∀ (j t : Nat), #[3, 9, 3, 3][j]? = some t → ∃ f : Field, fs[j]? = some f ∧ f.type = t := by
      intro j t hj
      rw [← hty, Array.getElem?_map] at hj
      obtain ⟨f, h1, h2⟩ := Option.map_eq_some_iff.1 hj
      exact ⟨f, h1, h2⟩
    have hint : ∀ j, #[3, 9, 3, 3][j]? = some 3 → ∀ i, i < n → ∃ x : Int, W.cell? (a.add (i * 4 + j)) = some (.int .i64 x) := by
      intro j hj i hin
      obtain ⟨f, h1, h2⟩ := hfield j 3 hj
      obtain ⟨ys, n', _, _, _, hff⟩ := hi i (by omega)
      obtain ⟨v, y, h3, _, h5⟩ := hff j f h1
      rw [h2] at h5
      obtain ⟨x, h6, _⟩ := DataW.trod_int under3 h5
      simp only [List.cons.injEq, and_true] at h6
      rw [hsz, h6] at h3
      exact ⟨x, h3⟩
    have hstr : ∀ i, i < n → ∃ x : ByteArray, W.cell? (a.add (i * 4 + 1)) = some (.string x) := by
      intro i hin
      obtain ⟨f, h1, h2⟩ := hfield 1 9 rfl
      obtain ⟨ys, n', _, _, _, hff⟩ := hi i (by omega)
      obtain ⟨v, y, h3, _, h5⟩ := hff 1 f h1
      rw [h2] at h5
      obtain ⟨x, h6, _⟩ := DataW.trod_string under9 h5
      simp only [List.cons.injEq, and_true] at h6
      rw [hsz, h6] at h3
      exact ⟨x, h3⟩
    obtain ⟨K, hK⟩ := choose_lt (hint 0 rfl)
    obtain ⟨S, hS⟩ := choose_lt hstr
    obtain ⟨Hd, hH⟩ := choose_lt (hint 2 rfl)
    obtain ⟨A, hA⟩ := choose_lt (hint 3 rfl)
    refine ⟨K, S, Hd, A, fun h0 => ?_⟩
    obtain ⟨b, off, spot⟩ := a
    have h00 := hK 0 h0
    have hspot : spot = none := by simpa [Addr.add] using World.cell?_spot h00
    subst hspot
    have hadd : ∀ i, (⟨b, off, none⟩ : Addr).add i = ⟨b, off + i, none⟩ := by intro i; unfold Addr.add; split <;> simp_all
    simp only [hadd] at hK hS hH hA h00
    refine ⟨b, off, rfl, cell_lt h00, fun i hin => by simpa using hK i hin, fun i hin => hS i hin, fun i hin => hH i hin, fun i hin => hA i hin⟩

theorem open_rows {H : Type} {enc : TypeId × Value → H} {W : World} {a0 : Option Addr} {m cap : Nat} {d : DataW H} {p : List MemPlace} (h : DataW.Trod enc Tryz.prog W 0 (fun _ => true) true 41 (.slice a0 m cap) d p) :
    m ≤ maxLen ∧ ∃ RA RL RC R, RowsAt W W.heap.size a0 m RA RL RC R := by
  obtain ⟨fuel, hf⟩ := h
  have hcs : (Value.slice a0 m cap).cells.toList = [.slice a0 m cap] := rfl
  rw [hcs] at hf
  rcases open_int_rows Tryz.underlying41 Tryz.underlying45 under3 cells45 cells3 hf with ⟨e, _⟩ | ⟨a, len, cp, A, L, C, Z, e, hb, hl, hm, _, hi⟩
  · simp only [List.cons.injEq, Value.slice.injEq, and_true] at e
    obtain ⟨rfl, rfl, rfl⟩ := e
    exact ⟨Nat.zero_le _, fun _ => none, fun _ => 0, fun _ => 0, fun _ _ => 0, fun h0 => absurd h0 (by omega)⟩
  · simp only [List.cons.injEq, Value.slice.injEq, and_true] at e
    obtain ⟨rfl, rfl, rfl⟩ := e
    refine ⟨by omega, A, L, C, fun i j => (Z i).getD j 0, fun h0 => ?_⟩
    obtain ⟨b, off, spot⟩ := a
    have h00 := (hi 0 (by omega)).1
    have hspot : spot = none := by simpa [Addr.add] using World.cell?_spot h00
    subst hspot
    have hadd : ∀ i, (⟨b, off, none⟩ : Addr).add i = ⟨b, off + i, none⟩ := by intro i; unfold Addr.add; split <;> simp_all
    refine ⟨b, off, rfl, cell_lt h00, fun i him => ?_, fun i him => ?_, fun i him => ?_⟩
    · rw [← hadd]; exact (hi i (by omega)).1
    · obtain ⟨_, h2, h3, _⟩ := hi i (by omega)
      have : maxLen = 9223372036854775807 := rfl
      omega
    · intro hl0
      obtain ⟨_, h2, h3, h4, h5, h6, h7⟩ := hi i (by omega)
      cases hA : A i with
      | none => have := h6 hA; omega
      | some a' =>
        obtain ⟨b', off', spot'⟩ := a'
        obtain ⟨_, h8⟩ := h7 _ hA
        have h80 := h8 0 (by omega)
        have hspot' : spot' = none := by simpa [Addr.add] using World.cell?_spot h80
        subst hspot'
        have hadd' : ∀ i, (⟨b', off', none⟩ : Addr).add i = ⟨b', off' + i, none⟩ := by intro i; unfold Addr.add; split <;> simp_all
        exact ⟨b', off', rfl, cell_lt h80, fun j hj => by rw [← hadd']; exact h8 j (by omega)⟩
end Go.Proofs.YtocplhpfndgagaaGreatDoor
