/- MonitorOnce: for every input the call returns true, and the arguments read behind the call as they read before; the package variables start as the program's text lays them. -/
import Derived.Test.YtocplhpfndgagaaGreatDoorLiveC
import Derived.Test.YtocplhpfndgagaaGreatDoorOnceWalk
import Derived.Test.YtocplhpfndgagaaGreatDoorEvLaw
import Derived.Test.YtocplhpfndgagaaGreatDoorOnceFacts
import Derived.Test.YtocplhpfndgagaaGreatDoorCards
import Derived.Test.YtocplhpfndgagaaGreatDoorTie
import Derived.Deep.DeepHandedRow
import Derived.Deep.DeepWitnessRowRef
import Derived.Lay
import Derived.MakeChecks
import Derived.ProofKit
namespace Go.Proofs.YtocplhpfndgagaaGreatDoor
open Go.Ev Go.ChangeShapes Go.WideShapes Go.ChangeAt Go.RowKit

theorem own : ownKnob Tryz.prog.godebug = none := by kernel_rfl
theorem laidOut : laidOutB Tryz.prog = true := by kernel_rfl

/-- a world for the witness -/
noncomputable def laidWorld (os : Os) : World := World.laidAll Tryz.prog os Rows.monitorOnceRow.laid
theorem laid_met (os : Os) (args : Array Value) : laidMet Tryz.prog Rows.monitorOnceRow.laid ((laidWorld os).forCall (fun _ _ => 0) ⟨#[], args, []⟩).memory :=
  laidMet_laidAll args (by kernel_rfl) (by kernel_rfl)

theorem witness_row (os : Os) {H : Type} (enc : TypeId × Value → H) :
    (OpenSpec.ofChange Rows.monitorOnceSpec).preRow enc Tryz.prog Tryz.f5 Rows.monitorOnceRow.domain false Rows.monitorOnceRow.laid ((laidWorld os).forCall (fun _ _ => 0) ⟨#[], #[.slice none 0 0, .slice none 0 0], []⟩).memory #[.slice none 0 0, .slice none 0 0] := by
  have hw : (DataW.whole enc Tryz.prog ((laidWorld os).forCall (fun _ _ => 0) ⟨#[], #[.slice none 0 0, .slice none 0 0], []⟩).memory Tryz.f5.params.toList Rows.monitorOnceSpec.vars false #[Value.slice none 0 0, .slice none 0 0].toList 8).map (fun x => (x.1, x.2.1)) =
      some ([.nil, .nil], []) := by kernel_rfl
  obtain ⟨⟨x1, x2, x3⟩, hx, hx1⟩ := Option.map_eq_some_iff.1 hw
  simp only [Prod.mk.injEq] at hx1
  obtain ⟨rfl, rfl⟩ := hx1
  exact OpenSpec.preRow_of_cond 8 hx (by kernel_rfl) (fun k hk => by cases hk) (by kernel_rfl) (laid_met os _)

theorem spec_once {H : Type} {ds : List (DataW H)} (hd : ds.length = 2) : ∀ gs, gs = [] → Rows.monitorOnceSpec.fn H (ds ++ gs) = { results := [.lit (.bool true)], args := ds } := by
  intro gs hg
  subst hg
  match ds, hd with
  | [d, d'], _ => rfl

theorem read_types : ∀ t ∈ Tryz.f5.params.toList, Tryz.prog.readableRec t = true ∧ t < Tryz.prog.types.size := by
  intro t ht
  rw [Tryz.params5] at ht
  simp only [List.mem_cons, List.not_mem_nil, or_false] at ht
  rcases ht with rfl | rfl
  · exact ⟨by kernel_rfl, of_decide_eq_true (by kernel_rfl)⟩
  · exact ⟨by kernel_rfl, of_decide_eq_true (by kernel_rfl)⟩

set_option maxRecDepth 100000 in
theorem lifted (os : Os) (started : os.Started) (H : Type) (enc : TypeId × Value → H) (F : Stop.Interp) :
    ReturnsInHanded {} Tryz.checked os 5 .any ((OpenSpec.ofChange Rows.monitorOnceSpec).preRow enc Tryz.prog Tryz.f5 Rows.monitorOnceRow.domain false Rows.monitorOnceRow.laid) (((OpenSpec.ofChange Rows.monitorOnceSpec).at F).post enc Tryz.prog Tryz.f5 false true false false) := by
  refine returnsInHanded_of_row (C := Tryz.checked) (s := OpenSpec.ofChange Rows.monitorOnceSpec) own started (by kernel_rfl) Tryz.func5
    (witness_row_atRef (enc := enc) (C := Tryz.checked) false (laidWorld os) #[.slice none 0 0, .slice none 0 0] (World.laidAll_os _ _ _) (by kernel_rfl) (by kernel_rfl) (by kernel_rfl) (witness_row os enc)) ?_
  intro W base args ds gs before hval hW _ _ _ hL _ _
  have hL' : laidMet Tryz.prog Rows.monitorOnceRow.laid W := (MakeChecks.laidMetH_plain Tryz.prog Rows.monitorOnceRow.laid W (by kernel_rfl)) ▸ hL
  have hlive := fun w (hb : Below W.heap.size W w) => live_later hb hL' (by unfold Rows.monitorOnceRow; simp)
  have hW' := hW
  obtain ⟨p, q, hA0, hV, hpq, hfz, hnd⟩ := hW
  have hA : DataW.TrodAll enc Tryz.prog W 0 (fun _ => true) true Tryz.f5.params.toList args.toList ds p := hA0
  have hval' : ∀ (j : Nat) t v, Tryz.f5.params[j]? = some t → args[j]? = some v → Value.okWide Tryz.prog W .any base t v := hval
  rw [Tryz.params5] at hA hval'
  obtain ⟨v0, vs0, d0, ds0, p0, q0, hargs, rfl, rfl, h0, r0⟩ := trodAll_cons hA
  obtain ⟨v1, vs1, d1, ds1, p1, q1, hargs1, rfl, rfl, h1, r1⟩ := trodAll_cons r0
  obtain ⟨rfl, rfl, rfl⟩ := trodAll_nil r1
  obtain rfl : args = #[v0, v1] := by cases args; simp_all
  obtain ⟨a1, n, c1, rfl⟩ := okWide_slice Tryz.underlying34 (hval' 0 34 v0 rfl rfl)
  obtain ⟨a2, m, c2, rfl⟩ := okWide_slice Tryz.underlying41 (hval' 1 41 v1 rfl rfl)
  obtain ⟨hn, K, S, Hd, A, hc⟩ := open_checks h0
  obtain ⟨hm, RA, RL, RC, R, hr⟩ := open_rows h1
  have hml : maxLen = 9223372036854775807 := rfl
  have hcall : Calls Tryz.prog 5 #[.slice a1 n c1, .slice a2 m c2] W fun e w' => e = .returned (.bool true) ∧ Below W.heap.size W w' := by
    by_cases hbig : 60 < n ∨ 30 < m
    · exact once_big a1 n c1 a2 m c2 W hbig (by omega) (by omega) hlive
    · exact once_any a1 n c1 a2 m c2 K S Hd A RA RL RC R W (by omega) (by omega) hc hr hlive
  refine hcall.mono fun e W' ⟨he, hb⟩ => ?_
  exact ⟨_, he, law_post laidOut (s := Rows.monitorOnceSpec) hW' rfl read_types hb (spec_once rfl) rfl Tryz.underlying4⟩

set_option maxRecDepth 100000 in
theorem said : Rows.MonitorOnceSaid :=
  OpenClaim.holds_of_cond 5 Tryz.f5 rfl rfl rfl rfl rfl rfl rfl ⟨rfl, rfl, rfl, rfl, rfl⟩ rfl rfl rfl rfl rfl (by kernel_rfl) Tryz.func5 facts.facts
    (of_decide_eq_true (by kernel_rfl)) (by unfold Func.isWrapper; first | (rw [if_pos (by decide +kernel)]; kernel_rfl) | (rw [if_neg (by decide +kernel)]; exact ⟨rfl, rfl⟩))
    (fun os started H enc _ F => by rw [OpenClaim.pre_eq_preRow]; exact lifted os started H enc F)

set_option maxRecDepth 100000 in
theorem plain (f : FuncId) (fn : Func) (hf : Tryz.pinned.checked.prog.funcNamed "bailment/bailmentlaw19.MonitorOnce" = some f) (hfn : Tryz.pinned.checked.prog.funcs[f]? = some fn) :
    true = Tryz.pinned.checked.prog.looks [] ∧ ∀ (j : Nat) t, fn.params[j]? = some t → Tryz.pinned.checked.prog.wantsStandIn t = false := by
  obtain rfl : f = 5 := Option.some.inj ((show Tryz.prog.funcNamed "bailment/bailmentlaw19.MonitorOnce" = some 5 by kernel_rfl).symm.trans hf) |>.symm
  obtain rfl : fn = Tryz.f5 := (Option.some.inj (Tryz.func5.symm.trans hfn)).symm
  refine ⟨by kernel_rfl, fun j t ht => ?_⟩
  rw [Tryz.params5] at ht
  have hmem := Array.mem_of_getElem? ht
  simp only [List.mem_toArray, List.mem_cons, List.not_mem_nil, or_false] at hmem
  rcases hmem with rfl | rfl
  · exact (show Tryz.prog.wantsStandIn 34 = false by kernel_rfl)
  · exact (show Tryz.prog.wantsStandIn 41 = false by kernel_rfl)

set_option maxRecDepth 100000 in
theorem monitorOnce_holds : Rows.MonitorOnceCardSaid :=
  Claim7.holds_tied_plain_at .later [] _ _ _ _ said (fun _ h => by cases h) (by kernel_rfl) (fun _ h => by cases h) monitorOnce_row_tie rfl ⟨rfl, rfl⟩ (by kernel_rfl) rfl plain (by kernel_rfl)
end Go.Proofs.YtocplhpfndgagaaGreatDoor
