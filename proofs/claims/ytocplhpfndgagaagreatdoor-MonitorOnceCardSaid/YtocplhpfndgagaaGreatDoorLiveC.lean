/- The law's live examples: called in any world that holds the words of the language, live() returns true, and turns nothing that was there. -/
import Derived.Test.YtocplhpfndgagaaGreatDoorLive
import Derived.Test.YtocplhpfndgagaaGreatDoorEvKnown
import Derived.Test.YtocplhpfndgagaaGreatDoorRows
namespace Go.Ev
open Go.RowKit
/-- as 'rel_words', in a later world that has kept what was there -/
theorem rel_words_later {P : Program} {W w : World} {laid : List (String × DataW Unit)} {name : String} {bs : List (List UInt8)} {g : Nat} {t e : TypeId} (hb : Below W.heap.size W w) (h : laidMet P laid W)
    (hmem : (name, DataW.slice (bs.map fun b => .lit (.string b)) []) ∈ laid) (hg : P.globalNamed name = some g) (hty : (P.globals[g]?).map (·.type) = some t)
    (ht : P.underlying t = some (.slice e)) (he : P.underlying e = some .string) (hce : P.cellsOf e = 1) (hne : bs ≠ []) :
    ∃ r, Rel P.globals.size w.heap.size r (stWords P.globals.size g bs) w ∧ ∀ x, Prot r (stWords P.globals.size g bs) x := by
  have hgl : g < P.globals.size := by
    cases hq : P.globals[g]? with
    | none => rw [hq] at hty; simp at hty
    | some x => exact (Array.getElem?_eq_some_iff.1 hq).1
  obtain ⟨c0, t0, fz0, b, off, cap, c, fz, et, h1, h2, h3, h4, h5⟩ := laid_strings h hmem hg hty ht he hce hne
  replace h1 := (hb.block g (Array.getElem?_eq_some_iff.1 h1).1).trans h1
  replace h4 := (hb.block b (Array.getElem?_eq_some_iff.1 h4).1).trans h4
  have hr := rhoWords_eq P.globals.size b off cap
  refine ⟨rhoWords P.globals.size b off cap, rel_ro (fun i hi => by rw [hr, if_pos hi]) (fun i hi => ?_) fun i o ho => ?_⟩
  · have hi : P.globals.size + 1 ≤ i := hi
    rw [hr, if_neg (by omega), if_neg (by omega)]
  · rcases T.get_put _ _ _ _ _ ho with ⟨e1, e2⟩ | ⟨e1, e2⟩
    · simp only [Option.some.injEq] at e2
      subst e2; subst e1
      obtain ⟨a1, a2⟩ := ro_ok (r := rhoWords P.globals.size b off cap) (k := ⟨b, off, cap⟩) (l := bs.map fun b => Value.string ⟨b.toArray⟩) h4 (fun j v hj => by
        rw [List.getElem?_map] at hj
        obtain ⟨s, hs, rfl⟩ := Option.map_eq_some_iff.1 hj
        exact ⟨_, by rw [Nat.add_comm]; exact h5 j s hs, .string _⟩)
      exact ⟨a1, ⟨b, off, cap⟩, by rw [hr, if_neg (by omega), if_pos rfl], a2⟩
    · rcases T.get_put _ _ _ _ _ e2 with ⟨e3, e4⟩ | ⟨e3, e4⟩
      · simp only [Option.some.injEq] at e4
        subst e4; subst e3
        obtain ⟨a1, a2⟩ := ro_ok (r := rhoWords P.globals.size b off cap) (k := ⟨i, 0, 0⟩) (l := [Value.slice (some ⟨P.globals.size, 0, none⟩) bs.length CB]) h1 (fun j v hj => by
          cases j with
          | succ j => simp at hj
          | zero =>
            simp only [List.getElem?_cons_zero, Option.some.injEq] at hj
            subst hj
            have hcap : (⟨b, off, cap⟩ : Loc).capOf CB = cap := by simp [Loc.capOf]
            have := VR.slice (r := rhoWords P.globals.size b off cap) (i := P.globals.size) (o := 0) (n := bs.length) (c := CB) (l := ⟨b, off, cap⟩)
              (by rw [hr, if_neg (by omega), if_pos rfl]) (by rw [hcap]; exact h3)
            rw [hcap, Nat.zero_add] at this
            exact ⟨_, by simpa using h2, this⟩)
        exact ⟨a1, ⟨i, 0, 0⟩, by rw [hr, if_pos hgl], a2⟩
      · simp [T.get_leaf] at e4
end Go.Ev
namespace Go.Proofs.YtocplhpfndgagaaGreatDoor
open Go.Ev Go.RowKit

/-- the words of the language, as lex.words has them -/
def wordBytes : List (List UInt8) := match (Rows.laid_bailment_lex_words : DataW Unit) with
  | .slice es _ => es.filterMap fun | .lit (.string b) => some b | _ => none
  | _ => []

theorem words_eq : (Rows.laid_bailment_lex_words : DataW Unit) = .slice (wordBytes.map fun b => .lit (.string b)) [] := by rfl
theorem gWords : Tryz.prog.globalNamed "bailment/lex.words" = some 0 := by kernel_rfl
theorem tWords : (Tryz.prog.globals[0]?).map (·.type) = some 128 := by kernel_rfl
theorem uWords : Tryz.prog.underlying 128 = some (.slice 9) := by kernel_rfl
theorem uWord : Tryz.prog.underlying 9 = some .string := by kernel_rfl
theorem cWord : Tryz.prog.cellsOf 9 = 1 := by kernel_rfl
theorem fits : subOk (stWords Tryz.prog.globals.size 0 wordBytes) k73.inn.objs = true := by decide +kernel
theorem next_eq : k73.inn.next = (stWords Tryz.prog.globals.size 0 wordBytes).next := by kernel_rfl

theorem live_calls {W : World} {laid : List (String × DataW Unit)} (h : laidMet Tryz.prog laid W) (hm : ("bailment/lex.words", (Rows.laid_bailment_lex_words : DataW Unit)) ∈ laid) :
    Calls Tryz.prog 8 #[] W fun e w' => e = .returned (.bool true) ∧ Below W.heap.size W w' := by
  rw [words_eq] at hm
  obtain ⟨r, hR, hp⟩ := rel_words h hm gWords tWords uWords uWord cWord (by decide)
  exact calls_of_known k73_ok rfl hR hp next_eq fits rfl
theorem live_later {W w : World} {laid : List (String × DataW Unit)} (hb : Below W.heap.size W w) (h : laidMet Tryz.prog laid W) (hm : ("bailment/lex.words", (Rows.laid_bailment_lex_words : DataW Unit)) ∈ laid) :
    Calls Tryz.prog 8 #[] w fun e w' => e = .returned (.bool true) ∧ Below w.heap.size w w' := by
  rw [words_eq] at hm
  obtain ⟨r, hR, hp⟩ := rel_words_later hb h hm gWords tWords uWords uWord cWord (by decide)
  exact calls_of_known k73_ok rfl hR hp next_eq fits rfl
end Go.Proofs.YtocplhpfndgagaaGreatDoor
