/- The law's live examples: called in any world that holds the words of the language, live() returns true, and turns nothing that was there. -/
import Derived.Test.YtcmcehfpnfnjlaaGreatDoorLive
import Derived.Test.YtcmcehfpnfnjlaaGreatDoorEvKnown
import Derived.Test.YtcmcehfpnfnjlaaGreatDoorRows
namespace Go.Proofs.YtcmcehfpnfnjlaaGreatDoor
open Go.Ev Go.RowKit

/-- the words of the language, as lex.words has them -/
def wordBytes : List (List UInt8) := match (Rows.laid_bailment_lex_words : DataW Unit) with
  | .slice es _ => es.filterMap fun | .lit (.string b) => some b | _ => none
  | _ => []

theorem words_eq : (Rows.laid_bailment_lex_words : DataW Unit) = .slice (wordBytes.map fun b => .lit (.string b)) [] := by rfl
theorem gWords : Tryz.prog.globalNamed "bailment/lex.words" = some 0 := by kernel_rfl
theorem tWords : (Tryz.prog.globals[0]?).map (·.type) = some 68 := by kernel_rfl
theorem uWords : Tryz.prog.underlying 68 = some (.slice 9) := by kernel_rfl
theorem uWord : Tryz.prog.underlying 9 = some .string := by kernel_rfl
theorem cWord : Tryz.prog.cellsOf 9 = 1 := by kernel_rfl
theorem fits : subOk (stWords Tryz.prog.globals.size 0 wordBytes) k80.inn.objs = true := by decide +kernel
theorem next_eq : k80.inn.next = (stWords Tryz.prog.globals.size 0 wordBytes).next := by kernel_rfl

theorem live_calls {W : World} {laid : List (String × DataW Unit)} (h : laidMet Tryz.prog laid W) (hm : ("bailment/lex.words", (Rows.laid_bailment_lex_words : DataW Unit)) ∈ laid) :
    Calls Tryz.prog 10 #[] W fun e w' => e = .returned (.bool true) ∧ Below W.heap.size W w' := by
  rw [words_eq] at hm
  obtain ⟨r, hR, hp⟩ := rel_words h hm gWords tWords uWords uWord cWord (by decide)
  exact calls_of_known k80_ok rfl hR hp next_eq fits rfl
end Go.Proofs.YtcmcehfpnfnjlaaGreatDoor
