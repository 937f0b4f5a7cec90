/- ScriptSets answers true at every three values of type Without, and leaves them as they were: the tied card. Condition: the five listed variables of the library hold what the program's text lays (tied by the card). -/
import Derived.Test.YtcbgngkalplafaaGreatDoorR2
import Derived.Test.YtcbgngkalplafaaGreatDoorTie
import Derived.Test.YtcbgngkalplafaaGreatDoorCards
import Derived.SevenTiedAt
namespace Go.Proofs.YtcbgngkalplafaaGreatDoor
open Go

theorem sets_card : Rows.ScriptSetsCardSaid :=
  Claim7.holds_tied_plain_at .later [] [.data, .data, .data, .sentinel, .sentinel] true (true, "0ea8b2acd9ffb60c201256b6c7cee6b83bc9d32a1f3f5de515840a0027431c78") true
    sets_holds (fun _ h => by cases h) (by kernel_rfl) (fun _ h => by cases h) scriptSets_row_tie rfl ⟨rfl, rfl⟩ (by kernel_rfl) rfl
    (fun f fn hf hfn => by
      obtain rfl : f = 4 := Option.some.inj ((show Tryz.prog.funcNamed "replevin/replevinlaw44.ScriptSets" = some 4 by kernel_rfl).symm.trans hf) |>.symm
      obtain rfl : fn = Tryz.f4 := (Option.some.inj (Tryz.func4.symm.trans hfn)).symm
      exact ⟨by kernel_rfl, fun j t ht => by
        rw [Tryz.params4] at ht
        have h3 : t = 29 := by
          rcases j with _ | _ | _ | j
          · simpa using ht.symm
          · simpa using ht.symm
          · simpa using ht.symm
          · simp at ht
        subst h3
        exact (show Tryz.prog.wantsStandIn 29 = false by kernel_rfl)⟩)
    (by kernel_rfl)
#print axioms sets_card
end Go.Proofs.YtcbgngkalplafaaGreatDoor
