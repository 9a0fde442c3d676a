import Derived.Test.YtonkkojankmhbaaDoorRows
import Derived.WalkKit
import Derived.WalkSpells
import Derived.WalkLawsBesides
import Derived.Outline
import Derived.Recover
namespace Go.Proofs.YtonkkojankmhbaaDoor
open Go.RowKit

/-- what 'must' throws -/
def brokenChain : List PanicEntry := [{ v := .iface 48 (.agg #[]), recovered := false }]

theorem must_yes (w : World) : Calls Tryd.prog 16 #[.bool true] w fun e w' => e = .returned (.tuple #[]) ∧ w = w' := by
  go_enter Tryd.func16, Tryd.ntmps16
  go_wp2
  go_end0
  exact ⟨rfl, rfl⟩

theorem must_no (w : World) : Calls Tryd.prog 16 #[.bool false] w fun e w' => e = .panicked brokenChain ∧ w = w' := by
  go_enter Tryd.func16, Tryd.ntmps16
  go_wp2
  exact ⟨rfl, rfl, rfl⟩

theorem one_yes (g o : Nat) (left deep : Int) (w : World) (hc : w.cell? ⟨g, o, none⟩ = some (.int .i64 left)) (hf : w.frozen? ⟨g, o, none⟩ = false) (hl : 1 ≤ left) (hl2 : left ≤ 4096) (hd : deep ≤ 16) :
    Calls Tryd.prog 14 #[.pointer (some ⟨g, o, none⟩), .int .i64 deep] w fun e w' => e = .returned (.tuple #[]) ∧ w.setCell ⟨g, o, none⟩ (.int .i64 (left - 1)) = w' := by
  go_enter Tryd.func14, Tryd.ntmps14
  go_wp2_with (go_at_call 16; refine (must_yes _).mono ?_; rintro e w' ⟨rfl, rfl⟩)
  go_end0
  exact ⟨rfl, rfl⟩
end Go.Proofs.YtonkkojankmhbaaDoor
