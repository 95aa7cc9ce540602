/- What the row of one statement stands on: a store, abstract code, functions of the program and their laws (ThDiskAll2). -/
import Derived.Test.YtcdbfhamhcaclaaThBDiskAll
import Derived.Test.YtcdbfhamhcaclaaThBHdiskR2
import Derived.Test.YtcdbfhamhcaclaaThBHlaw17b

section
/- The seat's functions, each by its law: DiskStops. -/
set_option linter.unusedVariables false
namespace Go.Th.Disk
open Go Go.Th Go.Th.L Go.Th.Pure

theorem s_LF : LawF PP N := ⟨s_F3, has_law17_awake, has_law17_large, has_law17_play, has_keep_Texts⟩
abbrev scrS : Sh := Sh.slice 6 96 opSh

end Go.Th.Disk
end
