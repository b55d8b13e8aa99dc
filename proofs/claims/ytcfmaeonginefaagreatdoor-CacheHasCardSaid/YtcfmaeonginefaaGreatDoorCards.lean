/-
  DERIVED. GIVEN WITH THE SEED: THE CARDS: each row of YtcfmaeonginefaaGreatDoorRows.lean that lists a variable, with what it lists TIED to the program's text (the seventh form; the later family's looks); each row that meets fmt, with fmt's text TOLD by the authors' own Lean function (tested against real Go, not proved from fmt's source: count such statements apart). THE CARD IS WHAT COUNTS. Prove the row's statement (the work); the ties are given (YtcfmaeonginefaaGreatDoorTie.lean); close each card by the builder's one call (the guide's Derived/Test/ToyasCard.lean, 'card_holds'). Laid BY PROGRAM, IN A SANDBOX (cutbox-door.mjs). By AI agents, Wed Nov 11 2026. No macro, syntax, notation, axiom, sorry.
-/
import Derived.Test.YtcfmaeonginefaaGreatDoorRows
import GoSem.ClaimSeven
namespace Go.Proofs.YtcfmaeonginefaaGreatDoor
namespace Rows

/-- THE TIED CARD OF 'graftbedlaw07.CacheMods'. -/
def cacheModsCard : Claim7 := { stood := { row := cacheModsRow, standIns := [], harness := (true, "3ff93070e6cbdc0404521b6aefa19db37109b21d843db0f79d0d76cfa3e90e34"), looks := true }, kinds := [], alts := [], laidByText := true, laidKinds := [.data, .data, .data, .sentinel, .sentinel], laidTests := true, laidLooks := .later }
def CacheModsCardSaid : Prop := Claim7.holds Tryz.pinned (.plain (OpenSpec.ofChange cacheModsSpec)) cacheModsCard

/-- THE TIED CARD OF 'graftbedlaw07.CacheHighest'. -/
def cacheHighestCard : Claim7 := { stood := { row := cacheHighestRow, standIns := [], harness := (true, "3ff93070e6cbdc0404521b6aefa19db37109b21d843db0f79d0d76cfa3e90e34"), looks := true }, kinds := [], alts := [], laidByText := true, laidKinds := [.data, .data, .data, .sentinel, .sentinel], laidTests := true, laidLooks := .later }
def CacheHighestCardSaid : Prop := Claim7.holds Tryz.pinned (.plain (OpenSpec.ofChange cacheHighestSpec)) cacheHighestCard

/-- THE TIED CARD OF 'graftbedlaw07.CacheHas'. -/
def cacheHasCard : Claim7 := { stood := { row := cacheHasRow, standIns := [], harness := (true, "3ff93070e6cbdc0404521b6aefa19db37109b21d843db0f79d0d76cfa3e90e34"), looks := true }, kinds := [], alts := [], laidByText := true, laidKinds := [.data, .data, .data, .sentinel, .sentinel], laidTests := true, laidLooks := .later }
def CacheHasCardSaid : Prop := Claim7.holds Tryz.pinned (.plain (OpenSpec.ofChange cacheHasSpec)) cacheHasCard

/-- THE TIED CARD OF 'graftbedlaw07.CacheChecks'. -/
def cacheChecksCard : Claim7 := { stood := { row := cacheChecksRow, standIns := [], harness := (true, "3ff93070e6cbdc0404521b6aefa19db37109b21d843db0f79d0d76cfa3e90e34"), looks := true }, kinds := [], alts := [], laidByText := true, laidKinds := [.data, .data, .data, .sentinel, .sentinel], laidTests := true, laidLooks := .later }
def CacheChecksCardSaid : Prop := Claim7.holds Tryz.pinned (.plain (OpenSpec.ofChange cacheChecksSpec)) cacheChecksCard

/-- THE TIED CARD OF 'graftbedlaw07.CacheTurned'. -/
def cacheTurnedCard : Claim7 := { stood := { row := cacheTurnedRow, standIns := [], harness := (true, "3ff93070e6cbdc0404521b6aefa19db37109b21d843db0f79d0d76cfa3e90e34"), looks := true }, kinds := [], alts := [], laidByText := true, laidKinds := [.data, .data, .data, .sentinel, .sentinel], laidTests := true, laidLooks := .later }
def CacheTurnedCardSaid : Prop := Claim7.holds Tryz.pinned (.plain (OpenSpec.ofChange cacheTurnedSpec)) cacheTurnedCard

/-- THE SECOND FORM's CARD OF 'graftbedlaw07.CacheMods'. -/
def cacheModsUptoCard : Claim7 := { stood := { row := cacheModsUptoRow, standIns := [], harness := (true, "3ff93070e6cbdc0404521b6aefa19db37109b21d843db0f79d0d76cfa3e90e34"), looks := true }, kinds := [], alts := [], laidByText := true, laidKinds := [.data, .data, .data, .sentinel, .sentinel], laidTests := true, laidLooks := .later }
def CacheModsUptoCardSaid : Prop := Claim7.holds Tryz.pinned (.plain (OpenSpec.upto cacheModsSpec)) cacheModsUptoCard

/-- THE SECOND FORM's CARD OF 'graftbedlaw07.CacheHighest'. -/
def cacheHighestUptoCard : Claim7 := { stood := { row := cacheHighestUptoRow, standIns := [], harness := (true, "3ff93070e6cbdc0404521b6aefa19db37109b21d843db0f79d0d76cfa3e90e34"), looks := true }, kinds := [], alts := [], laidByText := true, laidKinds := [.data, .data, .data, .sentinel, .sentinel], laidTests := true, laidLooks := .later }
def CacheHighestUptoCardSaid : Prop := Claim7.holds Tryz.pinned (.plain (OpenSpec.upto cacheHighestSpec)) cacheHighestUptoCard

/-- THE SECOND FORM's CARD OF 'graftbedlaw07.CacheHas'. -/
def cacheHasUptoCard : Claim7 := { stood := { row := cacheHasUptoRow, standIns := [], harness := (true, "3ff93070e6cbdc0404521b6aefa19db37109b21d843db0f79d0d76cfa3e90e34"), looks := true }, kinds := [], alts := [], laidByText := true, laidKinds := [.data, .data, .data, .sentinel, .sentinel], laidTests := true, laidLooks := .later }
def CacheHasUptoCardSaid : Prop := Claim7.holds Tryz.pinned (.plain (OpenSpec.upto cacheHasSpec)) cacheHasUptoCard

/-- THE SECOND FORM's CARD OF 'graftbedlaw07.CacheChecks'. -/
def cacheChecksUptoCard : Claim7 := { stood := { row := cacheChecksUptoRow, standIns := [], harness := (true, "3ff93070e6cbdc0404521b6aefa19db37109b21d843db0f79d0d76cfa3e90e34"), looks := true }, kinds := [], alts := [], laidByText := true, laidKinds := [.data, .data, .data, .sentinel, .sentinel], laidTests := true, laidLooks := .later }
def CacheChecksUptoCardSaid : Prop := Claim7.holds Tryz.pinned (.plain (OpenSpec.upto cacheChecksSpec)) cacheChecksUptoCard

/-- THE SECOND FORM's CARD OF 'graftbedlaw07.CacheTurned'. -/
def cacheTurnedUptoCard : Claim7 := { stood := { row := cacheTurnedUptoRow, standIns := [], harness := (true, "3ff93070e6cbdc0404521b6aefa19db37109b21d843db0f79d0d76cfa3e90e34"), looks := true }, kinds := [], alts := [], laidByText := true, laidKinds := [.data, .data, .data, .sentinel, .sentinel], laidTests := true, laidLooks := .later }
def CacheTurnedUptoCardSaid : Prop := Claim7.holds Tryz.pinned (.plain (OpenSpec.upto cacheTurnedSpec)) cacheTurnedUptoCard
end Rows
end Go.Proofs.YtcfmaeonginefaaGreatDoor
