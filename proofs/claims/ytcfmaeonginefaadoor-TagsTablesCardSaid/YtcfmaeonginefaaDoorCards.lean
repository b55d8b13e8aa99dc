/-
  DERIVED. GIVEN WITH THE SEED: THE CARDS: each row of YtcfmaeonginefaaDoorRows.lean that lists a variable, with what it lists TIED to the program's text (the seventh form; the later family's looks); each row that meets fmt, with fmt's text TOLD by the authors' own Lean function (tested against real Go, not proved from fmt's source: count such statements apart). THE CARD IS WHAT COUNTS. Prove the row's statement (the work); the ties are given (YtcfmaeonginefaaDoorTie.lean); close each card by the builder's one call (the guide's Derived/Test/ToyasCard.lean, 'card_holds'). Laid BY PROGRAM, IN A SANDBOX (cutbox-door.mjs). By AI agents, Wed Nov 11 2026. No macro, syntax, notation, axiom, sorry.
-/
import Derived.Test.YtcfmaeonginefaaDoorRows
import GoSem.ClaimSeven
namespace Go.Proofs.YtcfmaeonginefaaDoor
namespace Rows

/-- THE TIED CARD OF 'graftbedlaw14.TagsTables'. -/
def tagsTablesCard : Claim7 := { stood := { row := tagsTablesRow, standIns := [], harness := (true, "2a31c9156e41dbdf3171d8ff3a4223c9729af55bc6e0543a6617f3b622f61946"), looks := true }, kinds := [], alts := [], laidByText := true, laidKinds := [.data, .pinned], laidTests := true, laidLooks := .later }
def TagsTablesCardSaid : Prop := Claim7.holds Tryd.pinned (.plain (OpenSpec.ofChange tagsTablesSpec)) tagsTablesCard

/-- THE TIED CARD OF 'graftbedlaw11.HeaderMade'. -/
def headerMadeCard : Claim7 := { stood := { row := headerMadeRow, standIns := [], harness := (true, "2a31c9156e41dbdf3171d8ff3a4223c9729af55bc6e0543a6617f3b622f61946"), looks := true }, kinds := [], alts := [], laidByText := true, laidKinds := [.data, .pinned], laidTests := true, laidLooks := .later }
def HeaderMadeCardSaid : Prop := Claim7.holds Tryd.pinned (.plain (OpenSpec.ofChange headerMadeSpec)) headerMadeCard

/-- THE TIED CARD OF 'graftbedlaw11.HeaderRest'. -/
def headerRestCard : Claim7 := { stood := { row := headerRestRow, standIns := [], harness := (true, "2a31c9156e41dbdf3171d8ff3a4223c9729af55bc6e0543a6617f3b622f61946"), looks := true }, kinds := [], alts := [], laidByText := true, laidKinds := [.data, .pinned], laidTests := true, laidLooks := .later }
def HeaderRestCardSaid : Prop := Claim7.holds Tryd.pinned (.plain (OpenSpec.ofChange headerRestSpec)) headerRestCard

/-- THE TIED CARD OF 'graftbedlaw11.HeaderBuilds'. -/
def headerBuildsCard : Claim7 := { stood := { row := headerBuildsRow, standIns := [], harness := (true, "2a31c9156e41dbdf3171d8ff3a4223c9729af55bc6e0543a6617f3b622f61946"), looks := true }, kinds := [], alts := [], laidByText := true, laidKinds := [.data, .pinned], laidTests := true, laidLooks := .later }
def HeaderBuildsCardSaid : Prop := Claim7.holds Tryd.pinned (.plain (OpenSpec.ofChange headerBuildsSpec)) headerBuildsCard

/-- THE SECOND FORM's CARD OF 'graftbedlaw14.TagsTables'. -/
def tagsTablesUptoCard : Claim7 := { stood := { row := tagsTablesUptoRow, standIns := [], harness := (true, "2a31c9156e41dbdf3171d8ff3a4223c9729af55bc6e0543a6617f3b622f61946"), looks := true }, kinds := [], alts := [], laidByText := true, laidKinds := [.data, .pinned], laidTests := true, laidLooks := .later }
def TagsTablesUptoCardSaid : Prop := Claim7.holds Tryd.pinned (.plain (OpenSpec.upto tagsTablesSpec)) tagsTablesUptoCard

/-- THE SECOND FORM's CARD OF 'graftbedlaw11.HeaderMade'. -/
def headerMadeUptoCard : Claim7 := { stood := { row := headerMadeUptoRow, standIns := [], harness := (true, "2a31c9156e41dbdf3171d8ff3a4223c9729af55bc6e0543a6617f3b622f61946"), looks := true }, kinds := [], alts := [], laidByText := true, laidKinds := [.data, .pinned], laidTests := true, laidLooks := .later }
def HeaderMadeUptoCardSaid : Prop := Claim7.holds Tryd.pinned (.plain (OpenSpec.upto headerMadeSpec)) headerMadeUptoCard

/-- THE SECOND FORM's CARD OF 'graftbedlaw11.HeaderRest'. -/
def headerRestUptoCard : Claim7 := { stood := { row := headerRestUptoRow, standIns := [], harness := (true, "2a31c9156e41dbdf3171d8ff3a4223c9729af55bc6e0543a6617f3b622f61946"), looks := true }, kinds := [], alts := [], laidByText := true, laidKinds := [.data, .pinned], laidTests := true, laidLooks := .later }
def HeaderRestUptoCardSaid : Prop := Claim7.holds Tryd.pinned (.plain (OpenSpec.upto headerRestSpec)) headerRestUptoCard

/-- THE SECOND FORM's CARD OF 'graftbedlaw11.HeaderBuilds'. -/
def headerBuildsUptoCard : Claim7 := { stood := { row := headerBuildsUptoRow, standIns := [], harness := (true, "2a31c9156e41dbdf3171d8ff3a4223c9729af55bc6e0543a6617f3b622f61946"), looks := true }, kinds := [], alts := [], laidByText := true, laidKinds := [.data, .pinned], laidTests := true, laidLooks := .later }
def HeaderBuildsUptoCardSaid : Prop := Claim7.holds Tryd.pinned (.plain (OpenSpec.upto headerBuildsSpec)) headerBuildsUptoCard
end Rows
end Go.Proofs.YtcfmaeonginefaaDoor
