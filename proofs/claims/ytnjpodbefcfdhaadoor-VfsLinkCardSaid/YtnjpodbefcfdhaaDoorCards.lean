/-
  DERIVED. GIVEN WITH THE SEED: THE CARDS: each row of YtnjpodbefcfdhaaDoorRows.lean that lists a variable, with what it lists TIED to the program's text (the seventh form; the later family's looks); each row that meets fmt, with fmt's text TOLD by the authors' own Lean function (tested against real Go, not proved from fmt's source: count such statements apart). THE CARD IS WHAT COUNTS. Prove the row's statement (the work); the ties are given (YtnjpodbefcfdhaaDoorTie.lean); close each card by the builder's one call (the guide's Derived/Test/ToyasCard.lean, 'card_holds'). Laid BY PROGRAM, IN A SANDBOX (cutbox-door.mjs). By AI agents, Wed Nov 11 2026. No macro, syntax, notation, axiom, sorry.
-/
import Derived.Test.YtnjpodbefcfdhaaDoorRows
import GoSem.ClaimSeven
namespace Go.Proofs.YtnjpodbefcfdhaaDoor
namespace Rows

/-- THE TIED CARD OF 'fairleadlaw23.VfsResolves'. -/
def vfsResolvesCard : Claim7 := { stood := { row := vfsResolvesRow, standIns := [], harness := (true, "7ec83bf28233f35232d1bb333eb5d137d2a27f1cbf7e702b5fbd71c05a694767"), looks := false }, kinds := [], alts := [], laidByText := true, laidKinds := [.data, .pinned], laidTests := true, laidLooks := .later }
def VfsResolvesCardSaid : Prop := Claim7.holds Tryd.pinned (.plain (OpenSpec.ofChange vfsResolvesSpec)) vfsResolvesCard

/-- THE TIED CARD OF 'fairleadlaw23.VfsLeads'. -/
def vfsLeadsCard : Claim7 := { stood := { row := vfsLeadsRow, standIns := [], harness := (true, "7ec83bf28233f35232d1bb333eb5d137d2a27f1cbf7e702b5fbd71c05a694767"), looks := false }, kinds := [], alts := [], laidByText := true, laidKinds := [.data, .pinned], laidTests := true, laidLooks := .later }
def VfsLeadsCardSaid : Prop := Claim7.holds Tryd.pinned (.plain (OpenSpec.ofChange vfsLeadsSpec)) vfsLeadsCard

/-- THE TIED CARD OF 'fairleadlaw23.VfsPlain'. -/
def vfsPlainCard : Claim7 := { stood := { row := vfsPlainRow, standIns := [], harness := (true, "7ec83bf28233f35232d1bb333eb5d137d2a27f1cbf7e702b5fbd71c05a694767"), looks := false }, kinds := [], alts := [], laidByText := true, laidKinds := [.data, .pinned], laidTests := true, laidLooks := .later }
def VfsPlainCardSaid : Prop := Claim7.holds Tryd.pinned (.plain (OpenSpec.ofChange vfsPlainSpec)) vfsPlainCard

/-- THE TIED CARD OF 'fairleadlaw23.VfsLink'. -/
def vfsLinkCard : Claim7 := { stood := { row := vfsLinkRow, standIns := [], harness := (true, "7ec83bf28233f35232d1bb333eb5d137d2a27f1cbf7e702b5fbd71c05a694767"), looks := false }, kinds := [], alts := [], laidByText := true, laidKinds := [.data, .pinned], laidTests := true, laidLooks := .later }
def VfsLinkCardSaid : Prop := Claim7.holds Tryd.pinned (.plain (OpenSpec.ofChange vfsLinkSpec)) vfsLinkCard

/-- THE TIED CARD OF 'fairleadlaw23.VfsRing'. -/
def vfsRingCard : Claim7 := { stood := { row := vfsRingRow, standIns := [], harness := (true, "7ec83bf28233f35232d1bb333eb5d137d2a27f1cbf7e702b5fbd71c05a694767"), looks := false }, kinds := [], alts := [], laidByText := true, laidKinds := [.data, .pinned], laidTests := true, laidLooks := .later }
def VfsRingCardSaid : Prop := Claim7.holds Tryd.pinned (.plain (OpenSpec.ofChange vfsRingSpec)) vfsRingCard

/-- THE SECOND FORM's CARD OF 'fairleadlaw23.VfsResolves'. -/
def vfsResolvesUptoCard : Claim7 := { stood := { row := vfsResolvesUptoRow, standIns := [], harness := (true, "7ec83bf28233f35232d1bb333eb5d137d2a27f1cbf7e702b5fbd71c05a694767"), looks := false }, kinds := [], alts := [], laidByText := true, laidKinds := [.data, .pinned], laidTests := true, laidLooks := .later }
def VfsResolvesUptoCardSaid : Prop := Claim7.holds Tryd.pinned (.plain (OpenSpec.upto vfsResolvesSpec)) vfsResolvesUptoCard

/-- THE SECOND FORM's CARD OF 'fairleadlaw23.VfsLeads'. -/
def vfsLeadsUptoCard : Claim7 := { stood := { row := vfsLeadsUptoRow, standIns := [], harness := (true, "7ec83bf28233f35232d1bb333eb5d137d2a27f1cbf7e702b5fbd71c05a694767"), looks := false }, kinds := [], alts := [], laidByText := true, laidKinds := [.data, .pinned], laidTests := true, laidLooks := .later }
def VfsLeadsUptoCardSaid : Prop := Claim7.holds Tryd.pinned (.plain (OpenSpec.upto vfsLeadsSpec)) vfsLeadsUptoCard

/-- THE SECOND FORM's CARD OF 'fairleadlaw23.VfsPlain'. -/
def vfsPlainUptoCard : Claim7 := { stood := { row := vfsPlainUptoRow, standIns := [], harness := (true, "7ec83bf28233f35232d1bb333eb5d137d2a27f1cbf7e702b5fbd71c05a694767"), looks := false }, kinds := [], alts := [], laidByText := true, laidKinds := [.data, .pinned], laidTests := true, laidLooks := .later }
def VfsPlainUptoCardSaid : Prop := Claim7.holds Tryd.pinned (.plain (OpenSpec.upto vfsPlainSpec)) vfsPlainUptoCard

/-- THE SECOND FORM's CARD OF 'fairleadlaw23.VfsLink'. -/
def vfsLinkUptoCard : Claim7 := { stood := { row := vfsLinkUptoRow, standIns := [], harness := (true, "7ec83bf28233f35232d1bb333eb5d137d2a27f1cbf7e702b5fbd71c05a694767"), looks := false }, kinds := [], alts := [], laidByText := true, laidKinds := [.data, .pinned], laidTests := true, laidLooks := .later }
def VfsLinkUptoCardSaid : Prop := Claim7.holds Tryd.pinned (.plain (OpenSpec.upto vfsLinkSpec)) vfsLinkUptoCard

/-- THE SECOND FORM's CARD OF 'fairleadlaw23.VfsRing'. -/
def vfsRingUptoCard : Claim7 := { stood := { row := vfsRingUptoRow, standIns := [], harness := (true, "7ec83bf28233f35232d1bb333eb5d137d2a27f1cbf7e702b5fbd71c05a694767"), looks := false }, kinds := [], alts := [], laidByText := true, laidKinds := [.data, .pinned], laidTests := true, laidLooks := .later }
def VfsRingUptoCardSaid : Prop := Claim7.holds Tryd.pinned (.plain (OpenSpec.upto vfsRingSpec)) vfsRingUptoCard
end Rows
end Go.Proofs.YtnjpodbefcfdhaaDoor
