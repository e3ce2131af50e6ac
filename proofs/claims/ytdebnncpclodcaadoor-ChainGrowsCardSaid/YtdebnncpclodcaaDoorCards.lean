/-
  DERIVED. GIVEN WITH THE SEED: THE CARDS: each row of YtdebnncpclodcaaDoorRows.lean that lists a variable, with what it lists TIED to the program's text (the seventh form; the later family's looks); each row that meets fmt, with fmt's text TOLD by the authors' own Lean function (tested against real Go, not proved from fmt's source: count such statements apart). THE CARD IS WHAT COUNTS. Prove the row's statement (the work); the ties are given (YtdebnncpclodcaaDoorTie.lean); close each card by the builder's one call (the guide's Derived/Test/ToyasCard.lean, 'card_holds'). Laid BY PROGRAM, IN A SANDBOX (cutbox-door.mjs). By AI agents, Wed Nov 11 2026. No macro, syntax, notation, axiom, sorry.
-/
import Derived.Test.YtdebnncpclodcaaDoorRows
import GoSem.ClaimSeven
namespace Go.Proofs.YtdebnncpclodcaaDoor
namespace Rows

/-- THE TIED CARD OF 'wapentakelaw13.VoteOnce'. -/
def voteOnceCard : Claim7 := { stood := { row := voteOnceRow, standIns := [], harness := (true, "3e4b2a36d4f37ec9c765f66bd21268deafcaf80f2a64e2ee5deea9316fec5c59"), looks := false }, kinds := [], alts := [], laidByText := true, laidKinds := [.data], laidTests := true, laidLooks := .later }
def VoteOnceCardSaid : Prop := Claim7.holds Tryd.pinned (.plain (OpenSpec.ofChange voteOnceSpec)) voteOnceCard

/-- THE TIED CARD OF 'wapentakelaw06.RingOnce'. -/
def ringOnceCard : Claim7 := { stood := { row := ringOnceRow, standIns := [], harness := (true, "3e4b2a36d4f37ec9c765f66bd21268deafcaf80f2a64e2ee5deea9316fec5c59"), looks := false }, kinds := [], alts := [], laidByText := true, laidKinds := [.data], laidTests := true, laidLooks := .later }
def RingOnceCardSaid : Prop := Claim7.holds Tryd.pinned (.plain (OpenSpec.ofChange ringOnceSpec)) ringOnceCard

/-- THE TIED CARD OF 'wapentakelaw15.ChainChecks'. -/
def chainChecksCard : Claim7 := { stood := { row := chainChecksRow, standIns := [], harness := (true, "3e4b2a36d4f37ec9c765f66bd21268deafcaf80f2a64e2ee5deea9316fec5c59"), looks := false }, kinds := [], alts := [], laidByText := true, laidKinds := [.data], laidTests := true, laidLooks := .later }
def ChainChecksCardSaid : Prop := Claim7.holds Tryd.pinned (.plain (OpenSpec.ofChange chainChecksSpec)) chainChecksCard

/-- THE TIED CARD OF 'wapentakelaw15.ChainParts'. -/
def chainPartsCard : Claim7 := { stood := { row := chainPartsRow, standIns := [], harness := (true, "3e4b2a36d4f37ec9c765f66bd21268deafcaf80f2a64e2ee5deea9316fec5c59"), looks := false }, kinds := [], alts := [], laidByText := true, laidKinds := [.data], laidTests := true, laidLooks := .later }
def ChainPartsCardSaid : Prop := Claim7.holds Tryd.pinned (.plain (OpenSpec.ofChange chainPartsSpec)) chainPartsCard

/-- THE TIED CARD OF 'wapentakelaw15.ChainGrows'. -/
def chainGrowsCard : Claim7 := { stood := { row := chainGrowsRow, standIns := [], harness := (true, "3e4b2a36d4f37ec9c765f66bd21268deafcaf80f2a64e2ee5deea9316fec5c59"), looks := false }, kinds := [], alts := [], laidByText := true, laidKinds := [.data], laidTests := true, laidLooks := .later }
def ChainGrowsCardSaid : Prop := Claim7.holds Tryd.pinned (.plain (OpenSpec.ofChange chainGrowsSpec)) chainGrowsCard

/-- THE TIED CARD OF 'wapentakelaw18.SnapApart'. -/
def snapApartCard : Claim7 := { stood := { row := snapApartRow, standIns := [], harness := (true, "3e4b2a36d4f37ec9c765f66bd21268deafcaf80f2a64e2ee5deea9316fec5c59"), looks := false }, kinds := [], alts := [], laidByText := true, laidKinds := [.data], laidTests := true, laidLooks := .later }
def SnapApartCardSaid : Prop := Claim7.holds Tryd.pinned (.plain (OpenSpec.ofChange snapApartSpec)) snapApartCard

/-- THE TIED CARD OF 'wapentakelaw14.CertChecks'. -/
def certChecksCard : Claim7 := { stood := { row := certChecksRow, standIns := [], harness := (true, "3e4b2a36d4f37ec9c765f66bd21268deafcaf80f2a64e2ee5deea9316fec5c59"), looks := false }, kinds := [], alts := [], laidByText := true, laidKinds := [.data], laidTests := true, laidLooks := .later }
def CertChecksCardSaid : Prop := Claim7.holds Tryd.pinned (.plain (OpenSpec.ofChange certChecksSpec)) certChecksCard

/-- THE TIED CARD OF 'wapentakelaw14.CertMakes'. -/
def certMakesCard : Claim7 := { stood := { row := certMakesRow, standIns := [], harness := (true, "3e4b2a36d4f37ec9c765f66bd21268deafcaf80f2a64e2ee5deea9316fec5c59"), looks := false }, kinds := [], alts := [], laidByText := true, laidKinds := [.data], laidTests := true, laidLooks := .later }
def CertMakesCardSaid : Prop := Claim7.holds Tryd.pinned (.plain (OpenSpec.ofChange certMakesSpec)) certMakesCard

/-- THE TIED CARD OF 'wapentakelaw14.CertFew'. -/
def certFewCard : Claim7 := { stood := { row := certFewRow, standIns := [], harness := (true, "3e4b2a36d4f37ec9c765f66bd21268deafcaf80f2a64e2ee5deea9316fec5c59"), looks := false }, kinds := [], alts := [], laidByText := true, laidKinds := [.data], laidTests := true, laidLooks := .later }
def CertFewCardSaid : Prop := Claim7.holds Tryd.pinned (.plain (OpenSpec.ofChange certFewSpec)) certFewCard

/-- THE TIED CARD OF 'wapentakelaw14.CertAgrees'. -/
def certAgreesCard : Claim7 := { stood := { row := certAgreesRow, standIns := [], harness := (true, "3e4b2a36d4f37ec9c765f66bd21268deafcaf80f2a64e2ee5deea9316fec5c59"), looks := false }, kinds := [], alts := [], laidByText := true, laidKinds := [.data], laidTests := true, laidLooks := .later }
def CertAgreesCardSaid : Prop := Claim7.holds Tryd.pinned (.plain (OpenSpec.ofChange certAgreesSpec)) certAgreesCard

/-- THE SECOND FORM's CARD OF 'wapentakelaw13.VoteOnce'. -/
def voteOnceUptoCard : Claim7 := { stood := { row := voteOnceUptoRow, standIns := [], harness := (true, "3e4b2a36d4f37ec9c765f66bd21268deafcaf80f2a64e2ee5deea9316fec5c59"), looks := false }, kinds := [], alts := [], laidByText := true, laidKinds := [.data], laidTests := true, laidLooks := .later }
def VoteOnceUptoCardSaid : Prop := Claim7.holds Tryd.pinned (.plain (OpenSpec.upto voteOnceSpec)) voteOnceUptoCard

/-- THE SECOND FORM's CARD OF 'wapentakelaw06.RingOnce'. -/
def ringOnceUptoCard : Claim7 := { stood := { row := ringOnceUptoRow, standIns := [], harness := (true, "3e4b2a36d4f37ec9c765f66bd21268deafcaf80f2a64e2ee5deea9316fec5c59"), looks := false }, kinds := [], alts := [], laidByText := true, laidKinds := [.data], laidTests := true, laidLooks := .later }
def RingOnceUptoCardSaid : Prop := Claim7.holds Tryd.pinned (.plain (OpenSpec.upto ringOnceSpec)) ringOnceUptoCard

/-- THE SECOND FORM's CARD OF 'wapentakelaw15.ChainChecks'. -/
def chainChecksUptoCard : Claim7 := { stood := { row := chainChecksUptoRow, standIns := [], harness := (true, "3e4b2a36d4f37ec9c765f66bd21268deafcaf80f2a64e2ee5deea9316fec5c59"), looks := false }, kinds := [], alts := [], laidByText := true, laidKinds := [.data], laidTests := true, laidLooks := .later }
def ChainChecksUptoCardSaid : Prop := Claim7.holds Tryd.pinned (.plain (OpenSpec.upto chainChecksSpec)) chainChecksUptoCard

/-- THE SECOND FORM's CARD OF 'wapentakelaw15.ChainParts'. -/
def chainPartsUptoCard : Claim7 := { stood := { row := chainPartsUptoRow, standIns := [], harness := (true, "3e4b2a36d4f37ec9c765f66bd21268deafcaf80f2a64e2ee5deea9316fec5c59"), looks := false }, kinds := [], alts := [], laidByText := true, laidKinds := [.data], laidTests := true, laidLooks := .later }
def ChainPartsUptoCardSaid : Prop := Claim7.holds Tryd.pinned (.plain (OpenSpec.upto chainPartsSpec)) chainPartsUptoCard

/-- THE SECOND FORM's CARD OF 'wapentakelaw15.ChainGrows'. -/
def chainGrowsUptoCard : Claim7 := { stood := { row := chainGrowsUptoRow, standIns := [], harness := (true, "3e4b2a36d4f37ec9c765f66bd21268deafcaf80f2a64e2ee5deea9316fec5c59"), looks := false }, kinds := [], alts := [], laidByText := true, laidKinds := [.data], laidTests := true, laidLooks := .later }
def ChainGrowsUptoCardSaid : Prop := Claim7.holds Tryd.pinned (.plain (OpenSpec.upto chainGrowsSpec)) chainGrowsUptoCard

/-- THE SECOND FORM's CARD OF 'wapentakelaw18.SnapApart'. -/
def snapApartUptoCard : Claim7 := { stood := { row := snapApartUptoRow, standIns := [], harness := (true, "3e4b2a36d4f37ec9c765f66bd21268deafcaf80f2a64e2ee5deea9316fec5c59"), looks := false }, kinds := [], alts := [], laidByText := true, laidKinds := [.data], laidTests := true, laidLooks := .later }
def SnapApartUptoCardSaid : Prop := Claim7.holds Tryd.pinned (.plain (OpenSpec.upto snapApartSpec)) snapApartUptoCard

/-- THE SECOND FORM's CARD OF 'wapentakelaw14.CertChecks'. -/
def certChecksUptoCard : Claim7 := { stood := { row := certChecksUptoRow, standIns := [], harness := (true, "3e4b2a36d4f37ec9c765f66bd21268deafcaf80f2a64e2ee5deea9316fec5c59"), looks := false }, kinds := [], alts := [], laidByText := true, laidKinds := [.data], laidTests := true, laidLooks := .later }
def CertChecksUptoCardSaid : Prop := Claim7.holds Tryd.pinned (.plain (OpenSpec.upto certChecksSpec)) certChecksUptoCard

/-- THE SECOND FORM's CARD OF 'wapentakelaw14.CertMakes'. -/
def certMakesUptoCard : Claim7 := { stood := { row := certMakesUptoRow, standIns := [], harness := (true, "3e4b2a36d4f37ec9c765f66bd21268deafcaf80f2a64e2ee5deea9316fec5c59"), looks := false }, kinds := [], alts := [], laidByText := true, laidKinds := [.data], laidTests := true, laidLooks := .later }
def CertMakesUptoCardSaid : Prop := Claim7.holds Tryd.pinned (.plain (OpenSpec.upto certMakesSpec)) certMakesUptoCard

/-- THE SECOND FORM's CARD OF 'wapentakelaw14.CertFew'. -/
def certFewUptoCard : Claim7 := { stood := { row := certFewUptoRow, standIns := [], harness := (true, "3e4b2a36d4f37ec9c765f66bd21268deafcaf80f2a64e2ee5deea9316fec5c59"), looks := false }, kinds := [], alts := [], laidByText := true, laidKinds := [.data], laidTests := true, laidLooks := .later }
def CertFewUptoCardSaid : Prop := Claim7.holds Tryd.pinned (.plain (OpenSpec.upto certFewSpec)) certFewUptoCard

/-- THE SECOND FORM's CARD OF 'wapentakelaw14.CertAgrees'. -/
def certAgreesUptoCard : Claim7 := { stood := { row := certAgreesUptoRow, standIns := [], harness := (true, "3e4b2a36d4f37ec9c765f66bd21268deafcaf80f2a64e2ee5deea9316fec5c59"), looks := false }, kinds := [], alts := [], laidByText := true, laidKinds := [.data], laidTests := true, laidLooks := .later }
def CertAgreesUptoCardSaid : Prop := Claim7.holds Tryd.pinned (.plain (OpenSpec.upto certAgreesSpec)) certAgreesUptoCard
end Rows
end Go.Proofs.YtdebnncpclodcaaDoor
