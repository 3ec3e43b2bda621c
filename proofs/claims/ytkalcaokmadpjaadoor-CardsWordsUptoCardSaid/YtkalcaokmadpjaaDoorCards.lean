/-
  DERIVED. GIVEN WITH THE SEED: THE CARDS: each row of YtkalcaokmadpjaaDoorRows.lean that lists a variable, with what it lists TIED to the program's text (the seventh form; the later family's looks); each row that meets fmt, with fmt's text TOLD by the authors' own Lean function (tested against real Go, not proved from fmt's source: count such statements apart). THE CARD IS WHAT COUNTS. Prove the row's statement (the work); the ties are given (YtkalcaokmadpjaaDoorTie.lean); close each card by the builder's one call (the guide's Derived/Test/ToyasCard.lean, 'card_holds'). Laid BY PROGRAM, IN A SANDBOX (cutbox-door.mjs). By AI agents, Wed Nov 11 2026. No macro, syntax, notation, axiom, sorry.
-/
import Derived.Test.YtkalcaokmadpjaaDoorRows
import GoSem.ClaimSeven
namespace Go.Proofs.YtkalcaokmadpjaaDoor
namespace Rows

/-- THE TIED CARD OF 'ragpickerlaw10.CardsTwice'. -/
def cardsTwiceCard : Claim7 := { stood := { row := cardsTwiceRow, standIns := [], harness := (true, "947888f5eb4b7e036dd1b8391888dad539299d39abeefd0863858ea44e539fa6"), looks := false }, kinds := [], alts := [], laidByText := true, laidKinds := [.widerDeep], laidTests := true, laidLooks := .later }
def CardsTwiceCardSaid : Prop := Claim7.holds Tryd.pinned (.plain (OpenSpec.ofChange cardsTwiceSpec)) cardsTwiceCard

/-- THE TIED CARD OF 'ragpickerlaw07.HeapTells'. -/
def heapTellsCard : Claim7 := { stood := { row := heapTellsRow, standIns := [], harness := (true, "947888f5eb4b7e036dd1b8391888dad539299d39abeefd0863858ea44e539fa6"), looks := false }, kinds := [], alts := [], laidByText := true, laidKinds := [.widerDeep], laidTests := true, laidLooks := .later }
def HeapTellsCardSaid : Prop := Claim7.holds Tryd.pinned (.plain (OpenSpec.ofChange heapTellsSpec)) heapTellsCard

/-- THE TIED CARD OF 'ragpickerlaw07.HeapWords'. -/
def heapWordsCard : Claim7 := { stood := { row := heapWordsRow, standIns := [], harness := (true, "947888f5eb4b7e036dd1b8391888dad539299d39abeefd0863858ea44e539fa6"), looks := false }, kinds := [], alts := [], laidByText := true, laidKinds := [.widerDeep], laidTests := true, laidLooks := .later }
def HeapWordsCardSaid : Prop := Claim7.holds Tryd.pinned (.plain (OpenSpec.ofChange heapWordsSpec)) heapWordsCard

/-- THE TIED CARD OF 'ragpickerlaw07.HeapNew'. -/
def heapNewCard : Claim7 := { stood := { row := heapNewRow, standIns := [], harness := (true, "947888f5eb4b7e036dd1b8391888dad539299d39abeefd0863858ea44e539fa6"), looks := false }, kinds := [], alts := [], laidByText := true, laidKinds := [.widerDeep], laidTests := true, laidLooks := .later }
def HeapNewCardSaid : Prop := Claim7.holds Tryd.pinned (.plain (OpenSpec.ofChange heapNewSpec)) heapNewCard

/-- THE TIED CARD OF 'ragpickerlaw07.HeapUsed'. -/
def heapUsedCard : Claim7 := { stood := { row := heapUsedRow, standIns := [], harness := (true, "947888f5eb4b7e036dd1b8391888dad539299d39abeefd0863858ea44e539fa6"), looks := false }, kinds := [], alts := [], laidByText := true, laidKinds := [.widerDeep], laidTests := true, laidLooks := .later }
def HeapUsedCardSaid : Prop := Claim7.holds Tryd.pinned (.plain (OpenSpec.ofChange heapUsedSpec)) heapUsedCard

/-- THE TIED CARD OF 'ragpickerlaw07.HeapLess'. -/
def heapLessCard : Claim7 := { stood := { row := heapLessRow, standIns := [], harness := (true, "947888f5eb4b7e036dd1b8391888dad539299d39abeefd0863858ea44e539fa6"), looks := false }, kinds := [], alts := [], laidByText := true, laidKinds := [.widerDeep], laidTests := true, laidLooks := .later }
def HeapLessCardSaid : Prop := Claim7.holds Tryd.pinned (.plain (OpenSpec.ofChange heapLessSpec)) heapLessCard

/-- THE TIED CARD OF 'ragpickerlaw10.CardsKeep'. -/
def cardsKeepCard : Claim7 := { stood := { row := cardsKeepRow, standIns := [], harness := (true, "947888f5eb4b7e036dd1b8391888dad539299d39abeefd0863858ea44e539fa6"), looks := false }, kinds := [], alts := [], laidByText := true, laidKinds := [.widerDeep], laidTests := true, laidLooks := .later }
def CardsKeepCardSaid : Prop := Claim7.holds Tryd.pinned (.plain (OpenSpec.ofChange cardsKeepSpec)) cardsKeepCard

/-- THE TIED CARD OF 'ragpickerlaw12.RegsObject'. -/
def regsObjectCard : Claim7 := { stood := { row := regsObjectRow, standIns := [], harness := (true, "947888f5eb4b7e036dd1b8391888dad539299d39abeefd0863858ea44e539fa6"), looks := false }, kinds := [], alts := [], laidByText := true, laidKinds := [.widerDeep], laidTests := true, laidLooks := .later }
def RegsObjectCardSaid : Prop := Claim7.holds Tryd.pinned (.plain (OpenSpec.ofChange regsObjectSpec)) regsObjectCard

/-- THE TIED CARD OF 'ragpickerlaw10.CardsWords'. -/
def cardsWordsCard : Claim7 := { stood := { row := cardsWordsRow, standIns := [], harness := (true, "947888f5eb4b7e036dd1b8391888dad539299d39abeefd0863858ea44e539fa6"), looks := false }, kinds := [], alts := [], laidByText := true, laidKinds := [.widerDeep], laidTests := true, laidLooks := .later }
def CardsWordsCardSaid : Prop := Claim7.holds Tryd.pinned (.plain (OpenSpec.ofChange cardsWordsSpec)) cardsWordsCard

/-- THE TIED CARD OF 'ragpickerlaw10.CardsNone'. -/
def cardsNoneCard : Claim7 := { stood := { row := cardsNoneRow, standIns := [], harness := (true, "947888f5eb4b7e036dd1b8391888dad539299d39abeefd0863858ea44e539fa6"), looks := false }, kinds := [], alts := [], laidByText := true, laidKinds := [.widerDeep], laidTests := true, laidLooks := .later }
def CardsNoneCardSaid : Prop := Claim7.holds Tryd.pinned (.plain (OpenSpec.ofChange cardsNoneSpec)) cardsNoneCard

/-- THE TIED CARD OF 'ragpickerlaw07.HeapKeeps'. -/
def heapKeepsCard : Claim7 := { stood := { row := heapKeepsRow, standIns := [], harness := (true, "947888f5eb4b7e036dd1b8391888dad539299d39abeefd0863858ea44e539fa6"), looks := false }, kinds := [], alts := [], laidByText := true, laidKinds := [.widerDeep], laidTests := true, laidLooks := .later }
def HeapKeepsCardSaid : Prop := Claim7.holds Tryd.pinned (.plain (OpenSpec.ofChange heapKeepsSpec)) heapKeepsCard

/-- THE TIED CARD OF 'ragpickerlaw10.CardsAll'. -/
def cardsAllCard : Claim7 := { stood := { row := cardsAllRow, standIns := [], harness := (true, "947888f5eb4b7e036dd1b8391888dad539299d39abeefd0863858ea44e539fa6"), looks := false }, kinds := [], alts := [], laidByText := true, laidKinds := [.widerDeep], laidTests := true, laidLooks := .later }
def CardsAllCardSaid : Prop := Claim7.holds Tryd.pinned (.plain (OpenSpec.ofChange cardsAllSpec)) cardsAllCard

/-- THE TIED CARD OF 'ragpickerlaw11.ShadeKeeps'. -/
def shadeKeepsCard : Claim7 := { stood := { row := shadeKeepsRow, standIns := [], harness := (true, "947888f5eb4b7e036dd1b8391888dad539299d39abeefd0863858ea44e539fa6"), looks := false }, kinds := [], alts := [], laidByText := true, laidKinds := [.widerDeep], laidTests := true, laidLooks := .later }
def ShadeKeepsCardSaid : Prop := Claim7.holds Tryd.pinned (.plain (OpenSpec.ofChange shadeKeepsSpec)) shadeKeepsCard

/-- THE TIED CARD OF 'ragpickerlaw11.ShadeAll'. -/
def shadeAllCard : Claim7 := { stood := { row := shadeAllRow, standIns := [], harness := (true, "947888f5eb4b7e036dd1b8391888dad539299d39abeefd0863858ea44e539fa6"), looks := false }, kinds := [], alts := [], laidByText := true, laidKinds := [.widerDeep], laidTests := true, laidLooks := .later }
def ShadeAllCardSaid : Prop := Claim7.holds Tryd.pinned (.plain (OpenSpec.ofChange shadeAllSpec)) shadeAllCard

/-- THE TIED CARD OF 'ragpickerlaw11.ShadeEpoch'. -/
def shadeEpochCard : Claim7 := { stood := { row := shadeEpochRow, standIns := [], harness := (true, "947888f5eb4b7e036dd1b8391888dad539299d39abeefd0863858ea44e539fa6"), looks := false }, kinds := [], alts := [], laidByText := true, laidKinds := [.widerDeep], laidTests := true, laidLooks := .later }
def ShadeEpochCardSaid : Prop := Claim7.holds Tryd.pinned (.plain (OpenSpec.ofChange shadeEpochSpec)) shadeEpochCard

/-- THE TIED CARD OF 'ragpickerlaw11.ShadeNone'. -/
def shadeNoneCard : Claim7 := { stood := { row := shadeNoneRow, standIns := [], harness := (true, "947888f5eb4b7e036dd1b8391888dad539299d39abeefd0863858ea44e539fa6"), looks := false }, kinds := [], alts := [], laidByText := true, laidKinds := [.widerDeep], laidTests := true, laidLooks := .later }
def ShadeNoneCardSaid : Prop := Claim7.holds Tryd.pinned (.plain (OpenSpec.ofChange shadeNoneSpec)) shadeNoneCard

/-- THE SECOND FORM's CARD OF 'ragpickerlaw10.CardsTwice'. -/
def cardsTwiceUptoCard : Claim7 := { stood := { row := cardsTwiceUptoRow, standIns := [], harness := (true, "947888f5eb4b7e036dd1b8391888dad539299d39abeefd0863858ea44e539fa6"), looks := false }, kinds := [], alts := [], laidByText := true, laidKinds := [.widerDeep], laidTests := true, laidLooks := .later }
def CardsTwiceUptoCardSaid : Prop := Claim7.holds Tryd.pinned (.plain (OpenSpec.upto cardsTwiceSpec)) cardsTwiceUptoCard

/-- THE SECOND FORM's CARD OF 'ragpickerlaw07.HeapTells'. -/
def heapTellsUptoCard : Claim7 := { stood := { row := heapTellsUptoRow, standIns := [], harness := (true, "947888f5eb4b7e036dd1b8391888dad539299d39abeefd0863858ea44e539fa6"), looks := false }, kinds := [], alts := [], laidByText := true, laidKinds := [.widerDeep], laidTests := true, laidLooks := .later }
def HeapTellsUptoCardSaid : Prop := Claim7.holds Tryd.pinned (.plain (OpenSpec.upto heapTellsSpec)) heapTellsUptoCard

/-- THE SECOND FORM's CARD OF 'ragpickerlaw07.HeapWords'. -/
def heapWordsUptoCard : Claim7 := { stood := { row := heapWordsUptoRow, standIns := [], harness := (true, "947888f5eb4b7e036dd1b8391888dad539299d39abeefd0863858ea44e539fa6"), looks := false }, kinds := [], alts := [], laidByText := true, laidKinds := [.widerDeep], laidTests := true, laidLooks := .later }
def HeapWordsUptoCardSaid : Prop := Claim7.holds Tryd.pinned (.plain (OpenSpec.upto heapWordsSpec)) heapWordsUptoCard

/-- THE SECOND FORM's CARD OF 'ragpickerlaw07.HeapNew'. -/
def heapNewUptoCard : Claim7 := { stood := { row := heapNewUptoRow, standIns := [], harness := (true, "947888f5eb4b7e036dd1b8391888dad539299d39abeefd0863858ea44e539fa6"), looks := false }, kinds := [], alts := [], laidByText := true, laidKinds := [.widerDeep], laidTests := true, laidLooks := .later }
def HeapNewUptoCardSaid : Prop := Claim7.holds Tryd.pinned (.plain (OpenSpec.upto heapNewSpec)) heapNewUptoCard

/-- THE SECOND FORM's CARD OF 'ragpickerlaw07.HeapUsed'. -/
def heapUsedUptoCard : Claim7 := { stood := { row := heapUsedUptoRow, standIns := [], harness := (true, "947888f5eb4b7e036dd1b8391888dad539299d39abeefd0863858ea44e539fa6"), looks := false }, kinds := [], alts := [], laidByText := true, laidKinds := [.widerDeep], laidTests := true, laidLooks := .later }
def HeapUsedUptoCardSaid : Prop := Claim7.holds Tryd.pinned (.plain (OpenSpec.upto heapUsedSpec)) heapUsedUptoCard

/-- THE SECOND FORM's CARD OF 'ragpickerlaw07.HeapLess'. -/
def heapLessUptoCard : Claim7 := { stood := { row := heapLessUptoRow, standIns := [], harness := (true, "947888f5eb4b7e036dd1b8391888dad539299d39abeefd0863858ea44e539fa6"), looks := false }, kinds := [], alts := [], laidByText := true, laidKinds := [.widerDeep], laidTests := true, laidLooks := .later }
def HeapLessUptoCardSaid : Prop := Claim7.holds Tryd.pinned (.plain (OpenSpec.upto heapLessSpec)) heapLessUptoCard

/-- THE SECOND FORM's CARD OF 'ragpickerlaw10.CardsKeep'. -/
def cardsKeepUptoCard : Claim7 := { stood := { row := cardsKeepUptoRow, standIns := [], harness := (true, "947888f5eb4b7e036dd1b8391888dad539299d39abeefd0863858ea44e539fa6"), looks := false }, kinds := [], alts := [], laidByText := true, laidKinds := [.widerDeep], laidTests := true, laidLooks := .later }
def CardsKeepUptoCardSaid : Prop := Claim7.holds Tryd.pinned (.plain (OpenSpec.upto cardsKeepSpec)) cardsKeepUptoCard

/-- THE SECOND FORM's CARD OF 'ragpickerlaw12.RegsObject'. -/
def regsObjectUptoCard : Claim7 := { stood := { row := regsObjectUptoRow, standIns := [], harness := (true, "947888f5eb4b7e036dd1b8391888dad539299d39abeefd0863858ea44e539fa6"), looks := false }, kinds := [], alts := [], laidByText := true, laidKinds := [.widerDeep], laidTests := true, laidLooks := .later }
def RegsObjectUptoCardSaid : Prop := Claim7.holds Tryd.pinned (.plain (OpenSpec.upto regsObjectSpec)) regsObjectUptoCard

/-- THE SECOND FORM's CARD OF 'ragpickerlaw10.CardsWords'. -/
def cardsWordsUptoCard : Claim7 := { stood := { row := cardsWordsUptoRow, standIns := [], harness := (true, "947888f5eb4b7e036dd1b8391888dad539299d39abeefd0863858ea44e539fa6"), looks := false }, kinds := [], alts := [], laidByText := true, laidKinds := [.widerDeep], laidTests := true, laidLooks := .later }
def CardsWordsUptoCardSaid : Prop := Claim7.holds Tryd.pinned (.plain (OpenSpec.upto cardsWordsSpec)) cardsWordsUptoCard

/-- THE SECOND FORM's CARD OF 'ragpickerlaw10.CardsNone'. -/
def cardsNoneUptoCard : Claim7 := { stood := { row := cardsNoneUptoRow, standIns := [], harness := (true, "947888f5eb4b7e036dd1b8391888dad539299d39abeefd0863858ea44e539fa6"), looks := false }, kinds := [], alts := [], laidByText := true, laidKinds := [.widerDeep], laidTests := true, laidLooks := .later }
def CardsNoneUptoCardSaid : Prop := Claim7.holds Tryd.pinned (.plain (OpenSpec.upto cardsNoneSpec)) cardsNoneUptoCard

/-- THE SECOND FORM's CARD OF 'ragpickerlaw07.HeapKeeps'. -/
def heapKeepsUptoCard : Claim7 := { stood := { row := heapKeepsUptoRow, standIns := [], harness := (true, "947888f5eb4b7e036dd1b8391888dad539299d39abeefd0863858ea44e539fa6"), looks := false }, kinds := [], alts := [], laidByText := true, laidKinds := [.widerDeep], laidTests := true, laidLooks := .later }
def HeapKeepsUptoCardSaid : Prop := Claim7.holds Tryd.pinned (.plain (OpenSpec.upto heapKeepsSpec)) heapKeepsUptoCard

/-- THE SECOND FORM's CARD OF 'ragpickerlaw10.CardsAll'. -/
def cardsAllUptoCard : Claim7 := { stood := { row := cardsAllUptoRow, standIns := [], harness := (true, "947888f5eb4b7e036dd1b8391888dad539299d39abeefd0863858ea44e539fa6"), looks := false }, kinds := [], alts := [], laidByText := true, laidKinds := [.widerDeep], laidTests := true, laidLooks := .later }
def CardsAllUptoCardSaid : Prop := Claim7.holds Tryd.pinned (.plain (OpenSpec.upto cardsAllSpec)) cardsAllUptoCard

/-- THE SECOND FORM's CARD OF 'ragpickerlaw11.ShadeKeeps'. -/
def shadeKeepsUptoCard : Claim7 := { stood := { row := shadeKeepsUptoRow, standIns := [], harness := (true, "947888f5eb4b7e036dd1b8391888dad539299d39abeefd0863858ea44e539fa6"), looks := false }, kinds := [], alts := [], laidByText := true, laidKinds := [.widerDeep], laidTests := true, laidLooks := .later }
def ShadeKeepsUptoCardSaid : Prop := Claim7.holds Tryd.pinned (.plain (OpenSpec.upto shadeKeepsSpec)) shadeKeepsUptoCard

/-- THE SECOND FORM's CARD OF 'ragpickerlaw11.ShadeAll'. -/
def shadeAllUptoCard : Claim7 := { stood := { row := shadeAllUptoRow, standIns := [], harness := (true, "947888f5eb4b7e036dd1b8391888dad539299d39abeefd0863858ea44e539fa6"), looks := false }, kinds := [], alts := [], laidByText := true, laidKinds := [.widerDeep], laidTests := true, laidLooks := .later }
def ShadeAllUptoCardSaid : Prop := Claim7.holds Tryd.pinned (.plain (OpenSpec.upto shadeAllSpec)) shadeAllUptoCard

/-- THE SECOND FORM's CARD OF 'ragpickerlaw11.ShadeEpoch'. -/
def shadeEpochUptoCard : Claim7 := { stood := { row := shadeEpochUptoRow, standIns := [], harness := (true, "947888f5eb4b7e036dd1b8391888dad539299d39abeefd0863858ea44e539fa6"), looks := false }, kinds := [], alts := [], laidByText := true, laidKinds := [.widerDeep], laidTests := true, laidLooks := .later }
def ShadeEpochUptoCardSaid : Prop := Claim7.holds Tryd.pinned (.plain (OpenSpec.upto shadeEpochSpec)) shadeEpochUptoCard

/-- THE SECOND FORM's CARD OF 'ragpickerlaw11.ShadeNone'. -/
def shadeNoneUptoCard : Claim7 := { stood := { row := shadeNoneUptoRow, standIns := [], harness := (true, "947888f5eb4b7e036dd1b8391888dad539299d39abeefd0863858ea44e539fa6"), looks := false }, kinds := [], alts := [], laidByText := true, laidKinds := [.widerDeep], laidTests := true, laidLooks := .later }
def ShadeNoneUptoCardSaid : Prop := Claim7.holds Tryd.pinned (.plain (OpenSpec.upto shadeNoneSpec)) shadeNoneUptoCard
end Rows
end Go.Proofs.YtkalcaokmadpjaaDoor
