/-
  DERIVED. GIVEN WITH THE SEED: THE CARDS: each row of YtdacbgdinmaemaaGreatDoorRows.lean that lists a variable, with what it lists TIED to the program's text (the seventh form; the later family's looks); each row that meets fmt, with fmt's text TOLD by the authors' own Lean function (tested against real Go, not proved from fmt's source: count such statements apart). THE CARD IS WHAT COUNTS. Prove the row's statement (the work); the ties are given (YtdacbgdinmaemaaGreatDoorTie.lean); close each card by the builder's one call (the guide's Derived/Test/ToyasCard.lean, 'card_holds'). Laid BY PROGRAM, IN A SANDBOX (cutbox-door.mjs). By AI agents, Wed Nov 11 2026. No macro, syntax, notation, axiom, sorry.
-/
import Derived.Test.YtdacbgdinmaemaaGreatDoorRows
import GoSem.ClaimSeven
namespace Go.Proofs.YtdacbgdinmaemaaGreatDoor
namespace Rows

/-- THE TIED CARD OF 'vizardlaw14.CacheTokens'. -/
def cacheTokensCard : Claim7 := { stood := { row := cacheTokensRow, standIns := [], harness := (true, "99105c79e5c760b3e64ab6846b91849be2d6743ffc2f9dbeacfa37df96d719f6"), looks := true }, kinds := [], alts := [], laidByText := true, laidKinds := [.data], laidTests := true, laidLooks := .later }
def CacheTokensCardSaid : Prop := Claim7.holds Tryz.pinned (.plain (OpenSpec.ofChange cacheTokensSpec)) cacheTokensCard

/-- THE TIED CARD OF 'vizardlaw14.CacheFinds'. -/
def cacheFindsCard : Claim7 := { stood := { row := cacheFindsRow, standIns := [], harness := (true, "99105c79e5c760b3e64ab6846b91849be2d6743ffc2f9dbeacfa37df96d719f6"), looks := true }, kinds := [], alts := [], laidByText := true, laidKinds := [.data], laidTests := true, laidLooks := .later }
def CacheFindsCardSaid : Prop := Claim7.holds Tryz.pinned (.plain (OpenSpec.ofChange cacheFindsSpec)) cacheFindsCard

/-- THE TIED CARD OF 'vizardlaw14.CacheFirst'. -/
def cacheFirstCard : Claim7 := { stood := { row := cacheFirstRow, standIns := [], harness := (true, "99105c79e5c760b3e64ab6846b91849be2d6743ffc2f9dbeacfa37df96d719f6"), looks := true }, kinds := [], alts := [], laidByText := true, laidKinds := [.data], laidTests := true, laidLooks := .later }
def CacheFirstCardSaid : Prop := Claim7.holds Tryz.pinned (.plain (OpenSpec.ofChange cacheFirstSpec)) cacheFirstCard

/-- THE TIED CARD OF 'vizardlaw14.CacheSweeps'. -/
def cacheSweepsCard : Claim7 := { stood := { row := cacheSweepsRow, standIns := [], harness := (true, "99105c79e5c760b3e64ab6846b91849be2d6743ffc2f9dbeacfa37df96d719f6"), looks := true }, kinds := [], alts := [], laidByText := true, laidKinds := [.data], laidTests := true, laidLooks := .later }
def CacheSweepsCardSaid : Prop := Claim7.holds Tryz.pinned (.plain (OpenSpec.ofChange cacheSweepsSpec)) cacheSweepsCard

/-- THE TIED CARD OF 'vizardlaw15.LinkAsks'. -/
def linkAsksCard : Claim7 := { stood := { row := linkAsksRow, standIns := [], harness := (true, "99105c79e5c760b3e64ab6846b91849be2d6743ffc2f9dbeacfa37df96d719f6"), looks := true }, kinds := [], alts := [], laidByText := true, laidKinds := [.handle], laidTests := true, laidLooks := .later }
def LinkAsksCardSaid : Prop := Claim7.holds Tryz.pinned (.plain (OpenSpec.ofChange linkAsksSpec)) linkAsksCard

/-- THE TIED CARD OF 'vizardlaw15.LinkReady'. -/
def linkReadyCard : Claim7 := { stood := { row := linkReadyRow, standIns := [], harness := (true, "99105c79e5c760b3e64ab6846b91849be2d6743ffc2f9dbeacfa37df96d719f6"), looks := true }, kinds := [], alts := [], laidByText := true, laidKinds := [.handle], laidTests := true, laidLooks := .later }
def LinkReadyCardSaid : Prop := Claim7.holds Tryz.pinned (.plain (OpenSpec.ofChange linkReadySpec)) linkReadyCard

/-- THE TIED CARD OF 'vizardlaw20.TableStays'. -/
def tableStaysCard : Claim7 := { stood := { row := tableStaysRow, standIns := [], harness := (true, "99105c79e5c760b3e64ab6846b91849be2d6743ffc2f9dbeacfa37df96d719f6"), looks := true }, kinds := [], alts := [], laidByText := true, laidKinds := [.data], laidTests := true, laidLooks := .later }
def TableStaysCardSaid : Prop := Claim7.holds Tryz.pinned (.plain (OpenSpec.ofChange tableStaysSpec)) tableStaysCard

/-- THE SECOND FORM's CARD OF 'vizardlaw14.CacheTokens'. -/
def cacheTokensUptoCard : Claim7 := { stood := { row := cacheTokensUptoRow, standIns := [], harness := (true, "99105c79e5c760b3e64ab6846b91849be2d6743ffc2f9dbeacfa37df96d719f6"), looks := true }, kinds := [], alts := [], laidByText := true, laidKinds := [.data], laidTests := true, laidLooks := .later }
def CacheTokensUptoCardSaid : Prop := Claim7.holds Tryz.pinned (.plain (OpenSpec.upto cacheTokensSpec)) cacheTokensUptoCard

/-- THE SECOND FORM's CARD OF 'vizardlaw14.CacheFinds'. -/
def cacheFindsUptoCard : Claim7 := { stood := { row := cacheFindsUptoRow, standIns := [], harness := (true, "99105c79e5c760b3e64ab6846b91849be2d6743ffc2f9dbeacfa37df96d719f6"), looks := true }, kinds := [], alts := [], laidByText := true, laidKinds := [.data], laidTests := true, laidLooks := .later }
def CacheFindsUptoCardSaid : Prop := Claim7.holds Tryz.pinned (.plain (OpenSpec.upto cacheFindsSpec)) cacheFindsUptoCard

/-- THE SECOND FORM's CARD OF 'vizardlaw14.CacheFirst'. -/
def cacheFirstUptoCard : Claim7 := { stood := { row := cacheFirstUptoRow, standIns := [], harness := (true, "99105c79e5c760b3e64ab6846b91849be2d6743ffc2f9dbeacfa37df96d719f6"), looks := true }, kinds := [], alts := [], laidByText := true, laidKinds := [.data], laidTests := true, laidLooks := .later }
def CacheFirstUptoCardSaid : Prop := Claim7.holds Tryz.pinned (.plain (OpenSpec.upto cacheFirstSpec)) cacheFirstUptoCard

/-- THE SECOND FORM's CARD OF 'vizardlaw14.CacheSweeps'. -/
def cacheSweepsUptoCard : Claim7 := { stood := { row := cacheSweepsUptoRow, standIns := [], harness := (true, "99105c79e5c760b3e64ab6846b91849be2d6743ffc2f9dbeacfa37df96d719f6"), looks := true }, kinds := [], alts := [], laidByText := true, laidKinds := [.data], laidTests := true, laidLooks := .later }
def CacheSweepsUptoCardSaid : Prop := Claim7.holds Tryz.pinned (.plain (OpenSpec.upto cacheSweepsSpec)) cacheSweepsUptoCard

/-- THE SECOND FORM's CARD OF 'vizardlaw15.LinkAsks'. -/
def linkAsksUptoCard : Claim7 := { stood := { row := linkAsksUptoRow, standIns := [], harness := (true, "99105c79e5c760b3e64ab6846b91849be2d6743ffc2f9dbeacfa37df96d719f6"), looks := true }, kinds := [], alts := [], laidByText := true, laidKinds := [.handle], laidTests := true, laidLooks := .later }
def LinkAsksUptoCardSaid : Prop := Claim7.holds Tryz.pinned (.plain (OpenSpec.upto linkAsksSpec)) linkAsksUptoCard

/-- THE SECOND FORM's CARD OF 'vizardlaw15.LinkReady'. -/
def linkReadyUptoCard : Claim7 := { stood := { row := linkReadyUptoRow, standIns := [], harness := (true, "99105c79e5c760b3e64ab6846b91849be2d6743ffc2f9dbeacfa37df96d719f6"), looks := true }, kinds := [], alts := [], laidByText := true, laidKinds := [.handle], laidTests := true, laidLooks := .later }
def LinkReadyUptoCardSaid : Prop := Claim7.holds Tryz.pinned (.plain (OpenSpec.upto linkReadySpec)) linkReadyUptoCard

/-- THE SECOND FORM's CARD OF 'vizardlaw20.TableStays'. -/
def tableStaysUptoCard : Claim7 := { stood := { row := tableStaysUptoRow, standIns := [], harness := (true, "99105c79e5c760b3e64ab6846b91849be2d6743ffc2f9dbeacfa37df96d719f6"), looks := true }, kinds := [], alts := [], laidByText := true, laidKinds := [.data], laidTests := true, laidLooks := .later }
def TableStaysUptoCardSaid : Prop := Claim7.holds Tryz.pinned (.plain (OpenSpec.upto tableStaysSpec)) tableStaysUptoCard
end Rows
end Go.Proofs.YtdacbgdinmaemaaGreatDoor
