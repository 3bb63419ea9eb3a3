/-
  NARROWER THAN 'FOR EVERY INPUT', by the rows' own cells (each row's printed sentence says how): ArticleBodies: laid · ArticleParses: laid · ArticlePrints: laid · ArticleQuotes: laid · ArticleStrips: laid · ArticleToLine: laid · ArticleFromLine: laid · ArticleLimits: laid.
  DERIVED. THE GIVEN ROWS OF THIS SEAT. 8 by the template 'for every input the law returns true; each argument reads behind the call as it read before'; 0 by the template 'total and deterministic' (their statements: YteecmcphbehfgaaGreatDoorTotals.lean).
  GIVEN WITH THE SEED: the statements are not yours to turn. If you find one false, say at which input.
  Laid BY PROGRAM, IN A SANDBOX (cutbox-rows.mjs): the forced cells as the released guide's own fill.sh prints them over the translation b579da96737391c8… (all of the seat's roots in one cut). By AI agents, Wed Nov 11 2026. No macro, syntax, notation, axiom, sorry.
-/
import Derived.Test.YteecmcphbehfgaaGreatDoorChecked
import GoSem.PinnedTables
import GoSem.Claim
import GoSem.ClaimJoined
import GoSem.ClaimMapViews
import Derived.JoinedTies
import Derived.KernelRfl
namespace Go.Proofs.YteecmcphbehfgaaGreatDoor
/- THE CELL 'sum', in the pinned program and in every row, IS THE sha256 OF THE DUMP (.gsa) THAT YteecmcphbehfgaaGreatDoorProg.lean LOADS. Nothing in Lean hashes anything: it is a label: what it is worth is what the hold of that sum in a sandbox is worth. -/
noncomputable def Tryz.pinned : Pinned := { name := "yteecmcphbehfgaagreatdoor", sum := "b579da96737391c819119f27564ed43e98ccfe885388d8704db500a94b3a2353", checked := Tryz.checked }
namespace Rows
def none {H : Type} : Left H := { results := [], args := [] }

/- WHAT THE LISTED PACKAGE-LEVEL VARIABLES READ AS WHEN THE CALL BEGINS. Each datum BY PROGRAM (the guide's laid-datum.mjs) off the statement by which the dump's own 'gosem.cut.vars' lays the variable. In a bare row this is a premise. The card (YteecmcphbehfgaaGreatDoorCards.lean) ties it to the program's text. -/
def laid_unicode_utf8_acceptRanges {H : Type} : DataW H := .agg [.agg [.lit (.int .u8 128), .lit (.int .u8 191)], .agg [.lit (.int .u8 160), .lit (.int .u8 191)], .agg [.lit (.int .u8 128), .lit (.int .u8 159)], .agg [.lit (.int .u8 144), .lit (.int .u8 191)], .agg [.lit (.int .u8 128), .lit (.int .u8 143)], .agg [.lit (.int .u8 0), .lit (.int .u8 0)], .agg [.lit (.int .u8 0), .lit (.int .u8 0)], .agg [.lit (.int .u8 0), .lit (.int .u8 0)], .agg [.lit (.int .u8 0), .lit (.int .u8 0)], .agg [.lit (.int .u8 0), .lit (.int .u8 0)], .agg [.lit (.int .u8 0), .lit (.int .u8 0)], .agg [.lit (.int .u8 0), .lit (.int .u8 0)], .agg [.lit (.int .u8 0), .lit (.int .u8 0)], .agg [.lit (.int .u8 0), .lit (.int .u8 0)], .agg [.lit (.int .u8 0), .lit (.int .u8 0)], .agg [.lit (.int .u8 0), .lit (.int .u8 0)]]
/-- One of Go's own tables, pinned by name: the form's constant. -/
def laid_unicode_utf8_first : DataW Unit := Go.Pinned.utf8First

/-- 'bulletinlaw15.ArticleBodies': WHATEVER THE INPUT: true; the input reads as it did. -/
def articleBodiesSpec : ChangeSpec := { name := "articleBodies", fn := fun _ => fun
  | [d] => { results := [.lit (.bool true)], args := [d] }
  | _ => none }
def articleBodiesRow : OpenClaim := { program := "yteecmcphbehfgaagreatdoor", sum := "b579da96737391c819119f27564ed43e98ccfe885388d8704db500a94b3a2353", func := "bulletin/bulletinlaw15.ArticleBodies", spec := "articleBodies", inPlace := ["internal/bytealg.IndexByteString", "internal/bytealg.IndexString", "internal/abi.NoEscape", "internal/bytealg.MakeNoZero"], unfollowed := true, recurses := true, named := ["internal/bytealg.MaxLen", "unicode/utf8.first", "unicode/utf8.acceptRanges"], apart := false, laid := [("unicode/utf8.acceptRanges", laid_unicode_utf8_acceptRanges), ("unicode/utf8.first", laid_unicode_utf8_first)] }
def ArticleBodiesSaid : Prop := articleBodiesRow.holds Tryz.pinned (OpenSpec.ofChange articleBodiesSpec)

/-- ITS FALSE NEIGHBOUR: 'it returns false'. Refute it at one input. -/
def articleBodiesWrong : ChangeSpec := { name := "articleBodies", fn := fun _ => fun
  | [d] => { results := [.lit (.bool false)], args := [d] }
  | _ => none }
def ArticleBodiesWrongFalsely : Prop := articleBodiesRow.holds Tryz.pinned (OpenSpec.ofChange articleBodiesWrong)

/-- 'bulletinlaw15.ArticleParses': WHATEVER THE INPUT: true; the input reads as it did. -/
def articleParsesSpec : ChangeSpec := { name := "articleParses", fn := fun _ => fun
  | [d] => { results := [.lit (.bool true)], args := [d] }
  | _ => none }
def articleParsesRow : OpenClaim := { program := "yteecmcphbehfgaagreatdoor", sum := "b579da96737391c819119f27564ed43e98ccfe885388d8704db500a94b3a2353", func := "bulletin/bulletinlaw15.ArticleParses", spec := "articleParses", inPlace := ["internal/bytealg.IndexByteString", "internal/bytealg.IndexString", "internal/abi.NoEscape", "internal/bytealg.MakeNoZero"], unfollowed := true, recurses := true, named := ["internal/bytealg.MaxLen", "unicode/utf8.first", "unicode/utf8.acceptRanges"], apart := false, laid := [("unicode/utf8.acceptRanges", laid_unicode_utf8_acceptRanges), ("unicode/utf8.first", laid_unicode_utf8_first)] }
def ArticleParsesSaid : Prop := articleParsesRow.holds Tryz.pinned (OpenSpec.ofChange articleParsesSpec)

/-- ITS FALSE NEIGHBOUR: 'it returns false'. Refute it at one input. -/
def articleParsesWrong : ChangeSpec := { name := "articleParses", fn := fun _ => fun
  | [d] => { results := [.lit (.bool false)], args := [d] }
  | _ => none }
def ArticleParsesWrongFalsely : Prop := articleParsesRow.holds Tryz.pinned (OpenSpec.ofChange articleParsesWrong)

/-- 'bulletinlaw15.ArticlePrints': WHATEVER THE INPUT: true; the input reads as it did. -/
def articlePrintsSpec : ChangeSpec := { name := "articlePrints", fn := fun _ => fun
  | [d] => { results := [.lit (.bool true)], args := [d] }
  | _ => none }
def articlePrintsRow : OpenClaim := { program := "yteecmcphbehfgaagreatdoor", sum := "b579da96737391c819119f27564ed43e98ccfe885388d8704db500a94b3a2353", func := "bulletin/bulletinlaw15.ArticlePrints", spec := "articlePrints", inPlace := ["internal/abi.NoEscape", "internal/bytealg.MakeNoZero", "internal/bytealg.IndexByteString", "internal/bytealg.IndexString"], unfollowed := true, recurses := true, named := ["internal/bytealg.MaxLen", "unicode/utf8.first", "unicode/utf8.acceptRanges"], apart := false, laid := [("unicode/utf8.acceptRanges", laid_unicode_utf8_acceptRanges), ("unicode/utf8.first", laid_unicode_utf8_first)] }
def ArticlePrintsSaid : Prop := articlePrintsRow.holds Tryz.pinned (OpenSpec.ofChange articlePrintsSpec)

/-- ITS FALSE NEIGHBOUR: 'it returns false'. Refute it at one input. -/
def articlePrintsWrong : ChangeSpec := { name := "articlePrints", fn := fun _ => fun
  | [d] => { results := [.lit (.bool false)], args := [d] }
  | _ => none }
def ArticlePrintsWrongFalsely : Prop := articlePrintsRow.holds Tryz.pinned (OpenSpec.ofChange articlePrintsWrong)

/-- 'bulletinlaw15.ArticleQuotes': WHATEVER THE INPUT: true; the input reads as it did. -/
def articleQuotesSpec : ChangeSpec := { name := "articleQuotes", fn := fun _ => fun
  | [d] => { results := [.lit (.bool true)], args := [d] }
  | _ => none }
def articleQuotesRow : OpenClaim := { program := "yteecmcphbehfgaagreatdoor", sum := "b579da96737391c819119f27564ed43e98ccfe885388d8704db500a94b3a2353", func := "bulletin/bulletinlaw15.ArticleQuotes", spec := "articleQuotes", inPlace := ["internal/bytealg.IndexByteString", "internal/bytealg.IndexString", "internal/abi.NoEscape", "internal/bytealg.MakeNoZero"], unfollowed := true, recurses := true, named := ["internal/bytealg.MaxLen", "unicode/utf8.first", "unicode/utf8.acceptRanges"], apart := false, laid := [("unicode/utf8.acceptRanges", laid_unicode_utf8_acceptRanges), ("unicode/utf8.first", laid_unicode_utf8_first)] }
def ArticleQuotesSaid : Prop := articleQuotesRow.holds Tryz.pinned (OpenSpec.ofChange articleQuotesSpec)

/-- ITS FALSE NEIGHBOUR: 'it returns false'. Refute it at one input. -/
def articleQuotesWrong : ChangeSpec := { name := "articleQuotes", fn := fun _ => fun
  | [d] => { results := [.lit (.bool false)], args := [d] }
  | _ => none }
def ArticleQuotesWrongFalsely : Prop := articleQuotesRow.holds Tryz.pinned (OpenSpec.ofChange articleQuotesWrong)

/-- 'bulletinlaw15.ArticleStrips': WHATEVER THE INPUT: true; the input reads as it did. -/
def articleStripsSpec : ChangeSpec := { name := "articleStrips", fn := fun _ => fun
  | [d1, d2] => { results := [.lit (.bool true)], args := [d1, d2] }
  | _ => none }
def articleStripsRow : OpenClaim := { program := "yteecmcphbehfgaagreatdoor", sum := "b579da96737391c819119f27564ed43e98ccfe885388d8704db500a94b3a2353", func := "bulletin/bulletinlaw15.ArticleStrips", spec := "articleStrips", inPlace := ["internal/bytealg.IndexByteString", "internal/bytealg.IndexString", "internal/abi.NoEscape", "internal/bytealg.MakeNoZero"], unfollowed := true, recurses := true, named := ["internal/bytealg.MaxLen", "unicode/utf8.first", "unicode/utf8.acceptRanges"], apart := false, laid := [("unicode/utf8.acceptRanges", laid_unicode_utf8_acceptRanges), ("unicode/utf8.first", laid_unicode_utf8_first)] }
def ArticleStripsSaid : Prop := articleStripsRow.holds Tryz.pinned (OpenSpec.ofChange articleStripsSpec)

/-- ITS FALSE NEIGHBOUR: 'it returns false'. Refute it at one input. -/
def articleStripsWrong : ChangeSpec := { name := "articleStrips", fn := fun _ => fun
  | [d1, d2] => { results := [.lit (.bool false)], args := [d1, d2] }
  | _ => none }
def ArticleStripsWrongFalsely : Prop := articleStripsRow.holds Tryz.pinned (OpenSpec.ofChange articleStripsWrong)

/-- 'bulletinlaw15.ArticleToLine': WHATEVER THE INPUT: true; the input reads as it did. -/
def articleToLineSpec : ChangeSpec := { name := "articleToLine", fn := fun _ => fun
  | [d] => { results := [.lit (.bool true)], args := [d] }
  | _ => none }
def articleToLineRow : OpenClaim := { program := "yteecmcphbehfgaagreatdoor", sum := "b579da96737391c819119f27564ed43e98ccfe885388d8704db500a94b3a2353", func := "bulletin/bulletinlaw15.ArticleToLine", spec := "articleToLine", inPlace := ["internal/bytealg.IndexByteString", "internal/bytealg.IndexString", "internal/bytealg.CountString", "internal/abi.NoEscape", "internal/bytealg.MakeNoZero"], unfollowed := true, recurses := true, named := ["internal/bytealg.MaxLen", "unicode/utf8.first", "unicode/utf8.acceptRanges"], apart := false, laid := [("unicode/utf8.acceptRanges", laid_unicode_utf8_acceptRanges), ("unicode/utf8.first", laid_unicode_utf8_first)] }
def ArticleToLineSaid : Prop := articleToLineRow.holds Tryz.pinned (OpenSpec.ofChange articleToLineSpec)

/-- ITS FALSE NEIGHBOUR: 'it returns false'. Refute it at one input. -/
def articleToLineWrong : ChangeSpec := { name := "articleToLine", fn := fun _ => fun
  | [d] => { results := [.lit (.bool false)], args := [d] }
  | _ => none }
def ArticleToLineWrongFalsely : Prop := articleToLineRow.holds Tryz.pinned (OpenSpec.ofChange articleToLineWrong)

/-- 'bulletinlaw15.ArticleFromLine': WHATEVER THE INPUT: true; the input reads as it did. -/
def articleFromLineSpec : ChangeSpec := { name := "articleFromLine", fn := fun _ => fun
  | [d] => { results := [.lit (.bool true)], args := [d] }
  | _ => none }
def articleFromLineRow : OpenClaim := { program := "yteecmcphbehfgaagreatdoor", sum := "b579da96737391c819119f27564ed43e98ccfe885388d8704db500a94b3a2353", func := "bulletin/bulletinlaw15.ArticleFromLine", spec := "articleFromLine", inPlace := ["internal/bytealg.CountString", "internal/bytealg.IndexByteString", "internal/bytealg.IndexString", "internal/abi.NoEscape", "internal/bytealg.MakeNoZero"], unfollowed := true, recurses := true, named := ["internal/bytealg.MaxLen", "unicode/utf8.first", "unicode/utf8.acceptRanges"], apart := false, laid := [("unicode/utf8.acceptRanges", laid_unicode_utf8_acceptRanges), ("unicode/utf8.first", laid_unicode_utf8_first)] }
def ArticleFromLineSaid : Prop := articleFromLineRow.holds Tryz.pinned (OpenSpec.ofChange articleFromLineSpec)

/-- ITS FALSE NEIGHBOUR: 'it returns false'. Refute it at one input. -/
def articleFromLineWrong : ChangeSpec := { name := "articleFromLine", fn := fun _ => fun
  | [d] => { results := [.lit (.bool false)], args := [d] }
  | _ => none }
def ArticleFromLineWrongFalsely : Prop := articleFromLineRow.holds Tryz.pinned (OpenSpec.ofChange articleFromLineWrong)

/-- 'bulletinlaw15.ArticleLimits': WHATEVER THE INPUT: true; the input reads as it did. -/
def articleLimitsSpec : ChangeSpec := { name := "articleLimits", fn := fun _ => fun
  | [d1, d2] => { results := [.lit (.bool true)], args := [d1, d2] }
  | _ => none }
def articleLimitsRow : OpenClaim := { program := "yteecmcphbehfgaagreatdoor", sum := "b579da96737391c819119f27564ed43e98ccfe885388d8704db500a94b3a2353", func := "bulletin/bulletinlaw15.ArticleLimits", spec := "articleLimits", inPlace := ["internal/abi.NoEscape", "internal/bytealg.MakeNoZero", "internal/bytealg.IndexByteString", "internal/bytealg.IndexString"], unfollowed := true, recurses := true, named := ["internal/bytealg.MaxLen", "unicode/utf8.first", "unicode/utf8.acceptRanges"], apart := false, laid := [("unicode/utf8.acceptRanges", laid_unicode_utf8_acceptRanges), ("unicode/utf8.first", laid_unicode_utf8_first)] }
def ArticleLimitsSaid : Prop := articleLimitsRow.holds Tryz.pinned (OpenSpec.ofChange articleLimitsSpec)

/-- ITS FALSE NEIGHBOUR: 'it returns false'. Refute it at one input. -/
def articleLimitsWrong : ChangeSpec := { name := "articleLimits", fn := fun _ => fun
  | [d1, d2] => { results := [.lit (.bool false)], args := [d1, d2] }
  | _ => none }
def ArticleLimitsWrongFalsely : Prop := articleLimitsRow.holds Tryz.pinned (OpenSpec.ofChange articleLimitsWrong)

/- THE SECOND FORM. 'bulk': how many values and letters a reading holds, each counted each time it is reached (what is shared counts as often as it is met; a slice's spare places count too). A statement '..UptoSaid' is the law's where the arguments, and the package variables that the reading takes, are together of bulk at most 1048576: NARROWER than '..Said'. Prove '..Said' where nothing that the law and all that it calls make is longer than what came in: it says more and counts as full. Else prove '..UptoSaid'. A law counts once. -/
mutual
def uptoBulk {H : Type} : DataW H → Nat
  | .lit (.string bytes) => bytes.length + 1
  | .lit _ => 1
  | .nil => 1
  | .ptr d => uptoBulk d + 1
  | .slice elems spare => uptoBulkAll elems + uptoBulkAll spare + 1
  | .agg parts => uptoBulkAll parts + 1
  | .iface _ d => uptoBulk d + 1
  | .map entries => uptoBulkEntries entries + 1
  | .held _ => 1
def uptoBulkAll {H : Type} : List (DataW H) → Nat
  | [] => 0
  | d :: r => uptoBulk d + uptoBulkAll r
def uptoBulkEntries {H : Type} : List (Lit × DataW H) → Nat
  | [] => 0
  | x :: r => uptoBulkEntry x + uptoBulkEntries r
def uptoBulkEntry {H : Type} : Lit × DataW H → Nat
  | (.string bytes, d) => bytes.length + uptoBulk d + 1
  | (_, d) => uptoBulk d + 1
 end
def uptoSmall : (H : Type) → List (DataW H) → Bool := fun _ ds => decide (uptoBulkAll ds ≤ 1048576)
def OpenSpec.upto (s : _root_.Go.ChangeSpec) : _root_.Go.OpenSpec := { _root_.Go.OpenSpec.ofChange s with cond := some uptoSmall }

/-- 'bulletinlaw15.ArticleBodies', WHERE WHAT IT READS IS OF BULK AT MOST 1048576: true; the input reads as it did. -/
def articleBodiesUptoRow : OpenClaim := { program := "yteecmcphbehfgaagreatdoor", sum := "b579da96737391c819119f27564ed43e98ccfe885388d8704db500a94b3a2353", func := "bulletin/bulletinlaw15.ArticleBodies", spec := "articleBodies", inPlace := ["internal/bytealg.IndexByteString", "internal/bytealg.IndexString", "internal/abi.NoEscape", "internal/bytealg.MakeNoZero"], unfollowed := true, recurses := true, named := ["internal/bytealg.MaxLen", "unicode/utf8.first", "unicode/utf8.acceptRanges"], apart := false, laid := [("unicode/utf8.acceptRanges", laid_unicode_utf8_acceptRanges), ("unicode/utf8.first", laid_unicode_utf8_first)], narrowed := true }
def ArticleBodiesUptoSaid : Prop := articleBodiesUptoRow.holds Tryz.pinned (OpenSpec.upto articleBodiesSpec)

/-- 'bulletinlaw15.ArticleParses', WHERE WHAT IT READS IS OF BULK AT MOST 1048576: true; the input reads as it did. -/
def articleParsesUptoRow : OpenClaim := { program := "yteecmcphbehfgaagreatdoor", sum := "b579da96737391c819119f27564ed43e98ccfe885388d8704db500a94b3a2353", func := "bulletin/bulletinlaw15.ArticleParses", spec := "articleParses", inPlace := ["internal/bytealg.IndexByteString", "internal/bytealg.IndexString", "internal/abi.NoEscape", "internal/bytealg.MakeNoZero"], unfollowed := true, recurses := true, named := ["internal/bytealg.MaxLen", "unicode/utf8.first", "unicode/utf8.acceptRanges"], apart := false, laid := [("unicode/utf8.acceptRanges", laid_unicode_utf8_acceptRanges), ("unicode/utf8.first", laid_unicode_utf8_first)], narrowed := true }
def ArticleParsesUptoSaid : Prop := articleParsesUptoRow.holds Tryz.pinned (OpenSpec.upto articleParsesSpec)

/-- 'bulletinlaw15.ArticlePrints', WHERE WHAT IT READS IS OF BULK AT MOST 1048576: true; the input reads as it did. -/
def articlePrintsUptoRow : OpenClaim := { program := "yteecmcphbehfgaagreatdoor", sum := "b579da96737391c819119f27564ed43e98ccfe885388d8704db500a94b3a2353", func := "bulletin/bulletinlaw15.ArticlePrints", spec := "articlePrints", inPlace := ["internal/abi.NoEscape", "internal/bytealg.MakeNoZero", "internal/bytealg.IndexByteString", "internal/bytealg.IndexString"], unfollowed := true, recurses := true, named := ["internal/bytealg.MaxLen", "unicode/utf8.first", "unicode/utf8.acceptRanges"], apart := false, laid := [("unicode/utf8.acceptRanges", laid_unicode_utf8_acceptRanges), ("unicode/utf8.first", laid_unicode_utf8_first)], narrowed := true }
def ArticlePrintsUptoSaid : Prop := articlePrintsUptoRow.holds Tryz.pinned (OpenSpec.upto articlePrintsSpec)

/-- 'bulletinlaw15.ArticleQuotes', WHERE WHAT IT READS IS OF BULK AT MOST 1048576: true; the input reads as it did. -/
def articleQuotesUptoRow : OpenClaim := { program := "yteecmcphbehfgaagreatdoor", sum := "b579da96737391c819119f27564ed43e98ccfe885388d8704db500a94b3a2353", func := "bulletin/bulletinlaw15.ArticleQuotes", spec := "articleQuotes", inPlace := ["internal/bytealg.IndexByteString", "internal/bytealg.IndexString", "internal/abi.NoEscape", "internal/bytealg.MakeNoZero"], unfollowed := true, recurses := true, named := ["internal/bytealg.MaxLen", "unicode/utf8.first", "unicode/utf8.acceptRanges"], apart := false, laid := [("unicode/utf8.acceptRanges", laid_unicode_utf8_acceptRanges), ("unicode/utf8.first", laid_unicode_utf8_first)], narrowed := true }
def ArticleQuotesUptoSaid : Prop := articleQuotesUptoRow.holds Tryz.pinned (OpenSpec.upto articleQuotesSpec)

/-- 'bulletinlaw15.ArticleStrips', WHERE WHAT IT READS IS OF BULK AT MOST 1048576: true; the input reads as it did. -/
def articleStripsUptoRow : OpenClaim := { program := "yteecmcphbehfgaagreatdoor", sum := "b579da96737391c819119f27564ed43e98ccfe885388d8704db500a94b3a2353", func := "bulletin/bulletinlaw15.ArticleStrips", spec := "articleStrips", inPlace := ["internal/bytealg.IndexByteString", "internal/bytealg.IndexString", "internal/abi.NoEscape", "internal/bytealg.MakeNoZero"], unfollowed := true, recurses := true, named := ["internal/bytealg.MaxLen", "unicode/utf8.first", "unicode/utf8.acceptRanges"], apart := false, laid := [("unicode/utf8.acceptRanges", laid_unicode_utf8_acceptRanges), ("unicode/utf8.first", laid_unicode_utf8_first)], narrowed := true }
def ArticleStripsUptoSaid : Prop := articleStripsUptoRow.holds Tryz.pinned (OpenSpec.upto articleStripsSpec)

/-- 'bulletinlaw15.ArticleToLine', WHERE WHAT IT READS IS OF BULK AT MOST 1048576: true; the input reads as it did. -/
def articleToLineUptoRow : OpenClaim := { program := "yteecmcphbehfgaagreatdoor", sum := "b579da96737391c819119f27564ed43e98ccfe885388d8704db500a94b3a2353", func := "bulletin/bulletinlaw15.ArticleToLine", spec := "articleToLine", inPlace := ["internal/bytealg.IndexByteString", "internal/bytealg.IndexString", "internal/bytealg.CountString", "internal/abi.NoEscape", "internal/bytealg.MakeNoZero"], unfollowed := true, recurses := true, named := ["internal/bytealg.MaxLen", "unicode/utf8.first", "unicode/utf8.acceptRanges"], apart := false, laid := [("unicode/utf8.acceptRanges", laid_unicode_utf8_acceptRanges), ("unicode/utf8.first", laid_unicode_utf8_first)], narrowed := true }
def ArticleToLineUptoSaid : Prop := articleToLineUptoRow.holds Tryz.pinned (OpenSpec.upto articleToLineSpec)

/-- 'bulletinlaw15.ArticleFromLine', WHERE WHAT IT READS IS OF BULK AT MOST 1048576: true; the input reads as it did. -/
def articleFromLineUptoRow : OpenClaim := { program := "yteecmcphbehfgaagreatdoor", sum := "b579da96737391c819119f27564ed43e98ccfe885388d8704db500a94b3a2353", func := "bulletin/bulletinlaw15.ArticleFromLine", spec := "articleFromLine", inPlace := ["internal/bytealg.CountString", "internal/bytealg.IndexByteString", "internal/bytealg.IndexString", "internal/abi.NoEscape", "internal/bytealg.MakeNoZero"], unfollowed := true, recurses := true, named := ["internal/bytealg.MaxLen", "unicode/utf8.first", "unicode/utf8.acceptRanges"], apart := false, laid := [("unicode/utf8.acceptRanges", laid_unicode_utf8_acceptRanges), ("unicode/utf8.first", laid_unicode_utf8_first)], narrowed := true }
def ArticleFromLineUptoSaid : Prop := articleFromLineUptoRow.holds Tryz.pinned (OpenSpec.upto articleFromLineSpec)

/-- 'bulletinlaw15.ArticleLimits', WHERE WHAT IT READS IS OF BULK AT MOST 1048576: true; the input reads as it did. -/
def articleLimitsUptoRow : OpenClaim := { program := "yteecmcphbehfgaagreatdoor", sum := "b579da96737391c819119f27564ed43e98ccfe885388d8704db500a94b3a2353", func := "bulletin/bulletinlaw15.ArticleLimits", spec := "articleLimits", inPlace := ["internal/abi.NoEscape", "internal/bytealg.MakeNoZero", "internal/bytealg.IndexByteString", "internal/bytealg.IndexString"], unfollowed := true, recurses := true, named := ["internal/bytealg.MaxLen", "unicode/utf8.first", "unicode/utf8.acceptRanges"], apart := false, laid := [("unicode/utf8.acceptRanges", laid_unicode_utf8_acceptRanges), ("unicode/utf8.first", laid_unicode_utf8_first)], narrowed := true }
def ArticleLimitsUptoSaid : Prop := articleLimitsUptoRow.holds Tryz.pinned (OpenSpec.upto articleLimitsSpec)

end Rows
end Go.Proofs.YteecmcphbehfgaaGreatDoor
