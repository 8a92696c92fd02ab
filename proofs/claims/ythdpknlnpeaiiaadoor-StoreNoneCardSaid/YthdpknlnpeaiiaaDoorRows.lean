/-
  NARROWER THAN 'FOR EVERY INPUT', by the rows' own cells (each row's printed sentence says how): OutboxChecks: laid · OutboxBooks: laid · OutboxCuts: laid · OutboxOne: laid · StoreNone: laid · OutboxNothing: laid · TicketNames: laid · TicketNothing: laid.
  DERIVED. THE GIVEN ROWS OF THIS SEAT. 8 by the template 'for every input the law returns true; each argument reads behind the call as it read before'; 0 by the template 'total and deterministic' (their statements: YthdpknlnpeaiiaaDoorTotals.lean).
  GIVEN WITH THE SEED: the statements are not yours to turn. If you find one false, say at which input.
  Laid BY PROGRAM, IN A SANDBOX (cutbox-rows.mjs): the forced cells as the released guide's own fill.sh prints them over the translation e5aaab2236ae3484… (all of the seat's roots in one cut). By AI agents, Wed Nov 11 2026. No macro, syntax, notation, axiom, sorry.
-/
import Derived.Test.YthdpknlnpeaiiaaDoorChecked
import GoSem.Claim
import GoSem.ClaimJoined
import GoSem.ClaimMapViews
import Derived.JoinedTies
import Derived.KernelRfl
namespace Go.Proofs.YthdpknlnpeaiiaaDoor
/- THE CELL 'sum', in the pinned program and in every row, IS THE sha256 OF THE DUMP (.gsa) THAT YthdpknlnpeaiiaaDoorProg.lean LOADS. Nothing in Lean hashes anything: it is a label: what it is worth is what the hold of that sum in a sandbox is worth. -/
noncomputable def Tryd.pinned : Pinned := { name := "ythdpknlnpeaiiaadoor", sum := "e5aaab2236ae3484d715be4877c65397c022782d8d51a53ed4b73da40e316793", checked := Tryd.checked }
namespace Rows
def none {H : Type} : Left H := { results := [], args := [] }

/- WHAT THE LISTED PACKAGE-LEVEL VARIABLES READ AS WHEN THE CALL BEGINS. Each datum BY PROGRAM (the guide's laid-datum.mjs) off the statement by which the dump's own 'gosem.cut.vars' lays the variable. In a bare row this is a premise. The card (YthdpknlnpeaiiaaDoorCards.lean) ties it to the program's text. -/
def laid_causeway_causewayref01_constants {H : Type} : DataW H := .agg [.lit (.int .u32 1116352408), .lit (.int .u32 1899447441), .lit (.int .u32 3049323471), .lit (.int .u32 3921009573), .lit (.int .u32 961987163), .lit (.int .u32 1508970993), .lit (.int .u32 2453635748), .lit (.int .u32 2870763221), .lit (.int .u32 3624381080), .lit (.int .u32 310598401), .lit (.int .u32 607225278), .lit (.int .u32 1426881987), .lit (.int .u32 1925078388), .lit (.int .u32 2162078206), .lit (.int .u32 2614888103), .lit (.int .u32 3248222580), .lit (.int .u32 3835390401), .lit (.int .u32 4022224774), .lit (.int .u32 264347078), .lit (.int .u32 604807628), .lit (.int .u32 770255983), .lit (.int .u32 1249150122), .lit (.int .u32 1555081692), .lit (.int .u32 1996064986), .lit (.int .u32 2554220882), .lit (.int .u32 2821834349), .lit (.int .u32 2952996808), .lit (.int .u32 3210313671), .lit (.int .u32 3336571891), .lit (.int .u32 3584528711), .lit (.int .u32 113926993), .lit (.int .u32 338241895), .lit (.int .u32 666307205), .lit (.int .u32 773529912), .lit (.int .u32 1294757372), .lit (.int .u32 1396182291), .lit (.int .u32 1695183700), .lit (.int .u32 1986661051), .lit (.int .u32 2177026350), .lit (.int .u32 2456956037), .lit (.int .u32 2730485921), .lit (.int .u32 2820302411), .lit (.int .u32 3259730800), .lit (.int .u32 3345764771), .lit (.int .u32 3516065817), .lit (.int .u32 3600352804), .lit (.int .u32 4094571909), .lit (.int .u32 275423344), .lit (.int .u32 430227734), .lit (.int .u32 506948616), .lit (.int .u32 659060556), .lit (.int .u32 883997877), .lit (.int .u32 958139571), .lit (.int .u32 1322822218), .lit (.int .u32 1537002063), .lit (.int .u32 1747873779), .lit (.int .u32 1955562222), .lit (.int .u32 2024104815), .lit (.int .u32 2227730452), .lit (.int .u32 2361852424), .lit (.int .u32 2428436474), .lit (.int .u32 2756734187), .lit (.int .u32 3204031479), .lit (.int .u32 3329325298)]
def laid_causeway_causewayref01_beginning {H : Type} : DataW H := .agg [.lit (.int .u32 1779033703), .lit (.int .u32 3144134277), .lit (.int .u32 1013904242), .lit (.int .u32 2773480762), .lit (.int .u32 1359893119), .lit (.int .u32 2600822924), .lit (.int .u32 528734635), .lit (.int .u32 1541459225)]
def laid_causeway_digest_steps {H : Type} : DataW H := .agg [.lit (.int .u32 1116352408), .lit (.int .u32 1899447441), .lit (.int .u32 3049323471), .lit (.int .u32 3921009573), .lit (.int .u32 961987163), .lit (.int .u32 1508970993), .lit (.int .u32 2453635748), .lit (.int .u32 2870763221), .lit (.int .u32 3624381080), .lit (.int .u32 310598401), .lit (.int .u32 607225278), .lit (.int .u32 1426881987), .lit (.int .u32 1925078388), .lit (.int .u32 2162078206), .lit (.int .u32 2614888103), .lit (.int .u32 3248222580), .lit (.int .u32 3835390401), .lit (.int .u32 4022224774), .lit (.int .u32 264347078), .lit (.int .u32 604807628), .lit (.int .u32 770255983), .lit (.int .u32 1249150122), .lit (.int .u32 1555081692), .lit (.int .u32 1996064986), .lit (.int .u32 2554220882), .lit (.int .u32 2821834349), .lit (.int .u32 2952996808), .lit (.int .u32 3210313671), .lit (.int .u32 3336571891), .lit (.int .u32 3584528711), .lit (.int .u32 113926993), .lit (.int .u32 338241895), .lit (.int .u32 666307205), .lit (.int .u32 773529912), .lit (.int .u32 1294757372), .lit (.int .u32 1396182291), .lit (.int .u32 1695183700), .lit (.int .u32 1986661051), .lit (.int .u32 2177026350), .lit (.int .u32 2456956037), .lit (.int .u32 2730485921), .lit (.int .u32 2820302411), .lit (.int .u32 3259730800), .lit (.int .u32 3345764771), .lit (.int .u32 3516065817), .lit (.int .u32 3600352804), .lit (.int .u32 4094571909), .lit (.int .u32 275423344), .lit (.int .u32 430227734), .lit (.int .u32 506948616), .lit (.int .u32 659060556), .lit (.int .u32 883997877), .lit (.int .u32 958139571), .lit (.int .u32 1322822218), .lit (.int .u32 1537002063), .lit (.int .u32 1747873779), .lit (.int .u32 1955562222), .lit (.int .u32 2024104815), .lit (.int .u32 2227730452), .lit (.int .u32 2361852424), .lit (.int .u32 2428436474), .lit (.int .u32 2756734187), .lit (.int .u32 3204031479), .lit (.int .u32 3329325298)]
def laid_math_bits_deBruijn32tab {H : Type} : DataW H := .agg [.lit (.int .u8 0), .lit (.int .u8 1), .lit (.int .u8 28), .lit (.int .u8 2), .lit (.int .u8 29), .lit (.int .u8 14), .lit (.int .u8 24), .lit (.int .u8 3), .lit (.int .u8 30), .lit (.int .u8 22), .lit (.int .u8 20), .lit (.int .u8 15), .lit (.int .u8 25), .lit (.int .u8 17), .lit (.int .u8 4), .lit (.int .u8 8), .lit (.int .u8 31), .lit (.int .u8 27), .lit (.int .u8 13), .lit (.int .u8 23), .lit (.int .u8 21), .lit (.int .u8 19), .lit (.int .u8 16), .lit (.int .u8 7), .lit (.int .u8 26), .lit (.int .u8 12), .lit (.int .u8 18), .lit (.int .u8 6), .lit (.int .u8 11), .lit (.int .u8 5), .lit (.int .u8 10), .lit (.int .u8 9)]
def laid_math_bits_deBruijn64tab {H : Type} : DataW H := .agg [.lit (.int .u8 0), .lit (.int .u8 1), .lit (.int .u8 56), .lit (.int .u8 2), .lit (.int .u8 57), .lit (.int .u8 49), .lit (.int .u8 28), .lit (.int .u8 3), .lit (.int .u8 61), .lit (.int .u8 58), .lit (.int .u8 42), .lit (.int .u8 50), .lit (.int .u8 38), .lit (.int .u8 29), .lit (.int .u8 17), .lit (.int .u8 4), .lit (.int .u8 62), .lit (.int .u8 47), .lit (.int .u8 59), .lit (.int .u8 36), .lit (.int .u8 45), .lit (.int .u8 43), .lit (.int .u8 51), .lit (.int .u8 22), .lit (.int .u8 53), .lit (.int .u8 39), .lit (.int .u8 33), .lit (.int .u8 30), .lit (.int .u8 24), .lit (.int .u8 18), .lit (.int .u8 12), .lit (.int .u8 5), .lit (.int .u8 63), .lit (.int .u8 55), .lit (.int .u8 48), .lit (.int .u8 27), .lit (.int .u8 60), .lit (.int .u8 41), .lit (.int .u8 37), .lit (.int .u8 16), .lit (.int .u8 46), .lit (.int .u8 35), .lit (.int .u8 44), .lit (.int .u8 21), .lit (.int .u8 52), .lit (.int .u8 32), .lit (.int .u8 23), .lit (.int .u8 11), .lit (.int .u8 54), .lit (.int .u8 26), .lit (.int .u8 40), .lit (.int .u8 15), .lit (.int .u8 34), .lit (.int .u8 20), .lit (.int .u8 31), .lit (.int .u8 10), .lit (.int .u8 25), .lit (.int .u8 14), .lit (.int .u8 19), .lit (.int .u8 9), .lit (.int .u8 13), .lit (.int .u8 8), .lit (.int .u8 7), .lit (.int .u8 6)]

/-- 'causewaylaw11.OutboxChecks': WHATEVER THE INPUT: true; the input reads as it did. -/
def outboxChecksSpec : ChangeSpec := { name := "outboxChecks", fn := fun _ => fun
  | [d] => { results := [.lit (.bool true)], args := [d] }
  | _ => none }
def outboxChecksRow : OpenClaim := { program := "ythdpknlnpeaiiaadoor", sum := "e5aaab2236ae3484d715be4877c65397c022782d8d51a53ed4b73da40e316793", func := "causeway/causewaylaw11.OutboxChecks", spec := "outboxChecks", recurses := true, named := ["causeway/digest.steps", "causeway/causewayref01.beginning", "causeway/causewayref01.constants"], plainKeys := false, apart := false, laid := [("causeway/causewayref01.constants", laid_causeway_causewayref01_constants), ("causeway/causewayref01.beginning", laid_causeway_causewayref01_beginning), ("causeway/digest.steps", laid_causeway_digest_steps)] }
def OutboxChecksSaid : Prop := outboxChecksRow.holds Tryd.pinned (OpenSpec.ofChange outboxChecksSpec)

/-- ITS FALSE NEIGHBOUR: 'it returns false'. Refute it at one input. -/
def outboxChecksWrong : ChangeSpec := { name := "outboxChecks", fn := fun _ => fun
  | [d] => { results := [.lit (.bool false)], args := [d] }
  | _ => none }
def OutboxChecksWrongFalsely : Prop := outboxChecksRow.holds Tryd.pinned (OpenSpec.ofChange outboxChecksWrong)

/-- 'causewaylaw11.OutboxBooks': WHATEVER THE INPUT: true; the input reads as it did. -/
def outboxBooksSpec : ChangeSpec := { name := "outboxBooks", fn := fun _ => fun
  | [d1, d2] => { results := [.lit (.bool true)], args := [d1, d2] }
  | _ => none }
def outboxBooksRow : OpenClaim := { program := "ythdpknlnpeaiiaadoor", sum := "e5aaab2236ae3484d715be4877c65397c022782d8d51a53ed4b73da40e316793", func := "causeway/causewaylaw11.OutboxBooks", spec := "outboxBooks", recurses := true, named := ["causeway/digest.steps", "causeway/causewayref01.beginning", "causeway/causewayref01.constants"], plainKeys := false, apart := false, laid := [("causeway/causewayref01.constants", laid_causeway_causewayref01_constants), ("causeway/causewayref01.beginning", laid_causeway_causewayref01_beginning), ("causeway/digest.steps", laid_causeway_digest_steps)] }
def OutboxBooksSaid : Prop := outboxBooksRow.holds Tryd.pinned (OpenSpec.ofChange outboxBooksSpec)

/-- ITS FALSE NEIGHBOUR: 'it returns false'. Refute it at one input. -/
def outboxBooksWrong : ChangeSpec := { name := "outboxBooks", fn := fun _ => fun
  | [d1, d2] => { results := [.lit (.bool false)], args := [d1, d2] }
  | _ => none }
def OutboxBooksWrongFalsely : Prop := outboxBooksRow.holds Tryd.pinned (OpenSpec.ofChange outboxBooksWrong)

/-- 'causewaylaw11.OutboxCuts': WHATEVER THE INPUT: true; the input reads as it did. -/
def outboxCutsSpec : ChangeSpec := { name := "outboxCuts", fn := fun _ => fun
  | [d1, d2, d3] => { results := [.lit (.bool true)], args := [d1, d2, d3] }
  | _ => none }
def outboxCutsRow : OpenClaim := { program := "ythdpknlnpeaiiaadoor", sum := "e5aaab2236ae3484d715be4877c65397c022782d8d51a53ed4b73da40e316793", func := "causeway/causewaylaw11.OutboxCuts", spec := "outboxCuts", recurses := true, named := ["causeway/digest.steps"], plainKeys := false, apart := false, laid := [("causeway/digest.steps", laid_causeway_digest_steps)] }
def OutboxCutsSaid : Prop := outboxCutsRow.holds Tryd.pinned (OpenSpec.ofChange outboxCutsSpec)

/-- ITS FALSE NEIGHBOUR: 'it returns false'. Refute it at one input. -/
def outboxCutsWrong : ChangeSpec := { name := "outboxCuts", fn := fun _ => fun
  | [d1, d2, d3] => { results := [.lit (.bool false)], args := [d1, d2, d3] }
  | _ => none }
def OutboxCutsWrongFalsely : Prop := outboxCutsRow.holds Tryd.pinned (OpenSpec.ofChange outboxCutsWrong)

/-- 'causewaylaw11.OutboxOne': WHATEVER THE INPUT: true; the input reads as it did. -/
def outboxOneSpec : ChangeSpec := { name := "outboxOne", fn := fun _ => fun
  | [d1, d2] => { results := [.lit (.bool true)], args := [d1, d2] }
  | _ => none }
def outboxOneRow : OpenClaim := { program := "ythdpknlnpeaiiaadoor", sum := "e5aaab2236ae3484d715be4877c65397c022782d8d51a53ed4b73da40e316793", func := "causeway/causewaylaw11.OutboxOne", spec := "outboxOne", recurses := true, named := ["causeway/digest.steps", "causeway/causewayref01.beginning", "causeway/causewayref01.constants"], plainKeys := false, apart := false, laid := [("causeway/causewayref01.constants", laid_causeway_causewayref01_constants), ("causeway/causewayref01.beginning", laid_causeway_causewayref01_beginning), ("causeway/digest.steps", laid_causeway_digest_steps)] }
def OutboxOneSaid : Prop := outboxOneRow.holds Tryd.pinned (OpenSpec.ofChange outboxOneSpec)

/-- ITS FALSE NEIGHBOUR: 'it returns false'. Refute it at one input. -/
def outboxOneWrong : ChangeSpec := { name := "outboxOne", fn := fun _ => fun
  | [d1, d2] => { results := [.lit (.bool false)], args := [d1, d2] }
  | _ => none }
def OutboxOneWrongFalsely : Prop := outboxOneRow.holds Tryd.pinned (OpenSpec.ofChange outboxOneWrong)

/-- 'causewaylaw07.StoreNone': WHATEVER THE INPUT: true; the input reads as it did. -/
def storeNoneSpec : ChangeSpec := { name := "storeNone", fn := fun _ => fun
  | [d1, d2] => { results := [.lit (.bool true)], args := [d1, d2] }
  | _ => none }
def storeNoneRow : OpenClaim := { program := "ythdpknlnpeaiiaadoor", sum := "e5aaab2236ae3484d715be4877c65397c022782d8d51a53ed4b73da40e316793", func := "causeway/causewaylaw07.StoreNone", spec := "storeNone", inPlace := ["slices.overlaps[string]"], unfollowed := true, recurses := true, named := ["causeway/digest.steps"], plainKeys := false, apart := false, laid := [("causeway/digest.steps", laid_causeway_digest_steps)] }
def StoreNoneSaid : Prop := storeNoneRow.holds Tryd.pinned (OpenSpec.ofChange storeNoneSpec)

/-- ITS FALSE NEIGHBOUR: 'it returns false'. Refute it at one input. -/
def storeNoneWrong : ChangeSpec := { name := "storeNone", fn := fun _ => fun
  | [d1, d2] => { results := [.lit (.bool false)], args := [d1, d2] }
  | _ => none }
def StoreNoneWrongFalsely : Prop := storeNoneRow.holds Tryd.pinned (OpenSpec.ofChange storeNoneWrong)

/-- 'causewaylaw11.OutboxNothing': WHATEVER THE INPUT: true; the input reads as it did. -/
def outboxNothingSpec : ChangeSpec := { name := "outboxNothing", fn := fun _ => fun
  | [d] => { results := [.lit (.bool true)], args := [d] }
  | _ => none }
def outboxNothingRow : OpenClaim := { program := "ythdpknlnpeaiiaadoor", sum := "e5aaab2236ae3484d715be4877c65397c022782d8d51a53ed4b73da40e316793", func := "causeway/causewaylaw11.OutboxNothing", spec := "outboxNothing", unfollowed := true, recurses := true, named := ["causeway/digest.steps", "math/bits.deBruijn32tab", "math/bits.deBruijn64tab"], plainKeys := false, apart := false, laid := [("math/bits.deBruijn32tab", laid_math_bits_deBruijn32tab), ("math/bits.deBruijn64tab", laid_math_bits_deBruijn64tab), ("causeway/digest.steps", laid_causeway_digest_steps)] }
def OutboxNothingSaid : Prop := outboxNothingRow.holds Tryd.pinned (OpenSpec.ofChange outboxNothingSpec)

/-- ITS FALSE NEIGHBOUR: 'it returns false'. Refute it at one input. -/
def outboxNothingWrong : ChangeSpec := { name := "outboxNothing", fn := fun _ => fun
  | [d] => { results := [.lit (.bool false)], args := [d] }
  | _ => none }
def OutboxNothingWrongFalsely : Prop := outboxNothingRow.holds Tryd.pinned (OpenSpec.ofChange outboxNothingWrong)

/-- 'causewaylaw09.TicketNames': WHATEVER THE INPUT: true; the input reads as it did. -/
def ticketNamesSpec : ChangeSpec := { name := "ticketNames", fn := fun _ => fun
  | [] => { results := [.lit (.bool true)], args := [] }
  | _ => none }
def ticketNamesRow : OpenClaim := { program := "ythdpknlnpeaiiaadoor", sum := "e5aaab2236ae3484d715be4877c65397c022782d8d51a53ed4b73da40e316793", func := "causeway/causewaylaw09.TicketNames", spec := "ticketNames", inPlace := ["slices.overlaps[string]"], unfollowed := true, recurses := true, named := ["causeway/digest.steps"], plainKeys := false, apart := false, laid := [("causeway/digest.steps", laid_causeway_digest_steps)] }
def TicketNamesSaid : Prop := ticketNamesRow.holds Tryd.pinned (OpenSpec.ofChange ticketNamesSpec)

/-- ITS FALSE NEIGHBOUR: 'it returns false'. Refute it at one input. -/
def ticketNamesWrong : ChangeSpec := { name := "ticketNames", fn := fun _ => fun
  | [] => { results := [.lit (.bool false)], args := [] }
  | _ => none }
def TicketNamesWrongFalsely : Prop := ticketNamesRow.holds Tryd.pinned (OpenSpec.ofChange ticketNamesWrong)

/-- 'causewaylaw09.TicketNothing': WHATEVER THE INPUT: true; the input reads as it did. -/
def ticketNothingSpec : ChangeSpec := { name := "ticketNothing", fn := fun _ => fun
  | [d] => { results := [.lit (.bool true)], args := [d] }
  | _ => none }
def ticketNothingRow : OpenClaim := { program := "ythdpknlnpeaiiaadoor", sum := "e5aaab2236ae3484d715be4877c65397c022782d8d51a53ed4b73da40e316793", func := "causeway/causewaylaw09.TicketNothing", spec := "ticketNothing", inPlace := ["math/bits.Add64", "slices.overlaps[string]"], unfollowed := true, recurses := true, named := ["causeway/digest.steps"], plainKeys := false, apart := false, laid := [("causeway/digest.steps", laid_causeway_digest_steps)] }
def TicketNothingSaid : Prop := ticketNothingRow.holds Tryd.pinned (OpenSpec.ofChange ticketNothingSpec)

/-- ITS FALSE NEIGHBOUR: 'it returns false'. Refute it at one input. -/
def ticketNothingWrong : ChangeSpec := { name := "ticketNothing", fn := fun _ => fun
  | [d] => { results := [.lit (.bool false)], args := [d] }
  | _ => none }
def TicketNothingWrongFalsely : Prop := ticketNothingRow.holds Tryd.pinned (OpenSpec.ofChange ticketNothingWrong)

/- THE SECOND FORM. 'bulk': how many values and letters a reading holds, each counted each time it is reached (what is shared counts as often as it is met; a slice's spare places count too). A statement '..UptoSaid' is the law's where the arguments, and the package variables that the reading takes, are together of bulk at most 1048576: NARROWER than '..Said'. Prove '..Said' where nothing that the law and all that it calls make is longer than what came in: it says more and counts as full. Else prove '..UptoSaid'. A law counts once. -/
mutual
def uptoBulk {H : Type} : DataW H → Nat
  | .lit (.string bytes) => bytes.length + 1
  | .lit _ => 1
  | .nil => 1
  | .ptr d => uptoBulk d + 1
  | .slice elems spare => uptoBulkAll elems + uptoBulkAll spare + 1
  | .agg parts => uptoBulkAll parts + 1
  | .iface _ d => uptoBulk d + 1
  | .map entries => uptoBulkEntries entries + 1
  | .held _ => 1
def uptoBulkAll {H : Type} : List (DataW H) → Nat
  | [] => 0
  | d :: r => uptoBulk d + uptoBulkAll r
def uptoBulkEntries {H : Type} : List (Lit × DataW H) → Nat
  | [] => 0
  | x :: r => uptoBulkEntry x + uptoBulkEntries r
def uptoBulkEntry {H : Type} : Lit × DataW H → Nat
  | (.string bytes, d) => bytes.length + uptoBulk d + 1
  | (_, d) => uptoBulk d + 1
 end
def uptoSmall : (H : Type) → List (DataW H) → Bool := fun _ ds => decide (uptoBulkAll ds ≤ 1048576)
def OpenSpec.upto (s : _root_.Go.ChangeSpec) : _root_.Go.OpenSpec := { _root_.Go.OpenSpec.ofChange s with cond := some uptoSmall }

/-- 'causewaylaw11.OutboxChecks', WHERE WHAT IT READS IS OF BULK AT MOST 1048576: true; the input reads as it did. -/
def outboxChecksUptoRow : OpenClaim := { program := "ythdpknlnpeaiiaadoor", sum := "e5aaab2236ae3484d715be4877c65397c022782d8d51a53ed4b73da40e316793", func := "causeway/causewaylaw11.OutboxChecks", spec := "outboxChecks", recurses := true, named := ["causeway/digest.steps", "causeway/causewayref01.beginning", "causeway/causewayref01.constants"], plainKeys := false, apart := false, laid := [("causeway/causewayref01.constants", laid_causeway_causewayref01_constants), ("causeway/causewayref01.beginning", laid_causeway_causewayref01_beginning), ("causeway/digest.steps", laid_causeway_digest_steps)], narrowed := true }
def OutboxChecksUptoSaid : Prop := outboxChecksUptoRow.holds Tryd.pinned (OpenSpec.upto outboxChecksSpec)

/-- 'causewaylaw11.OutboxBooks', WHERE WHAT IT READS IS OF BULK AT MOST 1048576: true; the input reads as it did. -/
def outboxBooksUptoRow : OpenClaim := { program := "ythdpknlnpeaiiaadoor", sum := "e5aaab2236ae3484d715be4877c65397c022782d8d51a53ed4b73da40e316793", func := "causeway/causewaylaw11.OutboxBooks", spec := "outboxBooks", recurses := true, named := ["causeway/digest.steps", "causeway/causewayref01.beginning", "causeway/causewayref01.constants"], plainKeys := false, apart := false, laid := [("causeway/causewayref01.constants", laid_causeway_causewayref01_constants), ("causeway/causewayref01.beginning", laid_causeway_causewayref01_beginning), ("causeway/digest.steps", laid_causeway_digest_steps)], narrowed := true }
def OutboxBooksUptoSaid : Prop := outboxBooksUptoRow.holds Tryd.pinned (OpenSpec.upto outboxBooksSpec)

/-- 'causewaylaw11.OutboxCuts', WHERE WHAT IT READS IS OF BULK AT MOST 1048576: true; the input reads as it did. -/
def outboxCutsUptoRow : OpenClaim := { program := "ythdpknlnpeaiiaadoor", sum := "e5aaab2236ae3484d715be4877c65397c022782d8d51a53ed4b73da40e316793", func := "causeway/causewaylaw11.OutboxCuts", spec := "outboxCuts", recurses := true, named := ["causeway/digest.steps"], plainKeys := false, apart := false, laid := [("causeway/digest.steps", laid_causeway_digest_steps)], narrowed := true }
def OutboxCutsUptoSaid : Prop := outboxCutsUptoRow.holds Tryd.pinned (OpenSpec.upto outboxCutsSpec)

/-- 'causewaylaw11.OutboxOne', WHERE WHAT IT READS IS OF BULK AT MOST 1048576: true; the input reads as it did. -/
def outboxOneUptoRow : OpenClaim := { program := "ythdpknlnpeaiiaadoor", sum := "e5aaab2236ae3484d715be4877c65397c022782d8d51a53ed4b73da40e316793", func := "causeway/causewaylaw11.OutboxOne", spec := "outboxOne", recurses := true, named := ["causeway/digest.steps", "causeway/causewayref01.beginning", "causeway/causewayref01.constants"], plainKeys := false, apart := false, laid := [("causeway/causewayref01.constants", laid_causeway_causewayref01_constants), ("causeway/causewayref01.beginning", laid_causeway_causewayref01_beginning), ("causeway/digest.steps", laid_causeway_digest_steps)], narrowed := true }
def OutboxOneUptoSaid : Prop := outboxOneUptoRow.holds Tryd.pinned (OpenSpec.upto outboxOneSpec)

/-- 'causewaylaw07.StoreNone', WHERE WHAT IT READS IS OF BULK AT MOST 1048576: true; the input reads as it did. -/
def storeNoneUptoRow : OpenClaim := { program := "ythdpknlnpeaiiaadoor", sum := "e5aaab2236ae3484d715be4877c65397c022782d8d51a53ed4b73da40e316793", func := "causeway/causewaylaw07.StoreNone", spec := "storeNone", inPlace := ["slices.overlaps[string]"], unfollowed := true, recurses := true, named := ["causeway/digest.steps"], plainKeys := false, apart := false, laid := [("causeway/digest.steps", laid_causeway_digest_steps)], narrowed := true }
def StoreNoneUptoSaid : Prop := storeNoneUptoRow.holds Tryd.pinned (OpenSpec.upto storeNoneSpec)

/-- 'causewaylaw11.OutboxNothing', WHERE WHAT IT READS IS OF BULK AT MOST 1048576: true; the input reads as it did. -/
def outboxNothingUptoRow : OpenClaim := { program := "ythdpknlnpeaiiaadoor", sum := "e5aaab2236ae3484d715be4877c65397c022782d8d51a53ed4b73da40e316793", func := "causeway/causewaylaw11.OutboxNothing", spec := "outboxNothing", unfollowed := true, recurses := true, named := ["causeway/digest.steps", "math/bits.deBruijn32tab", "math/bits.deBruijn64tab"], plainKeys := false, apart := false, laid := [("math/bits.deBruijn32tab", laid_math_bits_deBruijn32tab), ("math/bits.deBruijn64tab", laid_math_bits_deBruijn64tab), ("causeway/digest.steps", laid_causeway_digest_steps)], narrowed := true }
def OutboxNothingUptoSaid : Prop := outboxNothingUptoRow.holds Tryd.pinned (OpenSpec.upto outboxNothingSpec)

/-- 'causewaylaw09.TicketNames', WHERE WHAT IT READS IS OF BULK AT MOST 1048576: true; the input reads as it did. -/
def ticketNamesUptoRow : OpenClaim := { program := "ythdpknlnpeaiiaadoor", sum := "e5aaab2236ae3484d715be4877c65397c022782d8d51a53ed4b73da40e316793", func := "causeway/causewaylaw09.TicketNames", spec := "ticketNames", inPlace := ["slices.overlaps[string]"], unfollowed := true, recurses := true, named := ["causeway/digest.steps"], plainKeys := false, apart := false, laid := [("causeway/digest.steps", laid_causeway_digest_steps)], narrowed := true }
def TicketNamesUptoSaid : Prop := ticketNamesUptoRow.holds Tryd.pinned (OpenSpec.upto ticketNamesSpec)

/-- 'causewaylaw09.TicketNothing', WHERE WHAT IT READS IS OF BULK AT MOST 1048576: true; the input reads as it did. -/
def ticketNothingUptoRow : OpenClaim := { program := "ythdpknlnpeaiiaadoor", sum := "e5aaab2236ae3484d715be4877c65397c022782d8d51a53ed4b73da40e316793", func := "causeway/causewaylaw09.TicketNothing", spec := "ticketNothing", inPlace := ["math/bits.Add64", "slices.overlaps[string]"], unfollowed := true, recurses := true, named := ["causeway/digest.steps"], plainKeys := false, apart := false, laid := [("causeway/digest.steps", laid_causeway_digest_steps)], narrowed := true }
def TicketNothingUptoSaid : Prop := ticketNothingUptoRow.holds Tryd.pinned (OpenSpec.upto ticketNothingSpec)

end Rows
end Go.Proofs.YthdpknlnpeaiiaaDoor
