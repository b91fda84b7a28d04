/-
  NARROWER THAN 'FOR EVERY INPUT', by the rows' own cells (each row's printed sentence says how): AuditMatchesReference: laid · AuditStatesMatchReference: laid · AuditPoints: laid · AuditCertificates: laid · AuditBounds: laid · AuditAcceptsHonestSessions: laid.
  DERIVED. THE GIVEN ROWS OF THIS SEAT. 6 by the template 'for every input the law returns true; each argument reads behind the call as it read before'; 0 by the template 'total and deterministic' (their statements: YtgflpgcogkdpgaaGreatDoorTotals.lean).
  GIVEN WITH THE SEED: the statements are not yours to turn. If you find one false, say at which input.
  Laid BY PROGRAM, IN A SANDBOX (cutbox-rows.mjs): the forced cells as the released guide's own fill.sh prints them over the translation 361602ff78ae0cda… (all of the seat's roots in one cut). By AI agents, Wed Nov 11 2026. No macro, syntax, notation, axiom, sorry.
-/
import Derived.Test.YtgflpgcogkdpgaaGreatDoorChecked
import GoSem.Claim
import GoSem.ClaimJoined
import GoSem.ClaimMapViews
import Derived.JoinedTies
import Derived.KernelRfl
namespace Go.Proofs.YtgflpgcogkdpgaaGreatDoor
/- THE CELL 'sum', in the pinned program and in every row, IS THE sha256 OF THE DUMP (.gsa) THAT YtgflpgcogkdpgaaGreatDoorProg.lean LOADS. Nothing in Lean hashes anything: it is a label: what it is worth is what the hold of that sum in a sandbox is worth. -/
noncomputable def Tryz.pinned : Pinned := { name := "ytgflpgcogkdpgaagreatdoor", sum := "361602ff78ae0cdacf342c4f8e78ceb26a21a9017840357d55876ab094efa68a", checked := Tryz.checked }
namespace Rows
def none {H : Type} : Left H := { results := [], args := [] }

/- WHAT THE LISTED PACKAGE-LEVEL VARIABLES READ AS WHEN THE CALL BEGINS. Each datum BY PROGRAM (the guide's laid-datum.mjs) off the statement by which the dump's own 'gosem.cut.vars' lays the variable. In a bare row this is a premise. The card (YtgflpgcogkdpgaaGreatDoorCards.lean) ties it to the program's text. -/
def laid_attestor_sha256_constants {H : Type} : DataW H := .agg [.lit (.int .u32 1116352408), .lit (.int .u32 1899447441), .lit (.int .u32 3049323471), .lit (.int .u32 3921009573), .lit (.int .u32 961987163), .lit (.int .u32 1508970993), .lit (.int .u32 2453635748), .lit (.int .u32 2870763221), .lit (.int .u32 3624381080), .lit (.int .u32 310598401), .lit (.int .u32 607225278), .lit (.int .u32 1426881987), .lit (.int .u32 1925078388), .lit (.int .u32 2162078206), .lit (.int .u32 2614888103), .lit (.int .u32 3248222580), .lit (.int .u32 3835390401), .lit (.int .u32 4022224774), .lit (.int .u32 264347078), .lit (.int .u32 604807628), .lit (.int .u32 770255983), .lit (.int .u32 1249150122), .lit (.int .u32 1555081692), .lit (.int .u32 1996064986), .lit (.int .u32 2554220882), .lit (.int .u32 2821834349), .lit (.int .u32 2952996808), .lit (.int .u32 3210313671), .lit (.int .u32 3336571891), .lit (.int .u32 3584528711), .lit (.int .u32 113926993), .lit (.int .u32 338241895), .lit (.int .u32 666307205), .lit (.int .u32 773529912), .lit (.int .u32 1294757372), .lit (.int .u32 1396182291), .lit (.int .u32 1695183700), .lit (.int .u32 1986661051), .lit (.int .u32 2177026350), .lit (.int .u32 2456956037), .lit (.int .u32 2730485921), .lit (.int .u32 2820302411), .lit (.int .u32 3259730800), .lit (.int .u32 3345764771), .lit (.int .u32 3516065817), .lit (.int .u32 3600352804), .lit (.int .u32 4094571909), .lit (.int .u32 275423344), .lit (.int .u32 430227734), .lit (.int .u32 506948616), .lit (.int .u32 659060556), .lit (.int .u32 883997877), .lit (.int .u32 958139571), .lit (.int .u32 1322822218), .lit (.int .u32 1537002063), .lit (.int .u32 1747873779), .lit (.int .u32 1955562222), .lit (.int .u32 2024104815), .lit (.int .u32 2227730452), .lit (.int .u32 2361852424), .lit (.int .u32 2428436474), .lit (.int .u32 2756734187), .lit (.int .u32 3204031479), .lit (.int .u32 3329325298)]
def laid_attestor_sha256_initial {H : Type} : DataW H := .agg [.lit (.int .u32 1779033703), .lit (.int .u32 3144134277), .lit (.int .u32 1013904242), .lit (.int .u32 2773480762), .lit (.int .u32 1359893119), .lit (.int .u32 2600822924), .lit (.int .u32 528734635), .lit (.int .u32 1541459225)]
def laid_attestor_session_rules {H : Type} : DataW H := .iface "func table" (.map [(.int .i64 1, .agg [.lit (.int .i64 0), .lit (.int .i64 0), .iface "func" (.lit (.string [97, 116, 116, 101, 115, 116, 111, 114, 47, 115, 101, 115, 115, 105, 111, 110, 46, 114, 117, 108, 101, 115, 36, 49]))]), (.int .i64 2, .agg [.lit (.int .i64 1), .lit (.int .i64 0), .iface "func" (.lit (.string [97, 116, 116, 101, 115, 116, 111, 114, 47, 115, 101, 115, 115, 105, 111, 110, 46, 101, 109, 112, 116, 121]))]), (.int .i64 3, .agg [.lit (.int .i64 3), .lit (.int .i64 0), .iface "func" (.lit (.string [97, 116, 116, 101, 115, 116, 111, 114, 47, 115, 101, 115, 115, 105, 111, 110, 46, 114, 117, 108, 101, 115, 36, 50]))]), (.int .i64 4, .agg [.lit (.int .i64 2), .lit (.int .i64 2), .iface "func" (.lit (.string [97, 116, 116, 101, 115, 116, 111, 114, 47, 115, 101, 115, 115, 105, 111, 110, 46, 114, 117, 108, 101, 115, 36, 51]))]), (.int .i64 5, .agg [.lit (.int .i64 5), .lit (.int .i64 2), .iface "func" (.lit (.string [97, 116, 116, 101, 115, 116, 111, 114, 47, 115, 101, 115, 115, 105, 111, 110, 46, 114, 117, 108, 101, 115, 36, 52]))]), (.int .i64 6, .agg [.lit (.int .i64 4), .lit (.int .i64 2), .iface "func" (.lit (.string [97, 116, 116, 101, 115, 116, 111, 114, 47, 115, 101, 115, 115, 105, 111, 110, 46, 101, 109, 112, 116, 121]))]), (.int .i64 7, .agg [.lit (.int .i64 2), .lit (.int .i64 2), .iface "func" (.lit (.string [97, 116, 116, 101, 115, 116, 111, 114, 47, 115, 101, 115, 115, 105, 111, 110, 46, 101, 109, 112, 116, 121]))])])
def laid_attestor_session_states {H : Type} : DataW H := .map [(.int .i64 1, .lit (.int .i64 1)), (.int .i64 2, .lit (.int .i64 2)), (.int .i64 3, .lit (.int .i64 2)), (.int .i64 4, .lit (.int .i64 2)), (.int .i64 5, .lit (.int .i64 2)), (.int .i64 6, .lit (.int .i64 3)), (.int .i64 7, .lit (.int .i64 4))]

/-- 'attestorlaw33.AuditMatchesReference': WHATEVER THE INPUT: true; the input reads as it did. -/
def auditMatchesReferenceSpec : ChangeSpec := { name := "auditMatchesReference", fn := fun _ => fun
  | [d1, d2, d3, d4] => { results := [.lit (.bool true)], args := [d1, d2, d3, d4] }
  | _ => none }
def auditMatchesReferenceRow : OpenClaim := { program := "ytgflpgcogkdpgaagreatdoor", sum := "361602ff78ae0cdacf342c4f8e78ceb26a21a9017840357d55876ab094efa68a", func := "attestor/attestorlaw33.AuditMatchesReference", spec := "auditMatchesReference", inPlace := ["internal/reflectlite.TypeOf"], unfollowed := true, recurses := true, named := ["attestor/session.rules", "attestor/sha256.initial", "attestor/sha256.constants", "attestor/session.states"], plainKeys := false, apart := false, laid := [("attestor/sha256.constants", laid_attestor_sha256_constants), ("attestor/sha256.initial", laid_attestor_sha256_initial), ("attestor/session.rules", laid_attestor_session_rules), ("attestor/session.states", laid_attestor_session_states)] }
def AuditMatchesReferenceSaid : Prop := auditMatchesReferenceRow.holds Tryz.pinned (OpenSpec.ofChange auditMatchesReferenceSpec)

/-- ITS FALSE NEIGHBOUR: 'it returns false'. Refute it at one input. -/
def auditMatchesReferenceWrong : ChangeSpec := { name := "auditMatchesReference", fn := fun _ => fun
  | [d1, d2, d3, d4] => { results := [.lit (.bool false)], args := [d1, d2, d3, d4] }
  | _ => none }
def AuditMatchesReferenceWrongFalsely : Prop := auditMatchesReferenceRow.holds Tryz.pinned (OpenSpec.ofChange auditMatchesReferenceWrong)

/-- 'attestorlaw33.AuditStatesMatchReference': WHATEVER THE INPUT: true; the input reads as it did. -/
def auditStatesMatchReferenceSpec : ChangeSpec := { name := "auditStatesMatchReference", fn := fun _ => fun
  | [d1, d2] => { results := [.lit (.bool true)], args := [d1, d2] }
  | _ => none }
def auditStatesMatchReferenceRow : OpenClaim := { program := "ytgflpgcogkdpgaagreatdoor", sum := "361602ff78ae0cdacf342c4f8e78ceb26a21a9017840357d55876ab094efa68a", func := "attestor/attestorlaw33.AuditStatesMatchReference", spec := "auditStatesMatchReference", inPlace := ["internal/reflectlite.TypeOf"], unfollowed := true, recurses := true, named := ["attestor/session.rules", "attestor/sha256.initial", "attestor/sha256.constants", "attestor/session.states"], plainKeys := false, apart := false, laid := [("attestor/sha256.constants", laid_attestor_sha256_constants), ("attestor/sha256.initial", laid_attestor_sha256_initial), ("attestor/session.rules", laid_attestor_session_rules), ("attestor/session.states", laid_attestor_session_states)] }
def AuditStatesMatchReferenceSaid : Prop := auditStatesMatchReferenceRow.holds Tryz.pinned (OpenSpec.ofChange auditStatesMatchReferenceSpec)

/-- ITS FALSE NEIGHBOUR: 'it returns false'. Refute it at one input. -/
def auditStatesMatchReferenceWrong : ChangeSpec := { name := "auditStatesMatchReference", fn := fun _ => fun
  | [d1, d2] => { results := [.lit (.bool false)], args := [d1, d2] }
  | _ => none }
def AuditStatesMatchReferenceWrongFalsely : Prop := auditStatesMatchReferenceRow.holds Tryz.pinned (OpenSpec.ofChange auditStatesMatchReferenceWrong)

/-- 'attestorlaw33.AuditPoints': WHATEVER THE INPUT: true; the input reads as it did. -/
def auditPointsSpec : ChangeSpec := { name := "auditPoints", fn := fun _ => fun
  | [d1, d2] => { results := [.lit (.bool true)], args := [d1, d2] }
  | _ => none }
def auditPointsRow : OpenClaim := { program := "ytgflpgcogkdpgaagreatdoor", sum := "361602ff78ae0cdacf342c4f8e78ceb26a21a9017840357d55876ab094efa68a", func := "attestor/attestorlaw33.AuditPoints", spec := "auditPoints", inPlace := ["internal/reflectlite.TypeOf"], unfollowed := true, recurses := true, named := ["attestor/session.rules", "attestor/sha256.initial", "attestor/sha256.constants", "attestor/session.states"], plainKeys := false, apart := false, laid := [("attestor/sha256.constants", laid_attestor_sha256_constants), ("attestor/sha256.initial", laid_attestor_sha256_initial), ("attestor/session.rules", laid_attestor_session_rules), ("attestor/session.states", laid_attestor_session_states)] }
def AuditPointsSaid : Prop := auditPointsRow.holds Tryz.pinned (OpenSpec.ofChange auditPointsSpec)

/-- ITS FALSE NEIGHBOUR: 'it returns false'. Refute it at one input. -/
def auditPointsWrong : ChangeSpec := { name := "auditPoints", fn := fun _ => fun
  | [d1, d2] => { results := [.lit (.bool false)], args := [d1, d2] }
  | _ => none }
def AuditPointsWrongFalsely : Prop := auditPointsRow.holds Tryz.pinned (OpenSpec.ofChange auditPointsWrong)

/-- 'attestorlaw33.AuditCertificates': WHATEVER THE INPUT: true; the input reads as it did. -/
def auditCertificatesSpec : ChangeSpec := { name := "auditCertificates", fn := fun _ => fun
  | [d1, d2] => { results := [.lit (.bool true)], args := [d1, d2] }
  | _ => none }
def auditCertificatesRow : OpenClaim := { program := "ytgflpgcogkdpgaagreatdoor", sum := "361602ff78ae0cdacf342c4f8e78ceb26a21a9017840357d55876ab094efa68a", func := "attestor/attestorlaw33.AuditCertificates", spec := "auditCertificates", inPlace := ["internal/reflectlite.TypeOf"], unfollowed := true, recurses := true, named := ["attestor/session.rules", "attestor/sha256.initial", "attestor/sha256.constants", "attestor/session.states"], plainKeys := false, apart := false, laid := [("attestor/sha256.constants", laid_attestor_sha256_constants), ("attestor/sha256.initial", laid_attestor_sha256_initial), ("attestor/session.rules", laid_attestor_session_rules), ("attestor/session.states", laid_attestor_session_states)] }
def AuditCertificatesSaid : Prop := auditCertificatesRow.holds Tryz.pinned (OpenSpec.ofChange auditCertificatesSpec)

/-- ITS FALSE NEIGHBOUR: 'it returns false'. Refute it at one input. -/
def auditCertificatesWrong : ChangeSpec := { name := "auditCertificates", fn := fun _ => fun
  | [d1, d2] => { results := [.lit (.bool false)], args := [d1, d2] }
  | _ => none }
def AuditCertificatesWrongFalsely : Prop := auditCertificatesRow.holds Tryz.pinned (OpenSpec.ofChange auditCertificatesWrong)

/-- 'attestorlaw33.AuditBounds': WHATEVER THE INPUT: true; the input reads as it did. -/
def auditBoundsSpec : ChangeSpec := { name := "auditBounds", fn := fun _ => fun
  | [d1, d2, d3] => { results := [.lit (.bool true)], args := [d1, d2, d3] }
  | _ => none }
def auditBoundsRow : OpenClaim := { program := "ytgflpgcogkdpgaagreatdoor", sum := "361602ff78ae0cdacf342c4f8e78ceb26a21a9017840357d55876ab094efa68a", func := "attestor/attestorlaw33.AuditBounds", spec := "auditBounds", inPlace := ["internal/reflectlite.TypeOf"], unfollowed := true, recurses := true, named := ["attestor/session.rules", "attestor/sha256.initial", "attestor/sha256.constants", "attestor/session.states"], plainKeys := false, apart := false, laid := [("attestor/sha256.constants", laid_attestor_sha256_constants), ("attestor/sha256.initial", laid_attestor_sha256_initial), ("attestor/session.rules", laid_attestor_session_rules), ("attestor/session.states", laid_attestor_session_states)] }
def AuditBoundsSaid : Prop := auditBoundsRow.holds Tryz.pinned (OpenSpec.ofChange auditBoundsSpec)

/-- ITS FALSE NEIGHBOUR: 'it returns false'. Refute it at one input. -/
def auditBoundsWrong : ChangeSpec := { name := "auditBounds", fn := fun _ => fun
  | [d1, d2, d3] => { results := [.lit (.bool false)], args := [d1, d2, d3] }
  | _ => none }
def AuditBoundsWrongFalsely : Prop := auditBoundsRow.holds Tryz.pinned (OpenSpec.ofChange auditBoundsWrong)

/-- 'attestorlaw33.AuditAcceptsHonestSessions': WHATEVER THE INPUT: true; the input reads as it did. -/
def auditAcceptsHonestSessionsSpec : ChangeSpec := { name := "auditAcceptsHonestSessions", fn := fun _ => fun
  | [d1, d2] => { results := [.lit (.bool true)], args := [d1, d2] }
  | _ => none }
def auditAcceptsHonestSessionsRow : OpenClaim := { program := "ytgflpgcogkdpgaagreatdoor", sum := "361602ff78ae0cdacf342c4f8e78ceb26a21a9017840357d55876ab094efa68a", func := "attestor/attestorlaw33.AuditAcceptsHonestSessions", spec := "auditAcceptsHonestSessions", inPlace := ["internal/reflectlite.TypeOf"], unfollowed := true, recurses := true, named := ["attestor/session.rules", "attestor/sha256.initial", "attestor/sha256.constants", "attestor/session.states"], plainKeys := false, apart := false, laid := [("attestor/sha256.constants", laid_attestor_sha256_constants), ("attestor/sha256.initial", laid_attestor_sha256_initial), ("attestor/session.rules", laid_attestor_session_rules), ("attestor/session.states", laid_attestor_session_states)] }
def AuditAcceptsHonestSessionsSaid : Prop := auditAcceptsHonestSessionsRow.holds Tryz.pinned (OpenSpec.ofChange auditAcceptsHonestSessionsSpec)

/-- ITS FALSE NEIGHBOUR: 'it returns false'. Refute it at one input. -/
def auditAcceptsHonestSessionsWrong : ChangeSpec := { name := "auditAcceptsHonestSessions", fn := fun _ => fun
  | [d1, d2] => { results := [.lit (.bool false)], args := [d1, d2] }
  | _ => none }
def AuditAcceptsHonestSessionsWrongFalsely : Prop := auditAcceptsHonestSessionsRow.holds Tryz.pinned (OpenSpec.ofChange auditAcceptsHonestSessionsWrong)

/- THE SECOND FORM. 'bulk': how many values and letters a reading holds, each counted each time it is reached (what is shared counts as often as it is met; a slice's spare places count too). A statement '..UptoSaid' is the law's where the arguments, and the package variables that the reading takes, are together of bulk at most 1048576: NARROWER than '..Said'. Prove '..Said' where nothing that the law and all that it calls make is longer than what came in: it says more and counts as full. Else prove '..UptoSaid'. A law counts once. -/
mutual
def uptoBulk {H : Type} : DataW H → Nat
  | .lit (.string bytes) => bytes.length + 1
  | .lit _ => 1
  | .nil => 1
  | .ptr d => uptoBulk d + 1
  | .slice elems spare => uptoBulkAll elems + uptoBulkAll spare + 1
  | .agg parts => uptoBulkAll parts + 1
  | .iface _ d => uptoBulk d + 1
  | .map entries => uptoBulkEntries entries + 1
  | .held _ => 1
def uptoBulkAll {H : Type} : List (DataW H) → Nat
  | [] => 0
  | d :: r => uptoBulk d + uptoBulkAll r
def uptoBulkEntries {H : Type} : List (Lit × DataW H) → Nat
  | [] => 0
  | x :: r => uptoBulkEntry x + uptoBulkEntries r
def uptoBulkEntry {H : Type} : Lit × DataW H → Nat
  | (.string bytes, d) => bytes.length + uptoBulk d + 1
  | (_, d) => uptoBulk d + 1
 end
def uptoSmall : (H : Type) → List (DataW H) → Bool := fun _ ds => decide (uptoBulkAll ds ≤ 1048576)
def OpenSpec.upto (s : _root_.Go.ChangeSpec) : _root_.Go.OpenSpec := { _root_.Go.OpenSpec.ofChange s with cond := some uptoSmall }

/-- 'attestorlaw33.AuditMatchesReference', WHERE WHAT IT READS IS OF BULK AT MOST 1048576: true; the input reads as it did. -/
def auditMatchesReferenceUptoRow : OpenClaim := { program := "ytgflpgcogkdpgaagreatdoor", sum := "361602ff78ae0cdacf342c4f8e78ceb26a21a9017840357d55876ab094efa68a", func := "attestor/attestorlaw33.AuditMatchesReference", spec := "auditMatchesReference", inPlace := ["internal/reflectlite.TypeOf"], unfollowed := true, recurses := true, named := ["attestor/session.rules", "attestor/sha256.initial", "attestor/sha256.constants", "attestor/session.states"], plainKeys := false, apart := false, laid := [("attestor/sha256.constants", laid_attestor_sha256_constants), ("attestor/sha256.initial", laid_attestor_sha256_initial), ("attestor/session.rules", laid_attestor_session_rules), ("attestor/session.states", laid_attestor_session_states)], narrowed := true }
def AuditMatchesReferenceUptoSaid : Prop := auditMatchesReferenceUptoRow.holds Tryz.pinned (OpenSpec.upto auditMatchesReferenceSpec)

/-- 'attestorlaw33.AuditStatesMatchReference', WHERE WHAT IT READS IS OF BULK AT MOST 1048576: true; the input reads as it did. -/
def auditStatesMatchReferenceUptoRow : OpenClaim := { program := "ytgflpgcogkdpgaagreatdoor", sum := "361602ff78ae0cdacf342c4f8e78ceb26a21a9017840357d55876ab094efa68a", func := "attestor/attestorlaw33.AuditStatesMatchReference", spec := "auditStatesMatchReference", inPlace := ["internal/reflectlite.TypeOf"], unfollowed := true, recurses := true, named := ["attestor/session.rules", "attestor/sha256.initial", "attestor/sha256.constants", "attestor/session.states"], plainKeys := false, apart := false, laid := [("attestor/sha256.constants", laid_attestor_sha256_constants), ("attestor/sha256.initial", laid_attestor_sha256_initial), ("attestor/session.rules", laid_attestor_session_rules), ("attestor/session.states", laid_attestor_session_states)], narrowed := true }
def AuditStatesMatchReferenceUptoSaid : Prop := auditStatesMatchReferenceUptoRow.holds Tryz.pinned (OpenSpec.upto auditStatesMatchReferenceSpec)

/-- 'attestorlaw33.AuditPoints', WHERE WHAT IT READS IS OF BULK AT MOST 1048576: true; the input reads as it did. -/
def auditPointsUptoRow : OpenClaim := { program := "ytgflpgcogkdpgaagreatdoor", sum := "361602ff78ae0cdacf342c4f8e78ceb26a21a9017840357d55876ab094efa68a", func := "attestor/attestorlaw33.AuditPoints", spec := "auditPoints", inPlace := ["internal/reflectlite.TypeOf"], unfollowed := true, recurses := true, named := ["attestor/session.rules", "attestor/sha256.initial", "attestor/sha256.constants", "attestor/session.states"], plainKeys := false, apart := false, laid := [("attestor/sha256.constants", laid_attestor_sha256_constants), ("attestor/sha256.initial", laid_attestor_sha256_initial), ("attestor/session.rules", laid_attestor_session_rules), ("attestor/session.states", laid_attestor_session_states)], narrowed := true }
def AuditPointsUptoSaid : Prop := auditPointsUptoRow.holds Tryz.pinned (OpenSpec.upto auditPointsSpec)

/-- 'attestorlaw33.AuditCertificates', WHERE WHAT IT READS IS OF BULK AT MOST 1048576: true; the input reads as it did. -/
def auditCertificatesUptoRow : OpenClaim := { program := "ytgflpgcogkdpgaagreatdoor", sum := "361602ff78ae0cdacf342c4f8e78ceb26a21a9017840357d55876ab094efa68a", func := "attestor/attestorlaw33.AuditCertificates", spec := "auditCertificates", inPlace := ["internal/reflectlite.TypeOf"], unfollowed := true, recurses := true, named := ["attestor/session.rules", "attestor/sha256.initial", "attestor/sha256.constants", "attestor/session.states"], plainKeys := false, apart := false, laid := [("attestor/sha256.constants", laid_attestor_sha256_constants), ("attestor/sha256.initial", laid_attestor_sha256_initial), ("attestor/session.rules", laid_attestor_session_rules), ("attestor/session.states", laid_attestor_session_states)], narrowed := true }
def AuditCertificatesUptoSaid : Prop := auditCertificatesUptoRow.holds Tryz.pinned (OpenSpec.upto auditCertificatesSpec)

/-- 'attestorlaw33.AuditBounds', WHERE WHAT IT READS IS OF BULK AT MOST 1048576: true; the input reads as it did. -/
def auditBoundsUptoRow : OpenClaim := { program := "ytgflpgcogkdpgaagreatdoor", sum := "361602ff78ae0cdacf342c4f8e78ceb26a21a9017840357d55876ab094efa68a", func := "attestor/attestorlaw33.AuditBounds", spec := "auditBounds", inPlace := ["internal/reflectlite.TypeOf"], unfollowed := true, recurses := true, named := ["attestor/session.rules", "attestor/sha256.initial", "attestor/sha256.constants", "attestor/session.states"], plainKeys := false, apart := false, laid := [("attestor/sha256.constants", laid_attestor_sha256_constants), ("attestor/sha256.initial", laid_attestor_sha256_initial), ("attestor/session.rules", laid_attestor_session_rules), ("attestor/session.states", laid_attestor_session_states)], narrowed := true }
def AuditBoundsUptoSaid : Prop := auditBoundsUptoRow.holds Tryz.pinned (OpenSpec.upto auditBoundsSpec)

/-- 'attestorlaw33.AuditAcceptsHonestSessions', WHERE WHAT IT READS IS OF BULK AT MOST 1048576: true; the input reads as it did. -/
def auditAcceptsHonestSessionsUptoRow : OpenClaim := { program := "ytgflpgcogkdpgaagreatdoor", sum := "361602ff78ae0cdacf342c4f8e78ceb26a21a9017840357d55876ab094efa68a", func := "attestor/attestorlaw33.AuditAcceptsHonestSessions", spec := "auditAcceptsHonestSessions", inPlace := ["internal/reflectlite.TypeOf"], unfollowed := true, recurses := true, named := ["attestor/session.rules", "attestor/sha256.initial", "attestor/sha256.constants", "attestor/session.states"], plainKeys := false, apart := false, laid := [("attestor/sha256.constants", laid_attestor_sha256_constants), ("attestor/sha256.initial", laid_attestor_sha256_initial), ("attestor/session.rules", laid_attestor_session_rules), ("attestor/session.states", laid_attestor_session_states)], narrowed := true }
def AuditAcceptsHonestSessionsUptoSaid : Prop := auditAcceptsHonestSessionsUptoRow.holds Tryz.pinned (OpenSpec.upto auditAcceptsHonestSessionsSpec)

end Rows
end Go.Proofs.YtgflpgcogkdpgaaGreatDoor
