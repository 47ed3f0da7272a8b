/-
  NARROWER THAN 'FOR EVERY INPUT', by the rows' own cells (each row's printed sentence says how): GroupsRaw: loops.
  DERIVED. THE GIVEN ROWS OF THIS SEAT. 7 by the template 'for every input the law returns true; each argument reads behind the call as it read before'; 0 by the template 'total and deterministic' (their statements: YtjklnlocmmnclaaTotals.lean).
  GIVEN WITH THE SEED: the statements are not yours to turn. If you find one false, say at which input.
  Laid BY PROGRAM, IN A SANDBOX (cutbox-rows.mjs): the forced cells as the released guide's own fill.sh prints them over the translation 97b5c78aa1c491a0… (all of the seat's roots in one cut). By AI agents, Wed Nov 11 2026. No macro, syntax, notation, axiom, sorry.
-/
import Derived.Test.YtjklnlocmmnclaaChecked
import GoSem.Claim
import GoSem.ClaimJoined
import GoSem.ClaimMapViews
import Derived.JoinedTies
import Derived.KernelRfl
namespace Go.Proofs.Ytjklnlocmmnclaa
/- THE CELL 'sum', in the pinned program and in every row, IS THE sha256 OF THE DUMP (.gsa) THAT YtjklnlocmmnclaaProg.lean LOADS. Nothing in Lean hashes anything: it is a label: what it is worth is what the hold of that sum in a sandbox is worth. -/
noncomputable def Try.pinned : Pinned := { name := "ytjklnlocmmnclaa", sum := "97b5c78aa1c491a074bd5b36dcc0d9cd2d3ad6adc4649a707e386b6e66e3af6a", checked := Try.checked }
namespace Rows
def none {H : Type} : Left H := { results := [], args := [] }

/-- 'oxbowlaw7.DirectKinds': WHATEVER THE INPUT: true; the input reads as it did. -/
def directKindsSpec : ChangeSpec := { name := "directKinds", fn := fun _ => fun
  | [d1, d2] => { results := [.lit (.bool true)], args := [d1, d2] }
  | _ => none }
def directKindsRow : OpenClaim := { program := "ytjklnlocmmnclaa", sum := "97b5c78aa1c491a074bd5b36dcc0d9cd2d3ad6adc4649a707e386b6e66e3af6a", func := "oxbow/oxbowlaw7.DirectKinds", spec := "directKinds", inPlace := ["sync/atomic.LoadUint32", "(*internal/sync.Mutex).Lock", "internal/race.Disable", "sync/atomic.CompareAndSwapInt32", "internal/race.Enable", "internal/race.Acquire", "(*internal/sync.Mutex).lockSlow", "internal/sync.runtime_canSpin", "internal/sync.runtime_doSpin", "internal/sync.throw", "internal/sync.runtime_nanotime", "internal/sync.runtime_SemacquireMutex", "sync/atomic.AddInt32", "(*internal/sync.Mutex).Unlock", "internal/race.ReleaseMerge", "(*internal/sync.Mutex).unlockSlow", "internal/sync.fatal", "internal/sync.runtime_Semrelease", "sync/atomic.StoreUint32"], unfollowed := true, recurses := true, apart := false }
def DirectKindsSaid : Prop := directKindsRow.holds Try.pinned (OpenSpec.ofChange directKindsSpec)

/-- ITS FALSE NEIGHBOUR: 'it returns false'. Refute it at one input. -/
def directKindsWrong : ChangeSpec := { name := "directKinds", fn := fun _ => fun
  | [d1, d2] => { results := [.lit (.bool false)], args := [d1, d2] }
  | _ => none }
def DirectKindsWrongFalsely : Prop := directKindsRow.holds Try.pinned (OpenSpec.ofChange directKindsWrong)

/-- 'oxbowlaw7.DirectWords': WHATEVER THE INPUT: true; the input reads as it did. -/
def directWordsSpec : ChangeSpec := { name := "directWords", fn := fun _ => fun
  | [d1, d2, d3, d4] => { results := [.lit (.bool true)], args := [d1, d2, d3, d4] }
  | _ => none }
def directWordsRow : OpenClaim := { program := "ytjklnlocmmnclaa", sum := "97b5c78aa1c491a074bd5b36dcc0d9cd2d3ad6adc4649a707e386b6e66e3af6a", func := "oxbow/oxbowlaw7.DirectWords", spec := "directWords", inPlace := ["sync/atomic.LoadUint32", "(*internal/sync.Mutex).Lock", "internal/race.Disable", "sync/atomic.CompareAndSwapInt32", "internal/race.Enable", "internal/race.Acquire", "(*internal/sync.Mutex).lockSlow", "internal/sync.runtime_canSpin", "internal/sync.runtime_doSpin", "internal/sync.throw", "internal/sync.runtime_nanotime", "internal/sync.runtime_SemacquireMutex", "sync/atomic.AddInt32", "(*internal/sync.Mutex).Unlock", "internal/race.ReleaseMerge", "(*internal/sync.Mutex).unlockSlow", "internal/sync.fatal", "internal/sync.runtime_Semrelease", "sync/atomic.StoreUint32"], unfollowed := true, recurses := true, apart := false }
def DirectWordsSaid : Prop := directWordsRow.holds Try.pinned (OpenSpec.ofChange directWordsSpec)

/-- ITS FALSE NEIGHBOUR: 'it returns false'. Refute it at one input. -/
def directWordsWrong : ChangeSpec := { name := "directWords", fn := fun _ => fun
  | [d1, d2, d3, d4] => { results := [.lit (.bool false)], args := [d1, d2, d3, d4] }
  | _ => none }
def DirectWordsWrongFalsely : Prop := directWordsRow.holds Try.pinned (OpenSpec.ofChange directWordsWrong)

/-- 'oxbowlaw7.DirectRest': WHATEVER THE INPUT: true; the input reads as it did. -/
def directRestSpec : ChangeSpec := { name := "directRest", fn := fun _ => fun
  | [d] => { results := [.lit (.bool true)], args := [d] }
  | _ => none }
def directRestRow : OpenClaim := { program := "ytjklnlocmmnclaa", sum := "97b5c78aa1c491a074bd5b36dcc0d9cd2d3ad6adc4649a707e386b6e66e3af6a", func := "oxbow/oxbowlaw7.DirectRest", spec := "directRest", inPlace := ["sync/atomic.LoadUint32", "(*internal/sync.Mutex).Lock", "internal/race.Disable", "sync/atomic.CompareAndSwapInt32", "internal/race.Enable", "internal/race.Acquire", "(*internal/sync.Mutex).lockSlow", "internal/sync.runtime_canSpin", "internal/sync.runtime_doSpin", "internal/sync.throw", "internal/sync.runtime_nanotime", "internal/sync.runtime_SemacquireMutex", "sync/atomic.AddInt32", "(*internal/sync.Mutex).Unlock", "internal/race.ReleaseMerge", "(*internal/sync.Mutex).unlockSlow", "internal/sync.fatal", "internal/sync.runtime_Semrelease", "sync/atomic.StoreUint32"], unfollowed := true, recurses := true, apart := false }
def DirectRestSaid : Prop := directRestRow.holds Try.pinned (OpenSpec.ofChange directRestSpec)

/-- ITS FALSE NEIGHBOUR: 'it returns false'. Refute it at one input. -/
def directRestWrong : ChangeSpec := { name := "directRest", fn := fun _ => fun
  | [d] => { results := [.lit (.bool false)], args := [d] }
  | _ => none }
def DirectRestWrongFalsely : Prop := directRestRow.holds Try.pinned (OpenSpec.ofChange directRestWrong)

/-- 'oxbowlaw8.GroupsBuild': WHATEVER THE INPUT: true; the input reads as it did. -/
def groupsBuildSpec : ChangeSpec := { name := "groupsBuild", fn := fun _ => fun
  | [d] => { results := [.lit (.bool true)], args := [d] }
  | _ => none }
def groupsBuildRow : OpenClaim := { program := "ytjklnlocmmnclaa", sum := "97b5c78aa1c491a074bd5b36dcc0d9cd2d3ad6adc4649a707e386b6e66e3af6a", func := "oxbow/oxbowlaw8.GroupsBuild", spec := "groupsBuild", inPlace := ["sync/atomic.LoadUint32", "(*internal/sync.Mutex).Lock", "internal/race.Disable", "sync/atomic.CompareAndSwapInt32", "internal/race.Enable", "internal/race.Acquire", "(*internal/sync.Mutex).lockSlow", "internal/sync.runtime_canSpin", "internal/sync.runtime_doSpin", "internal/sync.throw", "internal/sync.runtime_nanotime", "internal/sync.runtime_SemacquireMutex", "sync/atomic.AddInt32", "(*internal/sync.Mutex).Unlock", "internal/race.ReleaseMerge", "(*internal/sync.Mutex).unlockSlow", "internal/sync.fatal", "internal/sync.runtime_Semrelease", "sync/atomic.StoreUint32"], unfollowed := true, recurses := true, apart := false }
def GroupsBuildSaid : Prop := groupsBuildRow.holds Try.pinned (OpenSpec.ofChange groupsBuildSpec)

/-- ITS FALSE NEIGHBOUR: 'it returns false'. Refute it at one input. -/
def groupsBuildWrong : ChangeSpec := { name := "groupsBuild", fn := fun _ => fun
  | [d] => { results := [.lit (.bool false)], args := [d] }
  | _ => none }
def GroupsBuildWrongFalsely : Prop := groupsBuildRow.holds Try.pinned (OpenSpec.ofChange groupsBuildWrong)

/-- 'oxbowlaw8.GroupsOrder': WHATEVER THE INPUT: true; the input reads as it did. -/
def groupsOrderSpec : ChangeSpec := { name := "groupsOrder", fn := fun _ => fun
  | [d] => { results := [.lit (.bool true)], args := [d] }
  | _ => none }
def groupsOrderRow : OpenClaim := { program := "ytjklnlocmmnclaa", sum := "97b5c78aa1c491a074bd5b36dcc0d9cd2d3ad6adc4649a707e386b6e66e3af6a", func := "oxbow/oxbowlaw8.GroupsOrder", spec := "groupsOrder", inPlace := ["sync/atomic.LoadUint32", "(*internal/sync.Mutex).Lock", "internal/race.Disable", "sync/atomic.CompareAndSwapInt32", "internal/race.Enable", "internal/race.Acquire", "(*internal/sync.Mutex).lockSlow", "internal/sync.runtime_canSpin", "internal/sync.runtime_doSpin", "internal/sync.throw", "internal/sync.runtime_nanotime", "internal/sync.runtime_SemacquireMutex", "sync/atomic.AddInt32", "(*internal/sync.Mutex).Unlock", "internal/race.ReleaseMerge", "(*internal/sync.Mutex).unlockSlow", "internal/sync.fatal", "internal/sync.runtime_Semrelease", "sync/atomic.StoreUint32"], unfollowed := true, recurses := true, apart := false }
def GroupsOrderSaid : Prop := groupsOrderRow.holds Try.pinned (OpenSpec.ofChange groupsOrderSpec)

/-- ITS FALSE NEIGHBOUR: 'it returns false'. Refute it at one input. -/
def groupsOrderWrong : ChangeSpec := { name := "groupsOrder", fn := fun _ => fun
  | [d] => { results := [.lit (.bool false)], args := [d] }
  | _ => none }
def GroupsOrderWrongFalsely : Prop := groupsOrderRow.holds Try.pinned (OpenSpec.ofChange groupsOrderWrong)

/-- 'oxbowlaw8.GroupsDeep': WHATEVER THE INPUT: true; the input reads as it did. -/
def groupsDeepSpec : ChangeSpec := { name := "groupsDeep", fn := fun _ => fun
  | [d1, d2] => { results := [.lit (.bool true)], args := [d1, d2] }
  | _ => none }
def groupsDeepRow : OpenClaim := { program := "ytjklnlocmmnclaa", sum := "97b5c78aa1c491a074bd5b36dcc0d9cd2d3ad6adc4649a707e386b6e66e3af6a", func := "oxbow/oxbowlaw8.GroupsDeep", spec := "groupsDeep", inPlace := ["sync/atomic.LoadUint32", "(*internal/sync.Mutex).Lock", "internal/race.Disable", "sync/atomic.CompareAndSwapInt32", "internal/race.Enable", "internal/race.Acquire", "(*internal/sync.Mutex).lockSlow", "internal/sync.runtime_canSpin", "internal/sync.runtime_doSpin", "internal/sync.throw", "internal/sync.runtime_nanotime", "internal/sync.runtime_SemacquireMutex", "sync/atomic.AddInt32", "(*internal/sync.Mutex).Unlock", "internal/race.ReleaseMerge", "(*internal/sync.Mutex).unlockSlow", "internal/sync.fatal", "internal/sync.runtime_Semrelease", "sync/atomic.StoreUint32"], unfollowed := true, recurses := true, apart := false }
def GroupsDeepSaid : Prop := groupsDeepRow.holds Try.pinned (OpenSpec.ofChange groupsDeepSpec)

/-- ITS FALSE NEIGHBOUR: 'it returns false'. Refute it at one input. -/
def groupsDeepWrong : ChangeSpec := { name := "groupsDeep", fn := fun _ => fun
  | [d1, d2] => { results := [.lit (.bool false)], args := [d1, d2] }
  | _ => none }
def GroupsDeepWrongFalsely : Prop := groupsDeepRow.holds Try.pinned (OpenSpec.ofChange groupsDeepWrong)

/-- 'oxbowlaw8.GroupsRaw': WHATEVER THE INPUT: true; the input reads as it did. -/
def groupsRawSpec : ChangeSpec := { name := "groupsRaw", fn := fun _ => fun
  | [d] => { results := [.lit (.bool true)], args := [d] }
  | _ => none }
def groupsRawRow : OpenClaim := { program := "ytjklnlocmmnclaa", sum := "97b5c78aa1c491a074bd5b36dcc0d9cd2d3ad6adc4649a707e386b6e66e3af6a", func := "oxbow/oxbowlaw8.GroupsRaw", spec := "groupsRaw", inPlace := ["sync/atomic.LoadUint32", "(*internal/sync.Mutex).Lock", "internal/race.Disable", "sync/atomic.CompareAndSwapInt32", "internal/race.Enable", "internal/race.Acquire", "(*internal/sync.Mutex).lockSlow", "internal/sync.runtime_canSpin", "internal/sync.runtime_doSpin", "internal/sync.throw", "internal/sync.runtime_nanotime", "internal/sync.runtime_SemacquireMutex", "sync/atomic.AddInt32", "(*internal/sync.Mutex).Unlock", "internal/race.ReleaseMerge", "(*internal/sync.Mutex).unlockSlow", "internal/sync.fatal", "internal/sync.runtime_Semrelease", "sync/atomic.StoreUint32"], unfollowed := true, recurses := true, loops := true, apart := false }
def GroupsRawSaid : Prop := groupsRawRow.holds Try.pinned (OpenSpec.ofChange groupsRawSpec)

/-- ITS FALSE NEIGHBOUR: 'it returns false'. Refute it at one input. -/
def groupsRawWrong : ChangeSpec := { name := "groupsRaw", fn := fun _ => fun
  | [d] => { results := [.lit (.bool false)], args := [d] }
  | _ => none }
def GroupsRawWrongFalsely : Prop := groupsRawRow.holds Try.pinned (OpenSpec.ofChange groupsRawWrong)

/- THE SECOND FORM. 'bulk': how many values and letters a reading holds, each counted each time it is reached (what is shared counts as often as it is met; a slice's spare places count too). A statement '..UptoSaid' is the law's where the arguments, and the package variables that the reading takes, are together of bulk at most 1048576: NARROWER than '..Said'. Prove '..Said' where nothing that the law and all that it calls make is longer than what came in: it says more and counts as full. Else prove '..UptoSaid'. A law counts once. -/
mutual
def uptoBulk {H : Type} : DataW H → Nat
  | .lit (.string bytes) => bytes.length + 1
  | .lit _ => 1
  | .nil => 1
  | .ptr d => uptoBulk d + 1
  | .slice elems spare => uptoBulkAll elems + uptoBulkAll spare + 1
  | .agg parts => uptoBulkAll parts + 1
  | .iface _ d => uptoBulk d + 1
  | .map entries => uptoBulkEntries entries + 1
  | .held _ => 1
def uptoBulkAll {H : Type} : List (DataW H) → Nat
  | [] => 0
  | d :: r => uptoBulk d + uptoBulkAll r
def uptoBulkEntries {H : Type} : List (Lit × DataW H) → Nat
  | [] => 0
  | x :: r => uptoBulkEntry x + uptoBulkEntries r
def uptoBulkEntry {H : Type} : Lit × DataW H → Nat
  | (.string bytes, d) => bytes.length + uptoBulk d + 1
  | (_, d) => uptoBulk d + 1
 end
def uptoSmall : (H : Type) → List (DataW H) → Bool := fun _ ds => decide (uptoBulkAll ds ≤ 1048576)
def OpenSpec.upto (s : _root_.Go.ChangeSpec) : _root_.Go.OpenSpec := { _root_.Go.OpenSpec.ofChange s with cond := some uptoSmall }

/-- 'oxbowlaw7.DirectKinds', WHERE WHAT IT READS IS OF BULK AT MOST 1048576: true; the input reads as it did. -/
def directKindsUptoRow : OpenClaim := { program := "ytjklnlocmmnclaa", sum := "97b5c78aa1c491a074bd5b36dcc0d9cd2d3ad6adc4649a707e386b6e66e3af6a", func := "oxbow/oxbowlaw7.DirectKinds", spec := "directKinds", inPlace := ["sync/atomic.LoadUint32", "(*internal/sync.Mutex).Lock", "internal/race.Disable", "sync/atomic.CompareAndSwapInt32", "internal/race.Enable", "internal/race.Acquire", "(*internal/sync.Mutex).lockSlow", "internal/sync.runtime_canSpin", "internal/sync.runtime_doSpin", "internal/sync.throw", "internal/sync.runtime_nanotime", "internal/sync.runtime_SemacquireMutex", "sync/atomic.AddInt32", "(*internal/sync.Mutex).Unlock", "internal/race.ReleaseMerge", "(*internal/sync.Mutex).unlockSlow", "internal/sync.fatal", "internal/sync.runtime_Semrelease", "sync/atomic.StoreUint32"], unfollowed := true, recurses := true, apart := false, narrowed := true }
def DirectKindsUptoSaid : Prop := directKindsUptoRow.holds Try.pinned (OpenSpec.upto directKindsSpec)

/-- 'oxbowlaw7.DirectWords', WHERE WHAT IT READS IS OF BULK AT MOST 1048576: true; the input reads as it did. -/
def directWordsUptoRow : OpenClaim := { program := "ytjklnlocmmnclaa", sum := "97b5c78aa1c491a074bd5b36dcc0d9cd2d3ad6adc4649a707e386b6e66e3af6a", func := "oxbow/oxbowlaw7.DirectWords", spec := "directWords", inPlace := ["sync/atomic.LoadUint32", "(*internal/sync.Mutex).Lock", "internal/race.Disable", "sync/atomic.CompareAndSwapInt32", "internal/race.Enable", "internal/race.Acquire", "(*internal/sync.Mutex).lockSlow", "internal/sync.runtime_canSpin", "internal/sync.runtime_doSpin", "internal/sync.throw", "internal/sync.runtime_nanotime", "internal/sync.runtime_SemacquireMutex", "sync/atomic.AddInt32", "(*internal/sync.Mutex).Unlock", "internal/race.ReleaseMerge", "(*internal/sync.Mutex).unlockSlow", "internal/sync.fatal", "internal/sync.runtime_Semrelease", "sync/atomic.StoreUint32"], unfollowed := true, recurses := true, apart := false, narrowed := true }
def DirectWordsUptoSaid : Prop := directWordsUptoRow.holds Try.pinned (OpenSpec.upto directWordsSpec)

/-- 'oxbowlaw7.DirectRest', WHERE WHAT IT READS IS OF BULK AT MOST 1048576: true; the input reads as it did. -/
def directRestUptoRow : OpenClaim := { program := "ytjklnlocmmnclaa", sum := "97b5c78aa1c491a074bd5b36dcc0d9cd2d3ad6adc4649a707e386b6e66e3af6a", func := "oxbow/oxbowlaw7.DirectRest", spec := "directRest", inPlace := ["sync/atomic.LoadUint32", "(*internal/sync.Mutex).Lock", "internal/race.Disable", "sync/atomic.CompareAndSwapInt32", "internal/race.Enable", "internal/race.Acquire", "(*internal/sync.Mutex).lockSlow", "internal/sync.runtime_canSpin", "internal/sync.runtime_doSpin", "internal/sync.throw", "internal/sync.runtime_nanotime", "internal/sync.runtime_SemacquireMutex", "sync/atomic.AddInt32", "(*internal/sync.Mutex).Unlock", "internal/race.ReleaseMerge", "(*internal/sync.Mutex).unlockSlow", "internal/sync.fatal", "internal/sync.runtime_Semrelease", "sync/atomic.StoreUint32"], unfollowed := true, recurses := true, apart := false, narrowed := true }
def DirectRestUptoSaid : Prop := directRestUptoRow.holds Try.pinned (OpenSpec.upto directRestSpec)

/-- 'oxbowlaw8.GroupsBuild', WHERE WHAT IT READS IS OF BULK AT MOST 1048576: true; the input reads as it did. -/
def groupsBuildUptoRow : OpenClaim := { program := "ytjklnlocmmnclaa", sum := "97b5c78aa1c491a074bd5b36dcc0d9cd2d3ad6adc4649a707e386b6e66e3af6a", func := "oxbow/oxbowlaw8.GroupsBuild", spec := "groupsBuild", inPlace := ["sync/atomic.LoadUint32", "(*internal/sync.Mutex).Lock", "internal/race.Disable", "sync/atomic.CompareAndSwapInt32", "internal/race.Enable", "internal/race.Acquire", "(*internal/sync.Mutex).lockSlow", "internal/sync.runtime_canSpin", "internal/sync.runtime_doSpin", "internal/sync.throw", "internal/sync.runtime_nanotime", "internal/sync.runtime_SemacquireMutex", "sync/atomic.AddInt32", "(*internal/sync.Mutex).Unlock", "internal/race.ReleaseMerge", "(*internal/sync.Mutex).unlockSlow", "internal/sync.fatal", "internal/sync.runtime_Semrelease", "sync/atomic.StoreUint32"], unfollowed := true, recurses := true, apart := false, narrowed := true }
def GroupsBuildUptoSaid : Prop := groupsBuildUptoRow.holds Try.pinned (OpenSpec.upto groupsBuildSpec)

/-- 'oxbowlaw8.GroupsOrder', WHERE WHAT IT READS IS OF BULK AT MOST 1048576: true; the input reads as it did. -/
def groupsOrderUptoRow : OpenClaim := { program := "ytjklnlocmmnclaa", sum := "97b5c78aa1c491a074bd5b36dcc0d9cd2d3ad6adc4649a707e386b6e66e3af6a", func := "oxbow/oxbowlaw8.GroupsOrder", spec := "groupsOrder", inPlace := ["sync/atomic.LoadUint32", "(*internal/sync.Mutex).Lock", "internal/race.Disable", "sync/atomic.CompareAndSwapInt32", "internal/race.Enable", "internal/race.Acquire", "(*internal/sync.Mutex).lockSlow", "internal/sync.runtime_canSpin", "internal/sync.runtime_doSpin", "internal/sync.throw", "internal/sync.runtime_nanotime", "internal/sync.runtime_SemacquireMutex", "sync/atomic.AddInt32", "(*internal/sync.Mutex).Unlock", "internal/race.ReleaseMerge", "(*internal/sync.Mutex).unlockSlow", "internal/sync.fatal", "internal/sync.runtime_Semrelease", "sync/atomic.StoreUint32"], unfollowed := true, recurses := true, apart := false, narrowed := true }
def GroupsOrderUptoSaid : Prop := groupsOrderUptoRow.holds Try.pinned (OpenSpec.upto groupsOrderSpec)

/-- 'oxbowlaw8.GroupsDeep', WHERE WHAT IT READS IS OF BULK AT MOST 1048576: true; the input reads as it did. -/
def groupsDeepUptoRow : OpenClaim := { program := "ytjklnlocmmnclaa", sum := "97b5c78aa1c491a074bd5b36dcc0d9cd2d3ad6adc4649a707e386b6e66e3af6a", func := "oxbow/oxbowlaw8.GroupsDeep", spec := "groupsDeep", inPlace := ["sync/atomic.LoadUint32", "(*internal/sync.Mutex).Lock", "internal/race.Disable", "sync/atomic.CompareAndSwapInt32", "internal/race.Enable", "internal/race.Acquire", "(*internal/sync.Mutex).lockSlow", "internal/sync.runtime_canSpin", "internal/sync.runtime_doSpin", "internal/sync.throw", "internal/sync.runtime_nanotime", "internal/sync.runtime_SemacquireMutex", "sync/atomic.AddInt32", "(*internal/sync.Mutex).Unlock", "internal/race.ReleaseMerge", "(*internal/sync.Mutex).unlockSlow", "internal/sync.fatal", "internal/sync.runtime_Semrelease", "sync/atomic.StoreUint32"], unfollowed := true, recurses := true, apart := false, narrowed := true }
def GroupsDeepUptoSaid : Prop := groupsDeepUptoRow.holds Try.pinned (OpenSpec.upto groupsDeepSpec)

/-- 'oxbowlaw8.GroupsRaw', WHERE WHAT IT READS IS OF BULK AT MOST 1048576: true; the input reads as it did. -/
def groupsRawUptoRow : OpenClaim := { program := "ytjklnlocmmnclaa", sum := "97b5c78aa1c491a074bd5b36dcc0d9cd2d3ad6adc4649a707e386b6e66e3af6a", func := "oxbow/oxbowlaw8.GroupsRaw", spec := "groupsRaw", inPlace := ["sync/atomic.LoadUint32", "(*internal/sync.Mutex).Lock", "internal/race.Disable", "sync/atomic.CompareAndSwapInt32", "internal/race.Enable", "internal/race.Acquire", "(*internal/sync.Mutex).lockSlow", "internal/sync.runtime_canSpin", "internal/sync.runtime_doSpin", "internal/sync.throw", "internal/sync.runtime_nanotime", "internal/sync.runtime_SemacquireMutex", "sync/atomic.AddInt32", "(*internal/sync.Mutex).Unlock", "internal/race.ReleaseMerge", "(*internal/sync.Mutex).unlockSlow", "internal/sync.fatal", "internal/sync.runtime_Semrelease", "sync/atomic.StoreUint32"], unfollowed := true, recurses := true, loops := true, apart := false, narrowed := true }
def GroupsRawUptoSaid : Prop := groupsRawUptoRow.holds Try.pinned (OpenSpec.upto groupsRawSpec)

end Rows
end Go.Proofs.Ytjklnlocmmnclaa
