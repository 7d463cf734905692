/-
  No cell of these rows narrows 'for every input' (looked for: loops, veiled, ifaces, maps, wideKeys, modest, calm, conditions, laid).
  DERIVED. THE GIVEN ROWS OF THIS SEAT. 6 by the template 'for every input the law returns true; each argument reads behind the call as it read before'; 0 by the template 'total and deterministic' (their statements: YtloambokbipnjaaTotals.lean).
  GIVEN WITH THE SEED: the statements are not yours to turn. If you find one false, say at which input.
  Laid BY PROGRAM, IN A SANDBOX (cutbox-rows.mjs): the forced cells as the released guide's own fill.sh prints them over the translation b3f965ae410355c5… (all of the seat's roots in one cut). By AI agents, Wed Nov 11 2026. No macro, syntax, notation, axiom, sorry.
-/
import Derived.Test.YtloambokbipnjaaChecked
import GoSem.Claim
import GoSem.ClaimJoined
import GoSem.ClaimMapViews
import Derived.JoinedTies
import Derived.KernelRfl
namespace Go.Proofs.Ytloambokbipnjaa
/- THE CELL 'sum', in the pinned program and in every row, IS THE sha256 OF THE DUMP (.gsa) THAT YtloambokbipnjaaProg.lean LOADS. Nothing in Lean hashes anything: it is a label: what it is worth is what the hold of that sum in a sandbox is worth. -/
noncomputable def Try.pinned : Pinned := { name := "ytloambokbipnjaa", sum := "b3f965ae410355c5e00a0fe50b4e606b9388f773673d14d9642aec8a23274eb8", checked := Try.checked }
namespace Rows
def none {H : Type} : Left H := { results := [], args := [] }

/-- 'bursarlaw14.HoldParts': WHATEVER THE INPUT: true; the input reads as it did. -/
def holdPartsSpec : ChangeSpec := { name := "holdParts", fn := fun _ => fun
  | [d1, d2, d3] => { results := [.lit (.bool true)], args := [d1, d2, d3] }
  | _ => none }
def holdPartsRow : OpenClaim := { program := "ytloambokbipnjaa", sum := "b3f965ae410355c5e00a0fe50b4e606b9388f773673d14d9642aec8a23274eb8", func := "bursar/bursarlaw14.HoldParts", spec := "holdParts", inPlace := ["math/bits.Add64"], unfollowed := true, recurses := true, apart := false }
def HoldPartsSaid : Prop := holdPartsRow.holds Try.pinned (OpenSpec.ofChange holdPartsSpec)

/-- ITS FALSE NEIGHBOUR: 'it returns false'. Refute it at one input. -/
def holdPartsWrong : ChangeSpec := { name := "holdParts", fn := fun _ => fun
  | [d1, d2, d3] => { results := [.lit (.bool false)], args := [d1, d2, d3] }
  | _ => none }
def HoldPartsWrongFalsely : Prop := holdPartsRow.holds Try.pinned (OpenSpec.ofChange holdPartsWrong)

/-- 'bursarlaw14.HoldSums': WHATEVER THE INPUT: true; the input reads as it did. -/
def holdSumsSpec : ChangeSpec := { name := "holdSums", fn := fun _ => fun
  | [d1, d2] => { results := [.lit (.bool true)], args := [d1, d2] }
  | _ => none }
def holdSumsRow : OpenClaim := { program := "ytloambokbipnjaa", sum := "b3f965ae410355c5e00a0fe50b4e606b9388f773673d14d9642aec8a23274eb8", func := "bursar/bursarlaw14.HoldSums", spec := "holdSums", inPlace := ["math/bits.Add64"], unfollowed := true, recurses := true, apart := false }
def HoldSumsSaid : Prop := holdSumsRow.holds Try.pinned (OpenSpec.ofChange holdSumsSpec)

/-- ITS FALSE NEIGHBOUR: 'it returns false'. Refute it at one input. -/
def holdSumsWrong : ChangeSpec := { name := "holdSums", fn := fun _ => fun
  | [d1, d2] => { results := [.lit (.bool false)], args := [d1, d2] }
  | _ => none }
def HoldSumsWrongFalsely : Prop := holdSumsRow.holds Try.pinned (OpenSpec.ofChange holdSumsWrong)

/-- 'bursarlaw14.HoldKeeps': WHATEVER THE INPUT: true; the input reads as it did. -/
def holdKeepsSpec : ChangeSpec := { name := "holdKeeps", fn := fun _ => fun
  | [d1, d2] => { results := [.lit (.bool true)], args := [d1, d2] }
  | _ => none }
def holdKeepsRow : OpenClaim := { program := "ytloambokbipnjaa", sum := "b3f965ae410355c5e00a0fe50b4e606b9388f773673d14d9642aec8a23274eb8", func := "bursar/bursarlaw14.HoldKeeps", spec := "holdKeeps", inPlace := ["math/bits.Add64"], unfollowed := true, recurses := true, apart := false }
def HoldKeepsSaid : Prop := holdKeepsRow.holds Try.pinned (OpenSpec.ofChange holdKeepsSpec)

/-- ITS FALSE NEIGHBOUR: 'it returns false'. Refute it at one input. -/
def holdKeepsWrong : ChangeSpec := { name := "holdKeeps", fn := fun _ => fun
  | [d1, d2] => { results := [.lit (.bool false)], args := [d1, d2] }
  | _ => none }
def HoldKeepsWrongFalsely : Prop := holdKeepsRow.holds Try.pinned (OpenSpec.ofChange holdKeepsWrong)

/-- 'bursarlaw18.MtiTexts': WHATEVER THE INPUT: true; the input reads as it did. -/
def mtiTextsSpec : ChangeSpec := { name := "mtiTexts", fn := fun _ => fun
  | [d1, d2] => { results := [.lit (.bool true)], args := [d1, d2] }
  | _ => none }
def mtiTextsRow : OpenClaim := { program := "ytloambokbipnjaa", sum := "b3f965ae410355c5e00a0fe50b4e606b9388f773673d14d9642aec8a23274eb8", func := "bursar/bursarlaw18.MtiTexts", spec := "mtiTexts", inPlace := ["internal/bytealg.abigen_runtime_cmpstring"], unfollowed := true, recurses := true, apart := false }
def MtiTextsSaid : Prop := mtiTextsRow.holds Try.pinned (OpenSpec.ofChange mtiTextsSpec)

/-- ITS FALSE NEIGHBOUR: 'it returns false'. Refute it at one input. -/
def mtiTextsWrong : ChangeSpec := { name := "mtiTexts", fn := fun _ => fun
  | [d1, d2] => { results := [.lit (.bool false)], args := [d1, d2] }
  | _ => none }
def MtiTextsWrongFalsely : Prop := mtiTextsRow.holds Try.pinned (OpenSpec.ofChange mtiTextsWrong)

/-- 'bursarlaw18.MtiAnswers': WHATEVER THE INPUT: true; the input reads as it did. -/
def mtiAnswersSpec : ChangeSpec := { name := "mtiAnswers", fn := fun _ => fun
  | [d] => { results := [.lit (.bool true)], args := [d] }
  | _ => none }
def mtiAnswersRow : OpenClaim := { program := "ytloambokbipnjaa", sum := "b3f965ae410355c5e00a0fe50b4e606b9388f773673d14d9642aec8a23274eb8", func := "bursar/bursarlaw18.MtiAnswers", spec := "mtiAnswers", inPlace := ["internal/bytealg.abigen_runtime_cmpstring"], unfollowed := true, recurses := true, apart := false }
def MtiAnswersSaid : Prop := mtiAnswersRow.holds Try.pinned (OpenSpec.ofChange mtiAnswersSpec)

/-- ITS FALSE NEIGHBOUR: 'it returns false'. Refute it at one input. -/
def mtiAnswersWrong : ChangeSpec := { name := "mtiAnswers", fn := fun _ => fun
  | [d] => { results := [.lit (.bool false)], args := [d] }
  | _ => none }
def MtiAnswersWrongFalsely : Prop := mtiAnswersRow.holds Try.pinned (OpenSpec.ofChange mtiAnswersWrong)

/-- 'bursarlaw18.MtiKinds': WHATEVER THE INPUT: true; the input reads as it did. -/
def mtiKindsSpec : ChangeSpec := { name := "mtiKinds", fn := fun _ => fun
  | [d] => { results := [.lit (.bool true)], args := [d] }
  | _ => none }
def mtiKindsRow : OpenClaim := { program := "ytloambokbipnjaa", sum := "b3f965ae410355c5e00a0fe50b4e606b9388f773673d14d9642aec8a23274eb8", func := "bursar/bursarlaw18.MtiKinds", spec := "mtiKinds", inPlace := ["internal/bytealg.abigen_runtime_cmpstring"], unfollowed := true, recurses := true, apart := false }
def MtiKindsSaid : Prop := mtiKindsRow.holds Try.pinned (OpenSpec.ofChange mtiKindsSpec)

/-- ITS FALSE NEIGHBOUR: 'it returns false'. Refute it at one input. -/
def mtiKindsWrong : ChangeSpec := { name := "mtiKinds", fn := fun _ => fun
  | [d] => { results := [.lit (.bool false)], args := [d] }
  | _ => none }
def MtiKindsWrongFalsely : Prop := mtiKindsRow.holds Try.pinned (OpenSpec.ofChange mtiKindsWrong)

/- THE SECOND FORM. 'bulk': how many values and letters a reading holds, each counted each time it is reached (what is shared counts as often as it is met; a slice's spare places count too). A statement '..UptoSaid' is the law's where the arguments, and the package variables that the reading takes, are together of bulk at most 1048576: NARROWER than '..Said'. Prove '..Said' where nothing that the law and all that it calls make is longer than what came in: it says more and counts as full. Else prove '..UptoSaid'. A law counts once. -/
mutual
def uptoBulk {H : Type} : DataW H → Nat
  | .lit (.string bytes) => bytes.length + 1
  | .lit _ => 1
  | .nil => 1
  | .ptr d => uptoBulk d + 1
  | .slice elems spare => uptoBulkAll elems + uptoBulkAll spare + 1
  | .agg parts => uptoBulkAll parts + 1
  | .iface _ d => uptoBulk d + 1
  | .map entries => uptoBulkEntries entries + 1
  | .held _ => 1
def uptoBulkAll {H : Type} : List (DataW H) → Nat
  | [] => 0
  | d :: r => uptoBulk d + uptoBulkAll r
def uptoBulkEntries {H : Type} : List (Lit × DataW H) → Nat
  | [] => 0
  | x :: r => uptoBulkEntry x + uptoBulkEntries r
def uptoBulkEntry {H : Type} : Lit × DataW H → Nat
  | (.string bytes, d) => bytes.length + uptoBulk d + 1
  | (_, d) => uptoBulk d + 1
 end
def uptoSmall : (H : Type) → List (DataW H) → Bool := fun _ ds => decide (uptoBulkAll ds ≤ 1048576)
def OpenSpec.upto (s : _root_.Go.ChangeSpec) : _root_.Go.OpenSpec := { _root_.Go.OpenSpec.ofChange s with cond := some uptoSmall }

/-- 'bursarlaw14.HoldParts', WHERE WHAT IT READS IS OF BULK AT MOST 1048576: true; the input reads as it did. -/
def holdPartsUptoRow : OpenClaim := { program := "ytloambokbipnjaa", sum := "b3f965ae410355c5e00a0fe50b4e606b9388f773673d14d9642aec8a23274eb8", func := "bursar/bursarlaw14.HoldParts", spec := "holdParts", inPlace := ["math/bits.Add64"], unfollowed := true, recurses := true, apart := false, narrowed := true }
def HoldPartsUptoSaid : Prop := holdPartsUptoRow.holds Try.pinned (OpenSpec.upto holdPartsSpec)

/-- 'bursarlaw14.HoldSums', WHERE WHAT IT READS IS OF BULK AT MOST 1048576: true; the input reads as it did. -/
def holdSumsUptoRow : OpenClaim := { program := "ytloambokbipnjaa", sum := "b3f965ae410355c5e00a0fe50b4e606b9388f773673d14d9642aec8a23274eb8", func := "bursar/bursarlaw14.HoldSums", spec := "holdSums", inPlace := ["math/bits.Add64"], unfollowed := true, recurses := true, apart := false, narrowed := true }
def HoldSumsUptoSaid : Prop := holdSumsUptoRow.holds Try.pinned (OpenSpec.upto holdSumsSpec)

/-- 'bursarlaw14.HoldKeeps', WHERE WHAT IT READS IS OF BULK AT MOST 1048576: true; the input reads as it did. -/
def holdKeepsUptoRow : OpenClaim := { program := "ytloambokbipnjaa", sum := "b3f965ae410355c5e00a0fe50b4e606b9388f773673d14d9642aec8a23274eb8", func := "bursar/bursarlaw14.HoldKeeps", spec := "holdKeeps", inPlace := ["math/bits.Add64"], unfollowed := true, recurses := true, apart := false, narrowed := true }
def HoldKeepsUptoSaid : Prop := holdKeepsUptoRow.holds Try.pinned (OpenSpec.upto holdKeepsSpec)

/-- 'bursarlaw18.MtiTexts', WHERE WHAT IT READS IS OF BULK AT MOST 1048576: true; the input reads as it did. -/
def mtiTextsUptoRow : OpenClaim := { program := "ytloambokbipnjaa", sum := "b3f965ae410355c5e00a0fe50b4e606b9388f773673d14d9642aec8a23274eb8", func := "bursar/bursarlaw18.MtiTexts", spec := "mtiTexts", inPlace := ["internal/bytealg.abigen_runtime_cmpstring"], unfollowed := true, recurses := true, apart := false, narrowed := true }
def MtiTextsUptoSaid : Prop := mtiTextsUptoRow.holds Try.pinned (OpenSpec.upto mtiTextsSpec)

/-- 'bursarlaw18.MtiAnswers', WHERE WHAT IT READS IS OF BULK AT MOST 1048576: true; the input reads as it did. -/
def mtiAnswersUptoRow : OpenClaim := { program := "ytloambokbipnjaa", sum := "b3f965ae410355c5e00a0fe50b4e606b9388f773673d14d9642aec8a23274eb8", func := "bursar/bursarlaw18.MtiAnswers", spec := "mtiAnswers", inPlace := ["internal/bytealg.abigen_runtime_cmpstring"], unfollowed := true, recurses := true, apart := false, narrowed := true }
def MtiAnswersUptoSaid : Prop := mtiAnswersUptoRow.holds Try.pinned (OpenSpec.upto mtiAnswersSpec)

/-- 'bursarlaw18.MtiKinds', WHERE WHAT IT READS IS OF BULK AT MOST 1048576: true; the input reads as it did. -/
def mtiKindsUptoRow : OpenClaim := { program := "ytloambokbipnjaa", sum := "b3f965ae410355c5e00a0fe50b4e606b9388f773673d14d9642aec8a23274eb8", func := "bursar/bursarlaw18.MtiKinds", spec := "mtiKinds", inPlace := ["internal/bytealg.abigen_runtime_cmpstring"], unfollowed := true, recurses := true, apart := false, narrowed := true }
def MtiKindsUptoSaid : Prop := mtiKindsUptoRow.holds Try.pinned (OpenSpec.upto mtiKindsSpec)

end Rows
end Go.Proofs.Ytloambokbipnjaa
