/-
  No cell of these rows narrows 'for every input' (looked for: loops, veiled, ifaces, maps, wideKeys, modest, calm, conditions, laid).
  DERIVED. THE GIVEN ROWS OF THIS SEAT. 3 by the template 'for every input the law returns true; each argument reads behind the call as it read before'; 0 by the template 'total and deterministic' (their statements: YtdgeifgljeebbaaTotals.lean).
  GIVEN WITH THE SEED: the statements are not yours to turn. If you find one false, say at which input.
  Laid BY PROGRAM, IN A SANDBOX (cutbox-rows.mjs): the forced cells as the released guide's own fill.sh prints them over the translation 248f7937b374b4fe… (all of the seat's roots in one cut). By AI agents, Wed Nov 11 2026. No macro, syntax, notation, axiom, sorry.
-/
import Derived.Test.YtdgeifgljeebbaaChecked
import GoSem.Claim
import GoSem.ClaimJoined
import GoSem.ClaimMapViews
import Derived.JoinedTies
import Derived.KernelRfl
namespace Go.Proofs.Ytdgeifgljeebbaa
/- THE CELL 'sum', in the pinned program and in every row, IS THE sha256 OF THE DUMP (.gsa) THAT YtdgeifgljeebbaaProg.lean LOADS. Nothing in Lean hashes anything: it is a label: what it is worth is what the hold of that sum in a sandbox is worth. -/
noncomputable def Try.pinned : Pinned := { name := "ytdgeifgljeebbaa", sum := "248f7937b374b4feb3ecfd310c5c8f69b77847cb6cf4481e915d6af693ca3978", checked := Try.checked }
namespace Rows
def none {H : Type} : Left H := { results := [], args := [] }

/-- 'windbreaklaw06.PaillierEncrypts': WHATEVER THE INPUT: true; the input reads as it did. -/
def paillierEncryptsSpec : ChangeSpec := { name := "paillierEncrypts", fn := fun _ => fun
  | [d1, d2, d3] => { results := [.lit (.bool true)], args := [d1, d2, d3] }
  | _ => none }
def paillierEncryptsRow : OpenClaim := { program := "ytdgeifgljeebbaa", sum := "248f7937b374b4feb3ecfd310c5c8f69b77847cb6cf4481e915d6af693ca3978", func := "windbreak/windbreaklaw06.PaillierEncrypts", spec := "paillierEncrypts", inPlace := ["math/bits.Add64", "math/bits.Sub64"], unfollowed := true, recurses := true, named := ["math/bits.divideError", "math/bits.overflowError"], apart := false }
def PaillierEncryptsSaid : Prop := paillierEncryptsRow.holds Try.pinned (OpenSpec.ofChange paillierEncryptsSpec)

/-- ITS FALSE NEIGHBOUR: 'it returns false'. Refute it at one input. -/
def paillierEncryptsWrong : ChangeSpec := { name := "paillierEncrypts", fn := fun _ => fun
  | [d1, d2, d3] => { results := [.lit (.bool false)], args := [d1, d2, d3] }
  | _ => none }
def PaillierEncryptsWrongFalsely : Prop := paillierEncryptsRow.holds Try.pinned (OpenSpec.ofChange paillierEncryptsWrong)

/-- 'windbreaklaw06.PaillierSums': WHATEVER THE INPUT: true; the input reads as it did. -/
def paillierSumsSpec : ChangeSpec := { name := "paillierSums", fn := fun _ => fun
  | [d1, d2, d3] => { results := [.lit (.bool true)], args := [d1, d2, d3] }
  | _ => none }
def paillierSumsRow : OpenClaim := { program := "ytdgeifgljeebbaa", sum := "248f7937b374b4feb3ecfd310c5c8f69b77847cb6cf4481e915d6af693ca3978", func := "windbreak/windbreaklaw06.PaillierSums", spec := "paillierSums", inPlace := ["math/bits.Add64", "math/bits.Sub64"], unfollowed := true, recurses := true, named := ["math/bits.divideError", "math/bits.overflowError"], apart := false }
def PaillierSumsSaid : Prop := paillierSumsRow.holds Try.pinned (OpenSpec.ofChange paillierSumsSpec)

/-- ITS FALSE NEIGHBOUR: 'it returns false'. Refute it at one input. -/
def paillierSumsWrong : ChangeSpec := { name := "paillierSums", fn := fun _ => fun
  | [d1, d2, d3] => { results := [.lit (.bool false)], args := [d1, d2, d3] }
  | _ => none }
def PaillierSumsWrongFalsely : Prop := paillierSumsRow.holds Try.pinned (OpenSpec.ofChange paillierSumsWrong)

/-- 'windbreaklaw06.PaillierScales': WHATEVER THE INPUT: true; the input reads as it did. -/
def paillierScalesSpec : ChangeSpec := { name := "paillierScales", fn := fun _ => fun
  | [d1, d2, d3] => { results := [.lit (.bool true)], args := [d1, d2, d3] }
  | _ => none }
def paillierScalesRow : OpenClaim := { program := "ytdgeifgljeebbaa", sum := "248f7937b374b4feb3ecfd310c5c8f69b77847cb6cf4481e915d6af693ca3978", func := "windbreak/windbreaklaw06.PaillierScales", spec := "paillierScales", inPlace := ["math/bits.Add64", "math/bits.Sub64"], unfollowed := true, recurses := true, named := ["math/bits.divideError", "math/bits.overflowError"], apart := false }
def PaillierScalesSaid : Prop := paillierScalesRow.holds Try.pinned (OpenSpec.ofChange paillierScalesSpec)

/-- ITS FALSE NEIGHBOUR: 'it returns false'. Refute it at one input. -/
def paillierScalesWrong : ChangeSpec := { name := "paillierScales", fn := fun _ => fun
  | [d1, d2, d3] => { results := [.lit (.bool false)], args := [d1, d2, d3] }
  | _ => none }
def PaillierScalesWrongFalsely : Prop := paillierScalesRow.holds Try.pinned (OpenSpec.ofChange paillierScalesWrong)

/- THE SECOND FORM. 'bulk': how many values and letters a reading holds, each counted each time it is reached (what is shared counts as often as it is met; a slice's spare places count too). A statement '..UptoSaid' is the law's where the arguments, and the package variables that the reading takes, are together of bulk at most 1048576: NARROWER than '..Said'. Prove '..Said' where nothing that the law and all that it calls make is longer than what came in: it says more and counts as full. Else prove '..UptoSaid'. A law counts once. -/
mutual
def uptoBulk {H : Type} : DataW H → Nat
  | .lit (.string bytes) => bytes.length + 1
  | .lit _ => 1
  | .nil => 1
  | .ptr d => uptoBulk d + 1
  | .slice elems spare => uptoBulkAll elems + uptoBulkAll spare + 1
  | .agg parts => uptoBulkAll parts + 1
  | .iface _ d => uptoBulk d + 1
  | .map entries => uptoBulkEntries entries + 1
  | .held _ => 1
def uptoBulkAll {H : Type} : List (DataW H) → Nat
  | [] => 0
  | d :: r => uptoBulk d + uptoBulkAll r
def uptoBulkEntries {H : Type} : List (Lit × DataW H) → Nat
  | [] => 0
  | x :: r => uptoBulkEntry x + uptoBulkEntries r
def uptoBulkEntry {H : Type} : Lit × DataW H → Nat
  | (.string bytes, d) => bytes.length + uptoBulk d + 1
  | (_, d) => uptoBulk d + 1
 end
def uptoSmall : (H : Type) → List (DataW H) → Bool := fun _ ds => decide (uptoBulkAll ds ≤ 1048576)
def OpenSpec.upto (s : _root_.Go.ChangeSpec) : _root_.Go.OpenSpec := { _root_.Go.OpenSpec.ofChange s with cond := some uptoSmall }

/-- 'windbreaklaw06.PaillierEncrypts', WHERE WHAT IT READS IS OF BULK AT MOST 1048576: true; the input reads as it did. -/
def paillierEncryptsUptoRow : OpenClaim := { program := "ytdgeifgljeebbaa", sum := "248f7937b374b4feb3ecfd310c5c8f69b77847cb6cf4481e915d6af693ca3978", func := "windbreak/windbreaklaw06.PaillierEncrypts", spec := "paillierEncrypts", inPlace := ["math/bits.Add64", "math/bits.Sub64"], unfollowed := true, recurses := true, named := ["math/bits.divideError", "math/bits.overflowError"], apart := false, narrowed := true }
def PaillierEncryptsUptoSaid : Prop := paillierEncryptsUptoRow.holds Try.pinned (OpenSpec.upto paillierEncryptsSpec)

/-- 'windbreaklaw06.PaillierSums', WHERE WHAT IT READS IS OF BULK AT MOST 1048576: true; the input reads as it did. -/
def paillierSumsUptoRow : OpenClaim := { program := "ytdgeifgljeebbaa", sum := "248f7937b374b4feb3ecfd310c5c8f69b77847cb6cf4481e915d6af693ca3978", func := "windbreak/windbreaklaw06.PaillierSums", spec := "paillierSums", inPlace := ["math/bits.Add64", "math/bits.Sub64"], unfollowed := true, recurses := true, named := ["math/bits.divideError", "math/bits.overflowError"], apart := false, narrowed := true }
def PaillierSumsUptoSaid : Prop := paillierSumsUptoRow.holds Try.pinned (OpenSpec.upto paillierSumsSpec)

/-- 'windbreaklaw06.PaillierScales', WHERE WHAT IT READS IS OF BULK AT MOST 1048576: true; the input reads as it did. -/
def paillierScalesUptoRow : OpenClaim := { program := "ytdgeifgljeebbaa", sum := "248f7937b374b4feb3ecfd310c5c8f69b77847cb6cf4481e915d6af693ca3978", func := "windbreak/windbreaklaw06.PaillierScales", spec := "paillierScales", inPlace := ["math/bits.Add64", "math/bits.Sub64"], unfollowed := true, recurses := true, named := ["math/bits.divideError", "math/bits.overflowError"], apart := false, narrowed := true }
def PaillierScalesUptoSaid : Prop := paillierScalesUptoRow.holds Try.pinned (OpenSpec.upto paillierScalesSpec)

end Rows
end Go.Proofs.Ytdgeifgljeebbaa
