/-
  NARROWER THAN 'FOR EVERY INPUT', by the rows' own cells (each row's printed sentence says how): StanPlays: loops · StanEchoes: loops.
  DERIVED. THE GIVEN ROWS OF THIS SEAT. 6 by the template 'for every input the law returns true; each argument reads behind the call as it read before'; 0 by the template 'total and deterministic' (their statements: YtgeiimifhbiklaaTotals.lean).
  GIVEN WITH THE SEED: the statements are not yours to turn. If you find one false, say at which input.
  Laid BY PROGRAM, IN A SANDBOX (cutbox-rows.mjs): the forced cells as the released guide's own fill.sh prints them over the translation 9e92d93f7d85eb11… (all of the seat's roots in one cut). By AI agents, Wed Nov 11 2026. No macro, syntax, notation, axiom, sorry.
-/
import Derived.Test.YtgeiimifhbiklaaChecked
import GoSem.Claim
import GoSem.ClaimJoined
import GoSem.ClaimMapViews
import Derived.JoinedTies
import Derived.KernelRfl
namespace Go.Proofs.Ytgeiimifhbiklaa
/- THE CELL 'sum', in the pinned program and in every row, IS THE sha256 OF THE DUMP (.gsa) THAT YtgeiimifhbiklaaProg.lean LOADS. Nothing in Lean hashes anything: it is a label: what it is worth is what the hold of that sum in a sandbox is worth. -/
noncomputable def Try.pinned : Pinned := { name := "ytgeiimifhbiklaa", sum := "9e92d93f7d85eb11d0c56d946dd101d6d8de2ae3bd197c2ec1a96410c9957dac", checked := Try.checked }
namespace Rows
def none {H : Type} : Left H := { results := [], args := [] }

/-- 'turnstilelaw18.StanPlays': WHATEVER THE INPUT: true; the input reads as it did. -/
def stanPlaysSpec : ChangeSpec := { name := "stanPlays", fn := fun _ => fun
  | [d1, d2, d3] => { results := [.lit (.bool true)], args := [d1, d2, d3] }
  | _ => none }
def stanPlaysRow : OpenClaim := { program := "ytgeiimifhbiklaa", sum := "9e92d93f7d85eb11d0c56d946dd101d6d8de2ae3bd197c2ec1a96410c9957dac", func := "turnstile/turnstilelaw18.StanPlays", spec := "stanPlays", inPlace := ["slices.overlaps[turnstile/api.Field]"], unfollowed := true, recurses := true, loops := true, apart := false }
def StanPlaysSaid : Prop := stanPlaysRow.holds Try.pinned (OpenSpec.ofChange stanPlaysSpec)

/-- ITS FALSE NEIGHBOUR: 'it returns false'. Refute it at one input. -/
def stanPlaysWrong : ChangeSpec := { name := "stanPlays", fn := fun _ => fun
  | [d1, d2, d3] => { results := [.lit (.bool false)], args := [d1, d2, d3] }
  | _ => none }
def StanPlaysWrongFalsely : Prop := stanPlaysRow.holds Try.pinned (OpenSpec.ofChange stanPlaysWrong)

/-- 'turnstilelaw18.StanDealt': WHATEVER THE INPUT: true; the input reads as it did. -/
def stanDealtSpec : ChangeSpec := { name := "stanDealt", fn := fun _ => fun
  | [d1, d2] => { results := [.lit (.bool true)], args := [d1, d2] }
  | _ => none }
def stanDealtRow : OpenClaim := { program := "ytgeiimifhbiklaa", sum := "9e92d93f7d85eb11d0c56d946dd101d6d8de2ae3bd197c2ec1a96410c9957dac", func := "turnstile/turnstilelaw18.StanDealt", spec := "stanDealt", inPlace := ["slices.overlaps[turnstile/api.Field]"], unfollowed := true, recurses := true, apart := false }
def StanDealtSaid : Prop := stanDealtRow.holds Try.pinned (OpenSpec.ofChange stanDealtSpec)

/-- ITS FALSE NEIGHBOUR: 'it returns false'. Refute it at one input. -/
def stanDealtWrong : ChangeSpec := { name := "stanDealt", fn := fun _ => fun
  | [d1, d2] => { results := [.lit (.bool false)], args := [d1, d2] }
  | _ => none }
def StanDealtWrongFalsely : Prop := stanDealtRow.holds Try.pinned (OpenSpec.ofChange stanDealtWrong)

/-- 'turnstilelaw18.StanEchoes': WHATEVER THE INPUT: true; the input reads as it did. -/
def stanEchoesSpec : ChangeSpec := { name := "stanEchoes", fn := fun _ => fun
  | [d1, d2, d3] => { results := [.lit (.bool true)], args := [d1, d2, d3] }
  | _ => none }
def stanEchoesRow : OpenClaim := { program := "ytgeiimifhbiklaa", sum := "9e92d93f7d85eb11d0c56d946dd101d6d8de2ae3bd197c2ec1a96410c9957dac", func := "turnstile/turnstilelaw18.StanEchoes", spec := "stanEchoes", inPlace := ["slices.overlaps[turnstile/api.Field]"], unfollowed := true, recurses := true, loops := true, apart := false }
def StanEchoesSaid : Prop := stanEchoesRow.holds Try.pinned (OpenSpec.ofChange stanEchoesSpec)

/-- ITS FALSE NEIGHBOUR: 'it returns false'. Refute it at one input. -/
def stanEchoesWrong : ChangeSpec := { name := "stanEchoes", fn := fun _ => fun
  | [d1, d2, d3] => { results := [.lit (.bool false)], args := [d1, d2, d3] }
  | _ => none }
def StanEchoesWrongFalsely : Prop := stanEchoesRow.holds Try.pinned (OpenSpec.ofChange stanEchoesWrong)

/-- 'turnstilelaw18.StanBack': WHATEVER THE INPUT: true; the input reads as it did. -/
def stanBackSpec : ChangeSpec := { name := "stanBack", fn := fun _ => fun
  | [d1, d2, d3, d4, d5, d6] => { results := [.lit (.bool true)], args := [d1, d2, d3, d4, d5, d6] }
  | _ => none }
def stanBackRow : OpenClaim := { program := "ytgeiimifhbiklaa", sum := "9e92d93f7d85eb11d0c56d946dd101d6d8de2ae3bd197c2ec1a96410c9957dac", func := "turnstile/turnstilelaw18.StanBack", spec := "stanBack", inPlace := ["slices.overlaps[turnstile/api.Field]"], unfollowed := true, recurses := true, apart := false }
def StanBackSaid : Prop := stanBackRow.holds Try.pinned (OpenSpec.ofChange stanBackSpec)

/-- ITS FALSE NEIGHBOUR: 'it returns false'. Refute it at one input. -/
def stanBackWrong : ChangeSpec := { name := "stanBack", fn := fun _ => fun
  | [d1, d2, d3, d4, d5, d6] => { results := [.lit (.bool false)], args := [d1, d2, d3, d4, d5, d6] }
  | _ => none }
def StanBackWrongFalsely : Prop := stanBackRow.holds Try.pinned (OpenSpec.ofChange stanBackWrong)

/-- 'turnstilelaw18.StanFields': WHATEVER THE INPUT: true; the input reads as it did. -/
def stanFieldsSpec : ChangeSpec := { name := "stanFields", fn := fun _ => fun
  | [d1, d2] => { results := [.lit (.bool true)], args := [d1, d2] }
  | _ => none }
def stanFieldsRow : OpenClaim := { program := "ytgeiimifhbiklaa", sum := "9e92d93f7d85eb11d0c56d946dd101d6d8de2ae3bd197c2ec1a96410c9957dac", func := "turnstile/turnstilelaw18.StanFields", spec := "stanFields", inPlace := ["slices.overlaps[turnstile/api.Field]"], unfollowed := true, recurses := true, apart := false }
def StanFieldsSaid : Prop := stanFieldsRow.holds Try.pinned (OpenSpec.ofChange stanFieldsSpec)

/-- ITS FALSE NEIGHBOUR: 'it returns false'. Refute it at one input. -/
def stanFieldsWrong : ChangeSpec := { name := "stanFields", fn := fun _ => fun
  | [d1, d2] => { results := [.lit (.bool false)], args := [d1, d2] }
  | _ => none }
def StanFieldsWrongFalsely : Prop := stanFieldsRow.holds Try.pinned (OpenSpec.ofChange stanFieldsWrong)

/-- 'turnstilelaw18.StanTells': WHATEVER THE INPUT: true; the input reads as it did. -/
def stanTellsSpec : ChangeSpec := { name := "stanTells", fn := fun _ => fun
  | [d1, d2] => { results := [.lit (.bool true)], args := [d1, d2] }
  | _ => none }
def stanTellsRow : OpenClaim := { program := "ytgeiimifhbiklaa", sum := "9e92d93f7d85eb11d0c56d946dd101d6d8de2ae3bd197c2ec1a96410c9957dac", func := "turnstile/turnstilelaw18.StanTells", spec := "stanTells", inPlace := ["slices.overlaps[turnstile/api.Field]"], unfollowed := true, recurses := true, apart := false }
def StanTellsSaid : Prop := stanTellsRow.holds Try.pinned (OpenSpec.ofChange stanTellsSpec)

/-- ITS FALSE NEIGHBOUR: 'it returns false'. Refute it at one input. -/
def stanTellsWrong : ChangeSpec := { name := "stanTells", fn := fun _ => fun
  | [d1, d2] => { results := [.lit (.bool false)], args := [d1, d2] }
  | _ => none }
def StanTellsWrongFalsely : Prop := stanTellsRow.holds Try.pinned (OpenSpec.ofChange stanTellsWrong)

/- THE SECOND FORM. 'bulk': how many values and letters a reading holds, each counted each time it is reached (what is shared counts as often as it is met; a slice's spare places count too). A statement '..UptoSaid' is the law's where the arguments, and the package variables that the reading takes, are together of bulk at most 1048576: NARROWER than '..Said'. Prove '..Said' where nothing that the law and all that it calls make is longer than what came in: it says more and counts as full. Else prove '..UptoSaid'. A law counts once. -/
mutual
def uptoBulk {H : Type} : DataW H → Nat
  | .lit (.string bytes) => bytes.length + 1
  | .lit _ => 1
  | .nil => 1
  | .ptr d => uptoBulk d + 1
  | .slice elems spare => uptoBulkAll elems + uptoBulkAll spare + 1
  | .agg parts => uptoBulkAll parts + 1
  | .iface _ d => uptoBulk d + 1
  | .map entries => uptoBulkEntries entries + 1
  | .held _ => 1
def uptoBulkAll {H : Type} : List (DataW H) → Nat
  | [] => 0
  | d :: r => uptoBulk d + uptoBulkAll r
def uptoBulkEntries {H : Type} : List (Lit × DataW H) → Nat
  | [] => 0
  | x :: r => uptoBulkEntry x + uptoBulkEntries r
def uptoBulkEntry {H : Type} : Lit × DataW H → Nat
  | (.string bytes, d) => bytes.length + uptoBulk d + 1
  | (_, d) => uptoBulk d + 1
 end
def uptoSmall : (H : Type) → List (DataW H) → Bool := fun _ ds => decide (uptoBulkAll ds ≤ 1048576)
def OpenSpec.upto (s : _root_.Go.ChangeSpec) : _root_.Go.OpenSpec := { _root_.Go.OpenSpec.ofChange s with cond := some uptoSmall }

/-- 'turnstilelaw18.StanPlays', WHERE WHAT IT READS IS OF BULK AT MOST 1048576: true; the input reads as it did. -/
def stanPlaysUptoRow : OpenClaim := { program := "ytgeiimifhbiklaa", sum := "9e92d93f7d85eb11d0c56d946dd101d6d8de2ae3bd197c2ec1a96410c9957dac", func := "turnstile/turnstilelaw18.StanPlays", spec := "stanPlays", inPlace := ["slices.overlaps[turnstile/api.Field]"], unfollowed := true, recurses := true, loops := true, apart := false, narrowed := true }
def StanPlaysUptoSaid : Prop := stanPlaysUptoRow.holds Try.pinned (OpenSpec.upto stanPlaysSpec)

/-- 'turnstilelaw18.StanDealt', WHERE WHAT IT READS IS OF BULK AT MOST 1048576: true; the input reads as it did. -/
def stanDealtUptoRow : OpenClaim := { program := "ytgeiimifhbiklaa", sum := "9e92d93f7d85eb11d0c56d946dd101d6d8de2ae3bd197c2ec1a96410c9957dac", func := "turnstile/turnstilelaw18.StanDealt", spec := "stanDealt", inPlace := ["slices.overlaps[turnstile/api.Field]"], unfollowed := true, recurses := true, apart := false, narrowed := true }
def StanDealtUptoSaid : Prop := stanDealtUptoRow.holds Try.pinned (OpenSpec.upto stanDealtSpec)

/-- 'turnstilelaw18.StanEchoes', WHERE WHAT IT READS IS OF BULK AT MOST 1048576: true; the input reads as it did. -/
def stanEchoesUptoRow : OpenClaim := { program := "ytgeiimifhbiklaa", sum := "9e92d93f7d85eb11d0c56d946dd101d6d8de2ae3bd197c2ec1a96410c9957dac", func := "turnstile/turnstilelaw18.StanEchoes", spec := "stanEchoes", inPlace := ["slices.overlaps[turnstile/api.Field]"], unfollowed := true, recurses := true, loops := true, apart := false, narrowed := true }
def StanEchoesUptoSaid : Prop := stanEchoesUptoRow.holds Try.pinned (OpenSpec.upto stanEchoesSpec)

/-- 'turnstilelaw18.StanBack', WHERE WHAT IT READS IS OF BULK AT MOST 1048576: true; the input reads as it did. -/
def stanBackUptoRow : OpenClaim := { program := "ytgeiimifhbiklaa", sum := "9e92d93f7d85eb11d0c56d946dd101d6d8de2ae3bd197c2ec1a96410c9957dac", func := "turnstile/turnstilelaw18.StanBack", spec := "stanBack", inPlace := ["slices.overlaps[turnstile/api.Field]"], unfollowed := true, recurses := true, apart := false, narrowed := true }
def StanBackUptoSaid : Prop := stanBackUptoRow.holds Try.pinned (OpenSpec.upto stanBackSpec)

/-- 'turnstilelaw18.StanFields', WHERE WHAT IT READS IS OF BULK AT MOST 1048576: true; the input reads as it did. -/
def stanFieldsUptoRow : OpenClaim := { program := "ytgeiimifhbiklaa", sum := "9e92d93f7d85eb11d0c56d946dd101d6d8de2ae3bd197c2ec1a96410c9957dac", func := "turnstile/turnstilelaw18.StanFields", spec := "stanFields", inPlace := ["slices.overlaps[turnstile/api.Field]"], unfollowed := true, recurses := true, apart := false, narrowed := true }
def StanFieldsUptoSaid : Prop := stanFieldsUptoRow.holds Try.pinned (OpenSpec.upto stanFieldsSpec)

/-- 'turnstilelaw18.StanTells', WHERE WHAT IT READS IS OF BULK AT MOST 1048576: true; the input reads as it did. -/
def stanTellsUptoRow : OpenClaim := { program := "ytgeiimifhbiklaa", sum := "9e92d93f7d85eb11d0c56d946dd101d6d8de2ae3bd197c2ec1a96410c9957dac", func := "turnstile/turnstilelaw18.StanTells", spec := "stanTells", inPlace := ["slices.overlaps[turnstile/api.Field]"], unfollowed := true, recurses := true, apart := false, narrowed := true }
def StanTellsUptoSaid : Prop := stanTellsUptoRow.holds Try.pinned (OpenSpec.upto stanTellsSpec)

end Rows
end Go.Proofs.Ytgeiimifhbiklaa
