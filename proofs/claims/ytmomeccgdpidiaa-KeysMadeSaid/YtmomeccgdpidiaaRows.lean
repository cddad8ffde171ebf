/-
  No cell of these rows narrows 'for every input' (looked for: loops, veiled, ifaces, maps, wideKeys, modest, calm, conditions, laid).
  DERIVED. THE GIVEN ROWS OF THIS SEAT. 11 by the template 'for every input the law returns true; each argument reads behind the call as it read before'; 0 by the template 'total and deterministic' (their statements: YtmomeccgdpidiaaTotals.lean).
  GIVEN WITH THE SEED: the statements are not yours to turn. If you find one false, say at which input.
  Laid BY PROGRAM, IN A SANDBOX (cutbox-rows.mjs): the forced cells as the released guide's own fill.sh prints them over the translation daefb8251d58141e… (all of the seat's roots in one cut). By AI agents, Wed Nov 11 2026. No macro, syntax, notation, axiom, sorry.
-/
import Derived.Test.YtmomeccgdpidiaaChecked
import GoSem.Claim
import GoSem.ClaimJoined
import GoSem.ClaimMapViews
import Derived.JoinedTies
import Derived.KernelRfl
namespace Go.Proofs.Ytmomeccgdpidiaa
/- THE CELL 'sum', in the pinned program and in every row, IS THE sha256 OF THE DUMP (.gsa) THAT YtmomeccgdpidiaaProg.lean LOADS. Nothing in Lean hashes anything: it is a label: what it is worth is what the hold of that sum in a sandbox is worth. -/
noncomputable def Try.pinned : Pinned := { name := "ytmomeccgdpidiaa", sum := "daefb8251d58141e55a46e5b53498c353cae52c1ef36725c8468da2baf5559ea", checked := Try.checked }
namespace Rows
def none {H : Type} : Left H := { results := [], args := [] }

/-- 'hoistwaylaw06.ShelfExact': WHATEVER THE INPUT: true; the input reads as it did. -/
def shelfExactSpec : ChangeSpec := { name := "shelfExact", fn := fun _ => fun
  | [d1, d2] => { results := [.lit (.bool true)], args := [d1, d2] }
  | _ => none }
def shelfExactRow : OpenClaim := { program := "ytmomeccgdpidiaa", sum := "daefb8251d58141e55a46e5b53498c353cae52c1ef36725c8468da2baf5559ea", func := "hoistway/hoistwaylaw06.ShelfExact", spec := "shelfExact", inPlace := ["slices.overlaps[hoistway/shelf.Pair[string, int]]"], unfollowed := true, recurses := true, apart := false }
def ShelfExactSaid : Prop := shelfExactRow.holds Try.pinned (OpenSpec.ofChange shelfExactSpec)

/-- ITS FALSE NEIGHBOUR: 'it returns false'. Refute it at one input. -/
def shelfExactWrong : ChangeSpec := { name := "shelfExact", fn := fun _ => fun
  | [d1, d2] => { results := [.lit (.bool false)], args := [d1, d2] }
  | _ => none }
def ShelfExactWrongFalsely : Prop := shelfExactRow.holds Try.pinned (OpenSpec.ofChange shelfExactWrong)

/-- 'hoistwaylaw10.KeysMade': WHATEVER THE INPUT: true; the input reads as it did. -/
def keysMadeSpec : ChangeSpec := { name := "keysMade", fn := fun _ => fun
  | [d1, d2] => { results := [.lit (.bool true)], args := [d1, d2] }
  | _ => none }
def keysMadeRow : OpenClaim := { program := "ytmomeccgdpidiaa", sum := "daefb8251d58141e55a46e5b53498c353cae52c1ef36725c8468da2baf5559ea", func := "hoistway/hoistwaylaw10.KeysMade", spec := "keysMade", inPlace := ["slices.overlaps[hoistway/shelf.Pair[string, hoistway/keys.entry]]"], unfollowed := true, recurses := true, apart := false }
def KeysMadeSaid : Prop := keysMadeRow.holds Try.pinned (OpenSpec.ofChange keysMadeSpec)

/-- ITS FALSE NEIGHBOUR: 'it returns false'. Refute it at one input. -/
def keysMadeWrong : ChangeSpec := { name := "keysMade", fn := fun _ => fun
  | [d1, d2] => { results := [.lit (.bool false)], args := [d1, d2] }
  | _ => none }
def KeysMadeWrongFalsely : Prop := keysMadeRow.holds Try.pinned (OpenSpec.ofChange keysMadeWrong)

/-- 'hoistwaylaw10.KeysOnce': WHATEVER THE INPUT: true; the input reads as it did. -/
def keysOnceSpec : ChangeSpec := { name := "keysOnce", fn := fun _ => fun
  | [d1, d2] => { results := [.lit (.bool true)], args := [d1, d2] }
  | _ => none }
def keysOnceRow : OpenClaim := { program := "ytmomeccgdpidiaa", sum := "daefb8251d58141e55a46e5b53498c353cae52c1ef36725c8468da2baf5559ea", func := "hoistway/hoistwaylaw10.KeysOnce", spec := "keysOnce", inPlace := ["slices.overlaps[hoistway/shelf.Pair[string, hoistway/keys.entry]]"], unfollowed := true, recurses := true, apart := false }
def KeysOnceSaid : Prop := keysOnceRow.holds Try.pinned (OpenSpec.ofChange keysOnceSpec)

/-- ITS FALSE NEIGHBOUR: 'it returns false'. Refute it at one input. -/
def keysOnceWrong : ChangeSpec := { name := "keysOnce", fn := fun _ => fun
  | [d1, d2] => { results := [.lit (.bool false)], args := [d1, d2] }
  | _ => none }
def KeysOnceWrongFalsely : Prop := keysOnceRow.holds Try.pinned (OpenSpec.ofChange keysOnceWrong)

/-- 'hoistwaylaw10.KeysApart': WHATEVER THE INPUT: true; the input reads as it did. -/
def keysApartSpec : ChangeSpec := { name := "keysApart", fn := fun _ => fun
  | [d1, d2, d3, d4] => { results := [.lit (.bool true)], args := [d1, d2, d3, d4] }
  | _ => none }
def keysApartRow : OpenClaim := { program := "ytmomeccgdpidiaa", sum := "daefb8251d58141e55a46e5b53498c353cae52c1ef36725c8468da2baf5559ea", func := "hoistway/hoistwaylaw10.KeysApart", spec := "keysApart", inPlace := ["slices.overlaps[hoistway/shelf.Pair[string, hoistway/keys.entry]]"], unfollowed := true, recurses := true, apart := false }
def KeysApartSaid : Prop := keysApartRow.holds Try.pinned (OpenSpec.ofChange keysApartSpec)

/-- ITS FALSE NEIGHBOUR: 'it returns false'. Refute it at one input. -/
def keysApartWrong : ChangeSpec := { name := "keysApart", fn := fun _ => fun
  | [d1, d2, d3, d4] => { results := [.lit (.bool false)], args := [d1, d2, d3, d4] }
  | _ => none }
def KeysApartWrongFalsely : Prop := keysApartRow.holds Try.pinned (OpenSpec.ofChange keysApartWrong)

/-- 'hoistwaylaw10.KeysExact': WHATEVER THE INPUT: true; the input reads as it did. -/
def keysExactSpec : ChangeSpec := { name := "keysExact", fn := fun _ => fun
  | [d1, d2, d3] => { results := [.lit (.bool true)], args := [d1, d2, d3] }
  | _ => none }
def keysExactRow : OpenClaim := { program := "ytmomeccgdpidiaa", sum := "daefb8251d58141e55a46e5b53498c353cae52c1ef36725c8468da2baf5559ea", func := "hoistway/hoistwaylaw10.KeysExact", spec := "keysExact", inPlace := ["slices.overlaps[hoistway/shelf.Pair[string, hoistway/keys.entry]]"], unfollowed := true, recurses := true, apart := false }
def KeysExactSaid : Prop := keysExactRow.holds Try.pinned (OpenSpec.ofChange keysExactSpec)

/-- ITS FALSE NEIGHBOUR: 'it returns false'. Refute it at one input. -/
def keysExactWrong : ChangeSpec := { name := "keysExact", fn := fun _ => fun
  | [d1, d2, d3] => { results := [.lit (.bool false)], args := [d1, d2, d3] }
  | _ => none }
def KeysExactWrongFalsely : Prop := keysExactRow.holds Try.pinned (OpenSpec.ofChange keysExactWrong)

/-- 'hoistwaylaw09.BookReplays': WHATEVER THE INPUT: true; the input reads as it did. -/
def bookReplaysSpec : ChangeSpec := { name := "bookReplays", fn := fun _ => fun
  | [d1, d2] => { results := [.lit (.bool true)], args := [d1, d2] }
  | _ => none }
def bookReplaysRow : OpenClaim := { program := "ytmomeccgdpidiaa", sum := "daefb8251d58141e55a46e5b53498c353cae52c1ef36725c8468da2baf5559ea", func := "hoistway/hoistwaylaw09.BookReplays", spec := "bookReplays", inPlace := ["slices.overlaps[hoistway/shelf.Pair[int, hoistway/api.Call]]"], unfollowed := true, recurses := true, apart := false }
def BookReplaysSaid : Prop := bookReplaysRow.holds Try.pinned (OpenSpec.ofChange bookReplaysSpec)

/-- ITS FALSE NEIGHBOUR: 'it returns false'. Refute it at one input. -/
def bookReplaysWrong : ChangeSpec := { name := "bookReplays", fn := fun _ => fun
  | [d1, d2] => { results := [.lit (.bool false)], args := [d1, d2] }
  | _ => none }
def BookReplaysWrongFalsely : Prop := bookReplaysRow.holds Try.pinned (OpenSpec.ofChange bookReplaysWrong)

/-- 'hoistwaylaw09.BookApart': WHATEVER THE INPUT: true; the input reads as it did. -/
def bookApartSpec : ChangeSpec := { name := "bookApart", fn := fun _ => fun
  | [d1, d2, d3, d4, d5] => { results := [.lit (.bool true)], args := [d1, d2, d3, d4, d5] }
  | _ => none }
def bookApartRow : OpenClaim := { program := "ytmomeccgdpidiaa", sum := "daefb8251d58141e55a46e5b53498c353cae52c1ef36725c8468da2baf5559ea", func := "hoistway/hoistwaylaw09.BookApart", spec := "bookApart", inPlace := ["slices.overlaps[hoistway/shelf.Pair[int, hoistway/api.Call]]"], unfollowed := true, recurses := true, apart := false }
def BookApartSaid : Prop := bookApartRow.holds Try.pinned (OpenSpec.ofChange bookApartSpec)

/-- ITS FALSE NEIGHBOUR: 'it returns false'. Refute it at one input. -/
def bookApartWrong : ChangeSpec := { name := "bookApart", fn := fun _ => fun
  | [d1, d2, d3, d4, d5] => { results := [.lit (.bool false)], args := [d1, d2, d3, d4, d5] }
  | _ => none }
def BookApartWrongFalsely : Prop := bookApartRow.holds Try.pinned (OpenSpec.ofChange bookApartWrong)

/-- 'hoistwaylaw09.BookExact': WHATEVER THE INPUT: true; the input reads as it did. -/
def bookExactSpec : ChangeSpec := { name := "bookExact", fn := fun _ => fun
  | [d1, d2, d3] => { results := [.lit (.bool true)], args := [d1, d2, d3] }
  | _ => none }
def bookExactRow : OpenClaim := { program := "ytmomeccgdpidiaa", sum := "daefb8251d58141e55a46e5b53498c353cae52c1ef36725c8468da2baf5559ea", func := "hoistway/hoistwaylaw09.BookExact", spec := "bookExact", inPlace := ["slices.overlaps[hoistway/shelf.Pair[int, hoistway/api.Call]]"], unfollowed := true, recurses := true, apart := false }
def BookExactSaid : Prop := bookExactRow.holds Try.pinned (OpenSpec.ofChange bookExactSpec)

/-- ITS FALSE NEIGHBOUR: 'it returns false'. Refute it at one input. -/
def bookExactWrong : ChangeSpec := { name := "bookExact", fn := fun _ => fun
  | [d1, d2, d3] => { results := [.lit (.bool false)], args := [d1, d2, d3] }
  | _ => none }
def BookExactWrongFalsely : Prop := bookExactRow.holds Try.pinned (OpenSpec.ofChange bookExactWrong)

/-- 'hoistwaylaw09.BookGoes': WHATEVER THE INPUT: true; the input reads as it did. -/
def bookGoesSpec : ChangeSpec := { name := "bookGoes", fn := fun _ => fun
  | [d1, d2, d3] => { results := [.lit (.bool true)], args := [d1, d2, d3] }
  | _ => none }
def bookGoesRow : OpenClaim := { program := "ytmomeccgdpidiaa", sum := "daefb8251d58141e55a46e5b53498c353cae52c1ef36725c8468da2baf5559ea", func := "hoistway/hoistwaylaw09.BookGoes", spec := "bookGoes", inPlace := ["slices.overlaps[hoistway/shelf.Pair[int, hoistway/api.Call]]"], unfollowed := true, recurses := true, apart := false }
def BookGoesSaid : Prop := bookGoesRow.holds Try.pinned (OpenSpec.ofChange bookGoesSpec)

/-- ITS FALSE NEIGHBOUR: 'it returns false'. Refute it at one input. -/
def bookGoesWrong : ChangeSpec := { name := "bookGoes", fn := fun _ => fun
  | [d1, d2, d3] => { results := [.lit (.bool false)], args := [d1, d2, d3] }
  | _ => none }
def BookGoesWrongFalsely : Prop := bookGoesRow.holds Try.pinned (OpenSpec.ofChange bookGoesWrong)

/-- 'hoistwaylaw11.VaultOne': WHATEVER THE INPUT: true; the input reads as it did. -/
def vaultOneSpec : ChangeSpec := { name := "vaultOne", fn := fun _ => fun
  | [d1, d2] => { results := [.lit (.bool true)], args := [d1, d2] }
  | _ => none }
def vaultOneRow : OpenClaim := { program := "ytmomeccgdpidiaa", sum := "daefb8251d58141e55a46e5b53498c353cae52c1ef36725c8468da2baf5559ea", func := "hoistway/hoistwaylaw11.VaultOne", spec := "vaultOne", inPlace := ["slices.overlaps[hoistway/shelf.Pair[int, hoistway/api.Call]]"], unfollowed := true, recurses := true, apart := false }
def VaultOneSaid : Prop := vaultOneRow.holds Try.pinned (OpenSpec.ofChange vaultOneSpec)

/-- ITS FALSE NEIGHBOUR: 'it returns false'. Refute it at one input. -/
def vaultOneWrong : ChangeSpec := { name := "vaultOne", fn := fun _ => fun
  | [d1, d2] => { results := [.lit (.bool false)], args := [d1, d2] }
  | _ => none }
def VaultOneWrongFalsely : Prop := vaultOneRow.holds Try.pinned (OpenSpec.ofChange vaultOneWrong)

/-- 'hoistwaylaw11.VaultTicks': WHATEVER THE INPUT: true; the input reads as it did. -/
def vaultTicksSpec : ChangeSpec := { name := "vaultTicks", fn := fun _ => fun
  | [d1, d2, d3, d4] => { results := [.lit (.bool true)], args := [d1, d2, d3, d4] }
  | _ => none }
def vaultTicksRow : OpenClaim := { program := "ytmomeccgdpidiaa", sum := "daefb8251d58141e55a46e5b53498c353cae52c1ef36725c8468da2baf5559ea", func := "hoistway/hoistwaylaw11.VaultTicks", spec := "vaultTicks", inPlace := ["slices.overlaps[hoistway/shelf.Pair[int, hoistway/api.Call]]"], unfollowed := true, recurses := true, apart := false }
def VaultTicksSaid : Prop := vaultTicksRow.holds Try.pinned (OpenSpec.ofChange vaultTicksSpec)

/-- ITS FALSE NEIGHBOUR: 'it returns false'. Refute it at one input. -/
def vaultTicksWrong : ChangeSpec := { name := "vaultTicks", fn := fun _ => fun
  | [d1, d2, d3, d4] => { results := [.lit (.bool false)], args := [d1, d2, d3, d4] }
  | _ => none }
def VaultTicksWrongFalsely : Prop := vaultTicksRow.holds Try.pinned (OpenSpec.ofChange vaultTicksWrong)

/- THE SECOND FORM. 'bulk': how many values and letters a reading holds, each counted each time it is reached (what is shared counts as often as it is met; a slice's spare places count too). A statement '..UptoSaid' is the law's where the arguments, and the package variables that the reading takes, are together of bulk at most 1048576: NARROWER than '..Said'. Prove '..Said' where nothing that the law and all that it calls make is longer than what came in: it says more and counts as full. Else prove '..UptoSaid'. A law counts once. -/
mutual
def uptoBulk {H : Type} : DataW H → Nat
  | .lit (.string bytes) => bytes.length + 1
  | .lit _ => 1
  | .nil => 1
  | .ptr d => uptoBulk d + 1
  | .slice elems spare => uptoBulkAll elems + uptoBulkAll spare + 1
  | .agg parts => uptoBulkAll parts + 1
  | .iface _ d => uptoBulk d + 1
  | .map entries => uptoBulkEntries entries + 1
  | .held _ => 1
def uptoBulkAll {H : Type} : List (DataW H) → Nat
  | [] => 0
  | d :: r => uptoBulk d + uptoBulkAll r
def uptoBulkEntries {H : Type} : List (Lit × DataW H) → Nat
  | [] => 0
  | x :: r => uptoBulkEntry x + uptoBulkEntries r
def uptoBulkEntry {H : Type} : Lit × DataW H → Nat
  | (.string bytes, d) => bytes.length + uptoBulk d + 1
  | (_, d) => uptoBulk d + 1
 end
def uptoSmall : (H : Type) → List (DataW H) → Bool := fun _ ds => decide (uptoBulkAll ds ≤ 1048576)
def OpenSpec.upto (s : _root_.Go.ChangeSpec) : _root_.Go.OpenSpec := { _root_.Go.OpenSpec.ofChange s with cond := some uptoSmall }

/-- 'hoistwaylaw06.ShelfExact', WHERE WHAT IT READS IS OF BULK AT MOST 1048576: true; the input reads as it did. -/
def shelfExactUptoRow : OpenClaim := { program := "ytmomeccgdpidiaa", sum := "daefb8251d58141e55a46e5b53498c353cae52c1ef36725c8468da2baf5559ea", func := "hoistway/hoistwaylaw06.ShelfExact", spec := "shelfExact", inPlace := ["slices.overlaps[hoistway/shelf.Pair[string, int]]"], unfollowed := true, recurses := true, apart := false, narrowed := true }
def ShelfExactUptoSaid : Prop := shelfExactUptoRow.holds Try.pinned (OpenSpec.upto shelfExactSpec)

/-- 'hoistwaylaw10.KeysMade', WHERE WHAT IT READS IS OF BULK AT MOST 1048576: true; the input reads as it did. -/
def keysMadeUptoRow : OpenClaim := { program := "ytmomeccgdpidiaa", sum := "daefb8251d58141e55a46e5b53498c353cae52c1ef36725c8468da2baf5559ea", func := "hoistway/hoistwaylaw10.KeysMade", spec := "keysMade", inPlace := ["slices.overlaps[hoistway/shelf.Pair[string, hoistway/keys.entry]]"], unfollowed := true, recurses := true, apart := false, narrowed := true }
def KeysMadeUptoSaid : Prop := keysMadeUptoRow.holds Try.pinned (OpenSpec.upto keysMadeSpec)

/-- 'hoistwaylaw10.KeysOnce', WHERE WHAT IT READS IS OF BULK AT MOST 1048576: true; the input reads as it did. -/
def keysOnceUptoRow : OpenClaim := { program := "ytmomeccgdpidiaa", sum := "daefb8251d58141e55a46e5b53498c353cae52c1ef36725c8468da2baf5559ea", func := "hoistway/hoistwaylaw10.KeysOnce", spec := "keysOnce", inPlace := ["slices.overlaps[hoistway/shelf.Pair[string, hoistway/keys.entry]]"], unfollowed := true, recurses := true, apart := false, narrowed := true }
def KeysOnceUptoSaid : Prop := keysOnceUptoRow.holds Try.pinned (OpenSpec.upto keysOnceSpec)

/-- 'hoistwaylaw10.KeysApart', WHERE WHAT IT READS IS OF BULK AT MOST 1048576: true; the input reads as it did. -/
def keysApartUptoRow : OpenClaim := { program := "ytmomeccgdpidiaa", sum := "daefb8251d58141e55a46e5b53498c353cae52c1ef36725c8468da2baf5559ea", func := "hoistway/hoistwaylaw10.KeysApart", spec := "keysApart", inPlace := ["slices.overlaps[hoistway/shelf.Pair[string, hoistway/keys.entry]]"], unfollowed := true, recurses := true, apart := false, narrowed := true }
def KeysApartUptoSaid : Prop := keysApartUptoRow.holds Try.pinned (OpenSpec.upto keysApartSpec)

/-- 'hoistwaylaw10.KeysExact', WHERE WHAT IT READS IS OF BULK AT MOST 1048576: true; the input reads as it did. -/
def keysExactUptoRow : OpenClaim := { program := "ytmomeccgdpidiaa", sum := "daefb8251d58141e55a46e5b53498c353cae52c1ef36725c8468da2baf5559ea", func := "hoistway/hoistwaylaw10.KeysExact", spec := "keysExact", inPlace := ["slices.overlaps[hoistway/shelf.Pair[string, hoistway/keys.entry]]"], unfollowed := true, recurses := true, apart := false, narrowed := true }
def KeysExactUptoSaid : Prop := keysExactUptoRow.holds Try.pinned (OpenSpec.upto keysExactSpec)

/-- 'hoistwaylaw09.BookReplays', WHERE WHAT IT READS IS OF BULK AT MOST 1048576: true; the input reads as it did. -/
def bookReplaysUptoRow : OpenClaim := { program := "ytmomeccgdpidiaa", sum := "daefb8251d58141e55a46e5b53498c353cae52c1ef36725c8468da2baf5559ea", func := "hoistway/hoistwaylaw09.BookReplays", spec := "bookReplays", inPlace := ["slices.overlaps[hoistway/shelf.Pair[int, hoistway/api.Call]]"], unfollowed := true, recurses := true, apart := false, narrowed := true }
def BookReplaysUptoSaid : Prop := bookReplaysUptoRow.holds Try.pinned (OpenSpec.upto bookReplaysSpec)

/-- 'hoistwaylaw09.BookApart', WHERE WHAT IT READS IS OF BULK AT MOST 1048576: true; the input reads as it did. -/
def bookApartUptoRow : OpenClaim := { program := "ytmomeccgdpidiaa", sum := "daefb8251d58141e55a46e5b53498c353cae52c1ef36725c8468da2baf5559ea", func := "hoistway/hoistwaylaw09.BookApart", spec := "bookApart", inPlace := ["slices.overlaps[hoistway/shelf.Pair[int, hoistway/api.Call]]"], unfollowed := true, recurses := true, apart := false, narrowed := true }
def BookApartUptoSaid : Prop := bookApartUptoRow.holds Try.pinned (OpenSpec.upto bookApartSpec)

/-- 'hoistwaylaw09.BookExact', WHERE WHAT IT READS IS OF BULK AT MOST 1048576: true; the input reads as it did. -/
def bookExactUptoRow : OpenClaim := { program := "ytmomeccgdpidiaa", sum := "daefb8251d58141e55a46e5b53498c353cae52c1ef36725c8468da2baf5559ea", func := "hoistway/hoistwaylaw09.BookExact", spec := "bookExact", inPlace := ["slices.overlaps[hoistway/shelf.Pair[int, hoistway/api.Call]]"], unfollowed := true, recurses := true, apart := false, narrowed := true }
def BookExactUptoSaid : Prop := bookExactUptoRow.holds Try.pinned (OpenSpec.upto bookExactSpec)

/-- 'hoistwaylaw09.BookGoes', WHERE WHAT IT READS IS OF BULK AT MOST 1048576: true; the input reads as it did. -/
def bookGoesUptoRow : OpenClaim := { program := "ytmomeccgdpidiaa", sum := "daefb8251d58141e55a46e5b53498c353cae52c1ef36725c8468da2baf5559ea", func := "hoistway/hoistwaylaw09.BookGoes", spec := "bookGoes", inPlace := ["slices.overlaps[hoistway/shelf.Pair[int, hoistway/api.Call]]"], unfollowed := true, recurses := true, apart := false, narrowed := true }
def BookGoesUptoSaid : Prop := bookGoesUptoRow.holds Try.pinned (OpenSpec.upto bookGoesSpec)

/-- 'hoistwaylaw11.VaultOne', WHERE WHAT IT READS IS OF BULK AT MOST 1048576: true; the input reads as it did. -/
def vaultOneUptoRow : OpenClaim := { program := "ytmomeccgdpidiaa", sum := "daefb8251d58141e55a46e5b53498c353cae52c1ef36725c8468da2baf5559ea", func := "hoistway/hoistwaylaw11.VaultOne", spec := "vaultOne", inPlace := ["slices.overlaps[hoistway/shelf.Pair[int, hoistway/api.Call]]"], unfollowed := true, recurses := true, apart := false, narrowed := true }
def VaultOneUptoSaid : Prop := vaultOneUptoRow.holds Try.pinned (OpenSpec.upto vaultOneSpec)

/-- 'hoistwaylaw11.VaultTicks', WHERE WHAT IT READS IS OF BULK AT MOST 1048576: true; the input reads as it did. -/
def vaultTicksUptoRow : OpenClaim := { program := "ytmomeccgdpidiaa", sum := "daefb8251d58141e55a46e5b53498c353cae52c1ef36725c8468da2baf5559ea", func := "hoistway/hoistwaylaw11.VaultTicks", spec := "vaultTicks", inPlace := ["slices.overlaps[hoistway/shelf.Pair[int, hoistway/api.Call]]"], unfollowed := true, recurses := true, apart := false, narrowed := true }
def VaultTicksUptoSaid : Prop := vaultTicksUptoRow.holds Try.pinned (OpenSpec.upto vaultTicksSpec)

end Rows
end Go.Proofs.Ytmomeccgdpidiaa
