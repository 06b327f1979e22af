/-
  NARROWER THAN 'FOR EVERY INPUT', by the rows' own cells (each row's printed sentence says how): CostGrows: loops.
  DERIVED. THE GIVEN ROWS OF THIS SEAT. 12 by the template 'for every input the law returns true; each argument reads behind the call as it read before'; 0 by the template 'total and deterministic' (their statements: YtdhahnagnemgaaaTotals.lean).
  GIVEN WITH THE SEED: the statements are not yours to turn. If you find one false, say at which input.
  Laid BY PROGRAM, IN A SANDBOX (cutbox-rows.mjs): the forced cells as the released guide's own fill.sh prints them over the translation a6f9439fdf29dc5e… (all of the seat's roots in one cut). By AI agents, Wed Nov 11 2026. No macro, syntax, notation, axiom, sorry.
-/
import Derived.Test.YtdhahnagnemgaaaChecked
import GoSem.Claim
import GoSem.ClaimJoined
import GoSem.ClaimMapViews
import Derived.JoinedTies
import Derived.KernelRfl
namespace Go.Proofs.Ytdhahnagnemgaaa
/- THE CELL 'sum', in the pinned program and in every row, IS THE sha256 OF THE DUMP (.gsa) THAT YtdhahnagnemgaaaProg.lean LOADS. Nothing in Lean hashes anything: it is a label: what it is worth is what the hold of that sum in a sandbox is worth. -/
noncomputable def Try.pinned : Pinned := { name := "ytdhahnagnemgaaa", sum := "a6f9439fdf29dc5eb7661b89ac69da936c0286cf0b5227fc1bacaacc00faab82", checked := Try.checked }
namespace Rows
def none {H : Type} : Left H := { results := [], args := [] }

/-- 'isobarlaw7.WaveTurns': WHATEVER THE INPUT: true; the input reads as it did. -/
def waveTurnsSpec : ChangeSpec := { name := "waveTurns", fn := fun _ => fun
  | [d1, d2, d3, d4] => { results := [.lit (.bool true)], args := [d1, d2, d3, d4] }
  | _ => none }
def waveTurnsRow : OpenClaim := { program := "ytdhahnagnemgaaa", sum := "a6f9439fdf29dc5eb7661b89ac69da936c0286cf0b5227fc1bacaacc00faab82", func := "isobar/isobarlaw7.WaveTurns", spec := "waveTurns", inPlace := ["math.Float64frombits", "math.Float64bits"], apart := false }
def WaveTurnsSaid : Prop := waveTurnsRow.holds Try.pinned (OpenSpec.ofChange waveTurnsSpec)

/-- ITS FALSE NEIGHBOUR: 'it returns false'. Refute it at one input. -/
def waveTurnsWrong : ChangeSpec := { name := "waveTurns", fn := fun _ => fun
  | [d1, d2, d3, d4] => { results := [.lit (.bool false)], args := [d1, d2, d3, d4] }
  | _ => none }
def WaveTurnsWrongFalsely : Prop := waveTurnsRow.holds Try.pinned (OpenSpec.ofChange waveTurnsWrong)

/-- 'isobarlaw7.WavePairs': WHATEVER THE INPUT: true; the input reads as it did. -/
def wavePairsSpec : ChangeSpec := { name := "wavePairs", fn := fun _ => fun
  | [d1, d2, d3, d4, d5] => { results := [.lit (.bool true)], args := [d1, d2, d3, d4, d5] }
  | _ => none }
def wavePairsRow : OpenClaim := { program := "ytdhahnagnemgaaa", sum := "a6f9439fdf29dc5eb7661b89ac69da936c0286cf0b5227fc1bacaacc00faab82", func := "isobar/isobarlaw7.WavePairs", spec := "wavePairs", inPlace := ["math.Float64frombits", "math.Float64bits"], apart := false }
def WavePairsSaid : Prop := wavePairsRow.holds Try.pinned (OpenSpec.ofChange wavePairsSpec)

/-- ITS FALSE NEIGHBOUR: 'it returns false'. Refute it at one input. -/
def wavePairsWrong : ChangeSpec := { name := "wavePairs", fn := fun _ => fun
  | [d1, d2, d3, d4, d5] => { results := [.lit (.bool false)], args := [d1, d2, d3, d4, d5] }
  | _ => none }
def WavePairsWrongFalsely : Prop := wavePairsRow.holds Try.pinned (OpenSpec.ofChange wavePairsWrong)

/-- 'isobarlaw7.WaveWhole': WHATEVER THE INPUT: true; the input reads as it did. -/
def waveWholeSpec : ChangeSpec := { name := "waveWhole", fn := fun _ => fun
  | [d1, d2, d3] => { results := [.lit (.bool true)], args := [d1, d2, d3] }
  | _ => none }
def waveWholeRow : OpenClaim := { program := "ytdhahnagnemgaaa", sum := "a6f9439fdf29dc5eb7661b89ac69da936c0286cf0b5227fc1bacaacc00faab82", func := "isobar/isobarlaw7.WaveWhole", spec := "waveWhole", inPlace := ["math.Float64frombits", "math.Float64bits"], apart := false }
def WaveWholeSaid : Prop := waveWholeRow.holds Try.pinned (OpenSpec.ofChange waveWholeSpec)

/-- ITS FALSE NEIGHBOUR: 'it returns false'. Refute it at one input. -/
def waveWholeWrong : ChangeSpec := { name := "waveWhole", fn := fun _ => fun
  | [d1, d2, d3] => { results := [.lit (.bool false)], args := [d1, d2, d3] }
  | _ => none }
def WaveWholeWrongFalsely : Prop := waveWholeRow.holds Try.pinned (OpenSpec.ofChange waveWholeWrong)

/-- 'isobarlaw7.WaveSums': WHATEVER THE INPUT: true; the input reads as it did. -/
def waveSumsSpec : ChangeSpec := { name := "waveSums", fn := fun _ => fun
  | [d] => { results := [.lit (.bool true)], args := [d] }
  | _ => none }
def waveSumsRow : OpenClaim := { program := "ytdhahnagnemgaaa", sum := "a6f9439fdf29dc5eb7661b89ac69da936c0286cf0b5227fc1bacaacc00faab82", func := "isobar/isobarlaw7.WaveSums", spec := "waveSums", inPlace := ["math.Float64frombits", "math.Float64bits"], apart := false }
def WaveSumsSaid : Prop := waveSumsRow.holds Try.pinned (OpenSpec.ofChange waveSumsSpec)

/-- ITS FALSE NEIGHBOUR: 'it returns false'. Refute it at one input. -/
def waveSumsWrong : ChangeSpec := { name := "waveSums", fn := fun _ => fun
  | [d] => { results := [.lit (.bool false)], args := [d] }
  | _ => none }
def WaveSumsWrongFalsely : Prop := waveSumsRow.holds Try.pinned (OpenSpec.ofChange waveSumsWrong)

/-- 'isobarlaw15.CostGrows': WHATEVER THE INPUT: true; the input reads as it did. -/
def costGrowsSpec : ChangeSpec := { name := "costGrows", fn := fun _ => fun
  | [d1, d2] => { results := [.lit (.bool true)], args := [d1, d2] }
  | _ => none }
def costGrowsRow : OpenClaim := { program := "ytdhahnagnemgaaa", sum := "a6f9439fdf29dc5eb7661b89ac69da936c0286cf0b5227fc1bacaacc00faab82", func := "isobar/isobarlaw15.CostGrows", spec := "costGrows", recurses := true, loops := true, apart := false }
def CostGrowsSaid : Prop := costGrowsRow.holds Try.pinned (OpenSpec.ofChange costGrowsSpec)

/-- ITS FALSE NEIGHBOUR: 'it returns false'. Refute it at one input. -/
def costGrowsWrong : ChangeSpec := { name := "costGrows", fn := fun _ => fun
  | [d1, d2] => { results := [.lit (.bool false)], args := [d1, d2] }
  | _ => none }
def CostGrowsWrongFalsely : Prop := costGrowsRow.holds Try.pinned (OpenSpec.ofChange costGrowsWrong)

/-- 'isobarlaw15.CostMatchers': WHATEVER THE INPUT: true; the input reads as it did. -/
def costMatchersSpec : ChangeSpec := { name := "costMatchers", fn := fun _ => fun
  | [d1, d2, d3] => { results := [.lit (.bool true)], args := [d1, d2, d3] }
  | _ => none }
def costMatchersRow : OpenClaim := { program := "ytdhahnagnemgaaa", sum := "a6f9439fdf29dc5eb7661b89ac69da936c0286cf0b5227fc1bacaacc00faab82", func := "isobar/isobarlaw15.CostMatchers", spec := "costMatchers", recurses := true, apart := false }
def CostMatchersSaid : Prop := costMatchersRow.holds Try.pinned (OpenSpec.ofChange costMatchersSpec)

/-- ITS FALSE NEIGHBOUR: 'it returns false'. Refute it at one input. -/
def costMatchersWrong : ChangeSpec := { name := "costMatchers", fn := fun _ => fun
  | [d1, d2, d3] => { results := [.lit (.bool false)], args := [d1, d2, d3] }
  | _ => none }
def CostMatchersWrongFalsely : Prop := costMatchersRow.holds Try.pinned (OpenSpec.ofChange costMatchersWrong)

/-- 'isobarlaw8.WindowFns': WHATEVER THE INPUT: true; the input reads as it did. -/
def windowFnsSpec : ChangeSpec := { name := "windowFns", fn := fun _ => fun
  | [d1, d2, d3, d4] => { results := [.lit (.bool true)], args := [d1, d2, d3, d4] }
  | _ => none }
def windowFnsRow : OpenClaim := { program := "ytdhahnagnemgaaa", sum := "a6f9439fdf29dc5eb7661b89ac69da936c0286cf0b5227fc1bacaacc00faab82", func := "isobar/isobarlaw8.WindowFns", spec := "windowFns", inPlace := ["math.Float64frombits", "math.Float64bits"], unfollowed := true, recurses := true, apart := false }
def WindowFnsSaid : Prop := windowFnsRow.holds Try.pinned (OpenSpec.ofChange windowFnsSpec)

/-- ITS FALSE NEIGHBOUR: 'it returns false'. Refute it at one input. -/
def windowFnsWrong : ChangeSpec := { name := "windowFns", fn := fun _ => fun
  | [d1, d2, d3, d4] => { results := [.lit (.bool false)], args := [d1, d2, d3, d4] }
  | _ => none }
def WindowFnsWrongFalsely : Prop := windowFnsRow.holds Try.pinned (OpenSpec.ofChange windowFnsWrong)

/-- 'isobarlaw8.WindowNames': WHATEVER THE INPUT: true; the input reads as it did. -/
def windowNamesSpec : ChangeSpec := { name := "windowNames", fn := fun _ => fun
  | [d1, d2] => { results := [.lit (.bool true)], args := [d1, d2] }
  | _ => none }
def windowNamesRow : OpenClaim := { program := "ytdhahnagnemgaaa", sum := "a6f9439fdf29dc5eb7661b89ac69da936c0286cf0b5227fc1bacaacc00faab82", func := "isobar/isobarlaw8.WindowNames", spec := "windowNames", inPlace := ["math.Float64frombits", "math.Float64bits"], unfollowed := true, recurses := true, apart := false }
def WindowNamesSaid : Prop := windowNamesRow.holds Try.pinned (OpenSpec.ofChange windowNamesSpec)

/-- ITS FALSE NEIGHBOUR: 'it returns false'. Refute it at one input. -/
def windowNamesWrong : ChangeSpec := { name := "windowNames", fn := fun _ => fun
  | [d1, d2] => { results := [.lit (.bool false)], args := [d1, d2] }
  | _ => none }
def WindowNamesWrongFalsely : Prop := windowNamesRow.holds Try.pinned (OpenSpec.ofChange windowNamesWrong)

/-- 'isobarlaw8.WindowParts': WHATEVER THE INPUT: true; the input reads as it did. -/
def windowPartsSpec : ChangeSpec := { name := "windowParts", fn := fun _ => fun
  | [d1, d2, d3] => { results := [.lit (.bool true)], args := [d1, d2, d3] }
  | _ => none }
def windowPartsRow : OpenClaim := { program := "ytdhahnagnemgaaa", sum := "a6f9439fdf29dc5eb7661b89ac69da936c0286cf0b5227fc1bacaacc00faab82", func := "isobar/isobarlaw8.WindowParts", spec := "windowParts", inPlace := ["math.Float64frombits", "math.Float64bits"], unfollowed := true, recurses := true, apart := false }
def WindowPartsSaid : Prop := windowPartsRow.holds Try.pinned (OpenSpec.ofChange windowPartsSpec)

/-- ITS FALSE NEIGHBOUR: 'it returns false'. Refute it at one input. -/
def windowPartsWrong : ChangeSpec := { name := "windowParts", fn := fun _ => fun
  | [d1, d2, d3] => { results := [.lit (.bool false)], args := [d1, d2, d3] }
  | _ => none }
def WindowPartsWrongFalsely : Prop := windowPartsRow.holds Try.pinned (OpenSpec.ofChange windowPartsWrong)

/-- 'isobarlaw8.WindowShifts': WHATEVER THE INPUT: true; the input reads as it did. -/
def windowShiftsSpec : ChangeSpec := { name := "windowShifts", fn := fun _ => fun
  | [d1, d2, d3, d4, d5] => { results := [.lit (.bool true)], args := [d1, d2, d3, d4, d5] }
  | _ => none }
def windowShiftsRow : OpenClaim := { program := "ytdhahnagnemgaaa", sum := "a6f9439fdf29dc5eb7661b89ac69da936c0286cf0b5227fc1bacaacc00faab82", func := "isobar/isobarlaw8.WindowShifts", spec := "windowShifts", inPlace := ["math.Float64frombits", "math.Float64bits"], unfollowed := true, recurses := true, apart := false }
def WindowShiftsSaid : Prop := windowShiftsRow.holds Try.pinned (OpenSpec.ofChange windowShiftsSpec)

/-- ITS FALSE NEIGHBOUR: 'it returns false'. Refute it at one input. -/
def windowShiftsWrong : ChangeSpec := { name := "windowShifts", fn := fun _ => fun
  | [d1, d2, d3, d4, d5] => { results := [.lit (.bool false)], args := [d1, d2, d3, d4, d5] }
  | _ => none }
def WindowShiftsWrongFalsely : Prop := windowShiftsRow.holds Try.pinned (OpenSpec.ofChange windowShiftsWrong)

/-- 'isobarlaw8.WindowSmall': WHATEVER THE INPUT: true; the input reads as it did. -/
def windowSmallSpec : ChangeSpec := { name := "windowSmall", fn := fun _ => fun
  | [d1, d2, d3] => { results := [.lit (.bool true)], args := [d1, d2, d3] }
  | _ => none }
def windowSmallRow : OpenClaim := { program := "ytdhahnagnemgaaa", sum := "a6f9439fdf29dc5eb7661b89ac69da936c0286cf0b5227fc1bacaacc00faab82", func := "isobar/isobarlaw8.WindowSmall", spec := "windowSmall", inPlace := ["math.Float64frombits", "math.Float64bits"], unfollowed := true, recurses := true, apart := false }
def WindowSmallSaid : Prop := windowSmallRow.holds Try.pinned (OpenSpec.ofChange windowSmallSpec)

/-- ITS FALSE NEIGHBOUR: 'it returns false'. Refute it at one input. -/
def windowSmallWrong : ChangeSpec := { name := "windowSmall", fn := fun _ => fun
  | [d1, d2, d3] => { results := [.lit (.bool false)], args := [d1, d2, d3] }
  | _ => none }
def WindowSmallWrongFalsely : Prop := windowSmallRow.holds Try.pinned (OpenSpec.ofChange windowSmallWrong)

/-- 'isobarlaw8.WindowSlides': WHATEVER THE INPUT: true; the input reads as it did. -/
def windowSlidesSpec : ChangeSpec := { name := "windowSlides", fn := fun _ => fun
  | [d1, d2, d3, d4, d5] => { results := [.lit (.bool true)], args := [d1, d2, d3, d4, d5] }
  | _ => none }
def windowSlidesRow : OpenClaim := { program := "ytdhahnagnemgaaa", sum := "a6f9439fdf29dc5eb7661b89ac69da936c0286cf0b5227fc1bacaacc00faab82", func := "isobar/isobarlaw8.WindowSlides", spec := "windowSlides", inPlace := ["math.Float64frombits", "math.Float64bits"], unfollowed := true, recurses := true, apart := false }
def WindowSlidesSaid : Prop := windowSlidesRow.holds Try.pinned (OpenSpec.ofChange windowSlidesSpec)

/-- ITS FALSE NEIGHBOUR: 'it returns false'. Refute it at one input. -/
def windowSlidesWrong : ChangeSpec := { name := "windowSlides", fn := fun _ => fun
  | [d1, d2, d3, d4, d5] => { results := [.lit (.bool false)], args := [d1, d2, d3, d4, d5] }
  | _ => none }
def WindowSlidesWrongFalsely : Prop := windowSlidesRow.holds Try.pinned (OpenSpec.ofChange windowSlidesWrong)

/- THE SECOND FORM. 'bulk': how many values and letters a reading holds, each counted each time it is reached (what is shared counts as often as it is met; a slice's spare places count too). A statement '..UptoSaid' is the law's where the arguments, and the package variables that the reading takes, are together of bulk at most 1048576: NARROWER than '..Said'. Prove '..Said' where nothing that the law and all that it calls make is longer than what came in: it says more and counts as full. Else prove '..UptoSaid'. A law counts once. -/
mutual
def uptoBulk {H : Type} : DataW H → Nat
  | .lit (.string bytes) => bytes.length + 1
  | .lit _ => 1
  | .nil => 1
  | .ptr d => uptoBulk d + 1
  | .slice elems spare => uptoBulkAll elems + uptoBulkAll spare + 1
  | .agg parts => uptoBulkAll parts + 1
  | .iface _ d => uptoBulk d + 1
  | .map entries => uptoBulkEntries entries + 1
  | .held _ => 1
def uptoBulkAll {H : Type} : List (DataW H) → Nat
  | [] => 0
  | d :: r => uptoBulk d + uptoBulkAll r
def uptoBulkEntries {H : Type} : List (Lit × DataW H) → Nat
  | [] => 0
  | x :: r => uptoBulkEntry x + uptoBulkEntries r
def uptoBulkEntry {H : Type} : Lit × DataW H → Nat
  | (.string bytes, d) => bytes.length + uptoBulk d + 1
  | (_, d) => uptoBulk d + 1
 end
def uptoSmall : (H : Type) → List (DataW H) → Bool := fun _ ds => decide (uptoBulkAll ds ≤ 1048576)
def OpenSpec.upto (s : _root_.Go.ChangeSpec) : _root_.Go.OpenSpec := { _root_.Go.OpenSpec.ofChange s with cond := some uptoSmall }

/-- 'isobarlaw7.WaveTurns', WHERE WHAT IT READS IS OF BULK AT MOST 1048576: true; the input reads as it did. -/
def waveTurnsUptoRow : OpenClaim := { program := "ytdhahnagnemgaaa", sum := "a6f9439fdf29dc5eb7661b89ac69da936c0286cf0b5227fc1bacaacc00faab82", func := "isobar/isobarlaw7.WaveTurns", spec := "waveTurns", inPlace := ["math.Float64frombits", "math.Float64bits"], apart := false, narrowed := true }
def WaveTurnsUptoSaid : Prop := waveTurnsUptoRow.holds Try.pinned (OpenSpec.upto waveTurnsSpec)

/-- 'isobarlaw7.WavePairs', WHERE WHAT IT READS IS OF BULK AT MOST 1048576: true; the input reads as it did. -/
def wavePairsUptoRow : OpenClaim := { program := "ytdhahnagnemgaaa", sum := "a6f9439fdf29dc5eb7661b89ac69da936c0286cf0b5227fc1bacaacc00faab82", func := "isobar/isobarlaw7.WavePairs", spec := "wavePairs", inPlace := ["math.Float64frombits", "math.Float64bits"], apart := false, narrowed := true }
def WavePairsUptoSaid : Prop := wavePairsUptoRow.holds Try.pinned (OpenSpec.upto wavePairsSpec)

/-- 'isobarlaw7.WaveWhole', WHERE WHAT IT READS IS OF BULK AT MOST 1048576: true; the input reads as it did. -/
def waveWholeUptoRow : OpenClaim := { program := "ytdhahnagnemgaaa", sum := "a6f9439fdf29dc5eb7661b89ac69da936c0286cf0b5227fc1bacaacc00faab82", func := "isobar/isobarlaw7.WaveWhole", spec := "waveWhole", inPlace := ["math.Float64frombits", "math.Float64bits"], apart := false, narrowed := true }
def WaveWholeUptoSaid : Prop := waveWholeUptoRow.holds Try.pinned (OpenSpec.upto waveWholeSpec)

/-- 'isobarlaw7.WaveSums', WHERE WHAT IT READS IS OF BULK AT MOST 1048576: true; the input reads as it did. -/
def waveSumsUptoRow : OpenClaim := { program := "ytdhahnagnemgaaa", sum := "a6f9439fdf29dc5eb7661b89ac69da936c0286cf0b5227fc1bacaacc00faab82", func := "isobar/isobarlaw7.WaveSums", spec := "waveSums", inPlace := ["math.Float64frombits", "math.Float64bits"], apart := false, narrowed := true }
def WaveSumsUptoSaid : Prop := waveSumsUptoRow.holds Try.pinned (OpenSpec.upto waveSumsSpec)

/-- 'isobarlaw15.CostGrows', WHERE WHAT IT READS IS OF BULK AT MOST 1048576: true; the input reads as it did. -/
def costGrowsUptoRow : OpenClaim := { program := "ytdhahnagnemgaaa", sum := "a6f9439fdf29dc5eb7661b89ac69da936c0286cf0b5227fc1bacaacc00faab82", func := "isobar/isobarlaw15.CostGrows", spec := "costGrows", recurses := true, loops := true, apart := false, narrowed := true }
def CostGrowsUptoSaid : Prop := costGrowsUptoRow.holds Try.pinned (OpenSpec.upto costGrowsSpec)

/-- 'isobarlaw15.CostMatchers', WHERE WHAT IT READS IS OF BULK AT MOST 1048576: true; the input reads as it did. -/
def costMatchersUptoRow : OpenClaim := { program := "ytdhahnagnemgaaa", sum := "a6f9439fdf29dc5eb7661b89ac69da936c0286cf0b5227fc1bacaacc00faab82", func := "isobar/isobarlaw15.CostMatchers", spec := "costMatchers", recurses := true, apart := false, narrowed := true }
def CostMatchersUptoSaid : Prop := costMatchersUptoRow.holds Try.pinned (OpenSpec.upto costMatchersSpec)

/-- 'isobarlaw8.WindowFns', WHERE WHAT IT READS IS OF BULK AT MOST 1048576: true; the input reads as it did. -/
def windowFnsUptoRow : OpenClaim := { program := "ytdhahnagnemgaaa", sum := "a6f9439fdf29dc5eb7661b89ac69da936c0286cf0b5227fc1bacaacc00faab82", func := "isobar/isobarlaw8.WindowFns", spec := "windowFns", inPlace := ["math.Float64frombits", "math.Float64bits"], unfollowed := true, recurses := true, apart := false, narrowed := true }
def WindowFnsUptoSaid : Prop := windowFnsUptoRow.holds Try.pinned (OpenSpec.upto windowFnsSpec)

/-- 'isobarlaw8.WindowNames', WHERE WHAT IT READS IS OF BULK AT MOST 1048576: true; the input reads as it did. -/
def windowNamesUptoRow : OpenClaim := { program := "ytdhahnagnemgaaa", sum := "a6f9439fdf29dc5eb7661b89ac69da936c0286cf0b5227fc1bacaacc00faab82", func := "isobar/isobarlaw8.WindowNames", spec := "windowNames", inPlace := ["math.Float64frombits", "math.Float64bits"], unfollowed := true, recurses := true, apart := false, narrowed := true }
def WindowNamesUptoSaid : Prop := windowNamesUptoRow.holds Try.pinned (OpenSpec.upto windowNamesSpec)

/-- 'isobarlaw8.WindowParts', WHERE WHAT IT READS IS OF BULK AT MOST 1048576: true; the input reads as it did. -/
def windowPartsUptoRow : OpenClaim := { program := "ytdhahnagnemgaaa", sum := "a6f9439fdf29dc5eb7661b89ac69da936c0286cf0b5227fc1bacaacc00faab82", func := "isobar/isobarlaw8.WindowParts", spec := "windowParts", inPlace := ["math.Float64frombits", "math.Float64bits"], unfollowed := true, recurses := true, apart := false, narrowed := true }
def WindowPartsUptoSaid : Prop := windowPartsUptoRow.holds Try.pinned (OpenSpec.upto windowPartsSpec)

/-- 'isobarlaw8.WindowShifts', WHERE WHAT IT READS IS OF BULK AT MOST 1048576: true; the input reads as it did. -/
def windowShiftsUptoRow : OpenClaim := { program := "ytdhahnagnemgaaa", sum := "a6f9439fdf29dc5eb7661b89ac69da936c0286cf0b5227fc1bacaacc00faab82", func := "isobar/isobarlaw8.WindowShifts", spec := "windowShifts", inPlace := ["math.Float64frombits", "math.Float64bits"], unfollowed := true, recurses := true, apart := false, narrowed := true }
def WindowShiftsUptoSaid : Prop := windowShiftsUptoRow.holds Try.pinned (OpenSpec.upto windowShiftsSpec)

/-- 'isobarlaw8.WindowSmall', WHERE WHAT IT READS IS OF BULK AT MOST 1048576: true; the input reads as it did. -/
def windowSmallUptoRow : OpenClaim := { program := "ytdhahnagnemgaaa", sum := "a6f9439fdf29dc5eb7661b89ac69da936c0286cf0b5227fc1bacaacc00faab82", func := "isobar/isobarlaw8.WindowSmall", spec := "windowSmall", inPlace := ["math.Float64frombits", "math.Float64bits"], unfollowed := true, recurses := true, apart := false, narrowed := true }
def WindowSmallUptoSaid : Prop := windowSmallUptoRow.holds Try.pinned (OpenSpec.upto windowSmallSpec)

/-- 'isobarlaw8.WindowSlides', WHERE WHAT IT READS IS OF BULK AT MOST 1048576: true; the input reads as it did. -/
def windowSlidesUptoRow : OpenClaim := { program := "ytdhahnagnemgaaa", sum := "a6f9439fdf29dc5eb7661b89ac69da936c0286cf0b5227fc1bacaacc00faab82", func := "isobar/isobarlaw8.WindowSlides", spec := "windowSlides", inPlace := ["math.Float64frombits", "math.Float64bits"], unfollowed := true, recurses := true, apart := false, narrowed := true }
def WindowSlidesUptoSaid : Prop := windowSlidesUptoRow.holds Try.pinned (OpenSpec.upto windowSlidesSpec)

end Rows
end Go.Proofs.Ytdhahnagnemgaaa
