/- What the program says of its types and functions, for the engine. Written by gentab.py. Conditions: none; closed facts. -/
import Derived.Test.YtgbmhfbfcbjccaaProg
import Derived.Test.YtgbmhfbfcbjccaaEngO
namespace Go.Proofs.Ytgbmhfbfcbjccaa
set_option linter.unusedSimpArgs false
set_option linter.unusedVariables false
theorem ti0 : tiOf Try.prog 0 = some ⟨1, 0, [.tuple { toList := [] }], false, [], 0, 0, 9, .i64⟩ := by kernel_rfl
theorem kn0 : kndOf Try.prog 0 = 9 := by kernel_rfl
theorem sz0 : szOf Try.prog 0 = 1 := by kernel_rfl
theorem ti1 : tiOf Try.prog 1 = some ⟨1, 8, [.nilFunc], false, [], 0, 0, 8, .i64⟩ := by kernel_rfl
theorem kn1 : kndOf Try.prog 1 = 8 := by kernel_rfl
theorem sz1 : szOf Try.prog 1 = 1 := by kernel_rfl
theorem ti2 : tiOf Try.prog 2 = some ⟨1, 8, [.int .i64 (0)], false, [], 0, 0, 1, .i64⟩ := by kernel_rfl
theorem kn2 : kndOf Try.prog 2 = 1 := by kernel_rfl
theorem sz2 : szOf Try.prog 2 = 1 := by kernel_rfl
theorem ti3 : tiOf Try.prog 3 = some ⟨1, 8, [.int .i64 (0)], false, [], 0, 0, 1, .i64⟩ := by kernel_rfl
theorem kn3 : kndOf Try.prog 3 = 1 := by kernel_rfl
theorem sz3 : szOf Try.prog 3 = 1 := by kernel_rfl
theorem ti4 : tiOf Try.prog 4 = some ⟨1, 1, [.bool false], false, [], 0, 0, 2, .i64⟩ := by kernel_rfl
theorem kn4 : kndOf Try.prog 4 = 2 := by kernel_rfl
theorem sz4 : szOf Try.prog 4 = 1 := by kernel_rfl
theorem ti5 : tiOf Try.prog 5 = some ⟨1, 1, [.int .u8 (0)], false, [], 0, 0, 1, .u8⟩ := by kernel_rfl
theorem kn5 : kndOf Try.prog 5 = 1 := by kernel_rfl
theorem sz5 : szOf Try.prog 5 = 1 := by kernel_rfl
theorem ti6 : tiOf Try.prog 6 = some ⟨1, 1, [.int .u8 (0)], false, [], 0, 0, 1, .u8⟩ := by kernel_rfl
theorem kn6 : kndOf Try.prog 6 = 1 := by kernel_rfl
theorem sz6 : szOf Try.prog 6 = 1 := by kernel_rfl
theorem ti7 : tiOf Try.prog 7 = some ⟨4, 24, [.int .i64 (0), .int .i64 (0), .bool false, .int .u8 (0)], true, [(0, 1, 1), (1, 1, 1), (2, 1, 2), (3, 1, 1)], 0, 0, 5, .i64⟩ := by kernel_rfl
theorem kn7 : kndOf Try.prog 7 = 5 := by kernel_rfl
theorem sz7 : szOf Try.prog 7 = 4 := by kernel_rfl
theorem fl7 : flatS Try.prog 7 = some [1, 1, 2, 1] := by kernel_rfl
theorem ti8 : tiOf Try.prog 8 = some ⟨4, 24, [.int .i64 (0), .int .i64 (0), .bool false, .int .u8 (0)], true, [(0, 1, 1), (1, 1, 1), (2, 1, 2), (3, 1, 1)], 0, 0, 5, .i64⟩ := by kernel_rfl
theorem kn8 : kndOf Try.prog 8 = 5 := by kernel_rfl
theorem sz8 : szOf Try.prog 8 = 4 := by kernel_rfl
theorem fl8 : flatS Try.prog 8 = some [1, 1, 2, 1] := by kernel_rfl
theorem ti9 : tiOf Try.prog 9 = some ⟨1, 16, [.string { data := { toList := [] } }], false, [], 0, 0, 7, .i64⟩ := by kernel_rfl
theorem kn9 : kndOf Try.prog 9 = 7 := by kernel_rfl
theorem sz9 : szOf Try.prog 9 = 1 := by kernel_rfl
theorem ti10 : tiOf Try.prog 10 = some ⟨1, 16, [.string { data := { toList := [] } }], false, [], 0, 0, 7, .i64⟩ := by kernel_rfl
theorem kn10 : kndOf Try.prog 10 = 7 := by kernel_rfl
theorem sz10 : szOf Try.prog 10 = 1 := by kernel_rfl
theorem ti11 : tiOf Try.prog 11 = some ⟨1, 16, [.string { data := { toList := [] } }], false, [], 0, 0, 7, .i64⟩ := by kernel_rfl
theorem kn11 : kndOf Try.prog 11 = 7 := by kernel_rfl
theorem sz11 : szOf Try.prog 11 = 1 := by kernel_rfl
theorem ti12 : tiOf Try.prog 12 = some ⟨1, 8, [.int .u64 (0)], false, [], 0, 0, 1, .u64⟩ := by kernel_rfl
theorem kn12 : kndOf Try.prog 12 = 1 := by kernel_rfl
theorem sz12 : szOf Try.prog 12 = 1 := by kernel_rfl
theorem ti13 : tiOf Try.prog 13 = some ⟨2, 24, [.string { data := { toList := [] } }, .int .u64 (0)], true, [(0, 1, 7), (1, 1, 1)], 0, 0, 5, .i64⟩ := by kernel_rfl
theorem kn13 : kndOf Try.prog 13 = 5 := by kernel_rfl
theorem sz13 : szOf Try.prog 13 = 2 := by kernel_rfl
theorem fl13 : flatS Try.prog 13 = none := by kernel_rfl
theorem ti14 : tiOf Try.prog 14 = some ⟨2, 24, [.string { data := { toList := [] } }, .int .u64 (0)], true, [(0, 1, 7), (1, 1, 1)], 0, 0, 5, .i64⟩ := by kernel_rfl
theorem kn14 : kndOf Try.prog 14 = 5 := by kernel_rfl
theorem sz14 : szOf Try.prog 14 = 2 := by kernel_rfl
theorem fl14 : flatS Try.prog 14 = none := by kernel_rfl
theorem ti15 : tiOf Try.prog 15 = some ⟨1, 8, [.pointer none], false, [], 94, 0, 4, .i64⟩ := by kernel_rfl
theorem kn15 : kndOf Try.prog 15 = 4 := by kernel_rfl
theorem sz15 : szOf Try.prog 15 = 1 := by kernel_rfl
theorem ti16 : tiOf Try.prog 16 = some ⟨1, 8, [.pointer none], false, [], 97, 0, 4, .i64⟩ := by kernel_rfl
theorem kn16 : kndOf Try.prog 16 = 4 := by kernel_rfl
theorem sz16 : szOf Try.prog 16 = 1 := by kernel_rfl
theorem ti17 : tiOf Try.prog 17 = some ⟨1, 8, [.pointer none], false, [], 105, 0, 4, .i64⟩ := by kernel_rfl
theorem kn17 : kndOf Try.prog 17 = 4 := by kernel_rfl
theorem sz17 : szOf Try.prog 17 = 1 := by kernel_rfl
theorem ti18 : tiOf Try.prog 18 = some ⟨1, 8, [.pointer none], true, [(0, 1, 4)], 0, 0, 5, .i64⟩ := by kernel_rfl
theorem kn18 : kndOf Try.prog 18 = 5 := by kernel_rfl
theorem sz18 : szOf Try.prog 18 = 1 := by kernel_rfl
theorem fl18 : flatS Try.prog 18 = none := by kernel_rfl
theorem ti19 : tiOf Try.prog 19 = some ⟨1, 8, [.pointer none], true, [(0, 1, 4)], 0, 0, 5, .i64⟩ := by kernel_rfl
theorem kn19 : kndOf Try.prog 19 = 5 := by kernel_rfl
theorem sz19 : szOf Try.prog 19 = 1 := by kernel_rfl
theorem fl19 : flatS Try.prog 19 = none := by kernel_rfl
theorem ti20 : tiOf Try.prog 20 = some ⟨1, 16, [.nilIface], false, [], 0, 0, 9, .i64⟩ := by kernel_rfl
theorem kn20 : kndOf Try.prog 20 = 9 := by kernel_rfl
theorem sz20 : szOf Try.prog 20 = 1 := by kernel_rfl
theorem ti21 : tiOf Try.prog 21 = some ⟨1, 4, [.int .i32 (0)], false, [], 0, 0, 1, .i32⟩ := by kernel_rfl
theorem kn21 : kndOf Try.prog 21 = 1 := by kernel_rfl
theorem sz21 : szOf Try.prog 21 = 1 := by kernel_rfl
theorem ti22 : tiOf Try.prog 22 = some ⟨1, 24, [.slice none 0 0], false, [], 2, 0, 3, .i64⟩ := by kernel_rfl
theorem kn22 : kndOf Try.prog 22 = 3 := by kernel_rfl
theorem sz22 : szOf Try.prog 22 = 1 := by kernel_rfl
theorem ti23 : tiOf Try.prog 23 = some ⟨1, 24, [.slice none 0 0], false, [], 41, 0, 3, .i64⟩ := by kernel_rfl
theorem kn23 : kndOf Try.prog 23 = 3 := by kernel_rfl
theorem sz23 : szOf Try.prog 23 = 1 := by kernel_rfl
theorem ti24 : tiOf Try.prog 24 = some ⟨2, 48, [.slice none 0 0, .slice none 0 0], true, [(0, 1, 3), (1, 1, 3)], 0, 0, 5, .i64⟩ := by kernel_rfl
theorem kn24 : kndOf Try.prog 24 = 5 := by kernel_rfl
theorem sz24 : szOf Try.prog 24 = 2 := by kernel_rfl
theorem fl24 : flatS Try.prog 24 = none := by kernel_rfl
theorem ti25 : tiOf Try.prog 25 = some ⟨2, 48, [.slice none 0 0, .slice none 0 0], true, [(0, 1, 3), (1, 1, 3)], 0, 0, 5, .i64⟩ := by kernel_rfl
theorem kn25 : kndOf Try.prog 25 = 5 := by kernel_rfl
theorem sz25 : szOf Try.prog 25 = 2 := by kernel_rfl
theorem fl25 : flatS Try.prog 25 = none := by kernel_rfl
theorem ti26 : tiOf Try.prog 26 = some ⟨1, 24, [.slice none 0 0], false, [], 5, 0, 3, .i64⟩ := by kernel_rfl
theorem kn26 : kndOf Try.prog 26 = 3 := by kernel_rfl
theorem sz26 : szOf Try.prog 26 = 1 := by kernel_rfl
theorem ti27 : tiOf Try.prog 27 = some ⟨1, 8, [.nilFunc], false, [], 0, 0, 8, .i64⟩ := by kernel_rfl
theorem kn27 : kndOf Try.prog 27 = 8 := by kernel_rfl
theorem sz27 : szOf Try.prog 27 = 1 := by kernel_rfl
theorem ti28 : tiOf Try.prog 28 = some ⟨1, 8, [.nilFunc], false, [], 0, 0, 8, .i64⟩ := by kernel_rfl
theorem kn28 : kndOf Try.prog 28 = 8 := by kernel_rfl
theorem sz28 : szOf Try.prog 28 = 1 := by kernel_rfl
theorem ti29 : tiOf Try.prog 29 = some ⟨1, 8, [.nilFunc], false, [], 0, 0, 8, .i64⟩ := by kernel_rfl
theorem kn29 : kndOf Try.prog 29 = 8 := by kernel_rfl
theorem sz29 : szOf Try.prog 29 = 1 := by kernel_rfl
theorem ti30 : tiOf Try.prog 30 = some ⟨1, 8, [.nilFunc], false, [], 0, 0, 8, .i64⟩ := by kernel_rfl
theorem kn30 : kndOf Try.prog 30 = 8 := by kernel_rfl
theorem sz30 : szOf Try.prog 30 = 1 := by kernel_rfl
theorem ti31 : tiOf Try.prog 31 = some ⟨1, 8, [.nilFunc], false, [], 0, 0, 8, .i64⟩ := by kernel_rfl
theorem kn31 : kndOf Try.prog 31 = 8 := by kernel_rfl
theorem sz31 : szOf Try.prog 31 = 1 := by kernel_rfl
theorem ti32 : tiOf Try.prog 32 = some ⟨1, 8, [.pointer none], false, [], 53, 0, 4, .i64⟩ := by kernel_rfl
theorem kn32 : kndOf Try.prog 32 = 4 := by kernel_rfl
theorem sz32 : szOf Try.prog 32 = 1 := by kernel_rfl
theorem ti33 : tiOf Try.prog 33 = some ⟨1, 8, [.nilFunc], false, [], 0, 0, 8, .i64⟩ := by kernel_rfl
theorem kn33 : kndOf Try.prog 33 = 8 := by kernel_rfl
theorem sz33 : szOf Try.prog 33 = 1 := by kernel_rfl
theorem ti34 : tiOf Try.prog 34 = some ⟨1, 24, [.slice none 0 0], false, [], 3, 0, 3, .i64⟩ := by kernel_rfl
theorem kn34 : kndOf Try.prog 34 = 3 := by kernel_rfl
theorem sz34 : szOf Try.prog 34 = 1 := by kernel_rfl
theorem ti35 : tiOf Try.prog 35 = some ⟨1, 8, [.nilFunc], false, [], 0, 0, 8, .i64⟩ := by kernel_rfl
theorem kn35 : kndOf Try.prog 35 = 8 := by kernel_rfl
theorem sz35 : szOf Try.prog 35 = 1 := by kernel_rfl
theorem ti36 : tiOf Try.prog 36 = some ⟨1, 8, [.nilFunc], false, [], 0, 0, 8, .i64⟩ := by kernel_rfl
theorem kn36 : kndOf Try.prog 36 = 8 := by kernel_rfl
theorem sz36 : szOf Try.prog 36 = 1 := by kernel_rfl
theorem ti37 : tiOf Try.prog 37 = some ⟨1, 8, [.nilFunc], false, [], 0, 0, 8, .i64⟩ := by kernel_rfl
theorem kn37 : kndOf Try.prog 37 = 8 := by kernel_rfl
theorem sz37 : szOf Try.prog 37 = 1 := by kernel_rfl
theorem ti38 : tiOf Try.prog 38 = some ⟨1, 8, [.nilFunc], false, [], 0, 0, 8, .i64⟩ := by kernel_rfl
theorem kn38 : kndOf Try.prog 38 = 8 := by kernel_rfl
theorem sz38 : szOf Try.prog 38 = 1 := by kernel_rfl
theorem ti39 : tiOf Try.prog 39 = some ⟨1, 8, [.nilFunc], false, [], 0, 0, 8, .i64⟩ := by kernel_rfl
theorem kn39 : kndOf Try.prog 39 = 8 := by kernel_rfl
theorem sz39 : szOf Try.prog 39 = 1 := by kernel_rfl
theorem ti40 : tiOf Try.prog 40 = some ⟨5, 40, [.int .i64 (0), .int .i64 (0), .int .i64 (0), .int .i64 (0), .int .i64 (0)], true, [(0, 1, 1), (1, 1, 1), (2, 1, 1), (3, 1, 1), (4, 1, 1)], 0, 0, 5, .i64⟩ := by kernel_rfl
theorem kn40 : kndOf Try.prog 40 = 5 := by kernel_rfl
theorem sz40 : szOf Try.prog 40 = 5 := by kernel_rfl
theorem fl40 : flatS Try.prog 40 = some [1, 1, 1, 1, 1] := by kernel_rfl
theorem ti41 : tiOf Try.prog 41 = some ⟨5, 40, [.int .i64 (0), .int .i64 (0), .int .i64 (0), .int .i64 (0), .int .i64 (0)], true, [(0, 1, 1), (1, 1, 1), (2, 1, 1), (3, 1, 1), (4, 1, 1)], 0, 0, 5, .i64⟩ := by kernel_rfl
theorem kn41 : kndOf Try.prog 41 = 5 := by kernel_rfl
theorem sz41 : szOf Try.prog 41 = 5 := by kernel_rfl
theorem fl41 : flatS Try.prog 41 = some [1, 1, 1, 1, 1] := by kernel_rfl
theorem ti42 : tiOf Try.prog 42 = some ⟨1, 0, [.tuple { toList := [.agg { toList := [.int .i64 (0), .int .i64 (0), .int .i64 (0), .int .i64 (0), .int .i64 (0)] }, .bool false] }], false, [], 0, 0, 9, .i64⟩ := by kernel_rfl
theorem kn42 : kndOf Try.prog 42 = 9 := by kernel_rfl
theorem sz42 : szOf Try.prog 42 = 1 := by kernel_rfl
theorem ti43 : tiOf Try.prog 43 = some ⟨1, 8, [.nilFunc], false, [], 0, 0, 8, .i64⟩ := by kernel_rfl
theorem kn43 : kndOf Try.prog 43 = 8 := by kernel_rfl
theorem sz43 : szOf Try.prog 43 = 1 := by kernel_rfl
theorem ti44 : tiOf Try.prog 44 = some ⟨1, 8, [.nilFunc], false, [], 0, 0, 8, .i64⟩ := by kernel_rfl
theorem kn44 : kndOf Try.prog 44 = 8 := by kernel_rfl
theorem sz44 : szOf Try.prog 44 = 1 := by kernel_rfl
theorem ti45 : tiOf Try.prog 45 = some ⟨1, 8, [.nilFunc], false, [], 0, 0, 8, .i64⟩ := by kernel_rfl
theorem kn45 : kndOf Try.prog 45 = 8 := by kernel_rfl
theorem sz45 : szOf Try.prog 45 = 1 := by kernel_rfl
theorem ti46 : tiOf Try.prog 46 = some ⟨1, 8, [.nilFunc], false, [], 0, 0, 8, .i64⟩ := by kernel_rfl
theorem kn46 : kndOf Try.prog 46 = 8 := by kernel_rfl
theorem sz46 : szOf Try.prog 46 = 1 := by kernel_rfl
theorem ti47 : tiOf Try.prog 47 = some ⟨1, 8, [.nilFunc], false, [], 0, 0, 8, .i64⟩ := by kernel_rfl
theorem kn47 : kndOf Try.prog 47 = 8 := by kernel_rfl
theorem sz47 : szOf Try.prog 47 = 1 := by kernel_rfl
theorem ti48 : tiOf Try.prog 48 = some ⟨1, 8, [.nilFunc], false, [], 0, 0, 8, .i64⟩ := by kernel_rfl
theorem kn48 : kndOf Try.prog 48 = 8 := by kernel_rfl
theorem sz48 : szOf Try.prog 48 = 1 := by kernel_rfl
theorem ti49 : tiOf Try.prog 49 = some ⟨1, 8, [.nilFunc], false, [], 0, 0, 8, .i64⟩ := by kernel_rfl
theorem kn49 : kndOf Try.prog 49 = 8 := by kernel_rfl
theorem sz49 : szOf Try.prog 49 = 1 := by kernel_rfl
theorem ti50 : tiOf Try.prog 50 = some ⟨1, 8, [.nilFunc], false, [], 0, 0, 8, .i64⟩ := by kernel_rfl
theorem kn50 : kndOf Try.prog 50 = 8 := by kernel_rfl
theorem sz50 : szOf Try.prog 50 = 1 := by kernel_rfl
theorem ti51 : tiOf Try.prog 51 = some ⟨1, 8, [.nilFunc], false, [], 0, 0, 8, .i64⟩ := by kernel_rfl
theorem kn51 : kndOf Try.prog 51 = 8 := by kernel_rfl
theorem sz51 : szOf Try.prog 51 = 1 := by kernel_rfl
theorem ti52 : tiOf Try.prog 52 = some ⟨4, 80, [.int .i64 (0), .slice none 0 0, .slice none 0 0, .slice none 0 0], true, [(0, 1, 1), (1, 1, 3), (2, 1, 3), (3, 1, 3)], 0, 0, 5, .i64⟩ := by kernel_rfl
theorem kn52 : kndOf Try.prog 52 = 5 := by kernel_rfl
theorem sz52 : szOf Try.prog 52 = 4 := by kernel_rfl
theorem fl52 : flatS Try.prog 52 = none := by kernel_rfl
theorem ti53 : tiOf Try.prog 53 = some ⟨4, 80, [.int .i64 (0), .slice none 0 0, .slice none 0 0, .slice none 0 0], true, [(0, 1, 1), (1, 1, 3), (2, 1, 3), (3, 1, 3)], 0, 0, 5, .i64⟩ := by kernel_rfl
theorem kn53 : kndOf Try.prog 53 = 5 := by kernel_rfl
theorem sz53 : szOf Try.prog 53 = 4 := by kernel_rfl
theorem fl53 : flatS Try.prog 53 = none := by kernel_rfl
theorem ti54 : tiOf Try.prog 54 = some ⟨1, 8, [.nilFunc], false, [], 0, 0, 8, .i64⟩ := by kernel_rfl
theorem kn54 : kndOf Try.prog 54 = 8 := by kernel_rfl
theorem sz54 : szOf Try.prog 54 = 1 := by kernel_rfl
theorem ti55 : tiOf Try.prog 55 = some ⟨1, 8, [.nilFunc], false, [], 0, 0, 8, .i64⟩ := by kernel_rfl
theorem kn55 : kndOf Try.prog 55 = 8 := by kernel_rfl
theorem sz55 : szOf Try.prog 55 = 1 := by kernel_rfl
theorem ti56 : tiOf Try.prog 56 = some ⟨1, 8, [.nilFunc], false, [], 0, 0, 8, .i64⟩ := by kernel_rfl
theorem kn56 : kndOf Try.prog 56 = 8 := by kernel_rfl
theorem sz56 : szOf Try.prog 56 = 1 := by kernel_rfl
theorem ti57 : tiOf Try.prog 57 = some ⟨1, 8, [.nilFunc], false, [], 0, 0, 8, .i64⟩ := by kernel_rfl
theorem kn57 : kndOf Try.prog 57 = 8 := by kernel_rfl
theorem sz57 : szOf Try.prog 57 = 1 := by kernel_rfl
theorem ti58 : tiOf Try.prog 58 = some ⟨1, 8, [.nilFunc], false, [], 0, 0, 8, .i64⟩ := by kernel_rfl
theorem kn58 : kndOf Try.prog 58 = 8 := by kernel_rfl
theorem sz58 : szOf Try.prog 58 = 1 := by kernel_rfl
theorem ti59 : tiOf Try.prog 59 = some ⟨1, 8, [.nilFunc], false, [], 0, 0, 8, .i64⟩ := by kernel_rfl
theorem kn59 : kndOf Try.prog 59 = 8 := by kernel_rfl
theorem sz59 : szOf Try.prog 59 = 1 := by kernel_rfl
theorem ti60 : tiOf Try.prog 60 = some ⟨1, 8, [.nilFunc], false, [], 0, 0, 8, .i64⟩ := by kernel_rfl
theorem kn60 : kndOf Try.prog 60 = 8 := by kernel_rfl
theorem sz60 : szOf Try.prog 60 = 1 := by kernel_rfl
theorem ti61 : tiOf Try.prog 61 = some ⟨1, 8, [.nilFunc], false, [], 0, 0, 8, .i64⟩ := by kernel_rfl
theorem kn61 : kndOf Try.prog 61 = 8 := by kernel_rfl
theorem sz61 : szOf Try.prog 61 = 1 := by kernel_rfl
theorem ti62 : tiOf Try.prog 62 = some ⟨1, 8, [.nilFunc], false, [], 0, 0, 8, .i64⟩ := by kernel_rfl
theorem kn62 : kndOf Try.prog 62 = 8 := by kernel_rfl
theorem sz62 : szOf Try.prog 62 = 1 := by kernel_rfl
theorem ti63 : tiOf Try.prog 63 = some ⟨1, 8, [.nilFunc], false, [], 0, 0, 8, .i64⟩ := by kernel_rfl
theorem kn63 : kndOf Try.prog 63 = 8 := by kernel_rfl
theorem sz63 : szOf Try.prog 63 = 1 := by kernel_rfl
theorem ti64 : tiOf Try.prog 64 = some ⟨1, 8, [.nilFunc], false, [], 0, 0, 8, .i64⟩ := by kernel_rfl
theorem kn64 : kndOf Try.prog 64 = 8 := by kernel_rfl
theorem sz64 : szOf Try.prog 64 = 1 := by kernel_rfl
theorem ti65 : tiOf Try.prog 65 = some ⟨1, 8, [.nilFunc], false, [], 0, 0, 8, .i64⟩ := by kernel_rfl
theorem kn65 : kndOf Try.prog 65 = 8 := by kernel_rfl
theorem sz65 : szOf Try.prog 65 = 1 := by kernel_rfl
theorem ti66 : tiOf Try.prog 66 = some ⟨1, 8, [.nilFunc], false, [], 0, 0, 8, .i64⟩ := by kernel_rfl
theorem kn66 : kndOf Try.prog 66 = 8 := by kernel_rfl
theorem sz66 : szOf Try.prog 66 = 1 := by kernel_rfl
theorem ti67 : tiOf Try.prog 67 = some ⟨1, 8, [.nilFunc], false, [], 0, 0, 8, .i64⟩ := by kernel_rfl
theorem kn67 : kndOf Try.prog 67 = 8 := by kernel_rfl
theorem sz67 : szOf Try.prog 67 = 1 := by kernel_rfl
theorem ti68 : tiOf Try.prog 68 = some ⟨1, 8, [.nilFunc], false, [], 0, 0, 8, .i64⟩ := by kernel_rfl
theorem kn68 : kndOf Try.prog 68 = 8 := by kernel_rfl
theorem sz68 : szOf Try.prog 68 = 1 := by kernel_rfl
theorem ti69 : tiOf Try.prog 69 = some ⟨1, 8, [.int .u64 (0)], false, [], 0, 0, 1, .u64⟩ := by kernel_rfl
theorem kn69 : kndOf Try.prog 69 = 1 := by kernel_rfl
theorem sz69 : szOf Try.prog 69 = 1 := by kernel_rfl
theorem ti70 : tiOf Try.prog 70 = some ⟨1, 8, [.nilFunc], false, [], 0, 0, 8, .i64⟩ := by kernel_rfl
theorem kn70 : kndOf Try.prog 70 = 8 := by kernel_rfl
theorem sz70 : szOf Try.prog 70 = 1 := by kernel_rfl
theorem ti71 : tiOf Try.prog 71 = some ⟨1, 8, [.int .i64 (0)], false, [], 0, 0, 1, .i64⟩ := by kernel_rfl
theorem kn71 : kndOf Try.prog 71 = 1 := by kernel_rfl
theorem sz71 : szOf Try.prog 71 = 1 := by kernel_rfl
theorem ti72 : tiOf Try.prog 72 = some ⟨1, 0, [.tuple { toList := [.int .i64 (0), .int .i64 (0)] }], false, [], 0, 0, 9, .i64⟩ := by kernel_rfl
theorem kn72 : kndOf Try.prog 72 = 9 := by kernel_rfl
theorem sz72 : szOf Try.prog 72 = 1 := by kernel_rfl
theorem ti73 : tiOf Try.prog 73 = some ⟨1, 8, [.nilFunc], false, [], 0, 0, 8, .i64⟩ := by kernel_rfl
theorem kn73 : kndOf Try.prog 73 = 8 := by kernel_rfl
theorem sz73 : szOf Try.prog 73 = 1 := by kernel_rfl
theorem ti74 : tiOf Try.prog 74 = some ⟨1, 8, [.nilFunc], false, [], 0, 0, 8, .i64⟩ := by kernel_rfl
theorem kn74 : kndOf Try.prog 74 = 8 := by kernel_rfl
theorem sz74 : szOf Try.prog 74 = 1 := by kernel_rfl
theorem ti75 : tiOf Try.prog 75 = some ⟨1, 8, [.nilFunc], false, [], 0, 0, 8, .i64⟩ := by kernel_rfl
theorem kn75 : kndOf Try.prog 75 = 8 := by kernel_rfl
theorem sz75 : szOf Try.prog 75 = 1 := by kernel_rfl
theorem ti76 : tiOf Try.prog 76 = some ⟨1, 8, [.nilFunc], false, [], 0, 0, 8, .i64⟩ := by kernel_rfl
theorem kn76 : kndOf Try.prog 76 = 8 := by kernel_rfl
theorem sz76 : szOf Try.prog 76 = 1 := by kernel_rfl
theorem ti77 : tiOf Try.prog 77 = some ⟨1, 0, [.tuple { toList := [.int .i64 (0), .bool false] }], false, [], 0, 0, 9, .i64⟩ := by kernel_rfl
theorem kn77 : kndOf Try.prog 77 = 9 := by kernel_rfl
theorem sz77 : szOf Try.prog 77 = 1 := by kernel_rfl
theorem ti78 : tiOf Try.prog 78 = some ⟨1, 8, [.nilFunc], false, [], 0, 0, 8, .i64⟩ := by kernel_rfl
theorem kn78 : kndOf Try.prog 78 = 8 := by kernel_rfl
theorem sz78 : szOf Try.prog 78 = 1 := by kernel_rfl
theorem ti79 : tiOf Try.prog 79 = some ⟨1, 8, [.nilFunc], false, [], 0, 0, 8, .i64⟩ := by kernel_rfl
theorem kn79 : kndOf Try.prog 79 = 8 := by kernel_rfl
theorem sz79 : szOf Try.prog 79 = 1 := by kernel_rfl
theorem ti80 : tiOf Try.prog 80 = some ⟨1, 4, [.int .u32 (0)], false, [], 0, 0, 1, .u32⟩ := by kernel_rfl
theorem kn80 : kndOf Try.prog 80 = 1 := by kernel_rfl
theorem sz80 : szOf Try.prog 80 = 1 := by kernel_rfl
theorem ti81 : tiOf Try.prog 81 = some ⟨1, 8, [.nilFunc], false, [], 0, 0, 8, .i64⟩ := by kernel_rfl
theorem kn81 : kndOf Try.prog 81 = 8 := by kernel_rfl
theorem sz81 : szOf Try.prog 81 = 1 := by kernel_rfl
theorem ti82 : tiOf Try.prog 82 = some ⟨1, 8, [.int .u64 (0)], false, [], 0, 0, 1, .u64⟩ := by kernel_rfl
theorem kn82 : kndOf Try.prog 82 = 1 := by kernel_rfl
theorem sz82 : szOf Try.prog 82 = 1 := by kernel_rfl
theorem ti83 : tiOf Try.prog 83 = some ⟨1, 8, [.int .u64 (0)], false, [], 0, 0, 1, .u64⟩ := by kernel_rfl
theorem kn83 : kndOf Try.prog 83 = 1 := by kernel_rfl
theorem sz83 : szOf Try.prog 83 = 1 := by kernel_rfl
theorem ti84 : tiOf Try.prog 84 = some ⟨1, 8, [.nilFunc], false, [], 0, 0, 8, .i64⟩ := by kernel_rfl
theorem kn84 : kndOf Try.prog 84 = 8 := by kernel_rfl
theorem sz84 : szOf Try.prog 84 = 1 := by kernel_rfl
theorem ti85 : tiOf Try.prog 85 = some ⟨1, 8, [.nilFunc], false, [], 0, 0, 8, .i64⟩ := by kernel_rfl
theorem kn85 : kndOf Try.prog 85 = 8 := by kernel_rfl
theorem sz85 : szOf Try.prog 85 = 1 := by kernel_rfl
theorem ti86 : tiOf Try.prog 86 = some ⟨1, 8, [.nilFunc], false, [], 0, 0, 8, .i64⟩ := by kernel_rfl
theorem kn86 : kndOf Try.prog 86 = 8 := by kernel_rfl
theorem sz86 : szOf Try.prog 86 = 1 := by kernel_rfl
theorem ti87 : tiOf Try.prog 87 = some ⟨1, 8, [.pointer none], false, [], 3, 0, 4, .i64⟩ := by kernel_rfl
theorem kn87 : kndOf Try.prog 87 = 4 := by kernel_rfl
theorem sz87 : szOf Try.prog 87 = 1 := by kernel_rfl
theorem ti88 : tiOf Try.prog 88 = some ⟨1, 8, [.nilFunc], false, [], 0, 0, 8, .i64⟩ := by kernel_rfl
theorem kn88 : kndOf Try.prog 88 = 8 := by kernel_rfl
theorem sz88 : szOf Try.prog 88 = 1 := by kernel_rfl
theorem ti89 : tiOf Try.prog 89 = some ⟨1, 8, [.pointer none], false, [], 83, 0, 4, .i64⟩ := by kernel_rfl
theorem kn89 : kndOf Try.prog 89 = 4 := by kernel_rfl
theorem sz89 : szOf Try.prog 89 = 1 := by kernel_rfl
theorem ti90 : tiOf Try.prog 90 = some ⟨1, 0, [.tuple { toList := [.int .i64 (0), .int .i64 (0)] }], false, [], 0, 0, 9, .i64⟩ := by kernel_rfl
theorem kn90 : kndOf Try.prog 90 = 9 := by kernel_rfl
theorem sz90 : szOf Try.prog 90 = 1 := by kernel_rfl
theorem ti91 : tiOf Try.prog 91 = some ⟨1, 8, [.nilFunc], false, [], 0, 0, 8, .i64⟩ := by kernel_rfl
theorem kn91 : kndOf Try.prog 91 = 8 := by kernel_rfl
theorem sz91 : szOf Try.prog 91 = 1 := by kernel_rfl
theorem ti92 : tiOf Try.prog 92 = some ⟨1, 8, [.nilFunc], false, [], 0, 0, 8, .i64⟩ := by kernel_rfl
theorem kn92 : kndOf Try.prog 92 = 8 := by kernel_rfl
theorem sz92 : szOf Try.prog 92 = 1 := by kernel_rfl
theorem ti93 : tiOf Try.prog 93 = some ⟨4, 40, [.pointer none, .pointer none, .pointer none, .string { data := { toList := [] } }], true, [(0, 1, 4), (1, 1, 4), (2, 1, 4), (3, 1, 7)], 0, 0, 5, .i64⟩ := by kernel_rfl
theorem kn93 : kndOf Try.prog 93 = 5 := by kernel_rfl
theorem sz93 : szOf Try.prog 93 = 4 := by kernel_rfl
theorem fl93 : flatS Try.prog 93 = none := by kernel_rfl
theorem ti94 : tiOf Try.prog 94 = some ⟨4, 40, [.pointer none, .pointer none, .pointer none, .string { data := { toList := [] } }], true, [(0, 1, 4), (1, 1, 4), (2, 1, 4), (3, 1, 7)], 0, 0, 5, .i64⟩ := by kernel_rfl
theorem kn94 : kndOf Try.prog 94 = 5 := by kernel_rfl
theorem sz94 : szOf Try.prog 94 = 4 := by kernel_rfl
theorem fl94 : flatS Try.prog 94 = none := by kernel_rfl
theorem ti95 : tiOf Try.prog 95 = some ⟨0, 0, [], true, [], 16, 0, 6, .i64⟩ := by kernel_rfl
theorem kn95 : kndOf Try.prog 95 = 6 := by kernel_rfl
theorem sz95 : szOf Try.prog 95 = 0 := by kernel_rfl
theorem ti96 : tiOf Try.prog 96 = some ⟨0, 0, [], true, [(0, 0, 6)], 0, 0, 5, .i64⟩ := by kernel_rfl
theorem kn96 : kndOf Try.prog 96 = 5 := by kernel_rfl
theorem sz96 : szOf Try.prog 96 = 0 := by kernel_rfl
theorem fl96 : flatS Try.prog 96 = none := by kernel_rfl
theorem ti97 : tiOf Try.prog 97 = some ⟨0, 0, [], true, [(0, 0, 6)], 0, 0, 5, .i64⟩ := by kernel_rfl
theorem kn97 : kndOf Try.prog 97 = 5 := by kernel_rfl
theorem sz97 : szOf Try.prog 97 = 0 := by kernel_rfl
theorem fl97 : flatS Try.prog 97 = none := by kernel_rfl
theorem ti98 : tiOf Try.prog 98 = some ⟨1, 1, [.int .u8 (0)], false, [], 0, 0, 1, .u8⟩ := by kernel_rfl
theorem kn98 : kndOf Try.prog 98 = 1 := by kernel_rfl
theorem sz98 : szOf Try.prog 98 = 1 := by kernel_rfl
theorem ti99 : tiOf Try.prog 99 = some ⟨1, 1, [.int .u8 (0)], false, [], 0, 0, 1, .u8⟩ := by kernel_rfl
theorem kn99 : kndOf Try.prog 99 = 1 := by kernel_rfl
theorem sz99 : szOf Try.prog 99 = 1 := by kernel_rfl
theorem ti100 : tiOf Try.prog 100 = some ⟨1, 8, [.nilFunc], false, [], 0, 0, 8, .i64⟩ := by kernel_rfl
theorem kn100 : kndOf Try.prog 100 = 8 := by kernel_rfl
theorem sz100 : szOf Try.prog 100 = 1 := by kernel_rfl
theorem ti101 : tiOf Try.prog 101 = some ⟨1, 8, [.pointer none], false, [], 5, 0, 4, .i64⟩ := by kernel_rfl
theorem kn101 : kndOf Try.prog 101 = 4 := by kernel_rfl
theorem sz101 : szOf Try.prog 101 = 1 := by kernel_rfl
theorem ti102 : tiOf Try.prog 102 = some ⟨1, 4, [.int .i32 (0)], false, [], 0, 0, 1, .i32⟩ := by kernel_rfl
theorem kn102 : kndOf Try.prog 102 = 1 := by kernel_rfl
theorem sz102 : szOf Try.prog 102 = 1 := by kernel_rfl
theorem ti103 : tiOf Try.prog 103 = some ⟨1, 4, [.int .i32 (0)], false, [], 0, 0, 1, .i32⟩ := by kernel_rfl
theorem kn103 : kndOf Try.prog 103 = 1 := by kernel_rfl
theorem sz103 : szOf Try.prog 103 = 1 := by kernel_rfl
theorem ti104 : tiOf Try.prog 104 = some ⟨11, 48, [.int .u64 (0), .int .u64 (0), .int .u32 (0), .int .u8 (0), .int .u8 (0), .int .u8 (0), .int .u8 (0), .nilFunc, .pointer none, .int .i32 (0), .int .i32 (0)], true, [(0, 1, 1), (1, 1, 1), (2, 1, 1), (3, 1, 1), (4, 1, 1), (5, 1, 1), (6, 1, 1), (7, 1, 8), (8, 1, 4), (9, 1, 1), (10, 1, 1)], 0, 0, 5, .i64⟩ := by kernel_rfl
theorem kn104 : kndOf Try.prog 104 = 5 := by kernel_rfl
theorem sz104 : szOf Try.prog 104 = 11 := by kernel_rfl
theorem fl104 : flatS Try.prog 104 = none := by kernel_rfl
theorem ti105 : tiOf Try.prog 105 = some ⟨11, 48, [.int .u64 (0), .int .u64 (0), .int .u32 (0), .int .u8 (0), .int .u8 (0), .int .u8 (0), .int .u8 (0), .nilFunc, .pointer none, .int .i32 (0), .int .i32 (0)], true, [(0, 1, 1), (1, 1, 1), (2, 1, 1), (3, 1, 1), (4, 1, 1), (5, 1, 1), (6, 1, 1), (7, 1, 8), (8, 1, 4), (9, 1, 1), (10, 1, 1)], 0, 0, 5, .i64⟩ := by kernel_rfl
theorem kn105 : kndOf Try.prog 105 = 5 := by kernel_rfl
theorem sz105 : szOf Try.prog 105 = 11 := by kernel_rfl
theorem fl105 : flatS Try.prog 105 = none := by kernel_rfl
theorem ti106 : tiOf Try.prog 106 = some ⟨1, 8, [.pointer none], false, [], 0, 0, 9, .i64⟩ := by kernel_rfl
theorem kn106 : kndOf Try.prog 106 = 9 := by kernel_rfl
theorem sz106 : szOf Try.prog 106 = 1 := by kernel_rfl
theorem fr2 : Try.f2.results.toList = [] := rfl
theorem cal2 : callable Try.prog 2 = true := by kernel_rfl
theorem fr3 : Try.f3.results.toList = [.tmp 12] := rfl
theorem cal3 : callable Try.prog 3 = true := by kernel_rfl
theorem fr4 : Try.f4.results.toList = [.tmp 4] := rfl
theorem cal4 : callable Try.prog 4 = true := by kernel_rfl
theorem fr5 : Try.f5.results.toList = [.tmp 8] := rfl
theorem cal5 : callable Try.prog 5 = true := by kernel_rfl
theorem fr6 : Try.f6.results.toList = [.tmp 4] := rfl
theorem cal6 : callable Try.prog 6 = true := by kernel_rfl
theorem fr7 : Try.f7.results.toList = [.tmp 2] := rfl
theorem cal7 : callable Try.prog 7 = true := by kernel_rfl
theorem fr8 : Try.f8.results.toList = [.tmp 0] := rfl
theorem cal8 : callable Try.prog 8 = true := by kernel_rfl
theorem fr9 : Try.f9.results.toList = [.cell 4 25] := rfl
theorem cal9 : callable Try.prog 9 = true := by kernel_rfl
theorem fr10 : Try.f10.results.toList = [.tmp 6] := rfl
theorem cal10 : callable Try.prog 10 = true := by kernel_rfl
theorem fr11 : Try.f11.results.toList = [.tmp 2] := rfl
theorem cal11 : callable Try.prog 11 = true := by kernel_rfl
theorem fr12 : Try.f12.results.toList = [.tmp 2] := rfl
theorem cal12 : callable Try.prog 12 = true := by kernel_rfl
theorem fr13 : Try.f13.results.toList = [.tmp 4] := rfl
theorem cal13 : callable Try.prog 13 = true := by kernel_rfl
theorem fr14 : Try.f14.results.toList = [.tmp 6] := rfl
theorem cal14 : callable Try.prog 14 = true := by kernel_rfl
theorem fr15 : Try.f15.results.toList = [.tmp 4] := rfl
theorem cal15 : callable Try.prog 15 = true := by kernel_rfl
theorem fr16 : Try.f16.results.toList = [.tmp 4] := rfl
theorem cal16 : callable Try.prog 16 = true := by kernel_rfl
theorem fr17 : Try.f17.results.toList = [.tmp 4] := rfl
theorem cal17 : callable Try.prog 17 = true := by kernel_rfl
theorem fr18 : Try.f18.results.toList = [.cell 4 41, .tmp 5] := rfl
theorem cal18 : callable Try.prog 18 = true := by kernel_rfl
theorem fr19 : Try.f19.results.toList = [.tmp 4] := rfl
theorem cal19 : callable Try.prog 19 = true := by kernel_rfl
theorem fr20 : Try.f20.results.toList = [.tmp 4] := rfl
theorem cal20 : callable Try.prog 20 = true := by kernel_rfl
theorem fr21 : Try.f21.results.toList = [.cell 4 41, .tmp 5] := rfl
theorem cal21 : callable Try.prog 21 = true := by kernel_rfl
theorem fr22 : Try.f22.results.toList = [.tmp 4] := rfl
theorem cal22 : callable Try.prog 22 = true := by kernel_rfl
theorem fr23 : Try.f23.results.toList = [.tmp 4] := rfl
theorem cal23 : callable Try.prog 23 = true := by kernel_rfl
theorem fr24 : Try.f24.results.toList = [.tmp 4] := rfl
theorem cal24 : callable Try.prog 24 = true := by kernel_rfl
theorem fr25 : Try.f25.results.toList = [.tmp 4] := rfl
theorem cal25 : callable Try.prog 25 = true := by kernel_rfl
theorem fr26 : Try.f26.results.toList = [.tmp 6] := rfl
theorem cal26 : callable Try.prog 26 = true := by kernel_rfl
theorem fr27 : Try.f27.results.toList = [.cell 2 25] := rfl
theorem cal27 : callable Try.prog 27 = true := by kernel_rfl
theorem fr28 : Try.f28.results.toList = [.tmp 2] := rfl
theorem cal28 : callable Try.prog 28 = true := by kernel_rfl
theorem fr29 : Try.f29.results.toList = [] := rfl
theorem cal29 : callable Try.prog 29 = true := by kernel_rfl
theorem fr30 : Try.f30.results.toList = [.tmp 6] := rfl
theorem cal30 : callable Try.prog 30 = true := by kernel_rfl
theorem fr31 : Try.f31.results.toList = [] := rfl
theorem cal31 : callable Try.prog 31 = true := by kernel_rfl
theorem fr32 : Try.f32.results.toList = [.tmp 4] := rfl
theorem cal32 : callable Try.prog 32 = true := by kernel_rfl
theorem fr33 : Try.f33.results.toList = [.tmp 4] := rfl
theorem cal33 : callable Try.prog 33 = true := by kernel_rfl
theorem fr34 : Try.f34.results.toList = [.tmp 8] := rfl
theorem cal34 : callable Try.prog 34 = true := by kernel_rfl
theorem fr35 : Try.f35.results.toList = [.tmp 4] := rfl
theorem cal35 : callable Try.prog 35 = true := by kernel_rfl
theorem fr36 : Try.f36.results.toList = [.tmp 2] := rfl
theorem cal36 : callable Try.prog 36 = true := by kernel_rfl
theorem fr37 : Try.f37.results.toList = [.tmp 4] := rfl
theorem cal37 : callable Try.prog 37 = true := by kernel_rfl
theorem fr38 : Try.f38.results.toList = [.tmp 2] := rfl
theorem cal38 : callable Try.prog 38 = true := by kernel_rfl
theorem fr39 : Try.f39.results.toList = [] := rfl
theorem cal39 : callable Try.prog 39 = true := by kernel_rfl
theorem fr40 : Try.f40.results.toList = [] := rfl
theorem cal40 : callable Try.prog 40 = true := by kernel_rfl
theorem fr41 : Try.f41.results.toList = [.tmp 2] := rfl
theorem cal41 : callable Try.prog 41 = true := by kernel_rfl
theorem fr42 : Try.f42.results.toList = [] := rfl
theorem cal42 : callable Try.prog 42 = true := by kernel_rfl
theorem fr43 : Try.f43.results.toList = [] := rfl
theorem cal43 : callable Try.prog 43 = true := by kernel_rfl
theorem fr44 : Try.f44.results.toList = [] := rfl
theorem cal44 : callable Try.prog 44 = true := by kernel_rfl
theorem fr45 : Try.f45.results.toList = [.tmp 6, .tmp 7] := rfl
theorem cal45 : callable Try.prog 45 = true := by kernel_rfl
theorem fr46 : Try.f46.results.toList = [] := rfl
theorem cal46 : callable Try.prog 46 = true := by kernel_rfl
theorem fr47 : Try.f47.results.toList = [.tmp 6] := rfl
theorem cal47 : callable Try.prog 47 = true := by kernel_rfl
theorem fr48 : Try.f48.results.toList = [.tmp 4] := rfl
theorem cal48 : callable Try.prog 48 = true := by kernel_rfl
theorem fr49 : Try.f49.results.toList = [.tmp 8] := rfl
theorem cal49 : callable Try.prog 49 = true := by kernel_rfl
theorem fr50 : Try.f50.results.toList = [.tmp 8, .tmp 9] := rfl
theorem cal50 : callable Try.prog 50 = true := by kernel_rfl
theorem fr51 : Try.f51.results.toList = [.tmp 2] := rfl
theorem cal51 : callable Try.prog 51 = true := by kernel_rfl
theorem fr52 : Try.f52.results.toList = [.tmp 2] := rfl
theorem cal52 : callable Try.prog 52 = true := by kernel_rfl
theorem fr53 : Try.f53.results.toList = [] := rfl
theorem cal53 : callable Try.prog 53 = true := by kernel_rfl
theorem fr54 : Try.f54.results.toList = [.tmp 2] := rfl
theorem cal54 : callable Try.prog 54 = true := by kernel_rfl
theorem fr55 : Try.f55.results.toList = [.tmp 2] := rfl
theorem cal55 : callable Try.prog 55 = true := by kernel_rfl
theorem fr56 : Try.f56.results.toList = [.tmp 6] := rfl
theorem cal56 : callable Try.prog 56 = true := by kernel_rfl
theorem fr57 : Try.f57.results.toList = [.tmp 10] := rfl
theorem cal57 : callable Try.prog 57 = true := by kernel_rfl
theorem fr58 : Try.f58.results.toList = [.tmp 2] := rfl
theorem cal58 : callable Try.prog 58 = true := by kernel_rfl
theorem fr59 : Try.f59.results.toList = [.tmp 8, .tmp 9] := rfl
theorem cal59 : callable Try.prog 59 = true := by kernel_rfl
def gty (t : TypeId) : Option FTy :=
  if t = 2 then some (.int .i64) else
  if t = 3 then some (.int .i64) else
  if t = 4 then some (.bool) else
  if t = 5 then some (.int .u8) else
  if t = 41 then some (.arc) else
  none
theorem gt2 : gty 2 = some (.int .i64) := rfl
theorem gt3 : gty 3 = some (.int .i64) := rfl
theorem gt4 : gty 4 = some (.bool) := rfl
theorem gt5 : gty 5 = some (.int .u8) := rfl
theorem gt41 : gty 41 = some (.arc) := rfl
@[reducible] noncomputable def cfg : Cfg := ⟨Try.prog, gty, Fence.wide, 5, good_wide⟩
@[reducible] noncomputable def cfgN (n : Nat) : Cfg := ⟨Try.prog, gty, Fence.wide, n, good_wide⟩
@[reducible] noncomputable def cfgR (l : Nat) : Cfg := ⟨Try.prog, gty, Fence.wide.inRound l, 3, good_round l⟩
theorem mixed : Try.prog.follows .mixedOrders = true := by kernel_rfl
attribute [go_sem] ti0 kn0 sz0 ti1 kn1 sz1 ti2 kn2 sz2 ti3 kn3 sz3 ti4 kn4 sz4 ti5 kn5 sz5 ti6 kn6 sz6 ti7 kn7 sz7 fl7 ti8 kn8 sz8 fl8 ti9 kn9 sz9 ti10 kn10 sz10 ti11 kn11 sz11 ti12 kn12 sz12 ti13 kn13 sz13 fl13 ti14 kn14 sz14 fl14 ti15 kn15 sz15 ti16 kn16 sz16 ti17 kn17 sz17 ti18 kn18 sz18 fl18 ti19 kn19 sz19 fl19 ti20 kn20 sz20 ti21 kn21 sz21 ti22 kn22 sz22 ti23 kn23 sz23 ti24 kn24 sz24 fl24 ti25 kn25 sz25 fl25 ti26 kn26 sz26 ti27 kn27 sz27 ti28 kn28 sz28 ti29 kn29 sz29 ti30 kn30 sz30 ti31 kn31 sz31 ti32 kn32 sz32 ti33 kn33 sz33 ti34 kn34 sz34 ti35 kn35 sz35 ti36 kn36 sz36 ti37 kn37 sz37 ti38 kn38 sz38 ti39 kn39 sz39 ti40 kn40 sz40 fl40 ti41 kn41 sz41 fl41 ti42 kn42 sz42 ti43 kn43 sz43 ti44 kn44 sz44 ti45 kn45 sz45 ti46 kn46 sz46 ti47 kn47 sz47 ti48 kn48 sz48 ti49 kn49 sz49 ti50 kn50 sz50 ti51 kn51 sz51 ti52 kn52 sz52 fl52 ti53 kn53 sz53 fl53 ti54 kn54 sz54 ti55 kn55 sz55 ti56 kn56 sz56 ti57 kn57 sz57 ti58 kn58 sz58 ti59 kn59 sz59 ti60 kn60 sz60 ti61 kn61 sz61 ti62 kn62 sz62 ti63 kn63 sz63 ti64 kn64 sz64 ti65 kn65 sz65 ti66 kn66 sz66 ti67 kn67 sz67 ti68 kn68 sz68 ti69 kn69 sz69 ti70 kn70 sz70 ti71 kn71 sz71 ti72 kn72 sz72 ti73 kn73 sz73 ti74 kn74 sz74 ti75 kn75 sz75 ti76 kn76 sz76 ti77 kn77 sz77 ti78 kn78 sz78 ti79 kn79 sz79 ti80 kn80 sz80 ti81 kn81 sz81 ti82 kn82 sz82 ti83 kn83 sz83 ti84 kn84 sz84 ti85 kn85 sz85 ti86 kn86 sz86 ti87 kn87 sz87 ti88 kn88 sz88 ti89 kn89 sz89 ti90 kn90 sz90 ti91 kn91 sz91 ti92 kn92 sz92 ti93 kn93 sz93 fl93 ti94 kn94 sz94 fl94 ti95 kn95 sz95 ti96 kn96 sz96 fl96 ti97 kn97 sz97 fl97 ti98 kn98 sz98 ti99 kn99 sz99 ti100 kn100 sz100 ti101 kn101 sz101 ti102 kn102 sz102 ti103 kn103 sz103 ti104 kn104 sz104 fl104 ti105 kn105 sz105 fl105 ti106 kn106 sz106 fr2 fr3 fr4 fr5 fr6 fr7 fr8 fr9 fr10 fr11 fr12 fr13 fr14 fr15 fr16 fr17 fr18 fr19 fr20 fr21 fr22 fr23 fr24 fr25 fr26 fr27 fr28 fr29 fr30 fr31 fr32 fr33 fr34 fr35 fr36 fr37 fr38 fr39 fr40 fr41 fr42 fr43 fr44 fr45 fr46 fr47 fr48 fr49 fr50 fr51 fr52 fr53 fr54 fr55 fr56 fr57 fr58 fr59 gt2 gt3 gt4 gt5 gt41
end Go.Proofs.Ytgbmhfbfcbjccaa
