/-
  A part of the run of the awake check over the fixed tables. For this one program.
-/
import Derived.Test.YtaigaoiedjccgaaGreatDoorEvG
import Derived.KernelRfl
import Derived.Laws.Externs
import Derived.Lib.Bytealg
import Derived.Test.YtaigaoiedjccgaaGreatDoorProg
set_option linter.unusedVariables false
set_option linter.unusedSimpArgs false

namespace Go.Proofs.Aw
open Go Go.Ev
abbrev j (n : Int) : AV := .int .i64 n
abbrev ns : AV := .raw (.slice none 0 0)
abbrev np : AV := .raw (.pointer none)
abbrev nm : AV := .raw (.map none)
abbrev nf : AV := .raw .nilFunc
abbrev nif : AV := .raw .nilIface
def e26_0 : Entry := ⟨26, [.agg [.nslc 0 0 1 (some 1), ns, ns]],
  [.row [.str [109, 97, 105, 110], j (.ofNat 0), j (.ofNat 0), j (.ofNat 0), .bool false, .nslc 1 0 3 (some 3)] 0 0 true true 1000000000000 41 true true,
    .row [j (.ofNat 39), j (.ofNat 0), j (.ofNat 0), j (.ofNat 0), ns, j (.ofNat 39), j (.ofNat 0), j (.ofNat 0), j (.ofNat 0), ns, j (.ofNat 39), j (.ofNat 0), j (.ofNat 0), j (.ofNat 0), ns] 1 0 true true 1000000000000 38 true true],
  j (.ofNat 0),
  []⟩
def L1 : List Entry := [e26_0]
def T1 : List Entry := L1
def e28_0 : Entry := ⟨28, [.agg [.nslc 0 0 1 (some 1), ns, ns]],
  [.row [.str [109, 97, 105, 110], j (.ofNat 0), j (.ofNat 0), j (.ofNat 0), .bool false, .nslc 1 0 3 (some 3)] 0 0 true true 1000000000000 41 true true,
    .row [j (.ofNat 39), j (.ofNat 0), j (.ofNat 0), j (.ofNat 0), ns, j (.ofNat 39), j (.ofNat 0), j (.ofNat 0), j (.ofNat 0), ns, j (.ofNat 39), j (.ofNat 0), j (.ofNat 0), j (.ofNat 0), ns] 1 0 true true 1000000000000 38 true true],
  .tup [.agg [j (.ofNat 0), j (.ofNat 0), .nslc 2 0 1 (some 1), .nslc 3 0 1 none, ns, ns, ns, ns], j (.ofNat 0)],
  [.row [j (.ofNat 0), j (.ofNat 0), j (.ofNat 0), j (.ofNat 1), j (.ofNat 0), j (.ofNat 0), .bool false, .nslc 4 0 1 (some 1), .nslc 5 0 1 (some 1), j (.ofNat 0), .bool false, j (.ofNat 0), j (.ofNat 0), j (.ofNat 0)] 0 0 false false 0 121 true false,
    .row [j (.negSucc 0), j (.negSucc 0), j (.ofNat 1), j (.ofNat 0), j (.ofNat 0), j (.negSucc 0), .bool false] 0 0 false false 0 149 false false,
    .row [j (.ofNat 0), j (.ofNat 0), .nslc 6 0 0 (some 0), j (.negSucc 0), .bool false] 0 0 false false 0 205 true false,
    .row [j (.negSucc 0), j (.ofNat 0), j (.ofNat 0), j (.ofNat 0), ns] 0 0 false false 0 208 true false,
    .row [] 0 0 false false 0 3 true false]⟩
def e38_1 : Entry := ⟨38, [.agg [.nslc 0 0 1 (some 1), ns, ns], .agg [j (.ofNat 0), j (.ofNat 0), .nslc 1 0 1 (some 1), .nslc 2 0 1 none, ns, ns, ns, ns]],
  [.row [.str [109, 97, 105, 110], j (.ofNat 0), j (.ofNat 0), j (.ofNat 0), .bool false, .nslc 3 0 3 (some 3)] 0 0 true true 1000000000000 41 true true,
    .row [j (.ofNat 0), j (.ofNat 0), j (.ofNat 0), j (.ofNat 1), j (.ofNat 0), j (.ofNat 0), .bool false, .nslc 4 0 1 (some 1), .nslc 5 0 1 (some 1), j (.ofNat 0), .bool false, j (.ofNat 0), j (.ofNat 0), j (.ofNat 0)] 1 0 true true 1000000000000 121 true true,
    .row [j (.negSucc 0), j (.negSucc 0), j (.ofNat 1), j (.ofNat 0), j (.ofNat 0), j (.negSucc 0), .bool false] 2 0 true true 1000000000000 149 false true,
    .row [j (.ofNat 39), j (.ofNat 0), j (.ofNat 0), j (.ofNat 0), ns, j (.ofNat 39), j (.ofNat 0), j (.ofNat 0), j (.ofNat 0), ns, j (.ofNat 39), j (.ofNat 0), j (.ofNat 0), j (.ofNat 0), ns] 3 0 true true 1000000000000 38 true true,
    .row [j (.ofNat 0), j (.ofNat 0), .nslc 6 0 0 (some 0), j (.negSucc 0), .bool false] 4 0 true true 1000000000000 205 true true,
    .row [j (.negSucc 0), j (.ofNat 0), j (.ofNat 0), j (.ofNat 0), ns] 5 0 true true 1000000000000 208 true true,
    .row [] 6 0 true true 1000000000000 3 true true],
  j (.ofNat 0),
  []⟩
def e114_2 : Entry := ⟨114, [.agg [.nslc 0 0 1 (some 1), ns, ns], .agg [j (.ofNat 0), j (.ofNat 0), .nslc 1 0 1 (some 1), .nslc 2 0 1 none, ns, ns, ns, ns], j (.ofNat 0)],
  [.row [.str [109, 97, 105, 110], j (.ofNat 0), j (.ofNat 0), j (.ofNat 0), .bool false, .nslc 3 0 3 (some 3)] 0 0 true true 1000000000000 41 true true,
    .row [j (.ofNat 0), j (.ofNat 0), j (.ofNat 0), j (.ofNat 1), j (.ofNat 0), j (.ofNat 0), .bool false, .nslc 4 0 1 (some 1), .nslc 5 0 1 (some 1), j (.ofNat 0), .bool false, j (.ofNat 0), j (.ofNat 0), j (.ofNat 0)] 1 0 true true 1000000000000 121 true true,
    .row [j (.negSucc 0), j (.negSucc 0), j (.ofNat 1), j (.ofNat 0), j (.ofNat 0), j (.negSucc 0), .bool false] 2 0 true true 1000000000000 149 false true,
    .row [j (.ofNat 39), j (.ofNat 0), j (.ofNat 0), j (.ofNat 0), ns, j (.ofNat 39), j (.ofNat 0), j (.ofNat 0), j (.ofNat 0), ns, j (.ofNat 39), j (.ofNat 0), j (.ofNat 0), j (.ofNat 0), ns] 3 0 true true 1000000000000 38 true true,
    .row [j (.ofNat 0), j (.ofNat 0), .nslc 6 0 0 (some 0), j (.negSucc 0), .bool false] 4 0 true true 1000000000000 205 true true,
    .row [j (.negSucc 0), j (.ofNat 0), j (.ofNat 0), j (.ofNat 0), ns] 5 0 true true 1000000000000 208 true true,
    .row [] 6 0 true true 1000000000000 3 true true],
  .nslc 7 0 1 (some 1),
  [.row [j (.ofNat 0), j (.ofNat 0)] 0 0 false false 0 48 true false]⟩
def e126_3 : Entry := ⟨126, [.agg [.nslc 0 0 1 (some 1), ns, ns], .agg [j (.ofNat 0), j (.ofNat 0), j (.ofNat 0), j (.ofNat 1), j (.ofNat 0), j (.ofNat 0), .bool false, .nslc 1 0 1 (some 1), .nslc 2 0 1 (some 1), j (.ofNat 0), .bool false, j (.ofNat 0), j (.ofNat 0), j (.ofNat 0)]],
  [.row [.str [109, 97, 105, 110], j (.ofNat 0), j (.ofNat 0), j (.ofNat 0), .bool false, .nslc 3 0 3 (some 3)] 0 0 true true 1000000000000 41 true true,
    .row [j (.ofNat 0), j (.ofNat 0), .nslc 4 0 0 (some 0), j (.negSucc 0), .bool false] 1 0 true true 1000000000000 205 true true,
    .row [j (.negSucc 0), j (.ofNat 0), j (.ofNat 0), j (.ofNat 0), ns] 2 0 true true 1000000000000 208 true true,
    .row [j (.ofNat 39), j (.ofNat 0), j (.ofNat 0), j (.ofNat 0), ns, j (.ofNat 39), j (.ofNat 0), j (.ofNat 0), j (.ofNat 0), ns, j (.ofNat 39), j (.ofNat 0), j (.ofNat 0), j (.ofNat 0), ns] 3 0 true true 1000000000000 38 true true,
    .row [] 4 0 true true 1000000000000 3 true true],
  .tup [.agg [j (.ofNat 0), j (.ofNat 0), j (.ofNat 0), j (.ofNat 1), j (.ofNat 0), j (.ofNat 0), .bool false, .nslc 5 0 1 (some 1), .nslc 6 0 1 none, j (.ofNat 0), .bool false, j (.ofNat 0), j (.ofNat 0), j (.ofNat 0)], .agg [j (.ofNat 1), j (.ofNat 0), j (.ofNat 0)], j (.ofNat 0)],
  [.row [j (.ofNat 0), j (.ofNat 0), .nslc 7 0 0 (some 0), j (.negSucc 0), .bool false] 0 0 false false 0 205 false false,
    .row [j (.negSucc 0), j (.ofNat 0), j (.ofNat 0), j (.ofNat 0), ns] 0 0 false false 0 208 false false,
    .row [] 0 0 false false 0 3 true false]⟩
def e38_4 : Entry := ⟨38, [.agg [.nslc 0 0 1 (some 1), ns, ns], .agg [j (.ofNat 0), j (.ofNat 1), .nslc 1 0 1 none, .nslc 2 0 1 none, ns, ns, ns, ns]],
  [.row [.str [109, 97, 105, 110], j (.ofNat 0), j (.ofNat 0), j (.ofNat 0), .bool false, .nslc 3 0 3 (some 3)] 0 0 true true 1000000000000 41 true true,
    .row [j (.ofNat 0), j (.ofNat 0), j (.ofNat 0), j (.ofNat 1), j (.ofNat 0), j (.ofNat 0), .bool false, .nslc 4 0 1 none, .nslc 5 0 1 none, j (.ofNat 0), .bool false, j (.ofNat 0), j (.ofNat 0), j (.ofNat 0)] 1 0 true true 1000000000000 121 false true,
    .row [j (.negSucc 0), j (.negSucc 0), j (.ofNat 1), j (.ofNat 0), j (.ofNat 0), j (.negSucc 0), .bool false] 2 0 true true 1000000000000 149 false true,
    .row [j (.ofNat 39), j (.ofNat 0), j (.ofNat 0), j (.ofNat 0), ns, j (.ofNat 39), j (.ofNat 0), j (.ofNat 0), j (.ofNat 0), ns, j (.ofNat 39), j (.ofNat 0), j (.ofNat 0), j (.ofNat 0), ns] 3 0 true true 1000000000000 38 true true,
    .row [j (.ofNat 0), j (.ofNat 1), .nslc 6 0 0 (some 0), j (.negSucc 0), .bool false] 4 0 true true 1000000000000 205 false true,
    .row [j (.negSucc 0), j (.ofNat 0), j (.ofNat 0), j (.ofNat 0), ns] 5 0 true true 1000000000000 208 false true,
    .row [] 6 0 true true 1000000000000 3 true true],
  j (.ofNat 0),
  []⟩
def e114_5 : Entry := ⟨114, [.agg [.nslc 0 0 1 (some 1), ns, ns], .agg [j (.ofNat 0), j (.ofNat 1), .nslc 1 0 1 none, .nslc 2 0 1 none, ns, ns, ns, ns], j (.ofNat 0)],
  [.row [.str [109, 97, 105, 110], j (.ofNat 0), j (.ofNat 0), j (.ofNat 0), .bool false, .nslc 3 0 3 (some 3)] 0 0 true true 1000000000000 41 true true,
    .row [j (.ofNat 0), j (.ofNat 0), j (.ofNat 0), j (.ofNat 1), j (.ofNat 0), j (.ofNat 0), .bool false, .nslc 4 0 1 none, .nslc 5 0 1 none, j (.ofNat 0), .bool false, j (.ofNat 0), j (.ofNat 0), j (.ofNat 0)] 1 0 true true 1000000000000 121 false true,
    .row [j (.negSucc 0), j (.negSucc 0), j (.ofNat 1), j (.ofNat 0), j (.ofNat 0), j (.negSucc 0), .bool false] 2 0 true true 1000000000000 149 false true,
    .row [j (.ofNat 39), j (.ofNat 0), j (.ofNat 0), j (.ofNat 0), ns, j (.ofNat 39), j (.ofNat 0), j (.ofNat 0), j (.ofNat 0), ns, j (.ofNat 39), j (.ofNat 0), j (.ofNat 0), j (.ofNat 0), ns] 3 0 true true 1000000000000 38 true true,
    .row [j (.ofNat 0), j (.ofNat 1), .nslc 6 0 0 (some 0), j (.negSucc 0), .bool false] 4 0 true true 1000000000000 205 false true,
    .row [j (.negSucc 0), j (.ofNat 0), j (.ofNat 0), j (.ofNat 0), ns] 5 0 true true 1000000000000 208 false true,
    .row [] 6 0 true true 1000000000000 3 true true],
  .nslc 7 0 1 (some 1),
  [.row [j (.ofNat 0), j (.ofNat 0)] 0 0 false false 0 48 true false]⟩
def e126_6 : Entry := ⟨126, [.agg [.nslc 0 0 1 (some 1), ns, ns], .agg [j (.ofNat 0), j (.ofNat 0), j (.ofNat 0), j (.ofNat 1), j (.ofNat 0), j (.ofNat 0), .bool false, .nslc 1 0 1 none, .nslc 2 0 1 none, j (.ofNat 0), .bool false, j (.ofNat 0), j (.ofNat 0), j (.ofNat 0)]],
  [.row [.str [109, 97, 105, 110], j (.ofNat 0), j (.ofNat 0), j (.ofNat 0), .bool false, .nslc 3 0 3 (some 3)] 0 0 true true 1000000000000 41 true true,
    .row [j (.ofNat 0), j (.ofNat 1), .nslc 4 0 0 (some 0), j (.negSucc 0), .bool false] 1 0 true true 1000000000000 205 false true,
    .row [j (.negSucc 0), j (.ofNat 0), j (.ofNat 0), j (.ofNat 0), ns] 2 0 true true 1000000000000 208 false true,
    .row [j (.ofNat 39), j (.ofNat 0), j (.ofNat 0), j (.ofNat 0), ns, j (.ofNat 39), j (.ofNat 0), j (.ofNat 0), j (.ofNat 0), ns, j (.ofNat 39), j (.ofNat 0), j (.ofNat 0), j (.ofNat 0), ns] 3 0 true true 1000000000000 38 true true,
    .row [] 4 0 true true 1000000000000 3 true true],
  .tup [.agg [j (.ofNat 0), j (.ofNat 0), j (.ofNat 0), j (.ofNat 1), j (.ofNat 0), j (.ofNat 0), .bool false, .nslc 5 0 1 (some 1), .nslc 6 0 1 none, j (.ofNat 0), .bool false, j (.ofNat 0), j (.ofNat 0), j (.ofNat 0)], .agg [j (.ofNat 1), j (.ofNat 0), j (.ofNat 0)], j (.ofNat 0)],
  [.row [j (.ofNat 0), j (.ofNat 1), .nslc 7 0 0 (some 0), j (.negSucc 0), .bool false] 0 0 false false 0 205 false false,
    .row [j (.negSucc 0), j (.ofNat 0), j (.ofNat 0), j (.ofNat 0), ns] 0 0 false false 0 208 false false,
    .row [] 0 0 false false 0 3 true false]⟩
def e38_7 : Entry := ⟨38, [.agg [.nslc 0 0 1 (some 1), ns, ns], .agg [j (.ofNat 0), j (.ofNat 2), .nslc 1 0 1 none, .nslc 2 0 1 none, ns, ns, ns, ns]],
  [.row [.str [109, 97, 105, 110], j (.ofNat 0), j (.ofNat 0), j (.ofNat 0), .bool false, .nslc 3 0 3 (some 3)] 0 0 true true 1000000000000 41 true true,
    .row [j (.ofNat 0), j (.ofNat 0), j (.ofNat 0), j (.ofNat 1), j (.ofNat 0), j (.ofNat 0), .bool false, .nslc 4 0 1 none, .nslc 5 0 1 none, j (.ofNat 0), .bool false, j (.ofNat 0), j (.ofNat 0), j (.ofNat 0)] 1 0 true true 1000000000000 121 false true,
    .row [j (.negSucc 0), j (.negSucc 0), j (.ofNat 1), j (.ofNat 0), j (.ofNat 0), j (.negSucc 0), .bool false] 2 0 true true 1000000000000 149 false true,
    .row [j (.ofNat 39), j (.ofNat 0), j (.ofNat 0), j (.ofNat 0), ns, j (.ofNat 39), j (.ofNat 0), j (.ofNat 0), j (.ofNat 0), ns, j (.ofNat 39), j (.ofNat 0), j (.ofNat 0), j (.ofNat 0), ns] 3 0 true true 1000000000000 38 true true,
    .row [j (.ofNat 0), j (.ofNat 2), .nslc 6 0 0 (some 0), j (.negSucc 0), .bool false] 4 0 true true 1000000000000 205 false true,
    .row [j (.negSucc 0), j (.ofNat 0), j (.ofNat 0), j (.ofNat 0), ns] 5 0 true true 1000000000000 208 false true,
    .row [] 6 0 true true 1000000000000 3 true true],
  j (.ofNat 0),
  []⟩
def e114_8 : Entry := ⟨114, [.agg [.nslc 0 0 1 (some 1), ns, ns], .agg [j (.ofNat 0), j (.ofNat 2), .nslc 1 0 1 none, .nslc 2 0 1 none, ns, ns, ns, ns], j (.ofNat 0)],
  [.row [.str [109, 97, 105, 110], j (.ofNat 0), j (.ofNat 0), j (.ofNat 0), .bool false, .nslc 3 0 3 (some 3)] 0 0 true true 1000000000000 41 true true,
    .row [j (.ofNat 0), j (.ofNat 0), j (.ofNat 0), j (.ofNat 1), j (.ofNat 0), j (.ofNat 0), .bool false, .nslc 4 0 1 none, .nslc 5 0 1 none, j (.ofNat 0), .bool false, j (.ofNat 0), j (.ofNat 0), j (.ofNat 0)] 1 0 true true 1000000000000 121 false true,
    .row [j (.negSucc 0), j (.negSucc 0), j (.ofNat 1), j (.ofNat 0), j (.ofNat 0), j (.negSucc 0), .bool false] 2 0 true true 1000000000000 149 false true,
    .row [j (.ofNat 39), j (.ofNat 0), j (.ofNat 0), j (.ofNat 0), ns, j (.ofNat 39), j (.ofNat 0), j (.ofNat 0), j (.ofNat 0), ns, j (.ofNat 39), j (.ofNat 0), j (.ofNat 0), j (.ofNat 0), ns] 3 0 true true 1000000000000 38 true true,
    .row [j (.ofNat 0), j (.ofNat 2), .nslc 6 0 0 (some 0), j (.negSucc 0), .bool false] 4 0 true true 1000000000000 205 false true,
    .row [j (.negSucc 0), j (.ofNat 0), j (.ofNat 0), j (.ofNat 0), ns] 5 0 true true 1000000000000 208 false true,
    .row [] 6 0 true true 1000000000000 3 true true],
  .nslc 7 0 1 (some 1),
  [.row [j (.ofNat 0), j (.ofNat 0)] 0 0 false false 0 48 true false]⟩
def e126_9 : Entry := ⟨126, [.agg [.nslc 0 0 1 (some 1), ns, ns], .agg [j (.ofNat 0), j (.ofNat 0), j (.ofNat 0), j (.ofNat 1), j (.ofNat 0), j (.ofNat 0), .bool false, .nslc 1 0 1 none, .nslc 2 0 1 none, j (.ofNat 0), .bool false, j (.ofNat 0), j (.ofNat 0), j (.ofNat 0)]],
  [.row [.str [109, 97, 105, 110], j (.ofNat 0), j (.ofNat 0), j (.ofNat 0), .bool false, .nslc 3 0 3 (some 3)] 0 0 true true 1000000000000 41 true true,
    .row [j (.ofNat 0), j (.ofNat 2), .nslc 4 0 0 (some 0), j (.negSucc 0), .bool false] 1 0 true true 1000000000000 205 false true,
    .row [j (.negSucc 0), j (.ofNat 0), j (.ofNat 0), j (.ofNat 0), ns] 2 0 true true 1000000000000 208 false true,
    .row [j (.ofNat 39), j (.ofNat 0), j (.ofNat 0), j (.ofNat 0), ns, j (.ofNat 39), j (.ofNat 0), j (.ofNat 0), j (.ofNat 0), ns, j (.ofNat 39), j (.ofNat 0), j (.ofNat 0), j (.ofNat 0), ns] 3 0 true true 1000000000000 38 true true,
    .row [] 4 0 true true 1000000000000 3 true true],
  .tup [.agg [j (.ofNat 0), j (.ofNat 0), j (.ofNat 0), j (.ofNat 1), j (.ofNat 0), j (.ofNat 0), .bool false, .nslc 5 0 1 (some 1), .nslc 6 0 1 none, j (.ofNat 0), .bool false, j (.ofNat 0), j (.ofNat 0), j (.ofNat 0)], .agg [j (.ofNat 1), j (.ofNat 0), j (.ofNat 0)], j (.ofNat 0)],
  [.row [j (.ofNat 0), j (.ofNat 2), .nslc 7 0 0 (some 0), j (.negSucc 0), .bool false] 0 0 false false 0 205 false false,
    .row [j (.negSucc 0), j (.ofNat 0), j (.ofNat 0), j (.ofNat 0), ns] 0 0 false false 0 208 false false,
    .row [] 0 0 false false 0 3 true false]⟩
def e38_10 : Entry := ⟨38, [.agg [.nslc 0 0 1 (some 1), ns, ns], .agg [j (.ofNat 0), j (.ofNat 3), .nslc 1 0 1 none, .nslc 2 0 1 none, ns, ns, ns, ns]],
  [.row [.str [109, 97, 105, 110], j (.ofNat 0), j (.ofNat 0), j (.ofNat 0), .bool false, .nslc 3 0 3 (some 3)] 0 0 true true 1000000000000 41 true true,
    .row [j (.ofNat 0), j (.ofNat 0), j (.ofNat 0), j (.ofNat 1), j (.ofNat 0), j (.ofNat 0), .bool false, .nslc 4 0 1 none, .nslc 5 0 1 none, j (.ofNat 0), .bool false, j (.ofNat 0), j (.ofNat 0), j (.ofNat 0)] 1 0 true true 1000000000000 121 false true,
    .row [j (.negSucc 0), j (.negSucc 0), j (.ofNat 1), j (.ofNat 0), j (.ofNat 0), j (.negSucc 0), .bool false] 2 0 true true 1000000000000 149 false true,
    .row [j (.ofNat 39), j (.ofNat 0), j (.ofNat 0), j (.ofNat 0), ns, j (.ofNat 39), j (.ofNat 0), j (.ofNat 0), j (.ofNat 0), ns, j (.ofNat 39), j (.ofNat 0), j (.ofNat 0), j (.ofNat 0), ns] 3 0 true true 1000000000000 38 true true,
    .row [j (.ofNat 0), j (.ofNat 3), .nslc 6 0 0 (some 0), j (.negSucc 0), .bool false] 4 0 true true 1000000000000 205 false true,
    .row [j (.negSucc 0), j (.ofNat 0), j (.ofNat 0), j (.ofNat 0), ns] 5 0 true true 1000000000000 208 false true,
    .row [] 6 0 true true 1000000000000 3 true true],
  j (.ofNat 0),
  []⟩
def e114_11 : Entry := ⟨114, [.agg [.nslc 0 0 1 (some 1), ns, ns], .agg [j (.ofNat 0), j (.ofNat 3), .nslc 1 0 1 none, .nslc 2 0 1 none, ns, ns, ns, ns], j (.ofNat 0)],
  [.row [.str [109, 97, 105, 110], j (.ofNat 0), j (.ofNat 0), j (.ofNat 0), .bool false, .nslc 3 0 3 (some 3)] 0 0 true true 1000000000000 41 true true,
    .row [j (.ofNat 0), j (.ofNat 0), j (.ofNat 0), j (.ofNat 1), j (.ofNat 0), j (.ofNat 0), .bool false, .nslc 4 0 1 none, .nslc 5 0 1 none, j (.ofNat 0), .bool false, j (.ofNat 0), j (.ofNat 0), j (.ofNat 0)] 1 0 true true 1000000000000 121 false true,
    .row [j (.negSucc 0), j (.negSucc 0), j (.ofNat 1), j (.ofNat 0), j (.ofNat 0), j (.negSucc 0), .bool false] 2 0 true true 1000000000000 149 false true,
    .row [j (.ofNat 39), j (.ofNat 0), j (.ofNat 0), j (.ofNat 0), ns, j (.ofNat 39), j (.ofNat 0), j (.ofNat 0), j (.ofNat 0), ns, j (.ofNat 39), j (.ofNat 0), j (.ofNat 0), j (.ofNat 0), ns] 3 0 true true 1000000000000 38 true true,
    .row [j (.ofNat 0), j (.ofNat 3), .nslc 6 0 0 (some 0), j (.negSucc 0), .bool false] 4 0 true true 1000000000000 205 false true,
    .row [j (.negSucc 0), j (.ofNat 0), j (.ofNat 0), j (.ofNat 0), ns] 5 0 true true 1000000000000 208 false true,
    .row [] 6 0 true true 1000000000000 3 true true],
  .nslc 7 0 1 (some 1),
  [.row [j (.ofNat 0), j (.ofNat 0)] 0 0 false false 0 48 true false]⟩
def e126_12 : Entry := ⟨126, [.agg [.nslc 0 0 1 (some 1), ns, ns], .agg [j (.ofNat 0), j (.ofNat 0), j (.ofNat 0), j (.ofNat 1), j (.ofNat 0), j (.ofNat 0), .bool false, .nslc 1 0 1 none, .nslc 2 0 1 none, j (.ofNat 0), .bool false, j (.ofNat 0), j (.ofNat 0), j (.ofNat 0)]],
  [.row [.str [109, 97, 105, 110], j (.ofNat 0), j (.ofNat 0), j (.ofNat 0), .bool false, .nslc 3 0 3 (some 3)] 0 0 true true 1000000000000 41 true true,
    .row [j (.ofNat 0), j (.ofNat 3), .nslc 4 0 0 (some 0), j (.negSucc 0), .bool false] 1 0 true true 1000000000000 205 false true,
    .row [j (.negSucc 0), j (.ofNat 0), j (.ofNat 0), j (.ofNat 0), ns] 2 0 true true 1000000000000 208 false true,
    .row [j (.ofNat 39), j (.ofNat 0), j (.ofNat 0), j (.ofNat 0), ns, j (.ofNat 39), j (.ofNat 0), j (.ofNat 0), j (.ofNat 0), ns, j (.ofNat 39), j (.ofNat 0), j (.ofNat 0), j (.ofNat 0), ns] 3 0 true true 1000000000000 38 true true,
    .row [] 4 0 true true 1000000000000 3 true true],
  .tup [.agg [j (.ofNat 0), j (.ofNat 0), j (.ofNat 0), j (.ofNat 1), j (.ofNat 0), j (.ofNat 0), .bool false, .nslc 5 0 1 (some 1), .nslc 6 0 1 none, j (.ofNat 0), .bool false, j (.ofNat 0), j (.ofNat 0), j (.ofNat 0)], .agg [j (.ofNat 2), j (.ofNat 0), j (.ofNat 0)], j (.ofNat 0)],
  [.row [j (.ofNat 0), j (.ofNat 3), .nslc 7 0 0 (some 0), j (.negSucc 0), .bool false] 0 0 false false 0 205 false false,
    .row [j (.negSucc 0), j (.ofNat 0), j (.ofNat 0), j (.ofNat 0), ns] 0 0 false false 0 208 false false,
    .row [] 0 0 false false 0 3 true false]⟩
def e41_13 : Entry := ⟨41, [.str [78, 80, 49, 0, 1, 129, 1, 109, 97, 105, 110, 0, 1, 128, 128, 128, 128, 129, 3, 129, 39, 128, 128, 128, 1, 129, 39, 128, 128, 128, 1, 129, 39, 128, 128, 128, 1, 128, 128]],
  [],
  .tup [.str [129, 39, 78, 80, 49, 0, 1, 129, 1, 109, 97, 105, 110, 0, 1, 128, 128, 128, 128, 129, 3, 129, 39, 128, 128, 128, 1, 129, 39, 128, 128, 128, 1, 129, 39, 128, 128, 128, 1, 128, 128, 7, 255, 13, 160], j (.ofNat 0)],
  []⟩
def e41_14 : Entry := ⟨41, [.str [78, 82, 49, 0, 1, 133, 194, 82, 113, 144, 77, 129, 2, 129, 3]],
  [],
  .tup [.str [129, 15, 78, 82, 49, 0, 1, 133, 194, 82, 113, 144, 77, 129, 2, 129, 3, 46, 195, 5, 81], j (.ofNat 0)],
  []⟩
def e41_15 : Entry := ⟨41, [.str [129, 2, 128, 128, 1, 133, 39, 229, 80, 73, 223]],
  [],
  .tup [.str [129, 11, 129, 2, 128, 128, 1, 133, 39, 229, 80, 73, 223, 31, 26, 5, 26], j (.ofNat 0)],
  []⟩
def e41_16 : Entry := ⟨41, [.str [129, 1, 128, 128, 1]],
  [],
  .tup [.str [129, 5, 129, 1, 128, 128, 1, 8, 182, 2, 10], j (.ofNat 0)],
  []⟩
def L2 : List Entry := [e28_0, e38_1, e114_2, e126_3, e38_4, e114_5, e126_6, e38_7, e114_8, e126_9, e38_10, e114_11, e126_12, e41_13, e41_14, e41_15, e41_16]
def T2 : List Entry := L2 ++ T1
def e72_0 : Entry := ⟨72, [.agg [.nslc 0 0 1 (some 1), ns, ns], .agg [j (.ofNat 0), j (.ofNat 0), .nslc 1 0 1 (some 1), .nslc 2 0 1 none, ns, ns, ns, ns]],
  [.row [.str [109, 97, 105, 110], j (.ofNat 0), j (.ofNat 0), j (.ofNat 0), .bool false, .nslc 3 0 3 (some 3)] 0 0 true true 1000000000000 41 true true,
    .row [j (.ofNat 0), j (.ofNat 0), j (.ofNat 0), j (.ofNat 1), j (.ofNat 0), j (.ofNat 0), .bool false, .nslc 4 0 1 (some 1), .nslc 5 0 1 (some 1), j (.ofNat 0), .bool false, j (.ofNat 0), j (.ofNat 0), j (.ofNat 0)] 1 0 true true 1000000000000 121 true true,
    .row [j (.negSucc 0), j (.negSucc 0), j (.ofNat 1), j (.ofNat 0), j (.ofNat 0), j (.negSucc 0), .bool false] 2 0 true true 1000000000000 149 false true,
    .row [j (.ofNat 39), j (.ofNat 0), j (.ofNat 0), j (.ofNat 0), ns, j (.ofNat 39), j (.ofNat 0), j (.ofNat 0), j (.ofNat 0), ns, j (.ofNat 39), j (.ofNat 0), j (.ofNat 0), j (.ofNat 0), ns] 3 0 true true 1000000000000 38 true true,
    .row [j (.ofNat 0), j (.ofNat 0), .nslc 6 0 0 (some 0), j (.negSucc 0), .bool false] 4 0 true true 1000000000000 205 true true,
    .row [j (.negSucc 0), j (.ofNat 0), j (.ofNat 0), j (.ofNat 0), ns] 5 0 true true 1000000000000 208 true true,
    .row [] 6 0 true true 1000000000000 3 true true],
  .tup [.nslc 7 0 1 none, j (.ofNat 0)],
  [.row [j (.ofNat 0), j (.ofNat 0)] 0 0 false false 0 48 false false]⟩
def e29_1 : Entry := ⟨29, [.agg [.nslc 0 0 1 (some 1), ns, ns], .agg [j (.ofNat 0), j (.ofNat 0), .nslc 1 0 1 (some 1), .nslc 2 0 1 none, ns, ns, ns, ns], .agg [j (.ofNat 0), j (.ofNat 0)]],
  [.row [.str [109, 97, 105, 110], j (.ofNat 0), j (.ofNat 0), j (.ofNat 0), .bool false, .nslc 3 0 3 (some 3)] 0 0 true true 1000000000000 41 true true,
    .row [j (.ofNat 0), j (.ofNat 0), j (.ofNat 0), j (.ofNat 1), j (.ofNat 0), j (.ofNat 0), .bool false, .nslc 4 0 1 (some 1), .nslc 5 0 1 (some 1), j (.ofNat 0), .bool false, j (.ofNat 0), j (.ofNat 0), j (.ofNat 0)] 1 0 true true 1000000000000 121 true true,
    .row [j (.negSucc 0), j (.negSucc 0), j (.ofNat 1), j (.ofNat 0), j (.ofNat 0), j (.negSucc 0), .bool false] 2 0 true true 1000000000000 149 false true,
    .row [j (.ofNat 39), j (.ofNat 0), j (.ofNat 0), j (.ofNat 0), ns, j (.ofNat 39), j (.ofNat 0), j (.ofNat 0), j (.ofNat 0), ns, j (.ofNat 39), j (.ofNat 0), j (.ofNat 0), j (.ofNat 0), ns] 3 0 true true 1000000000000 38 true true,
    .row [j (.ofNat 0), j (.ofNat 0), .nslc 6 0 0 (some 0), j (.negSucc 0), .bool false] 4 0 true true 1000000000000 205 true true,
    .row [j (.negSucc 0), j (.ofNat 0), j (.ofNat 0), j (.ofNat 0), ns] 5 0 true true 1000000000000 208 true true,
    .row [] 6 0 true true 1000000000000 3 true true],
  .tup [.agg [j (.ofNat 0), j (.ofNat 1), .nslc 7 0 1 none, .nslc 8 0 1 none, ns, ns, ns, ns], .nslc 9 0 1 none, j (.ofNat 0)],
  [.row [j (.ofNat 0), j (.ofNat 0), j (.ofNat 0), j (.ofNat 1), j (.ofNat 0), j (.ofNat 0), .bool false, .nslc 10 0 1 none, .nslc 11 0 1 none, j (.ofNat 0), .bool false, j (.ofNat 0), j (.ofNat 0), j (.ofNat 0)] 0 0 false false 0 121 false false,
    .row [j (.negSucc 0), j (.negSucc 0), j (.ofNat 1), j (.ofNat 0), j (.ofNat 0), j (.negSucc 0), .bool false] 0 0 false false 0 149 false false,
    .row [j (.ofNat 1), j (.ofNat 0), j (.ofNat 0), j (.ofNat 39), j (.negSucc 0), j (.negSucc 0), j (.ofNat 0), j (.negSucc 0)] 0 0 false false 0 321 false false,
    .row [j (.ofNat 0), j (.ofNat 1), .nslc 12 0 0 (some 0), j (.negSucc 0), .bool false] 0 0 false false 0 205 false false,
    .row [j (.negSucc 0), j (.ofNat 0), j (.ofNat 0), j (.ofNat 0), ns] 0 0 false false 0 208 false false,
    .row [] 0 0 false false 0 3 true false]⟩
def e72_2 : Entry := ⟨72, [.agg [.nslc 0 0 1 (some 1), ns, ns], .agg [j (.ofNat 0), j (.ofNat 1), .nslc 1 0 1 none, .nslc 2 0 1 none, ns, ns, ns, ns]],
  [.row [.str [109, 97, 105, 110], j (.ofNat 0), j (.ofNat 0), j (.ofNat 0), .bool false, .nslc 3 0 3 (some 3)] 0 0 true true 1000000000000 41 true true,
    .row [j (.ofNat 0), j (.ofNat 0), j (.ofNat 0), j (.ofNat 1), j (.ofNat 0), j (.ofNat 0), .bool false, .nslc 4 0 1 none, .nslc 5 0 1 none, j (.ofNat 0), .bool false, j (.ofNat 0), j (.ofNat 0), j (.ofNat 0)] 1 0 true true 1000000000000 121 false true,
    .row [j (.negSucc 0), j (.negSucc 0), j (.ofNat 1), j (.ofNat 0), j (.ofNat 0), j (.negSucc 0), .bool false] 2 0 true true 1000000000000 149 false true,
    .row [j (.ofNat 39), j (.ofNat 0), j (.ofNat 0), j (.ofNat 0), ns, j (.ofNat 39), j (.ofNat 0), j (.ofNat 0), j (.ofNat 0), ns, j (.ofNat 39), j (.ofNat 0), j (.ofNat 0), j (.ofNat 0), ns] 3 0 true true 1000000000000 38 true true,
    .row [j (.ofNat 0), j (.ofNat 1), .nslc 6 0 0 (some 0), j (.negSucc 0), .bool false] 4 0 true true 1000000000000 205 false true,
    .row [j (.negSucc 0), j (.ofNat 0), j (.ofNat 0), j (.ofNat 0), ns] 5 0 true true 1000000000000 208 false true,
    .row [] 6 0 true true 1000000000000 3 true true],
  .tup [.nslc 7 0 1 none, j (.ofNat 0)],
  [.row [j (.ofNat 0), j (.ofNat 0)] 0 0 false false 0 48 false false]⟩
def e29_3 : Entry := ⟨29, [.agg [.nslc 0 0 1 (some 1), ns, ns], .agg [j (.ofNat 0), j (.ofNat 1), .nslc 1 0 1 none, .nslc 2 0 1 none, ns, ns, ns, ns], .agg [j (.ofNat 0), j (.ofNat 0)]],
  [.row [.str [109, 97, 105, 110], j (.ofNat 0), j (.ofNat 0), j (.ofNat 0), .bool false, .nslc 3 0 3 (some 3)] 0 0 true true 1000000000000 41 true true,
    .row [j (.ofNat 0), j (.ofNat 0), j (.ofNat 0), j (.ofNat 1), j (.ofNat 0), j (.ofNat 0), .bool false, .nslc 4 0 1 none, .nslc 5 0 1 none, j (.ofNat 0), .bool false, j (.ofNat 0), j (.ofNat 0), j (.ofNat 0)] 1 0 true true 1000000000000 121 false true,
    .row [j (.negSucc 0), j (.negSucc 0), j (.ofNat 1), j (.ofNat 0), j (.ofNat 0), j (.negSucc 0), .bool false] 2 0 true true 1000000000000 149 false true,
    .row [j (.ofNat 39), j (.ofNat 0), j (.ofNat 0), j (.ofNat 0), ns, j (.ofNat 39), j (.ofNat 0), j (.ofNat 0), j (.ofNat 0), ns, j (.ofNat 39), j (.ofNat 0), j (.ofNat 0), j (.ofNat 0), ns] 3 0 true true 1000000000000 38 true true,
    .row [j (.ofNat 0), j (.ofNat 1), .nslc 6 0 0 (some 0), j (.negSucc 0), .bool false] 4 0 true true 1000000000000 205 false true,
    .row [j (.negSucc 0), j (.ofNat 0), j (.ofNat 0), j (.ofNat 0), ns] 5 0 true true 1000000000000 208 false true,
    .row [] 6 0 true true 1000000000000 3 true true],
  .tup [.agg [j (.ofNat 0), j (.ofNat 2), .nslc 7 0 1 none, .nslc 8 0 1 none, ns, ns, ns, ns], .nslc 9 0 1 none, j (.ofNat 0)],
  [.row [j (.ofNat 0), j (.ofNat 0), j (.ofNat 0), j (.ofNat 1), j (.ofNat 0), j (.ofNat 0), .bool false, .nslc 10 0 1 none, .nslc 11 0 1 none, j (.ofNat 0), .bool false, j (.ofNat 0), j (.ofNat 0), j (.ofNat 0)] 0 0 false false 0 121 false false,
    .row [j (.negSucc 0), j (.negSucc 0), j (.ofNat 1), j (.ofNat 0), j (.ofNat 0), j (.negSucc 0), .bool false] 0 0 false false 0 149 false false,
    .row [j (.ofNat 2), j (.ofNat 0), j (.ofNat 0), j (.ofNat 39), j (.negSucc 0), j (.negSucc 0), j (.ofNat 0), j (.negSucc 0)] 0 0 false false 0 321 false false,
    .row [j (.ofNat 0), j (.ofNat 2), .nslc 12 0 0 (some 0), j (.negSucc 0), .bool false] 0 0 false false 0 205 false false,
    .row [j (.negSucc 0), j (.ofNat 0), j (.ofNat 0), j (.ofNat 0), ns] 0 0 false false 0 208 false false,
    .row [] 0 0 false false 0 3 true false]⟩
def e72_4 : Entry := ⟨72, [.agg [.nslc 0 0 1 (some 1), ns, ns], .agg [j (.ofNat 0), j (.ofNat 2), .nslc 1 0 1 none, .nslc 2 0 1 none, ns, ns, ns, ns]],
  [.row [.str [109, 97, 105, 110], j (.ofNat 0), j (.ofNat 0), j (.ofNat 0), .bool false, .nslc 3 0 3 (some 3)] 0 0 true true 1000000000000 41 true true,
    .row [j (.ofNat 0), j (.ofNat 0), j (.ofNat 0), j (.ofNat 1), j (.ofNat 0), j (.ofNat 0), .bool false, .nslc 4 0 1 none, .nslc 5 0 1 none, j (.ofNat 0), .bool false, j (.ofNat 0), j (.ofNat 0), j (.ofNat 0)] 1 0 true true 1000000000000 121 false true,
    .row [j (.negSucc 0), j (.negSucc 0), j (.ofNat 1), j (.ofNat 0), j (.ofNat 0), j (.negSucc 0), .bool false] 2 0 true true 1000000000000 149 false true,
    .row [j (.ofNat 39), j (.ofNat 0), j (.ofNat 0), j (.ofNat 0), ns, j (.ofNat 39), j (.ofNat 0), j (.ofNat 0), j (.ofNat 0), ns, j (.ofNat 39), j (.ofNat 0), j (.ofNat 0), j (.ofNat 0), ns] 3 0 true true 1000000000000 38 true true,
    .row [j (.ofNat 0), j (.ofNat 2), .nslc 6 0 0 (some 0), j (.negSucc 0), .bool false] 4 0 true true 1000000000000 205 false true,
    .row [j (.negSucc 0), j (.ofNat 0), j (.ofNat 0), j (.ofNat 0), ns] 5 0 true true 1000000000000 208 false true,
    .row [] 6 0 true true 1000000000000 3 true true],
  .tup [.nslc 7 0 1 none, j (.ofNat 0)],
  [.row [j (.ofNat 0), j (.ofNat 0)] 0 0 false false 0 48 false false]⟩
def e29_5 : Entry := ⟨29, [.agg [.nslc 0 0 1 (some 1), ns, ns], .agg [j (.ofNat 0), j (.ofNat 2), .nslc 1 0 1 none, .nslc 2 0 1 none, ns, ns, ns, ns], .agg [j (.ofNat 0), j (.ofNat 0)]],
  [.row [.str [109, 97, 105, 110], j (.ofNat 0), j (.ofNat 0), j (.ofNat 0), .bool false, .nslc 3 0 3 (some 3)] 0 0 true true 1000000000000 41 true true,
    .row [j (.ofNat 0), j (.ofNat 0), j (.ofNat 0), j (.ofNat 1), j (.ofNat 0), j (.ofNat 0), .bool false, .nslc 4 0 1 none, .nslc 5 0 1 none, j (.ofNat 0), .bool false, j (.ofNat 0), j (.ofNat 0), j (.ofNat 0)] 1 0 true true 1000000000000 121 false true,
    .row [j (.negSucc 0), j (.negSucc 0), j (.ofNat 1), j (.ofNat 0), j (.ofNat 0), j (.negSucc 0), .bool false] 2 0 true true 1000000000000 149 false true,
    .row [j (.ofNat 39), j (.ofNat 0), j (.ofNat 0), j (.ofNat 0), ns, j (.ofNat 39), j (.ofNat 0), j (.ofNat 0), j (.ofNat 0), ns, j (.ofNat 39), j (.ofNat 0), j (.ofNat 0), j (.ofNat 0), ns] 3 0 true true 1000000000000 38 true true,
    .row [j (.ofNat 0), j (.ofNat 2), .nslc 6 0 0 (some 0), j (.negSucc 0), .bool false] 4 0 true true 1000000000000 205 false true,
    .row [j (.negSucc 0), j (.ofNat 0), j (.ofNat 0), j (.ofNat 0), ns] 5 0 true true 1000000000000 208 false true,
    .row [] 6 0 true true 1000000000000 3 true true],
  .tup [.agg [j (.ofNat 0), j (.ofNat 3), .nslc 7 0 1 none, .nslc 8 0 1 none, ns, ns, ns, ns], .nslc 9 0 1 none, j (.ofNat 0)],
  [.row [j (.ofNat 0), j (.ofNat 0), j (.ofNat 0), j (.ofNat 1), j (.ofNat 0), j (.ofNat 0), .bool false, .nslc 10 0 1 none, .nslc 11 0 1 none, j (.ofNat 0), .bool false, j (.ofNat 0), j (.ofNat 0), j (.ofNat 0)] 0 0 false false 0 121 false false,
    .row [j (.negSucc 0), j (.negSucc 0), j (.ofNat 1), j (.ofNat 0), j (.ofNat 0), j (.negSucc 0), .bool false] 0 0 false false 0 149 false false,
    .row [j (.ofNat 3), j (.ofNat 0), j (.ofNat 0), j (.ofNat 39), j (.negSucc 0), j (.negSucc 0), j (.ofNat 0), j (.negSucc 0)] 0 0 false false 0 321 false false,
    .row [j (.ofNat 0), j (.ofNat 3), .nslc 12 0 0 (some 0), j (.negSucc 0), .bool false] 0 0 false false 0 205 false false,
    .row [j (.negSucc 0), j (.ofNat 0), j (.ofNat 0), j (.ofNat 0), ns] 0 0 false false 0 208 false false,
    .row [] 0 0 false false 0 3 true false]⟩
def e72_6 : Entry := ⟨72, [.agg [.nslc 0 0 1 (some 1), ns, ns], .agg [j (.ofNat 0), j (.ofNat 3), .nslc 1 0 1 none, .nslc 2 0 1 none, ns, ns, ns, ns]],
  [.row [.str [109, 97, 105, 110], j (.ofNat 0), j (.ofNat 0), j (.ofNat 0), .bool false, .nslc 3 0 3 (some 3)] 0 0 true true 1000000000000 41 true true,
    .row [j (.ofNat 0), j (.ofNat 0), j (.ofNat 0), j (.ofNat 1), j (.ofNat 0), j (.ofNat 0), .bool false, .nslc 4 0 1 none, .nslc 5 0 1 none, j (.ofNat 0), .bool false, j (.ofNat 0), j (.ofNat 0), j (.ofNat 0)] 1 0 true true 1000000000000 121 false true,
    .row [j (.negSucc 0), j (.negSucc 0), j (.ofNat 1), j (.ofNat 0), j (.ofNat 0), j (.negSucc 0), .bool false] 2 0 true true 1000000000000 149 false true,
    .row [j (.ofNat 39), j (.ofNat 0), j (.ofNat 0), j (.ofNat 0), ns, j (.ofNat 39), j (.ofNat 0), j (.ofNat 0), j (.ofNat 0), ns, j (.ofNat 39), j (.ofNat 0), j (.ofNat 0), j (.ofNat 0), ns] 3 0 true true 1000000000000 38 true true,
    .row [j (.ofNat 0), j (.ofNat 3), .nslc 6 0 0 (some 0), j (.negSucc 0), .bool false] 4 0 true true 1000000000000 205 false true,
    .row [j (.negSucc 0), j (.ofNat 0), j (.ofNat 0), j (.ofNat 0), ns] 5 0 true true 1000000000000 208 false true,
    .row [] 6 0 true true 1000000000000 3 true true],
  .tup [.nslc 7 0 1 none, j (.ofNat 0)],
  [.row [j (.ofNat 0), j (.ofNat 0)] 0 0 false false 0 48 false false]⟩
def e31_7 : Entry := ⟨31, [.agg [j (.ofNat 0), j (.ofNat 2), .nslc 0 0 1 none, .nslc 1 0 1 none, ns, ns, ns, ns]],
  [.row [j (.ofNat 0), j (.ofNat 0), j (.ofNat 0), j (.ofNat 1), j (.ofNat 0), j (.ofNat 0), .bool false, .nslc 2 0 1 none, .nslc 3 0 1 none, j (.ofNat 0), .bool false, j (.ofNat 0), j (.ofNat 0), j (.ofNat 0)] 0 0 true true 1000000000000 121 false true,
    .row [j (.negSucc 0), j (.negSucc 0), j (.ofNat 1), j (.ofNat 0), j (.ofNat 0), j (.negSucc 0), .bool false] 1 0 true true 1000000000000 149 false true,
    .row [j (.ofNat 0), j (.ofNat 2), .nslc 4 0 0 (some 0), j (.negSucc 0), .bool false] 2 0 true true 1000000000000 205 false true,
    .row [j (.negSucc 0), j (.ofNat 0), j (.ofNat 0), j (.ofNat 0), ns] 3 0 true true 1000000000000 208 false true,
    .row [] 4 0 true true 1000000000000 3 true true],
  .str [128, 129, 1, 128, 128, 128, 129, 1, 128, 128, 128, 129, 1, 128, 129, 2, 1, 127, 128, 129, 1, 127, 128, 128, 128, 128, 128, 128, 128, 128, 128, 129, 1, 127, 127, 129, 1, 128, 128, 127, 128, 128, 1, 128, 1],
  []⟩
def e12_8 : Entry := ⟨12, [.str [129, 15, 78, 82, 49, 0, 1, 133, 194, 82, 113, 144, 77, 129, 2, 129, 3, 46, 195, 5, 81, 129, 11, 129, 2, 128, 128, 1, 133, 39, 229, 80, 73, 223, 31, 26, 5, 26, 129, 5, 129, 1, 128, 128, 1, 8, 182, 2, 10]],
  [],
  .tup [.str [78, 82, 49, 0, 1, 133, 194, 82, 113, 144, 77, 129, 2, 129, 3], j (.ofNat 21), j (.ofNat 0)],
  []⟩
def e12_9 : Entry := ⟨12, [.str [129, 11, 129, 2, 128, 128, 1, 133, 39, 229, 80, 73, 223, 31, 26, 5, 26, 129, 5, 129, 1, 128, 128, 1, 8, 182, 2, 10]],
  [],
  .tup [.str [129, 2, 128, 128, 1, 133, 39, 229, 80, 73, 223], j (.ofNat 17), j (.ofNat 0)],
  []⟩
def e12_10 : Entry := ⟨12, [.str [129, 5, 129, 1, 128, 128, 1, 8, 182, 2, 10]],
  [],
  .tup [.str [129, 1, 128, 128, 1], j (.ofNat 11), j (.ofNat 0)],
  []⟩
def L3 : List Entry := [e72_0, e29_1, e72_2, e29_3, e72_4, e29_5, e72_6, e31_7, e12_8, e12_9, e12_10]
def T3 : List Entry := L3 ++ T2
def e11_0 : Entry := ⟨11, [.agg [.nslc 0 0 1 (some 1), ns, ns], .nslc 1 0 3 (some 3)],
  [.row [.str [109, 97, 105, 110], j (.ofNat 0), j (.ofNat 0), j (.ofNat 0), .bool false, .nslc 2 0 3 (some 3)] 0 0 true true 1000000000000 41 true true,
    .row [j (.ofNat 0), j (.ofNat 0), j (.ofNat 0), j (.ofNat 0), j (.ofNat 0), j (.ofNat 0)] 1 0 true true 1000000000000 48 true true,
    .row [j (.ofNat 39), j (.ofNat 0), j (.ofNat 0), j (.ofNat 0), ns, j (.ofNat 39), j (.ofNat 0), j (.ofNat 0), j (.ofNat 0), ns, j (.ofNat 39), j (.ofNat 0), j (.ofNat 0), j (.ofNat 0), ns] 2 0 true true 1000000000000 38 true true],
  .tup [.agg [j (.ofNat 0), j (.ofNat 3), .nslc 3 0 1 none, .nslc 4 0 1 none, ns, ns, ns, ns], .nslc 5 0 3 none, j (.ofNat 3), j (.ofNat 0)],
  [.row [j (.ofNat 0), j (.ofNat 0), j (.ofNat 0), j (.ofNat 1), j (.ofNat 0), j (.ofNat 0), .bool false, .nslc 6 0 1 none, .nslc 7 0 1 none, j (.ofNat 0), .bool false, j (.ofNat 0), j (.ofNat 0), j (.ofNat 0)] 0 0 false false 0 121 false false,
    .row [j (.negSucc 0), j (.negSucc 0), j (.ofNat 1), j (.ofNat 0), j (.ofNat 0), j (.negSucc 0), .bool false] 0 0 false false 0 149 false false,
    .row [j (.ofNat 1), j (.ofNat 0), j (.ofNat 0), j (.ofNat 39), j (.negSucc 0), j (.negSucc 0), j (.ofNat 0), j (.negSucc 0), j (.ofNat 2), j (.ofNat 0), j (.ofNat 0), j (.ofNat 39), j (.negSucc 0), j (.negSucc 0), j (.ofNat 0), j (.negSucc 0), j (.ofNat 3), j (.ofNat 0), j (.ofNat 0), j (.ofNat 39), j (.negSucc 0), j (.negSucc 0), j (.ofNat 0), j (.negSucc 0)] 0 0 false false 0 321 false false,
    .row [j (.ofNat 0), j (.ofNat 3), .nslc 8 0 0 (some 0), j (.negSucc 0), .bool false] 0 0 false false 0 205 false false,
    .row [j (.negSucc 0), j (.ofNat 0), j (.ofNat 0), j (.ofNat 0), ns] 0 0 false false 0 208 false false,
    .row [] 0 0 false false 0 3 true false]⟩
def e6_1 : Entry := ⟨6, [.agg [j (.ofNat 834606829645), j (.ofNat 2), .nslc 0 0 3 none, .nslc 1 0 1 none]],
  [.row [j (.ofNat 0), j (.ofNat 0), j (.ofNat 0), j (.ofNat 0), j (.ofNat 0), j (.ofNat 0)] 0 0 true true 1000000000000 48 false true,
    .row [j (.ofNat 171350968799)] 1 0 true true 1000000000000 3 false true],
  .tup [.str [129, 15, 78, 82, 49, 0, 1, 133, 194, 82, 113, 144, 77, 129, 2, 129, 3, 46, 195, 5, 81, 129, 11, 129, 2, 128, 128, 1, 133, 39, 229, 80, 73, 223, 31, 26, 5, 26, 129, 5, 129, 1, 128, 128, 1, 8, 182, 2, 10], j (.ofNat 0)],
  []⟩
def e11_2 : Entry := ⟨11, [.agg [.nslc 0 0 1 (some 1), ns, ns], .nslc 1 0 2 (some 3)],
  [.row [.str [109, 97, 105, 110], j (.ofNat 0), j (.ofNat 0), j (.ofNat 0), .bool false, .nslc 2 0 3 (some 3)] 0 0 true true 1000000000000 41 true true,
    .row [j (.ofNat 0), j (.ofNat 0), j (.ofNat 0), j (.ofNat 0), j (.ofNat 0), j (.ofNat 0)] 1 0 true true 1000000000000 48 true true,
    .row [j (.ofNat 39), j (.ofNat 0), j (.ofNat 0), j (.ofNat 0), ns, j (.ofNat 39), j (.ofNat 0), j (.ofNat 0), j (.ofNat 0), ns, j (.ofNat 39), j (.ofNat 0), j (.ofNat 0), j (.ofNat 0), ns] 2 0 true true 1000000000000 38 true true],
  .tup [.agg [j (.ofNat 0), j (.ofNat 2), .nslc 3 0 1 none, .nslc 4 0 1 none, ns, ns, ns, ns], .nslc 5 0 2 none, j (.ofNat 2), j (.ofNat 0)],
  [.row [j (.ofNat 0), j (.ofNat 0), j (.ofNat 0), j (.ofNat 1), j (.ofNat 0), j (.ofNat 0), .bool false, .nslc 6 0 1 none, .nslc 7 0 1 none, j (.ofNat 0), .bool false, j (.ofNat 0), j (.ofNat 0), j (.ofNat 0)] 0 0 false false 0 121 false false,
    .row [j (.negSucc 0), j (.negSucc 0), j (.ofNat 1), j (.ofNat 0), j (.ofNat 0), j (.negSucc 0), .bool false] 0 0 false false 0 149 false false,
    .row [j (.ofNat 1), j (.ofNat 0), j (.ofNat 0), j (.ofNat 39), j (.negSucc 0), j (.negSucc 0), j (.ofNat 0), j (.negSucc 0), j (.ofNat 2), j (.ofNat 0), j (.ofNat 0), j (.ofNat 39), j (.negSucc 0), j (.negSucc 0), j (.ofNat 0), j (.negSucc 0)] 0 0 false false 0 321 false false,
    .row [j (.ofNat 0), j (.ofNat 2), .nslc 8 0 0 (some 0), j (.negSucc 0), .bool false] 0 0 false false 0 205 false false,
    .row [j (.negSucc 0), j (.ofNat 0), j (.ofNat 0), j (.ofNat 0), ns] 0 0 false false 0 208 false false,
    .row [] 0 0 false false 0 3 true false]⟩
def e13_3 : Entry := ⟨13, [.agg [.nslc 0 0 1 (some 1), ns, ns], .agg [j (.ofNat 0), j (.ofNat 2), .nslc 1 0 1 none, .nslc 2 0 1 none, ns, ns, ns, ns]],
  [.row [.str [109, 97, 105, 110], j (.ofNat 0), j (.ofNat 0), j (.ofNat 0), .bool false, .nslc 3 0 3 (some 3)] 0 0 true true 1000000000000 41 true true,
    .row [j (.ofNat 0), j (.ofNat 0), j (.ofNat 0), j (.ofNat 1), j (.ofNat 0), j (.ofNat 0), .bool false, .nslc 4 0 1 none, .nslc 5 0 1 none, j (.ofNat 0), .bool false, j (.ofNat 0), j (.ofNat 0), j (.ofNat 0)] 1 0 true true 1000000000000 121 false true,
    .row [j (.negSucc 0), j (.negSucc 0), j (.ofNat 1), j (.ofNat 0), j (.ofNat 0), j (.negSucc 0), .bool false] 2 0 true true 1000000000000 149 false true,
    .row [j (.ofNat 39), j (.ofNat 0), j (.ofNat 0), j (.ofNat 0), ns, j (.ofNat 39), j (.ofNat 0), j (.ofNat 0), j (.ofNat 0), ns, j (.ofNat 39), j (.ofNat 0), j (.ofNat 0), j (.ofNat 0), ns] 3 0 true true 1000000000000 38 true true,
    .row [j (.ofNat 0), j (.ofNat 2), .nslc 6 0 0 (some 0), j (.negSucc 0), .bool false] 4 0 true true 1000000000000 205 false true,
    .row [j (.negSucc 0), j (.ofNat 0), j (.ofNat 0), j (.ofNat 0), ns] 5 0 true true 1000000000000 208 false true,
    .row [] 6 0 true true 1000000000000 3 true true],
  j (.ofNat 171350968799),
  []⟩
def L4 : List Entry := [e11_0, e6_1, e11_2, e13_3]
def T4 : List Entry := L4 ++ T3
end Go.Proofs.Aw

set_option maxRecDepth 100000
namespace Go.Proofs.Aw
open Go Go.Ev
/-- How often a byte stands in a text. -/
def countF : List UInt8 → Nat → Nat → Nat
  | [], _, n => n
  | b :: l, c, n => countF l c (match Nat.beq b.toNat c with | true => n + 1 | false => n)
def extF (f : FuncId) (args : List AV) : Option AV :=
  match Nat.beq f 150, args with
  | true, [x] => some x
  | _, [.str s, .int .u8 (.ofNat c)] => match Nat.beq f 280 && Nat.blt c 256 with
    | true => some (.int .i64 (Int.ofNat (countF s c 0)))
    | false => none
  | _, _ => none
/-- The context of the runs. -/
noncomputable def CX (old : Nat → Nat → Option AV) : Ctx := { P := Tryz.prog, old, ext := extF }
theorem countF_eq {c : Nat} (hc : c < 256) : ∀ (l : List UInt8) (n : Nat), countF l c n = n + Lib.countByte l c.toUInt8
  | [], n => by simp [countF, Lib.countByte]
  | b :: l, n => by
    have e : (Nat.beq b.toNat c = true) ↔ b = c.toUInt8 := by
      rw [Nat.beq_eq]
      constructor
      · intro h
        subst h
        simp
      · intro h
        subst h
        simp [Nat.mod_eq_of_lt hc]
    rw [countF, countF_eq hc l]
    by_cases hb : b = c.toUInt8
    · rw [e.2 hb]; simp [Lib.countByte, hb]; try omega
    · have : Nat.beq b.toNat c = false := by
        cases hh : Nat.beq b.toNat c with
        | false => rfl
        | true => exact absurd (e.1 hh) hb
      rw [this]; simp [Lib.countByte, hb]
theorem name_all : (Tryz.prog.funcs.all fun fn => !(fn.body.isSome && fn.name == "runtime.NumGoroutine")) = true := by kernel_rfl
theorem fit_CX (old : Nat → Nat → Option AV) : Fit (CX old) where
  mix := by
    show Tryz.prog.follows .mixedOrders = true
    kernel_rfl
  good := {
    num := fun f fn c hf hb hn => by
      have h := name_all
      rw [Array.all_eq_true_iff_forall_mem] at h
      have hm : fn ∈ Tryz.prog.funcs := Array.mem_of_getElem? hf
      have := h fn hm
      rw [hb, hn] at this
      simp at this
    ext := fun f fn args v hf hb he N ρ H w h ha => by
      simp only [CX, extF] at he
      split at he
      · rename_i x hbeq
        cases he
        have hf' : f = 150 := by simpa [Nat.beq_eq] using hbeq
        subst hf'
        have hfn : Tryz.prog.funcs[150]? = some (Tryz.prog.funcs[150]?.get (by kernel_rfl)) := by simp
        refine ⟨?_, ha _ (by simp)⟩
        show (callFunc 150 _).run Tryz.prog w = _
        rw [run_callFunc_extern hfn (by kernel_rfl) (by kernel_rfl) (by kernel_rfl) (e := Extern.AbiNoEscape.same) (by kernel_rfl)]
        rfl
      · rename_i s c
        split at he
        · rename_i hh
          cases he
          simp only [Bool.and_eq_true, Nat.beq_eq, Nat.blt_eq] at hh
          obtain ⟨hf', hc⟩ := hh
          subst hf'
          have hfn : Tryz.prog.funcs[280]? = some (Tryz.prog.funcs[280]?.get (by kernel_rfl)) := by simp
          refine ⟨?_, by simp [AV.Ok]⟩
          show (callFunc 280 _).run Tryz.prog w = _
          rw [run_callFunc_extern hfn (by kernel_rfl) (by kernel_rfl) (by kernel_rfl) (e := Extern.BytealgCount.count) (by kernel_rfl)]
          have : clos ρ [AV.str s, AV.int .u8 (.ofNat c)] = #[.string ⟨s.toArray⟩, .int .u8 (Int.ofNat c)] := by simp [clos, AV.conc]
          rw [this, Lib.run_countString]
          simp [AV.conc, countF_eq hc]
        · cases he
      · cases he }
end Go.Proofs.Aw

set_option maxRecDepth 100000
namespace Go.Proofs.Aw
open Go Go.Ev
theorem ok_e26_0 (old : Nat → Nat → Option AV) : EntryOk (CX old) e26_0 := entry_ok (fit_CX old) TabOk.nil 100000 100 (by kernel_rfl)
theorem ok_T1 (old : Nat → Nat → Option AV) : TabOk (CX old) T1 := .cons (ok_e26_0 old) <| TabOk.nil
end Go.Proofs.Aw
